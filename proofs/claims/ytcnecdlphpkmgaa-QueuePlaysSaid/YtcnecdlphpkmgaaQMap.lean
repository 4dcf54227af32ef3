/- The set of items that a queue keeps: a map keyed by a struct of two ints, read as a list. No condition beyond numbers being numbers of 64 bits. -/
import Derived.Test.YtcnecdlphpkmgaaChecked
import Derived.Maps.OwnSet
import Derived.WideKeyEntry
import Derived.DeepKeys4
import Derived.WalkKit
namespace Go.Proofs.Ytcnecdlphpkmgaa.Q
open Go.Maps Go.MapKept Go.ChangeMaps Go.WideShapes
set_option linter.unusedVariables false

theorem laidOut : laidOutB Try.prog = true := by kernel_rfl
theorem klaw : WideMaps.KeyLaw Try.prog 31 := deep_law_laid laidOut (m := 2) (by decide) (of_decide_eq_true (by kernel_rfl)) (by kernel_rfl) (by kernel_rfl)
theorem keyed : Keyed Try.prog 31 := Keyed.of_law klaw
theorem cells31 : Try.prog.cellsOf 31 = 2 := by kernel_rfl
theorem cells2 : Try.prog.cellsOf 2 = 1 := by kernel_rfl
theorem cells3 : Try.prog.cellsOf 3 = 1 := by kernel_rfl
theorem ktype31 : Try.prog.keyType 31 = true := by kernel_rfl
theorem zeroB (w : World) : (zeroValue 4).run Try.prog w = .ok (.bool false) w := by kernel_rfl

/-- An item: its run, its node. -/
abbrev Item := Int × Int
def wfI (x : Item) : Prop := (Lit.int .i64 x.1).wf = true ∧ (Lit.int .i64 x.2).wf = true
def encI (x : Item) : Value := .agg #[.int .i64 x.1, .int .i64 x.2]
def kl (x : Item) : Lit := .string (keyBytes [.int .i64 x.1, .int .i64 x.2])
theorem keyI (x : Item) (h : wfI x) : keyOf Try.prog 31 (encI x) = some (kl x) := by
  unfold keyOf encI kl
  simp only [Try.underlying31]
  rw [if_pos (by simp [ktype31, Value.formed, Try.underlying31, cells31])]
  obtain ⟨m, hm⟩ : ∃ m, Try.prog.types.size = m + 1 := ⟨Try.prog.types.size - 1, by
    have : 0 < Try.prog.types.size := of_decide_eq_true (by kernel_rfl)
    omega⟩
  rw [hm]
  unfold Program.keyLits
  simp only [Try.underlying31, Value.cells]
  rw [if_pos (by simp [cells31])]
  simp [cells2, cells3, Program.keyLits, Try.underlying2, Try.underlying3, h.1, h.2]
theorem kl_inj {x y : Item} (hx : wfI x) (hy : wfI y) (h : kl x = kl y) : x = y := by
  have := klaw.inj (keyI x hx) (by rw [h]; exact keyI y hy)
  unfold encI at this
  simp at this
  exact Prod.ext this.1 this.2
theorem kl_key (x : Item) (h : wfI x) : WideAt.IsKeyLit (kl x) := keyed.key (keyI x h)

/-- Block b is the set of the items xs. -/
def SetOf (W : World) (b n : Nat) (xs : List Item) : Prop := ∃ D : DataW Unit, W.ownsMap Try.prog 31 (plainElem Try.prog 4) b n D ∧ ∀ x, wfI x → D.atKey (kl x) (.lit (.bool false)) = .lit (.bool (xs.contains x))
theorem SetOf.made (W : World) : SetOf (W.alloc (.map #[] 0)) W.heap.size 0 [] := ⟨.map [], World.ownsMap_made _ _ _ _, fun x _ => rfl⟩
theorem SetOf.kept {W W' : World} {row : Option Nat} {b n : Nat} {xs : List Item} (h : SetOf W b n xs) (hg : W.grownBy W' row) (hne : some b ≠ row) : SetOf W' b n xs := by
  obtain ⟨D, h1, h2⟩ := h; exact ⟨D, h1.kept hg hne, h2⟩
theorem SetOf.mono {W : World} {b n n' : Nat} {xs : List Item} (h : SetOf W b n xs) (hn : n ≤ n') : SetOf W b n' xs := by
  obtain ⟨D, h1, h2⟩ := h; exact ⟨D, h1.mono hn, h2⟩
theorem SetOf.lt {W : World} {b n : Nat} {xs : List Item} (h : SetOf W b n xs) : b < W.heap.size := by obtain ⟨D, h1, h2⟩ := h; exact h1.lt
theorem plainElem_bool_inv {v : Value} {z : DataW Unit × List MemPlace} (h : plainElem Try.prog 4 v = some z) : ∃ c, v = .bool c ∧ z = (.lit (.bool c), []) := by
  unfold plainElem at h
  rw [Try.underlying4] at h
  cases v <;> simp at h
  exact ⟨_, rfl, h.symm⟩
/-- 'has[x]'. -/
theorem SetOf.look {W : World} {b n : Nat} {xs : List Item} (h : SetOf W b n xs) {x : Item} (hx : wfI x) : (Instr.lookup 56 (.map (some b)) (encI x) false).run Try.prog W = .ok (.bool (xs.contains x)) W := by
  obtain ⟨D, h1, h2⟩ := h
  obtain ⟨v, ps, hrun, hv⟩ := h1.lookup keyed Try.underlying56 (zeroB _) (plainElem_bool Try.underlying4 false) (keyI x hx)
  obtain ⟨c, rfl, hc⟩ := plainElem_bool_inv hv
  rw [h2 x hx] at hc
  simp at hc
  rw [hrun, ← hc.1]
  simp
/-- 'delete(has, x)'. -/
theorem SetOf.drop {W : World} {b n : Nat} {xs : List Item} (h : SetOf W b n xs) {x : Item} (hx : wfI x) (ty : TypeId) :
    ∃ W', (Builtin.delete_ #[56, 31] ty #[.map (some b), encI x]).run Try.prog W = .ok (.tuple #[]) W' ∧ SetOf W' b n (xs.filter (fun y => y != x)) ∧ W.grownBy W' (some b) := by
  obtain ⟨D, h1, h2⟩ := h
  obtain ⟨W', hrun, hown, hturn⟩ := h1.drop keyed Try.underlying56 (keyI x hx) ty
  refine ⟨W', hrun, ⟨_, hown, fun y hy => ?_⟩, hturn.grown⟩
  by_cases e : y = x
  · subst e
    rw [atKey_del_same]
    simp
  · rw [atKey_del_other (fun he => e (kl_inj hy hx he)), h2 y hy]
    congr 2
    rw [Bool.eq_iff_iff]
    simp [e]
/-- 'has[x] = true', as the entry and the store behind it. -/
theorem SetOf.put {W : World} {b n : Nat} {xs : List Item} (h : SetOf W b n xs) (hn : n < maxLen) {x : Item} (hx : wfI x) :
    ∃ (v0 : Value) (st : Nat) (o : Obj), (Instr.mapEntry 56 (.map (some b)) (encI x)).run Try.prog W = .ok (.tuple #[v0, goInt st]) (setBlock W b o) ∧
      ∀ W2 : World, W2.heap[b]? = some o → ∃ W3, (Instr.entryStore 56 (.map (some b)) (goInt st) (.bool true)).run Try.prog W2 = .ok () W3 ∧ SetOf W3 b (n + 1) (xs ++ [x]) ∧ W2.grownBy W3 (some b) := by
  obtain ⟨D, h1, h2⟩ := h
  obtain ⟨es, clock, hb, F, hs, hD⟩ := id h1
  obtain ⟨v0, st, es1, clock1, hrun, _, hst⟩ := WideElems.entry_then_store klaw Try.underlying56 (fun u => zeroB u) hb F (keyI x hx)
  refine ⟨v0, st, .map es1 clock1, hrun, fun W2 hW2 => ?_⟩
  obtain ⟨es', clock', hrun2, hup⟩ := hst W2 (.bool true) hW2
  obtain ⟨w', hrun3, hown, _⟩ := h1.update keyed Try.underlying56 hn (keyI x hx) (plainElem_bool Try.underlying4 true)
  have hw' : w' = setBlock W b (.map es' clock') := by rw [hup] at hrun3; simpa using hrun3.symm
  refine ⟨_, hrun2, ⟨D.put (kl x) (.lit (.bool true)), ?_, fun y hy => ?_⟩, ⟨rfl, rfl, rfl, by simp [setBlock], fun i _ hi => heap_setBlock_other hW2 _ (fun e => hi (by rw [e]))⟩⟩
  · subst hw'
    obtain ⟨e2, c2, hb2, r⟩ := hown
    refine ⟨e2, c2, ?_, r⟩
    rw [heap_setBlock_same hb] at hb2
    rw [heap_setBlock_same hW2]
    exact hb2
  · by_cases e : y = x
    · subst e
      rw [atKey_put_same h1.isMap (kl_key _ hy)]
      simp
    · rw [atKey_put_other (fun he => e (kl_inj hy hx he)), h2 y hy]
      congr 2
      rw [Bool.eq_iff_iff]
      simp [e]
end Go.Proofs.Ytcnecdlphpkmgaa.Q
