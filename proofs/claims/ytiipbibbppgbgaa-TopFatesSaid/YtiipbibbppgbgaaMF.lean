/- TopFates: for every flow's nodes, every row of bools and every row of picks the law returns true, and its arguments read afterwards as before. No conditions. -/
import Derived.Test.YtiipbibbppgbgaaRows
import Derived.Test.YtiipbibbppgbgaaME
import Derived.Deep.SlicePairs
import Derived.Lib.SmallJoins
import Derived.WalkKit
import Derived.ProofKit
import Derived.OpenShut
import Derived.ShutString
import Derived.ChangeOld
import Derived.Below
import Derived.SizedLaws
namespace Go.Proofs.Ytiipbibbppgbgaa.mineTopFates
open Go.ChangeShapes Go.WideShapes Go.ChangeAt Go.RowKit Go.Proofs.Ytiipbibbppgbgaa.T Go.Proofs.Ytiipbibbppgbgaa.PTopFates Go.Proofs.YtiipbibbppgbgaaW.PrintWords
set_option linter.unusedVariables false
theorem own : ownKnob Try.prog.godebug = none := by kernel_rfl
theorem laidOut : laidOutB Try.prog = true := by kernel_rfl
theorem cells50 : Try.prog.cellsOf 50 = 4 := by kernel_rfl
theorem cells48 : Try.prog.cellsOf 48 = 1 := by kernel_rfl
theorem cells4 : Try.prog.cellsOf 4 = 1 := by kernel_rfl
theorem cells3 : Try.prog.cellsOf 3 = 1 := by kernel_rfl
theorem cells2 : Try.prog.cellsOf 2 = 1 := by kernel_rfl
theorem list4 {α : Type} (l : List α) (h : l.length = 4) : ∃ a b c d, l = [a, b, c, d] := by
  match l, h with
  | [a, b, c, d], _ => exact ⟨a, b, c, d, rfl⟩
/-- A slice opened as a row of its kind. -/
theorem open_kind {α : Type} [Inhabited α] (k : Kd α) {t e : TypeId} (ht : Try.prog.underlying t = some (.slice e)) (hsz : Try.prog.cellsOf e = k.sz) {H : Type} {enc : TypeId × Value → H} {W : World} {b0 : Nat} {spare : Nat → Bool} {held : Bool} {A : Option Addr} {len cap : Nat} {d : DataW H} {p : List MemPlace}
    (hel : ∀ (cs : List Value) (n : Nat) (D : DataW H × List MemPlace), cs.length = k.sz → DataW.trod enc Try.prog W b0 spare held n e cs = some D → ∃ x, k.K W x cs)
    (h : DataW.Trod enc Try.prog W b0 spare held t (.slice A len cap) d p) : ∃ xs : List α, xs.length = len ∧ Kd.C k W A len xs ∧ len ≤ cap := by
  obtain ⟨fuel, hf⟩ := h
  rcases Go.Deep.open_slice ht hf with ⟨hcs, _⟩ | ⟨a, l, c, m, n, D, Pl, hcs, _, hl, hm, hmm, _, hel2⟩
  · simp [Value.cells] at hcs
    obtain ⟨rfl, rfl, rfl⟩ := hcs
    exact ⟨[], rfl, ⟨rfl, by omega, fun h => by omega⟩, Nat.le_refl _⟩
  · simp [Value.cells] at hcs
    obtain ⟨rfl, rfl, rfl⟩ := hcs
    have hlm : len ≤ m := by rw [hmm]; split <;> omega
    have each : ∀ i, i < m → ∃ x : α × List Value, x.2.length = k.sz ∧ k.K W x.1 x.2 ∧ ∀ j u, x.2[j]? = some u → W.cell? ((a.add (i * k.sz)).add j) = some u := fun i hi => by
      obtain ⟨cs', h1, h2⟩ := hel2 i hi
      rw [hsz] at h1
      obtain ⟨_, hlen, hcell⟩ := World.cells?_some h1
      obtain ⟨x, hx⟩ := hel cs' n _ hlen h2
      refine ⟨(x, cs'), hlen, hx, fun j u hu => ?_⟩
      have hj : j < cs'.length := (List.getElem?_eq_some_iff.1 hu).1
      have h3 := hcell j (by omega)
      rw [h3]
      have : cs'[j]? = some u := hu
      simpa using this
    obtain ⟨f, hf2⟩ := Go.Deep.choose_lt each
    refine ⟨(List.range len).map fun i => (f i).1, by simp, ⟨by simp, by have : maxLen = 9223372036854775807 := rfl; omega, fun _ => ⟨a, rfl, fun j x hj => ?_⟩⟩, hl⟩
    rw [List.getElem?_map] at hj
    obtain ⟨q, hq, rfl⟩ := Option.map_eq_some_iff.1 hj
    obtain ⟨hk1, hk2⟩ := List.getElem?_eq_some_iff.1 hq
    simp at hk1 hk2
    subst hk2
    obtain ⟨h1, h2, h3⟩ := hf2 j (by omega)
    refine ⟨(f j).2, h1, h2, fun i u hu => ?_⟩
    have := h3 i u hu
    rw [add_add] at this
    exact this
theorem el_node {H : Type} {enc : TypeId × Value → H} {W : World} {b0 : Nat} {spare : Nat → Bool} {held : Bool} (cs : List Value) (n : Nat) (D : DataW H × List MemPlace) (hl : cs.length = 4) (h : DataW.trod enc Try.prog W b0 spare held n 50 cs = some D) : ∃ x, k50.K W x cs := by
  obtain ⟨c0, c1, c2, c3, rfl⟩ := list4 cs hl
  obtain ⟨y0, y1, y2, y3, m, _, _, g0, g1, g2, g3⟩ := _root_.Go.Joins.trod_struct4 Try.underlying50 h
  simp [cells48, cells4, cells3, cells2] at g0 g1 g2 g3
  obtain ⟨x0, e0, _, _⟩ := DataW.trod_int Try.underlying48 g0
  obtain ⟨x1, e1, _⟩ := DataW.trod_bool Try.underlying4 g1
  obtain ⟨x2, e2, _, _⟩ := DataW.trod_int Try.underlying3 g2
  obtain ⟨x3, e3, _, _⟩ := DataW.trod_int Try.underlying2 g3
  simp at e0 e1 e2 e3
  subst e0 e1 e2 e3
  exact ⟨⟨x0, x1, x2, x3⟩, k50_mk W ⟨x0, x1, x2, x3⟩⟩
theorem el_bool {H : Type} {enc : TypeId × Value → H} {W : World} {b0 : Nat} {spare : Nat → Bool} {held : Bool} (cs : List Value) (n : Nat) (D : DataW H × List MemPlace) (hl : cs.length = 1) (h : DataW.trod enc Try.prog W b0 spare held n 4 cs = some D) : ∃ x, Kd.bool.K W x cs := by
  obtain ⟨x1, e1, _⟩ := DataW.trod_bool Try.underlying4 h
  exact ⟨x1, e1⟩
theorem el_int {H : Type} {enc : TypeId × Value → H} {W : World} {b0 : Nat} {spare : Nat → Bool} {held : Bool} (cs : List Value) (n : Nat) (D : DataW H × List MemPlace) (hl : cs.length = 1) (h : DataW.trod enc Try.prog W b0 spare held n 3 cs = some D) : ∃ x, (Kd.int .i64).K W x cs := by
  obtain ⟨x1, e1, _, _⟩ := DataW.trod_int Try.underlying3 h
  exact ⟨x1, e1⟩
instance : Inhabited S50 := ⟨z50⟩
set_option maxRecDepth 100000 in
theorem lifted (os : Os) (started : os.Started) (H : Type) (enc : TypeId × Value → H) :
    ReturnsInHanded {} Try.checked os 3 .any (Rows.topFatesSpec.pre6 enc Try.prog Try.f3 Rows.topFatesRow.domain false) (Rows.topFatesSpec.post enc Try.prog Try.f3 false true false false) := by
  refine returnsInHanded_of_change_sized (C := Try.checked) own started (by kernel_rfl) Try.func3
    (ChangeSpec.witness6 (enc := enc) (C := Try.checked) false ⟨#[], #[.slice none 0 0, .slice none 0 0, .slice none 0 0], []⟩ 8 (by kernel_rfl) (by kernel_rfl) (by kernel_rfl) (by kernel_rfl)) ?_
  intro W base args ds gs before hval0 hW hcnd hsz0 _
  have hval : ∀ (j : Nat) t v, Try.f3.params[j]? = some t → args[j]? = some v → Value.okWide Try.prog W .any base t v := hval0
  have hW' := hW
  obtain ⟨p, q, hA0, hV, rfl, hfz, hnd⟩ := hW
  have hA : DataW.TrodAll enc Try.prog W 0 (fun _ => true) true Try.f3.params.toList args.toList ds p := hA0
  rw [Try.params3] at hA hval
  obtain ⟨v0, vs0, d0, ds0, p0, q0, hargs, rfl, rfl, h0, r0⟩ := trodAll_cons hA
  obtain ⟨v1, vs1, d1, ds1, p1, q1, rfl, rfl, rfl, h1, r1⟩ := trodAll_cons r0
  obtain ⟨v2, vs2, d2, ds2, p2, q2, rfl, rfl, rfl, h2, r2⟩ := trodAll_cons r1
  obtain ⟨rfl, rfl, rfl⟩ := trodAll_nil r2
  obtain rfl : args = #[v0, v1, v2] := by cases args; simp_all
  obtain ⟨rfl, rfl⟩ := trodVars_none hV
  have k0 := h0
  have lt0 : ∀ x ∈ p0, x.block < W.heap.size := by obtain ⟨m, hm⟩ := k0; exact DataW.trod_lt m _ _ _ hm
  obtain ⟨a0, len0, cap0, rfl⟩ := okWide_slice Try.underlying22 (hval 0 22 v0 rfl rfl)
  obtain ⟨xs0, rfl, hr0, hc0⟩ := open_kind k50 Try.underlying22 cells50 (fun cs n D hl h => el_node cs n D hl h) h0
  have k1 := h1
  have lt1 : ∀ x ∈ p1, x.block < W.heap.size := by obtain ⟨m, hm⟩ := k1; exact DataW.trod_lt m _ _ _ hm
  obtain ⟨a1, len1, cap1, rfl⟩ := okWide_slice Try.underlying23 (hval 1 23 v1 rfl rfl)
  obtain ⟨xs1, rfl, hr1, hc1⟩ := open_kind Kd.bool Try.underlying23 cells4 (fun cs n D hl h => el_bool cs n D hl h) h1
  have k2 := h2
  have lt2 : ∀ x ∈ p2, x.block < W.heap.size := by obtain ⟨m, hm⟩ := k2; exact DataW.trod_lt m _ _ _ hm
  obtain ⟨a2, len2, cap2, rfl⟩ := okWide_slice Try.underlying24 (hval 2 24 v2 rfl rfl)
  obtain ⟨xs2, rfl, hr2, hc2⟩ := open_kind (Kd.int .i64) Try.underlying24 cells3 (fun cs n D hl h => el_int cs n D hl h) h2
  clear hA0 hval0 hsz0
  refine (topFates_walk a0 cap0 xs0 a1 cap1 xs1 a2 cap2 xs2 W hr0 hc0 hr1 hr2).mono fun e W' ⟨he, bel⟩ => ?_
  subst he
  exact ⟨_, rfl, _, _, _, [], _, [], hW', trodAll_mk1 (shut_bool Try.underlying4 _), (trodAll_cons_mk (Below.trod laidOut (by kernel_rfl) (of_decide_eq_true (by kernel_rfl)) k0 bel lt0) (trodAll_cons_mk (Below.trod laidOut (by kernel_rfl) (of_decide_eq_true (by kernel_rfl)) k1 bel lt1) (trodAll_cons_mk (Below.trod laidOut (by kernel_rfl) (of_decide_eq_true (by kernel_rfl)) k2 bel lt2) trodAll_mk0))), rfl, bel.frame _, fun h => by cases h⟩
end Go.Proofs.Ytiipbibbppgbgaa.mineTopFates
namespace Go.Proofs.Ytiipbibbppgbgaa
open Go.RowKit
/-- TopFates, whole. -/
theorem topFates_holds : Rows.TopFatesSaid :=
  OpenClaim.holds_of_wide 3 Try.f3 rfl rfl rfl rfl rfl rfl rfl ⟨rfl, rfl, rfl, rfl, rfl⟩ rfl rfl rfl rfl rfl (by kernel_rfl) Try.func3 (by kernel_rfl)
    (of_decide_eq_true (by kernel_rfl)) (by unfold Func.isWrapper; first | (rw [if_pos (by decide +kernel)]; kernel_rfl) | (rw [if_neg (by decide +kernel)]; exact ⟨rfl, rfl⟩))
    (fun os started H enc _ => mineTopFates.lifted os started H enc)
#print axioms topFates_holds
end Go.Proofs.Ytiipbibbppgbgaa
