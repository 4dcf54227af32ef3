/- A queue beside a row of the caller's own. No condition. -/
import Derived.Test.YtcnecdlphpkmgaaQWakes
namespace Go.Proofs.Ytcnecdlphpkmgaa.Q
open Go.RowKit Go.Proofs.YtcnecdlphpkmgaaW.PrintWords Go.Proofs.YtcnecdlphpkmgaaW.PrintLast Go.Proofs.YtcnecdlphpkmgaaW.PrintMore
set_option linter.unusedVariables false
set_option linter.unusedSimpArgs false

/-- All blocks but the row's. -/
def Off (v : Value) (k : Nat) : Prop := some k ≠ v.ownBlock
theorem off_nil (k : Nat) : Off (.slice none 0 0) k := by simp [Off, Value.ownBlock]
theorem off_fresh {w : World} {N : Nat} {ok : Nat → Prop} {v : Value} {xs : List Item} (h : KI.Q 31 w N ok v xs) (k : Nat) (hk : w.heap.size ≤ k) : Off v k := fun he => by
  have := Kd.Q_lt h k he.symm; omega
/-- The row behind a call of the queue's. -/
theorem row_kept {w w' : World} {N : Nat} {ok : Nat → Prop} {v : Value} {xs : List Item} (h : KI.Q 31 w N ok v xs) (hf : Fr N (Off v) w w') : KI.Q 31 w' N (fun k => some k = v.ownBlock) v xs :=
  Kd.Q_kept (Kd.Q_tight KI_E h) hf.2 (fun k hk hn => hn hk)
/-- The queue behind an append to the row. -/
theorem IsQ.append {N : Nat} {w w1 : World} {qb n : Nat} {xs : List Item} {v v1 : Value} (h : IsQ (Off v) N w qb xs n) (hg : w.grownBy w1 v.ownBlock) (hat : v1.ownBlock = v.ownBlock ∨ ∃ b, v1.ownBlock = some b ∧ w.heap.size ≤ b) : IsQ (Off v1) N w1 qb xs n := by
  have hI : IsQ (Off v1) N w qb xs n := h.own (fun k hk hlt => by
    rcases hat with e | ⟨b, e, hb⟩
    · unfold Off; rw [e]; exact hk
    · unfold Off; rw [e]; intro he; injection he with he; omega)
  obtain ⟨sv, mb, h1, h2, h3, h4, h5, h6⟩ := h
  obtain ⟨sv', mb', g1, g2, g3, g4, g5, g6⟩ := hI
  rw [h3] at g3
  simp at g3
  obtain ⟨rfl, rfl⟩ := g3
  exact ⟨_, _, g1, g2, blk_grown h3 hg h1.2, Kd.Q_grown2 g4 KI_E hg (fun k he hs => Kd.Q_ok h4 k hs.symm he.symm), h5.kept hg h2.2, h6⟩
theorem C_take {w : World} {A : Option Addr} {n m : Nat} {xs : List Item} (h : Kd.C KI w A n xs) (hm : m ≤ n) : Kd.C KI w A m (xs.take m) := by
  obtain ⟨h1, h2, h3⟩ := h
  refine ⟨by rw [List.length_take]; omega, by omega, fun h0 => ?_⟩
  obtain ⟨ad, e, hc⟩ := h3 (by omega)
  exact ⟨ad, e, fun j p hj => hc j p (by rw [List.getElem?_take] at hj; split at hj <;> simp_all)⟩
theorem pushL_ok (xs : List Item) (x : Item) (h : pushE xs x = 0) : pushL xs x = xs ++ [x] := by
  unfold pushE at h
  unfold pushL
  split at h
  · omega
  · rename_i c1
    split at h
    · omega
    · rename_i c2
      rw [if_neg c1, if_neg c2]
theorem pushL_no (xs : List Item) (x : Item) (h : pushE xs x ≠ 0) : pushL xs x = xs := by
  unfold pushE at h
  unfold pushL
  split at h
  · rename_i c1; rw [if_pos c1]
  · rename_i c1
    split at h
    · rename_i c2; rw [if_neg c1, if_pos c2]
    · exact absurd rfl h
theorem aheadE_get (xs : List Item) (h : xs.Nodup) (i : Nat) (hi : i < xs.length) : aheadE xs (xs.getD i (0, 0)) = (i : Int) :=
  aheadE_at xs _ i hi (fun j hj he => by
    rw [List.getD_eq_getElem?_getD, List.getD_eq_getElem?_getD, List.getElem?_eq_getElem hi, List.getElem?_eq_getElem (by omega)] at he
    simp at he
    exact List.pairwise_iff_getElem.1 h j i (by omega) hi hj he) rfl
theorem aheadE_drop (xs : List Item) (h : xs.Nodup) (i j : Nat) (hij : i ≤ j) (hj : j < xs.length) : aheadE (xs.drop i) (xs.getD j (0, 0)) = ((j - i : Nat) : Int) := by
  have h1 : (xs.drop i).Nodup := h.sublist (List.drop_sublist _ _)
  have h2 := aheadE_get (xs.drop i) h1 (j - i) (by rw [List.length_drop]; omega)
  rw [List.getD_eq_getElem?_getD, List.getElem?_drop] at h2
  rw [List.getD_eq_getElem?_getD]
  rwa [show i + (j - i) = j by omega] at h2
theorem not_in_drop (xs : List Item) (h : xs.Nodup) (i : Nat) (hi : i < xs.length) : (xs.drop (i + 1)).contains (xs.getD i (0, 0)) = false := by
  have h1 : (xs.drop i).Nodup := h.sublist (List.drop_sublist _ _)
  rw [drop_getD xs i hi] at h1
  simpa using (List.nodup_cons.1 h1).1
theorem pushL_len (xs : List Item) (x : Item) : (pushL xs x).length ≤ xs.length + 1 := by
  unfold pushL
  split
  · omega
  · split
    · omega
    · simp
end Go.Proofs.Ytcnecdlphpkmgaa.Q
