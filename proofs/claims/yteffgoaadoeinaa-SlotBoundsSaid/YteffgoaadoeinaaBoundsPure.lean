/- The plain law behind SlotBounds: the program's Bound and the reference's Bound tell the same number, for every table of at most 100 ticks. No condition beyond that the numbers are of their kind. -/
import Derived.Test.YteffgoaadoeinaaPSlotBoundsx1
namespace Go.Proofs.Yteffgoaadoeinaa.MineBounds
open Go.RowKit Go.Proofs.Yteffgoaadoeinaa.PSlotBounds Go.Proofs.YteffgoaadoeinaaW.PrintWords Go.Proofs.YteffgoaadoeinaaW.PrintLast

theorem wakes_true : precinctlaw17_wakes.f 9 = some true := by decide +kernel

/-- The reference's search, from q on. -/
theorem ref_loop (xs : List Int) (t a b Q : Int) (ha0 : 0 ≤ a) (ha : a ≤ 256) (hb0 : 1 ≤ b) (hb : b ≤ 64)
    (hQ0 : 0 ≤ Q) (hQ1 : Q * b ≤ a + b) (hQ2 : a + b < Q * b + b) (d : Nat) : ∀ (k : Nat) (q : Int), 0 ≤ q → q ≤ Q → Q - q = d → d < k →
    precinctref17_Bound.l0 k xs t a b q = some (wrap64 (t + (wrap64 ((xs.length : Int) * (wrap64 (Q + 1)))))) := by
  have hQb : Q ≤ 320 := by
    have : Q * 1 ≤ Q * b := Int.mul_le_mul_of_nonneg_left hb0 hQ0
    omega
  induction d with
  | zero =>
    intro k q h0 h1 hd hk
    obtain ⟨k, rfl⟩ : ∃ m, k = m + 1 := ⟨k - 1, by omega⟩
    have e : q = Q := by omega
    subst e
    have e1 : wrap64 (q * b) = q * b := by
      have : 0 ≤ q * b := Int.mul_nonneg h0 (by omega)
      generalize q * b = p at *
      unfold wrap64; omega
    have e2 : wrap64 (a + 1) = a + 1 := by unfold wrap64; omega
    simp only [precinctref17_Bound.l0]
    rw [e1, e2, if_neg (by omega)]
  | succ d ih =>
    intro k q h0 h1 hd hk
    obtain ⟨k, rfl⟩ : ∃ m, k = m + 1 := ⟨k - 1, by omega⟩
    have hle : (q + 1) * b ≤ Q * b := Int.mul_le_mul_of_nonneg_right (by omega) (by omega)
    rw [Int.add_mul, Int.one_mul] at hle
    have hp : 0 ≤ q * b := Int.mul_nonneg h0 (by omega)
    have e1 : wrap64 (q * b) = q * b := by
      generalize q * b = p at *
      generalize Q * b = P at *
      unfold wrap64; omega
    have e2 : wrap64 (a + 1) = a + 1 := by unfold wrap64; omega
    have e3 : wrap64 (q + 1) = q + 1 := by unfold wrap64; omega
    have hlt : q * b < a + 1 := by
      generalize q * b = p at *
      generalize Q * b = P at *
      omega
    simp only [precinctref17_Bound.l0]
    rw [e1, e2, e3, if_pos hlt]
    exact ih k (q + 1) (by omega) (by omega) (by omega) (by omega)

theorem bound_same (xs : List Int) (t a b : Int) (hlen : xs.length ≤ 100) :
    ∃ k r, slot_Table_Bound.f xs t a b = some r ∧ precinctref17_Bound.f k xs t a b = some r := by
  unfold slot_Table_Bound.f slot_Table_sized.f precinctref17_Bound.f
  by_cases h0 : (xs.length : Int) = 0
  · refine ⟨1, -1, ?_, ?_⟩
    · rw [if_neg (by omega)]; rfl
    · rw [if_pos h0]; simp only [precinctref17_Bound.j0]; rfl
  by_cases h64 : (xs.length : Int) > 64
  · refine ⟨1, -1, ?_, ?_⟩
    · rw [if_pos (by omega)]; simp only [Option.bind_some]; rw [if_neg (by simp; omega)]
    · rw [if_neg h0]; simp only [precinctref17_Bound.j0]; rw [if_pos (by simpa using h64)]
  have hs : (if (xs.length : Int) ≥ 1 then (some (decide ((xs.length : Int) ≤ 64))) else (some false)) = some true := by
    rw [if_pos (by omega), decide_eq_true (by omega)]
  rw [hs]
  simp only [Option.bind_some, if_true]
  have hj : ∀ k, (if (xs.length : Int) = 0 then (precinctref17_Bound.j0 k xs t a b true) else (precinctref17_Bound.j0 k xs t a b (decide ((xs.length : Int) > 64)))) = precinctref17_Bound.j0 k xs t a b false := fun k => by
    rw [if_neg h0, decide_eq_false h64]
  simp only [hj]
  by_cases c1 : t < 0
  · refine ⟨2, -1, by rw [if_pos c1], ?_⟩
    simp only [precinctref17_Bound.j0, precinctref17_Bound.j1]; simp [c1]
  by_cases c2 : t > 9007199254740992
  · refine ⟨2, -1, by rw [if_neg c1, if_pos c2], ?_⟩
    simp only [precinctref17_Bound.j0, precinctref17_Bound.j1]; simp [c1, c2]
  by_cases c3 : a < 0
  · refine ⟨2, -1, by rw [if_neg c1, if_neg c2, if_pos c3], ?_⟩
    simp only [precinctref17_Bound.j0, precinctref17_Bound.j1]; simp [c1, c2, c3]
  by_cases c4 : a > 256
  · refine ⟨2, -1, by rw [if_neg c1, if_neg c2, if_neg c3, if_pos c4], ?_⟩
    simp only [precinctref17_Bound.j0, precinctref17_Bound.j1]; simp [c1, c2, c3, c4]
  by_cases c5 : b < 1
  · refine ⟨2, -1, by rw [if_neg c1, if_neg c2, if_neg c3, if_neg c4, if_pos c5], ?_⟩
    simp only [precinctref17_Bound.j0, precinctref17_Bound.j1]; simp [c1, c2, c3, c4, c5]
  by_cases c6 : b > 64
  · refine ⟨2, -1, by rw [if_neg c1, if_neg c2, if_neg c3, if_neg c4, if_neg c5, if_pos c6], ?_⟩
    simp only [precinctref17_Bound.j0, precinctref17_Bound.j1]; simp [c1, c2, c3, c4, c5, c6]
  have hab : wrap64 (a + b) = a + b := by unfold wrap64; omega
  have hdiv : Int.tdiv (a + b) b = (a + b) / b := Int.tdiv_eq_ediv_of_nonneg (by omega)
  have hQ1 : (a + b) / b * b ≤ a + b := Int.ediv_mul_le _ (by omega)
  have hQ2 : a + b < (a + b) / b * b + b := by
    have := Int.lt_ediv_add_one_mul_self (a + b) (show 0 < b by omega)
    rw [Int.add_mul, Int.one_mul] at this; exact this
  have hQ0 : 0 ≤ (a + b) / b := Int.ediv_nonneg (by omega) (by omega)
  have hQb : (a + b) / b ≤ 320 := by
    have : (a + b) / b * 1 ≤ (a + b) / b * b := Int.mul_le_mul_of_nonneg_left (by omega) hQ0
    omega
  have hw : wrap64 ((a + b) / b) = (a + b) / b := by
    generalize (a + b) / b = Q at *
    unfold wrap64; omega
  refine ⟨((a + b) / b).toNat + 1 + 1 + 1, _, by rw [if_neg c1, if_neg c2, if_neg c3, if_neg c4, if_neg c5, if_neg c6, if_neg (by omega)], ?_⟩
  rw [hab, hdiv, hw]
  have hl := ref_loop xs t a b ((a + b) / b) (by omega) (by omega) (by omega) (by omega) hQ0 hQ1 hQ2 ((a + b) / b).toNat (((a + b) / b).toNat + 1) 0 (by omega) hQ0 (by omega) (by omega)
  rw [← hl]
  have c6' : decide (b > 64) = false := decide_eq_false c6
  simp only [precinctref17_Bound.j0, precinctref17_Bound.j1, c6', if_neg c1, if_neg c2, if_neg c3, if_neg c4, if_neg c5]
  simp
end Go.Proofs.Yteffgoaadoeinaa.MineBounds
