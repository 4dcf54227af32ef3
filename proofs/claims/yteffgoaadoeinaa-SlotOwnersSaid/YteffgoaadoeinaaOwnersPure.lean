/- The plain law behind SlotOwners: Check, Owner, Count and Next of the program tell what the reference's tell, for every table of at most 100 ticks. -/
import Derived.Test.YteffgoaadoeinaaRefs
namespace Go.Proofs.Yteffgoaadoeinaa.MineOwners
open Go.RowKit Go.Proofs.Yteffgoaadoeinaa.PSlotOwners Go.Proofs.YteffgoaadoeinaaW.PrintWords Go.Proofs.YteffgoaadoeinaaW.PrintLast
set_option linter.unusedVariables false

theorem wakes_true : precinctlaw17_wakes.f 9 = some true := by decide +kernel

theorem owner_same (xs : List Int) (t : Int) : ∃ r, slot_Table_Owner.f xs t = some r ∧ precinctref17_Owner.f xs t = some r := by
  unfold slot_Table_Owner.f precinctref17_Owner.f
  by_cases h0 : (xs.length : Int) = 0
  · exact ⟨-1, by simp only [if_pos h0]; split <;> rfl, by rw [if_pos h0]⟩
  · by_cases ht : t < 0
    · exact ⟨-1, by rw [if_pos ht], by rw [if_neg h0, if_pos ht]⟩
    · have e : Int.tmod t (xs.length : Int) = t % (xs.length : Int) := Int.tmod_eq_emod_of_nonneg (by omega)
      have e0 : 0 ≤ Int.tmod t (xs.length : Int) := by rw [e]; exact Int.emod_nonneg _ (by omega)
      have e1 : Int.tmod t (xs.length : Int) < (xs.length : Int) := by rw [e]; exact Int.emod_lt_of_pos _ (by omega)
      exact ⟨_, by rw [if_neg ht, if_neg h0, if_pos e0, if_pos e1], by rw [if_neg h0, if_neg ht, if_pos e0, if_pos e1]⟩

theorem check_loop (xs : List Int) (a : Int) (hlen : xs.length ≤ 100) (d : Nat) : ∀ (k : Nat) (i : Int), 0 ≤ i → i ≤ xs.length → (xs.length : Int) - i = d → d < k →
    ∃ r, slot_Table_Check.l0 k a xs (xs.length : Int) i = some r ∧ precinctref17_Check.l0 k xs a i = some r := by
  induction d with
  | zero =>
    intro k i h0 h1 hd hk
    obtain ⟨k, rfl⟩ : ∃ m, k = m + 1 := ⟨k - 1, by omega⟩
    simp only [slot_Table_Check.l0, precinctref17_Check.l0]
    exact ⟨0, by rw [if_neg (by omega)], by rw [if_neg (by omega)]⟩
  | succ d ih =>
    intro k i h0 h1 hd hk
    obtain ⟨k, rfl⟩ : ∃ m, k = m + 1 := ⟨k - 1, by omega⟩
    have hlt : i < (xs.length : Int) := by omega
    have e : wrap64 (i + 1) = i + 1 := by unfold wrap64; omega
    obtain ⟨r, g1, g2⟩ := ih k (i + 1) (by omega) (by omega) (by omega) (by omega)
    simp only [slot_Table_Check.l0, precinctref17_Check.l0]
    rw [if_pos hlt, if_pos h0, if_pos hlt, e, g1, g2]
    by_cases c1 : rd xs i < 0
    · exact ⟨2, by rw [if_pos c1], by rw [if_pos hlt, if_pos h0, if_pos c1]⟩
    · by_cases c2 : rd xs i ≥ a
      · exact ⟨2, by rw [if_neg c1, if_pos c2], by rw [if_pos hlt, if_pos h0, if_neg c1, if_pos c2]⟩
      · exact ⟨r, by rw [if_neg c1, if_neg c2], by rw [if_pos hlt, if_pos h0, if_neg c1, if_neg c2]⟩

theorem check_same (xs : List Int) (a : Int) (hlen : xs.length ≤ 100) : ∃ k m r, slot_Table_Check.f k xs a = some r ∧ precinctref17_Check.f m xs a = some r := by
  unfold slot_Table_Check.f slot_Table_sized.f precinctref17_Check.f
  by_cases h0 : (xs.length : Int) = 0
  · refine ⟨1, 1, 5, ?_, ?_⟩
    · rw [if_neg (by omega)]; rfl
    · rw [if_pos h0]; simp only [precinctref17_Check.j0]; rfl
  by_cases h64 : (xs.length : Int) > 64
  · refine ⟨1, 1, 5, ?_, ?_⟩
    · rw [if_pos (by omega)]; simp only [Option.bind_some]; rw [if_neg (by simp; omega)]
    · rw [if_neg h0]; simp only [precinctref17_Check.j0]; rw [if_pos (by simpa using h64)]
  obtain ⟨r, g1, g2⟩ := check_loop xs a hlen xs.length 101 0 (by omega) (by omega) (by omega) (by omega)
  refine ⟨101, 102, r, ?_, ?_⟩
  · rw [if_pos (by omega), decide_eq_true (by omega)]; simp only [Option.bind_some, if_true]; exact g1
  · rw [if_neg h0, decide_eq_false h64]; simp only [precinctref17_Check.j0]; rw [if_neg (by decide)]; exact g2

theorem count_loop (xs : List Int) (a : Int) (hlen : xs.length ≤ 100) (d : Nat) : ∀ (k : Nat) (i n : Int), 0 ≤ i → i ≤ xs.length → 0 ≤ n → n ≤ i → (xs.length : Int) - i = d → d < k →
    ∃ r, slot_Table_Count.l0 k a n xs (xs.length : Int) i = some r ∧ precinctref17_Count.l0 k xs a n i = some r := by
  induction d with
  | zero =>
    intro k i n h0 h1 hn0 hn1 hd hk
    obtain ⟨k, rfl⟩ : ∃ m, k = m + 1 := ⟨k - 1, by omega⟩
    simp only [slot_Table_Count.l0, precinctref17_Count.l0]
    rw [if_neg (by omega), if_neg (by omega)]
    exact ⟨n, rfl, rfl⟩
  | succ d ih =>
    intro k i n h0 h1 hn0 hn1 hd hk
    obtain ⟨k, rfl⟩ : ∃ m, k = m + 1 := ⟨k - 1, by omega⟩
    have hlt : i < (xs.length : Int) := by omega
    have e : wrap64 (i + 1) = i + 1 := by unfold wrap64; omega
    have en : wrap64 (n + 1) = n + 1 := by unfold wrap64; omega
    simp only [slot_Table_Count.l0, precinctref17_Count.l0]
    rw [if_pos hlt, if_pos h0, if_pos hlt, e, en]
    by_cases c1 : rd xs i = a
    · obtain ⟨r, g1, g2⟩ := ih k (i + 1) (n + 1) (by omega) (by omega) (by omega) (by omega) (by omega) (by omega)
      exact ⟨r, by rw [if_pos c1]; exact g1, by rw [if_pos hlt, if_pos h0, if_pos c1]; exact g2⟩
    · obtain ⟨r, g1, g2⟩ := ih k (i + 1) n (by omega) (by omega) (by omega) (by omega) (by omega) (by omega)
      exact ⟨r, by rw [if_neg c1]; exact g1, by rw [if_pos hlt, if_pos h0, if_neg c1]; exact g2⟩

theorem count_same (xs : List Int) (a : Int) (hlen : xs.length ≤ 100) : ∃ k m r, slot_Table_Count.f k xs a = some r ∧ precinctref17_Count.f m xs a = some r := by
  obtain ⟨r, g1, g2⟩ := count_loop xs a hlen xs.length 101 0 0 (by omega) (by omega) (by omega) (by omega) (by omega) (by omega)
  exact ⟨101, 101, r, g1, g2⟩

theorem next_loop (xs : List Int) (a t : Int) (hlen : xs.length ≤ 100) (ht : 0 ≤ t) (d : Nat) : ∀ (k : Nat) (i : Int), 0 ≤ i → i ≤ xs.length → t + i ≤ 9223372036854775807 → (xs.length : Int) - i = d → d < k →
    ∃ r, slot_Table_Next.l0 k xs a t (xs.length : Int) i = some r ∧ precinctref17_Next.l0 k xs a (t + i) i = some r := by
  induction d with
  | zero =>
    intro k i h0 h1 hm hd hk
    obtain ⟨k, rfl⟩ : ∃ m, k = m + 1 := ⟨k - 1, by omega⟩
    simp only [slot_Table_Next.l0, precinctref17_Next.l0]
    exact ⟨-1, by rw [if_neg (by omega)], by rw [if_neg (by omega)]⟩
  | succ d ih =>
    intro k i h0 h1 hm hd hk
    obtain ⟨k, rfl⟩ : ∃ m, k = m + 1 := ⟨k - 1, by omega⟩
    have hlt : i < (xs.length : Int) := by omega
    have e : wrap64 (i + 1) = i + 1 := by unfold wrap64; omega
    have e2 : wrap64 (9223372036854775807 - i) = 9223372036854775807 - i := by unfold wrap64; omega
    have e3 : wrap64 (t + i) = t + i := by unfold wrap64; omega
    obtain ⟨o, o1, o2⟩ := owner_same xs (t + i)
    simp only [slot_Table_Next.l0, precinctref17_Next.l0]
    rw [if_pos hlt, e, e2, e3, if_neg (by omega), o1, o2]
    simp only [Option.bind_some]
    by_cases c1 : o = a
    · exact ⟨t + i, by rw [if_pos c1], by rw [if_pos hlt, if_pos c1]⟩
    · by_cases c2 : t + i = 9223372036854775807
      · refine ⟨-1, ?_, by rw [if_pos hlt, if_neg c1, if_pos c2]⟩
        rw [if_neg c1]
        obtain ⟨k, rfl⟩ : ∃ m, k = m + 1 := ⟨k - 1, by omega⟩
        have e4 : wrap64 (9223372036854775807 - (i + 1)) = 9223372036854775807 - (i + 1) := by unfold wrap64; omega
        simp only [slot_Table_Next.l0]
        split
        · rw [e4, if_pos (by omega)]
        · rfl
      · obtain ⟨r, g1, g2⟩ := ih k (i + 1) (by omega) (by omega) (by omega) (by omega) (by omega)
        have e5 : wrap64 (t + i + 1) = t + (i + 1) := by unfold wrap64; omega
        exact ⟨r, by rw [if_neg c1]; exact g1, by rw [if_pos hlt, if_neg c1, if_neg c2, e5]; exact g2⟩

theorem next_same (xs : List Int) (a t : Int) (hlen : xs.length ≤ 100) (ht : t ≤ 9223372036854775807) : ∃ k m r, slot_Table_Next.f k xs a t = some r ∧ precinctref17_Next.f m xs a t = some r := by
  have hmx : mx 0 t = if t < 0 then 0 else t := by unfold mx; split <;> split <;> omega
  unfold slot_Table_Next.f precinctref17_Next.f
  rw [hmx]
  by_cases c : t < 0
  · obtain ⟨r, g1, g2⟩ := next_loop xs a 0 hlen (by omega) xs.length 101 0 (by omega) (by omega) (by omega) (by omega) (by omega)
    refine ⟨101, 102, r, by rw [if_pos c]; exact g1, ?_⟩
    rw [if_pos c]; simp only [precinctref17_Next.j0]; exact g2
  · obtain ⟨r, g1, g2⟩ := next_loop xs a t hlen (by omega) xs.length 101 0 (by omega) (by omega) (by omega) (by omega) (by omega)
    rw [Int.add_zero] at g2
    refine ⟨101, 102, r, by rw [if_neg c]; exact g1, ?_⟩
    rw [if_neg c]; simp only [precinctref17_Next.j0]; exact g2
end Go.Proofs.Yteffgoaadoeinaa.MineOwners
