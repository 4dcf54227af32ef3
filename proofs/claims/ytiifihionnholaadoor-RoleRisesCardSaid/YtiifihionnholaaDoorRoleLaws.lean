/- The walks of RoleAllows, RoleMasks and RoleRises: each returns true for every input, given that the table 'count' holds its five numbers. -/
import Derived.Test.YtiifihionnholaaDoorRoleWalks
import Derived.Test.YtiifihionnholaaDoorPRoleMasksx1
import Derived.Laws.World
namespace Go.Proofs.YtiifihionnholaaDoor.Mine
open Go.RowKit Go.Proofs.YtiifihionnholaaDoor.PRoleMasks Go.Proofs.YtiifihionnholaaDoorW.PrintWords Go.Proofs.YtiifihionnholaaDoorW.PrintLast Go.Proofs.YtiifihionnholaaDoorW.PrintMore
attribute [local go_sem] max2_int min2_int
set_option linter.unusedVariables false

theorem Cnt.below {w w' : World} (h : Cnt w) (hb : Below w.heap.size w w') : Cnt w' := by
  have h0 : 0 < w.heap.size := World.block_lt_of_cell? _ _ h.1
  obtain ⟨c0, c1, c2, c3, c4⟩ := h
  exact ⟨(hb.cell (p := ⟨0, 0, none⟩) h0).trans c0, (hb.cell (p := ⟨0, 1, none⟩) h0).trans c1, (hb.cell (p := ⟨0, 2, none⟩) h0).trans c2, (hb.cell (p := ⟨0, 3, none⟩) h0).trans c3, (hb.cell (p := ⟨0, 4, none⟩) h0).trans c4⟩
theorem below_of_drawn {w w' : World} (h : Drawn0 w w') : Below w.heap.size w w' := by obtain ⟨n, rfl⟩ := h; exact pw_below_drewN (Below.refl _ _) n

/-! ### the reference's functions -/
theorem refAllows (r o : Int) (k : Nat) : precinctref10_Allows.f (k + 1) r o = some (allowB r o) := by
  unfold precinctref10_Allows.f
  by_cases h0 : o < 0
  · rw [if_pos h0, allow_out r o (by omega)]; simp [precinctref10_Allows.j0]
  · rw [if_neg h0]
    by_cases h1 : o ≥ 10
    · rw [decide_eq_true h1, allow_out r o (by omega)]; simp [precinctref10_Allows.j0]
    · rw [decide_eq_false h1]
      simp only [precinctref10_Allows.j0]
      rw [if_neg (by decide)]
      unfold allowB lim
      rw [decide_eq_true (show 0 ≤ o by omega), Bool.true_and]
      by_cases c1 : r = 1
      · rw [if_pos c1, if_pos c1]; congr 1; rw [Bool.eq_iff_iff]; simp; omega
      · rw [if_neg c1, if_neg c1]
        by_cases c2 : r = 2
        · rw [if_pos c2, if_pos c2]; congr 1; rw [Bool.eq_iff_iff]; simp; omega
        · rw [if_neg c2, if_neg c2]
          by_cases c3 : r = 3
          · rw [if_pos c3, if_pos c3]; congr 1; rw [Bool.eq_iff_iff]; simp; omega
          · rw [if_neg c3, if_neg c3]
            by_cases c4 : r = 4
            · rw [if_pos c4, if_pos c4]; congr 1; rw [Bool.eq_iff_iff]; simp; omega
            · rw [if_neg c4, if_neg c4]; congr 1; rw [Bool.eq_iff_iff]; simp; omega
theorem refMask_none (r : Int) (hr : lim r = 0) (d : Nat) : ∀ (k : Nat) (p i : Int), 0 ≤ i → i ≤ 10 → 10 - i = d → precinctref10_Mask.l0 (d + 2 + k) r 0 p i = some 0 := by
  induction d with
  | zero =>
    intro k p i h0 h1 hd
    rw [show 0 + 2 + k = (k + 1) + 1 by omega]
    simp only [precinctref10_Mask.l0]; rw [if_neg (by omega)]
  | succ d ih =>
    intro k p i h0 h1 hd
    rw [show d + 1 + 2 + k = (d + 2 + k) + 1 by omega]
    have e : wrap64 (i + 1) = i + 1 := by unfold wrap64; omega
    have ha : allowB r i = false := by unfold allowB; rw [hr]; simp; try omega
    simp only [precinctref10_Mask.l0]
    rw [if_pos (by omega), show d + 2 + k = (d + 1 + k) + 1 by omega, refAllows, ha, e]
    simp only [Option.bind_some]
    rw [if_neg (by decide), show (d + 1 + k) + 1 = d + 2 + k by omega]
    exact ih k _ (i + 1) (by omega) (by omega) (by omega)
theorem refMask (r : Int) : precinctref10_Mask.f 13 r = some (maskI r) := by
  by_cases c1 : r = 1
  · subst c1; decide +kernel
  by_cases c2 : r = 2
  · subst c2; decide +kernel
  by_cases c3 : r = 3
  · subst c3; decide +kernel
  by_cases c4 : r = 4
  · subst c4; decide +kernel
  have hm : maskI r = 0 := by unfold maskI; rw [if_neg c1, if_neg c2, if_neg c3, if_neg c4]
  have hl : lim r = 0 := by unfold lim; rw [if_neg c1, if_neg c2, if_neg c3, if_neg c4]
  rw [hm]
  exact refMask_none r hl 10 1 1 0 (by omega) (by omega) (by omega)
theorem refLeast_loop (o : Int) (d : Nat) : ∀ (k i : Nat), i ≤ 5 → 5 - i = d → (∀ j : Nat, j < i → allowB (j : Int) o = false) → precinctref10_Least.l0 (d + 2 + k) o (i : Int) = some (leastI o) := by
  induction d with
  | zero =>
    intro k i h1 hd hno
    rw [show 0 + 2 + k = (k + 1) + 1 by omega]
    simp only [precinctref10_Least.l0]; rw [if_neg (by omega), least_none o (fun j hj => hno j (by omega))]
  | succ d ih =>
    intro k i h1 hd hno
    rw [show d + 1 + 2 + k = (d + 2 + k) + 1 by omega]
    have e : wrap64 ((i : Int) + 1) = ((i + 1 : Nat) : Int) := by unfold wrap64; omega
    simp only [precinctref10_Least.l0]
    rw [if_pos (by omega), show d + 2 + k = (d + 1 + k) + 1 by omega, refAllows, e]
    simp only [Option.bind_some]
    by_cases c : allowB (i : Int) o = true
    · rw [if_pos c, least_is o i (by omega) hno c]
    · rw [if_neg c, show (d + 1 + k) + 1 = d + 2 + k by omega]
      exact ih k (i + 1) (by omega) (by omega) (fun j hj => by
        by_cases e : j = i
        · rw [e]; simpa using c
        · exact hno j (by omega))
theorem refLeast (o : Int) : precinctref10_Least.f 7 o = some (leastI o) := refLeast_loop o 5 0 0 (by omega) (by omega) (fun j hj => absurd hj (by omega))

/-! ### the laws -/
set_option maxRecDepth 100000 in
theorem allows_walk (r o : Int) (w : World) (hc : Cnt w) : Calls Tryd.prog 3 #[.int .i64 r, .int .i64 o] w fun e w' => e = .returned (.bool true) ∧ Below w.heap.size w w' := by
  have t1 : allowB 2 1 = true := by decide +kernel
  go_enter Tryd.func3, Tryd.ntmps3
  go_wp2_with (first
    | (go_at_call 7; refine (allows_any _ _ _ hc).mono ?_; rintro e w' ⟨rfl, rfl⟩)
    | (go_at_call 8; refine (precinctref10_Allows.calls 1 r o _ _ (refAllows r o 0)).mono ?_; rintro e w' ⟨rfl, hd⟩; have hb := below_of_drawn hd; clear hd))
  go_ret
  exact ⟨by simp, by assumption⟩

set_option maxRecDepth 100000 in
theorem masks_walk (r o : Int) (w : World) (hc : Cnt w) : Calls Tryd.prog 4 #[.int .i64 r, .int .i64 o] w fun e w' => e = .returned (.bool true) ∧ Below w.heap.size w w' := by
  have t1 : (maskI 2 == 7) = true := by decide +kernel
  have t2 : (leastI 4 == 3) = true := by decide +kernel
  have HB : Hid (Below w.heap.size w w) := Below.refl _ _
  go_enter Tryd.func4, Tryd.ntmps4
  go_wp2_with (first
    | (go_at_call 9; refine (mask_any _ _ (hc.below HB.out)).mono ?_; rintro e w' ⟨rfl, rfl⟩)
    | (go_at_call 10; refine (least_any _ _ (hc.below HB.out)).mono ?_; rintro e w' ⟨rfl, rfl⟩)
    | (go_at_call 11; refine (precinctref10_Mask.calls 13 r _ _ (refMask r)).mono ?_; rintro e w' ⟨rfl, hd⟩; have n0 : Hid (Below w.heap.size w w') := below_step HB.out (below_of_drawn hd); clear HB hd; have HB := n0; clear n0)
    | (go_at_call 12; refine (precinctref10_Least.calls 7 o _ _ (refLeast o)).mono ?_; rintro e w' ⟨rfl, hd⟩; have n0 : Hid (Below w.heap.size w w') := below_step HB.out (below_of_drawn hd); clear HB hd; have HB := n0; clear n0))
  go_ret
  exact ⟨by simp, HB.out⟩

/-- A role above the least one may, one below may not. -/
theorem rises_bit (o x : Int) (h0 : 0 ≤ x) (h1 : x < 5) : allowB x o = decide (leastI o ≤ x) := by
  have hx : x = 0 ∨ x = 1 ∨ x = 2 ∨ x = 3 ∨ x = 4 := by omega
  rw [Bool.eq_iff_iff, decide_eq_true_eq]
  unfold allowB leastI lim
  rcases hx with rfl | rfl | rfl | rfl | rfl <;> simp <;> (repeat' split) <;> omega
theorem rises_mask (a b : Int) (h0 : 0 ≤ a) (h1 : a ≤ b) (h2 : b < 5) : (bits BinOp.andNot IntKind.u32 (maskI a) (maskI b) == 0) = true := by
  have ha : a = 0 ∨ a = 1 ∨ a = 2 ∨ a = 3 ∨ a = 4 := by omega
  have hb : b = 0 ∨ b = 1 ∨ b = 2 ∨ b = 3 ∨ b = 4 := by omega
  rcases ha with rfl | rfl | rfl | rfl | rfl <;> rcases hb with rfl | rfl | rfl | rfl | rfl <;> first | omega | decide +kernel

set_option maxHeartbeats 1000000 in
set_option maxRecDepth 100000 in
theorem rises_walk (r q o : Int) (w : World) (hc : Cnt w) : Calls Tryd.prog 5 #[.int .i64 r, .int .i64 q, .int .i64 o] w fun e w' => e = .returned (.bool true) ∧ Below w.heap.size w w' := by
  have t1 : (maskI 4 == 1023) = true := by decide +kernel
  obtain ⟨m, hm⟩ : ∃ m : Int, (if 0 < r then r else 0) = m := ⟨_, rfl⟩
  have hm0 : 0 ≤ m := by rw [← hm]; split <;> omega
  obtain ⟨n, hn⟩ : ∃ n : Int, (if 0 < q then q else 0) = n := ⟨_, rfl⟩
  have hn0 : 0 ≤ n := by rw [← hn]; split <;> omega
  obtain ⟨a, ha⟩ : ∃ a : Int, m % 5 = a := ⟨_, rfl⟩
  have ha0 : 0 ≤ a := by omega
  have ha1 : a < 5 := by omega
  obtain ⟨b, hb⟩ : ∃ b : Int, n % 5 = b := ⟨_, rfl⟩
  have hb0 : 0 ≤ b := by omega
  have hb1 : b < 5 := by omega
  go_enter Tryd.func5, Tryd.ntmps5
  go_wp2_with (go_at_call 10; refine (least_any _ _ hc).mono ?_; rintro e w' ⟨rfl, rfl⟩)
  clear hm hn ha hb
  go_loop [19] (fun x => ∃ k : Nat, k ≤ 5 ∧ x = .int .i64 k) (fun x => 5 - (intOf x).toNat)
  case atStart => exact ⟨0, by omega, rfl⟩
  case round =>
    obtain ⟨k, hk, rfl⟩ := hrel
    by_cases hlt : k < 5
    · have HX := rises_bit o (k : Int) (by omega) (by omega)
      go_wp2_with (go_at_call 7; refine (allows_any _ _ _ hc).mono ?_; rintro e w' ⟨rfl, rfl⟩)
      go_round
      case rel => exact ⟨k + 1, by omega, by go_num⟩
      case measure => simp [intOf]; omega
    · by_cases hab : b < a
      · have HM := rises_mask b a hb0 (by omega) ha1
        go_wp2_with (go_at_call 9; refine (mask_any _ _ hc).mono ?_; rintro e w' ⟨rfl, rfl⟩)
        go_ret
        exact ⟨by simp, Below.refl _ _⟩
      · have HM := rises_mask a b ha0 (by omega) hb1
        go_wp2_with (go_at_call 9; refine (mask_any _ _ hc).mono ?_; rintro e w' ⟨rfl, rfl⟩)
        go_ret
        exact ⟨by simp, Below.refl _ _⟩
end Go.Proofs.YtiifihionnholaaDoor.Mine
