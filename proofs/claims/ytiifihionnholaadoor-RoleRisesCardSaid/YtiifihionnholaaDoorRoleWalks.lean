/- The walks of role.Mask, role.Allows and role.Least: each returns what a plain table says, given that the table 'count' holds its five numbers. -/
import Derived.Test.YtiifihionnholaaDoorRows
import Derived.WalkKit
import Derived.Below
import Derived.Outline
import Derived.BigQuiet
import Derived.Deep.QuietTactic
namespace Go.Proofs.YtiifihionnholaaDoor.Mine
open Go.RowKit
set_option linter.unusedVariables false

/-- The table 'count' holds its numbers. -/
def Cnt (w : World) : Prop := w.cell? ⟨0, 0, none⟩ = some (.int .i64 0) ∧ w.cell? ⟨0, 1, none⟩ = some (.int .i64 1) ∧ w.cell? ⟨0, 2, none⟩ = some (.int .i64 3) ∧ w.cell? ⟨0, 3, none⟩ = some (.int .i64 5) ∧ w.cell? ⟨0, 4, none⟩ = some (.int .i64 10)

def maskI (r : Int) : Int := if r = 1 then 1 else if r = 2 then 7 else if r = 3 then 31 else if r = 4 then 1023 else 0

set_option maxRecDepth 100000 in
theorem mask_any (r : Int) (w : World) (hc : Cnt w) : Calls Tryd.prog 9 #[.int .i64 r] w fun e w' => e = .returned (.int .u32 (maskI r)) ∧ w = w' := by
  obtain ⟨c0, c1, c2, c3, c4⟩ := hc
  have h : r < 0 ∨ r = 0 ∨ r = 1 ∨ r = 2 ∨ r = 3 ∨ r = 4 ∨ 5 ≤ r := by omega
  rcases h with h | rfl | rfl | rfl | rfl | rfl | h
  · have e : maskI r = 0 := by unfold maskI; repeat' split <;> omega
    rw [e]
    go_enter Tryd.func9, Tryd.ntmps9
    go_wp2
    go_ret
    exact ⟨rfl, rfl⟩
  · go_enter Tryd.func9, Tryd.ntmps9
    go_wp2
    go_ret
    exact ⟨rfl, rfl⟩
  · go_enter Tryd.func9, Tryd.ntmps9
    go_wp2
    go_ret
    exact ⟨rfl, rfl⟩
  · go_enter Tryd.func9, Tryd.ntmps9
    go_wp2
    go_ret
    exact ⟨rfl, rfl⟩
  · go_enter Tryd.func9, Tryd.ntmps9
    go_wp2
    go_ret
    exact ⟨rfl, rfl⟩
  · go_enter Tryd.func9, Tryd.ntmps9
    go_wp2
    go_ret
    exact ⟨rfl, rfl⟩
  · have e : maskI r = 0 := by unfold maskI; repeat' split <;> omega
    rw [e]
    go_enter Tryd.func9, Tryd.ntmps9
    go_wp2
    go_ret
    exact ⟨rfl, rfl⟩

def lim (r : Int) : Int := if r = 1 then 1 else if r = 2 then 3 else if r = 3 then 5 else if r = 4 then 10 else 0
/-- May the role ask for the op? -/
def allowB (r o : Int) : Bool := decide (0 ≤ o) && decide (o < lim r)
theorem lim_mask (r : Int) : (maskI r = 0 ∧ lim r = 0) ∨ (maskI r = 1 ∧ lim r = 1) ∨ (maskI r = 7 ∧ lim r = 3) ∨ (maskI r = 31 ∧ lim r = 5) ∨ (maskI r = 1023 ∧ lim r = 10) := by
  unfold maskI lim
  repeat' split
  all_goals simp
theorem bit_is (r o : Int) (h0 : 0 ≤ o) (h1 : o < 10) : (bits BinOp.and IntKind.u32 (maskI r / 2 ^ o.toNat) 1 == 1) = allowB r o := by
  have ho : o = 0 ∨ o = 1 ∨ o = 2 ∨ o = 3 ∨ o = 4 ∨ o = 5 ∨ o = 6 ∨ o = 7 ∨ o = 8 ∨ o = 9 := by omega
  unfold allowB
  rcases lim_mask r with ⟨e1, e2⟩ | ⟨e1, e2⟩ | ⟨e1, e2⟩ | ⟨e1, e2⟩ | ⟨e1, e2⟩ <;> rw [e1, e2] <;>
    rcases ho with rfl | rfl | rfl | rfl | rfl | rfl | rfl | rfl | rfl | rfl <;> decide +kernel
theorem allow_out (r o : Int) (h : ¬ (0 ≤ o ∧ o < 10)) : allowB r o = false := by
  unfold allowB lim
  rw [Bool.and_eq_false_iff, decide_eq_false_iff_not, decide_eq_false_iff_not]
  by_cases h0 : 0 ≤ o
  · right
    have h1 : ¬ o < 10 := fun h1 => h ⟨h0, h1⟩
    repeat' split
    all_goals omega
  · left; exact h0

set_option maxRecDepth 100000 in
theorem allows_any (r o : Int) (w : World) (hc : Cnt w) : Calls Tryd.prog 7 #[.int .i64 r, .int .i64 o] w fun e w' => e = .returned (.bool (allowB r o)) ∧ w = w' := by
  by_cases h0 : 0 ≤ o
  · by_cases h1 : o < 10
    · rw [← bit_is r o h0 h1]
      generalize hm : maskI r = m
      have hmc : Calls Tryd.prog 9 #[.int .i64 r] w fun e w' => e = .returned (.int .u32 m) ∧ w = w' := by rw [← hm]; exact mask_any r w hc
      clear hm
      go_enter Tryd.func7, Tryd.ntmps7
      go_wp2_with (go_at_call 9; refine hmc.mono ?_; rintro e w' ⟨rfl, rfl⟩)
      go_ret
      exact ⟨rfl, rfl⟩
    · rw [allow_out r o (fun h => h1 h.2)]
      go_enter Tryd.func7, Tryd.ntmps7
      go_wp2
      go_ret
      exact ⟨rfl, rfl⟩
  · rw [allow_out r o (fun h => h0 h.1)]
    go_enter Tryd.func7, Tryd.ntmps7
    go_wp2
    go_ret
    exact ⟨rfl, rfl⟩

/-- The least role that may ask for the op. -/
def leastI (o : Int) : Int := if o < 0 then 5 else if o < 1 then 1 else if o < 3 then 2 else if o < 5 then 3 else if o < 10 then 4 else 5
theorem least_is (o : Int) (k : Nat) (hk : k < 5) (hno : ∀ j : Nat, j < k → allowB (j : Int) o = false) (hy : allowB (k : Int) o = true) : leastI o = (k : Int) := by
  have hk5 : k = 0 ∨ k = 1 ∨ k = 2 ∨ k = 3 ∨ k = 4 := by omega
  have h0 := hno 0
  have h1 := hno 1
  have h2 := hno 2
  have h3 := hno 3
  simp only [allowB, lim, Bool.and_eq_true, Bool.and_eq_false_iff, decide_eq_true_eq, decide_eq_false_iff_not] at hy h0 h1 h2 h3
  unfold leastI
  rcases hk5 with rfl | rfl | rfl | rfl | rfl <;> simp at hy h0 h1 h2 h3 ⊢ <;> (repeat' split) <;> omega
theorem least_none (o : Int) (hno : ∀ j : Nat, j < 5 → allowB (j : Int) o = false) : leastI o = 5 := by
  have h4 := hno 4 (by omega)
  simp only [allowB, lim, Bool.and_eq_false_iff, decide_eq_false_iff_not] at h4
  unfold leastI
  simp at h4
  repeat' split
  all_goals omega

set_option maxRecDepth 100000 in
theorem least_any (o : Int) (w : World) (hc : Cnt w) : Calls Tryd.prog 10 #[.int .i64 o] w fun e w' => e = .returned (.int .i64 (leastI o)) ∧ w = w' := by
  go_enter Tryd.func10, Tryd.ntmps10
  go_wp2
  go_loop [4] (fun r => ∃ k : Nat, k ≤ 5 ∧ r = .int .i64 k ∧ Hid (∀ j : Nat, j < k → allowB (j : Int) o = false)) (fun r => 5 - (intOf r).toNat)
  case atStart => exact ⟨0, by omega, rfl, fun j hj => absurd hj (by omega)⟩
  case round =>
    obtain ⟨k, hk, rfl, HN⟩ := hrel
    by_cases hlt : k < 5
    · by_cases hy : allowB (k : Int) o = true
      · have HL : Hid (leastI o = (k : Int)) := least_is o k hlt HN.out hy
        clear HN
        go_wp2_with (go_at_call 7; refine (allows_any _ _ _ hc).mono ?_; rintro e w' ⟨rfl, rfl⟩)
        go_ret
        exact ⟨by rw [HL.out]; rfl, rfl⟩
      · have hy0 : allowB (k : Int) o = false := by simpa using hy
        have HN1 : Hid (∀ j : Nat, j < k + 1 → allowB (j : Int) o = false) := fun j hj => by
          by_cases e : j = k
          · rw [e]; exact hy0
          · exact HN.out j (by omega)
        clear HN hy
        go_wp2_with (go_at_call 7; refine (allows_any _ _ _ hc).mono ?_; rintro e w' ⟨rfl, rfl⟩)
        go_round
        case rel => exact ⟨k + 1, by omega, by go_num, HN1⟩
        case measure => simp [intOf]; omega
    · have HL : Hid (leastI o = 5) := least_none o (fun j hj => HN.out j (by omega))
      clear HN
      go_wp2
      go_ret
      exact ⟨by rw [HL.out]; rfl, rfl⟩
end Go.Proofs.YtiifihionnholaaDoor.Mine
