/- The walk of ReadyBehind: it returns true. Conditions: the table deBruijn32tab holds its numbers; the masks are numbers of 32 bits. -/
import Derived.Test.YtfkljcnkghakaaaDoorLaws
namespace Go.Proofs.YtfkljcnkghakaaaDoor.Masks
open Go.RowKit Go.Proofs.YtfkljcnkghakaaaDoor.PReadyOrders Go.Proofs.YtfkljcnkghakaaaDoorW.PrintWords Go.Proofs.YtfkljcnkghakaaaDoorW.PrintLast Go.Proofs.YtfkljcnkghakaaaDoorW.PrintMore
attribute [local go_sem] max2_int min2_int
set_option linter.unusedVariables false

set_option maxHeartbeats 2000000 in
set_option maxRecDepth 100000 in
theorem behind_walk (xs : List Int) (h : U32 xs) (n : Int) (A0 : Option Addr) (c0 : Nat) (w : World) (hr0 : Kd.C (Kd.int .u32) w A0 xs.length xs) (hc0 : xs.length ≤ c0) (hT : Tab w) :
    Calls Tryd.prog 5 #[.slice A0 xs.length c0, .int .i64 n] w fun e w' => e = .returned (.bool true) ∧ Below w.heap.size w w' := by
  have HR := Aside0.mk hr0
  have HC := Aside0.mk hc0
  have HT := Aside0.mk hT
  have HB := Aside0.mk (Below.refl w.heap.size w)
  clear hr0 hc0 hT
  obtain ⟨m, hm⟩ : ∃ m : Nat, m = min xs.length 34 := ⟨_, rfl⟩
  have hmi : (if (xs.length : Int) < 34 then (xs.length : Int) else 34) = (m : Int) := by split <;> omega
  have hmi2 : (if (34 : Int) < (xs.length : Int) then 34 else (xs.length : Int)) = (m : Int) := by split <;> omega
  have hm34 : m ≤ 34 := by omega
  clear hm
  go_enter Tryd.func5, Tryd.ntmps5
  go_upto_region 2 with (fail)
  go_loopw [9] (fun v9 wr => ∃ (p : Int) (i : Nat), v9 = .int .i64 p ∧ Aside0 (p = (i : Int)) ∧ i ≤ m ∧ Aside0 (Below w.heap.size w wr)) (fun v9 _ => m - (intOf v9).toNat)
  case atStart => exact ⟨_, 0, rfl, Aside0.mk rfl, by omega, HB⟩
  case round =>
    clear HB
    obtain ⟨p, i, rfl, HP, hi, HB⟩ := hrel
    by_cases hin : i < m
    · have hlt : decide (p < (m : Int)) = true := decide_eq_true (by rw [HP.out]; omega)
      have HW : Aside0 (wrap64 (p + 1) = ((i + 1 : Nat) : Int)) := Aside0.mk (by rw [HP.out, wrap_succ i (by omega)])
      go_wp2_with (first
        | (go_at_call 19; go_loud (refine (behind_calls xs h p _ _ _ (Kd.C_below HR.out HB.out) HC.out).mono ?_; rintro e w' ⟨rfl, hb⟩; have n0 := Aside0.mk (below_step HB.out hb); clear HB; have HB := n0; clear n0; clear hb))
        | (go_at_call 20; go_loud (refine (refBehind_calls xs h p _ _ _ (Kd.C_below HR.out HB.out) HC.out).mono ?_; rintro e w' ⟨rfl, hb⟩; have n0 := Aside0.mk (below_step HB.out hb); clear HB; have HB := n0; clear n0; clear hb)))
      go_roundw
      case rel => exact ⟨_, i + 1, rfl, HW, by omega, HB⟩
      case measure => have := HW.out; simp [intOf, wrap64] at *; omega
    · have hlt : decide (p < (m : Int)) = false := decide_eq_false (by rw [HP.out]; omega)
      go_wp2_with (first
        | (go_at_call 9; go_loud (refine (wakes_calls _ (HT.out.below HT.out.pos HB.out)).mono ?_; rintro e w' ⟨rfl, hb⟩; have n0 := Aside0.mk (below_step HB.out hb); clear HB; have HB := n0; clear n0; clear hb))
        | (go_at_call 19; go_loud (refine (behind_calls xs h n _ _ _ (Kd.C_below HR.out HB.out) HC.out).mono ?_; rintro e w' ⟨rfl, hb⟩; have n0 := Aside0.mk (below_step HB.out hb); clear HB; have HB := n0; clear n0; clear hb))
        | (go_at_call 20; go_loud (refine (refBehind_calls xs h n _ _ _ (Kd.C_below HR.out HB.out) HC.out).mono ?_; rintro e w' ⟨rfl, hb⟩; have n0 := Aside0.mk (below_step HB.out hb); clear HB; have HB := n0; clear n0; clear hb)))
      go_ret
      exact ⟨rfl, HB.out⟩
end Go.Proofs.YtfkljcnkghakaaaDoor.Masks
