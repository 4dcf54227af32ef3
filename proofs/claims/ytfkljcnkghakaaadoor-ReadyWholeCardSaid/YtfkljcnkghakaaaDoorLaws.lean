/- The walks of ReadyOrders, ReadyReady, ReadyBehind: each returns true. Conditions: the table deBruijn32tab holds its numbers; the masks (and the done ones) are numbers of 32 bits. -/
import Derived.Test.YtfkljcnkghakaaaDoorWakes
namespace Go.Proofs.YtfkljcnkghakaaaDoor.Masks
open Go.RowKit Go.Proofs.YtfkljcnkghakaaaDoor.PReadyOrders Go.Proofs.YtfkljcnkghakaaaDoorW.PrintWords Go.Proofs.YtfkljcnkghakaaaDoorW.PrintLast Go.Proofs.YtfkljcnkghakaaaDoorW.PrintMore
attribute [local go_sem] max2_int min2_int
set_option linter.unusedVariables false

set_option maxHeartbeats 2000000 in
set_option maxRecDepth 100000 in
theorem orders_walk (xs : List Int) (h : U32 xs) (A0 : Option Addr) (c0 : Nat) (w : World) (hr0 : Kd.C (Kd.int .u32) w A0 xs.length xs) (hc0 : xs.length ≤ c0) (hT : Tab w) :
    Calls Tryd.prog 3 #[.slice A0 xs.length c0] w fun e w' => e = .returned (.bool true) ∧ Below w.heap.size w w' := by
  have HR := Aside0.mk hr0
  have HC := Aside0.mk hc0
  have HT := Aside0.mk hT
  have HB := Aside0.mk (Below.refl w.heap.size w)
  clear hr0 hc0 hT
  go_enter Tryd.func3, Tryd.ntmps3
  go_wp2_with (first
    | (go_at_call 9; go_loud (refine (wakes_calls _ (HT.out.below HT.out.pos HB.out)).mono ?_; rintro e w' ⟨rfl, hb⟩; have n0 := Aside0.mk (below_step HB.out hb); clear HB; have HB := n0; clear n0; clear hb))
    | (go_at_call 11; go_loud (refine (order_calls xs h _ _ _ (Kd.C_below HR.out HB.out) HC.out (HT.out.below HT.out.pos HB.out)).mono ?_; rintro e w' ⟨v2, rfl, ho, hb⟩; obtain ⟨A2, c2, rfl⟩ := Kd.R_slice ho; have n0 := Aside0.mk (below_step HB.out hb); clear HB; have HB := n0; clear n0; have HX := Aside0.mk ho; clear ho hb))
    | (go_at_call 12; go_loud (refine (precinctref13_Order.calls 7000 _ _ xs _ _ (Kd.C_below HR.out HB.out) HC.out (refOrder_is xs h 7000 (by omega))).mono ?_; rintro e w' ⟨v2, rfl, ho, hb⟩; obtain ⟨A2, c2, rfl⟩ := Kd.R_slice ho; have n0 := Aside0.mk (below_step HB.out hb); clear HB; have HB := n0; clear n0; have x0 := Aside0.mk (Kd.R_below HX.out hb); clear HX; have HX := x0; clear x0; have HY := Aside0.mk ho; clear ho hb))
    | (go_at_call 13; go_loud (refine (depths_calls xs h _ _ _ (Kd.C_below HR.out HB.out) HC.out (HT.out.below HT.out.pos HB.out)).mono ?_; rintro e w' ⟨v2, rfl, ho, hb⟩; obtain ⟨A2, c2, rfl⟩ := Kd.R_slice ho; have n0 := Aside0.mk (below_step HB.out hb); clear HB; have HB := n0; clear n0; have HX := Aside0.mk ho; clear ho hb))
    | (go_at_call 14; go_loud (refine (precinctref13_Depths.calls 8000 _ _ xs _ _ (Kd.C_below HR.out HB.out) HC.out (refDepths_is xs h 8000 (by omega))).mono ?_; rintro e w' ⟨v2, rfl, ho, hb⟩; obtain ⟨A2, c2, rfl⟩ := Kd.R_slice ho; have n0 := Aside0.mk (below_step HB.out hb); clear HB; have HB := n0; clear n0; have x0 := Aside0.mk (Kd.R_below HX.out hb); clear HX; have HX := x0; clear x0; have HY := Aside0.mk ho; clear ho hb))
    | (go_at_call 10; go_loud (refine (equal_calls _ (by first | exact ordL_short xs | exact depL_short xs | exact bits_short _) _ _ _ _ _ (Kd.R_reads' HX.out).2.2 (Kd.R_reads' HX.out).2.1 (Kd.R_reads' HY.out).2.2 (Kd.R_reads' HY.out).2.1).mono ?_; rintro e w' ⟨rfl, hb⟩; have n0 := Aside0.mk (below_step HB.out hb); clear HB; have HB := n0; clear n0; clear hb HX HY)))
  go_ret
  exact ⟨rfl, HB.out⟩

set_option maxHeartbeats 2000000 in
set_option maxRecDepth 100000 in
theorem ready_walk (xs : List Int) (h : U32 xs) (m : Nat) (hm : m < 2 ^ 32) (A0 : Option Addr) (c0 : Nat) (w : World) (hr0 : Kd.C (Kd.int .u32) w A0 xs.length xs) (hc0 : xs.length ≤ c0) (hT : Tab w) :
    Calls Tryd.prog 4 #[.slice A0 xs.length c0, .int .u32 (m : Int)] w fun e w' => e = .returned (.bool true) ∧ Below w.heap.size w w' := by
  have HR := Aside0.mk hr0
  have HC := Aside0.mk hc0
  have HT := Aside0.mk hT
  have HB := Aside0.mk (Below.refl w.heap.size w)
  have Hm := Aside0.mk hm
  clear hr0 hc0 hT hm
  go_enter Tryd.func4, Tryd.ntmps4
  go_wp2_with (first
    | (go_at_call 9; go_loud (refine (wakes_calls _ (HT.out.below HT.out.pos HB.out)).mono ?_; rintro e w' ⟨rfl, hb⟩; have n0 := Aside0.mk (below_step HB.out hb); clear HB; have HB := n0; clear n0; clear hb))
    | (go_at_call 15; go_loud (refine (ready_calls xs h _ _ m Hm.out _ (Kd.C_below HR.out HB.out) HC.out).mono ?_; rintro e w' ⟨rfl, hb⟩; have n0 := Aside0.mk (below_step HB.out hb); clear HB; have HB := n0; clear n0; clear hb))
    | (go_at_call 16; go_loud (refine (precinctref13_Ready.calls 400 _ _ xs (m : Int) _ _ (Kd.C_below HR.out HB.out) HC.out (refReady_is xs h m Hm.out 400 (by omega))).mono ?_; rintro e w' ⟨rfl, hb⟩; have n0 := Aside0.mk (below_step HB.out hb); clear HB; have HB := n0; clear n0; clear hb))
    | (go_at_call 17; go_loud (refine (list_calls m Hm.out _ (HT.out.below HT.out.pos HB.out)).mono ?_; rintro e w' ⟨v2, rfl, ho, hb⟩; obtain ⟨A2, c2, rfl⟩ := Kd.R_slice ho; have n0 := Aside0.mk (below_step HB.out hb); clear HB; have HB := n0; clear n0; have HX := Aside0.mk ho; clear ho hb))
    | (go_at_call 18; go_loud (refine (precinctref13_List.calls 200 (m : Int) _ _ (refList_is m Hm.out 200 (by omega))).mono ?_; rintro e w' ⟨v2, rfl, ho, hb⟩; obtain ⟨A2, c2, rfl⟩ := Kd.R_slice ho; have n0 := Aside0.mk (below_step HB.out hb); clear HB; have HB := n0; clear n0; have x0 := Aside0.mk (Kd.R_below HX.out hb); clear HX; have HX := x0; clear x0; have HY := Aside0.mk ho; clear ho hb))
    | (go_at_call 10; go_loud (refine (equal_calls _ (by first | exact ordL_short xs | exact depL_short xs | exact bits_short _) _ _ _ _ _ (Kd.R_reads' HX.out).2.2 (Kd.R_reads' HX.out).2.1 (Kd.R_reads' HY.out).2.2 (Kd.R_reads' HY.out).2.1).mono ?_; rintro e w' ⟨rfl, hb⟩; have n0 := Aside0.mk (below_step HB.out hb); clear HB; have HB := n0; clear n0; clear hb HX HY)))
  go_ret
  exact ⟨rfl, HB.out⟩

/-- What comes behind n, whatever n is. -/
noncomputable def behV (xs : List Int) (n : Int) : Int := if 0 ≤ n ∧ n < (nn xs : Int) then ((behN xs n.toNat : Nat) : Int) else 0
theorem behV_nat (xs : List Int) (a : Nat) (ha : a < nn xs) : behV xs (a : Int) = ((behN xs a : Nat) : Int) := by unfold behV; rw [if_pos (by omega)]; simp
theorem behind_any (xs : List Int) (h : U32 xs) (n : Int) : ∃ k, ready_Behind.f k xs n = some (behV xs n) := by
  unfold behV
  by_cases hn : 0 ≤ n ∧ n < (nn xs : Int)
  · rw [if_pos hn]
    obtain ⟨a, rfl⟩ := Int.eq_ofNat_of_zero_le hn.1
    simpa using behind_is xs h a (by omega)
  · rw [if_neg hn]; exact behind_out xs h n (by omega)
theorem refBehind_any (xs : List Int) (h : U32 xs) (n : Int) : ∃ k, precinctref13_Behind.f k xs n = some (behV xs n) := by
  unfold behV
  by_cases hn : 0 ≤ n ∧ n < (nn xs : Int)
  · rw [if_pos hn]
    obtain ⟨a, rfl⟩ := Int.eq_ofNat_of_zero_le hn.1
    exact ⟨700000, by simpa using refBehind_is xs h a (by omega) 700000 (by omega)⟩
  · rw [if_neg hn]; exact ⟨2, refBehind_out xs n (by omega)⟩
theorem behind_calls (xs : List Int) (h : U32 xs) (n : Int) (A0 : Option Addr) (c0 : Nat) (w : World) (hr0 : Kd.C (Kd.int .u32) w A0 xs.length xs) (hc0 : xs.length ≤ c0) :
    Calls Tryd.prog 19 #[.slice A0 xs.length c0, .int .i64 n] w fun e w' => e = .returned (.int .u32 (behV xs n)) ∧ Below w.heap.size w w' := by
  obtain ⟨k, hk⟩ := behind_any xs h n
  exact ready_Behind.calls k A0 c0 xs n _ w hr0 hc0 hk
theorem refBehind_calls (xs : List Int) (h : U32 xs) (n : Int) (A0 : Option Addr) (c0 : Nat) (w : World) (hr0 : Kd.C (Kd.int .u32) w A0 xs.length xs) (hc0 : xs.length ≤ c0) :
    Calls Tryd.prog 20 #[.slice A0 xs.length c0, .int .i64 n] w fun e w' => e = .returned (.int .u32 (behV xs n)) ∧ Below w.heap.size w w' := by
  obtain ⟨k, hk⟩ := refBehind_any xs h n
  exact precinctref13_Behind.calls k A0 c0 xs n _ w hr0 hc0 hk
end Go.Proofs.YtfkljcnkghakaaaDoor.Masks
