/- The walk of SlotOwners: called with any table, tenant and tick it returns true, and nothing that was there has changed. No condition beyond that the arguments can be read. -/
import Derived.Test.YteffgoaadoeinaaOwnersPure
namespace Go.Proofs.Yteffgoaadoeinaa.MineOwners
open Go.RowKit Go.Proofs.Yteffgoaadoeinaa.PSlotOwners Go.Proofs.YteffgoaadoeinaaW.PrintWords Go.Proofs.YteffgoaadoeinaaW.PrintLast Go.Proofs.YteffgoaadoeinaaW.PrintMore
attribute [local go_sem] max2_int min2_int
set_option linter.unusedVariables false

theorem wakes_calls (w : World) : Calls Try.prog 8 #[] w fun e w' => e = .returned (.bool true) ∧ Below w.heap.size w w' := precinctlaw17_wakes.calls 9 true w wakes_true
theorem below_of_drawn {w w' : World} (h : Drawn0 w w') : Below w.heap.size w w' := by obtain ⟨n, rfl⟩ := h; exact pw_below_drewN (Below.refl _ _) n

set_option maxHeartbeats 1000000 in
set_option maxRecDepth 100000 in
theorem law_walk (l0 : List Int) (A0 : Option Addr) (c0 : Nat) (a1 a2 : Int) (w : World) (hr0 : Kd.C (Kd.int .i64) w A0 l0.length l0) (hc0 : l0.length ≤ c0) (ha2 : a2 ≤ 9223372036854775807) :
    Calls Try.prog 6 #[.slice A0 l0.length c0, .int .i64 a1, .int .i64 a2] w fun e w' => e = .returned (.bool true) ∧ Below w.heap.size w w' := by
  obtain ⟨j, hj⟩ : ∃ j_ : Int, (mn (l0.length : Int) 100) = j_ := ⟨_, rfl⟩
  have hj0 : 0 ≤ j := by rw [← hj]; unfold mn; split <;> omega
  have hj1 : j ≤ (l0.length : Int) := by rw [← hj]; unfold mn; split <;> omega
  have hj2 : j ≤ 100 := by rw [← hj]; unfold mn; split <;> omega
  have hj_ : (if 100 < (l0.length : Int) then 100 else (l0.length : Int)) = j := hj
  obtain ⟨i0, hi0, _, hsz, _⟩ := info_parts info3
  obtain ⟨hcut, hA, hC⟩ := print_take_of (P := Try.prog) (Value.int .i64) 0 22 3 .i64 Try.underlying22 hi0 hsz A0 c0 l0 j hj0 hj1 hc0
  have HR := Aside0.mk (Kd.C_of_reads (h1 := fun _ => rfl) (hA _ (Kd.reads_of_C hr0)))
  have hlen : (l0.take j.toNat).length ≤ 100 := by rw [List.length_take]; omega
  generalize l0.take j.toNat = xs at hcut HR hC hlen
  obtain ⟨k1, m1, r1, p1, q1⟩ := check_same xs a1 hlen
  obtain ⟨r2, p2, q2⟩ := owner_same xs a2
  obtain ⟨k3, m3, r3, p3, q3⟩ := count_same xs a1 hlen
  obtain ⟨k4, m4, r4, p4, q4⟩ := next_same xs a1 a2 hlen ha2
  have P1 := Aside0.mk p1
  have Q1 := Aside0.mk q1
  have P2 := Aside0.mk p2
  have Q2 := Aside0.mk q2
  have P3 := Aside0.mk p3
  have Q3 := Aside0.mk q3
  have P4 := Aside0.mk p4
  have Q4 := Aside0.mk q4
  have HC := Aside0.mk hC
  have HB := Aside0.mk (Below.refl w.heap.size w)
  clear p1 q1 p2 q2 p3 q3 p4 q4 hC hA hi0 hsz hc0 hr0 hj hlen
  go_enter Try.func6, Try.ntmps6
  go_wp2_with (first
    | (go_at_call 8; refine (wakes_calls _).mono ?_; rintro e w' ⟨rfl, hb⟩; have n0 := Aside0.mk (below_step HB.out hb); clear HB hb; have HB := n0; clear n0)
    | (go_at_call 17; refine (slot_Table_Check.calls k1 _ _ xs a1 r1 _ (Kd.C_below HR.out HB.out) HC.out P1.out).mono ?_; rintro e w' ⟨rfl, hd⟩; have n0 := Aside0.mk (below_step HB.out (below_of_drawn hd)); clear HB hd; have HB := n0; clear n0)
    | (go_at_call 18; refine (precinctref17_Check.calls m1 _ _ xs a1 r1 _ (Kd.C_below HR.out HB.out) HC.out Q1.out).mono ?_; rintro e w' ⟨rfl, hd⟩; have n0 := Aside0.mk (below_step HB.out (below_of_drawn hd)); clear HB hd; have HB := n0; clear n0)
    | (go_at_call 12; refine (slot_Table_Owner.calls _ _ xs a2 r2 _ (Kd.C_below HR.out HB.out) HC.out P2.out).mono ?_; rintro e w' ⟨rfl, hd⟩; have n0 := Aside0.mk (below_step HB.out (below_of_drawn hd)); clear HB hd; have HB := n0; clear n0)
    | (go_at_call 19; refine (precinctref17_Owner.calls _ _ xs a2 r2 _ (Kd.C_below HR.out HB.out) HC.out Q2.out).mono ?_; rintro e w' ⟨rfl, hd⟩; have n0 := Aside0.mk (below_step HB.out (below_of_drawn hd)); clear HB hd; have HB := n0; clear n0)
    | (go_at_call 13; refine (slot_Table_Count.calls k3 _ _ xs a1 r3 _ (Kd.C_below HR.out HB.out) HC.out P3.out).mono ?_; rintro e w' ⟨rfl, hd⟩; have n0 := Aside0.mk (below_step HB.out (below_of_drawn hd)); clear HB hd; have HB := n0; clear n0)
    | (go_at_call 20; refine (precinctref17_Count.calls m3 _ _ xs a1 r3 _ (Kd.C_below HR.out HB.out) HC.out Q3.out).mono ?_; rintro e w' ⟨rfl, hd⟩; have n0 := Aside0.mk (below_step HB.out (below_of_drawn hd)); clear HB hd; have HB := n0; clear n0)
    | (go_at_call 11; refine (slot_Table_Next.calls k4 _ _ xs a1 a2 r4 _ (Kd.C_below HR.out HB.out) HC.out P4.out).mono ?_; rintro e w' ⟨rfl, hd⟩; have n0 := Aside0.mk (below_step HB.out hd); clear HB hd; have HB := n0; clear n0)
    | (go_at_call 21; refine (precinctref17_Next.calls m4 _ _ xs a1 a2 r4 _ (Kd.C_below HR.out HB.out) HC.out Q4.out).mono ?_; rintro e w' ⟨rfl, hd⟩; have n0 := Aside0.mk (below_step HB.out (below_of_drawn hd)); clear HB hd; have HB := n0; clear n0))
  go_ret
  exact ⟨by simp, HB.out⟩
end Go.Proofs.Yteffgoaadoeinaa.MineOwners
