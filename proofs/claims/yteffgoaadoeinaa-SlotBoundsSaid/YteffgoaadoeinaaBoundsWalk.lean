/- The walk of SlotBounds: called with any table, tick and pair of numbers it returns true, and nothing that was there has changed. No condition beyond that the arguments can be read. -/
import Derived.Test.YteffgoaadoeinaaBoundsPure
import Derived.Deep.RegionHeld3
namespace Go.Proofs.Yteffgoaadoeinaa.MineBounds
open Go.RowKit Go.Proofs.Yteffgoaadoeinaa.PSlotBounds Go.Proofs.YteffgoaadoeinaaW.PrintWords Go.Proofs.YteffgoaadoeinaaW.PrintLast Go.Proofs.YteffgoaadoeinaaW.PrintMore
attribute [local go_sem] max2_int min2_int
set_option linter.unusedVariables false

theorem wakes_calls (w : World) : Calls Try.prog 8 #[] w fun e w' => e = .returned (.bool true) ∧ Below w.heap.size w w' := precinctlaw17_wakes.calls 9 true w wakes_true

/-- What the walk keeps: the boxed pair's two cells, and that nothing of the caller's has turned. -/
abbrev Keeps (w : World) (x0 x1 : Int) (W : World) : Prop := W.cell? ⟨w.heap.size, 0, none⟩ = some (.int .i64 x0) ∧ W.cell? ⟨w.heap.size, 1, none⟩ = some (.int .i64 x1) ∧ Below w.heap.size w W ∧ w.heap.size < W.heap.size
theorem Keeps.step {w W W' : World} {x0 x1 : Int} (h : Keeps w x0 x1 W) (hb : Below W.heap.size W W') : Keeps w x0 x1 W' :=
  ⟨(hb.cell (p := ⟨w.heap.size, 0, none⟩) h.2.2.2).trans h.1, (hb.cell (p := ⟨w.heap.size, 1, none⟩) h.2.2.2).trans h.2.1, below_step h.2.2.1 hb, Nat.lt_of_lt_of_le h.2.2.2 hb.size⟩
theorem Keeps.drew {w W : World} {x0 x1 : Int} (h : Keeps w x0 x1 W) : Keeps w x0 x1 W.drew := ⟨h.1, h.2.1, h.2.2.1.drew, h.2.2.2⟩
theorem below_of_drawn {w w' : World} (h : Drawn0 w w') : Below w.heap.size w w' := by obtain ⟨n, rfl⟩ := h; exact pw_below_drewN (Below.refl _ _) n
theorem Keeps.drewN {w W : World} {x0 x1 : Int} (h : Keeps w x0 x1 W) (n : Nat) : Keeps w x0 x1 (W.drewN n) := ⟨h.1, h.2.1, pw_below_drewN h.2.2.1 n, h.2.2.2⟩

set_option maxHeartbeats 1000000 in
set_option maxRecDepth 100000 in
theorem law_walk (l0 : List Int) (A0 : Option Addr) (c0 : Nat) (a1 x0 x1 : Int) (w : World) (hr0 : Kd.C (Kd.int .i64) w A0 l0.length l0) (hc0 : l0.length ≤ c0) :
    Calls Try.prog 3 #[.slice A0 l0.length c0, .int .i64 a1, .agg #[.int .i64 x0, .int .i64 x1]] w fun e w' => e = .returned (.bool true) ∧ Below w.heap.size w w' := by
  obtain ⟨j, hj⟩ : ∃ j_ : Int, (mn (l0.length : Int) 100) = j_ := ⟨_, rfl⟩
  have hj0 : 0 ≤ j := by rw [← hj]; unfold mn; split <;> omega
  have hj1 : j ≤ (l0.length : Int) := by rw [← hj]; unfold mn; split <;> omega
  have hj2 : j ≤ 100 := by rw [← hj]; unfold mn; split <;> omega
  have hj_ : (if 100 < (l0.length : Int) then 100 else (l0.length : Int)) = j := hj
  obtain ⟨i0, hi0, _, hsz, _⟩ := info_parts info3
  obtain ⟨hcut, hA, hC⟩ := print_take_of (P := Try.prog) (Value.int .i64) 0 22 3 .i64 Try.underlying22 hi0 hsz A0 c0 l0 j hj0 hj1 hc0
  have HR := Aside0.mk (Kd.C_of_reads (h1 := fun _ => rfl) (hA _ (Kd.reads_of_C hr0)))
  have hlen : (l0.take j.toNat).length ≤ 100 := by rw [List.length_take]; omega
  generalize l0.take j.toNat = xs at hcut HR hC hlen
  obtain ⟨k, r, hb, hrb⟩ := bound_same xs a1 x0 x1 hlen
  have HBd := Aside0.mk hb
  have HRb := Aside0.mk hrb
  have HC := Aside0.mk hC
  have HJ := Aside0.mk hj_
  clear hb hrb hC hA hi0 hsz hc0 hr0 hj hlen
  go_enter Try.func3, Try.ntmps3
  go_wp2
  have hB0 : Keeps w x0 x1 (w.alloc (Obj.cells #[Value.int IntKind.i64 x0, Value.int IntKind.i64 x1] 23)) := ⟨by simp, by simp, (Below.refl _ _).alloc (Nat.le_refl _) _, by simp⟩
  go_region_held3 (Keeps w x0 x1) (first | exact Keeps.drew (by assumption) | exact Keeps.drewN (by assumption) _ | exact Keeps.step (by assumption) (by assumption) | go_keep)
    (first
      | (go_at_call 8; refine (wakes_calls _).mono ?_; rintro e w' ⟨rfl, hb⟩)
      | (go_at_call 9; refine (slot_Table_Bound.calls _ _ xs a1 x0 x1 r _ ?side1 HC.out HBd.out).mono ?_; (case side1 => exact Kd.C_below HR.out (And.left (And.right (And.right (by assumption : Keeps w x0 x1 _))))); rintro e w' ⟨rfl, hd⟩; have hb := below_of_drawn hd; clear hd)
      | (go_at_call 10; refine (precinctref17_Bound.calls k _ _ xs a1 x0 x1 r _ ?side1 HC.out HRb.out).mono ?_; (case side1 => exact Kd.C_below HR.out (And.left (And.right (And.right (by assumption : Keeps w x0 x1 _))))); rintro e w' ⟨rfl, hd⟩; have hb := below_of_drawn hd; clear hd))
  go_wp2
  go_ret
  exact ⟨by simp, (And.left (And.right (And.right (by assumption : Keeps w x0 x1 _))))⟩
end Go.Proofs.Yteffgoaadoeinaa.MineBounds
