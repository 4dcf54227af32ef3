/- The walk of SlotBudgets: called with any most and any ticks it returns true, and nothing that was there has changed. No condition beyond that the arguments can be read. -/
import Derived.Test.YteffgoaadoeinaaPSlotBudgetsx1
import Derived.Test.YteffgoaadoeinaaPSlotBudgetsx2
namespace Go.Proofs.Yteffgoaadoeinaa.MineBudgets
open Go.RowKit Go.Proofs.Yteffgoaadoeinaa.PSlotBudgets Go.Proofs.YteffgoaadoeinaaW.PrintWords Go.Proofs.YteffgoaadoeinaaW.PrintLast Go.Proofs.YteffgoaadoeinaaW.PrintMore
attribute [local go_sem] max2_int min2_int
attribute [local go_sem high] eqA35
set_option linter.unusedVariables false

theorem wakes_true : precinctlaw17_wakes.f 9 = some true := by decide +kernel
theorem wakes_calls (w : World) : Calls Try.prog 8 #[] w fun e w' => e = .returned (.bool true) ∧ Below w.heap.size w w' := precinctlaw17_wakes.calls 9 true w wakes_true
theorem takes_same (t l x : Int) : ∃ r1 r2 r3, slot_Budget_Take.f t l x = some (r1, r2, r3) ∧ precinctref17_Take.f t l x = some (r1, r2, r3) := by
  unfold slot_Budget_Take.f precinctref17_Take.f
  by_cases h : t = x
  · rw [if_pos h, if_pos h]
    by_cases h0 : l ≤ 0
    · rw [if_pos h0, if_neg (by omega)]; exact ⟨_, _, _, rfl, rfl⟩
    · rw [if_neg h0, if_pos (by omega)]; exact ⟨_, _, _, rfl, rfl⟩
  · rw [if_neg h, if_neg h]; exact ⟨_, _, _, rfl, rfl⟩

set_option maxHeartbeats 1000000 in
set_option maxRecDepth 100000 in
theorem law_walk (l0 : List Int) (A0 : Option Addr) (c0 : Nat) (a0 : Int) (w : World) (hr0 : Kd.C (Kd.int .i64) w A0 l0.length l0) (hc0 : l0.length ≤ c0) :
    Calls Try.prog 5 #[.int .i64 a0, .slice A0 l0.length c0] w fun e w' => e = .returned (.bool true) ∧ Below w.heap.size w w' := by
  have HB := Aside0.mk (Below.refl w.heap.size w)
  by_cases hn : l0.length = 0
  · have hn0 : ((l0.length : Int) == 0) = true := by simp [hn]
    clear hn hr0 hc0
    go_enter Try.func5, Try.ntmps5
    go_wp2_with (go_at_call 8; refine (wakes_calls _).mono ?_; rintro e w' ⟨rfl, hb⟩; have n0 := Aside0.mk (below_step HB.out hb); clear HB hb; have HB := n0; clear n0)
    go_ret
    exact ⟨by simp, HB.out⟩
  · have hn0 : ((l0.length : Int) == 0) = false := by simpa using hn
    have hn1 : 1 ≤ l0.length := by omega
    obtain ⟨hl, hl63, hrc⟩ := Kd.reads_of_C hr0
    obtain ⟨ad, rfl, hcell⟩ := hrc (by omega)
    have hcell0 : w.cell? (ad.add 0) = some (.int .i64 (l0.getD 0 0)) := hcell 0 (by omega)
    have hadd : ad.add 0 = ad := by simp [Addr.add]
    rw [hadd] at hcell0
    have hadlt : ad.block < w.heap.size := World.block_lt_of_cell? _ _ hcell0
    generalize l0.getD 0 0 = t0 at hcell0
    obtain ⟨m, hm⟩ : ∃ m : Int, (if 0 < a0 then a0 else 0) = m := ⟨_, rfl⟩
    have hmm : mx 0 a0 = m := hm
    have hbeg : slot_Begin.f t0 a0 = some (t0, m) := by unfold slot_Begin.f; rw [hmm]
    have HBg := Aside0.mk hbeg
    obtain ⟨j, hj⟩ : ∃ j_ : Int, (mn (l0.length : Int) 100) = j_ := ⟨_, rfl⟩
    have hj0 : 0 ≤ j := by rw [← hj]; unfold mn; split <;> omega
    have hj1 : j ≤ (l0.length : Int) := by rw [← hj]; unfold mn; split <;> omega
    have hj2 : j ≤ 100 := by rw [← hj]; unfold mn; split <;> omega
    have hj_ : (if 100 < (l0.length : Int) then 100 else (l0.length : Int)) = j := hj
    obtain ⟨i0, hi0, _, hsz, _⟩ := info_parts info2
    obtain ⟨hcut, hA, hC⟩ := print_take_of (P := Try.prog) (Value.int .i64) 0 33 2 .i64 Try.underlying33 hi0 hsz (some ad) c0 l0 j hj0 hj1 hc0
    have HX := Aside0.mk (hA w ⟨hl, hl63, fun _ => ⟨ad, rfl, hcell⟩⟩)
    have hxl : (l0.take j.toNat).length ≤ 100 := by rw [List.length_take]; omega
    generalize l0.take j.toNat = xs at hcut HX hC hxl
    have hq : (0 < l0.length) = True := eq_true (by omega)
    clear hmm hbeg hn hj hrc hr0 hA hcell hn1
    go_enter Try.func5, Try.ntmps5
    go_wp2_with (go_at_call 14; refine (slot_Begin.calls t0 a0 t0 m _ HBg.out).mono ?_; rintro e w' ⟨rfl, hb⟩; have hcell1 : w'.cell? ad = some (.int .i64 t0) := (hb.cell hadlt).trans hcell0; have hadlt1 : ad.block < w'.heap.size := Nat.lt_of_lt_of_le hadlt hb.size; have n0 := Aside0.mk (below_step HB.out hb); clear HB hb; have HB := n0; clear n0)
    have hu35 := Try.underlying35
    have hu37 := Try.underlying37
    have hsz1 := HB.out.size
    have AT : ∃ B : Nat, w'.heap.size = B ∧ w.heap.size ≤ B := ⟨_, rfl, hsz1⟩
    have AS : Aside0 (((w'.alloc (Obj.cells #[.int .i64 t0, .int .i64 m] 35)).alloc (Obj.cells #[.int .i64 t0, .int .i64 m] 37)).heap[w'.heap.size]? = some (.cells #[.int .i64 t0, .int .i64 m] 35 (0, 0)) ∧ ((w'.alloc (Obj.cells #[.int .i64 t0, .int .i64 m] 35)).alloc (Obj.cells #[.int .i64 t0, .int .i64 m] 37)).heap[w'.heap.size + 1]? = some (.cells #[.int .i64 t0, .int .i64 m] 37 (0, 0))) := by
      refine Aside0.mk ⟨blk_alloc (blk_new _ _) _, ?_⟩
      have h1 := blk_new (w'.alloc (.cells #[.int .i64 t0, .int .i64 m] 35)) (.cells #[.int .i64 t0, .int .i64 m] 37)
      have h2 : (w'.alloc (Obj.cells #[.int .i64 t0, .int .i64 m] 35)).heap.size = w'.heap.size + 1 := by simp
      rw [h2] at h1; exact h1
    obtain ⟨B1, hB1, hBle⟩ := AT
    rw [hB1] at AS
    rw [hB1]
    have hBa := Aside0.mk (show w.heap.size ≤ B1 by omega)
    have hBb := Aside0.mk (show w.heap.size ≤ B1 + 1 by omega)
    clear hBle hB1 hsz1
    go_loopw [32] (fun i wr => ∃ k : Nat, k ≤ xs.length ∧ i = .int .i64 k ∧ ∃ t l : Int, Aside0 (wr.heap[B1]? = some (.cells #[.int .i64 t, .int .i64 l] 35 (0, 0))) ∧ Aside0 (wr.heap[B1 + 1]? = some (.cells #[.int .i64 t, .int .i64 l] 37 (0, 0))) ∧ Aside0 (Below w.heap.size w wr))
      (fun i _ => xs.length - (intOf i).toNat)
    case atStart => exact ⟨0, by omega, rfl, t0, m, Aside0.mk AS.out.1, Aside0.mk AS.out.2, Aside0.mk (below_alloc (below_alloc HB.out _) _)⟩
    case round =>
      clear HB HBg hm AS
      obtain ⟨k, hk, rfl, t, l, HB1, HB2, HB⟩ := hrel
      by_cases hlt : k < xs.length
      · obtain ⟨ad', e1, hc⟩ := HX.out.2.2 (by omega)
        obtain rfl : ad = ad' := Option.some.inj e1
        have hck : wr.cell? (ad.add k) = some (.int .i64 (xs.getD k 0)) := (HB.out.cell (World.block_lt_of_cell? _ _ (hc k hlt))).trans (hc k hlt)
        clear hc e1
        generalize xs.getD k 0 = x at hck
        obtain ⟨r1, r2, r3, g1, g2⟩ := takes_same t l x
        have G1 := Aside0.mk g1
        have G2 := Aside0.mk g2
        clear g1 g2
        have c10 : wr.cell? ⟨B1, 0, none⟩ = some (.int .i64 t) := (blk_cell HB1.out 0).trans rfl
        have c11 : wr.cell? ⟨B1, 1, none⟩ = some (.int .i64 l) := (blk_cell HB1.out 1).trans rfl
        have c20 : wr.cell? ⟨B1 + 1, 0, none⟩ = some (.int .i64 t) := (blk_cell HB2.out 0).trans rfl
        have c21 : wr.cell? ⟨B1 + 1, 1, none⟩ = some (.int .i64 l) := (blk_cell HB2.out 1).trans rfl
        go_wp2_with (first
          | (go_at_call 15; refine (slot_Budget_Take.calls t l x r1 r2 r3 _ G1.out).mono ?_; rintro e w2 ⟨rfl, hb⟩; have n1 := Aside0.mk (blk_below HB1.out hb); have n2 := Aside0.mk (blk_below HB2.out hb); have n0 := Aside0.mk (below_step HB.out hb); clear HB HB1 HB2 hb c10 c11 c20 c21 hck; have HB := n0; have HB1 := n1; have HB2 := n2; clear n0 n1 n2; have c10 : w2.cell? ⟨B1, 0, none⟩ = some (.int .i64 t) := (blk_cell HB1.out 0).trans rfl; have c11 : w2.cell? ⟨B1, 1, none⟩ = some (.int .i64 l) := (blk_cell HB1.out 1).trans rfl; have c20 : w2.cell? ⟨B1 + 1, 0, none⟩ = some (.int .i64 t) := (blk_cell HB2.out 0).trans rfl; have c21 : w2.cell? ⟨B1 + 1, 1, none⟩ = some (.int .i64 l) := (blk_cell HB2.out 1).trans rfl; have f10 := blk_frozen HB1.out 0; have f11 := blk_frozen HB1.out 1)
          | (go_at_call 16; refine (precinctref17_Take.calls t l x r1 r2 r3 _ G2.out).mono ?_; rintro e w3 ⟨rfl, hb⟩; have n1 := Aside0.mk (blk_below (blk_put (blk_put HB1.out 0 (.int .i64 r1) rfl) 1 (.int .i64 r2) rfl) hb); have n2 := Aside0.mk (blk_below (blk_far (blk_far HB2.out (p := ⟨B1, 0, none⟩) (by simp) (.int .i64 r1)) (p := ⟨B1, 1, none⟩) (by simp) (.int .i64 r2)) hb); have n0 := Aside0.mk (below_step (below_set (below_set HB.out (j := 0) (v := .int .i64 r1) hBa.out) (j := 1) (v := .int .i64 r2) hBa.out) hb); clear HB HB1 HB2 hb c10 c11 c20 c21 f10 f11; have HB := n0; have HB1 := n1; have HB2 := n2; clear n0 n1 n2; have c10 : w3.cell? ⟨B1, 0, none⟩ = some (.int .i64 r1) := (blk_cell HB1.out 0).trans rfl; have c11 : w3.cell? ⟨B1, 1, none⟩ = some (.int .i64 r2) := (blk_cell HB1.out 1).trans rfl; have c20 : w3.cell? ⟨B1 + 1, 0, none⟩ = some (.int .i64 t) := (blk_cell HB2.out 0).trans rfl; have c21 : w3.cell? ⟨B1 + 1, 1, none⟩ = some (.int .i64 l) := (blk_cell HB2.out 1).trans rfl; have f20 := blk_frozen HB2.out 0; have f21 := blk_frozen HB2.out 1))
        go_roundw
        case rel => exact ⟨k + 1, by omega, by go_num, r1, r2, Aside0.mk (blk_far (blk_far HB1.out (p := ⟨B1 + 1, 0, none⟩) (by simp) (.int .i64 r1)) (p := ⟨B1 + 1, 1, none⟩) (by simp) (.int .i64 r2)), Aside0.mk (blk_put (blk_put HB2.out 0 (.int .i64 r1) rfl) 1 (.int .i64 r2) rfl), Aside0.mk (below_set (below_set HB.out (j := 0) (v := .int .i64 r1) hBb.out) (j := 1) (v := .int .i64 r2) hBb.out)⟩
        case measure => simp [intOf]; omega
      · go_wp2_with (go_at_call 8; refine (wakes_calls _).mono ?_; rintro e w' ⟨rfl, hb⟩; have n0 := Aside0.mk (below_step HB.out hb); clear HB hb; have HB := n0; clear n0)
        go_ret
        exact ⟨by simp, HB.out⟩
end Go.Proofs.Yteffgoaadoeinaa.MineBudgets
