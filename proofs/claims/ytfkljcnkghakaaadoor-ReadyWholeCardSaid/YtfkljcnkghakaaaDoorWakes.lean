/- The walks of precinctlaw13.wakes, ReadyOrders, ReadyReady. Conditions: the table deBruijn32tab holds its numbers; the masks are numbers of 32 bits. -/
import Derived.Test.YtfkljcnkghakaaaDoorDepths
namespace Go.Proofs.YtfkljcnkghakaaaDoor.Masks
open Go.RowKit Go.Proofs.YtfkljcnkghakaaaDoor.PReadyOrders Go.Proofs.YtfkljcnkghakaaaDoorW.PrintWords Go.Proofs.YtfkljcnkghakaaaDoorW.PrintLast Go.Proofs.YtfkljcnkghakaaaDoorW.PrintMore
attribute [local go_sem] max2_int min2_int
set_option linter.unusedVariables false

theorem below_of_drawn {w w' : World} (h : Drawn0 w w') : Below w.heap.size w w' := by obtain ⟨n, rfl⟩ := h; exact pw_below_drewN (Below.refl _ _) n
theorem equal_loop (l : List Int) (hl : l.length ≤ 1000) (d : Nat) : ∀ (k i : Nat), i ≤ l.length → l.length - i = d → d < k → precinctlaw13_equal.l0 k l l (l.length : Int) (i : Int) = some true := by
  induction d with
  | zero =>
    intro k i h1 h2 hk
    obtain ⟨k, rfl⟩ : ∃ m, k = m + 1 := ⟨k - 1, by omega⟩
    simp only [precinctlaw13_equal.l0]
    rw [if_neg (by omega)]
  | succ d ih =>
    intro k i h1 h2 hk
    obtain ⟨k, rfl⟩ : ∃ m, k = m + 1 := ⟨k - 1, by omega⟩
    simp only [precinctlaw13_equal.l0]
    rw [if_pos (by omega), if_pos (by omega), if_pos (by omega), if_pos (by omega), if_pos trivial, wrap_succ i (by omega)]
    exact ih k (i + 1) (by omega) (by omega) (by omega)
theorem equal_calls (l : List Int) (hl : l.length ≤ 1000) (A0 : Option Addr) (c0 : Nat) (A1 : Option Addr) (c1 : Nat) (w : World) (hr0 : Kd.C (Kd.int .i64) w A0 l.length l) (hc0 : l.length ≤ c0) (hr1 : Kd.C (Kd.int .i64) w A1 l.length l) (hc1 : l.length ≤ c1) :
    Calls Tryd.prog 10 #[.slice A0 l.length c0, .slice A1 l.length c1] w fun e w' => e = .returned (.bool true) ∧ Below w.heap.size w w' :=
  (precinctlaw13_equal.calls (l.length + 1) A0 c0 l A1 c1 l true w hr0 hc0 hr1 hc1 (by
    unfold precinctlaw13_equal.f
    rw [if_pos rfl]
    exact equal_loop l hl l.length (l.length + 1) 0 (by omega) (by omega) (by omega))).mono fun e w' ⟨h1, h2⟩ => ⟨h1, below_of_drawn h2⟩
theorem ordL_short (xs : List Int) : (ordL xs).length ≤ 1000 := by
  have h1 := good_len (good_order (n := nn xs) (dep := dep xs))
  have h2 := nn_le xs
  simp [ordL]; omega
theorem depL_short (xs : List Int) : (depL xs).length ≤ 1000 := by rw [depL_len]; have := nn_le xs; omega
theorem bits_short (m : Nat) : (natsOf (bitsOf m)).length ≤ 1000 := by have := bitsOf_len m; simp [natsOf]; omega

theorem wk_ord : ordL [0, 1, 3] = [0, 1, 2] := by decide +kernel
theorem wk_dep : depL [0, 1, 3] = [1, 2, 3] := by decide +kernel
theorem wk_list : natsOf (bitsOf 5) = [0, 2] := by decide +kernel
theorem wk_ready : ready_Ready.f 40 [0, 1, 3] 1 = some 2 := by decide +kernel
theorem wk_behind : ready_Behind.f 40 [0, 1, 3] 0 = some 6 := by decide +kernel
theorem wk_u32 : U32 [0, 1, 3] := by
  intro x hx
  simp only [List.mem_cons, List.not_mem_nil, or_false] at hx
  rcases hx with rfl | rfl | rfl <;> decide +kernel

set_option maxHeartbeats 2000000 in
set_option maxRecDepth 100000 in
theorem wakes_calls (w : World) (hT : Tab w) : Calls Tryd.prog 9 #[] w fun e w' => e = .returned (.bool true) ∧ Below w.heap.size w w' := by
  have HT := Aside0.mk hT
  have HB := Aside0.mk (Below.refl w.heap.size w)
  clear hT
  go_enter Tryd.func9, Tryd.ntmps9
  go_upto_region 2 with (first | ((with_reducible refine gate_dst (N := 2) rfl ?_); go_loud (refine Kd.R_lit (Kd.int .u32) _ 28 rfl rfl (xs := [0, 1, 3]) (inner := [.int .u32 0, .int .u32 1, .int .u32 3]) (ok := fun _ => True) (okp := fun _ => True) (by first | (go_simp; done) | (go_simp; rfl)) (Kd.reps_scalar (enc := Value.int .u32) [0, 1, 3]) (fun _ h => h) trivial (Below.refl _ _) (Nat.le_refl _) (by decide) ?_; intro v1 w1 ho hb hg hnew; obtain ⟨A1, c1, rfl⟩ := Kd.R_slice ho; have HM := Aside0.mk ho; have n0 := Aside0.mk (below_step HB.out hb); clear HB ho hb hg hnew; have HB := n0; clear n0)))
  go_wp2_with (first
    | (go_at_call 11; go_loud (refine (order_calls [0, 1, 3] wk_u32 _ _ _ (Kd.R_reads' HM.out).2.2 (Kd.R_reads' HM.out).2.1 (HT.out.below HT.out.pos HB.out)).mono ?_; rintro e w' ⟨v2, rfl, ho, hb⟩; rw [wk_ord] at ho; obtain ⟨A2, c2, rfl⟩ := Kd.R_slice ho; have m0 := Aside0.mk (Kd.R_below HM.out hb); have n0 := Aside0.mk (below_step HB.out hb); clear HB HM; have HB := n0; have HM := m0; clear n0 m0; have HX := Aside0.mk ho; clear ho hb))
    | (go_at_call 13; go_loud (refine (depths_calls [0, 1, 3] wk_u32 _ _ _ (Kd.R_reads' HM.out).2.2 (Kd.R_reads' HM.out).2.1 (HT.out.below HT.out.pos HB.out)).mono ?_; rintro e w' ⟨v2, rfl, ho, hb⟩; rw [wk_dep] at ho; obtain ⟨A2, c2, rfl⟩ := Kd.R_slice ho; have m0 := Aside0.mk (Kd.R_below HM.out hb); have n0 := Aside0.mk (below_step HB.out hb); clear HB HM; have HB := n0; have HM := m0; clear n0 m0; have HX := Aside0.mk ho; clear ho hb))
    | (go_at_call 17; go_loud (refine (list_calls 5 (by decide) _ (HT.out.below HT.out.pos HB.out)).mono ?_; rintro e w' ⟨v2, rfl, ho, hb⟩; rw [wk_list] at ho; obtain ⟨A2, c2, rfl⟩ := Kd.R_slice ho; have m0 := Aside0.mk (Kd.R_below HM.out hb); have n0 := Aside0.mk (below_step HB.out hb); clear HB HM; have HB := n0; have HM := m0; clear n0 m0; have HX := Aside0.mk ho; clear ho hb))
    | ((with_reducible refine gate_dst (N := 5) rfl ?_); go_loud (refine Kd.R_lit (Kd.int .i64) _ 3 rfl rfl (xs := [0, 1, 2]) (inner := [.int .i64 0, .int .i64 1, .int .i64 2]) (ok := fun _ => True) (okp := fun _ => True) (by first | (go_simp; done) | (go_simp; rfl)) (Kd.reps_scalar (enc := Value.int .i64) [0, 1, 2]) (fun _ h => h) trivial (Below.refl _ _) (Nat.le_refl _) (by decide) ?_; intro v1 w1 ho hb hg hnew; obtain ⟨A1, c1, rfl⟩ := Kd.R_slice ho; have x0 := Aside0.mk (Kd.R_below HX.out hb); clear HX; have HX := x0; clear x0; have m0 := Aside0.mk (Kd.R_below HM.out hb); have n0 := Aside0.mk (below_step HB.out hb); clear HB HM; have HB := n0; have HM := m0; clear n0 m0; have HY := Aside0.mk ho; clear ho hb hg hnew))
    | ((with_reducible refine gate_dst (N := 20) rfl ?_); go_loud (refine wpList_step fun K hK => ?_; refine Kd.R_lit_step (Kd.int .i64) _ 3 rfl (N := 20) rfl (xs := [1, 2, 3]) (inner := [.int .i64 1, .int .i64 2, .int .i64 3]) (ok := fun _ => True) (okp := fun _ => True) (by first | (go_simp; done) | (go_simp; rfl)) (Kd.reps_scalar (enc := Value.int .i64) [1, 2, 3]) (fun _ h => h) trivial (Below.refl _ _) (Nat.le_refl _) (by decide) ?_; intro v1 w1 ho hb hg hnew; refine hK _ _ ?_; clear hK K; obtain ⟨A1, c1, rfl⟩ := Kd.R_slice ho; have x0 := Aside0.mk (Kd.R_below HX.out hb); clear HX; have HX := x0; clear x0; have m0 := Aside0.mk (Kd.R_below HM.out hb); have n0 := Aside0.mk (below_step HB.out hb); clear HB HM; have HB := n0; have HM := m0; clear n0 m0; have HY := Aside0.mk ho; clear ho hb hg hnew))
    | ((with_reducible refine gate_dst (N := 25) rfl ?_); go_loud (refine wpList_step fun K hK => ?_; refine Kd.R_lit_step (Kd.int .i64) _ 3 rfl (N := 25) rfl (xs := [0, 2]) (inner := [.int .i64 0, .int .i64 2]) (ok := fun _ => True) (okp := fun _ => True) (by first | (go_simp; done) | (go_simp; rfl)) (Kd.reps_scalar (enc := Value.int .i64) [0, 2]) (fun _ h => h) trivial (Below.refl _ _) (Nat.le_refl _) (by decide) ?_; intro v1 w1 ho hb hg hnew; refine hK _ _ ?_; clear hK K; obtain ⟨A1, c1, rfl⟩ := Kd.R_slice ho; have x0 := Aside0.mk (Kd.R_below HX.out hb); clear HX; have HX := x0; clear x0; have m0 := Aside0.mk (Kd.R_below HM.out hb); have n0 := Aside0.mk (below_step HB.out hb); clear HB HM; have HB := n0; have HM := m0; clear n0 m0; have HY := Aside0.mk ho; clear ho hb hg hnew))
    | (go_at_call 10; go_loud (refine (equal_calls _ (by simp) _ _ _ _ _ (Kd.R_reads' HX.out).2.2 (Kd.R_reads' HX.out).2.1 (Kd.R_reads' HY.out).2.2 (Kd.R_reads' HY.out).2.1).mono ?_; rintro e w' ⟨rfl, hb⟩; have m0 := Aside0.mk (Kd.R_below HM.out hb); have n0 := Aside0.mk (below_step HB.out hb); clear HB HM; have HB := n0; have HM := m0; clear n0 m0; clear hb HX HY))
    | (go_at_call 15; go_loud (refine (ready_Ready.calls 40 _ _ [0, 1, 3] 1 2 _ (Kd.R_reads' HM.out).2.2 (Kd.R_reads' HM.out).2.1 wk_ready).mono ?_; rintro e w' ⟨rfl, hb⟩; have m0 := Aside0.mk (Kd.R_below HM.out hb); have n0 := Aside0.mk (below_step HB.out hb); clear HB HM; have HB := n0; have HM := m0; clear n0 m0; clear hb))
    | (go_at_call 19; go_loud (refine (ready_Behind.calls 40 _ _ [0, 1, 3] 0 6 _ (Kd.R_reads' HM.out).2.2 (Kd.R_reads' HM.out).2.1 wk_behind).mono ?_; rintro e w' ⟨rfl, hb⟩; have m0 := Aside0.mk (Kd.R_below HM.out hb); have n0 := Aside0.mk (below_step HB.out hb); clear HB HM; have HB := n0; have HM := m0; clear n0 m0; clear hb)))
  go_ret
  exact ⟨rfl, HB.out⟩
end Go.Proofs.YtfkljcnkghakaaaDoor.Masks
