/- QueueFirst: the walk. Condition: the items' numbers are numbers of 64 bits. -/
import Derived.Test.YtcnecdlphpkmgaaQApart
namespace Go.Proofs.Ytcnecdlphpkmgaa.Q
open Go.RowKit Go.Proofs.YtcnecdlphpkmgaaW.PrintWords Go.Proofs.YtcnecdlphpkmgaaW.PrintLast Go.Proofs.YtcnecdlphpkmgaaW.PrintMore
attribute [local go_sem] max2_int min2_int
attribute [local go_sem high] eqA31
set_option linter.unusedVariables false
set_option linter.unusedSimpArgs false

set_option maxHeartbeats 4000000 in
set_option maxRecDepth 100000 in
theorem first_walk (A : Option Addr) (c : Nat) (xs : List Item) (W : World) (hr : Kd.C KI W A xs.length xs) (hc : xs.length ≤ c) (hw : ∀ x ∈ xs, wfI x) :
    Calls Try.prog 5 #[.slice A xs.length c] W fun e W' => e = .returned (.bool true) ∧ Below W.heap.size W W' := by
  obtain ⟨ys, hys⟩ : ∃ ys, ys = xs.take 200 := ⟨_, rfl⟩
  have hyl : ys.length = min 200 xs.length := by rw [hys, List.length_take]
  have hm1 : (if (200 : Int) < (xs.length : Int) then (200 : Int) else (xs.length : Int)) = (ys.length : Int) := by rw [hyl]; split <;> omega
  have hyc : ys.length ≤ c := by omega
  have hyn : ys.length ≤ 200 := by omega
  have hyx : ys.length ≤ xs.length := by omega
  have HR := Aside0.mk (show Kd.C KI W A ys.length ys by have := C_take hr (m := ys.length) hyx; rwa [show xs.take ys.length = ys by rw [hys, List.length_take]; simp [List.take_take]] at this)
  have HWF := Aside0.mk (show ∀ x ∈ ys, wfI x from fun x hx => hw x (by rw [hys] at hx; exact List.mem_of_mem_take hx))
  have HN := Aside0.mk (show Calls Try.prog 8 #[.slice none 0 0] W (fun e W' => ∃ qb, e = .returned (.tuple #[.pointer (some ⟨qb, 0, none⟩), .int .i64 0]) ∧ IsQ (Off (.slice none 0 0)) W.heap.size W' qb [] 0 ∧ Below W.heap.size W W') from new_ok (Off (.slice none 0 0)) W none 0 [] [] ⟨rfl, by decide, fun h => by simp at h⟩ (by simp) (by simp) rfl (fun k _ => off_nil k))
  clear hr hw hys hyl
  go_enter Try.func5, Try.ntmps5
  go_upto_region 2 with (first | (go_at_call 8; go_loud (refine HN.out.mono ?_; rintro e w1 ⟨qb, rfl, hq, hb⟩; have HQ := Aside0.mk hq; have HB := Aside0.mk hb; have hsz1 := hb.size; clear hq hb)))
  go_upto_region 5 with (first | (go_at_call 9; go_loud (refine (wakes_calls _).mono ?_; rintro e w2 ⟨rfl, hb⟩; have q0 := Aside0.mk (HQ.out.below hb); have n0 := Aside0.mk (below_step HB.out hb); have hsz2 := hb.size; clear HB HQ hb; have HB := n0; have HQ := q0; clear n0 q0)))
  have HI := Aside0.mk (Kd.Q_nil KI 31 w2 W.heap.size (fun _ => True))
  go_wp2
  go_loopw [5, 7, 32] (fun v5 _ v32 wr => ∃ (p : Int) (i : Nat) (acc : List Item) (A5 : Option Addr) (c5 : Nat), v5 = .slice A5 acc.length c5 ∧ v32 = .int .i64 p ∧ Aside0 (p = (i : Int)) ∧ i ≤ ys.length ∧ acc.length ≤ 256 ∧
      Aside0 (IsQ (Off (.slice A5 acc.length c5)) W.heap.size wr qb acc i) ∧ Aside0 (KI.Q 31 wr W.heap.size (fun _ => True) (.slice A5 acc.length c5) acc) ∧ Aside0 (Below W.heap.size W wr)) (fun _ _ v32 _ => ys.length - (intOf v32).toNat)
  case atStart => exact ⟨_, 0, [], none, 0, rfl, rfl, Aside0.mk rfl, by omega, by simp, HQ, HI, HB⟩
  case round =>
    clear HQ HI HB hsz1 hsz2
    obtain ⟨p, i, acc, A5, c5, rfl, rfl, HP, hi, hal, HQ, HI, HB⟩ := hrel
    by_cases hin : i < ys.length
    · have hlt : decide (p < (ys.length : Int)) = true := decide_eq_true (by rw [HP.out]; omega)
      have hp0 : 0 ≤ p := by rw [HP.out]; omega
      have hp1 : p < (ys.length : Int) := by rw [HP.out]; omega
      have HW : Aside0 (p + 1 = ((i + 1 : Nat) : Int)) := Aside0.mk (by rw [HP.out]; omega)
      obtain ⟨ad, e, hx0, hx1⟩ := at_Ip (Kd.C_below HR.out HB.out) p hp0 hp1
      cases e
      have hrd : rdI ys p = ys.getD i (0, 0) := by unfold rdI; rw [HP.out]; rfl
      rw [hrd] at hx0 hx1
      have HWX := Aside0.mk (HWF.out _ (getD_mem ys i hin))
      clear hrd
      generalize hX : ys.getD i (0, 0) = X at *
      obtain ⟨r, nd⟩ := X
      clear hX
      have hszr := HB.out.size
      go_upto_region 8 with (fail)
      have hb1 := below_alloc (Below.refl wr.heap.size wr) (.cells #[.int .i64 r, .int .i64 nd] 29)
      have hbk1 := blk_new wr (.cells #[.int .i64 r, .int .i64 nd] 29)
      have HQ1 := Aside0.mk ((HQ.out.own (M' := fun k => Off (.slice A5 acc.length c5) k ∧ k ≠ wr.heap.size) (fun k hk hlt => ⟨hk, by omega⟩)).below hb1)
      have HI1 := Aside0.mk (Kd.Q_below HI.out hb1)
      have HB1 := Aside0.mk (below_step HB.out hb1)
      have hsz1 : (wr.alloc (.cells #[.int .i64 r, .int .i64 nd] 29)).heap.size = wr.heap.size + 1 := by simp
      have hz10 : (wr.alloc (.cells #[.int .i64 r, .int .i64 nd] 29)).cell? ⟨wr.heap.size, 0, none⟩ = some (.int .i64 r) := (blk_cell hbk1 0).trans rfl
      have hz11 : (wr.alloc (.cells #[.int .i64 r, .int .i64 nd] 29)).cell? ⟨wr.heap.size, 1, none⟩ = some (.int .i64 nd) := (blk_cell hbk1 1).trans rfl
      clear hb1 hx0 hx1 HQ HB HI
      generalize wr.alloc (.cells #[.int .i64 r, .int .i64 nd] 29) = w1 at *
      generalize hgb : wr.heap.size = gb at *
      have hCL := push_calls _ W.heap.size w1 qb i acc (r, nd) HQ1.out HWX.out (by omega) (by omega) (fun k hk => ⟨off_fresh HI1.out k hk, by omega⟩)
      by_cases hE : pushE acc (r, nd) = 0
      · have hnz : (pushE acc (r, nd) == 0) = true := by simp [hE]
        have hnz2 : decide (pushE acc (r, nd) = 0) = true := decide_eq_true hE
        rw [pushL_ok acc (r, nd) hE] at hCL
        have HCL := Aside0.mk hCL
        clear hCL
        have hlen : (acc ++ [(r, nd)]).length = acc.length + 1 := by simp
        clear hE
        generalize pushE acc (r, nd) = E at *
        go_upto_region 9 with (first | (go_at_call 10; go_loud (refine HCL.out.mono ?_; rintro e w3 ⟨rfl, hq, hb⟩; have HQ3 := Aside0.mk (hq.own (M' := Off (.slice A5 acc.length c5)) (fun k hk _ => hk.1)); have HI3 := Aside0.mk (Kd.Q_mono (row_kept HI1.out ⟨hb.1, hb.2.mono (fun k h => h.1)⟩) (fun _ _ => trivial) (ok' := fun _ => True)); have HB3 := Aside0.mk (HB1.out.trans hb.1); have hbk3 := blk_kept hbk1 hb.2 (fun h => h.2 rfl); have hsz3 := hb.1.size; clear hq hb)))
        have hz30 : w3.cell? ⟨gb, 0, none⟩ = some (.int .i64 r) := (blk_cell hbk3 0).trans rfl
        have hz31 : w3.cell? ⟨gb, 1, none⟩ = some (.int .i64 nd) := (blk_cell hbk3 1).trans rfl
        have hgood := HQ3.out.good.2.1
        clear hz10 hz11 hbk1 hbk3 HQ1 HI1 HB1
        go_wp2_with (first | ((with_reducible refine gate_builtin (b := .append) (xs := #[.tmp 40, .tmp 42]) rfl ?_); at_builtin; go_loud (refine Kd.Q_append KI (w0 := W) W.heap.size rfl (.tmp 40) (.tmp 42) 32 31 (.agg #[.int .i64 0, .int .i64 0]) 16 rfl Try.underlying32 info31 rfl (by decide) (by decide) (.slice A5 acc.length c5) acc (r, nd) [.int .i64 r, .int .i64 nd] (fun _ => True) (fun _ => False) rfl rfl ?pM (fun _ hk => hk.elim) (fun _ _ => trivial) HI3.out HB3.out HB3.out.size ?pL ?_; (case pM => exact ⟨[.int .i64 r], [.int .i64 nd], rfl, rfl, rfl⟩); (case pL => omega); intro v1 w4 ho hb hg hat; obtain ⟨A6, c6, rfl, hcc⟩ := Kd.Q_slice ho; have HI4 := Aside0.mk ho; have HB4 := Aside0.mk hb; have HQ4 := Aside0.mk (HQ3.out.append hg hat); clear ho hb hg hat)))
        go_roundw
        case rel => exact ⟨_, i + 1, acc ++ [(r, nd)], A6, c6, by rw [hlen], rfl, HW, by omega, hgood, HQ4, HI4, HB4⟩
        case measure => have := HW.out; have := HP.out; simp [intOf] at *; omega
      · have hnz : (pushE acc (r, nd) == 0) = false := by simp [hE]
        have hnz2 : decide (pushE acc (r, nd) = 0) = false := decide_eq_false hE
        rw [pushL_no acc (r, nd) hE] at hCL
        have HCL := Aside0.mk hCL
        clear hCL
        clear hE
        generalize pushE acc (r, nd) = E at *
        go_wp2_with (first | (go_at_call 10; go_loud (refine HCL.out.mono ?_; rintro e w3 ⟨rfl, hq, hb⟩; have HQ3 := Aside0.mk (hq.own (M' := Off (.slice A5 acc.length c5)) (fun k hk _ => hk.1)); have HI3 := Aside0.mk (Kd.Q_mono (row_kept HI1.out ⟨hb.1, hb.2.mono (fun k h => h.1)⟩) (fun _ _ => trivial) (ok' := fun _ => True)); have HB3 := Aside0.mk (HB1.out.trans hb.1); clear hq hb)))
        go_roundw
        case rel => exact ⟨_, i + 1, acc, A5, c5, rfl, rfl, HW, by omega, hal, HQ3, HI3, HB3⟩
        case measure => have := HW.out; have := HP.out; simp [intOf] at *; omega
    · have hlt : decide (p < (ys.length : Int)) = false := decide_eq_false (by rw [HP.out]; omega)
      clear HP
      go_wp2
      go_loopw [8, 9, 47] (fun _ _ v47 wr => ∃ (q : Int) (j : Nat), v47 = .int .i64 q ∧ Aside0 (q = (j : Int)) ∧ j ≤ acc.length ∧
          Aside0 (IsQ (Off (.slice A5 acc.length c5)) W.heap.size wr qb acc i) ∧ Aside0 (KI.Q 31 wr W.heap.size (fun _ => True) (.slice A5 acc.length c5) acc) ∧ Aside0 (Below W.heap.size W wr)) (fun _ _ v47 _ => acc.length - (intOf v47).toNat)
      case atStart => exact ⟨_, 0, rfl, Aside0.mk rfl, by omega, HQ, HI, HB⟩
      case round =>
        clear HQ HI HB
        obtain ⟨q, j, rfl, HJ, hj, HQ, HI, HB⟩ := hrel
        by_cases hjn : j < acc.length
        · have hlt2 : decide (q < (acc.length : Int)) = true := decide_eq_true (by rw [HJ.out]; omega)
          have hq0 : 0 ≤ q := by rw [HJ.out]; omega
          have hq1 : q < (acc.length : Int) := by rw [HJ.out]; omega
          have HW : Aside0 (q + 1 = ((j + 1 : Nat) : Int)) := Aside0.mk (by rw [HJ.out]; omega)
          obtain ⟨ad, e, hx0, hx1⟩ := at_Ip (Kd.Q_reads' HI.out).2.2 q hq0 hq1
          cases e
          have hrd : rdI acc q = acc.getD j (0, 0) := by unfold rdI; rw [HJ.out]; rfl
          rw [hrd] at hx0 hx1
          have HA := aheadE_get acc HQ.out.good.1 j hjn
          clear hrd
          generalize acc.getD j (0, 0) = X at *
          obtain ⟨r, nd⟩ := X
          go_upto_region 14 with (fail)
          have hb1 := below_alloc (Below.refl wr.heap.size wr) (.cells #[.int .i64 r, .int .i64 nd] 31)
          have hbk1 := blk_new wr (.cells #[.int .i64 r, .int .i64 nd] 31)
          have HQ1 := Aside0.mk (HQ.out.below hb1)
          have HI1 := Aside0.mk (Kd.Q_below HI.out hb1)
          have HB1 := Aside0.mk (below_step HB.out hb1)
          have hz10 : (wr.alloc (.cells #[.int .i64 r, .int .i64 nd] 31)).cell? ⟨wr.heap.size, 0, none⟩ = some (.int .i64 r) := (blk_cell hbk1 0).trans rfl
          have hz11 : (wr.alloc (.cells #[.int .i64 r, .int .i64 nd] 31)).cell? ⟨wr.heap.size, 1, none⟩ = some (.int .i64 nd) := (blk_cell hbk1 1).trans rfl
          clear hb1 hx0 hx1 HQ HB HI hbk1
          generalize wr.alloc (.cells #[.int .i64 r, .int .i64 nd] 31) = w1 at *
          generalize wr.heap.size = gb at *
          have hCL := ahead_calls _ W.heap.size w1 qb i acc (r, nd) HQ1.out
          rw [HA, ← HJ.out] at hCL
          have HCL := Aside0.mk hCL
          clear hCL HA
          go_wp2_with (first | (go_at_call 19; go_loud (refine HCL.out.mono ?_; rintro e w3 ⟨rfl, hb⟩; have HQ3 := Aside0.mk (HQ1.out.below hb); have HI3 := Aside0.mk (Kd.Q_below HI1.out hb); have HB3 := Aside0.mk (below_step HB1.out hb); clear hb)))
          go_roundw
          case rel => exact ⟨_, j + 1, rfl, HW, by omega, HQ3, HI3, HB3⟩
          case measure => have := HW.out; have := HJ.out; simp [intOf] at *; omega
        · have hlt2 : decide (q < (acc.length : Int)) = false := decide_eq_false (by rw [HJ.out]; omega)
          clear HJ
          go_wp2
          go_loopw [10, 11, 12, 13, 60] (fun _ _ _ _ v60 wr => ∃ (q : Int) (j : Nat), v60 = .int .i64 q ∧ Aside0 (q = (j : Int)) ∧ j ≤ acc.length ∧
              Aside0 (IsQ (Off (.slice A5 acc.length c5)) W.heap.size wr qb (acc.drop j) i) ∧ Aside0 (KI.Q 31 wr W.heap.size (fun _ => True) (.slice A5 acc.length c5) acc) ∧ Aside0 (Below W.heap.size W wr) ∧ Aside0 (Good acc)) (fun _ _ _ _ v60 _ => acc.length - (intOf v60).toNat)
          case atStart => exact ⟨_, 0, rfl, Aside0.mk rfl, by omega, HQ, HI, HB, Aside0.mk HQ.out.good⟩
          case round =>
            clear HQ HI HB
            obtain ⟨q, j, rfl, HJ, hj, HQ, HI, HB, HG⟩ := hrel
            by_cases hjn : j < acc.length
            · have hlt2 : decide (q < (acc.length : Int)) = true := decide_eq_true (by rw [HJ.out]; omega)
              have hq0 : 0 ≤ q := by rw [HJ.out]; omega
              have hq1 : q < (acc.length : Int) := by rw [HJ.out]; omega
              have HW : Aside0 (q + 1 = ((j + 1 : Nat) : Int)) := Aside0.mk (by rw [HJ.out]; omega)
              obtain ⟨ad, e, hx0, hx1⟩ := at_Ip (Kd.Q_reads' HI.out).2.2 q hq0 hq1
              cases e
              have hrd : rdI acc q = acc.getD j (0, 0) := by unfold rdI; rw [HJ.out]; rfl
              rw [hrd] at hx0 hx1
              have HA := aheadE_drop acc HG.out.1 j (acc.length - 1) (by omega) (by omega)
              have HNI := not_in_drop acc HG.out.1 j hjn
              have HWX := HG.out.2.2 _ (getD_mem acc j hjn)
              have HD := drop_getD acc j hjn
              clear hrd
              generalize acc.getD j (0, 0) = X at *
              obtain ⟨r, nd⟩ := X
              go_upto_region 20 with (fail)
              have hb1 := below_alloc (Below.refl wr.heap.size wr) (.cells #[.int .i64 r, .int .i64 nd] 31)
              have hbk1 := blk_new wr (.cells #[.int .i64 r, .int .i64 nd] 31)
              have HQ1 := Aside0.mk ((HQ.out.own (M' := fun k => Off (.slice (some ad) acc.length c5) k ∧ k ≠ wr.heap.size) (fun k hk hlt => ⟨hk, by omega⟩)).below hb1)
              have HI1 := Aside0.mk (Kd.Q_below HI.out hb1)
              have HB1 := Aside0.mk (below_step HB.out hb1)
              have hsz1 : (wr.alloc (.cells #[.int .i64 r, .int .i64 nd] 31)).heap.size = wr.heap.size + 1 := by simp
              have hz10 : (wr.alloc (.cells #[.int .i64 r, .int .i64 nd] 31)).cell? ⟨wr.heap.size, 0, none⟩ = some (.int .i64 r) := (blk_cell hbk1 0).trans rfl
              have hz11 : (wr.alloc (.cells #[.int .i64 r, .int .i64 nd] 31)).cell? ⟨wr.heap.size, 1, none⟩ = some (.int .i64 nd) := (blk_cell hbk1 1).trans rfl
              have hszr := HB.out.size
              clear hb1 hx0 hx1 HQ HB HI
              generalize wr.alloc (.cells #[.int .i64 r, .int .i64 nd] 31) = w1 at *
              generalize wr.heap.size = gb at *
              obtain ⟨ad2, e2, hy0, hy1⟩ := at_I (Kd.Q_reads' HI1.out).2.2 (acc.length - 1) (by omega)
              cases e2
              generalize acc.getD (acc.length - 1) (0, 0) = Y at *
              obtain ⟨r2, nd2⟩ := Y
              have hCL := ahead_calls _ W.heap.size w1 qb i (acc.drop j) (r2, nd2) HQ1.out
              rw [HA, show ((acc.length - 1 - j : Nat) : Int) = (acc.length : Int) - 1 - q by rw [HJ.out]; omega] at hCL
              have HCL := Aside0.mk hCL
              have hl0 : decide (0 ≤ (acc.length : Int) - 1) = true := decide_eq_true (by omega)
              have hl1 : decide ((acc.length : Int) - 1 < (acc.length : Int)) = true := decide_eq_true (by omega)
              clear hCL HA
              go_upto_region 22 with (first | (go_at_call 19; go_loud (refine HCL.out.mono ?_; rintro e w3 ⟨rfl, hb⟩; have HQ3 := Aside0.mk (HQ1.out.below hb); have HI3 := Aside0.mk (Kd.Q_below HI1.out hb); have HB3 := Aside0.mk (below_step HB1.out hb); have hbk3 := blk_below hbk1 hb; have hsz3 := hb.size; clear hb)))
              have hPop := pop_calls _ W.heap.size w3 qb i (acc.drop j) HQ3.out (by omega)
              rw [HD] at hPop
              have HPop := Aside0.mk (show Calls Try.prog 14 #[.pointer (some ⟨qb, 0, none⟩)] w3 (fun e W' => e = .returned (.tuple #[.agg #[.int .i64 r, .int .i64 nd], .bool true]) ∧ IsQ (fun k => Off (.slice (some ad) acc.length c5) k ∧ k ≠ gb) W.heap.size W' qb (acc.drop (j + 1)) i ∧ Fr W.heap.size (fun k => Off (.slice (some ad) acc.length c5) k ∧ k ≠ gb) w3 W') from hPop)
              clear hPop hz10 hz11 hy0 hy1 hbk1 HQ1 HI1 HB1
              go_upto_region 23 with (first | (go_at_call 14; go_loud (refine HPop.out.mono ?_; rintro e w4 ⟨rfl, hq, hb⟩; have HQ4 := Aside0.mk (hq.own (M' := Off (.slice (some ad) acc.length c5)) (fun k hk _ => hk.1)); have HI4 := Aside0.mk (Kd.Q_mono (row_kept HI3.out ⟨hb.1, hb.2.mono (fun k h => h.1)⟩) (fun _ _ => trivial) (ok' := fun _ => True)); have HB4 := Aside0.mk (HB3.out.trans hb.1); have hbk4 := blk_kept hbk3 hb.2 (fun h => h.2 rfl); have hsz4 := hb.1.size; clear hq hb)))
              have hb5 := below_alloc (Below.refl w4.heap.size w4) (.cells #[.int .i64 r, .int .i64 nd] 31)
              have hbk5 := blk_new w4 (.cells #[.int .i64 r, .int .i64 nd] 31)
              have HQ5 := Aside0.mk (HQ4.out.below hb5)
              have HI5 := Aside0.mk (Kd.Q_below HI4.out hb5)
              have HB5 := Aside0.mk (below_step HB4.out hb5)
              have hz0 : (w4.alloc (.cells #[.int .i64 r, .int .i64 nd] 31)).cell? ⟨gb, 0, none⟩ = some (.int .i64 r) := (blk_cell (blk_below hbk4 hb5) 0).trans rfl
              have hz1 : (w4.alloc (.cells #[.int .i64 r, .int .i64 nd] 31)).cell? ⟨gb, 1, none⟩ = some (.int .i64 nd) := (blk_cell (blk_below hbk4 hb5) 1).trans rfl
              have hy0 : (w4.alloc (.cells #[.int .i64 r, .int .i64 nd] 31)).cell? ⟨w4.heap.size, 0, none⟩ = some (.int .i64 r) := (blk_cell hbk5 0).trans rfl
              have hy1 : (w4.alloc (.cells #[.int .i64 r, .int .i64 nd] 31)).cell? ⟨w4.heap.size, 1, none⟩ = some (.int .i64 nd) := (blk_cell hbk5 1).trans rfl
              clear hb5 HQ4 HI4 HB4 HQ3 HI3 HB3 hbk3 hbk4 hbk5 HD
              generalize w4.alloc (.cells #[.int .i64 r, .int .i64 nd] 31) = w5 at *
              generalize w4.heap.size = gc at *
              have hHas := has_calls _ W.heap.size w5 qb i (acc.drop (j + 1)) (r, nd) HQ5.out HWX
              rw [HNI] at hHas
              have HHas := Aside0.mk hHas
              clear hHas HNI
              go_wp2_with (first | (go_at_call 12; go_loud (refine HHas.out.mono ?_; rintro e w6 ⟨rfl, hb⟩; have HQ6 := Aside0.mk (HQ5.out.below hb); have HI6 := Aside0.mk (Kd.Q_below HI5.out hb); have HB6 := Aside0.mk (below_step HB5.out hb); clear hb)))
              go_roundw
              case rel => exact ⟨_, j + 1, rfl, HW, by omega, HQ6, HI6, HB6, HG⟩
              case measure => have := HW.out; have := HJ.out; simp [intOf] at *; omega
            · have hlt2 : decide (q < (acc.length : Int)) = false := decide_eq_false (by rw [HJ.out]; omega)
              have hje : acc.drop j = [] := List.drop_eq_nil_of_le (by omega)
              rw [hje] at HQ
              have hszr := HB.out.size
              have HPop := Aside0.mk (show Calls Try.prog 14 #[.pointer (some ⟨qb, 0, none⟩)] wr (fun e W' => e = .returned (.tuple #[.agg #[.int .i64 0, .int .i64 0], .bool false]) ∧ IsQ (Off (.slice A5 acc.length c5)) W.heap.size W' qb [] i ∧ Fr W.heap.size (Off (.slice A5 acc.length c5)) wr W') from pop_calls _ W.heap.size wr qb i [] HQ.out (by omega))
              go_upto_region 27 with (first | (go_at_call 14; go_loud (refine HPop.out.mono ?_; rintro e w4 ⟨rfl, hq, hb⟩; have HQ4 := Aside0.mk hq; have HB4 := Aside0.mk (HB.out.trans hb.1); clear hq hb)))
              have hb5 := below_alloc (Below.refl w4.heap.size w4) (.cells #[.int .i64 0, .int .i64 0] 31)
              have HQ5 := Aside0.mk (HQ4.out.below hb5)
              have HB5 := Aside0.mk (below_step HB4.out hb5)
              clear hb5
              generalize w4.alloc (.cells #[.int .i64 0, .int .i64 0] 31) = w5 at *
              have HL := Aside0.mk (show Calls Try.prog 11 #[.pointer (some ⟨qb, 0, none⟩)] w5 (fun e W' => ∃ A' c', e = .returned (.slice A' 0 c') ∧ Below w5.heap.size w5 W') from (list_calls _ W.heap.size w5 qb i [] HQ5.out).mono fun e w' ⟨A', c', h1, _, h3⟩ => ⟨A', c', h1, h3⟩)
              go_wp2_with (first | (go_at_call 11; go_loud (refine HL.out.mono ?_; rintro e w6 ⟨A', c', rfl, hb⟩; have HB6 := Aside0.mk (below_step HB5.out hb); clear hb)))
              go_ret
              exact ⟨by first | rfl | simp, HB6.out⟩
end Go.Proofs.Ytcnecdlphpkmgaa.Q
