/- flow: the print's functions, turned by hand where the print fell. -/
import Derived.Test.YtiipbibbppgbgaaPTopFatesx0
import Derived.Test.YtiipbibbppgbgaaPTopFatesx1
namespace Go.Proofs.Ytiipbibbppgbgaa.PTopFates
open Go.RowKit Go.Proofs.YtiipbibbppgbgaaW.PrintWords Go.Proofs.YtiipbibbppgbgaaW.PrintLast Go.Proofs.YtiipbibbppgbgaaW.PrintMore
attribute [local go_sem] max2_int min2_int max_two min_two max_three min_three max_four min_four   -- for this text's walks alone
set_option linter.unusedVariables false
set_option linter.unusedSimpArgs false

/-! ### precincttop_flow: function 4 -/
mutual
def precincttop_flow.l0 : Nat → Int → ByteArray → List (S50) → Int → Int → ByteArray → List (S43) → Option (ByteArray × (List (S43)))
  | 0, _, _, _, _, _, _, _ => none
  | k + 1, x2, x3, x20, x21, x22, x106000, x106001 => if x22 < x21 then (if 0 ≤ x22 then (if x22 < (x20.length : Int) then ((precincttop_name.f x22).bind fun t116 => (if (rd_T50 x20 x22).f1 = true then (precincttop_flow.j1 k x2 x3 x22 x20 x21 x22 (decide (x2 ≥ 0)) x106000 x106001 ((rd_T50 x20 x22).f0) ((rd_T50 x20 x22).f1) ((rd_T50 x20 x22).f2) ((rd_T50 x20 x22).f3) t116 (1 + ((mx 0 ((rd_T50 x20 x22).f2)) % 4)) (1 + ((mx 0 ((rd_T50 x20 x22).f3)) % 50)) (-1) (⟨#[]⟩ : ByteArray)) else (precincttop_flow.j1 k x2 x3 x22 x20 x21 x22 false x106000 x106001 ((rd_T50 x20 x22).f0) ((rd_T50 x20 x22).f1) ((rd_T50 x20 x22).f2) ((rd_T50 x20 x22).f3) t116 (1 + ((mx 0 ((rd_T50 x20 x22).f2)) % 4)) (1 + ((mx 0 ((rd_T50 x20 x22).f3)) % 50)) (-1) (⟨#[]⟩ : ByteArray)))) else (none)) else (none)) else (if (x106001.length : Int) = 0 then ((precincttop_name.f 0).bind fun t110 => (some (x106000, (([(⟨t110, ([] : List ByteArray), 1, 1, (-1), (⟨#[]⟩ : ByteArray)⟩ : S43)] : List (S43)))))) else (some (x106000, x106001)))
def precincttop_flow.j1 : Nat → Int → ByteArray → Int → List (S50) → Int → Int → Bool → ByteArray → List (S43) → Int → Bool → Int → Int → ByteArray → Int → Int → Int → ByteArray → Option (ByteArray × (List (S43)))
  | 0, _, _, _, _, _, _, _, _, _, _, _, _, _, _, _, _, _, _ => none
  | k + 1, x2, x3, x10, x20, x21, x22, x45, x106000, x106001, x116000, x116001, x116002, x116003, x118000, x118002, x118003, x118004, x118005 => if x45 = true then (precincttop_flow.j2 k x2 x3 x10 x20 x21 x22 x106000 x106001 x116000 x116001 x116002 x116003 x118000 1 x118003 x2 x3) else (precincttop_flow.j2 k x2 x3 x10 x20 x21 x22 x106000 x106001 x116000 x116001 x116002 x116003 x118000 x118002 x118003 x118004 x118005)
def precincttop_flow.j2 : Nat → Int → ByteArray → Int → List (S50) → Int → Int → ByteArray → List (S43) → Int → Bool → Int → Int → ByteArray → Int → Int → Int → ByteArray → Option (ByteArray × (List (S43)))
  | 0, _, _, _, _, _, _, _, _, _, _, _, _, _, _, _, _, _ => none
  | k + 1, x2, x3, x10, x20, x21, x22, x106000, x106001, x116000, x116001, x116002, x116003, x118000, x118002, x118003, x118004, x118005 => precincttop_flow.l1 k x2 x3 x20 x21 x22 x10 0 x106000 x106001 x116000 x116001 x116002 x116003 x118000 ([] : List ByteArray) x118002 x118003 x118004 x118005
def precincttop_flow.l1 : Nat → Int → ByteArray → List (S50) → Int → Int → Int → Int → ByteArray → List (S43) → Int → Bool → Int → Int → ByteArray → List ByteArray → Int → Int → Int → ByteArray → Option (ByteArray × (List (S43)))
  | 0, _, _, _, _, _, _, _, _, _, _, _, _, _, _, _, _, _, _, _ => none
  | k + 1, x2, x3, x20, x21, x22, x51, x52, x106000, x106001, x116000, x116001, x116002, x116003, x118000, x118001, x118002, x118003, x118004, x118005 => if x52 < x51 then (if 0 ≤ x52 then (if (Go.bits .and .u32 (shr .u32 x116000 x52) 1) = 1 then ((precincttop_name.f x52).bind fun t118 => (if x118001.length < 8796093022208 then (precincttop_flow.l1 k x2 x3 x20 x21 x22 x51 (wrap64 (x52 + 1)) x106000 x106001 x116000 x116001 x116002 x116003 x118000 (x118001 ++ [t118]) x118002 x118003 x118004 x118005) else (none))) else (precincttop_flow.l1 k x2 x3 x20 x21 x22 x51 (wrap64 (x52 + 1)) x106000 x106001 x116000 x116001 x116002 x116003 x118000 x118001 x118002 x118003 x118004 x118005)) else (none)) else (if x106001.length < 1759218604441 then (precincttop_flow.l0 k x2 x3 x20 x21 (wrap64 (x22 + 1)) x106000 (x106001 ++ [(⟨x118000, x118001, x118002, x118003, x118004, x118005⟩ : S43)])) else (none))
end
def precincttop_flow.f (k : Nat) (a0 : ByteArray) (l1 : List (S50)) (a2 : Int) (a3 : ByteArray) : Option (ByteArray × (List (S43))) := if 0 ≤ (mn (l1.length : Int) 12) then (if (mn (l1.length : Int) 12) ≤ (l1.length : Int) then ((some (l1.take ((mn (l1.length : Int) 12) : Int).toNat : List (S50))).bind fun y106 => (precincttop_flow.l0 k a2 a3 y106 (y106.length : Int) 0 a0 ([] : List (S43)))) else (none)) else (none)
def precincttop_flow.T5 : Bool × List (List Nat × List Nat) := (true, [([], []), ([0], [0]), ([], []), ([2], [2]), ([3], [3]), ([4], [4]), ([5], [5]), ([], []), ([7], [7]), ([8], [8]), ([9], [9]), ([10], [10]), ([1, 6, 11], [1, 6, 11]), ([], []), ([13, 12, 1, 0, 1, 2, 3, 4, 5, 6, 7, 8, 9, 10, 11, 12, 13], [12, 13])])
def precincttop_flow.B5 : List Nat := [0, 1, 0, 4, 12, 28, 60, 0, 128, 384, 896, 1920, 4095, 0, 16383]
theorem precincttop_flow.tab5 : rtab .any (opsOf Try.f4 5) = precincttop_flow.T5 := by kernel_rfl
theorem precincttop_flow.bits5 : waitsOk precincttop_flow.T5.2 precincttop_flow.B5 = true := by kernel_rfl
def precincttop_flow.T12 : Bool × List (List Nat × List Nat) := (true, [([], []), ([0], [0]), ([], []), ([2], [2]), ([3], [3]), ([1, 4, 3], [1, 4]), ([0, 1, 2, 3, 4, 5], []), ([6, 5, 5, 0, 1, 2, 3, 4, 5], [5, 6])])
def precincttop_flow.B12 : List Nat := [0, 1, 0, 4, 12, 31, 63, 127]
theorem precincttop_flow.tab12 : rtab .any (opsOf Try.f4 12) = precincttop_flow.T12 := by kernel_rfl
theorem precincttop_flow.bits12 : waitsOk precincttop_flow.T12.2 precincttop_flow.B12 = true := by kernel_rfl
set_option maxHeartbeats 8000000 in
set_option maxRecDepth 100000 in
theorem precincttop_flow.calls (k : Nat) (a0 : ByteArray) (A1 : Option Addr) (c1 : Nat) (l1 : List (S50)) (a2 : Int) (a3 : ByteArray) (r1 : ByteArray) (r2 : List (S43)) (w : World) (hr1 : Kd.C k50 w A1 l1.length l1) (hc1 : l1.length ≤ c1) (h : precincttop_flow.f k a0 l1 a2 a3 = some (r1, r2)) :
    Calls Try.prog 4 #[.string a0, .slice A1 l1.length c1, .int .i64 a2, .string a3] w fun e w' => ∃ v1_ : Value, e = .returned (.agg #[.string r1, v1_]) ∧ Kd.S k43 43 w' w.heap.size (fun _ => True) v1_ r2 ∧ Below w.heap.size w w' := by
  have hu27 := Try.underlying27
  have hu50 := Try.underlying50
  have hu43 := Try.underlying43
  have HR1 := Aside0.mk hr1
  have HC1 := Aside0.mk hc1
  clear hr1 hc1
  have HB := Aside0.mk (Below.refl w.heap.size w)
  have H : (if 0 ≤ (mn (l1.length : Int) 12) then (if (mn (l1.length : Int) 12) ≤ (l1.length : Int) then ((some (l1.take ((mn (l1.length : Int) 12) : Int).toNat : List (S50))).bind fun y106 => (precincttop_flow.l0 k a2 a3 y106 (y106.length : Int) 0 a0 ([] : List (S43)))) else (none)) else (none)) = some (r1, r2) := h
  clear h
  obtain ⟨ji5, hji5⟩ : ∃ j_ : Int, (mn (l1.length : Int) 12) = j_ := ⟨_, rfl⟩
  replace H : (if 0 ≤ (ji5) then (if (ji5) ≤ (l1.length : Int) then ((some (l1.take ((ji5) : Int).toNat : List (S50))).bind fun y106 => (precincttop_flow.l0 k a2 a3 y106 (y106.length : Int) 0 a0 ([] : List (S43)))) else (none)) else (none)) = some (r1, r2) := by first | (rw [hji5] at H; exact H) | (simp only [hji5] at H ⊢; exact H)
  (try (have hji5h : ji5 ≤ 12 := by (rw [← hji5]; unfold mn; (repeat' split) <;> omega)))
  (try (have hji5g : ji5 ≤ 64 := by omega))
  (try (have hji5l : 0 ≤ ji5 := by (rw [← hji5]; unfold mn; (repeat' split) <;> omega)))
  (try (have hji5m : 0 ≤ ji5 := by omega))
  have hji5_ : (if 12 < (l1.length : Int) then 12 else (l1.length : Int)) = ji5 := hji5
  by_cases c6 : 0 ≤ (ji5)
  · rw [if_pos c6] at H
    have c6b0 := eq_true c6
    have c6b1 : decide (0 ≤ (ji5)) = true := decide_eq_true c6
    clear c6
    by_cases c7 : (ji5) ≤ (l1.length : Int)
    · rw [if_pos c7] at H
      have c7b0 := eq_true c7
      have c7b1 : decide ((ji5) ≤ (l1.length : Int)) = true := decide_eq_true c7
      clear c7
      obtain ⟨y106, hy106⟩ : ∃ y_ : List (S50), y_ = (l1.take ((ji5) : Int).toNat) := ⟨_, rfl⟩
      replace H : (precincttop_flow.l0 k a2 a3 y106 (y106.length : Int) 0 a0 ([] : List (S43))) = some (r1, r2) := by first | (rw [hy106]; with_reducible exact H) | (have H2_ := (Option.bind_some _ _).symm.trans H; rw [hy106]; with_reducible exact H2_) | (have H2_ := (Option.bind_some _ _).symm.trans H; with_reducible exact H2_) | with_reducible exact H | (rw [hy106]; exact H) | exact H
      have Ny106 := Aside0.mk hy106
      clear hy106
      have H' := Aside0.mk H
      clear H
      go_enter Try.func4, Try.ntmps4
      go_wp2_with (first | ((with_reducible refine gate_dst (N := 8) rfl ?_); refine box_event ?hg (N := 8) ?hd (cs := #[.string (⟨#[]⟩ : ByteArray), .slice none 0 0]) (t := 27) ?hr ?_; (case hd => rfl); (case hg => rfl); (case hr => first | (go_simp; done) | (go_simp; rfl)); intro gb104 hg w8 hbox hb; have n0_ := Aside0.mk (below_step (by repeat (first | (with_reducible first | exact HB.out | apply below_alloc | apply pw_below_drewN | apply below_drew1) | exact HB.out)) hb); have n1_ := Aside0.mk (hbox); have n2_ := Aside0.mk ((by rw [hg]; exact (below_size (by repeat (first | (with_reducible first | exact HB.out | apply below_alloc | apply pw_below_drewN | apply below_drew1) | exact HB.out))) : w.heap.size ≤ gb104)); have n3_ := Aside0.mk ((by rw [hg]; exact (below_size (by repeat (first | (with_reducible first | exact HB.out | apply below_alloc | apply pw_below_drewN | apply below_drew1) | exact HB.out))) : w.heap.size ≤ gb104)); clear HB; have HB := n0_; have BK104 := n1_; have GW104 := n2_; have GE104 := n3_; clear n0_ n1_ n2_ n3_; clear hb hbox hg) | ((with_reducible refine gate_dst (N := 9) rfl ?_); refine box_event ?hg (N := 9) ?hd (cs := #[.string (⟨#[]⟩ : ByteArray), .slice none 0 0]) (t := 27) ?hr ?_; (case hd => rfl); (case hg => rfl); (case hr => first | (go_simp; done) | (go_simp; rfl)); intro gb105 hg w9 hbox hb; have n0_ := Aside0.mk (blk_below (g := gb104) (o := .cells #[.string (⟨#[]⟩ : ByteArray), .slice none 0 0] 27 (0, 0)) (by (with_reducible repeat (first | refine blk_drewN ?_ _ | refine blk_drew ?_ | refine blk_alloc ?_ _)); exact BK104.out) hb); have n1_ := Aside0.mk (below_step (by repeat (first | (with_reducible first | exact HB.out | apply below_alloc | apply pw_below_drewN | apply below_drew1 | refine below_set ?_ GE104.out) | exact HB.out)) hb); have n2_ := Aside0.mk (hbox); have n3_ := Aside0.mk ((by rw [hg]; exact (below_size (by repeat (first | (with_reducible first | exact HB.out | apply below_alloc | apply pw_below_drewN | apply below_drew1 | refine below_set ?_ GE104.out) | exact HB.out))) : w.heap.size ≤ gb105)); have n4_ := Aside0.mk ((by rw [hg]; exact (below_size (by repeat (first | (with_reducible first | exact HB.out | apply below_alloc | apply pw_below_drewN | apply below_drew1 | refine below_set ?_ GE104.out) | exact HB.out))) : w.heap.size ≤ gb105)); have n5_ := Aside0.mk ((by rw [hg]; exact Nat.ne_of_lt (blk_lt (g := gb104) (o := .cells #[.string (⟨#[]⟩ : ByteArray), .slice none 0 0] 27 (0, 0)) (by (with_reducible repeat (first | refine blk_drewN ?_ _ | refine blk_drew ?_ | refine blk_alloc ?_ _)); exact BK104.out)) : gb104 ≠ gb105)); have n6_ := Aside0.mk ((by rw [hg]; exact Nat.ne_of_gt (blk_lt (g := gb104) (o := .cells #[.string (⟨#[]⟩ : ByteArray), .slice none 0 0] 27 (0, 0)) (by (with_reducible repeat (first | refine blk_drewN ?_ _ | refine blk_drew ?_ | refine blk_alloc ?_ _)); exact BK104.out)) : gb105 ≠ gb104)); clear BK104; clear HB; have BK104 := n0_; have HB := n1_; have BK105 := n2_; have GW105 := n3_; have GE105 := n4_; have NB104_105 := n5_; have NB105_104 := n6_; clear n0_ n1_ n2_ n3_ n4_ n5_ n6_; clear hb hbox hg; have hnb10 := NB105_104.out; have hnc10 := NB104_105.out; have hcz11_0 : w9.cell? ⟨gb105, 0, none⟩ = some (.string (⟨#[]⟩ : ByteArray)) := (blk_cell BK105.out 0).trans rfl; have hcz11_1 : w9.cell? ⟨gb105, 1, none⟩ = some (.slice none 0 0) := (blk_cell BK105.out 1).trans rfl; have hfz11_0 := blk_frozen BK105.out 0; have hfz11_1 := blk_frozen BK105.out 1) | ((with_reducible refine gate_store (t := 27) (p := 9) rfl ?_); refine store_event (t := 27) (p := 9) (v := ?vo_w12) (w1 := ((w9.setCell ⟨gb105, 0, none⟩ (.string a0)).setCell ⟨gb105, 1, none⟩ (.slice none 0 0))) ?hg ?ho ?hn ?hr ?_; (case ho => rfl); (case hg => rfl); (case hn => rfl); (case hr => first | (go_simp; done) | (go_simp; rfl)); intro w12 hw; have n0_ : Aside0 (w12.heap[gb104]? = some (.cells #[.string (⟨#[]⟩ : ByteArray), .slice none 0 0] 27 (0, 0))) := ⟨(by rw [hw]; exact (by (with_reducible repeat (first | refine blk_drewN ?_ _ | refine blk_drew ?_ | refine blk_alloc ?_ _)); refine blk_far ?_ NB104_105.out _; (with_reducible repeat (first | refine blk_drewN ?_ _ | refine blk_drew ?_ | refine blk_alloc ?_ _)); refine blk_far ?_ NB104_105.out _; (with_reducible repeat (first | refine blk_drewN ?_ _ | refine blk_drew ?_ | refine blk_alloc ?_ _)); exact BK104.out))⟩; have n1_ : Aside0 (w12.heap[gb105]? = some (.cells #[.string a0, .slice none 0 0] 27 (0, 0))) := ⟨(by rw [hw]; exact (by (with_reducible repeat (first | refine blk_drewN ?_ _ | refine blk_drew ?_ | refine blk_alloc ?_ _)); refine blk_put (cs := #[.string a0, .slice none 0 0]) ?_ 1 _ rfl; (with_reducible repeat (first | refine blk_drewN ?_ _ | refine blk_drew ?_ | refine blk_alloc ?_ _)); refine blk_put (cs := #[.string (⟨#[]⟩ : ByteArray), .slice none 0 0]) ?_ 0 _ rfl; (with_reducible repeat (first | refine blk_drewN ?_ _ | refine blk_drew ?_ | refine blk_alloc ?_ _)); exact BK105.out))⟩; have n2_ : Aside0 (Below w.heap.size w w12) := ⟨(by rw [hw]; exact (by repeat (first | (with_reducible first | exact HB.out | apply below_alloc | apply pw_below_drewN | apply below_drew1 | refine below_set ?_ GE104.out | refine below_set ?_ GE105.out) | exact HB.out)))⟩; clear hw; clear BK104; clear BK105; clear HB; have BK104 := n0_; have BK105 := n1_; have HB := n2_; clear n0_ n1_ n2_; have q13 : ((ji5) : Int) ≤ ((l1.length : Int) : Int) := of_decide_eq_true (by first | (with_reducible assumption) | assumption); obtain ⟨i013, hi013, _, hsz13, _⟩ := info_parts info50; have hroom13 : l1.length ≤ c1 := HC1.out; have hC13 : Kd.C k50 _ A1 l1.length l1 := HR1.out; have hcut13 := cut_to (P := Try.prog) 22 50 .i64 Try.underlying22 hi013 A1 l1.length c1 (ji5) (of_decide_eq_true (by first | (with_reducible assumption) | assumption)) q13 hroom13; have hr13 := Kd.C_take (m := ((ji5) : Int).toNat) hC13 (by omega); have hy13 : y106.length = ((ji5) : Int).toNat := (by rw [Ny106.out, List.length_take]; omega); rw [← Ny106.out] at hr13; rw [← hy13] at hcut13; have HR109 := Aside0.mk hr13; have HC109 := Aside0.mk (show y106.length ≤ c1 from by omega); clear hr13 hC13 hroom13 hi013 hsz13; have KY13 := Aside0.mk hy13; clear hy13; replace q13 := eq_true q13))
      go_loopg [22] k (fun kq v22 w' => ∃ (x22_1 : Int) (x106001_1 : List (S43)) (u106001 : Value), v22 = .int .i64 x22_1 ∧ Aside0 (precincttop_flow.l0 kq a2 a3 y106 (y106.length : Int) x22_1 a0 x106001_1 = some (r1, r2)) ∧ Aside0 (kq ≤ k) ∧ Aside0 (Kd.S k43 43 w' w.heap.size (fun _ => True) u106001 x106001_1) ∧ Aside0 (w'.heap[gb104]? = some (.cells #[.string (⟨#[]⟩ : ByteArray), (.slice none 0 0)] 27 (0, 0))) ∧ Aside0 (w'.heap[gb105]? = some (.cells #[.string a0, u106001] 27 (0, 0))) ∧ Aside0 (Below w.heap.size w w'))
      case atStart => exact ⟨(0), (([] : List (S43))), (.slice none 0 0), (by first | rfl | (simp; done) | (simp [*]; done)), H', ⟨Nat.le_refl _⟩, ⟨by first | exact Kd.S_nil _ _ _ _ _ | exact Kd.N_nil _ _ _ _ _ | exact Kd.V_nil _ _ _ _ _ | exact Kd.Q_nil _ _ _ _ _ | exact Kd.R_nil _ _ _ _ _⟩, ⟨by (with_reducible repeat (first | refine blk_drewN ?_ _ | refine blk_drew ?_ | refine blk_alloc ?_ _)); exact BK104.out⟩, ⟨by (with_reducible repeat (first | refine blk_drewN ?_ _ | refine blk_drew ?_ | refine blk_alloc ?_ _)); exact BK105.out⟩, ⟨by repeat (first | (with_reducible first | exact HB.out | apply below_alloc | apply pw_below_drewN | apply below_drew1 | refine below_set ?_ GE104.out | refine below_set ?_ GE105.out) | exact HB.out)⟩⟩
      case round =>
        clear H'
        try clear c1
        try clear q1
        try clear p2
        try clear c4
        try clear c6
        try clear c6b0
        try clear c6b1
        try clear c7
        try clear c7b0
        try clear c7b1
        try clear c10
        try clear q13
        try clear hcz11_0
        try clear hcz11_1
        try clear hfz11_0
        try clear hfz11_1
        try clear q13
        obtain ⟨x22_1, x106001_1, u106001, rfl, HA, HK1, HO_106001, BK104, BK105, HB⟩ := hrel
        cases gk with
        | zero => exact absurd HA.out (by simp [precincttop_flow.l0])
        | succ k1 =>
          have H := HA.out
          clear HA
          simp only [precincttop_flow.l0] at H
          by_cases c14 : x22_1 < (y106.length : Int)
          · rw [if_pos c14] at H
            have c14b0 : decide (x22_1 < (y106.length : Int)) = true := decide_eq_true c14
            clear c14
            by_cases c15 : 0 ≤ x22_1
            · rw [if_pos c15] at H
              have c15b0 : decide (0 ≤ x22_1) = true := decide_eq_true c15
              clear c15
              by_cases c16 : x22_1 < (y106.length : Int)
              · rw [if_pos c16] at H
                have c16b0 : decide (x22_1 < (y106.length : Int)) = true := decide_eq_true c16
                clear c16
                replace H := Option.bind_eq_some_iff.mp H
                obtain ⟨t116, A170, H⟩ := H
                replace H : (if (rd_T50 y106 x22_1).f1 = true then (precincttop_flow.j1 k1 a2 a3 x22_1 y106 (y106.length : Int) x22_1 (decide (a2 ≥ 0)) a0 x106001_1 ((rd_T50 y106 x22_1).f0) ((rd_T50 y106 x22_1).f1) ((rd_T50 y106 x22_1).f2) ((rd_T50 y106 x22_1).f3) t116 (1 + ((mx 0 ((rd_T50 y106 x22_1).f2)) % 4)) (1 + ((mx 0 ((rd_T50 y106 x22_1).f3)) % 50)) (-1) (⟨#[]⟩ : ByteArray)) else (precincttop_flow.j1 k1 a2 a3 x22_1 y106 (y106.length : Int) x22_1 false a0 x106001_1 ((rd_T50 y106 x22_1).f0) ((rd_T50 y106 x22_1).f1) ((rd_T50 y106 x22_1).f2) ((rd_T50 y106 x22_1).f3) t116 (1 + ((mx 0 ((rd_T50 y106 x22_1).f2)) % 4)) (1 + ((mx 0 ((rd_T50 y106 x22_1).f3)) % 50)) (-1) (⟨#[]⟩ : ByteArray))) = some (r1, r2) := H
                have A17 := Aside0.mk A170
                clear A170
                obtain ⟨ji18, hji18⟩ : ∃ j_ : Int, (mx 0 ((rd_T50 y106 x22_1).f2)) = j_ := ⟨_, rfl⟩
                replace H : (if (rd_T50 y106 x22_1).f1 = true then (precincttop_flow.j1 k1 a2 a3 x22_1 y106 (y106.length : Int) x22_1 (decide (a2 ≥ 0)) a0 x106001_1 ((rd_T50 y106 x22_1).f0) ((rd_T50 y106 x22_1).f1) ((rd_T50 y106 x22_1).f2) ((rd_T50 y106 x22_1).f3) t116 (1 + ((ji18) % 4)) (1 + ((mx 0 ((rd_T50 y106 x22_1).f3)) % 50)) (-1) (⟨#[]⟩ : ByteArray)) else (precincttop_flow.j1 k1 a2 a3 x22_1 y106 (y106.length : Int) x22_1 false a0 x106001_1 ((rd_T50 y106 x22_1).f0) ((rd_T50 y106 x22_1).f1) ((rd_T50 y106 x22_1).f2) ((rd_T50 y106 x22_1).f3) t116 (1 + ((ji18) % 4)) (1 + ((mx 0 ((rd_T50 y106 x22_1).f3)) % 50)) (-1) (⟨#[]⟩ : ByteArray))) = some (r1, r2) := by first | (rw [hji18] at H; exact H) | (simp only [hji18] at H ⊢; exact H)
                (try rw [hji18] at A17)
                have hji18_ : (if 0 < ((rd_T50 y106 x22_1).f2) then ((rd_T50 y106 x22_1).f2) else 0) = ji18 := hji18
                have hji18p : 0 ≤ ji18 := by rw [← hji18_]; split <;> omega
                have hji18t : ji18.tmod 4 = ji18 % 4 := Int.tmod_eq_emod_of_nonneg hji18p
                have hji18w : wrap64 (1 + ji18 % 4) = 1 + ji18 % 4 := by unfold wrap64; omega
                obtain ⟨ji19, hji19⟩ : ∃ j_ : Int, (mx 0 ((rd_T50 y106 x22_1).f3)) = j_ := ⟨_, rfl⟩
                replace H : (if (rd_T50 y106 x22_1).f1 = true then (precincttop_flow.j1 k1 a2 a3 x22_1 y106 (y106.length : Int) x22_1 (decide (a2 ≥ 0)) a0 x106001_1 ((rd_T50 y106 x22_1).f0) ((rd_T50 y106 x22_1).f1) ((rd_T50 y106 x22_1).f2) ((rd_T50 y106 x22_1).f3) t116 (1 + ((ji18) % 4)) (1 + ((ji19) % 50)) (-1) (⟨#[]⟩ : ByteArray)) else (precincttop_flow.j1 k1 a2 a3 x22_1 y106 (y106.length : Int) x22_1 false a0 x106001_1 ((rd_T50 y106 x22_1).f0) ((rd_T50 y106 x22_1).f1) ((rd_T50 y106 x22_1).f2) ((rd_T50 y106 x22_1).f3) t116 (1 + ((ji18) % 4)) (1 + ((ji19) % 50)) (-1) (⟨#[]⟩ : ByteArray))) = some (r1, r2) := by first | (rw [hji19] at H; exact H) | (simp only [hji19] at H ⊢; exact H)
                (try rw [hji19] at A17)
                have hji19_ : (if 0 < ((rd_T50 y106 x22_1).f3) then ((rd_T50 y106 x22_1).f3) else 0) = ji19 := hji19
                have hji19p : 0 ≤ ji19 := by rw [← hji19_]; split <;> omega
                have hji19t : ji19.tmod 50 = ji19 % 50 := Int.tmod_eq_emod_of_nonneg hji19p
                have hji19w : wrap64 (1 + ji19 % 50) = 1 + ji19 % 50 := by unfold wrap64; omega
                have HC20 := Aside0.mk H
                clear H
                have p114 : 0 ≤ (x22_1 : Int) := of_decide_eq_true (by first | (with_reducible assumption) | assumption)
                have q114 : x22_1 < (y106.length : Int) := of_decide_eq_true (by first | (with_reducible assumption) | assumption)
                obtain ⟨ad114, e114, hx114_0, hx114_1, hx114_2, hx114_3⟩ := at_T50 HR109.out x22_1 p114 q114
                cases e114
                replace hx114_0 := (HB.out.cell (World.block_lt_of_cell? w _ hx114_0)).trans hx114_0
                replace hx114_1 := (HB.out.cell (World.block_lt_of_cell? w _ hx114_1)).trans hx114_1
                replace hx114_2 := (HB.out.cell (World.block_lt_of_cell? w _ hx114_2)).trans hx114_2
                replace hx114_3 := (HB.out.cell (World.block_lt_of_cell? w _ hx114_3)).trans hx114_3
                replace p114 := eq_true p114
                replace q114 := eq_true q114
                try go_wp2_with (first | ((with_reducible refine gate_dst (N := 11) rfl ?_); refine box_event ?hg (N := 11) ?hd (cs := #[.int .u32 0, .bool false, .int .i64 0, .int .i64 0]) (t := 50) ?hr ?_; (case hd => rfl); (case hg => rfl); (case hr => first | (go_simp; done) | (go_simp; rfl)); intro gb115 hg w21 hbox hb; have n0_ := Aside0.mk (Kd.S_below (by (with_reducible repeat (first | apply Kd.S_alloc | apply Kd.S_drewN | apply Kd.S_drew)); exact HO_106001.out) hb); have n1_ := Aside0.mk (blk_below (g := gb104) (o := .cells #[.string (⟨#[]⟩ : ByteArray), .slice none 0 0] 27 (0, 0)) (by (with_reducible repeat (first | refine blk_drewN ?_ _ | refine blk_drew ?_ | refine blk_alloc ?_ _)); exact BK104.out) hb); have n2_ := Aside0.mk (blk_below (g := gb105) (o := .cells #[.string a0, u106001] 27 (0, 0)) (by (with_reducible repeat (first | refine blk_drewN ?_ _ | refine blk_drew ?_ | refine blk_alloc ?_ _)); exact BK105.out) hb); have n3_ := Aside0.mk (below_step (by repeat (first | (with_reducible first | exact HB.out | apply below_alloc | apply pw_below_drewN | apply below_drew1 | refine below_set ?_ GE104.out | refine below_set ?_ GE105.out) | exact HB.out)) hb); have n4_ := Aside0.mk (hbox); have n5_ := Aside0.mk ((by rw [hg]; exact (below_size (by repeat (first | (with_reducible first | exact HB.out | apply below_alloc | apply pw_below_drewN | apply below_drew1 | refine below_set ?_ GE104.out | refine below_set ?_ GE105.out) | exact HB.out))) : w.heap.size ≤ gb115)); have n6_ := Aside0.mk ((by rw [hg]; exact (below_size (by repeat (first | (with_reducible first | exact HB.out | apply below_alloc | apply pw_below_drewN | apply below_drew1 | refine below_set ?_ GE104.out | refine below_set ?_ GE105.out) | exact HB.out))) : w.heap.size ≤ gb115)); have n7_ := Aside0.mk ((by rw [hg]; exact Nat.ne_of_lt (blk_lt (g := gb104) (o := .cells #[.string (⟨#[]⟩ : ByteArray), .slice none 0 0] 27 (0, 0)) (by (with_reducible repeat (first | refine blk_drewN ?_ _ | refine blk_drew ?_ | refine blk_alloc ?_ _)); exact BK104.out)) : gb104 ≠ gb115)); have n8_ := Aside0.mk ((by rw [hg]; exact Nat.ne_of_gt (blk_lt (g := gb104) (o := .cells #[.string (⟨#[]⟩ : ByteArray), .slice none 0 0] 27 (0, 0)) (by (with_reducible repeat (first | refine blk_drewN ?_ _ | refine blk_drew ?_ | refine blk_alloc ?_ _)); exact BK104.out)) : gb115 ≠ gb104)); have n9_ := Aside0.mk ((by rw [hg]; exact Nat.ne_of_lt (blk_lt (g := gb105) (o := .cells #[.string a0, u106001] 27 (0, 0)) (by (with_reducible repeat (first | refine blk_drewN ?_ _ | refine blk_drew ?_ | refine blk_alloc ?_ _)); exact BK105.out)) : gb105 ≠ gb115)); have n10_ := Aside0.mk ((by rw [hg]; exact Nat.ne_of_gt (blk_lt (g := gb105) (o := .cells #[.string a0, u106001] 27 (0, 0)) (by (with_reducible repeat (first | refine blk_drewN ?_ _ | refine blk_drew ?_ | refine blk_alloc ?_ _)); exact BK105.out)) : gb115 ≠ gb105)); clear HO_106001; clear BK104; clear BK105; clear HB; have HO_106001 := n0_; have BK104 := n1_; have BK105 := n2_; have HB := n3_; have BK115 := n4_; have GW115 := n5_; have GE115 := n6_; have NB104_115 := n7_; have NB115_104 := n8_; have NB105_115 := n9_; have NB115_105 := n10_; clear n0_ n1_ n2_ n3_ n4_ n5_ n6_ n7_ n8_ n9_ n10_; clear hb hbox hg; have hnb22 := NB115_104.out; have hnc22 := NB104_115.out; have hnb23 := NB115_105.out; have hnc23 := NB105_115.out; have hcz24_0 : w21.cell? ⟨gb115, 0, none⟩ = some (.int .u32 0) := (blk_cell BK115.out 0).trans rfl; have hcz24_1 : w21.cell? ⟨gb115, 1, none⟩ = some (.bool false) := (blk_cell BK115.out 1).trans rfl; have hcz24_2 : w21.cell? ⟨gb115, 2, none⟩ = some (.int .i64 0) := (blk_cell BK115.out 2).trans rfl; have hcz24_3 : w21.cell? ⟨gb115, 3, none⟩ = some (.int .i64 0) := (blk_cell BK115.out 3).trans rfl; have hfz24_0 := blk_frozen BK115.out 0; have hfz24_1 := blk_frozen BK115.out 1; have hfz24_2 := blk_frozen BK115.out 2; have hfz24_3 := blk_frozen BK115.out 3))
                have n0_ : Aside0 (Kd.S k43 43 ((((w21.setCell ⟨gb115, 0, none⟩ (.int .u32 ((rd_T50 y106 x22_1).f0))).setCell ⟨gb115, 1, none⟩ (.bool ((rd_T50 y106 x22_1).f1))).setCell ⟨gb115, 2, none⟩ (.int .i64 ((rd_T50 y106 x22_1).f2))).setCell ⟨gb115, 3, none⟩ (.int .i64 ((rd_T50 y106 x22_1).f3))) w.heap.size (fun _ => True) u106001 x106001_1) := ⟨by (with_reducible repeat (first | apply Kd.S_alloc | apply Kd.S_drewN | apply Kd.S_drew)); exact Kd.S_mono (Kd.S_far (p := ⟨gb115, 3, none⟩) (Kd.S_far (p := ⟨gb115, 2, none⟩) (Kd.S_far (p := ⟨gb115, 1, none⟩) (Kd.S_far (p := ⟨gb115, 0, none⟩) (Kd.S_types HO_106001.out BK115.out (by decide)) (fun _ hk => hk.2) (.int .u32 ((rd_T50 y106 x22_1).f0))) (fun _ hk => hk.2) (.bool ((rd_T50 y106 x22_1).f1))) (fun _ hk => hk.2) (.int .i64 ((rd_T50 y106 x22_1).f2))) (fun _ hk => hk.2) (.int .i64 ((rd_T50 y106 x22_1).f3))) (fun _ hk => trivial)⟩
                have n1_ : Aside0 (((((w21.setCell ⟨gb115, 0, none⟩ (.int .u32 ((rd_T50 y106 x22_1).f0))).setCell ⟨gb115, 1, none⟩ (.bool ((rd_T50 y106 x22_1).f1))).setCell ⟨gb115, 2, none⟩ (.int .i64 ((rd_T50 y106 x22_1).f2))).setCell ⟨gb115, 3, none⟩ (.int .i64 ((rd_T50 y106 x22_1).f3))).heap[gb104]? = some (.cells #[.string (⟨#[]⟩ : ByteArray), .slice none 0 0] 27 (0, 0))) := ⟨by (with_reducible repeat (first | refine blk_drewN ?_ _ | refine blk_drew ?_ | refine blk_alloc ?_ _)); refine blk_far ?_ NB104_115.out _; (with_reducible repeat (first | refine blk_drewN ?_ _ | refine blk_drew ?_ | refine blk_alloc ?_ _)); refine blk_far ?_ NB104_115.out _; (with_reducible repeat (first | refine blk_drewN ?_ _ | refine blk_drew ?_ | refine blk_alloc ?_ _)); refine blk_far ?_ NB104_115.out _; (with_reducible repeat (first | refine blk_drewN ?_ _ | refine blk_drew ?_ | refine blk_alloc ?_ _)); refine blk_far ?_ NB104_115.out _; (with_reducible repeat (first | refine blk_drewN ?_ _ | refine blk_drew ?_ | refine blk_alloc ?_ _)); exact BK104.out⟩
                have n2_ : Aside0 (((((w21.setCell ⟨gb115, 0, none⟩ (.int .u32 ((rd_T50 y106 x22_1).f0))).setCell ⟨gb115, 1, none⟩ (.bool ((rd_T50 y106 x22_1).f1))).setCell ⟨gb115, 2, none⟩ (.int .i64 ((rd_T50 y106 x22_1).f2))).setCell ⟨gb115, 3, none⟩ (.int .i64 ((rd_T50 y106 x22_1).f3))).heap[gb105]? = some (.cells #[.string a0, u106001] 27 (0, 0))) := ⟨by (with_reducible repeat (first | refine blk_drewN ?_ _ | refine blk_drew ?_ | refine blk_alloc ?_ _)); refine blk_far ?_ NB105_115.out _; (with_reducible repeat (first | refine blk_drewN ?_ _ | refine blk_drew ?_ | refine blk_alloc ?_ _)); refine blk_far ?_ NB105_115.out _; (with_reducible repeat (first | refine blk_drewN ?_ _ | refine blk_drew ?_ | refine blk_alloc ?_ _)); refine blk_far ?_ NB105_115.out _; (with_reducible repeat (first | refine blk_drewN ?_ _ | refine blk_drew ?_ | refine blk_alloc ?_ _)); refine blk_far ?_ NB105_115.out _; (with_reducible repeat (first | refine blk_drewN ?_ _ | refine blk_drew ?_ | refine blk_alloc ?_ _)); exact BK105.out⟩
                have n3_ : Aside0 (((((w21.setCell ⟨gb115, 0, none⟩ (.int .u32 ((rd_T50 y106 x22_1).f0))).setCell ⟨gb115, 1, none⟩ (.bool ((rd_T50 y106 x22_1).f1))).setCell ⟨gb115, 2, none⟩ (.int .i64 ((rd_T50 y106 x22_1).f2))).setCell ⟨gb115, 3, none⟩ (.int .i64 ((rd_T50 y106 x22_1).f3))).heap[gb115]? = some (.cells #[.int .u32 ((rd_T50 y106 x22_1).f0), .bool ((rd_T50 y106 x22_1).f1), .int .i64 ((rd_T50 y106 x22_1).f2), .int .i64 ((rd_T50 y106 x22_1).f3)] 50 (0, 0))) := ⟨by (with_reducible repeat (first | refine blk_drewN ?_ _ | refine blk_drew ?_ | refine blk_alloc ?_ _)); refine blk_put (cs := #[.int .u32 ((rd_T50 y106 x22_1).f0), .bool ((rd_T50 y106 x22_1).f1), .int .i64 ((rd_T50 y106 x22_1).f2), .int .i64 0]) ?_ 3 _ rfl; (with_reducible repeat (first | refine blk_drewN ?_ _ | refine blk_drew ?_ | refine blk_alloc ?_ _)); refine blk_put (cs := #[.int .u32 ((rd_T50 y106 x22_1).f0), .bool ((rd_T50 y106 x22_1).f1), .int .i64 0, .int .i64 0]) ?_ 2 _ rfl; (with_reducible repeat (first | refine blk_drewN ?_ _ | refine blk_drew ?_ | refine blk_alloc ?_ _)); refine blk_put (cs := #[.int .u32 ((rd_T50 y106 x22_1).f0), .bool false, .int .i64 0, .int .i64 0]) ?_ 1 _ rfl; (with_reducible repeat (first | refine blk_drewN ?_ _ | refine blk_drew ?_ | refine blk_alloc ?_ _)); refine blk_put (cs := #[.int .u32 0, .bool false, .int .i64 0, .int .i64 0]) ?_ 0 _ rfl; (with_reducible repeat (first | refine blk_drewN ?_ _ | refine blk_drew ?_ | refine blk_alloc ?_ _)); exact BK115.out⟩
                have n4_ : Aside0 (Below w.heap.size w ((((w21.setCell ⟨gb115, 0, none⟩ (.int .u32 ((rd_T50 y106 x22_1).f0))).setCell ⟨gb115, 1, none⟩ (.bool ((rd_T50 y106 x22_1).f1))).setCell ⟨gb115, 2, none⟩ (.int .i64 ((rd_T50 y106 x22_1).f2))).setCell ⟨gb115, 3, none⟩ (.int .i64 ((rd_T50 y106 x22_1).f3)))) := ⟨by repeat (first | (with_reducible first | exact HB.out | apply below_alloc | apply pw_below_drewN | apply below_drew1 | refine below_set ?_ GE104.out | refine below_set ?_ GE105.out | refine below_set ?_ GE115.out) | exact HB.out)⟩
                (try clear HO_106001)
                (try clear BK104)
                (try clear BK105)
                (try clear BK115)
                (try clear HB)
                generalize ((((w21.setCell ⟨gb115, 0, none⟩ (.int .u32 ((rd_T50 y106 x22_1).f0))).setCell ⟨gb115, 1, none⟩ (.bool ((rd_T50 y106 x22_1).f1))).setCell ⟨gb115, 2, none⟩ (.int .i64 ((rd_T50 y106 x22_1).f2))).setCell ⟨gb115, 3, none⟩ (.int .i64 ((rd_T50 y106 x22_1).f3))) = w25 at n0_ n1_ n2_ n3_ n4_ ⊢
                have HO_106001 := n0_
                have BK104 := n1_
                have BK105 := n2_
                have BK115 := n3_
                have HB := n4_
                clear n0_ n1_ n2_ n3_ n4_
                have n0_ := Aside0.mk (Kd.S_drew HO_106001.out)
                have n1_ := Aside0.mk (blk_drew BK104.out)
                have n2_ := Aside0.mk (blk_drew BK105.out)
                have n3_ := Aside0.mk (blk_drew BK115.out)
                have n4_ := Aside0.mk (below_drew1 HB.out)
                clear HO_106001
                clear BK104
                clear BK105
                clear BK115
                clear HB
                have HO_106001 := n0_
                have BK104 := n1_
                have BK105 := n2_
                have BK115 := n3_
                have HB := n4_
                clear n0_ n1_ n2_ n3_ n4_
                refine start_ (n := 15) (S := fun w' => w'.cell? ⟨gb115, 0, none⟩ = some (.int .u32 ((rd_T50 y106 x22_1).f0)) ∧ w'.cell? ⟨gb115, 1, none⟩ = some (.bool ((rd_T50 y106 x22_1).f1)) ∧ w'.cell? ⟨gb115, 2, none⟩ = some (.int .i64 ((rd_T50 y106 x22_1).f2)) ∧ w'.cell? ⟨gb115, 3, none⟩ = some (.int .i64 ((rd_T50 y106 x22_1).f3))) (ds := []) #[false, false, false, false, false, false, false, false, false, false, false, false, false, false, false] (by kernel_rfl) rfl rfl ⟨(blk_cell BK115.out 0).trans rfl, (blk_cell BK115.out 1).trans rfl, (blk_cell BK115.out 2).trans rfl, (blk_cell BK115.out 3).trans rfl⟩ (fun hHeld => ?_); refine with_tabW precincttop_flow.tab5 precincttop_flow.bits5 (fun HT_ HW_ => ?_)
                generalize w25.drew = w26 at HO_106001 BK104 BK105 BK115 HB hHeld ⊢
                refine pure_ (i := 0) (N := some 27) (v := ?_) (a' := ?_) #[true, false, false, false, false, false, false, false, false, false, false, false, false, false, false] rfl rfl (any_of HT_.out (by kernel_rfl)) (fun _ _ _ h => h) (Or.inl ⟨by rfl, ?_⟩) ?_ ?_
                rotate_left
                · intro w'
                  go_simp
                  with_reducible rfl
                rotate_left
                · simp only [Act.put, List.setIfInBounds_toArray, List.set_cons_zero, List.set_cons_succ, i64_w, i32_w]
                  rfl
                refine pure_ (i := 2) (N := some 29) (v := ?_) (a' := ?_) #[true, false, true, false, false, false, false, false, false, false, false, false, false, false, false] rfl rfl (any_of HT_.out (by kernel_rfl)) (fun _ _ _ h => h) (Or.inl ⟨by rfl, ?_⟩) ?_ ?_
                rotate_left
                · intro w'
                  go_simp
                  with_reducible rfl
                rotate_left
                · simp only [Act.put, List.setIfInBounds_toArray, List.set_cons_zero, List.set_cons_succ, i64_w, i32_w]
                  rfl
                refine pure_ (i := 7) (N := some 34) (v := ?_) (a' := ?_) #[true, false, true, false, false, false, false, true, false, false, false, false, false, false, false] rfl rfl (any_of HT_.out (by kernel_rfl)) (fun _ _ _ h => h) (Or.inl ⟨by rfl, ?_⟩) ?_ ?_
                rotate_left
                · intro w'
                  go_simp
                  with_reducible rfl
                rotate_left
                · simp only [Act.put, List.setIfInBounds_toArray, List.set_cons_zero, List.set_cons_succ, i64_w, i32_w]
                  rfl
                refine take_ (i := 3) (N := some 30) (v := ?_) (a' := ?_) #[true, false, true, true, false, false, false, true, false, false, false, false, false, false, false] rfl rfl (take_ofW HT_.out HW_.out (by kernel_rfl)) (fun _ _ _ h => h) (Or.inl ⟨by rfl, ?_⟩) hHeld ?_ ?_
                rotate_left
                · rintro w' ⟨s0, s1, s2, s3⟩
                  go_simp
                  with_reducible rfl
                rotate_left
                · simp only [Act.put, List.setIfInBounds_toArray, List.set_cons_zero, List.set_cons_succ, i64_w, i32_w]
                  rfl
                refine pure_ (i := 4) (N := some 31) (v := ?_) (a' := ?_) #[true, false, true, true, true, false, false, true, false, false, false, false, false, false, false] rfl rfl (any_of HT_.out (by kernel_rfl)) (fun _ _ _ h => h) (Or.inl ⟨by rfl, ?_⟩) ?_ ?_
                rotate_left
                · intro w'
                  go_simp
                  with_reducible rfl
                rotate_left
                · simp only [Act.put, List.setIfInBounds_toArray, List.set_cons_zero, List.set_cons_succ, i64_w, i32_w]
                  rfl
                refine pure_ (i := 5) (N := some 32) (v := ?_) (a' := ?_) #[true, false, true, true, true, true, false, true, false, false, false, false, false, false, false] rfl rfl (any_of HT_.out (by kernel_rfl)) (fun _ _ _ h => h) (Or.inl ⟨by rfl, ?_⟩) ?_ ?_
                rotate_left
                · intro w'
                  go_simp
                  with_reducible rfl
                rotate_left
                · simp only [Act.put, List.setIfInBounds_toArray, List.set_cons_zero, List.set_cons_succ, i64_w, i32_w]
                  rfl
                refine pure_ (i := 6) (N := some 33) (v := ?_) (a' := ?_) #[true, false, true, true, true, true, true, true, false, false, false, false, false, false, false] rfl rfl (any_of HT_.out (by kernel_rfl)) (fun _ _ _ h => h) (Or.inl ⟨by rfl, ?_⟩) ?_ ?_
                rotate_left
                · intro w'
                  go_simp
                  with_reducible rfl
                rotate_left
                · simp only [Act.put, List.setIfInBounds_toArray, List.set_cons_zero, List.set_cons_succ, i64_w, i32_w]
                  rfl
                refine take_ (i := 8) (N := some 35) (v := ?_) (a' := ?_) #[true, false, true, true, true, true, true, true, true, false, false, false, false, false, false] rfl rfl (take_ofW HT_.out HW_.out (by kernel_rfl)) (fun _ _ _ h => h) (Or.inl ⟨by rfl, ?_⟩) hHeld ?_ ?_
                rotate_left
                · rintro w' ⟨s0, s1, s2, s3⟩
                  go_simp
                  with_reducible rfl
                rotate_left
                · simp only [Act.put, List.setIfInBounds_toArray, List.set_cons_zero, List.set_cons_succ, i64_w, i32_w]
                  rfl
                refine pure_ (i := 9) (N := some 36) (v := ?_) (a' := ?_) #[true, false, true, true, true, true, true, true, true, true, false, false, false, false, false] rfl rfl (any_of HT_.out (by kernel_rfl)) (fun _ _ _ h => h) (Or.inl ⟨by rfl, ?_⟩) ?_ ?_
                rotate_left
                · intro w'
                  go_simp
                  with_reducible rfl
                rotate_left
                · simp only [Act.put, List.setIfInBounds_toArray, List.set_cons_zero, List.set_cons_succ, i64_w, i32_w]
                  rfl
                refine pure_ (i := 10) (N := some 37) (v := ?_) (a' := ?_) #[true, false, true, true, true, true, true, true, true, true, true, false, false, false, false] rfl rfl (any_of HT_.out (by kernel_rfl)) (fun _ _ _ h => h) (Or.inl ⟨by rfl, ?_⟩) ?_ ?_
                rotate_left
                · intro w'
                  go_simp
                  with_reducible rfl
                rotate_left
                · simp only [Act.put, List.setIfInBounds_toArray, List.set_cons_zero, List.set_cons_succ, i64_w, i32_w]
                  rfl
                refine pure_ (i := 11) (N := some 38) (v := ?_) (a' := ?_) #[true, false, true, true, true, true, true, true, true, true, true, true, false, false, false] rfl rfl (any_of HT_.out (by kernel_rfl)) (fun _ _ _ h => h) (Or.inl ⟨by rfl, ?_⟩) ?_ ?_
                rotate_left
                · intro w'
                  go_simp
                  with_reducible rfl
                rotate_left
                · simp only [Act.put, List.setIfInBounds_toArray, List.set_cons_zero, List.set_cons_succ, i64_w, i32_w]
                  rfl
                refine join_ (σ := Nat) 1 #[true, true, true, true, true, true, true, true, true, true, true, true, true, true, false] (fun s_ => [(28, .string t116), (12, .pointer (some ⟨s_, 0, none⟩)), (39, .agg #[.string t116, .slice none 0 0, .int .i64 (1 + ((ji18) % 4)), .int .i64 (1 + ((ji19) % 50)), .int .i64 (-1), .string (⟨#[]⟩ : ByteArray)])]) (fun s_ w' => (w'.cell? ⟨gb115, 0, none⟩ = some (.int .u32 ((rd_T50 y106 x22_1).f0)) ∧ w'.cell? ⟨gb115, 1, none⟩ = some (.bool ((rd_T50 y106 x22_1).f1)) ∧ w'.cell? ⟨gb115, 2, none⟩ = some (.int .i64 ((rd_T50 y106 x22_1).f2)) ∧ w'.cell? ⟨gb115, 3, none⟩ = some (.int .i64 ((rd_T50 y106 x22_1).f3))) ∧ (Kd.S k43 43 w' w.heap.size (fun k_ => k_ ≠ s_) u106001 x106001_1) ∧ (w'.heap[gb104]? = some (.cells #[.string (⟨#[]⟩ : ByteArray), .slice none 0 0] 27 (0, 0))) ∧ (w'.heap[gb105]? = some (.cells #[.string a0, u106001] 27 (0, 0))) ∧ (w'.heap[gb115]? = some (.cells #[.int .u32 ((rd_T50 y106 x22_1).f0), .bool ((rd_T50 y106 x22_1).f1), .int .i64 ((rd_T50 y106 x22_1).f2), .int .i64 ((rd_T50 y106 x22_1).f3)] 50 (0, 0))) ∧ (w'.heap[s_]? = some (.cells #[.string (⟨#[]⟩ : ByteArray), .slice none 0 0, .int .i64 0, .int .i64 0, .int .i64 0, .string (⟨#[]⟩ : ByteArray)] 43 (0, 0))) ∧ (w.heap.size ≤ s_) ∧ (w.heap.size ≤ s_) ∧ (gb104 ≠ s_) ∧ (s_ ≠ gb104) ∧ (gb105 ≠ s_) ∧ (s_ ≠ gb105) ∧ (gb115 ≠ s_) ∧ (s_ ≠ gb115) ∧ (Below w.heap.size w w')) ?_ ?_
                rotate_left
                · intro hCont
                  refine two_ (i := 1) (j := 13) (Ni := some 28) (Nj := some 12) #[true, true, true, true, true, true, true, true, true, true, true, true, false, false, false] #[true, false, true, true, true, true, true, true, true, true, true, true, false, true, false] rfl rfl rfl rfl (two_of HT_.out (by kernel_rfl)) (by decide) (by decide) (fun K hK => ?_) (fun K hK => ?_)
                  · skip
                    refine goes_ Try.func12 (by kernel_rfl) rfl #[.int .i64 x22_1] (by rfl) rfl rfl (by (try simp only [List.map_toArray, List.map_cons, List.map_nil]); first | done | rfl | (simp only [List.length_drop, List.length_take]; rfl)) ?_
                    with_reducible refine (precincttop_name.calls x22_1 t116 _ A17.out).mono ?_
                    rintro e w27 ⟨rfl, hb⟩
                    refine ⟨_, rfl, ?_⟩
                    have n0_ := Aside0.mk (Kd.S_below (by (with_reducible repeat (first | apply Kd.S_alloc | apply Kd.S_drewN | apply Kd.S_drew)); exact HO_106001.out) hb)
                    have n1_ := Aside0.mk (blk_below (g := gb104) (o := .cells #[.string (⟨#[]⟩ : ByteArray), .slice none 0 0] 27 (0, 0)) (by (with_reducible repeat (first | refine blk_drewN ?_ _ | refine blk_drew ?_ | refine blk_alloc ?_ _)); exact BK104.out) hb)
                    have n2_ := Aside0.mk (blk_below (g := gb105) (o := .cells #[.string a0, u106001] 27 (0, 0)) (by (with_reducible repeat (first | refine blk_drewN ?_ _ | refine blk_drew ?_ | refine blk_alloc ?_ _)); exact BK105.out) hb)
                    have n3_ := Aside0.mk (blk_below (g := gb115) (o := .cells #[.int .u32 ((rd_T50 y106 x22_1).f0), .bool ((rd_T50 y106 x22_1).f1), .int .i64 ((rd_T50 y106 x22_1).f2), .int .i64 ((rd_T50 y106 x22_1).f3)] 50 (0, 0)) (by (with_reducible repeat (first | refine blk_drewN ?_ _ | refine blk_drew ?_ | refine blk_alloc ?_ _)); exact BK115.out) hb)
                    have n4_ := Aside0.mk (below_step (by repeat (first | (with_reducible first | exact HB.out | apply below_alloc | apply pw_below_drewN | apply below_drew1 | refine below_set ?_ GE104.out | refine below_set ?_ GE105.out | refine below_set ?_ GE115.out) | exact HB.out)) hb)
                    clear HO_106001
                    clear BK104
                    clear BK105
                    clear BK115
                    clear HB
                    have HO_106001 := n0_
                    have BK104 := n1_
                    have BK105 := n2_
                    have BK115 := n3_
                    have HB := n4_
                    clear n0_ n1_ n2_ n3_ n4_
                    (try clear hb)
                    (try clear hb2)
                    (try clear hk)
                    (try clear hi)
                    refine hK.out _ _ ⟨(blk_cell BK115.out 0).trans rfl, (blk_cell BK115.out 1).trans rfl, (blk_cell BK115.out 2).trans rfl, (blk_cell BK115.out 3).trans rfl⟩ (fun hHeld => ?_)
                    clear hK K
                    refine norm_ (a' := ?_) ?_ ?_
                    rotate_left
                    · show Act.put _ (some 28) _ = _
                      simp only [Act.put, List.setIfInBounds_toArray, List.set_cons_zero, List.set_cons_succ, i64_w, i32_w]
                      rfl
                    refine pure_ (i := 12) (N := some 39) (v := ?_) (a' := ?_) #[true, true, true, true, true, true, true, true, true, true, true, true, true, false, false] rfl rfl (any_of HT_.out (by kernel_rfl)) (fun _ _ _ h => h) (Or.inl ⟨by rfl, ?_⟩) ?_ ?_
                    rotate_left
                    · intro w'
                      go_simp
                      with_reducible rfl
                    rotate_left
                    · simp only [Act.put, List.setIfInBounds_toArray, List.set_cons_zero, List.set_cons_succ, i64_w, i32_w]
                      rfl
                    refine one_ (i := 13) (N := some 12) #[true, true, true, true, true, true, true, true, true, true, true, true, true, true, false] rfl rfl (one_of HT_.out (by kernel_rfl)) (by decide) (fun K hK => ?_)
                    refine box_step ?hg (N := 12) ?hd (cs := #[.string (⟨#[]⟩ : ByteArray), .slice none 0 0, .int .i64 0, .int .i64 0, .int .i64 0, .string (⟨#[]⟩ : ByteArray)]) (t := 43) ?hr ?_; (case hd => rfl); (case hg => rfl); (case hr => first | (go_simp; done) | (go_simp; rfl))
                    intro gb117 hg w28 hbox hb
                    have n0_ := Aside0.mk (Kd.S_below (Kd.S_elderB (by (with_reducible repeat (first | apply Kd.S_alloc | apply Kd.S_drewN | apply Kd.S_drew)); exact HO_106001.out) gb117 (Nat.le_of_eq hg.symm)) hb)
                    have n1_ := Aside0.mk (blk_below (g := gb104) (o := .cells #[.string (⟨#[]⟩ : ByteArray), .slice none 0 0] 27 (0, 0)) (by (with_reducible repeat (first | refine blk_drewN ?_ _ | refine blk_drew ?_ | refine blk_alloc ?_ _)); exact BK104.out) hb)
                    have n2_ := Aside0.mk (blk_below (g := gb105) (o := .cells #[.string a0, u106001] 27 (0, 0)) (by (with_reducible repeat (first | refine blk_drewN ?_ _ | refine blk_drew ?_ | refine blk_alloc ?_ _)); exact BK105.out) hb)
                    have n3_ := Aside0.mk (blk_below (g := gb115) (o := .cells #[.int .u32 ((rd_T50 y106 x22_1).f0), .bool ((rd_T50 y106 x22_1).f1), .int .i64 ((rd_T50 y106 x22_1).f2), .int .i64 ((rd_T50 y106 x22_1).f3)] 50 (0, 0)) (by (with_reducible repeat (first | refine blk_drewN ?_ _ | refine blk_drew ?_ | refine blk_alloc ?_ _)); exact BK115.out) hb)
                    have n4_ := Aside0.mk (below_step (by repeat (first | (with_reducible first | exact HB.out | apply below_alloc | apply pw_below_drewN | apply below_drew1 | refine below_set ?_ GE104.out | refine below_set ?_ GE105.out | refine below_set ?_ GE115.out) | exact HB.out)) hb)
                    have n5_ := Aside0.mk (hbox)
                    have n6_ := Aside0.mk ((by rw [hg]; exact (below_size (by repeat (first | (with_reducible first | exact HB.out | apply below_alloc | apply pw_below_drewN | apply below_drew1 | refine below_set ?_ GE104.out | refine below_set ?_ GE105.out | refine below_set ?_ GE115.out) | exact HB.out))) : w.heap.size ≤ gb117))
                    have n7_ := Aside0.mk ((by rw [hg]; exact (below_size (by repeat (first | (with_reducible first | exact HB.out | apply below_alloc | apply pw_below_drewN | apply below_drew1 | refine below_set ?_ GE104.out | refine below_set ?_ GE105.out | refine below_set ?_ GE115.out) | exact HB.out))) : w.heap.size ≤ gb117))
                    have n8_ := Aside0.mk ((by rw [hg]; exact Nat.ne_of_lt (blk_lt (g := gb104) (o := .cells #[.string (⟨#[]⟩ : ByteArray), .slice none 0 0] 27 (0, 0)) (by (with_reducible repeat (first | refine blk_drewN ?_ _ | refine blk_drew ?_ | refine blk_alloc ?_ _)); exact BK104.out)) : gb104 ≠ gb117))
                    have n9_ := Aside0.mk ((by rw [hg]; exact Nat.ne_of_gt (blk_lt (g := gb104) (o := .cells #[.string (⟨#[]⟩ : ByteArray), .slice none 0 0] 27 (0, 0)) (by (with_reducible repeat (first | refine blk_drewN ?_ _ | refine blk_drew ?_ | refine blk_alloc ?_ _)); exact BK104.out)) : gb117 ≠ gb104))
                    have n10_ := Aside0.mk ((by rw [hg]; exact Nat.ne_of_lt (blk_lt (g := gb105) (o := .cells #[.string a0, u106001] 27 (0, 0)) (by (with_reducible repeat (first | refine blk_drewN ?_ _ | refine blk_drew ?_ | refine blk_alloc ?_ _)); exact BK105.out)) : gb105 ≠ gb117))
                    have n11_ := Aside0.mk ((by rw [hg]; exact Nat.ne_of_gt (blk_lt (g := gb105) (o := .cells #[.string a0, u106001] 27 (0, 0)) (by (with_reducible repeat (first | refine blk_drewN ?_ _ | refine blk_drew ?_ | refine blk_alloc ?_ _)); exact BK105.out)) : gb117 ≠ gb105))
                    have n12_ := Aside0.mk ((by rw [hg]; exact Nat.ne_of_lt (blk_lt (g := gb115) (o := .cells #[.int .u32 ((rd_T50 y106 x22_1).f0), .bool ((rd_T50 y106 x22_1).f1), .int .i64 ((rd_T50 y106 x22_1).f2), .int .i64 ((rd_T50 y106 x22_1).f3)] 50 (0, 0)) (by (with_reducible repeat (first | refine blk_drewN ?_ _ | refine blk_drew ?_ | refine blk_alloc ?_ _)); exact BK115.out)) : gb115 ≠ gb117))
                    have n13_ := Aside0.mk ((by rw [hg]; exact Nat.ne_of_gt (blk_lt (g := gb115) (o := .cells #[.int .u32 ((rd_T50 y106 x22_1).f0), .bool ((rd_T50 y106 x22_1).f1), .int .i64 ((rd_T50 y106 x22_1).f2), .int .i64 ((rd_T50 y106 x22_1).f3)] 50 (0, 0)) (by (with_reducible repeat (first | refine blk_drewN ?_ _ | refine blk_drew ?_ | refine blk_alloc ?_ _)); exact BK115.out)) : gb117 ≠ gb115))
                    clear HO_106001
                    clear BK104
                    clear BK105
                    clear BK115
                    clear HB
                    have HO_106001 := n0_
                    have BK104 := n1_
                    have BK105 := n2_
                    have BK115 := n3_
                    have HB := n4_
                    have BK117 := n5_
                    have GW117 := n6_
                    have GE117 := n7_
                    have NB104_117 := n8_
                    have NB117_104 := n9_
                    have NB105_117 := n10_
                    have NB117_105 := n11_
                    have NB115_117 := n12_
                    have NB117_115 := n13_
                    clear n0_ n1_ n2_ n3_ n4_ n5_ n6_ n7_ n8_ n9_ n10_ n11_ n12_ n13_
                    clear hb hbox hg
                    refine hK.out _ _ ⟨(blk_cell BK115.out 0).trans rfl, (blk_cell BK115.out 1).trans rfl, (blk_cell BK115.out 2).trans rfl, (blk_cell BK115.out 3).trans rfl⟩ (fun hHeld => ?_)
                    clear hK K
                    refine norm_ (a' := ?_) ?_ ?_
                    rotate_left
                    · show Act.put _ (some 12) _ = _
                      simp only [Act.put, List.setIfInBounds_toArray, List.set_cons_zero, List.set_cons_succ, i64_w, i32_w]
                      rfl
                    exact norm_ (by simp only [putAll, Act.put, List.setIfInBounds_toArray, List.set_cons_zero, List.set_cons_succ]) (hCont (gb117) _ ⟨hHeld, (by (with_reducible repeat (first | apply Kd.S_alloc | apply Kd.S_drewN | apply Kd.S_drew)); exact Kd.S_mono HO_106001.out (fun _ hk => hk.2)), (by (with_reducible repeat (first | refine blk_drewN ?_ _ | refine blk_drew ?_ | refine blk_alloc ?_ _)); exact BK104.out), (by (with_reducible repeat (first | refine blk_drewN ?_ _ | refine blk_drew ?_ | refine blk_alloc ?_ _)); exact BK105.out), (by (with_reducible repeat (first | refine blk_drewN ?_ _ | refine blk_drew ?_ | refine blk_alloc ?_ _)); exact BK115.out), (by (with_reducible repeat (first | refine blk_drewN ?_ _ | refine blk_drew ?_ | refine blk_alloc ?_ _)); exact BK117.out), GW117.out, GE117.out, NB104_117.out, NB117_104.out, NB105_117.out, NB117_105.out, NB115_117.out, NB117_115.out, (by repeat (first | (with_reducible first | exact HB.out | apply below_alloc | apply pw_below_drewN | apply below_drew1 | refine below_set ?_ GE104.out | refine below_set ?_ GE105.out | refine below_set ?_ GE115.out | refine below_set ?_ GE117.out) | exact HB.out))⟩)
                  · skip
                    refine box_step ?hg (N := 12) ?hd (cs := #[.string (⟨#[]⟩ : ByteArray), .slice none 0 0, .int .i64 0, .int .i64 0, .int .i64 0, .string (⟨#[]⟩ : ByteArray)]) (t := 43) ?hr ?_; (case hd => rfl); (case hg => rfl); (case hr => first | (go_simp; done) | (go_simp; rfl))
                    intro gb117 hg w27 hbox hb
                    have n0_ := Aside0.mk (Kd.S_below (Kd.S_elderB (by (with_reducible repeat (first | apply Kd.S_alloc | apply Kd.S_drewN | apply Kd.S_drew)); exact HO_106001.out) gb117 (Nat.le_of_eq hg.symm)) hb)
                    have n1_ := Aside0.mk (blk_below (g := gb104) (o := .cells #[.string (⟨#[]⟩ : ByteArray), .slice none 0 0] 27 (0, 0)) (by (with_reducible repeat (first | refine blk_drewN ?_ _ | refine blk_drew ?_ | refine blk_alloc ?_ _)); exact BK104.out) hb)
                    have n2_ := Aside0.mk (blk_below (g := gb105) (o := .cells #[.string a0, u106001] 27 (0, 0)) (by (with_reducible repeat (first | refine blk_drewN ?_ _ | refine blk_drew ?_ | refine blk_alloc ?_ _)); exact BK105.out) hb)
                    have n3_ := Aside0.mk (blk_below (g := gb115) (o := .cells #[.int .u32 ((rd_T50 y106 x22_1).f0), .bool ((rd_T50 y106 x22_1).f1), .int .i64 ((rd_T50 y106 x22_1).f2), .int .i64 ((rd_T50 y106 x22_1).f3)] 50 (0, 0)) (by (with_reducible repeat (first | refine blk_drewN ?_ _ | refine blk_drew ?_ | refine blk_alloc ?_ _)); exact BK115.out) hb)
                    have n4_ := Aside0.mk (below_step (by repeat (first | (with_reducible first | exact HB.out | apply below_alloc | apply pw_below_drewN | apply below_drew1 | refine below_set ?_ GE104.out | refine below_set ?_ GE105.out | refine below_set ?_ GE115.out) | exact HB.out)) hb)
                    have n5_ := Aside0.mk (hbox)
                    have n6_ := Aside0.mk ((by rw [hg]; exact (below_size (by repeat (first | (with_reducible first | exact HB.out | apply below_alloc | apply pw_below_drewN | apply below_drew1 | refine below_set ?_ GE104.out | refine below_set ?_ GE105.out | refine below_set ?_ GE115.out) | exact HB.out))) : w.heap.size ≤ gb117))
                    have n7_ := Aside0.mk ((by rw [hg]; exact (below_size (by repeat (first | (with_reducible first | exact HB.out | apply below_alloc | apply pw_below_drewN | apply below_drew1 | refine below_set ?_ GE104.out | refine below_set ?_ GE105.out | refine below_set ?_ GE115.out) | exact HB.out))) : w.heap.size ≤ gb117))
                    have n8_ := Aside0.mk ((by rw [hg]; exact Nat.ne_of_lt (blk_lt (g := gb104) (o := .cells #[.string (⟨#[]⟩ : ByteArray), .slice none 0 0] 27 (0, 0)) (by (with_reducible repeat (first | refine blk_drewN ?_ _ | refine blk_drew ?_ | refine blk_alloc ?_ _)); exact BK104.out)) : gb104 ≠ gb117))
                    have n9_ := Aside0.mk ((by rw [hg]; exact Nat.ne_of_gt (blk_lt (g := gb104) (o := .cells #[.string (⟨#[]⟩ : ByteArray), .slice none 0 0] 27 (0, 0)) (by (with_reducible repeat (first | refine blk_drewN ?_ _ | refine blk_drew ?_ | refine blk_alloc ?_ _)); exact BK104.out)) : gb117 ≠ gb104))
                    have n10_ := Aside0.mk ((by rw [hg]; exact Nat.ne_of_lt (blk_lt (g := gb105) (o := .cells #[.string a0, u106001] 27 (0, 0)) (by (with_reducible repeat (first | refine blk_drewN ?_ _ | refine blk_drew ?_ | refine blk_alloc ?_ _)); exact BK105.out)) : gb105 ≠ gb117))
                    have n11_ := Aside0.mk ((by rw [hg]; exact Nat.ne_of_gt (blk_lt (g := gb105) (o := .cells #[.string a0, u106001] 27 (0, 0)) (by (with_reducible repeat (first | refine blk_drewN ?_ _ | refine blk_drew ?_ | refine blk_alloc ?_ _)); exact BK105.out)) : gb117 ≠ gb105))
                    have n12_ := Aside0.mk ((by rw [hg]; exact Nat.ne_of_lt (blk_lt (g := gb115) (o := .cells #[.int .u32 ((rd_T50 y106 x22_1).f0), .bool ((rd_T50 y106 x22_1).f1), .int .i64 ((rd_T50 y106 x22_1).f2), .int .i64 ((rd_T50 y106 x22_1).f3)] 50 (0, 0)) (by (with_reducible repeat (first | refine blk_drewN ?_ _ | refine blk_drew ?_ | refine blk_alloc ?_ _)); exact BK115.out)) : gb115 ≠ gb117))
                    have n13_ := Aside0.mk ((by rw [hg]; exact Nat.ne_of_gt (blk_lt (g := gb115) (o := .cells #[.int .u32 ((rd_T50 y106 x22_1).f0), .bool ((rd_T50 y106 x22_1).f1), .int .i64 ((rd_T50 y106 x22_1).f2), .int .i64 ((rd_T50 y106 x22_1).f3)] 50 (0, 0)) (by (with_reducible repeat (first | refine blk_drewN ?_ _ | refine blk_drew ?_ | refine blk_alloc ?_ _)); exact BK115.out)) : gb117 ≠ gb115))
                    clear HO_106001
                    clear BK104
                    clear BK105
                    clear BK115
                    clear HB
                    have HO_106001 := n0_
                    have BK104 := n1_
                    have BK105 := n2_
                    have BK115 := n3_
                    have HB := n4_
                    have BK117 := n5_
                    have GW117 := n6_
                    have GE117 := n7_
                    have NB104_117 := n8_
                    have NB117_104 := n9_
                    have NB105_117 := n10_
                    have NB117_105 := n11_
                    have NB115_117 := n12_
                    have NB117_115 := n13_
                    clear n0_ n1_ n2_ n3_ n4_ n5_ n6_ n7_ n8_ n9_ n10_ n11_ n12_ n13_
                    clear hb hbox hg
                    refine hK.out _ _ ⟨(blk_cell BK115.out 0).trans rfl, (blk_cell BK115.out 1).trans rfl, (blk_cell BK115.out 2).trans rfl, (blk_cell BK115.out 3).trans rfl⟩ (fun hHeld => ?_)
                    clear hK K
                    refine norm_ (a' := ?_) ?_ ?_
                    rotate_left
                    · show Act.put _ (some 12) _ = _
                      simp only [Act.put, List.setIfInBounds_toArray, List.set_cons_zero, List.set_cons_succ, i64_w, i32_w]
                      rfl
                    refine one_ (i := 1) (N := some 28) #[true, true, true, true, true, true, true, true, true, true, true, true, false, true, false] rfl rfl (one_of HT_.out (by kernel_rfl)) (by decide) (fun K hK => ?_)
                    refine goes_ Try.func12 (by kernel_rfl) rfl #[.int .i64 x22_1] (by rfl) rfl rfl (by (try simp only [List.map_toArray, List.map_cons, List.map_nil]); first | done | rfl | (simp only [List.length_drop, List.length_take]; rfl)) ?_
                    with_reducible refine (precincttop_name.calls x22_1 t116 _ A17.out).mono ?_
                    rintro e w28 ⟨rfl, hb⟩
                    refine ⟨_, rfl, ?_⟩
                    have n0_ := Aside0.mk (Kd.S_below (by (with_reducible repeat (first | apply Kd.S_alloc | apply Kd.S_drewN | apply Kd.S_drew)); exact HO_106001.out) hb)
                    have n1_ := Aside0.mk (blk_below (g := gb104) (o := .cells #[.string (⟨#[]⟩ : ByteArray), .slice none 0 0] 27 (0, 0)) (by (with_reducible repeat (first | refine blk_drewN ?_ _ | refine blk_drew ?_ | refine blk_alloc ?_ _)); exact BK104.out) hb)
                    have n2_ := Aside0.mk (blk_below (g := gb105) (o := .cells #[.string a0, u106001] 27 (0, 0)) (by (with_reducible repeat (first | refine blk_drewN ?_ _ | refine blk_drew ?_ | refine blk_alloc ?_ _)); exact BK105.out) hb)
                    have n3_ := Aside0.mk (blk_below (g := gb115) (o := .cells #[.int .u32 ((rd_T50 y106 x22_1).f0), .bool ((rd_T50 y106 x22_1).f1), .int .i64 ((rd_T50 y106 x22_1).f2), .int .i64 ((rd_T50 y106 x22_1).f3)] 50 (0, 0)) (by (with_reducible repeat (first | refine blk_drewN ?_ _ | refine blk_drew ?_ | refine blk_alloc ?_ _)); exact BK115.out) hb)
                    have n4_ := Aside0.mk (blk_below (g := gb117) (o := .cells #[.string (⟨#[]⟩ : ByteArray), .slice none 0 0, .int .i64 0, .int .i64 0, .int .i64 0, .string (⟨#[]⟩ : ByteArray)] 43 (0, 0)) (by (with_reducible repeat (first | refine blk_drewN ?_ _ | refine blk_drew ?_ | refine blk_alloc ?_ _)); exact BK117.out) hb)
                    have n5_ := Aside0.mk (below_step (by repeat (first | (with_reducible first | exact HB.out | apply below_alloc | apply pw_below_drewN | apply below_drew1 | refine below_set ?_ GE104.out | refine below_set ?_ GE105.out | refine below_set ?_ GE115.out | refine below_set ?_ GE117.out) | exact HB.out)) hb)
                    clear HO_106001
                    clear BK104
                    clear BK105
                    clear BK115
                    clear BK117
                    clear HB
                    have HO_106001 := n0_
                    have BK104 := n1_
                    have BK105 := n2_
                    have BK115 := n3_
                    have BK117 := n4_
                    have HB := n5_
                    clear n0_ n1_ n2_ n3_ n4_ n5_
                    (try clear hb)
                    (try clear hb2)
                    (try clear hk)
                    (try clear hi)
                    refine hK.out _ _ ⟨(blk_cell BK115.out 0).trans rfl, (blk_cell BK115.out 1).trans rfl, (blk_cell BK115.out 2).trans rfl, (blk_cell BK115.out 3).trans rfl⟩ (fun hHeld => ?_)
                    clear hK K
                    refine norm_ (a' := ?_) ?_ ?_
                    rotate_left
                    · show Act.put _ (some 28) _ = _
                      simp only [Act.put, List.setIfInBounds_toArray, List.set_cons_zero, List.set_cons_succ, i64_w, i32_w]
                      rfl
                    refine pure_ (i := 12) (N := some 39) (v := ?_) (a' := ?_) #[true, true, true, true, true, true, true, true, true, true, true, true, true, true, false] rfl rfl (any_of HT_.out (by kernel_rfl)) (fun _ _ _ h => h) (Or.inl ⟨by rfl, ?_⟩) ?_ ?_
                    rotate_left
                    · intro w'
                      go_simp
                      with_reducible rfl
                    rotate_left
                    · simp only [Act.put, List.setIfInBounds_toArray, List.set_cons_zero, List.set_cons_succ, i64_w, i32_w]
                      rfl
                    exact norm_ (by simp only [putAll, Act.put, List.setIfInBounds_toArray, List.set_cons_zero, List.set_cons_succ]) (hCont (gb117) _ ⟨hHeld, (by (with_reducible repeat (first | apply Kd.S_alloc | apply Kd.S_drewN | apply Kd.S_drew)); exact Kd.S_mono HO_106001.out (fun _ hk => hk.2)), (by (with_reducible repeat (first | refine blk_drewN ?_ _ | refine blk_drew ?_ | refine blk_alloc ?_ _)); exact BK104.out), (by (with_reducible repeat (first | refine blk_drewN ?_ _ | refine blk_drew ?_ | refine blk_alloc ?_ _)); exact BK105.out), (by (with_reducible repeat (first | refine blk_drewN ?_ _ | refine blk_drew ?_ | refine blk_alloc ?_ _)); exact BK115.out), (by (with_reducible repeat (first | refine blk_drewN ?_ _ | refine blk_drew ?_ | refine blk_alloc ?_ _)); exact BK117.out), GW117.out, GE117.out, NB104_117.out, NB117_104.out, NB105_117.out, NB117_105.out, NB115_117.out, NB117_115.out, (by repeat (first | (with_reducible first | exact HB.out | apply below_alloc | apply pw_below_drewN | apply below_drew1 | refine below_set ?_ GE104.out | refine below_set ?_ GE105.out | refine below_set ?_ GE115.out | refine below_set ?_ GE117.out) | exact HB.out))⟩)
                rintro gb117 w29 ⟨hS_, h0_, h1_, h2_, h3_, h4_, h5_, h6_, h7_, h8_, h9_, h10_, h11_, h12_, h13_⟩
                have n0_ : Aside0 (Kd.S k43 43 w29 w.heap.size (fun k_ => k_ ≠ gb117) u106001 x106001_1) := ⟨h0_⟩
                have n1_ : Aside0 (w29.heap[gb104]? = some (.cells #[.string (⟨#[]⟩ : ByteArray), .slice none 0 0] 27 (0, 0))) := ⟨h1_⟩
                have n2_ : Aside0 (w29.heap[gb105]? = some (.cells #[.string a0, u106001] 27 (0, 0))) := ⟨h2_⟩
                have n3_ : Aside0 (w29.heap[gb115]? = some (.cells #[.int .u32 ((rd_T50 y106 x22_1).f0), .bool ((rd_T50 y106 x22_1).f1), .int .i64 ((rd_T50 y106 x22_1).f2), .int .i64 ((rd_T50 y106 x22_1).f3)] 50 (0, 0))) := ⟨h3_⟩
                have n4_ : Aside0 (w29.heap[gb117]? = some (.cells #[.string (⟨#[]⟩ : ByteArray), .slice none 0 0, .int .i64 0, .int .i64 0, .int .i64 0, .string (⟨#[]⟩ : ByteArray)] 43 (0, 0))) := ⟨h4_⟩
                have n5_ : Aside0 (w.heap.size ≤ gb117) := ⟨h5_⟩
                have n6_ : Aside0 (w.heap.size ≤ gb117) := ⟨h6_⟩
                have n7_ : Aside0 (gb104 ≠ gb117) := ⟨h7_⟩
                have n8_ : Aside0 (gb117 ≠ gb104) := ⟨h8_⟩
                have n9_ : Aside0 (gb105 ≠ gb117) := ⟨h9_⟩
                have n10_ : Aside0 (gb117 ≠ gb105) := ⟨h10_⟩
                have n11_ : Aside0 (gb115 ≠ gb117) := ⟨h11_⟩
                have n12_ : Aside0 (gb117 ≠ gb115) := ⟨h12_⟩
                have n13_ : Aside0 (Below w.heap.size w w29) := ⟨h13_⟩
                clear HO_106001
                clear BK104
                clear BK105
                clear BK115
                clear HB
                clear h0_ h1_ h2_ h3_ h4_ h5_ h6_ h7_ h8_ h9_ h10_ h11_ h12_ h13_
                have HO_106001 := n0_
                have BK104 := n1_
                have BK105 := n2_
                have BK115 := n3_
                have BK117 := n4_
                have GW117 := n5_
                have GE117 := n6_
                have NB104_117 := n7_
                have NB117_104 := n8_
                have NB105_117 := n9_
                have NB117_105 := n10_
                have NB115_117 := n11_
                have NB117_115 := n12_
                have HB := n13_
                clear n0_ n1_ n2_ n3_ n4_ n5_ n6_ n7_ n8_ n9_ n10_ n11_ n12_ n13_
                have hHeld : w29.cell? ⟨gb115, 0, none⟩ = some (.int .u32 ((rd_T50 y106 x22_1).f0)) ∧ w29.cell? ⟨gb115, 1, none⟩ = some (.bool ((rd_T50 y106 x22_1).f1)) ∧ w29.cell? ⟨gb115, 2, none⟩ = some (.int .i64 ((rd_T50 y106 x22_1).f2)) ∧ w29.cell? ⟨gb115, 3, none⟩ = some (.int .i64 ((rd_T50 y106 x22_1).f3)) := hS_
                refine norm_ (a' := ?_) ?_ ?_
                rotate_left
                · simp only [putAll, Act.put, List.setIfInBounds_toArray, List.set_cons_zero, List.set_cons_succ]
                  rfl
                refine one_ (i := 14) (N := none) #[true, true, true, true, true, true, true, true, true, true, true, true, true, true, true] rfl rfl (one_of HT_.out (by kernel_rfl)) (by decide) (fun K hK => ?_)
                have hs30 : w29.cell? ⟨gb117, 0, none⟩ = some (.string (⟨#[]⟩ : ByteArray)) := (blk_cell BK117.out 0).trans rfl
                have hfs30 := blk_frozen BK117.out 0
                have hns30_0 := NB104_117.out
                have hns30_1 := NB105_117.out
                have hns30_2 := NB115_117.out
                have hms30_0 := NB117_104.out
                have hms30_1 := NB117_105.out
                have hms30_2 := NB117_115.out
                have hs31 : w29.cell? ⟨gb117, 1, none⟩ = some (.slice none 0 0) := (blk_cell BK117.out 1).trans rfl
                have hfs31 := blk_frozen BK117.out 1
                have hns31_0 := NB104_117.out
                have hns31_1 := NB105_117.out
                have hns31_2 := NB115_117.out
                have hms31_0 := NB117_104.out
                have hms31_1 := NB117_105.out
                have hms31_2 := NB117_115.out
                have hs32 : w29.cell? ⟨gb117, 2, none⟩ = some (.int .i64 0) := (blk_cell BK117.out 2).trans rfl
                have hfs32 := blk_frozen BK117.out 2
                have hns32_0 := NB104_117.out
                have hns32_1 := NB105_117.out
                have hns32_2 := NB115_117.out
                have hms32_0 := NB117_104.out
                have hms32_1 := NB117_105.out
                have hms32_2 := NB117_115.out
                have hs33 : w29.cell? ⟨gb117, 3, none⟩ = some (.int .i64 0) := (blk_cell BK117.out 3).trans rfl
                have hfs33 := blk_frozen BK117.out 3
                have hns33_0 := NB104_117.out
                have hns33_1 := NB105_117.out
                have hns33_2 := NB115_117.out
                have hms33_0 := NB117_104.out
                have hms33_1 := NB117_105.out
                have hms33_2 := NB117_115.out
                have hs34 : w29.cell? ⟨gb117, 4, none⟩ = some (.int .i64 0) := (blk_cell BK117.out 4).trans rfl
                have hfs34 := blk_frozen BK117.out 4
                have hns34_0 := NB104_117.out
                have hns34_1 := NB105_117.out
                have hns34_2 := NB115_117.out
                have hms34_0 := NB117_104.out
                have hms34_1 := NB117_105.out
                have hms34_2 := NB117_115.out
                have hs35 : w29.cell? ⟨gb117, 5, none⟩ = some (.string (⟨#[]⟩ : ByteArray)) := (blk_cell BK117.out 5).trans rfl
                have hfs35 := blk_frozen BK117.out 5
                have hns35_0 := NB104_117.out
                have hns35_1 := NB105_117.out
                have hns35_2 := NB115_117.out
                have hms35_0 := NB117_104.out
                have hms35_1 := NB117_105.out
                have hms35_2 := NB117_115.out
                refine skip_ (w1 := ?_) (by rfl) rfl ?_ ?_
                rotate_left
                · go_simp
                  rfl
                refine hK.out _ _ ⟨((cell_far (p := ⟨gb117, _, none⟩) NB115_117.out _).trans (((cell_far (p := ⟨gb117, _, none⟩) NB115_117.out _).trans (((cell_far (p := ⟨gb117, _, none⟩) NB115_117.out _).trans (((cell_far (p := ⟨gb117, _, none⟩) NB115_117.out _).trans (((cell_far (p := ⟨gb117, _, none⟩) NB115_117.out _).trans (((cell_far (p := ⟨gb117, _, none⟩) NB115_117.out _).trans (hHeld.1)))))))))))), ((cell_far (p := ⟨gb117, _, none⟩) NB115_117.out _).trans (((cell_far (p := ⟨gb117, _, none⟩) NB115_117.out _).trans (((cell_far (p := ⟨gb117, _, none⟩) NB115_117.out _).trans (((cell_far (p := ⟨gb117, _, none⟩) NB115_117.out _).trans (((cell_far (p := ⟨gb117, _, none⟩) NB115_117.out _).trans (((cell_far (p := ⟨gb117, _, none⟩) NB115_117.out _).trans (hHeld.2.1)))))))))))), ((cell_far (p := ⟨gb117, _, none⟩) NB115_117.out _).trans (((cell_far (p := ⟨gb117, _, none⟩) NB115_117.out _).trans (((cell_far (p := ⟨gb117, _, none⟩) NB115_117.out _).trans (((cell_far (p := ⟨gb117, _, none⟩) NB115_117.out _).trans (((cell_far (p := ⟨gb117, _, none⟩) NB115_117.out _).trans (((cell_far (p := ⟨gb117, _, none⟩) NB115_117.out _).trans (hHeld.2.2.1)))))))))))), ((cell_far (p := ⟨gb117, _, none⟩) NB115_117.out _).trans (((cell_far (p := ⟨gb117, _, none⟩) NB115_117.out _).trans (((cell_far (p := ⟨gb117, _, none⟩) NB115_117.out _).trans (((cell_far (p := ⟨gb117, _, none⟩) NB115_117.out _).trans (((cell_far (p := ⟨gb117, _, none⟩) NB115_117.out _).trans (((cell_far (p := ⟨gb117, _, none⟩) NB115_117.out _).trans (hHeld.2.2.2))))))))))))⟩ (fun hHeld => ?_)
                clear hK K
                refine done_ (done_of HT_.out (by kernel_rfl)) ?_
                go_upto_region 6 with (fail)
                go_cut [45] (fun v45 wc => ∃ (kq : Nat) (x45_19 : Bool), v45 = .bool x45_19 ∧ Aside0 (precincttop_flow.j1 kq a2 a3 x22_1 y106 (y106.length : Int) x22_1 x45_19 a0 x106001_1 ((rd_T50 y106 x22_1).f0) ((rd_T50 y106 x22_1).f1) ((rd_T50 y106 x22_1).f2) ((rd_T50 y106 x22_1).f3) t116 (1 + ((ji18) % 4)) (1 + ((ji19) % 50)) (-1) (⟨#[]⟩ : ByteArray) = some (r1, r2)) ∧ Aside0 (kq ≤ k1) ∧ Aside0 (Kd.S k43 43 wc w.heap.size (fun k_ => k_ ≠ gb117) u106001 x106001_1) ∧ Aside0 (wc.heap[gb104]? = some (.cells #[.string (⟨#[]⟩ : ByteArray), (.slice none 0 0)] 27 (0, 0))) ∧ Aside0 (wc.heap[gb105]? = some (.cells #[.string a0, u106001] 27 (0, 0))) ∧ Aside0 (wc.heap[gb115]? = some (.cells #[.int .u32 ((rd_T50 y106 x22_1).f0), .bool ((rd_T50 y106 x22_1).f1), .int .i64 ((rd_T50 y106 x22_1).f2), .int .i64 ((rd_T50 y106 x22_1).f3)] 50 (0, 0))) ∧ Aside0 (wc.heap[gb117]? = some (.cells #[.string t116, (.slice none 0 0), .int .i64 (1 + ((ji18) % 4)), .int .i64 (1 + ((ji19) % 50)), .int .i64 (-1), .string (⟨#[]⟩ : ByteArray)] 43 (0, 0))) ∧ Aside0 (Below w.heap.size w wc))
                case first =>
                  have H := HC20.out
                  clear HC20
                  obtain ⟨bq36, hbq36⟩ : ∃ b_ : Bool, b_ = ((rd_T50 y106 x22_1).f1) := ⟨_, rfl⟩
                  replace H : (if bq36 = true then (precincttop_flow.j1 k1 a2 a3 x22_1 y106 (y106.length : Int) x22_1 (decide (a2 ≥ 0)) a0 x106001_1 ((rd_T50 y106 x22_1).f0) bq36 ((rd_T50 y106 x22_1).f2) ((rd_T50 y106 x22_1).f3) t116 (1 + ((ji18) % 4)) (1 + ((ji19) % 50)) (-1) (⟨#[]⟩ : ByteArray)) else (precincttop_flow.j1 k1 a2 a3 x22_1 y106 (y106.length : Int) x22_1 false a0 x106001_1 ((rd_T50 y106 x22_1).f0) bq36 ((rd_T50 y106 x22_1).f2) ((rd_T50 y106 x22_1).f3) t116 (1 + ((ji18) % 4)) (1 + ((ji19) % 50)) (-1) (⟨#[]⟩ : ByteArray))) = some (r1, r2) := by rw [← hbq36] at H; exact H
                  have Nbq36 := Aside0.mk hbq36
                  clear hbq36
                  (try rw [← Nbq36.out])
                  by_cases c37 : bq36 = true
                  · subst c37
                    have H1 : (precincttop_flow.j1 k1 a2 a3 x22_1 y106 (y106.length : Int) x22_1 (decide (a2 ≥ 0)) a0 x106001_1 ((rd_T50 y106 x22_1).f0) true ((rd_T50 y106 x22_1).f2) ((rd_T50 y106 x22_1).f3) t116 (1 + ((ji18) % 4)) (1 + ((ji19) % 50)) (-1) (⟨#[]⟩ : ByteArray)) = some (r1, r2) := by rw [if_pos rfl] at H; exact H
                    clear H
                    have H := H1
                    clear H1
                    have H' := Aside0.mk H
                    clear H
                    have hnb38 := NB115_104.out
                    have hnc38 := NB104_115.out
                    have hnb39 := NB115_105.out
                    have hnc39 := NB105_115.out
                    have hnb40 := NB115_117.out
                    have hnc40 := NB117_115.out
                    have hcz41_0 : w29.cell? ⟨gb115, 0, none⟩ = some (.int .u32 ((rd_T50 y106 x22_1).f0)) := (blk_cell BK115.out 0).trans rfl
                    have hF1 : (rd_T50 y106 x22_1).f1 = true := by first | exact Nbq36.out | exact Nbq36.out.symm
                    have hcz41_1 : w29.cell? ⟨gb115, 1, none⟩ = some (.bool true) := (blk_cell BK115.out 1).trans (by rw [hF1]; rfl)
                    have hcz41_2 : w29.cell? ⟨gb115, 2, none⟩ = some (.int .i64 ((rd_T50 y106 x22_1).f2)) := (blk_cell BK115.out 2).trans rfl
                    have hcz41_3 : w29.cell? ⟨gb115, 3, none⟩ = some (.int .i64 ((rd_T50 y106 x22_1).f3)) := (blk_cell BK115.out 3).trans rfl
                    have hfz41_0 := blk_frozen BK115.out 0
                    have hfz41_1 := blk_frozen BK115.out 1
                    have hfz41_2 := blk_frozen BK115.out 2
                    have hfz41_3 := blk_frozen BK115.out 3
                    go_wp2
                    go_meet
                    case rel => exact ⟨_, (decide (a2 ≥ 0)), (by first | rfl | (simp; done) | (simp [*]; done)), (by rw [hF1]; exact H'), ⟨by have := HK1.out; first | omega | exact Nat.le_refl _⟩, ⟨by (with_reducible repeat (first | apply Kd.S_alloc | apply Kd.S_drewN | apply Kd.S_drew)); exact Kd.S_mono (Kd.S_far (p := ⟨gb117, 5, none⟩) (Kd.S_far (p := ⟨gb117, 4, none⟩) (Kd.S_far (p := ⟨gb117, 3, none⟩) (Kd.S_far (p := ⟨gb117, 2, none⟩) (Kd.S_far (p := ⟨gb117, 1, none⟩) (Kd.S_far (p := ⟨gb117, 0, none⟩) (Kd.S_mono HO_106001.out (fun k_ hk => (⟨hk, hk⟩ : _ ∧ k_ ≠ gb117))) (fun _ hk => hk.2) (.string t116)) (fun _ hk => hk.2) (.slice none 0 0)) (fun _ hk => hk.2) (.int .i64 (1 + ((ji18) % 4)))) (fun _ hk => hk.2) (.int .i64 (1 + ((ji19) % 50)))) (fun _ hk => hk.2) (.int .i64 (-1))) (fun _ hk => hk.2) (.string (⟨#[]⟩ : ByteArray))) (fun _ hk => hk.1)⟩, ⟨by (with_reducible repeat (first | refine blk_drewN ?_ _ | refine blk_drew ?_ | refine blk_alloc ?_ _)); refine blk_far ?_ NB104_117.out _; (with_reducible repeat (first | refine blk_drewN ?_ _ | refine blk_drew ?_ | refine blk_alloc ?_ _)); refine blk_far ?_ NB104_117.out _; (with_reducible repeat (first | refine blk_drewN ?_ _ | refine blk_drew ?_ | refine blk_alloc ?_ _)); refine blk_far ?_ NB104_117.out _; (with_reducible repeat (first | refine blk_drewN ?_ _ | refine blk_drew ?_ | refine blk_alloc ?_ _)); refine blk_far ?_ NB104_117.out _; (with_reducible repeat (first | refine blk_drewN ?_ _ | refine blk_drew ?_ | refine blk_alloc ?_ _)); refine blk_far ?_ NB104_117.out _; (with_reducible repeat (first | refine blk_drewN ?_ _ | refine blk_drew ?_ | refine blk_alloc ?_ _)); refine blk_far ?_ NB104_117.out _; (with_reducible repeat (first | refine blk_drewN ?_ _ | refine blk_drew ?_ | refine blk_alloc ?_ _)); exact BK104.out⟩, ⟨by (with_reducible repeat (first | refine blk_drewN ?_ _ | refine blk_drew ?_ | refine blk_alloc ?_ _)); refine blk_far ?_ NB105_117.out _; (with_reducible repeat (first | refine blk_drewN ?_ _ | refine blk_drew ?_ | refine blk_alloc ?_ _)); refine blk_far ?_ NB105_117.out _; (with_reducible repeat (first | refine blk_drewN ?_ _ | refine blk_drew ?_ | refine blk_alloc ?_ _)); refine blk_far ?_ NB105_117.out _; (with_reducible repeat (first | refine blk_drewN ?_ _ | refine blk_drew ?_ | refine blk_alloc ?_ _)); refine blk_far ?_ NB105_117.out _; (with_reducible repeat (first | refine blk_drewN ?_ _ | refine blk_drew ?_ | refine blk_alloc ?_ _)); refine blk_far ?_ NB105_117.out _; (with_reducible repeat (first | refine blk_drewN ?_ _ | refine blk_drew ?_ | refine blk_alloc ?_ _)); refine blk_far ?_ NB105_117.out _; (with_reducible repeat (first | refine blk_drewN ?_ _ | refine blk_drew ?_ | refine blk_alloc ?_ _)); exact BK105.out⟩, ⟨by (with_reducible repeat (first | refine blk_drewN ?_ _ | refine blk_drew ?_ | refine blk_alloc ?_ _)); refine blk_far ?_ NB115_117.out _; (with_reducible repeat (first | refine blk_drewN ?_ _ | refine blk_drew ?_ | refine blk_alloc ?_ _)); refine blk_far ?_ NB115_117.out _; (with_reducible repeat (first | refine blk_drewN ?_ _ | refine blk_drew ?_ | refine blk_alloc ?_ _)); refine blk_far ?_ NB115_117.out _; (with_reducible repeat (first | refine blk_drewN ?_ _ | refine blk_drew ?_ | refine blk_alloc ?_ _)); refine blk_far ?_ NB115_117.out _; (with_reducible repeat (first | refine blk_drewN ?_ _ | refine blk_drew ?_ | refine blk_alloc ?_ _)); refine blk_far ?_ NB115_117.out _; (with_reducible repeat (first | refine blk_drewN ?_ _ | refine blk_drew ?_ | refine blk_alloc ?_ _)); refine blk_far ?_ NB115_117.out _; (with_reducible repeat (first | refine blk_drewN ?_ _ | refine blk_drew ?_ | refine blk_alloc ?_ _)); exact BK115.out⟩, ⟨by (with_reducible repeat (first | refine blk_drewN ?_ _ | refine blk_drew ?_ | refine blk_alloc ?_ _)); refine blk_put (cs := #[.string t116, .slice none 0 0, .int .i64 (1 + ((ji18) % 4)), .int .i64 (1 + ((ji19) % 50)), .int .i64 (-1), .string (⟨#[]⟩ : ByteArray)]) ?_ 5 _ rfl; (with_reducible repeat (first | refine blk_drewN ?_ _ | refine blk_drew ?_ | refine blk_alloc ?_ _)); refine blk_put (cs := #[.string t116, .slice none 0 0, .int .i64 (1 + ((ji18) % 4)), .int .i64 (1 + ((ji19) % 50)), .int .i64 0, .string (⟨#[]⟩ : ByteArray)]) ?_ 4 _ rfl; (with_reducible repeat (first | refine blk_drewN ?_ _ | refine blk_drew ?_ | refine blk_alloc ?_ _)); refine blk_put (cs := #[.string t116, .slice none 0 0, .int .i64 (1 + ((ji18) % 4)), .int .i64 0, .int .i64 0, .string (⟨#[]⟩ : ByteArray)]) ?_ 3 _ rfl; (with_reducible repeat (first | refine blk_drewN ?_ _ | refine blk_drew ?_ | refine blk_alloc ?_ _)); refine blk_put (cs := #[.string t116, .slice none 0 0, .int .i64 0, .int .i64 0, .int .i64 0, .string (⟨#[]⟩ : ByteArray)]) ?_ 2 _ rfl; (with_reducible repeat (first | refine blk_drewN ?_ _ | refine blk_drew ?_ | refine blk_alloc ?_ _)); refine blk_put (cs := #[.string t116, .slice none 0 0, .int .i64 0, .int .i64 0, .int .i64 0, .string (⟨#[]⟩ : ByteArray)]) ?_ 1 _ rfl; (with_reducible repeat (first | refine blk_drewN ?_ _ | refine blk_drew ?_ | refine blk_alloc ?_ _)); refine blk_put (cs := #[.string (⟨#[]⟩ : ByteArray), .slice none 0 0, .int .i64 0, .int .i64 0, .int .i64 0, .string (⟨#[]⟩ : ByteArray)]) ?_ 0 _ rfl; (with_reducible repeat (first | refine blk_drewN ?_ _ | refine blk_drew ?_ | refine blk_alloc ?_ _)); exact BK117.out⟩, ⟨by repeat (first | (with_reducible first | exact HB.out | apply below_alloc | apply pw_below_drewN | apply below_drew1 | refine below_set ?_ GE104.out | refine below_set ?_ GE105.out | refine below_set ?_ GE115.out | refine below_set ?_ GE117.out) | exact HB.out)⟩⟩
                  · replace c37 := Bool.eq_false_iff.mpr c37
                    subst c37
                    have H1 : (precincttop_flow.j1 k1 a2 a3 x22_1 y106 (y106.length : Int) x22_1 false a0 x106001_1 ((rd_T50 y106 x22_1).f0) false ((rd_T50 y106 x22_1).f2) ((rd_T50 y106 x22_1).f3) t116 (1 + ((ji18) % 4)) (1 + ((ji19) % 50)) (-1) (⟨#[]⟩ : ByteArray)) = some (r1, r2) := by rw [if_neg (show ¬ (false = true) by decide)] at H; exact H
                    clear H
                    have H := H1
                    clear H1
                    have H' := Aside0.mk H
                    clear H
                    have hnb42 := NB115_104.out
                    have hnc42 := NB104_115.out
                    have hnb43 := NB115_105.out
                    have hnc43 := NB105_115.out
                    have hnb44 := NB115_117.out
                    have hnc44 := NB117_115.out
                    have hcz45_0 : w29.cell? ⟨gb115, 0, none⟩ = some (.int .u32 ((rd_T50 y106 x22_1).f0)) := (blk_cell BK115.out 0).trans rfl
                    have hF1 : (rd_T50 y106 x22_1).f1 = false := by first | exact Nbq36.out | exact Nbq36.out.symm | (have := Nbq36.out; simp_all)
                    have hcz45_1 : w29.cell? ⟨gb115, 1, none⟩ = some (.bool false) := (blk_cell BK115.out 1).trans (by rw [hF1]; rfl)
                    have hcz45_2 : w29.cell? ⟨gb115, 2, none⟩ = some (.int .i64 ((rd_T50 y106 x22_1).f2)) := (blk_cell BK115.out 2).trans rfl
                    have hcz45_3 : w29.cell? ⟨gb115, 3, none⟩ = some (.int .i64 ((rd_T50 y106 x22_1).f3)) := (blk_cell BK115.out 3).trans rfl
                    have hfz45_0 := blk_frozen BK115.out 0
                    have hfz45_1 := blk_frozen BK115.out 1
                    have hfz45_2 := blk_frozen BK115.out 2
                    have hfz45_3 := blk_frozen BK115.out 3
                    go_wp2
                    go_meet
                    case rel => exact ⟨_, (false), (by first | rfl | (simp; done) | (simp [*]; done)), (by rw [hF1]; exact H'), ⟨by have := HK1.out; first | omega | exact Nat.le_refl _⟩, ⟨by (with_reducible repeat (first | apply Kd.S_alloc | apply Kd.S_drewN | apply Kd.S_drew)); exact Kd.S_mono (Kd.S_far (p := ⟨gb117, 5, none⟩) (Kd.S_far (p := ⟨gb117, 4, none⟩) (Kd.S_far (p := ⟨gb117, 3, none⟩) (Kd.S_far (p := ⟨gb117, 2, none⟩) (Kd.S_far (p := ⟨gb117, 1, none⟩) (Kd.S_far (p := ⟨gb117, 0, none⟩) (Kd.S_mono HO_106001.out (fun k_ hk => (⟨hk, hk⟩ : _ ∧ k_ ≠ gb117))) (fun _ hk => hk.2) (.string t116)) (fun _ hk => hk.2) (.slice none 0 0)) (fun _ hk => hk.2) (.int .i64 (1 + ((ji18) % 4)))) (fun _ hk => hk.2) (.int .i64 (1 + ((ji19) % 50)))) (fun _ hk => hk.2) (.int .i64 (-1))) (fun _ hk => hk.2) (.string (⟨#[]⟩ : ByteArray))) (fun _ hk => hk.1)⟩, ⟨by (with_reducible repeat (first | refine blk_drewN ?_ _ | refine blk_drew ?_ | refine blk_alloc ?_ _)); refine blk_far ?_ NB104_117.out _; (with_reducible repeat (first | refine blk_drewN ?_ _ | refine blk_drew ?_ | refine blk_alloc ?_ _)); refine blk_far ?_ NB104_117.out _; (with_reducible repeat (first | refine blk_drewN ?_ _ | refine blk_drew ?_ | refine blk_alloc ?_ _)); refine blk_far ?_ NB104_117.out _; (with_reducible repeat (first | refine blk_drewN ?_ _ | refine blk_drew ?_ | refine blk_alloc ?_ _)); refine blk_far ?_ NB104_117.out _; (with_reducible repeat (first | refine blk_drewN ?_ _ | refine blk_drew ?_ | refine blk_alloc ?_ _)); refine blk_far ?_ NB104_117.out _; (with_reducible repeat (first | refine blk_drewN ?_ _ | refine blk_drew ?_ | refine blk_alloc ?_ _)); refine blk_far ?_ NB104_117.out _; (with_reducible repeat (first | refine blk_drewN ?_ _ | refine blk_drew ?_ | refine blk_alloc ?_ _)); exact BK104.out⟩, ⟨by (with_reducible repeat (first | refine blk_drewN ?_ _ | refine blk_drew ?_ | refine blk_alloc ?_ _)); refine blk_far ?_ NB105_117.out _; (with_reducible repeat (first | refine blk_drewN ?_ _ | refine blk_drew ?_ | refine blk_alloc ?_ _)); refine blk_far ?_ NB105_117.out _; (with_reducible repeat (first | refine blk_drewN ?_ _ | refine blk_drew ?_ | refine blk_alloc ?_ _)); refine blk_far ?_ NB105_117.out _; (with_reducible repeat (first | refine blk_drewN ?_ _ | refine blk_drew ?_ | refine blk_alloc ?_ _)); refine blk_far ?_ NB105_117.out _; (with_reducible repeat (first | refine blk_drewN ?_ _ | refine blk_drew ?_ | refine blk_alloc ?_ _)); refine blk_far ?_ NB105_117.out _; (with_reducible repeat (first | refine blk_drewN ?_ _ | refine blk_drew ?_ | refine blk_alloc ?_ _)); refine blk_far ?_ NB105_117.out _; (with_reducible repeat (first | refine blk_drewN ?_ _ | refine blk_drew ?_ | refine blk_alloc ?_ _)); exact BK105.out⟩, ⟨by (with_reducible repeat (first | refine blk_drewN ?_ _ | refine blk_drew ?_ | refine blk_alloc ?_ _)); refine blk_far ?_ NB115_117.out _; (with_reducible repeat (first | refine blk_drewN ?_ _ | refine blk_drew ?_ | refine blk_alloc ?_ _)); refine blk_far ?_ NB115_117.out _; (with_reducible repeat (first | refine blk_drewN ?_ _ | refine blk_drew ?_ | refine blk_alloc ?_ _)); refine blk_far ?_ NB115_117.out _; (with_reducible repeat (first | refine blk_drewN ?_ _ | refine blk_drew ?_ | refine blk_alloc ?_ _)); refine blk_far ?_ NB115_117.out _; (with_reducible repeat (first | refine blk_drewN ?_ _ | refine blk_drew ?_ | refine blk_alloc ?_ _)); refine blk_far ?_ NB115_117.out _; (with_reducible repeat (first | refine blk_drewN ?_ _ | refine blk_drew ?_ | refine blk_alloc ?_ _)); refine blk_far ?_ NB115_117.out _; (with_reducible repeat (first | refine blk_drewN ?_ _ | refine blk_drew ?_ | refine blk_alloc ?_ _)); exact BK115.out⟩, ⟨by (with_reducible repeat (first | refine blk_drewN ?_ _ | refine blk_drew ?_ | refine blk_alloc ?_ _)); refine blk_put (cs := #[.string t116, .slice none 0 0, .int .i64 (1 + ((ji18) % 4)), .int .i64 (1 + ((ji19) % 50)), .int .i64 (-1), .string (⟨#[]⟩ : ByteArray)]) ?_ 5 _ rfl; (with_reducible repeat (first | refine blk_drewN ?_ _ | refine blk_drew ?_ | refine blk_alloc ?_ _)); refine blk_put (cs := #[.string t116, .slice none 0 0, .int .i64 (1 + ((ji18) % 4)), .int .i64 (1 + ((ji19) % 50)), .int .i64 0, .string (⟨#[]⟩ : ByteArray)]) ?_ 4 _ rfl; (with_reducible repeat (first | refine blk_drewN ?_ _ | refine blk_drew ?_ | refine blk_alloc ?_ _)); refine blk_put (cs := #[.string t116, .slice none 0 0, .int .i64 (1 + ((ji18) % 4)), .int .i64 0, .int .i64 0, .string (⟨#[]⟩ : ByteArray)]) ?_ 3 _ rfl; (with_reducible repeat (first | refine blk_drewN ?_ _ | refine blk_drew ?_ | refine blk_alloc ?_ _)); refine blk_put (cs := #[.string t116, .slice none 0 0, .int .i64 0, .int .i64 0, .int .i64 0, .string (⟨#[]⟩ : ByteArray)]) ?_ 2 _ rfl; (with_reducible repeat (first | refine blk_drewN ?_ _ | refine blk_drew ?_ | refine blk_alloc ?_ _)); refine blk_put (cs := #[.string t116, .slice none 0 0, .int .i64 0, .int .i64 0, .int .i64 0, .string (⟨#[]⟩ : ByteArray)]) ?_ 1 _ rfl; (with_reducible repeat (first | refine blk_drewN ?_ _ | refine blk_drew ?_ | refine blk_alloc ?_ _)); refine blk_put (cs := #[.string (⟨#[]⟩ : ByteArray), .slice none 0 0, .int .i64 0, .int .i64 0, .int .i64 0, .string (⟨#[]⟩ : ByteArray)]) ?_ 0 _ rfl; (with_reducible repeat (first | refine blk_drewN ?_ _ | refine blk_drew ?_ | refine blk_alloc ?_ _)); exact BK117.out⟩, ⟨by repeat (first | (with_reducible first | exact HB.out | apply below_alloc | apply pw_below_drewN | apply below_drew1 | refine below_set ?_ GE104.out | refine below_set ?_ GE105.out | refine below_set ?_ GE115.out | refine below_set ?_ GE117.out) | exact HB.out)⟩⟩
                case rest =>
                  clear HC20
                  try clear c1
                  try clear p1
                  try clear q1
                  try clear hx1
                  try clear c2
                  try clear p2
                  try clear c3
                  try clear q3
                  try clear c4
                  try clear c6
                  try clear c6b0
                  try clear c6b1
                  try clear c7
                  try clear c7b0
                  try clear c7b1
                  try clear c10
                  try clear p11
                  try clear q11
                  try clear hx11
                  try clear c12
                  try clear q13
                  try clear c14
                  try clear c14b0
                  try clear c15
                  try clear c15b0
                  try clear c16
                  try clear c16b0
                  try clear c22
                  try clear c23
                  try clear q36
                  try clear c37
                  try clear c38
                  try clear c39
                  try clear c40
                  try clear c42
                  try clear c43
                  try clear c44
                  try clear hcz11_0
                  try clear hcz11_1
                  try clear hcz24_0
                  try clear hcz24_1
                  try clear hcz24_2
                  try clear hcz24_3
                  try clear hcz41_0
                  try clear hcz41_1
                  try clear hcz41_2
                  try clear hcz41_3
                  try clear hcz45_0
                  try clear hcz45_1
                  try clear hcz45_2
                  try clear hcz45_3
                  try clear hfz11_0
                  try clear hfz11_1
                  try clear hfz24_0
                  try clear hfz24_1
                  try clear hfz24_2
                  try clear hfz24_3
                  try clear hfz41_0
                  try clear hfz41_1
                  try clear hfz41_2
                  try clear hfz41_3
                  try clear hfz45_0
                  try clear hfz45_1
                  try clear hfz45_2
                  try clear hfz45_3
                  try clear hx114_0
                  try clear hx114_1
                  try clear hx114_2
                  try clear hx114_3
                  try clear p114
                  try clear p2
                  try clear q1
                  try clear q114
                  try clear q13
                  obtain ⟨kq, x45_19, rfl, HA, HJ19, HO_106001, BK104, BK105, BK115, BK117, HB⟩ := hcut
                  cases kq with
                  | zero => exact absurd HA.out (by simp [precincttop_flow.j1])
                  | succ kj19 =>
                    have H := HA.out
                    clear HA
                    simp only [precincttop_flow.j1] at H
                    have HC46 := Aside0.mk H
                    clear H
                    go_upto_if 45 with (fail)
                    go_cut [] (fun wc => ∃ (kq : Nat) (x118002_45 : Int) (x118004_45 : Int) (x118005_45 : ByteArray), Aside0 (precincttop_flow.j2 kq a2 a3 x22_1 y106 (y106.length : Int) x22_1 a0 x106001_1 ((rd_T50 y106 x22_1).f0) ((rd_T50 y106 x22_1).f1) ((rd_T50 y106 x22_1).f2) ((rd_T50 y106 x22_1).f3) t116 x118002_45 (1 + ((ji19) % 50)) x118004_45 x118005_45 = some (r1, r2)) ∧ Aside0 (kq ≤ kj19) ∧ Aside0 (Kd.S k43 43 wc w.heap.size (fun k_ => k_ ≠ gb117) u106001 x106001_1) ∧ Aside0 (wc.heap[gb104]? = some (.cells #[.string (⟨#[]⟩ : ByteArray), (.slice none 0 0)] 27 (0, 0))) ∧ Aside0 (wc.heap[gb105]? = some (.cells #[.string a0, u106001] 27 (0, 0))) ∧ Aside0 (wc.heap[gb115]? = some (.cells #[.int .u32 ((rd_T50 y106 x22_1).f0), .bool ((rd_T50 y106 x22_1).f1), .int .i64 ((rd_T50 y106 x22_1).f2), .int .i64 ((rd_T50 y106 x22_1).f3)] 50 (0, 0))) ∧ Aside0 (wc.heap[gb117]? = some (.cells #[.string t116, (.slice none 0 0), .int .i64 x118002_45, .int .i64 (1 + ((ji19) % 50)), .int .i64 x118004_45, .string x118005_45] 43 (0, 0))) ∧ Aside0 (Below w.heap.size w wc))
                    case first =>
                      have H := HC46.out
                      clear HC46
                      by_cases c47 : x45_19 = true
                      · subst c47
                        have H1 : (precincttop_flow.j2 kj19 a2 a3 x22_1 y106 (y106.length : Int) x22_1 a0 x106001_1 ((rd_T50 y106 x22_1).f0) ((rd_T50 y106 x22_1).f1) ((rd_T50 y106 x22_1).f2) ((rd_T50 y106 x22_1).f3) t116 1 (1 + ((ji19) % 50)) a2 a3) = some (r1, r2) := by rw [if_pos rfl] at H; exact H
                        clear H
                        have H := H1
                        clear H1
                        have H' := Aside0.mk H
                        clear H
                        have hnb48 := NB117_104.out
                        have hnc48 := NB104_117.out
                        have hnb49 := NB117_105.out
                        have hnc49 := NB105_117.out
                        have hnb50 := NB117_115.out
                        have hnc50 := NB115_117.out
                        have hcz51_0 : wc.cell? ⟨gb117, 0, none⟩ = some (.string t116) := (blk_cell BK117.out 0).trans rfl
                        have hcz51_1 : wc.cell? ⟨gb117, 1, none⟩ = some (.slice none 0 0) := (blk_cell BK117.out 1).trans rfl
                        have hcz51_2 : wc.cell? ⟨gb117, 2, none⟩ = some (.int .i64 (1 + ((ji18) % 4))) := (blk_cell BK117.out 2).trans rfl
                        have hcz51_3 : wc.cell? ⟨gb117, 3, none⟩ = some (.int .i64 (1 + ((ji19) % 50))) := (blk_cell BK117.out 3).trans rfl
                        have hcz51_4 : wc.cell? ⟨gb117, 4, none⟩ = some (.int .i64 (-1)) := (blk_cell BK117.out 4).trans rfl
                        have hcz51_5 : wc.cell? ⟨gb117, 5, none⟩ = some (.string (⟨#[]⟩ : ByteArray)) := (blk_cell BK117.out 5).trans rfl
                        have hfz51_0 := blk_frozen BK117.out 0
                        have hfz51_1 := blk_frozen BK117.out 1
                        have hfz51_2 := blk_frozen BK117.out 2
                        have hfz51_3 := blk_frozen BK117.out 3
                        have hfz51_4 := blk_frozen BK117.out 4
                        have hfz51_5 := blk_frozen BK117.out 5
                        go_wp2
                        go_meet
                        case rel => exact ⟨_, (1), (a2), (a3), H', ⟨by have := HK1.out; have := HJ19.out; first | omega | exact Nat.le_refl _⟩, ⟨by (with_reducible repeat (first | apply Kd.S_alloc | apply Kd.S_drewN | apply Kd.S_drew)); exact Kd.S_mono (Kd.S_far (p := ⟨gb117, 2, none⟩) (Kd.S_far (p := ⟨gb117, 5, none⟩) (Kd.S_far (p := ⟨gb117, 4, none⟩) (Kd.S_mono HO_106001.out (fun k_ hk => (⟨hk, hk⟩ : _ ∧ k_ ≠ gb117))) (fun _ hk => hk.2) (.int .i64 a2)) (fun _ hk => hk.2) (.string a3)) (fun _ hk => hk.2) (.int .i64 1)) (fun _ hk => hk.1)⟩, ⟨by (with_reducible repeat (first | refine blk_drewN ?_ _ | refine blk_drew ?_ | refine blk_alloc ?_ _)); refine blk_far ?_ NB104_117.out _; (with_reducible repeat (first | refine blk_drewN ?_ _ | refine blk_drew ?_ | refine blk_alloc ?_ _)); refine blk_far ?_ NB104_117.out _; (with_reducible repeat (first | refine blk_drewN ?_ _ | refine blk_drew ?_ | refine blk_alloc ?_ _)); refine blk_far ?_ NB104_117.out _; (with_reducible repeat (first | refine blk_drewN ?_ _ | refine blk_drew ?_ | refine blk_alloc ?_ _)); exact BK104.out⟩, ⟨by (with_reducible repeat (first | refine blk_drewN ?_ _ | refine blk_drew ?_ | refine blk_alloc ?_ _)); refine blk_far ?_ NB105_117.out _; (with_reducible repeat (first | refine blk_drewN ?_ _ | refine blk_drew ?_ | refine blk_alloc ?_ _)); refine blk_far ?_ NB105_117.out _; (with_reducible repeat (first | refine blk_drewN ?_ _ | refine blk_drew ?_ | refine blk_alloc ?_ _)); refine blk_far ?_ NB105_117.out _; (with_reducible repeat (first | refine blk_drewN ?_ _ | refine blk_drew ?_ | refine blk_alloc ?_ _)); exact BK105.out⟩, ⟨by (with_reducible repeat (first | refine blk_drewN ?_ _ | refine blk_drew ?_ | refine blk_alloc ?_ _)); refine blk_far ?_ NB115_117.out _; (with_reducible repeat (first | refine blk_drewN ?_ _ | refine blk_drew ?_ | refine blk_alloc ?_ _)); refine blk_far ?_ NB115_117.out _; (with_reducible repeat (first | refine blk_drewN ?_ _ | refine blk_drew ?_ | refine blk_alloc ?_ _)); refine blk_far ?_ NB115_117.out _; (with_reducible repeat (first | refine blk_drewN ?_ _ | refine blk_drew ?_ | refine blk_alloc ?_ _)); exact BK115.out⟩, ⟨by (with_reducible repeat (first | refine blk_drewN ?_ _ | refine blk_drew ?_ | refine blk_alloc ?_ _)); refine blk_put (cs := #[.string t116, .slice none 0 0, .int .i64 (1 + ((ji18) % 4)), .int .i64 (1 + ((ji19) % 50)), .int .i64 a2, .string a3]) ?_ 2 _ rfl; (with_reducible repeat (first | refine blk_drewN ?_ _ | refine blk_drew ?_ | refine blk_alloc ?_ _)); refine blk_put (cs := #[.string t116, .slice none 0 0, .int .i64 (1 + ((ji18) % 4)), .int .i64 (1 + ((ji19) % 50)), .int .i64 a2, .string (⟨#[]⟩ : ByteArray)]) ?_ 5 _ rfl; (with_reducible repeat (first | refine blk_drewN ?_ _ | refine blk_drew ?_ | refine blk_alloc ?_ _)); refine blk_put (cs := #[.string t116, .slice none 0 0, .int .i64 (1 + ((ji18) % 4)), .int .i64 (1 + ((ji19) % 50)), .int .i64 (-1), .string (⟨#[]⟩ : ByteArray)]) ?_ 4 _ rfl; (with_reducible repeat (first | refine blk_drewN ?_ _ | refine blk_drew ?_ | refine blk_alloc ?_ _)); exact BK117.out⟩, ⟨by repeat (first | (with_reducible first | exact HB.out | apply below_alloc | apply pw_below_drewN | apply below_drew1 | refine below_set ?_ GE104.out | refine below_set ?_ GE105.out | refine below_set ?_ GE115.out | refine below_set ?_ GE117.out) | exact HB.out)⟩⟩
                      · replace c47 := Bool.eq_false_iff.mpr c47
                        subst c47
                        have H1 : (precincttop_flow.j2 kj19 a2 a3 x22_1 y106 (y106.length : Int) x22_1 a0 x106001_1 ((rd_T50 y106 x22_1).f0) ((rd_T50 y106 x22_1).f1) ((rd_T50 y106 x22_1).f2) ((rd_T50 y106 x22_1).f3) t116 (1 + ((ji18) % 4)) (1 + ((ji19) % 50)) (-1) (⟨#[]⟩ : ByteArray)) = some (r1, r2) := by rw [if_neg (show ¬ (false = true) by decide)] at H; exact H
                        clear H
                        have H := H1
                        clear H1
                        have H' := Aside0.mk H
                        clear H
                        go_wp2
                        go_meet
                        case rel => exact ⟨_, ((1 + ((ji18) % 4))), ((-1)), ((⟨#[]⟩ : ByteArray)), H', ⟨by have := HK1.out; have := HJ19.out; first | omega | exact Nat.le_refl _⟩, ⟨by (with_reducible repeat (first | apply Kd.S_alloc | apply Kd.S_drewN | apply Kd.S_drew)); exact HO_106001.out⟩, ⟨by (with_reducible repeat (first | refine blk_drewN ?_ _ | refine blk_drew ?_ | refine blk_alloc ?_ _)); exact BK104.out⟩, ⟨by (with_reducible repeat (first | refine blk_drewN ?_ _ | refine blk_drew ?_ | refine blk_alloc ?_ _)); exact BK105.out⟩, ⟨by (with_reducible repeat (first | refine blk_drewN ?_ _ | refine blk_drew ?_ | refine blk_alloc ?_ _)); exact BK115.out⟩, ⟨by (with_reducible repeat (first | refine blk_drewN ?_ _ | refine blk_drew ?_ | refine blk_alloc ?_ _)); exact BK117.out⟩, ⟨by repeat (first | (with_reducible first | exact HB.out | apply below_alloc | apply pw_below_drewN | apply below_drew1 | refine below_set ?_ GE104.out | refine below_set ?_ GE105.out | refine below_set ?_ GE115.out | refine below_set ?_ GE117.out) | exact HB.out)⟩⟩
                    case rest =>
                      clear HC46
                      try clear c1
                      try clear p1
                      try clear q1
                      try clear hx1
                      try clear c2
                      try clear p2
                      try clear c3
                      try clear q3
                      try clear c4
                      try clear c5
                      try clear c6
                      try clear c6b0
                      try clear c6b1
                      try clear c7
                      try clear c7b0
                      try clear c7b1
                      try clear c10
                      try clear p11
                      try clear q11
                      try clear hx11
                      try clear c12
                      try clear q13
                      try clear c14
                      try clear c14b0
                      try clear c15
                      try clear c15b0
                      try clear c16
                      try clear c16b0
                      try clear c22
                      try clear c23
                      try clear q36
                      try clear c37
                      try clear c38
                      try clear c39
                      try clear c40
                      try clear c42
                      try clear c43
                      try clear c44
                      try clear c47
                      try clear c48
                      try clear c49
                      try clear c50
                      try clear hcz11_0
                      try clear hcz11_1
                      try clear hcz24_0
                      try clear hcz24_1
                      try clear hcz24_2
                      try clear hcz24_3
                      try clear hcz41_0
                      try clear hcz41_1
                      try clear hcz41_2
                      try clear hcz41_3
                      try clear hcz45_0
                      try clear hcz45_1
                      try clear hcz45_2
                      try clear hcz45_3
                      try clear hcz51_0
                      try clear hcz51_1
                      try clear hcz51_2
                      try clear hcz51_3
                      try clear hcz51_4
                      try clear hcz51_5
                      try clear hfz11_0
                      try clear hfz11_1
                      try clear hfz24_0
                      try clear hfz24_1
                      try clear hfz24_2
                      try clear hfz24_3
                      try clear hfz41_0
                      try clear hfz41_1
                      try clear hfz41_2
                      try clear hfz41_3
                      try clear hfz45_0
                      try clear hfz45_1
                      try clear hfz45_2
                      try clear hfz45_3
                      try clear hfz51_0
                      try clear hfz51_1
                      try clear hfz51_2
                      try clear hfz51_3
                      try clear hfz51_4
                      try clear hfz51_5
                      try clear hx114_0
                      try clear hx114_1
                      try clear hx114_2
                      try clear hx114_3
                      try clear p1
                      try clear p11
                      try clear p114
                      try clear p2
                      try clear q1
                      try clear q11
                      try clear q114
                      try clear q13
                      try clear q3
                      try clear q36
                      obtain ⟨kq, x118002_45, x118004_45, x118005_45, HA, HJ45, HO_106001, BK104, BK105, BK115, BK117, HB⟩ := hcut
                      cases kq with
                      | zero => exact absurd HA.out (by simp [precincttop_flow.j2])
                      | succ kj45 =>
                        have H := HA.out
                        clear HA
                        simp only [precincttop_flow.j2] at H
                        have H' := Aside0.mk H
                        clear H
                        go_wp2
                        go_loopg [52] kj45 (fun kq v52 w' => ∃ (x52_4 : Int) (x118001_4 : List ByteArray) (u118001 : Value), v52 = .int .i64 x52_4 ∧ Aside0 (precincttop_flow.l1 kq a2 a3 y106 (y106.length : Int) x22_1 x22_1 x52_4 a0 x106001_1 ((rd_T50 y106 x22_1).f0) ((rd_T50 y106 x22_1).f1) ((rd_T50 y106 x22_1).f2) ((rd_T50 y106 x22_1).f3) t116 x118001_4 x118002_45 (1 + ((ji19) % 50)) x118004_45 x118005_45 = some (r1, r2)) ∧ Aside0 (kq ≤ kj45) ∧ Aside0 (Kd.S k43 43 w' w.heap.size (fun k_ => some k_ ≠ (u118001 : Value).ownBlock ∧ k_ ≠ gb117) u106001 x106001_1) ∧ Aside0 (Kd.R Kd.string 9 w' w.heap.size (fun _ => True) u118001 x118001_4) ∧ Aside0 (w'.heap[gb104]? = some (.cells #[.string (⟨#[]⟩ : ByteArray), (.slice none 0 0)] 27 (0, 0))) ∧ Aside0 (w'.heap[gb105]? = some (.cells #[.string a0, u106001] 27 (0, 0))) ∧ Aside0 (w'.heap[gb115]? = some (.cells #[.int .u32 ((rd_T50 y106 x22_1).f0), .bool ((rd_T50 y106 x22_1).f1), .int .i64 ((rd_T50 y106 x22_1).f2), .int .i64 ((rd_T50 y106 x22_1).f3)] 50 (0, 0))) ∧ Aside0 (w'.heap[gb117]? = some (.cells #[.string t116, u118001, .int .i64 x118002_45, .int .i64 (1 + ((ji19) % 50)), .int .i64 x118004_45, .string x118005_45] 43 (0, 0))) ∧ Aside0 (Below w.heap.size w w'))
                        case atStart => exact ⟨(0), (([] : List ByteArray)), (.slice none 0 0), (by first | rfl | (simp; done) | (simp [*]; done)), H', ⟨Nat.le_refl _⟩, ⟨by (with_reducible repeat (first | apply Kd.S_alloc | apply Kd.S_drewN | apply Kd.S_drew)); exact Kd.S_mono HO_106001.out (fun _ hk => ⟨(by simp [Value.ownBlock]), hk⟩)⟩, ⟨by first | exact Kd.R_nil _ _ _ _ _ | exact Kd.N_nil _ _ _ _ _ | exact Kd.V_nil _ _ _ _ _ | exact Kd.Q_nil _ _ _ _ _ | exact Kd.S_nil _ _ _ _ _⟩, ⟨by (with_reducible repeat (first | refine blk_drewN ?_ _ | refine blk_drew ?_ | refine blk_alloc ?_ _)); exact BK104.out⟩, ⟨by (with_reducible repeat (first | refine blk_drewN ?_ _ | refine blk_drew ?_ | refine blk_alloc ?_ _)); exact BK105.out⟩, ⟨by (with_reducible repeat (first | refine blk_drewN ?_ _ | refine blk_drew ?_ | refine blk_alloc ?_ _)); exact BK115.out⟩, ⟨by (with_reducible repeat (first | refine blk_drewN ?_ _ | refine blk_drew ?_ | refine blk_alloc ?_ _)); exact BK117.out⟩, ⟨by repeat (first | (with_reducible first | exact HB.out | apply below_alloc | apply pw_below_drewN | apply below_drew1 | refine below_set ?_ GE104.out | refine below_set ?_ GE105.out | refine below_set ?_ GE115.out | refine below_set ?_ GE117.out) | exact HB.out)⟩⟩
                        case round =>
                          clear H'
                          try clear c1
                          try clear p1
                          try clear q1
                          try clear hx1
                          try clear c2
                          try clear p2
                          try clear c3
                          try clear q3
                          try clear c4
                          try clear c5
                          try clear c6
                          try clear c6b0
                          try clear c6b1
                          try clear c7
                          try clear c7b0
                          try clear c7b1
                          try clear c10
                          try clear p11
                          try clear q11
                          try clear hx11
                          try clear c12
                          try clear q13
                          try clear c14
                          try clear c14b0
                          try clear c15
                          try clear c15b0
                          try clear c16
                          try clear c16b0
                          try clear c22
                          try clear c23
                          try clear q36
                          try clear c37
                          try clear c38
                          try clear c39
                          try clear c40
                          try clear c42
                          try clear c43
                          try clear c44
                          try clear c47
                          try clear c48
                          try clear c49
                          try clear c50
                          try clear hcz11_0
                          try clear hcz11_1
                          try clear hcz24_0
                          try clear hcz24_1
                          try clear hcz24_2
                          try clear hcz24_3
                          try clear hcz41_0
                          try clear hcz41_1
                          try clear hcz41_2
                          try clear hcz41_3
                          try clear hcz45_0
                          try clear hcz45_1
                          try clear hcz45_2
                          try clear hcz45_3
                          try clear hcz51_0
                          try clear hcz51_1
                          try clear hcz51_2
                          try clear hcz51_3
                          try clear hcz51_4
                          try clear hcz51_5
                          try clear hfz11_0
                          try clear hfz11_1
                          try clear hfz24_0
                          try clear hfz24_1
                          try clear hfz24_2
                          try clear hfz24_3
                          try clear hfz41_0
                          try clear hfz41_1
                          try clear hfz41_2
                          try clear hfz41_3
                          try clear hfz45_0
                          try clear hfz45_1
                          try clear hfz45_2
                          try clear hfz45_3
                          try clear hfz51_0
                          try clear hfz51_1
                          try clear hfz51_2
                          try clear hfz51_3
                          try clear hfz51_4
                          try clear hfz51_5
                          try clear hx114_0
                          try clear hx114_1
                          try clear hx114_2
                          try clear hx114_3
                          try clear p1
                          try clear p11
                          try clear p114
                          try clear p2
                          try clear q1
                          try clear q11
                          try clear q114
                          try clear q13
                          try clear q3
                          try clear q36
                          obtain ⟨x52_4, x118001_4, u118001, rfl, HA, HK4, HO_106001, HO_118001, BK104, BK105, BK115, BK117, HB⟩ := hrel
                          cases gk with
                          | zero => exact absurd HA.out (by simp [precincttop_flow.l1])
                          | succ k4 =>
                            have H := HA.out
                            clear HA
                            simp only [precincttop_flow.l1] at H
                            by_cases c52 : x52_4 < x22_1
                            · rw [if_pos c52] at H
                              have c52b0 : decide (x52_4 < x22_1) = true := decide_eq_true c52
                              clear c52
                              by_cases c53 : 0 ≤ x52_4
                              · rw [if_pos c53] at H
                                have c53b0 := eq_true c53
                                have c53b1 : decide (0 ≤ x52_4) = true := decide_eq_true c53
                                clear c53
                                obtain ⟨ji54, hji54⟩ : ∃ j_ : Int, (shr .u32 ((rd_T50 y106 x22_1).f0) x52_4) = j_ := ⟨_, rfl⟩
                                replace H : (if (Go.bits .and .u32 (ji54) 1) = 1 then ((precincttop_name.f x52_4).bind fun t118 => (if x118001_4.length < 8796093022208 then (precincttop_flow.l1 k4 a2 a3 y106 (y106.length : Int) x22_1 x22_1 (wrap64 (x52_4 + 1)) a0 x106001_1 ((rd_T50 y106 x22_1).f0) ((rd_T50 y106 x22_1).f1) ((rd_T50 y106 x22_1).f2) ((rd_T50 y106 x22_1).f3) t116 (x118001_4 ++ [t118]) x118002_45 (1 + ((ji19) % 50)) x118004_45 x118005_45) else (none))) else (precincttop_flow.l1 k4 a2 a3 y106 (y106.length : Int) x22_1 x22_1 (wrap64 (x52_4 + 1)) a0 x106001_1 ((rd_T50 y106 x22_1).f0) ((rd_T50 y106 x22_1).f1) ((rd_T50 y106 x22_1).f2) ((rd_T50 y106 x22_1).f3) t116 x118001_4 x118002_45 (1 + ((ji19) % 50)) x118004_45 x118005_45)) = some (r1, r2) := by first | (rw [hji54] at H; exact H) | (simp only [hji54] at H ⊢; exact H)
                                have hji54_ : (((rd_T50 y106 x22_1).f0) / 2 ^ min x52_4.toNat 32) = ji54 := hji54
                                have hji54z : x52_4 ≤ 32 → (((rd_T50 y106 x22_1).f0) / 2 ^ x52_4.toNat) = ji54 := shr_small hji54
                                by_cases c55 : (Go.bits .and .u32 (ji54) 1) = 1
                                · rw [if_pos c55] at H
                                  have c55b0 : ((Go.bits .and .u32 (ji54) 1) == 1) = true := beq_iff_eq.mpr c55
                                  have c55b1 : ((Go.bits .and .u32 (ji54) 1) != 1) = false := bne_eq_false_iff_eq.mpr c55
                                  clear c55
                                  replace H := Option.bind_eq_some_iff.mp H
                                  obtain ⟨t118, A560, H⟩ := H
                                  replace H : (if x118001_4.length < 8796093022208 then (precincttop_flow.l1 k4 a2 a3 y106 (y106.length : Int) x22_1 x22_1 (wrap64 (x52_4 + 1)) a0 x106001_1 ((rd_T50 y106 x22_1).f0) ((rd_T50 y106 x22_1).f1) ((rd_T50 y106 x22_1).f2) ((rd_T50 y106 x22_1).f3) t116 (x118001_4 ++ [t118]) x118002_45 (1 + ((ji19) % 50)) x118004_45 x118005_45) else (none)) = some (r1, r2) := H
                                  have A56 := Aside0.mk A560
                                  clear A560
                                  by_cases c57 : x118001_4.length < 8796093022208
                                  · rw [if_pos c57] at H
                                    have LMc57 := Aside0.mk c57
                                    clear c57
                                    obtain ⟨y119, hy119⟩ : ∃ y_ : List ByteArray, y_ = (x118001_4 ++ [t118]) := ⟨_, rfl⟩
                                    replace H : (precincttop_flow.l1 k4 a2 a3 y106 (y106.length : Int) x22_1 x22_1 (wrap64 (x52_4 + 1)) a0 x106001_1 ((rd_T50 y106 x22_1).f0) ((rd_T50 y106 x22_1).f1) ((rd_T50 y106 x22_1).f2) ((rd_T50 y106 x22_1).f3) t116 y119 x118002_45 (1 + ((ji19) % 50)) x118004_45 x118005_45) = some (r1, r2) := by first | (rw [hy119]; with_reducible exact H) | (have H2_ := (Option.bind_some _ _).symm.trans H; rw [hy119]; with_reducible exact H2_) | (have H2_ := (Option.bind_some _ _).symm.trans H; with_reducible exact H2_) | with_reducible exact H | (rw [hy119]; exact H) | exact H
                                    have Ny119 := Aside0.mk hy119
                                    clear hy119
                                    have H' := Aside0.mk H
                                    clear H
                                    have hnb58 := NB115_104.out
                                    have hnc58 := NB104_115.out
                                    have hnb59 := NB115_105.out
                                    have hnc59 := NB105_115.out
                                    have hnb60 := NB115_117.out
                                    have hnc60 := NB117_115.out
                                    have hcz61_0 : wr.cell? ⟨gb115, 0, none⟩ = some (.int .u32 ((rd_T50 y106 x22_1).f0)) := (blk_cell BK115.out 0).trans rfl
                                    have hcz61_1 : wr.cell? ⟨gb115, 1, none⟩ = some (.bool ((rd_T50 y106 x22_1).f1)) := (blk_cell BK115.out 1).trans rfl
                                    have hcz61_2 : wr.cell? ⟨gb115, 2, none⟩ = some (.int .i64 ((rd_T50 y106 x22_1).f2)) := (blk_cell BK115.out 2).trans rfl
                                    have hcz61_3 : wr.cell? ⟨gb115, 3, none⟩ = some (.int .i64 ((rd_T50 y106 x22_1).f3)) := (blk_cell BK115.out 3).trans rfl
                                    have hfz61_0 := blk_frozen BK115.out 0
                                    have hfz61_1 := blk_frozen BK115.out 1
                                    have hfz61_2 := blk_frozen BK115.out 2
                                    have hfz61_3 := blk_frozen BK115.out 3
                                    try go_wp2
                                    have n0_ := Aside0.mk (Kd.S_drew HO_106001.out)
                                    have n1_ := Aside0.mk (Kd.R_drew HO_118001.out)
                                    have n2_ := Aside0.mk (blk_drew BK104.out)
                                    have n3_ := Aside0.mk (blk_drew BK105.out)
                                    have n4_ := Aside0.mk (blk_drew BK115.out)
                                    have n5_ := Aside0.mk (blk_drew BK117.out)
                                    have n6_ := Aside0.mk (below_drew1 HB.out)
                                    clear HO_106001
                                    clear HO_118001
                                    clear BK104
                                    clear BK105
                                    clear BK115
                                    clear BK117
                                    clear HB
                                    have HO_106001 := n0_
                                    have HO_118001 := n1_
                                    have BK104 := n2_
                                    have BK105 := n3_
                                    have BK115 := n4_
                                    have BK117 := n5_
                                    have HB := n6_
                                    clear n0_ n1_ n2_ n3_ n4_ n5_ n6_
                                    refine start_ (n := 8) (S := fun w' => w'.cell? ⟨gb117, 0, none⟩ = some (.string t116) ∧ w'.cell? ⟨gb117, 1, none⟩ = some (u118001) ∧ w'.cell? ⟨gb117, 2, none⟩ = some (.int .i64 x118002_45) ∧ w'.cell? ⟨gb117, 3, none⟩ = some (.int .i64 (1 + ((ji19) % 50))) ∧ w'.cell? ⟨gb117, 4, none⟩ = some (.int .i64 x118004_45) ∧ w'.cell? ⟨gb117, 5, none⟩ = some (.string x118005_45)) (ds := [7]) #[false, false, false, false, false, false, false, false] (by kernel_rfl) rfl rfl ⟨(blk_cell BK117.out 0).trans rfl, (blk_cell BK117.out 1).trans rfl, (blk_cell BK117.out 2).trans rfl, (blk_cell BK117.out 3).trans rfl, (blk_cell BK117.out 4).trans rfl, (blk_cell BK117.out 5).trans rfl⟩ (fun hHeld => ?_); refine with_tabW precincttop_flow.tab12 precincttop_flow.bits12 (fun HT_ HW_ => ?_)
                                    generalize wr.drew = w62 at HO_106001 HO_118001 BK104 BK105 BK115 BK117 HB hHeld ⊢
                                    refine pure_ (i := 0) (N := some 61) (v := ?_) (a' := ?_) #[true, false, false, false, false, false, false, false] rfl rfl (any_of HT_.out (by kernel_rfl)) (fun _ _ _ h => h) (Or.inl ⟨by rfl, ?_⟩) ?_ ?_
                                    rotate_left
                                    · intro w'
                                      go_simp
                                      with_reducible rfl
                                    rotate_left
                                    · simp only [Act.put, List.setIfInBounds_toArray, List.set_cons_zero, List.set_cons_succ, i64_w, i32_w]
                                      rfl
                                    refine pure_ (i := 2) (N := some 63) (v := ?_) (a' := ?_) #[true, false, true, false, false, false, false, false] rfl rfl (any_of HT_.out (by kernel_rfl)) (fun _ _ _ h => h) (Or.inl ⟨by rfl, ?_⟩) ?_ ?_
                                    rotate_left
                                    · intro w'
                                      go_simp
                                      with_reducible rfl
                                    rotate_left
                                    · simp only [Act.put, List.setIfInBounds_toArray, List.set_cons_zero, List.set_cons_succ, i64_w, i32_w]
                                      rfl
                                    refine take_ (i := 1) (N := some 62) (v := ?_) (a' := ?_) #[true, true, true, false, false, false, false, false] rfl rfl (take_ofW HT_.out HW_.out (by kernel_rfl)) (fun _ _ _ h => h) (Or.inl ⟨by rfl, ?_⟩) hHeld ?_ ?_
                                    rotate_left
                                    · rintro w' ⟨s0, s1, s2, s3, s4, s5⟩
                                      go_simp
                                      with_reducible rfl
                                    rotate_left
                                    · simp only [Act.put, List.setIfInBounds_toArray, List.set_cons_zero, List.set_cons_succ, i64_w, i32_w]
                                      rfl
                                    refine one_ (i := 3) (N := some 64) #[true, true, true, true, false, false, false, false] rfl rfl (one_of HT_.out (by kernel_rfl)) (by decide) (fun K hK => ?_)
                                    refine goes_ Try.func12 (by kernel_rfl) rfl #[.int .i64 x52_4] (by rfl) rfl rfl (by (try simp only [List.map_toArray, List.map_cons, List.map_nil]); first | done | rfl | (simp only [List.length_drop, List.length_take]; rfl)) ?_
                                    with_reducible refine (precincttop_name.calls x52_4 t118 _ A56.out).mono ?_
                                    rintro e w63 ⟨rfl, hb⟩
                                    refine ⟨_, rfl, ?_⟩
                                    have n0_ := Aside0.mk (Kd.S_below (by (with_reducible repeat (first | apply Kd.S_alloc | apply Kd.S_drewN | apply Kd.S_drew)); exact HO_106001.out) hb)
                                    have n1_ := Aside0.mk (Kd.R_below (by (with_reducible repeat (first | apply Kd.R_alloc | apply Kd.R_drewN | apply Kd.R_drew)); exact HO_118001.out) hb)
                                    have n2_ := Aside0.mk (blk_below (g := gb104) (o := .cells #[.string (⟨#[]⟩ : ByteArray), .slice none 0 0] 27 (0, 0)) (by (with_reducible repeat (first | refine blk_drewN ?_ _ | refine blk_drew ?_ | refine blk_alloc ?_ _)); exact BK104.out) hb)
                                    have n3_ := Aside0.mk (blk_below (g := gb105) (o := .cells #[.string a0, u106001] 27 (0, 0)) (by (with_reducible repeat (first | refine blk_drewN ?_ _ | refine blk_drew ?_ | refine blk_alloc ?_ _)); exact BK105.out) hb)
                                    have n4_ := Aside0.mk (blk_below (g := gb115) (o := .cells #[.int .u32 ((rd_T50 y106 x22_1).f0), .bool ((rd_T50 y106 x22_1).f1), .int .i64 ((rd_T50 y106 x22_1).f2), .int .i64 ((rd_T50 y106 x22_1).f3)] 50 (0, 0)) (by (with_reducible repeat (first | refine blk_drewN ?_ _ | refine blk_drew ?_ | refine blk_alloc ?_ _)); exact BK115.out) hb)
                                    have n5_ := Aside0.mk (blk_below (g := gb117) (o := .cells #[.string t116, u118001, .int .i64 x118002_45, .int .i64 (1 + ((ji19) % 50)), .int .i64 x118004_45, .string x118005_45] 43 (0, 0)) (by (with_reducible repeat (first | refine blk_drewN ?_ _ | refine blk_drew ?_ | refine blk_alloc ?_ _)); exact BK117.out) hb)
                                    have n6_ := Aside0.mk (below_step (by repeat (first | (with_reducible first | exact HB.out | apply below_alloc | apply pw_below_drewN | apply below_drew1 | refine below_set ?_ GE104.out | refine below_set ?_ GE105.out | refine below_set ?_ GE115.out | refine below_set ?_ GE117.out) | exact HB.out)) hb)
                                    clear HO_106001
                                    clear HO_118001
                                    clear BK104
                                    clear BK105
                                    clear BK115
                                    clear BK117
                                    clear HB
                                    have HO_106001 := n0_
                                    have HO_118001 := n1_
                                    have BK104 := n2_
                                    have BK105 := n3_
                                    have BK115 := n4_
                                    have BK117 := n5_
                                    have HB := n6_
                                    clear n0_ n1_ n2_ n3_ n4_ n5_ n6_
                                    (try clear hb)
                                    (try clear hb2)
                                    (try clear hk)
                                    (try clear hi)
                                    refine hK.out _ _ ⟨(blk_cell BK117.out 0).trans rfl, (blk_cell BK117.out 1).trans rfl, (blk_cell BK117.out 2).trans rfl, (blk_cell BK117.out 3).trans rfl, (blk_cell BK117.out 4).trans rfl, (blk_cell BK117.out 5).trans rfl⟩ (fun hHeld => ?_)
                                    clear hK K
                                    refine norm_ (a' := ?_) ?_ ?_
                                    rotate_left
                                    · show Act.put _ (some 64) _ = _
                                      simp only [Act.put, List.setIfInBounds_toArray, List.set_cons_zero, List.set_cons_succ, i64_w, i32_w]
                                      rfl
                                    refine one_ (i := 4) (N := some 65) #[true, true, true, true, true, false, false, false] rfl rfl (one_of HT_.out (by kernel_rfl)) (by decide) (fun K hK => ?_)
                                    refine value_ (w1 := ?_) (v := ?_) (by rfl) rfl ?_ ?_
                                    rotate_left 2
                                    · go_simp
                                      constructor
                                      · rfl
                                      · rfl
                                    refine hK.out _ _ ⟨(blk_cell (blk_alloc BK117.out _) 0).trans rfl, (blk_cell (blk_alloc BK117.out _) 1).trans rfl, (blk_cell (blk_alloc BK117.out _) 2).trans rfl, (blk_cell (blk_alloc BK117.out _) 3).trans rfl, (blk_cell (blk_alloc BK117.out _) 4).trans rfl, (blk_cell (blk_alloc BK117.out _) 5).trans rfl⟩ (fun hHeld => ?_)
                                    clear hK K
                                    refine norm_ (a' := ?_) ?_ ?_
                                    rotate_left
                                    · show Act.put _ (some 65) _ = _
                                      simp only [Act.put, List.setIfInBounds_toArray, List.set_cons_zero, List.set_cons_succ, i64_w, i32_w]
                                      rfl
                                    refine one_ (i := 5) (N := some 66) #[true, true, true, true, true, true, false, false] rfl rfl (one_of HT_.out (by kernel_rfl)) (by decide) (fun K hK => ?_)
                                    refine Kd.R_append_step Kd.string (w0 := w) w.heap.size (by rfl) (.tmp 62) (.tmp 65) 41 9 (.string ⟨#[]⟩) 16 rfl Try.underlying41 info9 rfl (by decide) (by omega) u118001 x118001_4 t118 [.string t118] (fun _ => True) (fun _ => False) rfl rfl ?aP (fun _ hk => hk.elim) ?aF ?aO ?aB ?aS ?aL ?_
                                    (case aP => exact rfl)
                                    (case aB => exact (by repeat (first | (with_reducible first | exact HB.out | apply below_alloc | apply pw_below_drewN | apply below_drew1 | refine below_set ?_ GE104.out | refine below_set ?_ GE105.out | refine below_set ?_ GE115.out | refine below_set ?_ GE117.out) | exact HB.out)))
                                    (case aF => exact (fun _ _ => trivial))
                                    (case aO => exact (by (with_reducible repeat (first | apply Kd.R_alloc | apply Kd.R_drewN | apply Kd.R_drew)); exact HO_118001.out))
                                    (case aS => exact (below_size (by repeat (first | (with_reducible first | exact HB.out | apply below_alloc | apply pw_below_drewN | apply below_drew1 | refine below_set ?_ GE104.out | refine below_set ?_ GE105.out | refine below_set ?_ GE115.out | refine below_set ?_ GE117.out) | exact HB.out))))
                                    (case aL => have := LMc57.out; omega)
                                    intro v120 w64 ho hb hg hat
                                    rw [← Ny119.out] at ho
                                    have n0_ := Aside0.mk (Kd.S_after (ok := (fun k_ => k_ ≠ gb117)) (by (with_reducible repeat (first | apply Kd.S_alloc | apply Kd.S_drewN | apply Kd.S_drew)); exact Kd.S_mono HO_106001.out (fun _ hk => ⟨hk.2, hk.1⟩)) hg hat)
                                    have n1_ := Aside0.mk (blk_grown (g := gb104) (o := .cells #[.string (⟨#[]⟩ : ByteArray), .slice none 0 0] 27 (0, 0)) (by (with_reducible repeat (first | refine blk_drewN ?_ _ | refine blk_drew ?_ | refine blk_alloc ?_ _)); exact BK104.out) hg (Kd.R_ne HO_118001.out BK104.out (by decide)))
                                    have n2_ := Aside0.mk (blk_grown (g := gb105) (o := .cells #[.string a0, u106001] 27 (0, 0)) (by (with_reducible repeat (first | refine blk_drewN ?_ _ | refine blk_drew ?_ | refine blk_alloc ?_ _)); exact BK105.out) hg (Kd.R_ne HO_118001.out BK105.out (by decide)))
                                    have n3_ := Aside0.mk (blk_grown (g := gb115) (o := .cells #[.int .u32 ((rd_T50 y106 x22_1).f0), .bool ((rd_T50 y106 x22_1).f1), .int .i64 ((rd_T50 y106 x22_1).f2), .int .i64 ((rd_T50 y106 x22_1).f3)] 50 (0, 0)) (by (with_reducible repeat (first | refine blk_drewN ?_ _ | refine blk_drew ?_ | refine blk_alloc ?_ _)); exact BK115.out) hg (Kd.R_ne HO_118001.out BK115.out (by decide)))
                                    have n4_ := Aside0.mk (blk_grown (g := gb117) (o := .cells #[.string t116, u118001, .int .i64 x118002_45, .int .i64 (1 + ((ji19) % 50)), .int .i64 x118004_45, .string x118005_45] 43 (0, 0)) (by (with_reducible repeat (first | refine blk_drewN ?_ _ | refine blk_drew ?_ | refine blk_alloc ?_ _)); exact BK117.out) hg (Kd.R_ne HO_118001.out BK117.out (by decide)))
                                    have n5_ := Aside0.mk (hb)
                                    have n6_ := Aside0.mk (ho)
                                    clear HO_106001
                                    clear BK104
                                    clear BK105
                                    clear BK115
                                    clear BK117
                                    clear HB
                                    clear HO_118001
                                    have HO_106001 := n0_
                                    have BK104 := n1_
                                    have BK105 := n2_
                                    have BK115 := n3_
                                    have BK117 := n4_
                                    have HB := n5_
                                    have HO121 := n6_
                                    clear n0_ n1_ n2_ n3_ n4_ n5_ n6_
                                    clear ho hb hg hat
                                    obtain ⟨Ao65, co65, eo65⟩ := Kd.R_slice HO121.out
                                    (first | subst eo65 | (injection eo65 with f1_ f2_ f3_; have f4_ := f1_.symm; have f5_ := f3_.symm; clear f1_ f2_ f3_; subst f4_; subst f5_))
                                    refine hK.out _ _ ⟨(blk_cell BK117.out 0).trans rfl, (blk_cell BK117.out 1).trans rfl, (blk_cell BK117.out 2).trans rfl, (blk_cell BK117.out 3).trans rfl, (blk_cell BK117.out 4).trans rfl, (blk_cell BK117.out 5).trans rfl⟩ (fun hHeld => ?_)
                                    clear hK K
                                    refine norm_ (a' := ?_) ?_ ?_
                                    rotate_left
                                    · show Act.put _ (some 66) _ = _
                                      simp only [Act.put, List.setIfInBounds_toArray, List.set_cons_zero, List.set_cons_succ, i64_w, i32_w]
                                      rfl
                                    refine pure_ (i := 6) (N := some 67) (v := ?_) (a' := ?_) #[true, true, true, true, true, true, true, false] rfl rfl (any_of HT_.out (by kernel_rfl)) (fun _ _ _ h => h) (Or.inl ⟨by rfl, ?_⟩) ?_ ?_
                                    rotate_left
                                    · intro w'
                                      go_simp
                                      with_reducible rfl
                                    rotate_left
                                    · simp only [Act.put, List.setIfInBounds_toArray, List.set_cons_zero, List.set_cons_succ, i64_w, i32_w]
                                      rfl
                                    refine last_ (i := 7) (N := none) #[true, true, true, true, true, true, true, true] rfl rfl (one_of HT_.out (by kernel_rfl)) (by decide) (fun K hK => ?_)
                                    have hs66 : w64.cell? ⟨gb117, 1, none⟩ = some (u118001) := (blk_cell BK117.out 1).trans rfl
                                    have hfs66 := blk_frozen BK117.out 1
                                    have hns66_0 := NB104_117.out
                                    have hns66_1 := NB105_117.out
                                    have hns66_2 := NB115_117.out
                                    have hms66_0 := NB117_104.out
                                    have hms66_1 := NB117_105.out
                                    have hms66_2 := NB117_115.out
                                    refine skip_ (w1 := ?_) (by rfl) rfl ?_ ?_
                                    rotate_left
                                    · go_simp
                                      rfl
                                    refine hK.out _ _ ?_
                                    clear hK K
                                    refine done_ (done_of HT_.out (by kernel_rfl)) ?_
                                    try go_wp2
                                    go_roundg k4
                                    case measure => have := HK1.out; have := HJ19.out; have := HJ45.out; have := HK4.out; omega
                                    case rel => exact ⟨(wrap64 (x52_4 + 1)), (y119), (.slice Ao65 y119.length co65), (by first | rfl | (simp; done) | (simp [*]; done)), H', ⟨by have := HK1.out; have := HJ19.out; have := HJ45.out; have := HK4.out; omega⟩, ⟨by (with_reducible repeat (first | apply Kd.S_alloc | apply Kd.S_drewN | apply Kd.S_drew)); exact Kd.S_mono (Kd.S_far (p := ⟨gb117, 1, none⟩) (Kd.S_mono HO_106001.out (fun k_ hk => (⟨hk, hk.1⟩ : _ ∧ k_ ≠ gb117))) (fun _ hk => hk.2) (.slice Ao65 y119.length co65)) (fun _ hk => ⟨hk.1.2, hk.1.1⟩)⟩, ⟨by (with_reducible repeat (first | apply Kd.R_alloc | apply Kd.R_drewN | apply Kd.R_drew)); exact Kd.R_mono (Kd.R_far (p := ⟨gb117, 1, none⟩) (Kd.R_types HO121.out BK117.out (by decide)) (fun _ hk => hk.2) (.slice Ao65 y119.length co65)) (fun _ hk => trivial)⟩, ⟨by (with_reducible repeat (first | refine blk_drewN ?_ _ | refine blk_drew ?_ | refine blk_alloc ?_ _)); refine blk_far ?_ NB104_117.out _; (with_reducible repeat (first | refine blk_drewN ?_ _ | refine blk_drew ?_ | refine blk_alloc ?_ _)); exact BK104.out⟩, ⟨by (with_reducible repeat (first | refine blk_drewN ?_ _ | refine blk_drew ?_ | refine blk_alloc ?_ _)); refine blk_far ?_ NB105_117.out _; (with_reducible repeat (first | refine blk_drewN ?_ _ | refine blk_drew ?_ | refine blk_alloc ?_ _)); exact BK105.out⟩, ⟨by (with_reducible repeat (first | refine blk_drewN ?_ _ | refine blk_drew ?_ | refine blk_alloc ?_ _)); refine blk_far ?_ NB115_117.out _; (with_reducible repeat (first | refine blk_drewN ?_ _ | refine blk_drew ?_ | refine blk_alloc ?_ _)); exact BK115.out⟩, ⟨by (with_reducible repeat (first | refine blk_drewN ?_ _ | refine blk_drew ?_ | refine blk_alloc ?_ _)); refine blk_put (cs := #[.string t116, u118001, .int .i64 x118002_45, .int .i64 (1 + ((ji19) % 50)), .int .i64 x118004_45, .string x118005_45]) ?_ 1 _ rfl; (with_reducible repeat (first | refine blk_drewN ?_ _ | refine blk_drew ?_ | refine blk_alloc ?_ _)); exact BK117.out⟩, ⟨by repeat (first | (with_reducible first | exact HB.out | apply below_alloc | apply pw_below_drewN | apply below_drew1 | refine below_set ?_ GE104.out | refine below_set ?_ GE105.out | refine below_set ?_ GE115.out | refine below_set ?_ GE117.out) | exact HB.out)⟩⟩
                                  · rw [if_neg c57] at H
                                    exact absurd H (by simp)
                                · rw [if_neg c55] at H
                                  have c55b0 : ((Go.bits .and .u32 (ji54) 1) == 1) = false := beq_eq_false_iff_ne.mpr c55
                                  have c55b1 : ((Go.bits .and .u32 (ji54) 1) != 1) = true := bne_iff_ne.mpr c55
                                  have H' := Aside0.mk H
                                  clear H
                                  have hnb67 := NB115_104.out
                                  have hnc67 := NB104_115.out
                                  have hnb68 := NB115_105.out
                                  have hnc68 := NB105_115.out
                                  have hnb69 := NB115_117.out
                                  have hnc69 := NB117_115.out
                                  have hcz70_0 : wr.cell? ⟨gb115, 0, none⟩ = some (.int .u32 ((rd_T50 y106 x22_1).f0)) := (blk_cell BK115.out 0).trans rfl
                                  have hcz70_1 : wr.cell? ⟨gb115, 1, none⟩ = some (.bool ((rd_T50 y106 x22_1).f1)) := (blk_cell BK115.out 1).trans rfl
                                  have hcz70_2 : wr.cell? ⟨gb115, 2, none⟩ = some (.int .i64 ((rd_T50 y106 x22_1).f2)) := (blk_cell BK115.out 2).trans rfl
                                  have hcz70_3 : wr.cell? ⟨gb115, 3, none⟩ = some (.int .i64 ((rd_T50 y106 x22_1).f3)) := (blk_cell BK115.out 3).trans rfl
                                  have hfz70_0 := blk_frozen BK115.out 0
                                  have hfz70_1 := blk_frozen BK115.out 1
                                  have hfz70_2 := blk_frozen BK115.out 2
                                  have hfz70_3 := blk_frozen BK115.out 3
                                  go_wp2
                                  go_roundg k4
                                  case measure => have := HK1.out; have := HJ19.out; have := HJ45.out; have := HK4.out; omega
                                  case rel => exact ⟨(wrap64 (x52_4 + 1)), (x118001_4), (u118001), (by first | rfl | (simp; done) | (simp [*]; done)), H', ⟨by have := HK1.out; have := HJ19.out; have := HJ45.out; have := HK4.out; omega⟩, ⟨by (with_reducible repeat (first | apply Kd.S_alloc | apply Kd.S_drewN | apply Kd.S_drew)); exact HO_106001.out⟩, ⟨by (with_reducible repeat (first | apply Kd.R_alloc | apply Kd.R_drewN | apply Kd.R_drew)); exact HO_118001.out⟩, ⟨by (with_reducible repeat (first | refine blk_drewN ?_ _ | refine blk_drew ?_ | refine blk_alloc ?_ _)); exact BK104.out⟩, ⟨by (with_reducible repeat (first | refine blk_drewN ?_ _ | refine blk_drew ?_ | refine blk_alloc ?_ _)); exact BK105.out⟩, ⟨by (with_reducible repeat (first | refine blk_drewN ?_ _ | refine blk_drew ?_ | refine blk_alloc ?_ _)); exact BK115.out⟩, ⟨by (with_reducible repeat (first | refine blk_drewN ?_ _ | refine blk_drew ?_ | refine blk_alloc ?_ _)); exact BK117.out⟩, ⟨by repeat (first | (with_reducible first | exact HB.out | apply below_alloc | apply pw_below_drewN | apply below_drew1 | refine below_set ?_ GE104.out | refine below_set ?_ GE105.out | refine below_set ?_ GE115.out | refine below_set ?_ GE117.out) | exact HB.out)⟩⟩
                              · rw [if_neg c53] at H
                                exact absurd H (by simp)
                            · rw [if_neg c52] at H
                              have c52b0 : decide (x52_4 < x22_1) = false := decide_eq_false c52
                              clear c52
                              by_cases c71 : x106001_1.length < 1759218604441
                              · rw [if_pos c71] at H
                                have LMc71 := Aside0.mk c71
                                clear c71
                                obtain ⟨y122, hy122⟩ : ∃ y_ : List (S43), y_ = (x106001_1 ++ [(⟨t116, x118001_4, x118002_45, (1 + ((ji19) % 50)), x118004_45, x118005_45⟩ : S43)]) := ⟨_, rfl⟩
                                replace H : (precincttop_flow.l0 k4 a2 a3 y106 (y106.length : Int) (wrap64 (x22_1 + 1)) a0 y122) = some (r1, r2) := by first | (rw [hy122]; with_reducible exact H) | (have H2_ := (Option.bind_some _ _).symm.trans H; rw [hy122]; with_reducible exact H2_) | (have H2_ := (Option.bind_some _ _).symm.trans H; with_reducible exact H2_) | with_reducible exact H | (rw [hy122]; exact H) | exact H
                                have Ny122 := Aside0.mk hy122
                                clear hy122
                                have H' := Aside0.mk H
                                clear H
                                have hnb72 := NB105_104.out
                                have hnc72 := NB104_105.out
                                have hnb73 := NB105_115.out
                                have hnc73 := NB115_105.out
                                have hnb74 := NB105_117.out
                                have hnc74 := NB117_105.out
                                have hcz75_0 : wr.cell? ⟨gb105, 0, none⟩ = some (.string a0) := (blk_cell BK105.out 0).trans rfl
                                have hcz75_1 : wr.cell? ⟨gb105, 1, none⟩ = some (u106001) := (blk_cell BK105.out 1).trans rfl
                                have hfz75_0 := blk_frozen BK105.out 0
                                have hfz75_1 := blk_frozen BK105.out 1
                                have hnb76 := NB117_104.out
                                have hnc76 := NB104_117.out
                                have hnb77 := NB117_115.out
                                have hnc77 := NB115_117.out
                                have hcz78_0 : wr.cell? ⟨gb117, 0, none⟩ = some (.string t116) := (blk_cell BK117.out 0).trans rfl
                                have hcz78_1 : wr.cell? ⟨gb117, 1, none⟩ = some (u118001) := (blk_cell BK117.out 1).trans rfl
                                have hcz78_2 : wr.cell? ⟨gb117, 2, none⟩ = some (.int .i64 x118002_45) := (blk_cell BK117.out 2).trans rfl
                                have hcz78_3 : wr.cell? ⟨gb117, 3, none⟩ = some (.int .i64 (1 + ((ji19) % 50))) := (blk_cell BK117.out 3).trans rfl
                                have hcz78_4 : wr.cell? ⟨gb117, 4, none⟩ = some (.int .i64 x118004_45) := (blk_cell BK117.out 4).trans rfl
                                have hcz78_5 : wr.cell? ⟨gb117, 5, none⟩ = some (.string x118005_45) := (blk_cell BK117.out 5).trans rfl
                                have hfz78_0 := blk_frozen BK117.out 0
                                have hfz78_1 := blk_frozen BK117.out 1
                                have hfz78_2 := blk_frozen BK117.out 2
                                have hfz78_3 := blk_frozen BK117.out 3
                                have hfz78_4 := blk_frozen BK117.out 4
                                have hfz78_5 := blk_frozen BK117.out 5
                                obtain ⟨Ao80, co80, eo80⟩ := Kd.R_slice HO_118001.out
                                subst eo80
                                go_wp2_with (first | ((with_reducible refine gate_builtin (b := .append) (xs := #[.tmp 70, .tmp 72]) rfl ?_); at_builtin; refine Kd.S_append k43 (w0 := w) w.heap.size rfl (.tmp 70) (.tmp 72) 25 43 (.agg #[(.string ⟨#[]⟩), (.slice none 0 0), (.int .i64 0), (.int .i64 0), (.int .i64 0), (.string ⟨#[]⟩)]) 80 rfl Try.underlying25 info43 rfl (by decide) (by omega) u106001 x106001_1 (⟨t116, x118001_4, x118002_45, (1 + ((ji19) % 50)), x118004_45, x118005_45⟩ : S43) [.string t116, .slice Ao80 x118001_4.length co80, .int .i64 x118002_45, .int .i64 (1 + ((ji19) % 50)), .int .i64 x118004_45, .string x118005_45] (fun k_ => k_ ≠ gb117) (fun k_ => some k_ = (.slice Ao80 x118001_4.length co80 : Value).ownBlock) rfl rfl ?aP (fun k_ hk_ => ((Kd.R_mono (ok' := fun k_ => ((fun k_ => k_ ≠ gb117)) k_ ∧ some k_ ≠ (u106001 : Value).ownBlock) (Kd.R_types (Kd.R_apart' (HO_118001.out) (Kd.S_typed HO_106001.out) (by decide)) BK117.out (by decide)) (fun k_ hk => ⟨hk.2, hk.1.2⟩))).1 k_ hk_.symm) ?aF ?aO ?aB ?aS ?aL ?_; (case aP => exact k43_mkM _ _ _ (⟨t116, x118001_4, x118002_45, (1 + ((ji19) % 50)), x118004_45, x118005_45⟩ : S43) (Kd.R_mono (Kd.R_tight rfl (Kd.R_mono (ok' := fun k_ => ((fun k_ => k_ ≠ gb117)) k_ ∧ some k_ ≠ (u106001 : Value).ownBlock) (Kd.R_types (Kd.R_apart' (HO_118001.out) (Kd.S_typed HO_106001.out) (by decide)) BK117.out (by decide)) (fun k_ hk => ⟨hk.2, hk.1.2⟩))) (fun _ h_ => h_))); (case aB => exact (by repeat (first | (with_reducible first | exact HB.out | apply below_alloc | apply pw_below_drewN | apply below_drew1 | refine below_set ?_ GE104.out | refine below_set ?_ GE105.out | refine below_set ?_ GE115.out | refine below_set ?_ GE117.out) | exact HB.out))); (case aF => exact (fun k_ hk => Kd.freshB (g := gb117) (o := .cells #[.string t116, .slice Ao80 x118001_4.length co80, .int .i64 x118002_45, .int .i64 (1 + ((ji19) % 50)), .int .i64 x118004_45, .string x118005_45] 43 (0, 0)) (by (with_reducible repeat (first | refine blk_drewN ?_ _ | refine blk_drew ?_ | refine blk_alloc ?_ _)); exact BK117.out) k_ hk)); (case aO => exact (by (with_reducible repeat (first | apply Kd.S_alloc | apply Kd.S_drewN | apply Kd.S_drew)); exact Kd.S_mono HO_106001.out (fun k_ hk => ⟨hk.2, fun e_ => hk.1 e_⟩))); (case aS => exact (below_size (by repeat (first | (with_reducible first | exact HB.out | apply below_alloc | apply pw_below_drewN | apply below_drew1 | refine below_set ?_ GE104.out | refine below_set ?_ GE105.out | refine below_set ?_ GE115.out | refine below_set ?_ GE117.out) | exact HB.out)))); (case aL => have := LMc71.out; omega); intro v123 w79 ho hb hg hat; rw [← Ny122.out] at ho; have n0_ := Aside0.mk (blk_grown (g := gb104) (o := .cells #[.string (⟨#[]⟩ : ByteArray), .slice none 0 0] 27 (0, 0)) (by (with_reducible repeat (first | refine blk_drewN ?_ _ | refine blk_drew ?_ | refine blk_alloc ?_ _)); exact BK104.out) hg (Kd.S_ne HO_106001.out BK104.out (by decide))); have n1_ := Aside0.mk (blk_grown (g := gb105) (o := .cells #[.string a0, u106001] 27 (0, 0)) (by (with_reducible repeat (first | refine blk_drewN ?_ _ | refine blk_drew ?_ | refine blk_alloc ?_ _)); exact BK105.out) hg (Kd.S_ne HO_106001.out BK105.out (by decide))); have n2_ := Aside0.mk (blk_grown (g := gb115) (o := .cells #[.int .u32 ((rd_T50 y106 x22_1).f0), .bool ((rd_T50 y106 x22_1).f1), .int .i64 ((rd_T50 y106 x22_1).f2), .int .i64 ((rd_T50 y106 x22_1).f3)] 50 (0, 0)) (by (with_reducible repeat (first | refine blk_drewN ?_ _ | refine blk_drew ?_ | refine blk_alloc ?_ _)); exact BK115.out) hg (Kd.S_ne HO_106001.out BK115.out (by decide))); have n3_ := Aside0.mk (blk_grown (g := gb117) (o := .cells #[.string t116, .slice Ao80 x118001_4.length co80, .int .i64 x118002_45, .int .i64 (1 + ((ji19) % 50)), .int .i64 x118004_45, .string x118005_45] 43 (0, 0)) (by (with_reducible repeat (first | refine blk_drewN ?_ _ | refine blk_drew ?_ | refine blk_alloc ?_ _)); exact BK117.out) hg (Kd.S_away HO_106001.out (fun _ hk => hk.2))); have n4_ := Aside0.mk (hb); have n5_ := Aside0.mk (ho); clear BK104; clear BK105; clear BK115; clear BK117; clear HB; clear HO_106001; clear HO_118001; have BK104 := n0_; have BK105 := n1_; have BK115 := n2_; have BK117 := n3_; have HB := n4_; have HO124 := n5_; clear n0_ n1_ n2_ n3_ n4_ n5_; clear ho hb hg hat; obtain ⟨Ao81, co81, eo81⟩ := Kd.S_slice HO124.out; subst eo81; have hcz82_0 : w79.cell? ⟨gb105, 0, none⟩ = some (.string a0) := (blk_cell BK105.out 0).trans rfl; have hcz82_1 : w79.cell? ⟨gb105, 1, none⟩ = some (u106001) := (blk_cell BK105.out 1).trans rfl; have hfz82_0 := blk_frozen BK105.out 0; have hfz82_1 := blk_frozen BK105.out 1))
                                go_roundg k4
                                case measure => have := HK1.out; have := HJ19.out; have := HJ45.out; have := HK4.out; omega
                                case rel => exact ⟨(wrap64 (x22_1 + 1)), (y122), (.slice Ao81 y122.length co81), (by first | rfl | (simp; done) | (simp [*]; done)), H', ⟨by have := HK1.out; have := HJ19.out; have := HJ45.out; have := HK4.out; omega⟩, ⟨by (with_reducible repeat (first | apply Kd.S_alloc | apply Kd.S_drewN | apply Kd.S_drew)); exact Kd.S_mono (Kd.S_far (p := ⟨gb105, 1, none⟩) (Kd.S_types HO124.out BK105.out (by decide)) (fun _ hk => hk.2) (.slice Ao81 y122.length co81)) (fun _ hk => trivial)⟩, ⟨by (with_reducible repeat (first | refine blk_drewN ?_ _ | refine blk_drew ?_ | refine blk_alloc ?_ _)); refine blk_far ?_ NB104_105.out _; (with_reducible repeat (first | refine blk_drewN ?_ _ | refine blk_drew ?_ | refine blk_alloc ?_ _)); exact BK104.out⟩, ⟨by (with_reducible repeat (first | refine blk_drewN ?_ _ | refine blk_drew ?_ | refine blk_alloc ?_ _)); refine blk_put (cs := #[.string a0, u106001]) ?_ 1 _ rfl; (with_reducible repeat (first | refine blk_drewN ?_ _ | refine blk_drew ?_ | refine blk_alloc ?_ _)); exact BK105.out⟩, ⟨by repeat (first | (with_reducible first | exact HB.out | apply below_alloc | apply pw_below_drewN | apply below_drew1 | refine below_set ?_ GE104.out | refine below_set ?_ GE105.out | refine below_set ?_ GE115.out | refine below_set ?_ GE117.out) | exact HB.out)⟩⟩
                              · rw [if_neg c71] at H
                                exact absurd H (by simp)
              · rw [if_neg c16] at H
                exact absurd H (by simp)
            · rw [if_neg c15] at H
              exact absurd H (by simp)
          · rw [if_neg c14] at H
            have c14b0 : decide (x22_1 < (y106.length : Int)) = false := decide_eq_false c14
            clear c14
            by_cases c83 : (x106001_1.length : Int) = 0
            · rw [if_pos c83] at H
              have c83b0 : ((x106001_1.length : Int) == 0) = true := beq_iff_eq.mpr c83
              have c83b1 : ((x106001_1.length : Int) != 0) = false := bne_eq_false_iff_eq.mpr c83
              clear c83
              replace H := Option.bind_eq_some_iff.mp H
              obtain ⟨t110, A840, H⟩ := H
              replace H : (some (a0, (([(⟨t110, ([] : List ByteArray), 1, 1, (-1), (⟨#[]⟩ : ByteArray)⟩ : S43)] : List (S43))))) = some (r1, r2) := H
              have A84 := Aside0.mk A840
              clear A840
              obtain ⟨y111, hy111⟩ : ∃ y_ : List (S43), y_ = (([(⟨t110, ([] : List ByteArray), 1, 1, (-1), (⟨#[]⟩ : ByteArray)⟩ : S43)] : List (S43))) := ⟨_, rfl⟩
              replace H : (some (a0, y111)) = some (r1, r2) := by first | (rw [hy111]; with_reducible exact H) | (have H2_ := (Option.bind_some _ _).symm.trans H; rw [hy111]; with_reducible exact H2_) | (have H2_ := (Option.bind_some _ _).symm.trans H; with_reducible exact H2_) | with_reducible exact H | (rw [hy111]; exact H) | exact H
              have Ny111 := Aside0.mk hy111
              clear hy111
              simp only [Option.some.injEq, Prod.mk.injEq] at H
              obtain ⟨rfl, rfl⟩ := H
              have hnb85 := NB105_104.out
              have hnc85 := NB104_105.out
              have hcz86_0 : wr.cell? ⟨gb105, 0, none⟩ = some (.string a0) := (blk_cell BK105.out 0).trans rfl
              have hcz86_1 : wr.cell? ⟨gb105, 1, none⟩ = some (u106001) := (blk_cell BK105.out 1).trans rfl
              have hfz86_0 := blk_frozen BK105.out 0
              have hfz86_1 := blk_frozen BK105.out 1
              obtain ⟨Ao87, co87, eo87⟩ := Kd.S_slice HO_106001.out
              subst eo87
              go_wp2_with (first | ((with_reducible refine gate_callee (f := 12) rfl ?_); refine goesL_ (some 80) rfl rfl Try.func12 (by kernel_rfl) rfl #[.int .i64 0] rfl (by (try simp only [List.map_toArray, List.map_cons, List.map_nil]); first | done | rfl | (simp only [List.length_drop, List.length_take]; rfl)) ?_; (with_reducible refine (precincttop_name.calls 0 t110 _ A84.out).mono ?_); rintro e w88 ⟨rfl, hb⟩; refine ⟨_, rfl, ?_⟩; have n0_ := Aside0.mk (Kd.S_below (by (with_reducible repeat (first | apply Kd.S_alloc | apply Kd.S_drewN | apply Kd.S_drew)); exact HO_106001.out) hb); have n1_ := Aside0.mk (blk_below (g := gb104) (o := .cells #[.string (⟨#[]⟩ : ByteArray), .slice none 0 0] 27 (0, 0)) (by (with_reducible repeat (first | refine blk_drewN ?_ _ | refine blk_drew ?_ | refine blk_alloc ?_ _)); exact BK104.out) hb); have n2_ := Aside0.mk (blk_below (g := gb105) (o := .cells #[.string a0, .slice Ao87 x106001_1.length co87] 27 (0, 0)) (by (with_reducible repeat (first | refine blk_drewN ?_ _ | refine blk_drew ?_ | refine blk_alloc ?_ _)); exact BK105.out) hb); have n3_ := Aside0.mk (below_step (by repeat (first | (with_reducible first | exact HB.out | apply below_alloc | apply pw_below_drewN | apply below_drew1 | refine below_set ?_ GE104.out | refine below_set ?_ GE105.out) | exact HB.out)) hb); clear HO_106001; clear BK104; clear BK105; clear HB; have HO_106001 := n0_; have BK104 := n1_; have BK105 := n2_; have HB := n3_; clear n0_ n1_ n2_ n3_; (try clear hb); (try clear hb2); (try clear hk); (try clear hi)) | ((with_reducible refine gate_dst (N := 82) rfl ?_); refine Kd.S_lit k43 _ 43 ?hg (N := 82) ?hd (xs := ([(⟨t110, ([] : List ByteArray), 1, 1, (-1), (⟨#[]⟩ : ByteArray)⟩ : S43)] : List (S43))) (inner := [.string t110, .slice none 0 0, .int .i64 1, .int .i64 1, .int .i64 (-1), .string (⟨#[]⟩ : ByteArray)]) (ok := fun _ => True) (okp := fun _ => True) ?hr ?hp (fun _ hk => hk) trivial (Below.refl _ _) (Nat.le_refl _) (by simp) ?_; (case hd => rfl); (case hg => rfl); (case hr => first | (go_simp; done) | (go_simp; rfl)); (case hp => exact (Reps.c6 (show Kd.M k43 _ _ _ (⟨t110, ([] : List ByteArray), 1, 1, (-1), (⟨#[]⟩ : ByteArray)⟩ : S43) [.string t110, .slice none 0 0, .int .i64 1, .int .i64 1, .int .i64 (-1), .string (⟨#[]⟩ : ByteArray)] from (k43_mkM _ _ _ (⟨t110, ([] : List ByteArray), 1, 1, (-1), (⟨#[]⟩ : ByteArray)⟩ : S43) (Kd.R_nil _ _ _ _ _))) (Reps.none _ _))); intro v112 w89 ho90 hb hg_ hnew_; clear hg_ hnew_; (first | rw [← Ny111.out] at ho90 | (simp only [Int.reduceToNat] at ho90; rw [← Ny111.out] at ho90)); have n0_ := Aside0.mk (Kd.S_elder' (by (with_reducible repeat (first | apply Kd.S_alloc | apply Kd.S_drewN | apply Kd.S_drew)); exact HO_106001.out) (Kd.S_base ho90) hb); have n1_ := Aside0.mk (Kd.S_lower (Kd.S_new' ho90 (Kd.S_lt (by (with_reducible repeat (first | apply Kd.S_alloc | apply Kd.S_drewN | apply Kd.S_drew)); exact HO_106001.out))) (below_size (by repeat (first | (with_reducible first | exact HB.out | apply below_alloc | apply pw_below_drewN | apply below_drew1 | refine below_set ?_ GE104.out | refine below_set ?_ GE105.out) | exact HB.out)))); have n2_ := Aside0.mk (blk_below (g := gb104) (o := .cells #[.string (⟨#[]⟩ : ByteArray), .slice none 0 0] 27 (0, 0)) (by (with_reducible repeat (first | refine blk_drewN ?_ _ | refine blk_drew ?_ | refine blk_alloc ?_ _)); exact BK104.out) hb); have n3_ := Aside0.mk (blk_below (g := gb105) (o := .cells #[.string a0, .slice Ao87 x106001_1.length co87] 27 (0, 0)) (by (with_reducible repeat (first | refine blk_drewN ?_ _ | refine blk_drew ?_ | refine blk_alloc ?_ _)); exact BK105.out) hb); have n4_ := Aside0.mk (below_step (by repeat (first | (with_reducible first | exact HB.out | apply below_alloc | apply pw_below_drewN | apply below_drew1 | refine below_set ?_ GE104.out | refine below_set ?_ GE105.out) | exact HB.out)) hb); clear HO_106001; clear BK104; clear BK105; clear HB; have HO_106001 := n0_; have HO113 := n1_; have BK104 := n2_; have BK105 := n3_; have HB := n4_; clear n0_ n1_ n2_ n3_ n4_; clear hb ho90; obtain ⟨Ao91, co91, eo91⟩ := Kd.S_slice HO113.out; subst eo91; have hcz92_0 : w89.cell? ⟨gb105, 0, none⟩ = some (.string a0) := (blk_cell BK105.out 0).trans rfl; have hcz92_1 : w89.cell? ⟨gb105, 1, none⟩ = some (.slice Ao87 x106001_1.length co87) := (blk_cell BK105.out 1).trans rfl; have hfz92_0 := blk_frozen BK105.out 0; have hfz92_1 := blk_frozen BK105.out 1; have hcz93_0 : w89.cell? ⟨gb104, 0, none⟩ = some (.string (⟨#[]⟩ : ByteArray)) := (blk_cell BK104.out 0).trans rfl; have hcz93_1 : w89.cell? ⟨gb104, 1, none⟩ = some (.slice none 0 0) := (blk_cell BK104.out 1).trans rfl; have hfz93_0 := blk_frozen BK104.out 0; have hfz93_1 := blk_frozen BK104.out 1))
              refine bodyPost_ret (results_cell_row rfl _ _ gb104 27 #[.string a0, .slice Ao91 y111.length co91] (0, 0) _ rfl (by (with_reducible repeat (first | refine blk_drewN ?_ _ | refine blk_drew ?_ | refine blk_alloc ?_ _)); refine blk_put (cs := #[.string a0, .slice none 0 0]) ?_ 1 _ rfl; (with_reducible repeat (first | refine blk_drewN ?_ _ | refine blk_drew ?_ | refine blk_alloc ?_ _)); refine blk_put (cs := #[.string (⟨#[]⟩ : ByteArray), .slice none 0 0]) ?_ 0 _ rfl; (with_reducible repeat (first | refine blk_drewN ?_ _ | refine blk_drew ?_ | refine blk_alloc ?_ _)); refine blk_far ?_ NB104_105.out _; (with_reducible repeat (first | refine blk_drewN ?_ _ | refine blk_drew ?_ | refine blk_alloc ?_ _)); exact BK104.out) Try.underlying27 rfl (by kernel_rfl)) rfl ?_
              exact ⟨_, by first | rfl | (simp [errW_none, errW_some] <;> rfl) | (simp only [← hji5]; first | rfl | (simp [errW_none, errW_some] <;> rfl)) | (simp [*, errW_none, errW_some] <;> rfl), by (with_reducible repeat (first | apply Kd.S_alloc | apply Kd.S_drewN | apply Kd.S_drew)); exact Kd.S_mono (Kd.S_far (p := ⟨gb104, 1, none⟩) (Kd.S_far (p := ⟨gb104, 0, none⟩) (Kd.S_far (p := ⟨gb105, 1, none⟩) (Kd.S_types (Kd.S_types HO113.out BK105.out (by decide)) BK104.out (by decide)) (fun _ hk => hk.1.2) (.slice Ao91 y111.length co91)) (fun _ hk => hk.2) (.string a0)) (fun _ hk => hk.2) (.slice Ao91 y111.length co91)) (fun _ hk => trivial), by repeat (first | (with_reducible first | exact HB.out | apply below_alloc | apply pw_below_drewN | apply below_drew1 | refine below_set ?_ GE104.out | refine below_set ?_ GE105.out) | exact HB.out)⟩
            · rw [if_neg c83] at H
              have c83b0 : ((x106001_1.length : Int) == 0) = false := beq_eq_false_iff_ne.mpr c83
              have c83b1 : ((x106001_1.length : Int) != 0) = true := bne_iff_ne.mpr c83
              have c83b2 : ¬ (x106001_1 = []) := fun h_ => c83 (by rw [h_]; rfl)
              simp only [Option.some.injEq, Prod.mk.injEq] at H
              obtain ⟨rfl, rfl⟩ := H
              have hnb94 := NB105_104.out
              have hnc94 := NB104_105.out
              have hcz95_0 : wr.cell? ⟨gb105, 0, none⟩ = some (.string a0) := (blk_cell BK105.out 0).trans rfl
              have hcz95_1 : wr.cell? ⟨gb105, 1, none⟩ = some (u106001) := (blk_cell BK105.out 1).trans rfl
              have hfz95_0 := blk_frozen BK105.out 0
              have hfz95_1 := blk_frozen BK105.out 1
              obtain ⟨Ao96, co96, eo96⟩ := Kd.S_slice HO_106001.out
              subst eo96
              have hcz97_0 : wr.cell? ⟨gb104, 0, none⟩ = some (.string (⟨#[]⟩ : ByteArray)) := (blk_cell BK104.out 0).trans rfl
              have hcz97_1 : wr.cell? ⟨gb104, 1, none⟩ = some (.slice none 0 0) := (blk_cell BK104.out 1).trans rfl
              have hfz97_0 := blk_frozen BK104.out 0
              have hfz97_1 := blk_frozen BK104.out 1
              go_wp2
              refine bodyPost_ret (results_cell_row rfl _ _ gb104 27 #[.string a0, .slice Ao96 x106001_1.length co96] (0, 0) _ rfl (by (with_reducible repeat (first | refine blk_drewN ?_ _ | refine blk_drew ?_ | refine blk_alloc ?_ _)); refine blk_put (cs := #[.string a0, .slice none 0 0]) ?_ 1 _ rfl; (with_reducible repeat (first | refine blk_drewN ?_ _ | refine blk_drew ?_ | refine blk_alloc ?_ _)); refine blk_put (cs := #[.string (⟨#[]⟩ : ByteArray), .slice none 0 0]) ?_ 0 _ rfl; (with_reducible repeat (first | refine blk_drewN ?_ _ | refine blk_drew ?_ | refine blk_alloc ?_ _)); exact BK104.out) Try.underlying27 rfl (by kernel_rfl)) rfl ?_
              exact ⟨_, by first | rfl | (simp [errW_none, errW_some] <;> rfl) | (simp only [← hji5]; first | rfl | (simp [errW_none, errW_some] <;> rfl)) | (simp [*, errW_none, errW_some] <;> rfl), by (with_reducible repeat (first | apply Kd.S_alloc | apply Kd.S_drewN | apply Kd.S_drew)); exact Kd.S_mono (Kd.S_far (p := ⟨gb104, 1, none⟩) (Kd.S_far (p := ⟨gb104, 0, none⟩) (Kd.S_types HO_106001.out BK104.out (by decide)) (fun _ hk => hk.2) (.string a0)) (fun _ hk => hk.2) (.slice Ao96 x106001_1.length co96)) (fun _ hk => trivial), by repeat (first | (with_reducible first | exact HB.out | apply below_alloc | apply pw_below_drewN | apply below_drew1 | refine below_set ?_ GE104.out | refine below_set ?_ GE105.out) | exact HB.out)⟩
    · rw [if_neg c7] at H
      exact absurd H (by simp)
  · rw [if_neg c6] at H
    exact absurd H (by simp)

end Go.Proofs.Ytiipbibbppgbgaa.PTopFates
