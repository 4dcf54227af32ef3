/- Contracts of the reference's Number, Ready, List and Behind. These lines were written by the kit's print (with one walk mended by hand: the cut list is given a name). -/
import Derived.Test.YtfkljcnkghakaaaDoorFnB
namespace Go.Proofs.YtfkljcnkghakaaaDoor.PReadyOrders
open Go.RowKit Go.Proofs.YtfkljcnkghakaaaDoorW.PrintWords Go.Proofs.YtfkljcnkghakaaaDoorW.PrintLast Go.Proofs.YtfkljcnkghakaaaDoorW.PrintMore
set_option linter.unusedVariables false
set_option linter.unusedSimpArgs false
attribute [local go_sem] max2_int min2_int max_two min_two max_three min_three max_four min_four

/-! ### precinctref13_Number: function 27 -/
def precinctref13_Number.l0 : Nat → List Bool → Int → Int → Int → Option (Int)
  | 0, _, _, _, _ => none
  | k + 1, x0, x3, x4, x5 => if x5 < (x0.length : Int) then (if 0 ≤ x5 then (if rdOf false x0 x5 = true then (precinctref13_Number.l0 k x0 ((x3 + x4) % 4294967296) ((2 * x4) % 4294967296) (wrap64 (x5 + 1))) else (precinctref13_Number.l0 k x0 x3 ((2 * x4) % 4294967296) (wrap64 (x5 + 1)))) else (none)) else (some x3)
def precinctref13_Number.f (k : Nat) (l0 : List Bool) : Option (Int) := precinctref13_Number.l0 k l0 0 1 0
theorem precinctref13_Number.mono_l : ∀ k, (∀ y0 y1 y2 y3, LeO (precinctref13_Number.l0 k y0 y1 y2 y3) (precinctref13_Number.l0 (k + 1) y0 y1 y2 y3))
  | 0 => fun _ _ _ _ r h => by simp [precinctref13_Number.l0] at h
  | k + 1 => by
    have ih0 := precinctref13_Number.mono_l k
    · intro y0 y1 y2 y3
      unfold precinctref13_Number.l0
      repeat' first
      | (with_reducible exact ih0 _ _ _ _)
      | (with_reducible exact LeO.refl _)
      | (with_reducible exact LeO.none _)
      | (with_reducible refine LeO.ite ?_ ?_)
      | (with_reducible refine LeO.bind ?_ (fun _ => ?_))
      | exact ih0 _ _ _ _
      | exact LeO.none _
      | refine LeO.ite ?_ ?_
      | refine LeO.bind ?_ (fun _ => ?_)
theorem precinctref13_Number.mono : ∀ a0 k, LeO (precinctref13_Number.f k a0) (precinctref13_Number.f (k + 1) a0) := by
  intro a0 k
  have ih0 := precinctref13_Number.mono_l k
  unfold precinctref13_Number.f
  repeat' first
      | (with_reducible exact ih0 _ _ _ _)
      | (with_reducible exact LeO.refl _)
      | (with_reducible exact LeO.none _)
      | (with_reducible refine LeO.ite ?_ ?_)
      | (with_reducible refine LeO.bind ?_ (fun _ => ?_))
      | exact ih0 _ _ _ _
      | exact LeO.none _
      | refine LeO.ite ?_ ?_
      | refine LeO.bind ?_ (fun _ => ?_)
set_option maxHeartbeats 8000000 in
set_option maxRecDepth 100000 in
theorem precinctref13_Number.calls (k : Nat) (A0 : Option Addr) (c0 : Nat) (l0 : List Bool) (r : Int) (w : World) (hr0 : Kd.C Kd.bool w A0 l0.length l0) (hc0 : l0.length ≤ c0) (h : precinctref13_Number.f k l0 = some r) :
    Calls Tryd.prog 27 #[.slice A0 l0.length c0] w fun e w' => e = .returned (.int .u32 r) ∧ Drawn0 w w' := by
  have HR0 := Aside0.mk hr0
  have HC0 := Aside0.mk hc0
  clear hr0 hc0
  have H : (precinctref13_Number.l0 k l0 0 1 0) = some r := h
  clear h
  have H' := Aside0.mk H
  clear H
  go_enter Tryd.func27, Tryd.ntmps27
  go_wp2
  go_loopg [3, 4, 5] k (fun kq v3 v4 v5 w' => ∃ (x3_1 : Int) (x4_1 : Int) (x5_1 : Int), v3 = .int .u32 x3_1 ∧ v4 = .int .u32 x4_1 ∧ v5 = .int .i64 x5_1 ∧ Aside0 (precinctref13_Number.l0 kq l0 x3_1 x4_1 x5_1 = some r) ∧ Aside0 (kq ≤ k) ∧ Drawn0 w w')
  case atStart => exact ⟨(0), (1), (0), (by first | rfl | (simp; done) | (simp [*]; done)), (by first | rfl | (simp; done) | (simp [*]; done)), (by first | rfl | (simp; done) | (simp [*]; done)), H', ⟨Nat.le_refl _⟩, by repeat (first | exact Drawn0.refl _ | apply Drawn0.step)⟩
  case round =>
    clear H'
    obtain ⟨x3_1, x4_1, x5_1, rfl, rfl, rfl, HA, HK1, ⟨m1, rfl⟩⟩ := hrel
    cases gk with
    | zero => exact absurd HA.out (by simp [precinctref13_Number.l0])
    | succ k1 =>
      have H := HA.out
      clear HA
      simp only [precinctref13_Number.l0] at H
      by_cases c2 : x5_1 < (l0.length : Int)
      · rw [if_pos c2] at H
        have c2b0 : decide (x5_1 < (l0.length : Int)) = true := decide_eq_true c2
        clear c2
        by_cases c3 : 0 ≤ x5_1
        · rw [if_pos c3] at H
          have c3b0 : decide (0 ≤ x5_1) = true := decide_eq_true c3
          clear c3
          obtain ⟨bq4, hbq4⟩ : ∃ b_ : Bool, b_ = (rdOf false l0 x5_1) := ⟨_, rfl⟩
          replace H : (if bq4 = true then (precinctref13_Number.l0 k1 l0 ((x3_1 + x4_1) % 4294967296) ((2 * x4_1) % 4294967296) (wrap64 (x5_1 + 1))) else (precinctref13_Number.l0 k1 l0 x3_1 ((2 * x4_1) % 4294967296) (wrap64 (x5_1 + 1)))) = some r := by rw [← hbq4] at H; exact H
          have Nbq4 := Aside0.mk hbq4
          clear hbq4
          by_cases c5 : bq4 = true
          · subst c5
            have H1 : (precinctref13_Number.l0 k1 l0 ((x3_1 + x4_1) % 4294967296) ((2 * x4_1) % 4294967296) (wrap64 (x5_1 + 1))) = some r := by rw [if_pos rfl] at H; exact H
            clear H
            have H := H1
            clear H1
            have H' := Aside0.mk H
            clear H
            have p130 : 0 ≤ (x5_1 : Int) := of_decide_eq_true (by first | (with_reducible assumption) | assumption)
            have q130 : x5_1 < (l0.length : Int) := of_decide_eq_true (by first | (with_reducible assumption) | assumption)
            obtain ⟨ad130, e130, hx130_0⟩ := Kd.at_bool HR0.out x5_1 p130 q130
            (try rw [← Nbq4.out] at hx130_0)
            cases e130
            replace p130 := eq_true p130
            replace q130 := eq_true q130
            go_wp2
            go_roundg k1
            case measure => have := HK1.out; omega
            case rel => exact ⟨((x3_1 + x4_1) % 4294967296), ((2 * x4_1) % 4294967296), (wrap64 (x5_1 + 1)), (by first | rfl | (simp; done) | (simp [*]; done)), (by first | rfl | (simp; done) | (simp [*]; done)), (by first | rfl | (simp; done) | (simp [*]; done)), H', ⟨by have := HK1.out; omega⟩, by repeat (first | exact Drawn0.refl _ | apply Drawn0.step)⟩
          · replace c5 := Bool.eq_false_iff.mpr c5
            subst c5
            have H1 : (precinctref13_Number.l0 k1 l0 x3_1 ((2 * x4_1) % 4294967296) (wrap64 (x5_1 + 1))) = some r := by rw [if_neg (show ¬ (false = true) by decide)] at H; exact H
            clear H
            have H := H1
            clear H1
            have H' := Aside0.mk H
            clear H
            have p130 : 0 ≤ (x5_1 : Int) := of_decide_eq_true (by first | (with_reducible assumption) | assumption)
            have q130 : x5_1 < (l0.length : Int) := of_decide_eq_true (by first | (with_reducible assumption) | assumption)
            obtain ⟨ad130, e130, hx130_0⟩ := Kd.at_bool HR0.out x5_1 p130 q130
            (try rw [← Nbq4.out] at hx130_0)
            cases e130
            replace p130 := eq_true p130
            replace q130 := eq_true q130
            go_wp2
            go_roundg k1
            case measure => have := HK1.out; omega
            case rel => exact ⟨(x3_1), ((2 * x4_1) % 4294967296), (wrap64 (x5_1 + 1)), (by first | rfl | (simp; done) | (simp [*]; done)), (by first | rfl | (simp; done) | (simp [*]; done)), (by first | rfl | (simp; done) | (simp [*]; done)), H', ⟨by have := HK1.out; omega⟩, by repeat (first | exact Drawn0.refl _ | apply Drawn0.step)⟩
        · rw [if_neg c3] at H
          exact absurd H (by simp)
      · rw [if_neg c2] at H
        have c2b0 : decide (x5_1 < (l0.length : Int)) = false := decide_eq_false c2
        clear c2
        obtain rfl := Option.some.inj H
        go_wp2
        go_ret
        exact ⟨by first | rfl | (simp; done) | (simp [*]; done), by repeat (first | exact Drawn0.refl _ | apply Drawn0.step)⟩


/-! ### precinctref13_Ready: function 16 -/
mutual
def precinctref13_Ready.l0 : Nat → List Int → Int → Int → List Bool → Int → Option (Int)
  | 0, _, _, _, _, _ => none
  | k + 1, x0, x1, x5, x6, x7 => if x7 < x5 then ((precinctref13_Bit.f k x1 x7).bind fun t135 => (if 0 ≤ x7 then (if x7 < (x6.length : Int) then (precinctref13_Ready.l0 k x0 x1 x5 (x6.set (x7 : Int).toNat t135) (wrap64 (x7 + 1))) else (none)) else (none))) else (if 0 ≤ x5 then (if (x5 : Int).toNat ≤ 281474976710656 then (precinctref13_Ready.l1 k x0 x5 x6 (List.replicate (x5 : Int).toNat false) 0) else (none)) else (none))
def precinctref13_Ready.l1 : Nat → List Int → Int → List Bool → List Bool → Int → Option (Int)
  | 0, _, _, _, _, _ => none
  | k + 1, x0, x5, x6, x8, x9 => if x9 < x5 then ((precinctref13_waits.f k x0 x9 x6).bind fun t140 => (if 0 ≤ x9 then (if x9 < (x6.length : Int) then (if rdOf false x6 x9 = true then (if x9 < (x8.length : Int) then (precinctref13_Ready.l1 k x0 x5 x6 (x8.set (x9 : Int).toNat false) (wrap64 (x9 + 1))) else (none)) else (if x9 < (x8.length : Int) then (precinctref13_Ready.l1 k x0 x5 x6 (x8.set (x9 : Int).toNat (!t140)) (wrap64 (x9 + 1))) else (none))) else (none)) else (none))) else ((precinctref13_Number.f k x8).bind fun t144 => (some t144))
end
def precinctref13_Ready.f (k : Nat) (l0 : List Int) (a1 : Int) : Option (Int) := (precinctref13_count.f l0).bind fun t131 => (if 0 ≤ t131 then (if (t131 : Int).toNat ≤ 281474976710656 then (precinctref13_Ready.l0 k l0 a1 t131 (List.replicate (t131 : Int).toNat false) 0) else (none)) else (none))
theorem precinctref13_Ready.mono_l : ∀ k, (∀ y0 y1 y2 y3 y4, LeO (precinctref13_Ready.l0 k y0 y1 y2 y3 y4) (precinctref13_Ready.l0 (k + 1) y0 y1 y2 y3 y4)) ∧ (∀ y0 y1 y2 y3 y4, LeO (precinctref13_Ready.l1 k y0 y1 y2 y3 y4) (precinctref13_Ready.l1 (k + 1) y0 y1 y2 y3 y4))
  | 0 => ⟨fun _ _ _ _ _ r h => by simp [precinctref13_Ready.l0] at h, fun _ _ _ _ _ r h => by simp [precinctref13_Ready.l1] at h⟩
  | k + 1 => by
    obtain ⟨ih0, ih1⟩ := precinctref13_Ready.mono_l k
    refine ⟨?_, ?_⟩
    · intro y0 y1 y2 y3 y4
      unfold precinctref13_Ready.l0
      repeat' first
      | (with_reducible exact ih0 _ _ _ _ _)
      | (with_reducible exact ih1 _ _ _ _ _)
      | (with_reducible exact precinctref13_Bit.mono _ _ _)
      | (with_reducible exact precinctref13_Number.mono _ _)
      | (with_reducible exact precinctref13_waits.mono _ _ _ _)
      | (with_reducible exact LeO.refl _)
      | (with_reducible exact LeO.none _)
      | (with_reducible refine LeO.ite ?_ ?_)
      | (with_reducible refine LeO.bind ?_ (fun _ => ?_))
      | exact ih0 _ _ _ _ _
      | exact ih1 _ _ _ _ _
      | exact precinctref13_Bit.mono _ _ _
      | exact precinctref13_Number.mono _ _
      | exact precinctref13_waits.mono _ _ _ _
      | exact LeO.none _
      | refine LeO.ite ?_ ?_
      | refine LeO.bind ?_ (fun _ => ?_)
    · intro y0 y1 y2 y3 y4
      unfold precinctref13_Ready.l1
      repeat' first
      | (with_reducible exact ih0 _ _ _ _ _)
      | (with_reducible exact ih1 _ _ _ _ _)
      | (with_reducible exact precinctref13_Bit.mono _ _ _)
      | (with_reducible exact precinctref13_Number.mono _ _)
      | (with_reducible exact precinctref13_waits.mono _ _ _ _)
      | (with_reducible exact LeO.refl _)
      | (with_reducible exact LeO.none _)
      | (with_reducible refine LeO.ite ?_ ?_)
      | (with_reducible refine LeO.bind ?_ (fun _ => ?_))
      | exact ih0 _ _ _ _ _
      | exact ih1 _ _ _ _ _
      | exact precinctref13_Bit.mono _ _ _
      | exact precinctref13_Number.mono _ _
      | exact precinctref13_waits.mono _ _ _ _
      | exact LeO.none _
      | refine LeO.ite ?_ ?_
      | refine LeO.bind ?_ (fun _ => ?_)
theorem precinctref13_Ready.mono : ∀ a0 a1 k, LeO (precinctref13_Ready.f k a0 a1) (precinctref13_Ready.f (k + 1) a0 a1) := by
  intro a0 a1 k
  obtain ⟨ih0, ih1⟩ := precinctref13_Ready.mono_l k
  unfold precinctref13_Ready.f
  repeat' first
      | (with_reducible exact ih0 _ _ _ _ _)
      | (with_reducible exact ih1 _ _ _ _ _)
      | (with_reducible exact precinctref13_Bit.mono _ _ _)
      | (with_reducible exact precinctref13_Number.mono _ _)
      | (with_reducible exact precinctref13_waits.mono _ _ _ _)
      | (with_reducible exact LeO.refl _)
      | (with_reducible exact LeO.none _)
      | (with_reducible refine LeO.ite ?_ ?_)
      | (with_reducible refine LeO.bind ?_ (fun _ => ?_))
      | exact ih0 _ _ _ _ _
      | exact ih1 _ _ _ _ _
      | exact precinctref13_Bit.mono _ _ _
      | exact precinctref13_Number.mono _ _
      | exact precinctref13_waits.mono _ _ _ _
      | exact LeO.none _
      | refine LeO.ite ?_ ?_
      | refine LeO.bind ?_ (fun _ => ?_)
set_option maxHeartbeats 8000000 in
set_option maxRecDepth 100000 in
theorem precinctref13_Ready.calls (k : Nat) (A0 : Option Addr) (c0 : Nat) (l0 : List Int) (a1 : Int) (r : Int) (w : World) (hr0 : Kd.C (Kd.int .u32) w A0 l0.length l0) (hc0 : l0.length ≤ c0) (h : precinctref13_Ready.f k l0 a1 = some r) :
    Calls Tryd.prog 16 #[.slice A0 l0.length c0, .int .u32 a1] w fun e w' => e = .returned (.int .u32 r) ∧ Below w.heap.size w w' := by
  have HR0 := Aside0.mk hr0
  have HC0 := Aside0.mk hc0
  clear hr0 hc0
  have HB := Aside0.mk (Below.refl w.heap.size w)
  have H : ((precinctref13_count.f l0).bind fun t131 => (if 0 ≤ t131 then (if (t131 : Int).toNat ≤ 281474976710656 then (precinctref13_Ready.l0 k l0 a1 t131 (List.replicate (t131 : Int).toNat false) 0) else (none)) else (none))) = some r := h
  clear h
  replace H := Option.bind_eq_some_iff.mp H
  obtain ⟨t131, A30, H⟩ := H
  replace H : (if 0 ≤ t131 then (if (t131 : Int).toNat ≤ 281474976710656 then (precinctref13_Ready.l0 k l0 a1 t131 (List.replicate (t131 : Int).toNat false) 0) else (none)) else (none)) = some r := H
  have A3 := Aside0.mk A30
  clear A30
  by_cases c4 : 0 ≤ t131
  · rw [if_pos c4] at H
    have c4b0 := eq_true c4
    have c4b1 : decide (0 ≤ t131) = true := decide_eq_true c4
    clear c4
    by_cases c5 : (t131 : Int).toNat ≤ 281474976710656
    · rw [if_pos c5] at H
      have c5b0 := eq_true c5
      have c5b1 : decide ((t131 : Int).toNat ≤ 281474976710656) = true := decide_eq_true c5
      clear c5
      obtain ⟨y132, hy132⟩ : ∃ y_ : List Bool, y_ = (List.replicate (t131 : Int).toNat false) := ⟨_, rfl⟩
      replace H : (precinctref13_Ready.l0 k l0 a1 t131 y132 0) = some r := by first | (rw [hy132]; with_reducible exact H) | (have H2_ := (Option.bind_some _ _).symm.trans H; rw [hy132]; with_reducible exact H2_) | (have H2_ := (Option.bind_some _ _).symm.trans H; with_reducible exact H2_) | with_reducible exact H | (rw [hy132]; exact H) | exact H
      have Ny132 := Aside0.mk hy132
      clear hy132
      have H' := Aside0.mk H
      clear H
      go_enter Tryd.func16, Tryd.ntmps16
      go_wp2_with (first | ((with_reducible refine gate_callee (f := 22) rfl ?_); refine goesL_ (some 12) rfl rfl Tryd.func22 (by kernel_rfl) rfl #[.slice A0 l0.length c0] rfl (by (try simp only [List.map_toArray, List.map_cons, List.map_nil]); first | done | rfl | (simp only [List.length_drop, List.length_take]; rfl)) ?_; (with_reducible refine (precinctref13_count.calls _ _ l0 t131 _ ?side1 ?side2 A3.out).mono ?_); (case side1 => repeat (first | exact HR0.out | (with_reducible refine Kd.C_alloc ?_ _) | (with_reducible refine Kd.C_drewN ?_ _) | (with_reducible refine Kd.C_drew ?_))); (case side2 => exact HC0.out); rintro e w' ⟨rfl, ⟨nd, rfl⟩⟩; refine ⟨_, rfl, ?_⟩) | ((with_reducible refine gate_dst (N := 14) rfl ?_); refine Kd.R_make Kd.bool _ 4 rfl (N := 14) rfl 38 _ _ rfl t131 rfl rfl Tryd.underlying38 (.bool false) 1 info4 rfl (by decide) (by omega) false (ok := fun _ => True) (okp := fun _ => True) rfl (fun _ hk => hk) trivial (of_decide_eq_true (by first | (with_reducible assumption) | assumption)) (Nat.le_trans (Nat.mul_le_mul_right _ (of_decide_eq_true (by first | (with_reducible assumption) | assumption) : t131.toNat ≤ 281474976710656)) (by omega)) (Below.refl _ _) (Nat.le_refl _) ?_; intro v133 w6 ho7 hb hg_ hnew_; clear hg_ hnew_; (first | rw [← Ny132.out] at ho7 | (simp only [Int.reduceToNat] at ho7; rw [← Ny132.out] at ho7)); have n0_ := Aside0.mk (Kd.R_lower ho7 (below_size (by repeat (first | (with_reducible first | exact HB.out | apply below_alloc | apply pw_below_drewN | apply below_drew1) | exact HB.out)))); have n1_ := Aside0.mk (below_step (by repeat (first | (with_reducible first | exact HB.out | apply below_alloc | apply pw_below_drewN | apply below_drew1) | exact HB.out)) hb); clear HB; have HO134 := n0_; have HB := n1_; clear n0_ n1_; clear hb ho7))
      go_loopg [7] k (fun kq v7 w' => ∃ (x6_1 : List Bool) (x7_1 : Int), v7 = .int .i64 x7_1 ∧ Aside0 (precinctref13_Ready.l0 kq l0 a1 t131 x6_1 x7_1 = some r) ∧ Aside0 (kq ≤ k) ∧ Aside0 (Kd.R Kd.bool 4 w' w.heap.size (fun _ => True) v133 x6_1) ∧ Aside0 (Below w.heap.size w w'))
      case atStart => exact ⟨(y132), (0), (by first | rfl | (simp; done) | (simp [*]; done)), H', ⟨Nat.le_refl _⟩, ⟨by (with_reducible repeat (first | apply Kd.R_alloc | apply Kd.R_drewN | apply Kd.R_drew)); exact HO134.out⟩, ⟨by repeat (first | (with_reducible first | exact HB.out | apply below_alloc | apply pw_below_drewN | apply below_drew1) | exact HB.out)⟩⟩
      case round =>
        clear H'
        try clear c1
        try clear c2
        try clear p2
        try clear c4
        try clear c4b0
        try clear c4b1
        try clear c5
        try clear c5b0
        try clear c5b1
        obtain ⟨x6_1, x7_1, rfl, HA, HK1, HO_6, HB⟩ := hrel
        cases gk with
        | zero => exact absurd HA.out (by simp [precinctref13_Ready.l0])
        | succ k1 =>
          have H := HA.out
          clear HA
          simp only [precinctref13_Ready.l0] at H
          by_cases c8 : x7_1 < t131
          · rw [if_pos c8] at H
            have c8b0 : decide (x7_1 < t131) = true := decide_eq_true c8
            clear c8
            replace H := Option.bind_eq_some_iff.mp H
            obtain ⟨t135, A90, H⟩ := H
            replace H : (if 0 ≤ x7_1 then (if x7_1 < (x6_1.length : Int) then (precinctref13_Ready.l0 k1 l0 a1 t131 (x6_1.set (x7_1 : Int).toNat t135) (wrap64 (x7_1 + 1))) else (none)) else (none)) = some r := H
            have A9 := Aside0.mk A90
            clear A90
            by_cases c10 : 0 ≤ x7_1
            · rw [if_pos c10] at H
              have c10b0 : decide (0 ≤ x7_1) = true := decide_eq_true c10
              clear c10
              by_cases c11 : x7_1 < (x6_1.length : Int)
              · rw [if_pos c11] at H
                have c11b0 : decide (x7_1 < (x6_1.length : Int)) = true := decide_eq_true c11
                clear c11
                obtain ⟨y136, hy136⟩ : ∃ y_ : List Bool, y_ = (x6_1.set (x7_1 : Int).toNat t135) := ⟨_, rfl⟩
                replace H : (precinctref13_Ready.l0 k1 l0 a1 t131 y136 (wrap64 (x7_1 + 1))) = some r := by first | (rw [hy136]; with_reducible exact H) | (have H2_ := (Option.bind_some _ _).symm.trans H; rw [hy136]; with_reducible exact H2_) | (have H2_ := (Option.bind_some _ _).symm.trans H; with_reducible exact H2_) | with_reducible exact H | (rw [hy136]; exact H) | exact H
                have Ny136 := Aside0.mk hy136
                clear hy136
                have H' := Aside0.mk H
                clear H
                go_wp2_with (first | ((with_reducible refine gate_callee (f := 26) rfl ?_); refine goesL_ (some 24) rfl rfl Tryd.func26 (by kernel_rfl) rfl #[.int .u32 a1, .int .i64 x7_1] rfl (by (try simp only [List.map_toArray, List.map_cons, List.map_nil]); first | done | rfl | (simp only [List.length_drop, List.length_take]; rfl)) ?_; (with_reducible refine (precinctref13_Bit.calls k1 a1 x7_1 t135 _ A9.out).mono ?_); rintro e w' ⟨rfl, ⟨nd, rfl⟩⟩; refine ⟨_, rfl, ?_⟩; (try (rw [drewN_self wr]; generalize hq_ : World.drewN wr _ = wr; have n0_ : Aside0 (Kd.R Kd.bool 4 wr w.heap.size (fun _ => True) v133 x6_1) := ⟨by rw [← hq_]; exact (by (with_reducible repeat (first | apply Kd.R_alloc | apply Kd.R_drewN | apply Kd.R_drew)); exact HO_6.out)⟩; have n1_ : Aside0 (Below w.heap.size w wr) := ⟨by rw [← hq_]; exact (by repeat (first | (with_reducible first | exact HB.out | apply below_alloc | apply pw_below_drewN | apply below_drew1) | exact HB.out))⟩; clear HO_6 HB hq_; have HO_6 := n0_; have HB := n1_; clear n0_ n1_)); have p12 : 0 ≤ (x7_1 : Int) := of_decide_eq_true (by first | (with_reducible assumption) | assumption); have q12 : (x7_1 : Int) < ((x6_1.length : Int) : Int) := of_decide_eq_true (by first | (with_reducible assumption) | assumption); obtain ⟨go12, co12, eo12, gb12, gl12, cl12, HG12⟩ := Kd.R_form HO_6.out (by omega); (first | cases eo12 | (injection eo12 with ea_ en_ ec_; (first | subst ea_ | (injection ea_ with ea_; subst ea_)); subst ec_; clear en_)); have GB12 := Aside0.mk gb12; have GG12 := Aside0.mk HG12; clear gb12 gl12 HG12; obtain ⟨hx12_0, hf12_0⟩ := Kd.R_celln false HO_6.out (x7_1 : Int) p12 q12; replace p12 := eq_true p12; replace q12 := eq_true q12; obtain ⟨hy13_, hz13_⟩ := Kd.R_celln false HO_6.out (x7_1 : Int) (of_decide_eq_true (by first | (with_reducible assumption) | assumption)) (of_decide_eq_true (by first | (with_reducible assumption) | assumption)); have HP13 := Kd.R_putg HO_6.out (x7_1 : Int) t135) | ((with_reducible refine gate_store (t := 4) (p := 25) rfl ?_); refine store_event (t := 4) (p := 25) (v := ?vo_w14) (w1 := (wr.setCell ⟨go12, (x7_1 : Int).toNat, none⟩ (.bool t135))) ?hg ?ho ?hn ?hr ?_; (case ho => rfl); (case hg => rfl); (case hn => rfl); (case hr => first | (go_simp; done) | (go_simp; rfl)); intro w14 hw; have hg : wr.grownBy w14 (some go12) := (by rw [hw]; exact HP13.2); have hp_ : Kd.R Kd.bool 4 w14 w.heap.size (fun _ => True) (.slice (some ⟨go12, 0, none⟩) x6_1.length co12) y136 := (by rw [hw, Ny136.out]; exact HP13.1); clear HP13; have n0_ := Aside0.mk (hp_); have n1_ := Aside0.mk ((by rw [hw]; exact below_set (HB.out) GB12.out : Below w.heap.size w w14)); clear HO_6; clear HB; have HO_6 := n0_; have HB := n1_; clear n0_ n1_; clear hg hw hp_))
                go_roundg k1
                case measure => have := HK1.out; omega
                case rel => exact ⟨(y136), (wrap64 (x7_1 + 1)), (by first | rfl | (simp; done) | (simp [*]; done)), H', ⟨by have := HK1.out; omega⟩, ⟨by (with_reducible repeat (first | apply Kd.R_alloc | apply Kd.R_drewN | apply Kd.R_drew)); exact HO_6.out⟩, ⟨by repeat (first | (with_reducible first | exact HB.out | apply below_alloc | apply pw_below_drewN | apply below_drew1) | exact HB.out)⟩⟩
              · rw [if_neg c11] at H
                exact absurd H (by simp)
            · rw [if_neg c10] at H
              exact absurd H (by simp)
          · rw [if_neg c8] at H
            have c8b0 : decide (x7_1 < t131) = false := decide_eq_false c8
            clear c8
            by_cases c15 : 0 ≤ t131
            · rw [if_pos c15] at H
              have c15b0 := eq_true c15
              have c15b1 : decide (0 ≤ t131) = true := decide_eq_true c15
              clear c15
              by_cases c16 : (t131 : Int).toNat ≤ 281474976710656
              · rw [if_pos c16] at H
                have c16b0 := eq_true c16
                have c16b1 : decide ((t131 : Int).toNat ≤ 281474976710656) = true := decide_eq_true c16
                clear c16
                obtain ⟨y137, hy137⟩ : ∃ y_ : List Bool, y_ = (List.replicate (t131 : Int).toNat false) := ⟨_, rfl⟩
                replace H : (precinctref13_Ready.l1 k1 l0 t131 x6_1 y137 0) = some r := by first | (rw [hy137]; with_reducible exact H) | (have H2_ := (Option.bind_some _ _).symm.trans H; rw [hy137]; with_reducible exact H2_) | (have H2_ := (Option.bind_some _ _).symm.trans H; with_reducible exact H2_) | with_reducible exact H | (rw [hy137]; exact H) | exact H
                have Ny137 := Aside0.mk hy137
                clear hy137
                have H' := Aside0.mk H
                clear H
                go_wp2_with (first | ((with_reducible refine gate_dst (N := 27) rfl ?_); refine Kd.R_make Kd.bool _ 4 rfl (N := 27) rfl 38 _ _ rfl t131 rfl rfl Tryd.underlying38 (.bool false) 1 info4 rfl (by decide) (by omega) false (ok := fun _ => True) (okp := fun _ => True) rfl (fun _ hk => hk) trivial (of_decide_eq_true (by first | (with_reducible assumption) | assumption)) (Nat.le_trans (Nat.mul_le_mul_right _ (of_decide_eq_true (by first | (with_reducible assumption) | assumption) : t131.toNat ≤ 281474976710656)) (by omega)) (Below.refl _ _) (Nat.le_refl _) ?_; intro v138 w17 ho18 hb hg_ hnew_; clear hg_ hnew_; (first | rw [← Ny137.out] at ho18 | (simp only [Int.reduceToNat] at ho18; rw [← Ny137.out] at ho18)); have n0_ := Aside0.mk (Kd.R_elder' (by (with_reducible repeat (first | apply Kd.R_alloc | apply Kd.R_drewN | apply Kd.R_drew)); exact HO_6.out) (Kd.R_base ho18) hb); have n1_ := Aside0.mk (Kd.R_lower (Kd.R_new' ho18 (Kd.R_lt (by (with_reducible repeat (first | apply Kd.R_alloc | apply Kd.R_drewN | apply Kd.R_drew)); exact HO_6.out))) (below_size (by repeat (first | (with_reducible first | exact HB.out | apply below_alloc | apply pw_below_drewN | apply below_drew1) | exact HB.out)))); have n2_ := Aside0.mk (below_step (by repeat (first | (with_reducible first | exact HB.out | apply below_alloc | apply pw_below_drewN | apply below_drew1) | exact HB.out)) hb); clear HO_6; clear HB; have HO_6 := n0_; have HO139 := n1_; have HB := n2_; clear n0_ n1_ n2_; clear hb ho18))
                go_loopg [9] k1 (fun kq v9 w' => ∃ (x8_2 : List Bool) (x9_2 : Int), v9 = .int .i64 x9_2 ∧ Aside0 (precinctref13_Ready.l1 kq l0 t131 x6_1 x8_2 x9_2 = some r) ∧ Aside0 (kq ≤ k1) ∧ Aside0 (Kd.R Kd.bool 4 w' w.heap.size (fun k_ => some k_ ≠ (v138 : Value).ownBlock) v133 x6_1) ∧ Aside0 (Kd.R Kd.bool 4 w' w.heap.size (fun k_ => some k_ ≠ (v133 : Value).ownBlock) v138 x8_2) ∧ Aside0 (Below w.heap.size w w'))
                case atStart => exact ⟨(y137), (0), (by first | rfl | (simp; done) | (simp [*]; done)), H', ⟨Nat.le_refl _⟩, ⟨by (with_reducible repeat (first | apply Kd.R_alloc | apply Kd.R_drewN | apply Kd.R_drew)); exact Kd.R_mono HO_6.out (fun _ hk => hk.2)⟩, ⟨by (with_reducible repeat (first | apply Kd.R_alloc | apply Kd.R_drewN | apply Kd.R_drew)); exact Kd.R_mono HO139.out (fun _ hk => hk.2)⟩, ⟨by repeat (first | (with_reducible first | exact HB.out | apply below_alloc | apply pw_below_drewN | apply below_drew1) | exact HB.out)⟩⟩
                case round =>
                  clear H'
                  try clear c1
                  try clear p1
                  try clear q1
                  try clear hx1
                  try clear c2
                  try clear p2
                  try clear c4
                  try clear c4b0
                  try clear c4b1
                  try clear c5
                  try clear c5b0
                  try clear c5b1
                  try clear p6
                  try clear c8
                  try clear c8b0
                  try clear c10
                  try clear c10b0
                  try clear c11
                  try clear c11b0
                  try clear p12
                  try clear q12
                  try clear hx12
                  try clear hf12
                  try clear c15
                  try clear c15b0
                  try clear c15b1
                  try clear c16
                  try clear c16b0
                  try clear c16b1
                  try clear hx12_0
                  try clear p12
                  try clear p2
                  try clear q12
                  obtain ⟨x8_2, x9_2, rfl, HA, HK2, HO_6, HO_8, HB⟩ := hrel
                  cases gk with
                  | zero => exact absurd HA.out (by simp [precinctref13_Ready.l1])
                  | succ k2 =>
                    have H := HA.out
                    clear HA
                    simp only [precinctref13_Ready.l1] at H
                    by_cases c19 : x9_2 < t131
                    · rw [if_pos c19] at H
                      have c19b0 : decide (x9_2 < t131) = true := decide_eq_true c19
                      clear c19
                      replace H := Option.bind_eq_some_iff.mp H
                      obtain ⟨t140, A200, H⟩ := H
                      replace H : (if 0 ≤ x9_2 then (if x9_2 < (x6_1.length : Int) then (if rdOf false x6_1 x9_2 = true then (if x9_2 < (x8_2.length : Int) then (precinctref13_Ready.l1 k2 l0 t131 x6_1 (x8_2.set (x9_2 : Int).toNat false) (wrap64 (x9_2 + 1))) else (none)) else (if x9_2 < (x8_2.length : Int) then (precinctref13_Ready.l1 k2 l0 t131 x6_1 (x8_2.set (x9_2 : Int).toNat (!t140)) (wrap64 (x9_2 + 1))) else (none))) else (none)) else (none)) = some r := H
                      have A20 := Aside0.mk A200
                      clear A200
                      by_cases c21 : 0 ≤ x9_2
                      · rw [if_pos c21] at H
                        have c21b0 : decide (0 ≤ x9_2) = true := decide_eq_true c21
                        clear c21
                        by_cases c22 : x9_2 < (x6_1.length : Int)
                        · rw [if_pos c22] at H
                          have c22b0 : decide (x9_2 < (x6_1.length : Int)) = true := decide_eq_true c22
                          clear c22
                          obtain ⟨bq23, hbq23⟩ : ∃ b_ : Bool, b_ = (rdOf false x6_1 x9_2) := ⟨_, rfl⟩
                          replace H : (if bq23 = true then (if x9_2 < (x8_2.length : Int) then (precinctref13_Ready.l1 k2 l0 t131 x6_1 (x8_2.set (x9_2 : Int).toNat false) (wrap64 (x9_2 + 1))) else (none)) else (if x9_2 < (x8_2.length : Int) then (precinctref13_Ready.l1 k2 l0 t131 x6_1 (x8_2.set (x9_2 : Int).toNat (!t140)) (wrap64 (x9_2 + 1))) else (none))) = some r := by rw [← hbq23] at H; exact H
                          have Nbq23 := Aside0.mk hbq23
                          clear hbq23
                          by_cases c24 : bq23 = true
                          · subst c24
                            have H1 : (if x9_2 < (x8_2.length : Int) then (precinctref13_Ready.l1 k2 l0 t131 x6_1 (x8_2.set (x9_2 : Int).toNat false) (wrap64 (x9_2 + 1))) else (none)) = some r := by rw [if_pos rfl] at H; exact H
                            clear H
                            have H := H1
                            clear H1
                            by_cases c25 : x9_2 < (x8_2.length : Int)
                            · rw [if_pos c25] at H
                              have c25b0 : decide (x9_2 < (x8_2.length : Int)) = true := decide_eq_true c25
                              clear c25
                              obtain ⟨y142, hy142⟩ : ∃ y_ : List Bool, y_ = (x8_2.set (x9_2 : Int).toNat false) := ⟨_, rfl⟩
                              replace H : (precinctref13_Ready.l1 k2 l0 t131 x6_1 y142 (wrap64 (x9_2 + 1))) = some r := by first | (rw [hy142]; with_reducible exact H) | (have H2_ := (Option.bind_some _ _).symm.trans H; rw [hy142]; with_reducible exact H2_) | (have H2_ := (Option.bind_some _ _).symm.trans H; with_reducible exact H2_) | with_reducible exact H | (rw [hy142]; exact H) | exact H
                              have Ny142 := Aside0.mk hy142
                              clear hy142
                              have H' := Aside0.mk H
                              clear H
                              obtain ⟨Ao27, co27, eo27⟩ := Kd.R_slice HO_6.out
                              subst eo27
                              go_wp2_with (first | ((with_reducible refine gate_callee (f := 23) rfl ?_); refine goesL_ (some 36) rfl rfl Tryd.func23 (by kernel_rfl) rfl #[.slice A0 l0.length c0, .int .i64 x9_2, .slice Ao27 x6_1.length co27] rfl (by (try simp only [List.map_toArray, List.map_cons, List.map_nil]); first | done | rfl | (simp only [List.length_drop, List.length_take]; rfl)) ?_; (with_reducible refine (precinctref13_waits.calls k2 _ _ l0 x9_2 _ _ x6_1 t140 _ ?side1 ?side2 ?side3 ?side4 A20.out).mono ?_); (case side1 => repeat (first | exact (Kd.C_below HR0.out HB.out) | (with_reducible refine Kd.C_alloc ?_ _) | (with_reducible refine Kd.C_drewN ?_ _) | (with_reducible refine Kd.C_drew ?_))); (case side2 => exact HC0.out); (case side3 => repeat (first | exact (Kd.R_reads' HO_6.out).2.2 | (with_reducible refine Kd.C_alloc ?_ _) | (with_reducible refine Kd.C_drewN ?_ _) | (with_reducible refine Kd.C_drew ?_))); (case side4 => exact (Kd.R_reads' HO_6.out).2.1); rintro e w' ⟨rfl, ⟨nd, rfl⟩⟩; refine ⟨_, rfl, ?_⟩; (try (rw [drewN_self wr]; generalize hq_ : World.drewN wr _ = wr; have n0_ : Aside0 (Kd.R Kd.bool 4 wr w.heap.size (fun k_ => some k_ ≠ (v138 : Value).ownBlock) (.slice Ao27 x6_1.length co27) x6_1) := ⟨by rw [← hq_]; exact (by (with_reducible repeat (first | apply Kd.R_alloc | apply Kd.R_drewN | apply Kd.R_drew)); exact HO_6.out)⟩; have n1_ : Aside0 (Kd.R Kd.bool 4 wr w.heap.size (fun k_ => some k_ ≠ (.slice Ao27 x6_1.length co27 : Value).ownBlock) v138 x8_2) := ⟨by rw [← hq_]; exact (by (with_reducible repeat (first | apply Kd.R_alloc | apply Kd.R_drewN | apply Kd.R_drew)); exact HO_8.out)⟩; have n2_ : Aside0 (Below w.heap.size w wr) := ⟨by rw [← hq_]; exact (by repeat (first | (with_reducible first | exact HB.out | apply below_alloc | apply pw_below_drewN | apply below_drew1) | exact HB.out))⟩; clear HO_6 HO_8 HB hq_; have HO_6 := n0_; have HO_8 := n1_; have HB := n2_; clear n0_ n1_ n2_)); have p141 : 0 ≤ (x9_2 : Int) := of_decide_eq_true (by first | (with_reducible assumption) | assumption); have q141 : x9_2 < (x6_1.length : Int) := of_decide_eq_true (by first | (with_reducible assumption) | assumption); obtain ⟨ad141, e141, hx141_0⟩ := Kd.at_bool (Kd.R_reads' HO_6.out).2.2 x9_2 p141 q141; (try rw [← Nbq23.out] at hx141_0); cases e141; replace p141 := eq_true p141; replace q141 := eq_true q141; have p26 : 0 ≤ (x9_2 : Int) := of_decide_eq_true (by first | (with_reducible assumption) | assumption); have q26 : (x9_2 : Int) < ((x8_2.length : Int) : Int) := of_decide_eq_true (by first | (with_reducible assumption) | assumption); obtain ⟨go26, co26, eo26, gb26, gl26, cl26, HG26⟩ := Kd.R_form HO_8.out (by omega); (first | cases eo26 | (injection eo26 with ea_ en_ ec_; (first | subst ea_ | (injection ea_ with ea_; subst ea_)); subst ec_; clear en_)); have GB26 := Aside0.mk gb26; have GG26 := Aside0.mk HG26; clear gb26 gl26 HG26; obtain ⟨hx26_0, hf26_0⟩ := Kd.R_celln false HO_8.out (x9_2 : Int) p26 q26; replace p26 := eq_true p26; replace q26 := eq_true q26; obtain ⟨hy28_, hz28_⟩ := Kd.R_celln false HO_8.out (x9_2 : Int) (of_decide_eq_true (by first | (with_reducible assumption) | assumption)) (of_decide_eq_true (by first | (with_reducible assumption) | assumption)); have HP28 := Kd.R_putg HO_8.out (x9_2 : Int) false) | ((with_reducible refine gate_store (t := 4) (p := 48) rfl ?_); refine store_event (t := 4) (p := 48) (v := ?vo_w29) (w1 := (wr.setCell ⟨go26, (x9_2 : Int).toNat, none⟩ (.bool false))) ?hg ?ho ?hn ?hr ?_; (case ho => rfl); (case hg => rfl); (case hn => rfl); (case hr => first | (go_simp; done) | (go_simp; rfl)); intro w29 hw; have hg : wr.grownBy w29 (some go26) := (by rw [hw]; exact HP28.2); have hp_ : Kd.R Kd.bool 4 w29 w.heap.size (fun k_ => some k_ ≠ (.slice (some ad141) x6_1.length co27 : Value).ownBlock) (.slice (some ⟨go26, 0, none⟩) x8_2.length co26) y142 := (by rw [hw, Ny142.out]; exact HP28.1); clear HP28; have n0_ := Aside0.mk (Kd.R_after (v := (.slice (some ⟨go26, 0, none⟩) x8_2.length co26)) (v1 := (.slice (some ⟨go26, 0, none⟩) x8_2.length co26)) (ok := (fun _ => True)) (by (with_reducible repeat (first | apply Kd.R_alloc | apply Kd.R_drewN | apply Kd.R_drew)); exact Kd.R_mono HO_6.out (fun _ hk => ⟨trivial, hk⟩)) hg (.inl rfl)); have n1_ := Aside0.mk (hp_); have n2_ := Aside0.mk ((by rw [hw]; exact below_set (HB.out) GB26.out : Below w.heap.size w w29)); clear HO_6; clear HO_8; clear HB; have HO_6 := n0_; have HO_8 := n1_; have HB := n2_; clear n0_ n1_ n2_; clear hg hw hp_))
                              go_roundg k2
                              case measure => have := HK1.out; have := HK2.out; omega
                              case rel => exact ⟨(y142), (wrap64 (x9_2 + 1)), (by first | rfl | (simp; done) | (simp [*]; done)), H', ⟨by have := HK1.out; have := HK2.out; omega⟩, ⟨by (with_reducible repeat (first | apply Kd.R_alloc | apply Kd.R_drewN | apply Kd.R_drew)); exact Kd.R_mono HO_6.out (fun _ hk => hk.2)⟩, ⟨by (with_reducible repeat (first | apply Kd.R_alloc | apply Kd.R_drewN | apply Kd.R_drew)); exact HO_8.out⟩, ⟨by repeat (first | (with_reducible first | exact HB.out | apply below_alloc | apply pw_below_drewN | apply below_drew1) | exact HB.out)⟩⟩
                            · rw [if_neg c25] at H
                              exact absurd H (by simp)
                          · replace c24 := Bool.eq_false_iff.mpr c24
                            subst c24
                            have H1 : (if x9_2 < (x8_2.length : Int) then (precinctref13_Ready.l1 k2 l0 t131 x6_1 (x8_2.set (x9_2 : Int).toNat (!t140)) (wrap64 (x9_2 + 1))) else (none)) = some r := by rw [if_neg (show ¬ (false = true) by decide)] at H; exact H
                            clear H
                            have H := H1
                            clear H1
                            by_cases c30 : x9_2 < (x8_2.length : Int)
                            · rw [if_pos c30] at H
                              have c30b0 : decide (x9_2 < (x8_2.length : Int)) = true := decide_eq_true c30
                              clear c30
                              obtain ⟨y143, hy143⟩ : ∃ y_ : List Bool, y_ = (x8_2.set (x9_2 : Int).toNat (!t140)) := ⟨_, rfl⟩
                              replace H : (precinctref13_Ready.l1 k2 l0 t131 x6_1 y143 (wrap64 (x9_2 + 1))) = some r := by first | (rw [hy143]; with_reducible exact H) | (have H2_ := (Option.bind_some _ _).symm.trans H; rw [hy143]; with_reducible exact H2_) | (have H2_ := (Option.bind_some _ _).symm.trans H; with_reducible exact H2_) | with_reducible exact H | (rw [hy143]; exact H) | exact H
                              have Ny143 := Aside0.mk hy143
                              clear hy143
                              have H' := Aside0.mk H
                              clear H
                              obtain ⟨Ao32, co32, eo32⟩ := Kd.R_slice HO_6.out
                              subst eo32
                              go_wp2_with (first | ((with_reducible refine gate_callee (f := 23) rfl ?_); refine goesL_ (some 36) rfl rfl Tryd.func23 (by kernel_rfl) rfl #[.slice A0 l0.length c0, .int .i64 x9_2, .slice Ao32 x6_1.length co32] rfl (by (try simp only [List.map_toArray, List.map_cons, List.map_nil]); first | done | rfl | (simp only [List.length_drop, List.length_take]; rfl)) ?_; (with_reducible refine (precinctref13_waits.calls k2 _ _ l0 x9_2 _ _ x6_1 t140 _ ?side1 ?side2 ?side3 ?side4 A20.out).mono ?_); (case side1 => repeat (first | exact (Kd.C_below HR0.out HB.out) | (with_reducible refine Kd.C_alloc ?_ _) | (with_reducible refine Kd.C_drewN ?_ _) | (with_reducible refine Kd.C_drew ?_))); (case side2 => exact HC0.out); (case side3 => repeat (first | exact (Kd.R_reads' HO_6.out).2.2 | (with_reducible refine Kd.C_alloc ?_ _) | (with_reducible refine Kd.C_drewN ?_ _) | (with_reducible refine Kd.C_drew ?_))); (case side4 => exact (Kd.R_reads' HO_6.out).2.1); rintro e w' ⟨rfl, ⟨nd, rfl⟩⟩; refine ⟨_, rfl, ?_⟩; (try (rw [drewN_self wr]; generalize hq_ : World.drewN wr _ = wr; have n0_ : Aside0 (Kd.R Kd.bool 4 wr w.heap.size (fun k_ => some k_ ≠ (v138 : Value).ownBlock) (.slice Ao32 x6_1.length co32) x6_1) := ⟨by rw [← hq_]; exact (by (with_reducible repeat (first | apply Kd.R_alloc | apply Kd.R_drewN | apply Kd.R_drew)); exact HO_6.out)⟩; have n1_ : Aside0 (Kd.R Kd.bool 4 wr w.heap.size (fun k_ => some k_ ≠ (.slice Ao32 x6_1.length co32 : Value).ownBlock) v138 x8_2) := ⟨by rw [← hq_]; exact (by (with_reducible repeat (first | apply Kd.R_alloc | apply Kd.R_drewN | apply Kd.R_drew)); exact HO_8.out)⟩; have n2_ : Aside0 (Below w.heap.size w wr) := ⟨by rw [← hq_]; exact (by repeat (first | (with_reducible first | exact HB.out | apply below_alloc | apply pw_below_drewN | apply below_drew1) | exact HB.out))⟩; clear HO_6 HO_8 HB hq_; have HO_6 := n0_; have HO_8 := n1_; have HB := n2_; clear n0_ n1_ n2_)); have p141 : 0 ≤ (x9_2 : Int) := of_decide_eq_true (by first | (with_reducible assumption) | assumption); have q141 : x9_2 < (x6_1.length : Int) := of_decide_eq_true (by first | (with_reducible assumption) | assumption); obtain ⟨ad141, e141, hx141_0⟩ := Kd.at_bool (Kd.R_reads' HO_6.out).2.2 x9_2 p141 q141; (try rw [← Nbq23.out] at hx141_0); cases e141; replace p141 := eq_true p141; replace q141 := eq_true q141; have p31 : 0 ≤ (x9_2 : Int) := of_decide_eq_true (by first | (with_reducible assumption) | assumption); have q31 : (x9_2 : Int) < ((x8_2.length : Int) : Int) := of_decide_eq_true (by first | (with_reducible assumption) | assumption); obtain ⟨go31, co31, eo31, gb31, gl31, cl31, HG31⟩ := Kd.R_form HO_8.out (by omega); (first | cases eo31 | (injection eo31 with ea_ en_ ec_; (first | subst ea_ | (injection ea_ with ea_; subst ea_)); subst ec_; clear en_)); have GB31 := Aside0.mk gb31; have GG31 := Aside0.mk HG31; clear gb31 gl31 HG31; obtain ⟨hx31_0, hf31_0⟩ := Kd.R_celln false HO_8.out (x9_2 : Int) p31 q31; replace p31 := eq_true p31; replace q31 := eq_true q31; obtain ⟨hy33_, hz33_⟩ := Kd.R_celln false HO_8.out (x9_2 : Int) (of_decide_eq_true (by first | (with_reducible assumption) | assumption)) (of_decide_eq_true (by first | (with_reducible assumption) | assumption)); have HP33 := Kd.R_putg HO_8.out (x9_2 : Int) (!t140)) | ((with_reducible refine gate_store (t := 4) (p := 48) rfl ?_); refine store_event (t := 4) (p := 48) (v := ?vo_w34) (w1 := (wr.setCell ⟨go31, (x9_2 : Int).toNat, none⟩ (.bool (!t140)))) ?hg ?ho ?hn ?hr ?_; (case ho => rfl); (case hg => rfl); (case hn => rfl); (case hr => first | (go_simp; done) | (go_simp; rfl)); intro w34 hw; have hg : wr.grownBy w34 (some go31) := (by rw [hw]; exact HP33.2); have hp_ : Kd.R Kd.bool 4 w34 w.heap.size (fun k_ => some k_ ≠ (.slice (some ad141) x6_1.length co32 : Value).ownBlock) (.slice (some ⟨go31, 0, none⟩) x8_2.length co31) y143 := (by rw [hw, Ny143.out]; exact HP33.1); clear HP33; have n0_ := Aside0.mk (Kd.R_after (v := (.slice (some ⟨go31, 0, none⟩) x8_2.length co31)) (v1 := (.slice (some ⟨go31, 0, none⟩) x8_2.length co31)) (ok := (fun _ => True)) (by (with_reducible repeat (first | apply Kd.R_alloc | apply Kd.R_drewN | apply Kd.R_drew)); exact Kd.R_mono HO_6.out (fun _ hk => ⟨trivial, hk⟩)) hg (.inl rfl)); have n1_ := Aside0.mk (hp_); have n2_ := Aside0.mk ((by rw [hw]; exact below_set (HB.out) GB31.out : Below w.heap.size w w34)); clear HO_6; clear HO_8; clear HB; have HO_6 := n0_; have HO_8 := n1_; have HB := n2_; clear n0_ n1_ n2_; clear hg hw hp_))
                              go_roundg k2
                              case measure => have := HK1.out; have := HK2.out; omega
                              case rel => exact ⟨(y143), (wrap64 (x9_2 + 1)), (by first | rfl | (simp; done) | (simp [*]; done)), H', ⟨by have := HK1.out; have := HK2.out; omega⟩, ⟨by (with_reducible repeat (first | apply Kd.R_alloc | apply Kd.R_drewN | apply Kd.R_drew)); exact Kd.R_mono HO_6.out (fun _ hk => hk.2)⟩, ⟨by (with_reducible repeat (first | apply Kd.R_alloc | apply Kd.R_drewN | apply Kd.R_drew)); exact HO_8.out⟩, ⟨by repeat (first | (with_reducible first | exact HB.out | apply below_alloc | apply pw_below_drewN | apply below_drew1) | exact HB.out)⟩⟩
                            · rw [if_neg c30] at H
                              exact absurd H (by simp)
                        · rw [if_neg c22] at H
                          exact absurd H (by simp)
                      · rw [if_neg c21] at H
                        exact absurd H (by simp)
                    · rw [if_neg c19] at H
                      have c19b0 : decide (x9_2 < t131) = false := decide_eq_false c19
                      clear c19
                      replace H := Option.bind_eq_some_iff.mp H
                      obtain ⟨t144, A350, H⟩ := H
                      replace H : (some t144) = some r := H
                      have A35 := Aside0.mk A350
                      clear A350
                      obtain rfl := Option.some.inj H
                      obtain ⟨Ao36, co36, eo36⟩ := Kd.R_slice HO_8.out
                      subst eo36
                      go_wp2_with (first | ((with_reducible refine gate_callee (f := 27) rfl ?_); refine goesL_ (some 50) rfl rfl Tryd.func27 (by kernel_rfl) rfl #[.slice Ao36 x8_2.length co36] rfl (by (try simp only [List.map_toArray, List.map_cons, List.map_nil]); first | done | rfl | (simp only [List.length_drop, List.length_take]; rfl)) ?_; (with_reducible refine (precinctref13_Number.calls k2 _ _ x8_2 t144 _ ?side1 ?side2 A35.out).mono ?_); (case side1 => repeat (first | exact (Kd.R_reads' HO_8.out).2.2 | (with_reducible refine Kd.C_alloc ?_ _) | (with_reducible refine Kd.C_drewN ?_ _) | (with_reducible refine Kd.C_drew ?_))); (case side2 => exact (Kd.R_reads' HO_8.out).2.1); rintro e w' ⟨rfl, ⟨nd, rfl⟩⟩; refine ⟨_, rfl, ?_⟩))
                      go_ret
                      exact ⟨by first | rfl | (simp [errW_none, errW_some] <;> rfl) | (simp [*, errW_none, errW_some] <;> rfl), by repeat (first | (with_reducible first | exact HB.out | apply below_alloc | apply pw_below_drewN | apply below_drew1) | exact HB.out)⟩
              · rw [if_neg c16] at H
                exact absurd H (by simp)
            · rw [if_neg c15] at H
              exact absurd H (by simp)
    · rw [if_neg c5] at H
      exact absurd H (by simp)
  · rw [if_neg c4] at H
    exact absurd H (by simp)

/-! ### precinctref13_List: function 18 -/
def precinctref13_List.l0 : Nat → Int → List Int → Int → Option (List Int)
  | 0, _, _, _ => none
  | k + 1, x0, x3, x4 => if x4 < 32 then ((precinctref13_Bit.f k x0 x4).bind fun t145 => (if t145 = true then (if x3.length < 17592186044416 then (precinctref13_List.l0 k x0 (x3 ++ [x4]) (wrap64 (x4 + 1))) else (none)) else (precinctref13_List.l0 k x0 x3 (wrap64 (x4 + 1))))) else (some x3)
def precinctref13_List.f (k : Nat) (a0 : Int) : Option (List Int) := precinctref13_List.l0 k a0 ([] : List Int) 0
theorem precinctref13_List.mono_l : ∀ k, (∀ y0 y1 y2, LeO (precinctref13_List.l0 k y0 y1 y2) (precinctref13_List.l0 (k + 1) y0 y1 y2))
  | 0 => fun _ _ _ r h => by simp [precinctref13_List.l0] at h
  | k + 1 => by
    have ih0 := precinctref13_List.mono_l k
    · intro y0 y1 y2
      unfold precinctref13_List.l0
      repeat' first
      | (with_reducible exact ih0 _ _ _)
      | (with_reducible exact precinctref13_Bit.mono _ _ _)
      | (with_reducible exact LeO.refl _)
      | (with_reducible exact LeO.none _)
      | (with_reducible refine LeO.ite ?_ ?_)
      | (with_reducible refine LeO.bind ?_ (fun _ => ?_))
      | exact ih0 _ _ _
      | exact precinctref13_Bit.mono _ _ _
      | exact LeO.none _
      | refine LeO.ite ?_ ?_
      | refine LeO.bind ?_ (fun _ => ?_)
theorem precinctref13_List.mono : ∀ a0 k, LeO (precinctref13_List.f k a0) (precinctref13_List.f (k + 1) a0) := by
  intro a0 k
  have ih0 := precinctref13_List.mono_l k
  unfold precinctref13_List.f
  repeat' first
      | (with_reducible exact ih0 _ _ _)
      | (with_reducible exact precinctref13_Bit.mono _ _ _)
      | (with_reducible exact LeO.refl _)
      | (with_reducible exact LeO.none _)
      | (with_reducible refine LeO.ite ?_ ?_)
      | (with_reducible refine LeO.bind ?_ (fun _ => ?_))
      | exact ih0 _ _ _
      | exact precinctref13_Bit.mono _ _ _
      | exact LeO.none _
      | refine LeO.ite ?_ ?_
      | refine LeO.bind ?_ (fun _ => ?_)
set_option maxHeartbeats 8000000 in
set_option maxRecDepth 100000 in
theorem precinctref13_List.calls (k : Nat) (a0 : Int) (r : List Int) (w : World) (h : precinctref13_List.f k a0 = some r) :
    Calls Tryd.prog 18 #[.int .u32 a0] w fun e w' => ∃ v0_ : Value, e = .returned (v0_) ∧ Kd.R (Kd.int .i64) 3 w' w.heap.size (fun _ => True) v0_ r ∧ Below w.heap.size w w' := by
  have HB := Aside0.mk (Below.refl w.heap.size w)
  have H : (precinctref13_List.l0 k a0 ([] : List Int) 0) = some r := h
  clear h
  have H' := Aside0.mk H
  clear H
  go_enter Tryd.func18, Tryd.ntmps18
  go_wp2
  go_loopg [3, 4] k (fun kq v3 v4 w' => ∃ (x3_1 : List Int) (x4_1 : Int), v4 = .int .i64 x4_1 ∧ Aside0 (precinctref13_List.l0 kq a0 x3_1 x4_1 = some r) ∧ Aside0 (kq ≤ k) ∧ Aside0 (Kd.R (Kd.int .i64) 3 w' w.heap.size (fun _ => True) v3 x3_1) ∧ Aside0 (Below w.heap.size w w'))
  case atStart => exact ⟨(([] : List Int)), (0), (by first | rfl | (simp; done) | (simp [*]; done)), H', ⟨Nat.le_refl _⟩, ⟨by first | exact Kd.R_nil _ _ _ _ _ | exact Kd.N_nil _ _ _ _ _ | exact Kd.V_nil _ _ _ _ _ | exact Kd.Q_nil _ _ _ _ _ | exact Kd.S_nil _ _ _ _ _⟩, ⟨by repeat (first | (with_reducible first | exact HB.out | apply below_alloc | apply pw_below_drewN | apply below_drew1) | exact HB.out)⟩⟩
  case round =>
    clear H'
    try clear c1
    obtain ⟨x3_1, x4_1, rfl, HA, HK1, HO_3, HB⟩ := hrel
    cases gk with
    | zero => exact absurd HA.out (by simp [precinctref13_List.l0])
    | succ k1 =>
      have H := HA.out
      clear HA
      simp only [precinctref13_List.l0] at H
      by_cases c2 : x4_1 < 32
      · rw [if_pos c2] at H
        have c2b0 : decide (x4_1 < 32) = true := decide_eq_true c2
        clear c2
        replace H := Option.bind_eq_some_iff.mp H
        obtain ⟨t145, A30, H⟩ := H
        replace H : (if t145 = true then (if x3_1.length < 17592186044416 then (precinctref13_List.l0 k1 a0 (x3_1 ++ [x4_1]) (wrap64 (x4_1 + 1))) else (none)) else (precinctref13_List.l0 k1 a0 x3_1 (wrap64 (x4_1 + 1)))) = some r := H
        have A3 := Aside0.mk A30
        clear A30
        by_cases c4 : t145 = true
        · subst c4
          have H1 : (if x3_1.length < 17592186044416 then (precinctref13_List.l0 k1 a0 (x3_1 ++ [x4_1]) (wrap64 (x4_1 + 1))) else (none)) = some r := by rw [if_pos rfl] at H; exact H
          clear H
          have H := H1
          clear H1
          by_cases c5 : x3_1.length < 17592186044416
          · rw [if_pos c5] at H
            have LMc5 := Aside0.mk c5
            clear c5
            obtain ⟨y146, hy146⟩ : ∃ y_ : List Int, y_ = (x3_1 ++ [x4_1]) := ⟨_, rfl⟩
            replace H : (precinctref13_List.l0 k1 a0 y146 (wrap64 (x4_1 + 1))) = some r := by first | (rw [hy146]; with_reducible exact H) | (have H2_ := (Option.bind_some _ _).symm.trans H; rw [hy146]; with_reducible exact H2_) | (have H2_ := (Option.bind_some _ _).symm.trans H; with_reducible exact H2_) | with_reducible exact H | (rw [hy146]; exact H) | exact H
            have Ny146 := Aside0.mk hy146
            clear hy146
            have H' := Aside0.mk H
            clear H
            go_wp2_with (first | ((with_reducible refine gate_callee (f := 26) rfl ?_); refine goesL_ (some 12) rfl rfl Tryd.func26 (by kernel_rfl) rfl #[.int .u32 a0, .int .i64 x4_1] rfl (by (try simp only [List.map_toArray, List.map_cons, List.map_nil]); first | done | rfl | (simp only [List.length_drop, List.length_take]; rfl)) ?_; (with_reducible refine (precinctref13_Bit.calls k1 a0 x4_1 true _ A3.out).mono ?_); rintro e w' ⟨rfl, ⟨nd, rfl⟩⟩; refine ⟨_, rfl, ?_⟩) | ((with_reducible refine gate_builtin (b := .append) (xs := #[.tmp 14, .tmp 16]) rfl ?_); at_builtin; refine Kd.R_append (Kd.int .i64) (w0 := w) w.heap.size rfl (.tmp 14) (.tmp 16) 25 3 (.int .i64 0) 8 rfl Tryd.underlying25 info3 rfl (by decide) (by omega) u3 x3_1 x4_1 [.int .i64 x4_1] (fun _ => True) (fun _ => False) rfl rfl ?aP (fun _ hk => hk.elim) ?aF ?aO ?aB ?aS ?aL ?_; (case aP => exact rfl); (case aB => exact (by repeat (first | (with_reducible first | exact HB.out | apply below_alloc | apply pw_below_drewN | apply below_drew1) | exact HB.out))); (case aF => exact (fun _ _ => trivial)); (case aO => exact (by (with_reducible repeat (first | apply Kd.R_alloc | apply Kd.R_drewN | apply Kd.R_drew)); exact HO_3.out)); (case aS => exact (below_size (by repeat (first | (with_reducible first | exact HB.out | apply below_alloc | apply pw_below_drewN | apply below_drew1) | exact HB.out)))); (case aL => have := LMc5.out; omega); intro v147 w6 ho hb hg hat; rw [← Ny146.out] at ho; have n0_ := Aside0.mk (hb); have n1_ := Aside0.mk (ho); clear HB; clear HO_3; have HB := n0_; have HO148 := n1_; clear n0_ n1_; clear ho hb hg hat))
            go_roundg k1
            case measure => have := HK1.out; omega
            case rel => exact ⟨(y146), (wrap64 (x4_1 + 1)), (by first | rfl | (simp; done) | (simp [*]; done)), H', ⟨by have := HK1.out; omega⟩, ⟨by (with_reducible repeat (first | apply Kd.R_alloc | apply Kd.R_drewN | apply Kd.R_drew)); exact HO148.out⟩, ⟨by repeat (first | (with_reducible first | exact HB.out | apply below_alloc | apply pw_below_drewN | apply below_drew1) | exact HB.out)⟩⟩
          · rw [if_neg c5] at H
            exact absurd H (by simp)
        · replace c4 := Bool.eq_false_iff.mpr c4
          subst c4
          have H1 : (precinctref13_List.l0 k1 a0 x3_1 (wrap64 (x4_1 + 1))) = some r := by rw [if_neg (show ¬ (false = true) by decide)] at H; exact H
          clear H
          have H := H1
          clear H1
          have H' := Aside0.mk H
          clear H
          go_wp2_with (first | ((with_reducible refine gate_callee (f := 26) rfl ?_); refine goesL_ (some 12) rfl rfl Tryd.func26 (by kernel_rfl) rfl #[.int .u32 a0, .int .i64 x4_1] rfl (by (try simp only [List.map_toArray, List.map_cons, List.map_nil]); first | done | rfl | (simp only [List.length_drop, List.length_take]; rfl)) ?_; (with_reducible refine (precinctref13_Bit.calls k1 a0 x4_1 false _ A3.out).mono ?_); rintro e w' ⟨rfl, ⟨nd, rfl⟩⟩; refine ⟨_, rfl, ?_⟩))
          go_roundg k1
          case measure => have := HK1.out; omega
          case rel => exact ⟨(x3_1), (wrap64 (x4_1 + 1)), (by first | rfl | (simp; done) | (simp [*]; done)), H', ⟨by have := HK1.out; omega⟩, ⟨by (with_reducible repeat (first | apply Kd.R_alloc | apply Kd.R_drewN | apply Kd.R_drew)); exact HO_3.out⟩, ⟨by repeat (first | (with_reducible first | exact HB.out | apply below_alloc | apply pw_below_drewN | apply below_drew1) | exact HB.out)⟩⟩
      · rw [if_neg c2] at H
        have c2b0 : decide (x4_1 < 32) = false := decide_eq_false c2
        clear c2
        obtain rfl := Option.some.inj H
        go_wp2
        go_ret
        exact ⟨_, by first | rfl | (simp [errW_none, errW_some] <;> rfl) | (simp [*, errW_none, errW_some] <;> rfl), by (with_reducible repeat (first | apply Kd.R_alloc | apply Kd.R_drewN | apply Kd.R_drew)); exact HO_3.out, by repeat (first | (with_reducible first | exact HB.out | apply below_alloc | apply pw_below_drewN | apply below_drew1) | exact HB.out)⟩


/-! ### precinctref13_Behind: function 20 -/
mutual
def precinctref13_Behind.j0 : Nat → List Int → Int → Int → Bool → Option (Int)
  | 0, _, _, _, _ => none
  | k + 1, x0, x1, x5, x19 => if x19 = true then (some 0) else (if 0 ≤ x5 then (if (x5 : Int).toNat ≤ 281474976710656 then (precinctref13_Behind.l0 k x0 x1 x5 (List.replicate (x5 : Int).toNat false) 0) else (none)) else (none))
def precinctref13_Behind.l0 : Nat → List Int → Int → Int → List Bool → Int → Option (Int)
  | 0, _, _, _, _, _ => none
  | k + 1, x0, x1, x5, x6, x7 => if x7 < x5 then (precinctref13_Behind.l1 k x0 x1 x5 x6 x7 0) else ((precinctref13_Number.f k x6).bind fun t132 => (some t132))
def precinctref13_Behind.l1 : Nat → List Int → Int → Int → List Bool → Int → Int → Option (Int)
  | 0, _, _, _, _, _, _ => none
  | k + 1, x0, x1, x5, x6, x7, x8 => if x8 < x5 then (precinctref13_Behind.l2 k x0 x1 x5 x6 x7 x8 0) else (precinctref13_Behind.l0 k x0 x1 x5 x6 (wrap64 (x7 + 1)))
def precinctref13_Behind.l2 : Nat → List Int → Int → Int → List Bool → Int → Int → Int → Option (Int)
  | 0, _, _, _, _, _, _, _ => none
  | k + 1, x0, x1, x5, x6, x7, x8, x9 => if x9 < x5 then (if 0 ≤ x8 then (if x8 < (x0.length : Int) then ((precinctref13_Bit.f k (rd x0 x8) x9).bind fun t134 => (if t134 = true then (if x9 = x1 then (if x8 < (x6.length : Int) then (precinctref13_Behind.l2 k x0 x1 x5 (x6.set (x8 : Int).toNat true) x7 x8 (wrap64 (x9 + 1))) else (none)) else (if 0 ≤ x9 then (if x9 < (x6.length : Int) then (if rdOf false x6 x9 = true then (if x8 < (x6.length : Int) then (precinctref13_Behind.l2 k x0 x1 x5 (x6.set (x8 : Int).toNat true) x7 x8 (wrap64 (x9 + 1))) else (none)) else (precinctref13_Behind.l2 k x0 x1 x5 x6 x7 x8 (wrap64 (x9 + 1)))) else (none)) else (none))) else (precinctref13_Behind.l2 k x0 x1 x5 x6 x7 x8 (wrap64 (x9 + 1))))) else (none)) else (none)) else (precinctref13_Behind.l1 k x0 x1 x5 x6 x7 (wrap64 (x8 + 1)))
end
def precinctref13_Behind.f (k : Nat) (l0 : List Int) (a1 : Int) : Option (Int) := (precinctref13_count.f l0).bind fun t128 => (if a1 < 0 then (precinctref13_Behind.j0 k l0 a1 t128 true) else (precinctref13_Behind.j0 k l0 a1 t128 (decide (a1 ≥ t128))))
theorem precinctref13_Behind.mono_l : ∀ k, (∀ y0 y1 y2 y3, LeO (precinctref13_Behind.j0 k y0 y1 y2 y3) (precinctref13_Behind.j0 (k + 1) y0 y1 y2 y3)) ∧ (∀ y0 y1 y2 y3 y4, LeO (precinctref13_Behind.l0 k y0 y1 y2 y3 y4) (precinctref13_Behind.l0 (k + 1) y0 y1 y2 y3 y4)) ∧ (∀ y0 y1 y2 y3 y4 y5, LeO (precinctref13_Behind.l1 k y0 y1 y2 y3 y4 y5) (precinctref13_Behind.l1 (k + 1) y0 y1 y2 y3 y4 y5)) ∧ (∀ y0 y1 y2 y3 y4 y5 y6, LeO (precinctref13_Behind.l2 k y0 y1 y2 y3 y4 y5 y6) (precinctref13_Behind.l2 (k + 1) y0 y1 y2 y3 y4 y5 y6))
  | 0 => ⟨fun _ _ _ _ r h => by simp [precinctref13_Behind.j0] at h, fun _ _ _ _ _ r h => by simp [precinctref13_Behind.l0] at h, fun _ _ _ _ _ _ r h => by simp [precinctref13_Behind.l1] at h, fun _ _ _ _ _ _ _ r h => by simp [precinctref13_Behind.l2] at h⟩
  | k + 1 => by
    obtain ⟨ih0, ih1, ih2, ih3⟩ := precinctref13_Behind.mono_l k
    refine ⟨?_, ?_, ?_, ?_⟩
    · intro y0 y1 y2 y3
      unfold precinctref13_Behind.j0
      repeat' first
      | (with_reducible exact ih0 _ _ _ _)
      | (with_reducible exact ih1 _ _ _ _ _)
      | (with_reducible exact ih2 _ _ _ _ _ _)
      | (with_reducible exact ih3 _ _ _ _ _ _ _)
      | (with_reducible exact precinctref13_Bit.mono _ _ _)
      | (with_reducible exact precinctref13_Number.mono _ _)
      | (with_reducible exact LeO.refl _)
      | (with_reducible exact LeO.none _)
      | (with_reducible refine LeO.ite ?_ ?_)
      | (with_reducible refine LeO.bind ?_ (fun _ => ?_))
      | exact ih0 _ _ _ _
      | exact ih1 _ _ _ _ _
      | exact ih2 _ _ _ _ _ _
      | exact ih3 _ _ _ _ _ _ _
      | exact precinctref13_Bit.mono _ _ _
      | exact precinctref13_Number.mono _ _
      | exact LeO.none _
      | refine LeO.ite ?_ ?_
      | refine LeO.bind ?_ (fun _ => ?_)
    · intro y0 y1 y2 y3 y4
      unfold precinctref13_Behind.l0
      repeat' first
      | (with_reducible exact ih0 _ _ _ _)
      | (with_reducible exact ih1 _ _ _ _ _)
      | (with_reducible exact ih2 _ _ _ _ _ _)
      | (with_reducible exact ih3 _ _ _ _ _ _ _)
      | (with_reducible exact precinctref13_Bit.mono _ _ _)
      | (with_reducible exact precinctref13_Number.mono _ _)
      | (with_reducible exact LeO.refl _)
      | (with_reducible exact LeO.none _)
      | (with_reducible refine LeO.ite ?_ ?_)
      | (with_reducible refine LeO.bind ?_ (fun _ => ?_))
      | exact ih0 _ _ _ _
      | exact ih1 _ _ _ _ _
      | exact ih2 _ _ _ _ _ _
      | exact ih3 _ _ _ _ _ _ _
      | exact precinctref13_Bit.mono _ _ _
      | exact precinctref13_Number.mono _ _
      | exact LeO.none _
      | refine LeO.ite ?_ ?_
      | refine LeO.bind ?_ (fun _ => ?_)
    · intro y0 y1 y2 y3 y4 y5
      unfold precinctref13_Behind.l1
      repeat' first
      | (with_reducible exact ih0 _ _ _ _)
      | (with_reducible exact ih1 _ _ _ _ _)
      | (with_reducible exact ih2 _ _ _ _ _ _)
      | (with_reducible exact ih3 _ _ _ _ _ _ _)
      | (with_reducible exact precinctref13_Bit.mono _ _ _)
      | (with_reducible exact precinctref13_Number.mono _ _)
      | (with_reducible exact LeO.refl _)
      | (with_reducible exact LeO.none _)
      | (with_reducible refine LeO.ite ?_ ?_)
      | (with_reducible refine LeO.bind ?_ (fun _ => ?_))
      | exact ih0 _ _ _ _
      | exact ih1 _ _ _ _ _
      | exact ih2 _ _ _ _ _ _
      | exact ih3 _ _ _ _ _ _ _
      | exact precinctref13_Bit.mono _ _ _
      | exact precinctref13_Number.mono _ _
      | exact LeO.none _
      | refine LeO.ite ?_ ?_
      | refine LeO.bind ?_ (fun _ => ?_)
    · intro y0 y1 y2 y3 y4 y5 y6
      unfold precinctref13_Behind.l2
      repeat' first
      | (with_reducible exact ih0 _ _ _ _)
      | (with_reducible exact ih1 _ _ _ _ _)
      | (with_reducible exact ih2 _ _ _ _ _ _)
      | (with_reducible exact ih3 _ _ _ _ _ _ _)
      | (with_reducible exact precinctref13_Bit.mono _ _ _)
      | (with_reducible exact precinctref13_Number.mono _ _)
      | (with_reducible exact LeO.refl _)
      | (with_reducible exact LeO.none _)
      | (with_reducible refine LeO.ite ?_ ?_)
      | (with_reducible refine LeO.bind ?_ (fun _ => ?_))
      | exact ih0 _ _ _ _
      | exact ih1 _ _ _ _ _
      | exact ih2 _ _ _ _ _ _
      | exact ih3 _ _ _ _ _ _ _
      | exact precinctref13_Bit.mono _ _ _
      | exact precinctref13_Number.mono _ _
      | exact LeO.none _
      | refine LeO.ite ?_ ?_
      | refine LeO.bind ?_ (fun _ => ?_)
theorem precinctref13_Behind.mono : ∀ a0 a1 k, LeO (precinctref13_Behind.f k a0 a1) (precinctref13_Behind.f (k + 1) a0 a1) := by
  intro a0 a1 k
  obtain ⟨ih0, ih1, ih2, ih3⟩ := precinctref13_Behind.mono_l k
  unfold precinctref13_Behind.f
  repeat' first
      | (with_reducible exact ih0 _ _ _ _)
      | (with_reducible exact ih1 _ _ _ _ _)
      | (with_reducible exact ih2 _ _ _ _ _ _)
      | (with_reducible exact ih3 _ _ _ _ _ _ _)
      | (with_reducible exact precinctref13_Bit.mono _ _ _)
      | (with_reducible exact precinctref13_Number.mono _ _)
      | (with_reducible exact LeO.refl _)
      | (with_reducible exact LeO.none _)
      | (with_reducible refine LeO.ite ?_ ?_)
      | (with_reducible refine LeO.bind ?_ (fun _ => ?_))
      | exact ih0 _ _ _ _
      | exact ih1 _ _ _ _ _
      | exact ih2 _ _ _ _ _ _
      | exact ih3 _ _ _ _ _ _ _
      | exact precinctref13_Bit.mono _ _ _
      | exact precinctref13_Number.mono _ _
      | exact LeO.none _
      | refine LeO.ite ?_ ?_
      | refine LeO.bind ?_ (fun _ => ?_)
set_option maxHeartbeats 8000000 in
set_option maxRecDepth 100000 in
theorem precinctref13_Behind.calls (k : Nat) (A0 : Option Addr) (c0 : Nat) (l0 : List Int) (a1 : Int) (r : Int) (w : World) (hr0 : Kd.C (Kd.int .u32) w A0 l0.length l0) (hc0 : l0.length ≤ c0) (h : precinctref13_Behind.f k l0 a1 = some r) :
    Calls Tryd.prog 20 #[.slice A0 l0.length c0, .int .i64 a1] w fun e w' => e = .returned (.int .u32 r) ∧ Below w.heap.size w w' := by
  have HR0 := Aside0.mk hr0
  have HC0 := Aside0.mk hc0
  clear hr0 hc0
  have HB := Aside0.mk (Below.refl w.heap.size w)
  have H : ((precinctref13_count.f l0).bind fun t128 => (if a1 < 0 then (precinctref13_Behind.j0 k l0 a1 t128 true) else (precinctref13_Behind.j0 k l0 a1 t128 (decide (a1 ≥ t128))))) = some r := h
  clear h
  replace H := Option.bind_eq_some_iff.mp H
  obtain ⟨t128, A30, H⟩ := H
  replace H : (if a1 < 0 then (precinctref13_Behind.j0 k l0 a1 t128 true) else (precinctref13_Behind.j0 k l0 a1 t128 (decide (a1 ≥ t128)))) = some r := H
  have A3 := Aside0.mk A30
  clear A30
  have HC4 := Aside0.mk H
  clear H
  go_enter Tryd.func20, Tryd.ntmps20
  go_upto_region 2 with (first | ((with_reducible refine gate_callee (f := 22) rfl ?_); refine goesL_ (some 12) rfl rfl Tryd.func22 (by kernel_rfl) rfl #[.slice A0 l0.length c0] rfl (by (try simp only [List.map_toArray, List.map_cons, List.map_nil]); first | done | rfl | (simp only [List.length_drop, List.length_take]; rfl)) ?_; (with_reducible refine (precinctref13_count.calls _ _ l0 t128 _ ?side1 ?side2 A3.out).mono ?_); (case side1 => repeat (first | exact HR0.out | (with_reducible refine Kd.C_alloc ?_ _) | (with_reducible refine Kd.C_drewN ?_ _) | (with_reducible refine Kd.C_drew ?_))); (case side2 => exact HC0.out); rintro e w' ⟨rfl, ⟨nd, rfl⟩⟩; refine ⟨_, rfl, ?_⟩))
  (try simp only [Act.put, List.setIfInBounds_toArray, List.set_cons_zero, List.set_cons_succ])
  go_cut [19] (fun v19 wc => ∃ (kq : Nat) (x19_3 : Bool), v19 = .bool x19_3 ∧ Aside0 (precinctref13_Behind.j0 kq l0 a1 t128 x19_3 = some r) ∧ Aside0 (kq ≤ k) ∧ Aside0 (Below w.heap.size w wc))
  case first =>
    have H := HC4.out
    clear HC4
    by_cases c5 : a1 < 0
    · rw [if_pos c5] at H
      have c5b0 : decide (a1 < 0) = true := decide_eq_true c5
      clear c5
      (first | rw [c5b0] | (simp only [i64_w, i32_w]; rw [c5b0]) | skip)
      have H' := Aside0.mk H
      clear H
      go_wp2
      go_meet
      case rel => exact ⟨_, (true), (by first | rfl | (simp; done) | (simp [*]; done)), H', ⟨by first | omega | exact Nat.le_refl _⟩, ⟨by repeat (first | (with_reducible first | exact HB.out | apply below_alloc | apply pw_below_drewN | apply below_drew1) | exact HB.out)⟩⟩
    · rw [if_neg c5] at H
      have c5b0 : decide (a1 < 0) = false := decide_eq_false c5
      clear c5
      (first | rw [c5b0] | (simp only [i64_w, i32_w]; rw [c5b0]) | skip)
      have H' := Aside0.mk H
      clear H
      go_wp2
      go_meet
      case rel => exact ⟨_, (decide (a1 ≥ t128)), (by first | rfl | (simp; done) | (simp [*]; done)), H', ⟨by first | omega | exact Nat.le_refl _⟩, ⟨by repeat (first | (with_reducible first | exact HB.out | apply below_alloc | apply pw_below_drewN | apply below_drew1) | exact HB.out)⟩⟩
  case rest =>
    clear HC4
    try clear c2
    try clear p2
    try clear c5
    try clear c5b0
    obtain ⟨kq, x19_3, rfl, HA, HJ3, HB⟩ := hcut
    cases kq with
    | zero => exact absurd HA.out (by simp [precinctref13_Behind.j0])
    | succ kj3 =>
      have H := HA.out
      clear HA
      simp only [precinctref13_Behind.j0] at H
      by_cases c6 : x19_3 = true
      · subst c6
        have H1 : (some 0) = some r := by rw [if_pos rfl] at H; exact H
        clear H
        have H := H1
        clear H1
        obtain rfl := Option.some.inj H
        go_wp2
        go_ret
        exact ⟨by first | rfl | (simp [errW_none, errW_some] <;> rfl) | (simp [*, errW_none, errW_some] <;> rfl), by repeat (first | (with_reducible first | exact HB.out | apply below_alloc | apply pw_below_drewN | apply below_drew1) | exact HB.out)⟩
      · replace c6 := Bool.eq_false_iff.mpr c6
        subst c6
        have H1 : (if 0 ≤ t128 then (if (t128 : Int).toNat ≤ 281474976710656 then (precinctref13_Behind.l0 kj3 l0 a1 t128 (List.replicate (t128 : Int).toNat false) 0) else (none)) else (none)) = some r := by rw [if_neg (show ¬ (false = true) by decide)] at H; exact H
        clear H
        have H := H1
        clear H1
        by_cases c7 : 0 ≤ t128
        · rw [if_pos c7] at H
          have c7b0 := eq_true c7
          have c7b1 : decide (0 ≤ t128) = true := decide_eq_true c7
          clear c7
          by_cases c8 : (t128 : Int).toNat ≤ 281474976710656
          · rw [if_pos c8] at H
            have c8b0 := eq_true c8
            have c8b1 : decide ((t128 : Int).toNat ≤ 281474976710656) = true := decide_eq_true c8
            clear c8
            obtain ⟨y129, hy129⟩ : ∃ y_ : List Bool, y_ = (List.replicate (t128 : Int).toNat false) := ⟨_, rfl⟩
            replace H : (precinctref13_Behind.l0 kj3 l0 a1 t128 y129 0) = some r := by first | (rw [hy129]; with_reducible exact H) | (have H2_ := (Option.bind_some _ _).symm.trans H; rw [hy129]; with_reducible exact H2_) | (have H2_ := (Option.bind_some _ _).symm.trans H; with_reducible exact H2_) | with_reducible exact H | (rw [hy129]; exact H) | exact H
            have Ny129 := Aside0.mk hy129
            clear hy129
            have H' := Aside0.mk H
            clear H
            go_wp2_with (first | ((with_reducible refine gate_dst (N := 21) rfl ?_); refine Kd.R_make Kd.bool _ 4 rfl (N := 21) rfl 38 _ _ rfl t128 rfl rfl Tryd.underlying38 (.bool false) 1 info4 rfl (by decide) (by omega) false (ok := fun _ => True) (okp := fun _ => True) rfl (fun _ hk => hk) trivial (of_decide_eq_true (by first | (with_reducible assumption) | assumption)) (Nat.le_trans (Nat.mul_le_mul_right _ (of_decide_eq_true (by first | (with_reducible assumption) | assumption) : t128.toNat ≤ 281474976710656)) (by omega)) (Below.refl _ _) (Nat.le_refl _) ?_; intro v130 w9 ho10 hb hg_ hnew_; clear hg_ hnew_; (first | rw [← Ny129.out] at ho10 | (simp only [Int.reduceToNat] at ho10; rw [← Ny129.out] at ho10)); have n0_ := Aside0.mk (Kd.R_lower ho10 (below_size (by repeat (first | (with_reducible first | exact HB.out | apply below_alloc | apply pw_below_drewN | apply below_drew1) | exact HB.out)))); have n1_ := Aside0.mk (below_step (by repeat (first | (with_reducible first | exact HB.out | apply below_alloc | apply pw_below_drewN | apply below_drew1) | exact HB.out)) hb); clear HB; have HO131 := n0_; have HB := n1_; clear n0_ n1_; clear hb ho10))
            go_loopg [7] kj3 (fun kq v7 w' => ∃ (x6_2 : List Bool) (x7_2 : Int), v7 = .int .i64 x7_2 ∧ Aside0 (precinctref13_Behind.l0 kq l0 a1 t128 x6_2 x7_2 = some r) ∧ Aside0 (kq ≤ kj3) ∧ Aside0 (Kd.R Kd.bool 4 w' w.heap.size (fun _ => True) v130 x6_2) ∧ Aside0 (Below w.heap.size w w'))
            case atStart => exact ⟨(y129), (0), (by first | rfl | (simp; done) | (simp [*]; done)), H', ⟨Nat.le_refl _⟩, ⟨by (with_reducible repeat (first | apply Kd.R_alloc | apply Kd.R_drewN | apply Kd.R_drew)); exact HO131.out⟩, ⟨by repeat (first | (with_reducible first | exact HB.out | apply below_alloc | apply pw_below_drewN | apply below_drew1) | exact HB.out)⟩⟩
            case round =>
              clear H'
              try clear c2
              try clear p2
              try clear c5
              try clear c5b0
              try clear c6
              try clear c7
              try clear c7b0
              try clear c7b1
              try clear c8
              try clear c8b0
              try clear c8b1
              try clear p2
              obtain ⟨x6_2, x7_2, rfl, HA, HK2, HO_6, HB⟩ := hrel
              cases gk with
              | zero => exact absurd HA.out (by simp [precinctref13_Behind.l0])
              | succ k2 =>
                have H := HA.out
                clear HA
                simp only [precinctref13_Behind.l0] at H
                by_cases c11 : x7_2 < t128
                · rw [if_pos c11] at H
                  have c11b0 : decide (x7_2 < t128) = true := decide_eq_true c11
                  clear c11
                  have H' := Aside0.mk H
                  clear H
                  go_wp2
                  go_loopg [8] k2 (fun kq v8 w' => ∃ (x6_3 : List Bool) (x8_3 : Int), v8 = .int .i64 x8_3 ∧ Aside0 (precinctref13_Behind.l1 kq l0 a1 t128 x6_3 x7_2 x8_3 = some r) ∧ Aside0 (kq ≤ k2) ∧ Aside0 (Kd.R Kd.bool 4 w' w.heap.size (fun _ => True) v130 x6_3) ∧ Aside0 (Below w.heap.size w w'))
                  case atStart => exact ⟨(x6_2), (0), (by first | rfl | (simp; done) | (simp [*]; done)), H', ⟨Nat.le_refl _⟩, ⟨by (with_reducible repeat (first | apply Kd.R_alloc | apply Kd.R_drewN | apply Kd.R_drew)); exact HO_6.out⟩, ⟨by repeat (first | (with_reducible first | exact HB.out | apply below_alloc | apply pw_below_drewN | apply below_drew1) | exact HB.out)⟩⟩
                  case round =>
                    clear H'
                    try clear c1
                    try clear c2
                    try clear p2
                    try clear c5
                    try clear c5b0
                    try clear c6
                    try clear c7
                    try clear c7b0
                    try clear c7b1
                    try clear c8
                    try clear c8b0
                    try clear c8b1
                    try clear c11
                    try clear c11b0
                    try clear p2
                    obtain ⟨x6_3, x8_3, rfl, HA, HK3, HO_6, HB⟩ := hrel
                    cases gk with
                    | zero => exact absurd HA.out (by simp [precinctref13_Behind.l1])
                    | succ k3 =>
                      have H := HA.out
                      clear HA
                      simp only [precinctref13_Behind.l1] at H
                      by_cases c12 : x8_3 < t128
                      · rw [if_pos c12] at H
                        have c12b0 : decide (x8_3 < t128) = true := decide_eq_true c12
                        clear c12
                        have H' := Aside0.mk H
                        clear H
                        go_wp2
                        go_loopg [9] k3 (fun kq v9 w' => ∃ (x6_4 : List Bool) (x9_4 : Int), v9 = .int .i64 x9_4 ∧ Aside0 (precinctref13_Behind.l2 kq l0 a1 t128 x6_4 x7_2 x8_3 x9_4 = some r) ∧ Aside0 (kq ≤ k3) ∧ Aside0 (Kd.R Kd.bool 4 w' w.heap.size (fun _ => True) v130 x6_4) ∧ Aside0 (Below w.heap.size w w'))
                        case atStart => exact ⟨(x6_3), (0), (by first | rfl | (simp; done) | (simp [*]; done)), H', ⟨Nat.le_refl _⟩, ⟨by (with_reducible repeat (first | apply Kd.R_alloc | apply Kd.R_drewN | apply Kd.R_drew)); exact HO_6.out⟩, ⟨by repeat (first | (with_reducible first | exact HB.out | apply below_alloc | apply pw_below_drewN | apply below_drew1) | exact HB.out)⟩⟩
                        case round =>
                          clear H'
                          try clear c1
                          try clear c2
                          try clear p2
                          try clear c5
                          try clear c5b0
                          try clear c6
                          try clear c7
                          try clear c7b0
                          try clear c7b1
                          try clear c8
                          try clear c8b0
                          try clear c8b1
                          try clear c11
                          try clear c11b0
                          try clear c12
                          try clear c12b0
                          try clear p2
                          obtain ⟨x6_4, x9_4, rfl, HA, HK4, HO_6, HB⟩ := hrel
                          cases gk with
                          | zero => exact absurd HA.out (by simp [precinctref13_Behind.l2])
                          | succ k4 =>
                            have H := HA.out
                            clear HA
                            simp only [precinctref13_Behind.l2] at H
                            by_cases c13 : x9_4 < t128
                            · rw [if_pos c13] at H
                              have c13b0 : decide (x9_4 < t128) = true := decide_eq_true c13
                              clear c13
                              by_cases c14 : 0 ≤ x8_3
                              · rw [if_pos c14] at H
                                have c14b0 : decide (0 ≤ x8_3) = true := decide_eq_true c14
                                clear c14
                                by_cases c15 : x8_3 < (l0.length : Int)
                                · rw [if_pos c15] at H
                                  have c15b0 : decide (x8_3 < (l0.length : Int)) = true := decide_eq_true c15
                                  clear c15
                                  replace H := Option.bind_eq_some_iff.mp H
                                  obtain ⟨t134, A160, H⟩ := H
                                  replace H : (if t134 = true then (if x9_4 = a1 then (if x8_3 < (x6_4.length : Int) then (precinctref13_Behind.l2 k4 l0 a1 t128 (x6_4.set (x8_3 : Int).toNat true) x7_2 x8_3 (wrap64 (x9_4 + 1))) else (none)) else (if 0 ≤ x9_4 then (if x9_4 < (x6_4.length : Int) then (if rdOf false x6_4 x9_4 = true then (if x8_3 < (x6_4.length : Int) then (precinctref13_Behind.l2 k4 l0 a1 t128 (x6_4.set (x8_3 : Int).toNat true) x7_2 x8_3 (wrap64 (x9_4 + 1))) else (none)) else (precinctref13_Behind.l2 k4 l0 a1 t128 x6_4 x7_2 x8_3 (wrap64 (x9_4 + 1)))) else (none)) else (none))) else (precinctref13_Behind.l2 k4 l0 a1 t128 x6_4 x7_2 x8_3 (wrap64 (x9_4 + 1)))) = some r := H
                                  have A16 := Aside0.mk A160
                                  clear A160
                                  by_cases c17 : t134 = true
                                  · subst c17
                                    have H1 : (if x9_4 = a1 then (if x8_3 < (x6_4.length : Int) then (precinctref13_Behind.l2 k4 l0 a1 t128 (x6_4.set (x8_3 : Int).toNat true) x7_2 x8_3 (wrap64 (x9_4 + 1))) else (none)) else (if 0 ≤ x9_4 then (if x9_4 < (x6_4.length : Int) then (if rdOf false x6_4 x9_4 = true then (if x8_3 < (x6_4.length : Int) then (precinctref13_Behind.l2 k4 l0 a1 t128 (x6_4.set (x8_3 : Int).toNat true) x7_2 x8_3 (wrap64 (x9_4 + 1))) else (none)) else (precinctref13_Behind.l2 k4 l0 a1 t128 x6_4 x7_2 x8_3 (wrap64 (x9_4 + 1)))) else (none)) else (none))) = some r := by rw [if_pos rfl] at H; exact H
                                    clear H
                                    have H := H1
                                    clear H1
                                    by_cases c18 : x9_4 = a1
                                    · rw [if_pos c18] at H
                                      have c18b0 : (x9_4 == a1) = true := beq_iff_eq.mpr c18
                                      have c18b1 : (x9_4 != a1) = false := bne_eq_false_iff_eq.mpr c18
                                      clear c18
                                      by_cases c19 : x8_3 < (x6_4.length : Int)
                                      · rw [if_pos c19] at H
                                        have c19b0 : decide (x8_3 < (x6_4.length : Int)) = true := decide_eq_true c19
                                        clear c19
                                        obtain ⟨y135, hy135⟩ : ∃ y_ : List Bool, y_ = (x6_4.set (x8_3 : Int).toNat true) := ⟨_, rfl⟩
                                        replace H : (precinctref13_Behind.l2 k4 l0 a1 t128 y135 x7_2 x8_3 (wrap64 (x9_4 + 1))) = some r := by first | (rw [hy135]; with_reducible exact H) | (have H2_ := (Option.bind_some _ _).symm.trans H; rw [hy135]; with_reducible exact H2_) | (have H2_ := (Option.bind_some _ _).symm.trans H; with_reducible exact H2_) | with_reducible exact H | (rw [hy135]; exact H) | exact H
                                        have Ny135 := Aside0.mk hy135
                                        clear hy135
                                        have H' := Aside0.mk H
                                        clear H
                                        have p133 : 0 ≤ (x8_3 : Int) := of_decide_eq_true (by first | (with_reducible assumption) | assumption)
                                        have q133 : x8_3 < (l0.length : Int) := of_decide_eq_true (by first | (with_reducible assumption) | assumption)
                                        obtain ⟨ad133, e133, hx133_0⟩ := Kd.at_int HR0.out x8_3 p133 q133
                                        cases e133
                                        replace hx133_0 := (HB.out.cell (World.block_lt_of_cell? w _ hx133_0)).trans hx133_0
                                        replace p133 := eq_true p133
                                        replace q133 := eq_true q133
                                        go_wp2_with (first | ((with_reducible refine gate_callee (f := 26) rfl ?_); refine goesL_ (some 42) rfl rfl Tryd.func26 (by kernel_rfl) rfl #[.int .u32 (rd l0 x8_3), .int .i64 x9_4] rfl (by (try simp only [List.map_toArray, List.map_cons, List.map_nil]); first | done | rfl | (simp only [List.length_drop, List.length_take]; rfl)) ?_; (with_reducible refine (precinctref13_Bit.calls k4 (rd l0 x8_3) x9_4 true _ A16.out).mono ?_); rintro e w' ⟨rfl, ⟨nd, rfl⟩⟩; refine ⟨_, rfl, ?_⟩; (try (rw [drewN_self wr]; generalize hq_ : World.drewN wr _ = wr; have n0_ : Aside0 (Kd.R Kd.bool 4 wr w.heap.size (fun _ => True) v130 x6_4) := ⟨by rw [← hq_]; exact (by (with_reducible repeat (first | apply Kd.R_alloc | apply Kd.R_drewN | apply Kd.R_drew)); exact HO_6.out)⟩; have n1_ : Aside0 (Below w.heap.size w wr) := ⟨by rw [← hq_]; exact (by repeat (first | (with_reducible first | exact HB.out | apply below_alloc | apply pw_below_drewN | apply below_drew1) | exact HB.out))⟩; clear HO_6 HB hq_; have HO_6 := n0_; have HB := n1_; clear n0_ n1_)); have p20 : 0 ≤ (x8_3 : Int) := of_decide_eq_true (by first | (with_reducible assumption) | assumption); have q20 : (x8_3 : Int) < ((x6_4.length : Int) : Int) := of_decide_eq_true (by first | (with_reducible assumption) | assumption); obtain ⟨go20, co20, eo20, gb20, gl20, cl20, HG20⟩ := Kd.R_form HO_6.out (by omega); (first | cases eo20 | (injection eo20 with ea_ en_ ec_; (first | subst ea_ | (injection ea_ with ea_; subst ea_)); subst ec_; clear en_)); have GB20 := Aside0.mk gb20; have GG20 := Aside0.mk HG20; clear gb20 gl20 HG20; obtain ⟨hx20_0, hf20_0⟩ := Kd.R_celln false HO_6.out (x8_3 : Int) p20 q20; replace p20 := eq_true p20; replace q20 := eq_true q20; obtain ⟨hy21_, hz21_⟩ := Kd.R_celln false HO_6.out (x8_3 : Int) (of_decide_eq_true (by first | (with_reducible assumption) | assumption)) (of_decide_eq_true (by first | (with_reducible assumption) | assumption)); have HP21 := Kd.R_putg HO_6.out (x8_3 : Int) true) | ((with_reducible refine gate_store (t := 4) (p := 57) rfl ?_); refine store_event (t := 4) (p := 57) (v := ?vo_w22) (w1 := (wr.setCell ⟨go20, (x8_3 : Int).toNat, none⟩ (.bool true))) ?hg ?ho ?hn ?hr ?_; (case ho => rfl); (case hg => rfl); (case hn => rfl); (case hr => first | (go_simp; done) | (go_simp; rfl)); intro w22 hw; have hg : wr.grownBy w22 (some go20) := (by rw [hw]; exact HP21.2); have hp_ : Kd.R Kd.bool 4 w22 w.heap.size (fun _ => True) (.slice (some ⟨go20, 0, none⟩) x6_4.length co20) y135 := (by rw [hw, Ny135.out]; exact HP21.1); clear HP21; have n0_ := Aside0.mk (hp_); have n1_ := Aside0.mk ((by rw [hw]; exact below_set (HB.out) GB20.out : Below w.heap.size w w22)); clear HO_6; clear HB; have HO_6 := n0_; have HB := n1_; clear n0_ n1_; clear hg hw hp_))
                                        go_roundg k4
                                        case measure => have := HJ3.out; have := HK2.out; have := HK3.out; have := HK4.out; omega
                                        case rel => exact ⟨(y135), (wrap64 (x9_4 + 1)), (by first | rfl | (simp; done) | (simp [*]; done)), H', ⟨by have := HJ3.out; have := HK2.out; have := HK3.out; have := HK4.out; omega⟩, ⟨by (with_reducible repeat (first | apply Kd.R_alloc | apply Kd.R_drewN | apply Kd.R_drew)); exact HO_6.out⟩, ⟨by repeat (first | (with_reducible first | exact HB.out | apply below_alloc | apply pw_below_drewN | apply below_drew1) | exact HB.out)⟩⟩
                                      · rw [if_neg c19] at H
                                        exact absurd H (by simp)
                                    · rw [if_neg c18] at H
                                      have c18b0 : (x9_4 == a1) = false := beq_eq_false_iff_ne.mpr c18
                                      have c18b1 : (x9_4 != a1) = true := bne_iff_ne.mpr c18
                                      by_cases c23 : 0 ≤ x9_4
                                      · rw [if_pos c23] at H
                                        have c23b0 : decide (0 ≤ x9_4) = true := decide_eq_true c23
                                        clear c23
                                        by_cases c24 : x9_4 < (x6_4.length : Int)
                                        · rw [if_pos c24] at H
                                          have c24b0 : decide (x9_4 < (x6_4.length : Int)) = true := decide_eq_true c24
                                          clear c24
                                          obtain ⟨bq25, hbq25⟩ : ∃ b_ : Bool, b_ = (rdOf false x6_4 x9_4) := ⟨_, rfl⟩
                                          replace H : (if bq25 = true then (if x8_3 < (x6_4.length : Int) then (precinctref13_Behind.l2 k4 l0 a1 t128 (x6_4.set (x8_3 : Int).toNat true) x7_2 x8_3 (wrap64 (x9_4 + 1))) else (none)) else (precinctref13_Behind.l2 k4 l0 a1 t128 x6_4 x7_2 x8_3 (wrap64 (x9_4 + 1)))) = some r := by rw [← hbq25] at H; exact H
                                          have Nbq25 := Aside0.mk hbq25
                                          clear hbq25
                                          by_cases c26 : bq25 = true
                                          · subst c26
                                            have H1 : (if x8_3 < (x6_4.length : Int) then (precinctref13_Behind.l2 k4 l0 a1 t128 (x6_4.set (x8_3 : Int).toNat true) x7_2 x8_3 (wrap64 (x9_4 + 1))) else (none)) = some r := by rw [if_pos rfl] at H; exact H
                                            clear H
                                            have H := H1
                                            clear H1
                                            by_cases c27 : x8_3 < (x6_4.length : Int)
                                            · rw [if_pos c27] at H
                                              have c27b0 : decide (x8_3 < (x6_4.length : Int)) = true := decide_eq_true c27
                                              clear c27
                                              obtain ⟨y137, hy137⟩ : ∃ y_ : List Bool, y_ = (x6_4.set (x8_3 : Int).toNat true) := ⟨_, rfl⟩
                                              replace H : (precinctref13_Behind.l2 k4 l0 a1 t128 y137 x7_2 x8_3 (wrap64 (x9_4 + 1))) = some r := by first | (rw [hy137]; with_reducible exact H) | (have H2_ := (Option.bind_some _ _).symm.trans H; rw [hy137]; with_reducible exact H2_) | (have H2_ := (Option.bind_some _ _).symm.trans H; with_reducible exact H2_) | with_reducible exact H | (rw [hy137]; exact H) | exact H
                                              have Ny137 := Aside0.mk hy137
                                              clear hy137
                                              have H' := Aside0.mk H
                                              clear H
                                              have p133 : 0 ≤ (x8_3 : Int) := of_decide_eq_true (by first | (with_reducible assumption) | assumption)
                                              have q133 : x8_3 < (l0.length : Int) := of_decide_eq_true (by first | (with_reducible assumption) | assumption)
                                              obtain ⟨ad133, e133, hx133_0⟩ := Kd.at_int HR0.out x8_3 p133 q133
                                              cases e133
                                              replace hx133_0 := (HB.out.cell (World.block_lt_of_cell? w _ hx133_0)).trans hx133_0
                                              replace p133 := eq_true p133
                                              replace q133 := eq_true q133
                                              go_wp2_with (first | ((with_reducible refine gate_callee (f := 26) rfl ?_); refine goesL_ (some 42) rfl rfl Tryd.func26 (by kernel_rfl) rfl #[.int .u32 (rd l0 x8_3), .int .i64 x9_4] rfl (by (try simp only [List.map_toArray, List.map_cons, List.map_nil]); first | done | rfl | (simp only [List.length_drop, List.length_take]; rfl)) ?_; (with_reducible refine (precinctref13_Bit.calls k4 (rd l0 x8_3) x9_4 true _ A16.out).mono ?_); rintro e w' ⟨rfl, ⟨nd, rfl⟩⟩; refine ⟨_, rfl, ?_⟩; (try (rw [drewN_self wr]; generalize hq_ : World.drewN wr _ = wr; have n0_ : Aside0 (Kd.R Kd.bool 4 wr w.heap.size (fun _ => True) v130 x6_4) := ⟨by rw [← hq_]; exact (by (with_reducible repeat (first | apply Kd.R_alloc | apply Kd.R_drewN | apply Kd.R_drew)); exact HO_6.out)⟩; have n1_ : Aside0 (Below w.heap.size w wr) := ⟨by rw [← hq_]; exact (by repeat (first | (with_reducible first | exact HB.out | apply below_alloc | apply pw_below_drewN | apply below_drew1) | exact HB.out))⟩; clear HO_6 HB hq_; have HO_6 := n0_; have HB := n1_; clear n0_ n1_)); obtain ⟨Ao29, co29, eo29⟩ := Kd.R_slice HO_6.out; subst eo29; have p136 : 0 ≤ (x9_4 : Int) := of_decide_eq_true (by first | (with_reducible assumption) | assumption); have q136 : x9_4 < (x6_4.length : Int) := of_decide_eq_true (by first | (with_reducible assumption) | assumption); obtain ⟨ad136, e136, hx136_0⟩ := Kd.at_bool (Kd.R_reads' HO_6.out).2.2 x9_4 p136 q136; (try rw [← Nbq25.out] at hx136_0); cases e136; replace p136 := eq_true p136; replace q136 := eq_true q136; have p28 : 0 ≤ (x8_3 : Int) := of_decide_eq_true (by first | (with_reducible assumption) | assumption); have q28 : (x8_3 : Int) < ((x6_4.length : Int) : Int) := of_decide_eq_true (by first | (with_reducible assumption) | assumption); obtain ⟨go28, co28, eo28, gb28, gl28, cl28, HG28⟩ := Kd.R_form HO_6.out (by omega); (first | cases eo28 | (injection eo28 with ea_ en_ ec_; (first | subst ea_ | (injection ea_ with ea_; subst ea_)); subst ec_; clear en_)); have GB28 := Aside0.mk gb28; have GG28 := Aside0.mk HG28; clear gb28 gl28 HG28; (first | simp only [add_plain] at hx136_0 | skip); obtain ⟨hx28_0, hf28_0⟩ := Kd.R_celln false HO_6.out (x8_3 : Int) p28 q28; replace p28 := eq_true p28; replace q28 := eq_true q28; obtain ⟨hy30_, hz30_⟩ := Kd.R_celln false HO_6.out (x8_3 : Int) (of_decide_eq_true (by first | (with_reducible assumption) | assumption)) (of_decide_eq_true (by first | (with_reducible assumption) | assumption)); have HP30 := Kd.R_putg HO_6.out (x8_3 : Int) true) | ((with_reducible refine gate_store (t := 4) (p := 57) rfl ?_); refine store_event (t := 4) (p := 57) (v := ?vo_w31) (w1 := (wr.setCell ⟨go28, (x8_3 : Int).toNat, none⟩ (.bool true))) ?hg ?ho ?hn ?hr ?_; (case ho => rfl); (case hg => rfl); (case hn => rfl); (case hr => first | (go_simp; done) | (go_simp; rfl)); intro w31 hw; have hg : wr.grownBy w31 (some go28) := (by rw [hw]; exact HP30.2); have hp_ : Kd.R Kd.bool 4 w31 w.heap.size (fun _ => True) (.slice (some ⟨go28, 0, none⟩) x6_4.length co29) y137 := (by rw [hw, Ny137.out]; exact HP30.1); clear HP30; have n0_ := Aside0.mk (hp_); have n1_ := Aside0.mk ((by rw [hw]; exact below_set (HB.out) GB28.out : Below w.heap.size w w31)); clear HO_6; clear HB; have HO_6 := n0_; have HB := n1_; clear n0_ n1_; clear hg hw hp_))
                                              go_roundg k4
                                              case measure => have := HJ3.out; have := HK2.out; have := HK3.out; have := HK4.out; omega
                                              case rel => exact ⟨(y137), (wrap64 (x9_4 + 1)), (by first | rfl | (simp; done) | (simp [*]; done)), H', ⟨by have := HJ3.out; have := HK2.out; have := HK3.out; have := HK4.out; omega⟩, ⟨by (with_reducible repeat (first | apply Kd.R_alloc | apply Kd.R_drewN | apply Kd.R_drew)); exact HO_6.out⟩, ⟨by repeat (first | (with_reducible first | exact HB.out | apply below_alloc | apply pw_below_drewN | apply below_drew1) | exact HB.out)⟩⟩
                                            · rw [if_neg c27] at H
                                              exact absurd H (by simp)
                                          · replace c26 := Bool.eq_false_iff.mpr c26
                                            subst c26
                                            have H1 : (precinctref13_Behind.l2 k4 l0 a1 t128 x6_4 x7_2 x8_3 (wrap64 (x9_4 + 1))) = some r := by rw [if_neg (show ¬ (false = true) by decide)] at H; exact H
                                            clear H
                                            have H := H1
                                            clear H1
                                            have H' := Aside0.mk H
                                            clear H
                                            have p133 : 0 ≤ (x8_3 : Int) := of_decide_eq_true (by first | (with_reducible assumption) | assumption)
                                            have q133 : x8_3 < (l0.length : Int) := of_decide_eq_true (by first | (with_reducible assumption) | assumption)
                                            obtain ⟨ad133, e133, hx133_0⟩ := Kd.at_int HR0.out x8_3 p133 q133
                                            cases e133
                                            replace hx133_0 := (HB.out.cell (World.block_lt_of_cell? w _ hx133_0)).trans hx133_0
                                            replace p133 := eq_true p133
                                            replace q133 := eq_true q133
                                            go_wp2_with (first | ((with_reducible refine gate_callee (f := 26) rfl ?_); refine goesL_ (some 42) rfl rfl Tryd.func26 (by kernel_rfl) rfl #[.int .u32 (rd l0 x8_3), .int .i64 x9_4] rfl (by (try simp only [List.map_toArray, List.map_cons, List.map_nil]); first | done | rfl | (simp only [List.length_drop, List.length_take]; rfl)) ?_; (with_reducible refine (precinctref13_Bit.calls k4 (rd l0 x8_3) x9_4 true _ A16.out).mono ?_); rintro e w' ⟨rfl, ⟨nd, rfl⟩⟩; refine ⟨_, rfl, ?_⟩; obtain ⟨Ao32, co32, eo32⟩ := Kd.R_slice HO_6.out; subst eo32; have p136 : 0 ≤ (x9_4 : Int) := of_decide_eq_true (by first | (with_reducible assumption) | assumption); have q136 : x9_4 < (x6_4.length : Int) := of_decide_eq_true (by first | (with_reducible assumption) | assumption); obtain ⟨ad136, e136, hx136_0⟩ := Kd.at_bool (Kd.R_reads' HO_6.out).2.2 x9_4 p136 q136; (try rw [← Nbq25.out] at hx136_0); cases e136; replace p136 := eq_true p136; replace q136 := eq_true q136))
                                            go_roundg k4
                                            case measure => have := HJ3.out; have := HK2.out; have := HK3.out; have := HK4.out; omega
                                            case rel => exact ⟨(x6_4), (wrap64 (x9_4 + 1)), (by first | rfl | (simp; done) | (simp [*]; done)), H', ⟨by have := HJ3.out; have := HK2.out; have := HK3.out; have := HK4.out; omega⟩, ⟨by (with_reducible repeat (first | apply Kd.R_alloc | apply Kd.R_drewN | apply Kd.R_drew)); exact HO_6.out⟩, ⟨by repeat (first | (with_reducible first | exact HB.out | apply below_alloc | apply pw_below_drewN | apply below_drew1) | exact HB.out)⟩⟩
                                        · rw [if_neg c24] at H
                                          exact absurd H (by simp)
                                      · rw [if_neg c23] at H
                                        exact absurd H (by simp)
                                  · replace c17 := Bool.eq_false_iff.mpr c17
                                    subst c17
                                    have H1 : (precinctref13_Behind.l2 k4 l0 a1 t128 x6_4 x7_2 x8_3 (wrap64 (x9_4 + 1))) = some r := by rw [if_neg (show ¬ (false = true) by decide)] at H; exact H
                                    clear H
                                    have H := H1
                                    clear H1
                                    have H' := Aside0.mk H
                                    clear H
                                    have p133 : 0 ≤ (x8_3 : Int) := of_decide_eq_true (by first | (with_reducible assumption) | assumption)
                                    have q133 : x8_3 < (l0.length : Int) := of_decide_eq_true (by first | (with_reducible assumption) | assumption)
                                    obtain ⟨ad133, e133, hx133_0⟩ := Kd.at_int HR0.out x8_3 p133 q133
                                    cases e133
                                    replace hx133_0 := (HB.out.cell (World.block_lt_of_cell? w _ hx133_0)).trans hx133_0
                                    replace p133 := eq_true p133
                                    replace q133 := eq_true q133
                                    go_wp2_with (first | ((with_reducible refine gate_callee (f := 26) rfl ?_); refine goesL_ (some 42) rfl rfl Tryd.func26 (by kernel_rfl) rfl #[.int .u32 (rd l0 x8_3), .int .i64 x9_4] rfl (by (try simp only [List.map_toArray, List.map_cons, List.map_nil]); first | done | rfl | (simp only [List.length_drop, List.length_take]; rfl)) ?_; (with_reducible refine (precinctref13_Bit.calls k4 (rd l0 x8_3) x9_4 false _ A16.out).mono ?_); rintro e w' ⟨rfl, ⟨nd, rfl⟩⟩; refine ⟨_, rfl, ?_⟩))
                                    go_roundg k4
                                    case measure => have := HJ3.out; have := HK2.out; have := HK3.out; have := HK4.out; omega
                                    case rel => exact ⟨(x6_4), (wrap64 (x9_4 + 1)), (by first | rfl | (simp; done) | (simp [*]; done)), H', ⟨by have := HJ3.out; have := HK2.out; have := HK3.out; have := HK4.out; omega⟩, ⟨by (with_reducible repeat (first | apply Kd.R_alloc | apply Kd.R_drewN | apply Kd.R_drew)); exact HO_6.out⟩, ⟨by repeat (first | (with_reducible first | exact HB.out | apply below_alloc | apply pw_below_drewN | apply below_drew1) | exact HB.out)⟩⟩
                                · rw [if_neg c15] at H
                                  exact absurd H (by simp)
                              · rw [if_neg c14] at H
                                exact absurd H (by simp)
                            · rw [if_neg c13] at H
                              have c13b0 : decide (x9_4 < t128) = false := decide_eq_false c13
                              clear c13
                              have H' := Aside0.mk H
                              clear H
                              go_wp2
                              go_roundg k4
                              case measure => have := HJ3.out; have := HK2.out; have := HK3.out; have := HK4.out; omega
                              case rel => exact ⟨(x6_4), (wrap64 (x8_3 + 1)), (by first | rfl | (simp; done) | (simp [*]; done)), H', ⟨by have := HJ3.out; have := HK2.out; have := HK3.out; have := HK4.out; omega⟩, ⟨by (with_reducible repeat (first | apply Kd.R_alloc | apply Kd.R_drewN | apply Kd.R_drew)); exact HO_6.out⟩, ⟨by repeat (first | (with_reducible first | exact HB.out | apply below_alloc | apply pw_below_drewN | apply below_drew1) | exact HB.out)⟩⟩
                      · rw [if_neg c12] at H
                        have c12b0 : decide (x8_3 < t128) = false := decide_eq_false c12
                        clear c12
                        have H' := Aside0.mk H
                        clear H
                        go_wp2
                        go_roundg k3
                        case measure => have := HJ3.out; have := HK2.out; have := HK3.out; omega
                        case rel => exact ⟨(x6_3), (wrap64 (x7_2 + 1)), (by first | rfl | (simp; done) | (simp [*]; done)), H', ⟨by have := HJ3.out; have := HK2.out; have := HK3.out; omega⟩, ⟨by (with_reducible repeat (first | apply Kd.R_alloc | apply Kd.R_drewN | apply Kd.R_drew)); exact HO_6.out⟩, ⟨by repeat (first | (with_reducible first | exact HB.out | apply below_alloc | apply pw_below_drewN | apply below_drew1) | exact HB.out)⟩⟩
                · rw [if_neg c11] at H
                  have c11b0 : decide (x7_2 < t128) = false := decide_eq_false c11
                  clear c11
                  replace H := Option.bind_eq_some_iff.mp H
                  obtain ⟨t132, A330, H⟩ := H
                  replace H : (some t132) = some r := H
                  have A33 := Aside0.mk A330
                  clear A330
                  obtain rfl := Option.some.inj H
                  obtain ⟨Ao34, co34, eo34⟩ := Kd.R_slice HO_6.out
                  subst eo34
                  go_wp2_with (first | ((with_reducible refine gate_callee (f := 27) rfl ?_); refine goesL_ (some 59) rfl rfl Tryd.func27 (by kernel_rfl) rfl #[.slice Ao34 x6_2.length co34] rfl (by (try simp only [List.map_toArray, List.map_cons, List.map_nil]); first | done | rfl | (simp only [List.length_drop, List.length_take]; rfl)) ?_; (with_reducible refine (precinctref13_Number.calls k2 _ _ x6_2 t132 _ ?side1 ?side2 A33.out).mono ?_); (case side1 => repeat (first | exact (Kd.R_reads' HO_6.out).2.2 | (with_reducible refine Kd.C_alloc ?_ _) | (with_reducible refine Kd.C_drewN ?_ _) | (with_reducible refine Kd.C_drew ?_))); (case side2 => exact (Kd.R_reads' HO_6.out).2.1); rintro e w' ⟨rfl, ⟨nd, rfl⟩⟩; refine ⟨_, rfl, ?_⟩))
                  go_ret
                  exact ⟨by first | rfl | (simp [errW_none, errW_some] <;> rfl) | (simp [*, errW_none, errW_some] <;> rfl), by repeat (first | (with_reducible first | exact HB.out | apply below_alloc | apply pw_below_drewN | apply below_drew1) | exact HB.out)⟩
          · rw [if_neg c8] at H
            exact absurd H (by simp)
        · rw [if_neg c7] at H
          exact absurd H (by simp)


end Go.Proofs.YtfkljcnkghakaaaDoor.PReadyOrders
