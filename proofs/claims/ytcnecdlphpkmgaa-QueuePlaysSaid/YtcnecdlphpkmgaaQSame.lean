/- same: has the queue the document's items? No condition beyond numbers being numbers of 64 bits. -/
import Derived.Test.YtcnecdlphpkmgaaQRef2
namespace Go.Proofs.Ytcnecdlphpkmgaa.Q
open Go.RowKit Go.Proofs.YtcnecdlphpkmgaaW.PrintWords Go.Proofs.YtcnecdlphpkmgaaW.PrintLast Go.Proofs.YtcnecdlphpkmgaaW.PrintMore
attribute [local go_sem high] eqA31 eqA42
set_option linter.unusedVariables false
set_option linter.unusedSimpArgs false

/-- What the asking region keeps. -/
abbrev KQ (N : Nat) (W : World) (gb qb rb n : Nat) (A : Option Addr) (c : Nat) (r nd : Int) (v : Value) (xs : List Item) (w : World) : Prop :=
  w.cell? ⟨gb, 0, none⟩ = some (.int .i64 r) ∧ w.cell? ⟨gb, 1, none⟩ = some (.int .i64 nd) ∧ w.cell? ⟨rb, 0, none⟩ = some (.slice A xs.length c) ∧
  IsQ (fun _ => True) N w qb xs n ∧ IsR N w rb xs ∧ KI.Q 31 w 0 (fun _ => True) v xs ∧ Kd.C KI w A xs.length xs ∧ gb < w.heap.size ∧ Below gb W w
section
variable {N : Nat} {W : World} {gb qb rb n : Nat} {A : Option Addr} {c : Nat} {r nd : Int} {v : Value} {xs : List Item} {w w' : World}
theorem KQ.step (h : KQ N W gb qb rb n A c r nd v xs w) (hb : Below w.heap.size w w') : KQ N W gb qb rb n A c r nd v xs w' :=
  ⟨pw_cell_below hb h.1, pw_cell_below hb h.2.1, pw_cell_below hb h.2.2.1, h.2.2.2.1.below hb, h.2.2.2.2.1.below hb, Kd.Q_below h.2.2.2.2.2.1 hb, Kd.C_below h.2.2.2.2.2.2.1 hb, Nat.lt_of_lt_of_le h.2.2.2.2.2.2.2.1 hb.size, below_then h.2.2.2.2.2.2.2.2 (Nat.le_of_lt h.2.2.2.2.2.2.2.1) hb⟩
theorem KQ.drew (h : KQ N W gb qb rb n A c r nd v xs w) : KQ N W gb qb rb n A c r nd v xs w.drew := h.step (below_drew (Below.refl _ _))
theorem KQ.drewN (h : KQ N W gb qb rb n A c r nd v xs w) (m : Nat) : KQ N W gb qb rb n A c r nd v xs (w.drewN m) := h.step (pw_below_drewN (Below.refl _ _) m)
end
set_option maxHeartbeats 4000000 in
set_option maxRecDepth 100000 in
theorem same_calls (N : Nat) (W : World) (qb rb n : Nat) (xs : List Item) (x : Item) (hQ : IsQ (fun _ => True) N W qb xs n) (hR : IsR N W rb xs) (hx : wfI x) :
    Calls Try.prog 18 #[.pointer (some ⟨qb, 0, none⟩), .pointer (some ⟨rb, 0, none⟩), encI x] W fun e W' => e = .returned (.bool true) ∧ Below W.heap.size W W' := by
  obtain ⟨r, nd⟩ := x
  have hu42 := Try.underlying42
  have hl := hQ.good.2.1
  have hb0 := below_alloc (Below.refl W.heap.size W) (.cells #[.int .i64 r, .int .i64 nd] 29)
  have HQ := Aside0.mk (hQ.below hb0)
  have HR := Aside0.mk (hR.below hb0)
  have HB := Aside0.mk hb0
  have HK := Aside0.mk (blk_new W (.cells #[.int .i64 r, .int .i64 nd] 29))
  have HL := Aside0.mk (list_calls (fun _ => True) N _ qb n xs HQ.out)
  have hsz1 : (W.alloc (.cells #[.int .i64 r, .int .i64 nd] 29)).heap.size = W.heap.size + 1 := by simp
  have HA : Aside0 (∀ w, IsQ (fun _ => True) N w qb xs n → Calls Try.prog 19 #[.pointer (some ⟨qb, 0, none⟩), .agg #[.int .i64 r, .int .i64 nd]] w fun e W' => e = .returned (.int .i64 (aheadE xs (r, nd))) ∧ Below w.heap.size w W') := Aside0.mk (fun w h => ahead_calls _ N w qb n xs (r, nd) h)
  have HRA : Aside0 (∀ w, IsR N w rb xs → Calls Try.prog 21 #[.pointer (some ⟨rb, 0, none⟩), .agg #[.int .i64 r, .int .i64 nd]] w fun e W' => e = .returned (.int .i64 (aheadE xs (r, nd))) ∧ Below w.heap.size w W') := Aside0.mk (fun w h => refAhead_calls N w rb xs (r, nd) h (by omega))
  have HH : Aside0 (∀ w, IsQ (fun _ => True) N w qb xs n → Calls Try.prog 12 #[.pointer (some ⟨qb, 0, none⟩), .agg #[.int .i64 r, .int .i64 nd]] w fun e W' => e = .returned (.bool (xs.contains (r, nd))) ∧ Below w.heap.size w W') := Aside0.mk (fun w h => has_calls _ N w qb n xs (r, nd) h hx)
  have hge := aheadE_geq xs (r, nd)
  clear hb0 hQ hR
  generalize aheadE xs (r, nd) = a at *
  generalize xs.contains (r, nd) = b at *
  have hge2 : decide (a ≥ 0) = b := hge
  show Calls Try.prog 18 #[.pointer (some ⟨qb, 0, none⟩), .pointer (some ⟨rb, 0, none⟩), .agg #[.int .i64 r, .int .i64 nd]] W _
  go_enter Try.func18, Try.ntmps18
  go_upto_region 1 with (fail)
  generalize W.alloc (.cells #[.int .i64 r, .int .i64 nd] 29) = w1 at *
  generalize hgb : W.heap.size = gb at *
  go_upto_region 2 with (first | (go_at_call 11; go_loud (refine HL.out.mono ?_; rintro e w2 ⟨A7, c7, rfl, hq, hb⟩; have HO := Aside0.mk (Kd.Q_lower hq (Nat.zero_le _)); have HQ2 := Aside0.mk (HQ.out.below hb); have HR2 := Aside0.mk (HR.out.below hb); have HB2 := Aside0.mk (below_then HB.out (by omega) hb); have HK2 := Aside0.mk (blk_below HK.out hb); clear hq hb)))
  obtain ⟨A, c, h2, h1, hcc, hC, hMr⟩ := HR2.out.open
  have K0 : KQ N W gb qb rb n A c r nd (.slice A7 xs.length c7) xs w2 := ⟨(blk_cell HK2.out 0).trans rfl, (blk_cell HK2.out 1).trans rfl, (blk_cell h2 0).trans rfl, HQ2.out, HR2.out, HO.out, hC, blk_lt HK2.out, HB2.out⟩
  clear HQ HR HB HK HL HQ2 HR2 HB2 HK2 HO h2 hC hMr
  go_region_held3 (KQ N W gb qb rb n A c r nd (.slice A7 xs.length c7) xs) (first | exact KQ.drew (by assumption) | exact KQ.drewN (by assumption) _ | exact KQ.step (by assumption) (by assumption) | go_keep)
    (first
      | (go_at_call 19; with_reducible refine (HA.out _ (And.left (And.right (And.right (And.right (by assumption : KQ N W gb qb rb n A c r nd (.slice A7 xs.length c7) xs _)))))).mono ?_; rintro e w' ⟨rfl, hb⟩)
      | (go_at_call 21; with_reducible refine (HRA.out _ (And.left (And.right (And.right (And.right (And.right (by assumption : KQ N W gb qb rb n A c r nd (.slice A7 xs.length c7) xs _))))))).mono ?_; rintro e w' ⟨rfl, hb⟩)
      | (go_at_call 12; with_reducible refine (HH.out _ (And.left (And.right (And.right (And.right (by assumption : KQ N W gb qb rb n A c r nd (.slice A7 xs.length c7) xs _)))))).mono ?_; rintro e w' ⟨rfl, hb⟩))
  clear K0
  have KF := Aside0.mk (by assumption : KQ N W gb qb rb n A c r nd (.slice A7 xs.length c7) xs _)
  go_wp2
  go_loopw [8, 40] (fun _ v40 wr => ∃ (p : Int) (i : Nat), v40 = .int .i64 p ∧ Aside0 (p = (i : Int)) ∧ i ≤ xs.length ∧ Aside0 (KQ N W gb qb rb n A c r nd (.slice A7 xs.length c7) xs wr)) (fun _ v40 _ => xs.length - (intOf v40).toNat)
  case atStart => exact ⟨_, 0, rfl, Aside0.mk rfl, by omega, KF⟩
  case round =>
    clear KF
    obtain ⟨p, i, rfl, HP, hi, KF⟩ := hrel
    by_cases hin : i < xs.length
    · have hlt2 : decide (p < (xs.length : Int)) = true := decide_eq_true (by rw [HP.out]; omega)
      have hp0 : 0 ≤ p := by rw [HP.out]; omega
      have hp1 : p < (xs.length : Int) := by rw [HP.out]; omega
      have HW : Aside0 (p + 1 = ((i + 1 : Nat) : Int)) := Aside0.mk (by rw [HP.out]; omega)
      obtain ⟨ad2, e, hx0, hx1⟩ := at_Ip (Kd.Q_reads' KF.out.2.2.2.2.2.1).2.2 p hp0 hp1
      cases e
      obtain ⟨ad3, e, hy0, hy1⟩ := at_Ip KF.out.2.2.2.2.2.2.1 p hp0 hp1
      cases e
      have hrc := KF.out.2.2.1
      generalize rdI xs p = X at *
      obtain ⟨r7, nd7⟩ := X
      go_upto_region 7 with (fail)
      go_quiet (fail)
      go_wp2
      go_roundw
      case rel => exact ⟨_, i + 1, rfl, HW, by omega, Aside0.mk (KQ.drewN KF.out _)⟩
      case measure => have := HW.out; have := HP.out; simp [intOf] at *; omega
    · have hlt2 : decide (p < (xs.length : Int)) = false := decide_eq_false (by rw [HP.out]; omega)
      go_wp2
      go_ret
      exact ⟨rfl, by rw [hgb]; exact KF.out.2.2.2.2.2.2.2.2⟩
end Go.Proofs.Ytcnecdlphpkmgaa.Q
