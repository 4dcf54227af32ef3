/- QueueKeeps: the walk. Condition: the items' numbers are numbers of 64 bits. -/
import Derived.Test.YtcnecdlphpkmgaaQApart
namespace Go.Proofs.Ytcnecdlphpkmgaa.Q
open Go.RowKit Go.Proofs.YtcnecdlphpkmgaaW.PrintWords Go.Proofs.YtcnecdlphpkmgaaW.PrintLast Go.Proofs.YtcnecdlphpkmgaaW.PrintMore
attribute [local go_sem] max2_int min2_int
attribute [local go_sem high] eqA31
set_option linter.unusedVariables false
set_option linter.unusedSimpArgs false

theorem q_set1 {w : World} {N g o n c : Nat} {ok : Nat → Prop} {L : List Item} (h : KI.Q 31 w N ok (.slice (some ⟨g, o, none⟩) n c) L) (i : Nat) (hi : i < n) (z : Int) :
    (∃ L', L'.length = L.length ∧ KI.Q 31 (w.setCell ⟨g, o + i * 2, none⟩ (.int .i64 z)) N ok (.slice (some ⟨g, o, none⟩) n c) L') ∧ w.grownBy (w.setCell ⟨g, o + i * 2, none⟩ (.int .i64 z)) (some g) := by
  obtain ⟨cs, hl, hM, hc, hf⟩ := Kd.Q_elem h (0, 0) (i : Int) (by omega) (by omega)
  obtain ⟨c0, c1, rfl, rfl, rfl⟩ := id hM
  have := Kd.Q_seg h (i : Int) (by omega) (by omega) (seg := [.int .i64 z]) (j := 0) (x' := (z, (L.getD i (0, 0)).2)) (okp := fun _ => False) hl hc (by simp; decide) ⟨[.int .i64 z], [.int .i64 (L.getD i (0, 0)).2], rfl, rfl, rfl⟩ (fun _ hk => hk.elim)
  exact ⟨⟨_, by rw [List.length_set], this.1⟩, this.2⟩
/-- What the comparing region keeps. -/
abbrev KB (W : World) (p1 p2 : Addr) (r nd : Int) (v1 v2 vo : Value) (qb : Nat) (acc : List Item) (n : Nat) (w : World) : Prop :=
  w.cell? p1 = some (.int .i64 r) ∧ w.cell? ⟨p1.block, p1.off + 1, none⟩ = some (.int .i64 nd) ∧ w.cell? p2 = some (.int .i64 r) ∧ w.cell? ⟨p2.block, p2.off + 1, none⟩ = some (.int .i64 nd) ∧
  KI.Q 31 w 0 (fun _ => True) v1 acc ∧ KI.Q 31 w 0 (fun _ => True) v2 acc ∧ IsQ (Off vo) W.heap.size w qb acc n ∧ Below W.heap.size W w
section
variable {W : World} {p1 p2 : Addr} {r nd : Int} {v1 v2 vo : Value} {qb : Nat} {acc : List Item} {n : Nat} {w w' : World}
theorem KB.step (h : KB W p1 p2 r nd v1 v2 vo qb acc n w) (hb : Below w.heap.size w w') : KB W p1 p2 r nd v1 v2 vo qb acc n w' :=
  ⟨pw_cell_below hb h.1, pw_cell_below hb h.2.1, pw_cell_below hb h.2.2.1, pw_cell_below hb h.2.2.2.1, Kd.Q_below h.2.2.2.2.1 hb, Kd.Q_below h.2.2.2.2.2.1 hb, h.2.2.2.2.2.2.1.below hb, below_step h.2.2.2.2.2.2.2 hb⟩
theorem KB.drew (h : KB W p1 p2 r nd v1 v2 vo qb acc n w) : KB W p1 p2 r nd v1 v2 vo qb acc n w.drew := h.step (below_drew (Below.refl _ _))
theorem KB.drewN (h : KB W p1 p2 r nd v1 v2 vo qb acc n w) (m : Nat) : KB W p1 p2 r nd v1 v2 vo qb acc n (w.drewN m) := h.step (pw_below_drewN (Below.refl _ _) m)
end
set_option maxHeartbeats 4000000 in
set_option maxRecDepth 100000 in
theorem keeps_walk (A : Option Addr) (c : Nat) (xs : List Item) (W : World) (hr : Kd.C KI W A xs.length xs) (hc : xs.length ≤ c) (hw : ∀ x ∈ xs, wfI x) :
    Calls Try.prog 3 #[.slice A xs.length c] W fun e W' => e = .returned (.bool true) ∧ Below W.heap.size W W' := by
  obtain ⟨ys, hys⟩ : ∃ ys, ys = xs.take 100 := ⟨_, rfl⟩
  have hyl : ys.length = min 100 xs.length := by rw [hys, List.length_take]
  have hm1 : (if (100 : Int) < (xs.length : Int) then (100 : Int) else (xs.length : Int)) = (ys.length : Int) := by rw [hyl]; split <;> omega
  have hyc : ys.length ≤ c := by omega
  have hyn : ys.length ≤ 100 := by omega
  have hyx : ys.length ≤ xs.length := by omega
  have HR := Aside0.mk (show Kd.C KI W A ys.length ys by have := C_take hr (m := ys.length) hyx; rwa [show xs.take ys.length = ys by rw [hys, List.length_take]; simp [List.take_take]] at this)
  have HWF := Aside0.mk (show ∀ x ∈ ys, wfI x from fun x hx => hw x (by rw [hys] at hx; exact List.mem_of_mem_take hx))
  have HN := Aside0.mk (show Calls Try.prog 8 #[.slice none 0 0] W (fun e W' => ∃ qb, e = .returned (.tuple #[.pointer (some ⟨qb, 0, none⟩), .int .i64 0]) ∧ IsQ (fun _ => True) W.heap.size W' qb [] 0 ∧ Below W.heap.size W W') from new_ok (fun _ => True) W none 0 [] [] ⟨rfl, by decide, fun h => by simp at h⟩ (by simp) (by simp) rfl (fun k _ => trivial))
  clear hr hw hys hyl
  go_enter Try.func3, Try.ntmps3
  go_upto_region 2 with (first | (go_at_call 8; go_loud (refine HN.out.mono ?_; rintro e w1 ⟨qb, rfl, hq, hb⟩; have HQ := Aside0.mk hq; have HB := Aside0.mk hb; have hsz1 := hb.size; clear hq hb)))
  go_upto_region 4 with (first | (go_at_call 9; go_loud (refine (wakes_calls _).mono ?_; rintro e w2 ⟨rfl, hb⟩; have q0 := Aside0.mk (HQ.out.below hb); have n0 := Aside0.mk (below_step HB.out hb); have hsz2 := hb.size; clear HB HQ hb; have HB := n0; have HQ := q0; clear n0 q0)))
  go_wp2
  go_loopw [6, 28] (fun _ v wr => ∃ (p : Int) (i : Nat) (acc : List Item), v = .int .i64 p ∧ Aside0 (p = (i : Int)) ∧ i ≤ ys.length ∧ acc.length ≤ i ∧ Aside0 (IsQ (fun _ => True) W.heap.size wr qb acc i) ∧ Aside0 (Below W.heap.size W wr)) (fun _ v _ => ys.length - (intOf v).toNat)
  case atStart => exact ⟨_, 0, [], rfl, Aside0.mk rfl, by omega, by simp, HQ, HB⟩
  case round =>
    clear HQ HB hsz1 hsz2
    obtain ⟨p, i, acc, rfl, HP, hi, hal, HQ, HB⟩ := hrel
    by_cases hin : i < ys.length
    · have hlt : decide (p < (ys.length : Int)) = true := decide_eq_true (by rw [HP.out]; omega)
      have hp0 : 0 ≤ p := by rw [HP.out]; omega
      have hp1 : p < (ys.length : Int) := by rw [HP.out]; omega
      have HW : Aside0 (p + 1 = ((i + 1 : Nat) : Int)) := Aside0.mk (by rw [HP.out]; omega)
      obtain ⟨ad, e, hx0, hx1⟩ := at_Ip (Kd.C_below HR.out HB.out) p hp0 hp1
      cases e
      have hrd : rdI ys p = ys.getD i (0, 0) := by unfold rdI; rw [HP.out]; rfl
      rw [hrd] at hx0 hx1
      have HWX := Aside0.mk (HWF.out _ (getD_mem ys i hin))
      clear hrd
      generalize hX : ys.getD i (0, 0) = X at *
      obtain ⟨r, nd⟩ := X
      clear hX
      have hszr := HB.out.size
      go_upto_region 7 with (fail)
      have hb1 := below_alloc (Below.refl wr.heap.size wr) (.cells #[.int .i64 r, .int .i64 nd] 29)
      have hbk1 := blk_new wr (.cells #[.int .i64 r, .int .i64 nd] 29)
      have HQ1 := Aside0.mk (HQ.out.below hb1)
      have HB1 := Aside0.mk (below_step HB.out hb1)
      have hsz1 : (wr.alloc (.cells #[.int .i64 r, .int .i64 nd] 29)).heap.size = wr.heap.size + 1 := by simp
      have hz10 : (wr.alloc (.cells #[.int .i64 r, .int .i64 nd] 29)).cell? ⟨wr.heap.size, 0, none⟩ = some (.int .i64 r) := (blk_cell hbk1 0).trans rfl
      have hz11 : (wr.alloc (.cells #[.int .i64 r, .int .i64 nd] 29)).cell? ⟨wr.heap.size, 1, none⟩ = some (.int .i64 nd) := (blk_cell hbk1 1).trans rfl
      clear hb1 hx0 hx1 HQ HB hbk1
      generalize wr.alloc (.cells #[.int .i64 r, .int .i64 nd] 29) = w1 at *
      have HCL := Aside0.mk (push_calls _ W.heap.size w1 qb i acc (r, nd) HQ1.out HWX.out (by omega) (by omega) (fun k hk => trivial))
      go_wp2_with (first | (go_at_call 10; go_loud (refine HCL.out.mono ?_; rintro e w3 ⟨rfl, hq, hb⟩; have HQ3 := Aside0.mk hq; have HB3 := Aside0.mk (HB1.out.trans hb.1); clear hq hb)))
      go_roundw
      case rel => exact ⟨_, i + 1, pushL acc (r, nd), rfl, HW, by omega, by have := pushL_len acc (r, nd); omega, HQ3, HB3⟩
      case measure => have := HW.out; have := HP.out; simp [intOf] at *; omega
    · have hlt : decide (p < (ys.length : Int)) = false := decide_eq_false (by rw [HP.out]; omega)
      have hal2 : acc.length ≤ ys.length := by omega
      have hszr := HB.out.size
      clear HP hin
      have HL1 := Aside0.mk (list_calls _ W.heap.size wr qb i acc HQ.out)
      go_upto_region 10 with (first | (go_at_call 11; go_loud (refine HL1.out.mono ?_; rintro e w3 ⟨A1, c1, rfl, hq, hb⟩; have HO1 := Aside0.mk hq; have HQ3 := Aside0.mk ((HQ.out.own (M' := Off (.slice A1 acc.length c1)) (fun k _ hlt he => by have := Kd.Q_base hq k he.symm; omega)).below hb); have HB3 := Aside0.mk (below_step HB.out hb); have hsz3 := hb.size; clear hq hb)))
      have HL2 := Aside0.mk (list_calls _ W.heap.size w3 qb i acc HQ3.out)
      go_upto_region 11 with (first | (go_at_call 11; go_loud (refine HL2.out.mono ?_; rintro e w4 ⟨A2, c2, rfl, hq, hb⟩; have HO2 := Aside0.mk (Kd.Q_below HO1.out hb); have HT := Aside0.mk hq; have HQ4 := Aside0.mk (HQ3.out.below hb); have HB4 := Aside0.mk (below_step HB3.out hb); have hne := Aside0.mk (show (Value.slice A1 acc.length c1).ownBlock = none ∨ (Value.slice A1 acc.length c1).ownBlock ≠ (Value.slice A2 acc.length c2).ownBlock from (by rcases h : (Value.slice A1 acc.length c1).ownBlock with _ | g; exact .inl rfl; right; intro he; have h1 := Kd.Q_lt HO1.out g h; have h2 := Kd.Q_base hq g he.symm; omega)); have hsz4 := hb.size; clear hq hb)))
      clear HL1 HL2 HQ HB HQ3 HB3 HO1
      have hB1 : W.heap.size ≤ wr.heap.size := hszr
      generalize hB1E : wr.heap.size = B1 at *
      generalize hB3E : w3.heap.size = B3 at *
      go_wp2
      go_loopw [9, 42] (fun _ v42 wr => ∃ (q : Int) (j : Nat) (L : List Item), v42 = .int .i64 q ∧ Aside0 (q = (j : Int)) ∧ j ≤ acc.length ∧ Aside0 (L.length = acc.length) ∧ Aside0 (KI.Q 31 wr B1 (fun _ => True) (.slice A1 acc.length c1) L) ∧
          Aside0 (KI.Q 31 wr B3 (fun _ => True) (.slice A2 acc.length c2) acc) ∧ Aside0 (IsQ (Off (.slice A1 acc.length c1)) W.heap.size wr qb acc i) ∧ Aside0 (Below W.heap.size W wr)) (fun _ v42 _ => acc.length - (intOf v42).toNat)
      case atStart => exact ⟨_, 0, acc, rfl, Aside0.mk rfl, by omega, Aside0.mk rfl, HO2, HT, HQ4, HB4⟩
      case round =>
        clear HO2 HT HQ4 HB4
        obtain ⟨q, j, L, rfl, HJ, hj, HLL, HO, HT, HQ, HB⟩ := hrel
        by_cases hjn : j < acc.length
        · have hlt2 : decide (q < (acc.length : Int)) = true := decide_eq_true (by rw [HJ.out]; omega)
          have hq0 : 0 ≤ q := by rw [HJ.out]; omega
          have hq1 : q < (acc.length : Int) := by rw [HJ.out]; omega
          have hqn : q.toNat = j := by rw [HJ.out]; rfl
          have HW : Aside0 (q + 1 = ((j + 1 : Nat) : Int)) := Aside0.mk (by rw [HJ.out]; omega)
          obtain ⟨g, o, c', he, hg1, hg2, hcl⟩ := Kd.Q_form HO.out (by rw [HLL.out]; omega)
          injection he with ha hl_ hcc
          clear hl_
          subst ha; subst hcc
          obtain ⟨hx0, hx1, hf0, hf1⟩ := q_elem2 HO.out j hjn
          generalize L.getD j (0, 0) = X at *
          obtain ⟨r, nd⟩ := X
          go_upto_region 15 with (fail)
          generalize bits .xor .i64 r 1 = Z at *
          have hset := q_set1 HO.out j hjn Z
          have hset1 := Aside0.mk hset.1
          have hset2 := Aside0.mk hset.2
          clear hset hx0 hx1 hf0 hf1
          generalize wr.setCell ⟨g, o + j * 2, none⟩ (.int .i64 Z) = w5 at *
          obtain ⟨L', hL', hQ'⟩ := hset1.out
          have HO5 := Aside0.mk hQ'
          have HL5 := Aside0.mk (hL'.trans HLL.out)
          have HQ5 := Aside0.mk (HQ.out.other hset2.out (fun h => h rfl))
          have HT5 := Aside0.mk (Kd.Q_grown1 HT.out KI_E hset2.out (by rcases hne.out with h | h; (simp [Value.ownBlock] at h); exact h))
          have HB5 := Aside0.mk (pw_below_grown HB.out (some g) HB.out.size hset2.out (fun k he => by injection he with he; omega))
          clear hset1 hset2 hL' hQ'
          go_wp2
          go_roundw
          case rel => exact ⟨_, j + 1, L', rfl, HW, by omega, HL5, HO5, HT5, HQ5, HB5⟩
          case measure => have := HW.out; have := HJ.out; simp [intOf] at *; omega
        · have hlt2 : decide (q < (acc.length : Int)) = false := decide_eq_false (by rw [HJ.out]; omega)
          have HL3 := Aside0.mk (list_calls _ W.heap.size wr qb i acc HQ.out)
          go_upto_region 17 with (first | (go_at_call 11; go_loud (refine HL3.out.mono ?_; rintro e w6 ⟨A3, c3, rfl, hq, hb⟩; have HT6 := Aside0.mk (Kd.Q_lower (Kd.Q_below HT.out hb) (Nat.zero_le _)); have H36 := Aside0.mk (Kd.Q_lower hq (Nat.zero_le _)); have HQ6 := Aside0.mk (HQ.out.below hb); have HB6 := Aside0.mk (below_step HB.out hb); clear hq hb)))
          clear HL3 HT HQ HB HO HJ
          go_wp2
          go_loopw [11, 63] (fun _ v63 wr => ∃ (q : Int) (j : Nat), v63 = .int .i64 q ∧ Aside0 (q = (j : Int)) ∧ j ≤ acc.length ∧ Aside0 (KI.Q 31 wr 0 (fun _ => True) (.slice A2 acc.length c2) acc) ∧ Aside0 (KI.Q 31 wr 0 (fun _ => True) (.slice A3 acc.length c3) acc) ∧
              Aside0 (IsQ (Off (.slice A1 acc.length c1)) W.heap.size wr qb acc i) ∧ Aside0 (Below W.heap.size W wr)) (fun _ v63 _ => acc.length - (intOf v63).toNat)
          case atStart => exact ⟨_, 0, rfl, Aside0.mk rfl, by omega, HT6, H36, HQ6, HB6⟩
          case round =>
            clear HT6 H36 HQ6 HB6
            obtain ⟨q, j, rfl, HJ, hj, HT, H3, HQ, HB⟩ := hrel
            by_cases hjn : j < acc.length
            · have hlt2 : decide (q < (acc.length : Int)) = true := decide_eq_true (by rw [HJ.out]; omega)
              have hq0 : 0 ≤ q := by rw [HJ.out]; omega
              have hq1 : q < (acc.length : Int) := by rw [HJ.out]; omega
              have HW : Aside0 (q + 1 = ((j + 1 : Nat) : Int)) := Aside0.mk (by rw [HJ.out]; omega)
              obtain ⟨ad2, e, hx0, hx1⟩ := at_Ip (Kd.Q_reads' HT.out).2.2 q hq0 hq1
              cases e
              obtain ⟨ad3, e, hy0, hy1⟩ := at_Ip (Kd.Q_reads' H3.out).2.2 q hq0 hq1
              cases e
              have hrd : rdI acc q = acc.getD j (0, 0) := by unfold rdI; rw [HJ.out]; rfl
              rw [hrd] at hx0 hx1 hy0 hy1
              have hIn : acc.contains (acc.getD j (0, 0)) = true := by simp; exact getD_mem acc j hjn
              have hWX := HQ.out.good.2.2 _ (getD_mem acc j hjn)
              clear hrd
              generalize acc.getD j (0, 0) = X at *
              obtain ⟨r, nd⟩ := X
              have K0 : KB W (ad2.add (q.toNat * 2)) (ad3.add (q.toNat * 2)) r nd (.slice (some ad2) acc.length c2) (.slice (some ad3) acc.length c3) (.slice A1 acc.length c1) qb acc i wr := ⟨hx0, hx1, hy0, hy1, HT.out, H3.out, HQ.out, HB.out⟩
              have HHas : Aside0 (∀ w, IsQ (Off (.slice A1 acc.length c1)) W.heap.size w qb acc i → Calls Try.prog 12 #[.pointer (some ⟨qb, 0, none⟩), .agg #[.int .i64 r, .int .i64 nd]] w fun e W' => e = .returned (.bool true) ∧ Below w.heap.size w W') := Aside0.mk (fun w h => by have := has_calls _ W.heap.size w qb i acc (r, nd) h hWX; rwa [hIn] at this)
              clear hIn hWX HT H3 HQ HB hx0 hx1 hy0 hy1
              go_upto_region 22 with (fail)
              go_region_held3 (KB W (ad2.add (q.toNat * 2)) (ad3.add (q.toNat * 2)) r nd (.slice (some ad2) acc.length c2) (.slice (some ad3) acc.length c3) (.slice A1 acc.length c1) qb acc i) (first | exact KB.drew (by assumption) | exact KB.drewN (by assumption) _ | exact KB.step (by assumption) (by assumption) | go_keep)
                (first | (go_at_call 12; with_reducible refine (HHas.out _ (And.left (And.right (And.right (And.right (And.right (And.right (And.right (by assumption : KB W (ad2.add (q.toNat * 2)) (ad3.add (q.toNat * 2)) r nd (.slice (some ad2) acc.length c2) (.slice (some ad3) acc.length c3) (.slice A1 acc.length c1) qb acc i _))))))))).mono ?_; rintro e w' ⟨rfl, hb⟩))
              all_goals
                (have KF := Aside0.mk (by assumption : KB W (ad2.add (q.toNat * 2)) (ad3.add (q.toNat * 2)) r nd (.slice (some ad2) acc.length c2) (.slice (some ad3) acc.length c3) (.slice A1 acc.length c1) qb acc i _)
                 clear K0
                 go_wp2
                 go_roundw
                 case rel => exact ⟨_, j + 1, rfl, HW, by omega, Aside0.mk KF.out.2.2.2.2.1, Aside0.mk KF.out.2.2.2.2.2.1, Aside0.mk KF.out.2.2.2.2.2.2.1, Aside0.mk KF.out.2.2.2.2.2.2.2⟩
                 case measure => have := HW.out; have := HJ.out; simp [intOf] at *; omega)
            · have hlt2 : decide (q < (acc.length : Int)) = false := decide_eq_false (by rw [HJ.out]; omega)
              go_wp2
              go_ret
              exact ⟨rfl, HB.out⟩
end Go.Proofs.Ytcnecdlphpkmgaa.Q
