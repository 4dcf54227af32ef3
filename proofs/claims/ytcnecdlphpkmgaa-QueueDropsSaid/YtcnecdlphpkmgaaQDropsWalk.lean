/- QueueDrops: the walk. Condition: the numbers are numbers of 64 bits. -/
import Derived.Test.YtcnecdlphpkmgaaQApart
namespace Go.Proofs.Ytcnecdlphpkmgaa.Q
open Go.RowKit Go.Proofs.YtcnecdlphpkmgaaW.PrintWords Go.Proofs.YtcnecdlphpkmgaaW.PrintLast Go.Proofs.YtcnecdlphpkmgaaW.PrintMore
attribute [local go_sem] max2_int min2_int
attribute [local go_sem high] eqA31
set_option linter.unusedVariables false
set_option linter.unusedSimpArgs false

/-- What the comparing region keeps. -/
abbrev KG (W : World) (p1 p2 : Addr) (r nd : Int) (v1 v2 : Value) (qb : Nat) (acc : List Item) (n : Nat) (w : World) : Prop :=
  w.cell? p1 = some (.int .i64 r) ∧ w.cell? ⟨p1.block, p1.off + 1, none⟩ = some (.int .i64 nd) ∧ w.cell? p2 = some (.int .i64 r) ∧ w.cell? ⟨p2.block, p2.off + 1, none⟩ = some (.int .i64 nd) ∧
  KI.Q 31 w 0 (fun _ => True) v1 acc ∧ KI.Q 31 w 0 (fun _ => True) v2 acc ∧ IsQ (fun _ => True) W.heap.size w qb acc n ∧ Below W.heap.size W w
section
variable {W : World} {p1 p2 : Addr} {r nd : Int} {v1 v2 : Value} {qb : Nat} {acc : List Item} {n : Nat} {w w' : World}
theorem KG.step (h : KG W p1 p2 r nd v1 v2 qb acc n w) (hb : Below w.heap.size w w') : KG W p1 p2 r nd v1 v2 qb acc n w' :=
  ⟨pw_cell_below hb h.1, pw_cell_below hb h.2.1, pw_cell_below hb h.2.2.1, pw_cell_below hb h.2.2.2.1, Kd.Q_below h.2.2.2.2.1 hb, Kd.Q_below h.2.2.2.2.2.1 hb, h.2.2.2.2.2.2.1.below hb, below_step h.2.2.2.2.2.2.2 hb⟩
theorem KG.drew (h : KG W p1 p2 r nd v1 v2 qb acc n w) : KG W p1 p2 r nd v1 v2 qb acc n w.drew := h.step (below_drew (Below.refl _ _))
theorem KG.drewN (h : KG W p1 p2 r nd v1 v2 qb acc n w) (m : Nat) : KG W p1 p2 r nd v1 v2 qb acc n (w.drewN m) := h.step (pw_below_drewN (Below.refl _ _) m)
end
theorem dropL_not (run : Int) (xs : List Item) (nd : Int) : (dropL run xs).contains (run, nd) = false := by
  rw [Bool.eq_false_iff]
  simp only [ne_eq, List.contains_iff_mem]
  intro h
  have := (List.mem_filter.1 h).2
  simp at this
theorem push_drop (run : Int) (xs : List Item) (nd : Int) (hl : xs.length ≤ 200) : pushE (dropL run xs) (run, nd) = 0 := by
  unfold pushE
  rw [if_neg (by rw [dropL_not]; simp), if_neg (by have : (dropL run xs).length ≤ xs.length := List.length_filter_le _ _; omega)]
set_option maxHeartbeats 4000000 in
set_option maxRecDepth 100000 in
theorem drops_walk (A : Option Addr) (c : Nat) (xs : List Item) (run : Int) (W : World) (hr : Kd.C KI W A xs.length xs) (hc : xs.length ≤ c) (hw : ∀ x ∈ xs, wfI x) (hrun : (Lit.int .i64 run).wf = true) :
    Calls Try.prog 7 #[.slice A xs.length c, .int .i64 run] W fun e W' => e = .returned (.bool true) ∧ Below W.heap.size W W' := by
  obtain ⟨ys, hys⟩ : ∃ ys, ys = xs.take 200 := ⟨_, rfl⟩
  have hyl : ys.length = min 200 xs.length := by rw [hys, List.length_take]
  have hm1 : (if (200 : Int) < (xs.length : Int) then (200 : Int) else (xs.length : Int)) = (ys.length : Int) := by rw [hyl]; split <;> omega
  have hyc : ys.length ≤ c := by omega
  have hyn : ys.length ≤ 200 := by omega
  have hyx : ys.length ≤ xs.length := by omega
  have HR := Aside0.mk (show Kd.C KI W A ys.length ys by have := C_take hr (m := ys.length) hyx; rwa [show xs.take ys.length = ys by rw [hys, List.length_take]; simp [List.take_take]] at this)
  have HWF := Aside0.mk (show ∀ x ∈ ys, wfI x from fun x hx => hw x (by rw [hys] at hx; exact List.mem_of_mem_take hx))
  have HN := Aside0.mk (show Calls Try.prog 8 #[.slice none 0 0] W (fun e W' => ∃ qb, e = .returned (.tuple #[.pointer (some ⟨qb, 0, none⟩), .int .i64 0]) ∧ IsQ (fun _ => True) W.heap.size W' qb [] 0 ∧ Below W.heap.size W W') from new_ok (fun _ => True) W none 0 [] [] ⟨rfl, by decide, fun h => by simp at h⟩ (by simp) (by simp) rfl (fun k _ => trivial))
  clear hr hw hys hyl
  go_enter Try.func7, Try.ntmps7
  go_upto_region 2 with (first | (go_at_call 8; go_loud (refine HN.out.mono ?_; rintro e w1 ⟨qb, rfl, hq, hb⟩; have HQ := Aside0.mk hq; have HB := Aside0.mk hb; have hsz1 := hb.size; clear hq hb)))
  go_upto_region 4 with (first | (go_at_call 9; go_loud (refine (wakes_calls _).mono ?_; rintro e w2 ⟨rfl, hb⟩; have q0 := Aside0.mk (HQ.out.below hb); have n0 := Aside0.mk (below_step HB.out hb); have hsz2 := hb.size; clear HB HQ hb; have HB := n0; have HQ := q0; clear n0 q0)))
  go_wp2
  go_loopw [8, 32] (fun _ v wr => ∃ (p : Int) (i : Nat) (acc : List Item), v = .int .i64 p ∧ Aside0 (p = (i : Int)) ∧ i ≤ ys.length ∧ acc.length ≤ i ∧ Aside0 (IsQ (fun _ => True) W.heap.size wr qb acc i) ∧ Aside0 (Below W.heap.size W wr)) (fun _ v _ => ys.length - (intOf v).toNat)
  case atStart => exact ⟨_, 0, [], rfl, Aside0.mk rfl, by omega, by simp, HQ, HB⟩
  case round =>
    clear HQ HB hsz1 hsz2
    obtain ⟨p, i, acc, rfl, HP, hi, hal, HQ, HB⟩ := hrel
    by_cases hin : i < ys.length
    · have hlt : decide (p < (ys.length : Int)) = true := decide_eq_true (by rw [HP.out]; omega)
      have hp0 : 0 ≤ p := by rw [HP.out]; omega
      have hp1 : p < (ys.length : Int) := by rw [HP.out]; omega
      have HW : Aside0 (p + 1 = ((i + 1 : Nat) : Int)) := Aside0.mk (by rw [HP.out]; omega)
      obtain ⟨ad, e, hx0, hx1⟩ := at_Ip (Kd.C_below HR.out HB.out) p hp0 hp1
      cases e
      have hrd : rdI ys p = ys.getD i (0, 0) := by unfold rdI; rw [HP.out]; rfl
      rw [hrd] at hx0 hx1
      have HWX := Aside0.mk (HWF.out _ (getD_mem ys i hin))
      clear hrd
      generalize hX : ys.getD i (0, 0) = X at *
      obtain ⟨r, nd⟩ := X
      clear hX
      have hszr := HB.out.size
      go_upto_region 7 with (fail)
      have hb1 := below_alloc (Below.refl wr.heap.size wr) (.cells #[.int .i64 r, .int .i64 nd] 29)
      have hbk1 := blk_new wr (.cells #[.int .i64 r, .int .i64 nd] 29)
      have HQ1 := Aside0.mk (HQ.out.below hb1)
      have HB1 := Aside0.mk (below_step HB.out hb1)
      have hsz1 : (wr.alloc (.cells #[.int .i64 r, .int .i64 nd] 29)).heap.size = wr.heap.size + 1 := by simp
      have hz10 : (wr.alloc (.cells #[.int .i64 r, .int .i64 nd] 29)).cell? ⟨wr.heap.size, 0, none⟩ = some (.int .i64 r) := (blk_cell hbk1 0).trans rfl
      have hz11 : (wr.alloc (.cells #[.int .i64 r, .int .i64 nd] 29)).cell? ⟨wr.heap.size, 1, none⟩ = some (.int .i64 nd) := (blk_cell hbk1 1).trans rfl
      clear hb1 hx0 hx1 HQ HB hbk1
      generalize wr.alloc (.cells #[.int .i64 r, .int .i64 nd] 29) = w1 at *
      have HCL := Aside0.mk (push_calls _ W.heap.size w1 qb i acc (r, nd) HQ1.out HWX.out (by omega) (by omega) (fun k hk => trivial))
      go_wp2_with (first | (go_at_call 10; go_loud (refine HCL.out.mono ?_; rintro e w3 ⟨rfl, hq, hb⟩; have HQ3 := Aside0.mk hq; have HB3 := Aside0.mk (HB1.out.trans hb.1); clear hq hb)))
      go_roundw
      case rel => exact ⟨_, i + 1, pushL acc (r, nd), rfl, HW, by omega, by have := pushL_len acc (r, nd); omega, HQ3, HB3⟩
      case measure => have := HW.out; have := HP.out; simp [intOf] at *; omega
    · have hlt : decide (p < (ys.length : Int)) = false := decide_eq_false (by rw [HP.out]; omega)
      have hal2 : acc.length ≤ ys.length := by omega
      have hszr := HB.out.size
      clear HP hin
      have HL1 := Aside0.mk (list_calls _ W.heap.size wr qb i acc HQ.out)
      go_upto_region 11 with (first | (go_at_call 11; go_loud (refine HL1.out.mono ?_; rintro e w3 ⟨A1, c1, rfl, hq, hb⟩; have HA := Aside0.mk (Kd.Q_reads' hq).2.2; have HQ3 := Aside0.mk (HQ.out.below hb); have HB3 := Aside0.mk (below_step HB.out hb); have hsz3 := hb.size; clear hq hb)))
      have HG := Aside0.mk HQ.out.good
      have hB1 : W.heap.size ≤ w3.heap.size := by omega
      have HI := Aside0.mk (Kd.Q_nil KI 31 w3 w3.heap.size (fun _ => True))
      have HBB := Aside0.mk (Below.refl w3.heap.size w3)
      clear HL1 HQ HB
      go_wp2
      go_loopw [9, 12, 44] (fun v9 _ v44 wr => ∃ (q : Int) (j : Nat) (A9 : Option Addr) (c9 : Nat), v9 = .slice A9 (kept run acc j).length c9 ∧ v44 = .int .i64 q ∧ Aside0 (q = (j : Int)) ∧ j ≤ acc.length ∧
          Aside0 (KI.Q 31 wr w3.heap.size (fun _ => True) (.slice A9 (kept run acc j).length c9) (kept run acc j)) ∧ Aside0 (Below w3.heap.size w3 wr)) (fun _ _ v44 _ => acc.length - (intOf v44).toNat)
      case atStart => exact ⟨_, 0, none, 0, by simp [kept], rfl, Aside0.mk rfl, by omega, by simpa [kept] using HI, HBB⟩
      case round =>
        clear HI HBB
        obtain ⟨q, j, A9, c9, rfl, rfl, HJ, hj, HI, HBB⟩ := hrel
        by_cases hjn : j < acc.length
        · have hlt2 : decide (q < (acc.length : Int)) = true := decide_eq_true (by rw [HJ.out]; omega)
          have hq0 : 0 ≤ q := by rw [HJ.out]; omega
          have hq1 : q < (acc.length : Int) := by rw [HJ.out]; omega
          have HW : Aside0 (q + 1 = ((j + 1 : Nat) : Int)) := Aside0.mk (by rw [HJ.out]; omega)
          obtain ⟨ad2, e, hx0, hx1⟩ := at_Ip (Kd.C_below HA.out HBB.out) q hq0 hq1
          cases e
          have hrd : rdI acc q = acc.getD j (0, 0) := by unfold rdI; rw [HJ.out]; rfl
          rw [hrd] at hx0 hx1
          have hKS := kept_succ run acc j hjn
          have hkl := kept_le run acc j
          clear hrd
          generalize acc.getD j (0, 0) = X at *
          obtain ⟨r, nd⟩ := X
          have hszr := HBB.out.size
          go_upto_region 14 with (fail)
          have hb1 := below_alloc (Below.refl wr.heap.size wr) (.cells #[.int .i64 r, .int .i64 nd] 31)
          have hbk1 := blk_new wr (.cells #[.int .i64 r, .int .i64 nd] 31)
          have HI1 := Aside0.mk (Kd.Q_below HI.out hb1)
          have HB1 := Aside0.mk (below_step HBB.out hb1)
          have hz10 : (wr.alloc (.cells #[.int .i64 r, .int .i64 nd] 31)).cell? ⟨wr.heap.size, 0, none⟩ = some (.int .i64 r) := (blk_cell hbk1 0).trans rfl
          have hz11 : (wr.alloc (.cells #[.int .i64 r, .int .i64 nd] 31)).cell? ⟨wr.heap.size, 1, none⟩ = some (.int .i64 nd) := (blk_cell hbk1 1).trans rfl
          clear hb1 hx0 hx1 HI HBB hbk1
          generalize wr.alloc (.cells #[.int .i64 r, .int .i64 nd] 31) = w1 at *
          generalize wr.heap.size = gb at *
          by_cases heq : r = run
          · have hcond : (r == run) = true := by simp [heq]
            have hcond2 : decide (r = run) = true := by simp [heq]
            rw [if_pos hcond, List.append_nil] at hKS
            clear heq
            go_wp2
            go_roundw
            case rel => exact ⟨_, j + 1, A9, c9, by rw [hKS], rfl, HW, by omega, by rw [hKS]; exact HI1, HB1⟩
            case measure => have := HW.out; have := HJ.out; simp [intOf] at *; omega
          · have hcond : (r == run) = false := by simp [heq]
            have hcond2 : decide (r = run) = false := by simp [heq]
            rw [if_neg (by simpa using heq)] at hKS
            clear heq
            have hlen : (kept run acc j ++ [(r, nd)]).length = (kept run acc j).length + 1 := by simp
            have HKS := Aside0.mk hKS
            clear hKS
            go_wp2_with (first | ((with_reducible refine gate_builtin (b := .append) (xs := #[.tmp 52, .tmp 54]) rfl ?_); at_builtin; go_loud (refine Kd.Q_append KI (w0 := w3) w3.heap.size rfl (.tmp 52) (.tmp 54) 32 31 (.agg #[.int .i64 0, .int .i64 0]) 16 rfl Try.underlying32 info31 rfl (by decide) (by decide) (.slice A9 (kept run acc j).length c9) (kept run acc j) (r, nd) [.int .i64 r, .int .i64 nd] (fun _ => True) (fun _ => False) rfl rfl ?pM (fun _ hk => hk.elim) (fun _ _ => trivial) HI1.out HB1.out HB1.out.size ?pL ?_; (case pM => exact ⟨[.int .i64 r], [.int .i64 nd], rfl, rfl, rfl⟩); (case pL => omega); intro v1 w4 ho hb hg hat; obtain ⟨A6, c6, rfl, hcc⟩ := Kd.Q_slice ho; have HI4 := Aside0.mk ho; have HB4 := Aside0.mk hb; clear ho hb hg hat)))
            go_roundw
            case rel => exact ⟨_, j + 1, A6, c6, by rw [HKS.out]; simp, rfl, HW, by omega, by rw [HKS.out]; exact HI4, HB4⟩
            case measure => have := HW.out; have := HJ.out; simp [intOf] at *; omega
        · have hlt2 : decide (q < (acc.length : Int)) = false := decide_eq_false (by rw [HJ.out]; omega)
          have hje : j = acc.length := by omega
          subst hje
          rw [kept_full] at *
          have hHD := dropL_not run acc 0
          have hPD := push_drop run acc 0 (by omega)
          have hGD := HG.out.dropL run
          have hszr := HBB.out.size
          have HQ := Aside0.mk ((HQ3.out.own (M' := Off (.slice A9 (dropL run acc).length c9)) (fun k _ hlt he => by have := Kd.Q_base HI.out k he.symm; omega)).below HBB.out)
          have HB := Aside0.mk (HB3.out.trans (HBB.out.mono hB1))
          have HDr := Aside0.mk (drop_calls _ W.heap.size wr qb i acc run HQ.out (by omega))
          have hdl : (dropL run acc).length ≤ acc.length := List.length_filter_le _ _
          generalize dropL run acc = D at *
          clear HQ3 HB3 HA
          go_upto_region 18 with (first | (go_at_call 16; go_loud (refine HDr.out.mono ?_; rintro e w5 ⟨rfl, hq, hb⟩; have HI5 := Aside0.mk (Kd.Q_kept (Kd.Q_tight KI_E HI.out) hb.2 (fun k hk hn => hn hk)); have HQ5 := Aside0.mk (hq.own (M' := fun _ => True) (fun _ _ _ => trivial)); have HB5 := Aside0.mk (HB.out.trans hb.1); have hsz5 := hb.1.size; clear hq hb)))
          have HL2 := Aside0.mk (list_calls _ W.heap.size w5 qb i D HQ5.out)
          go_upto_region 19 with (first | (go_at_call 11; go_loud (refine HL2.out.mono ?_; rintro e w6 ⟨A7, c7, rfl, hq, hb⟩; have HI6 := Aside0.mk (Kd.Q_lower (Kd.Q_mono (Kd.Q_below HI5.out hb) (fun _ _ => trivial) (ok' := fun _ => True)) (Nat.zero_le _)); have HO6 := Aside0.mk (Kd.Q_lower hq (Nat.zero_le _)); have HQ6 := Aside0.mk (HQ5.out.below hb); have HB6 := Aside0.mk (below_step HB5.out hb); have hsz6 := hb.size; clear hq hb)))
          clear HL2 HDr HI HQ HB HI5 HQ5 HB5 HBB HJ
          go_wp2
          go_loopw [15, 78] (fun _ v78 wr => ∃ (q : Int) (j : Nat), v78 = .int .i64 q ∧ Aside0 (q = (j : Int)) ∧ j ≤ D.length ∧ Aside0 (KI.Q 31 wr 0 (fun _ => True) (.slice A7 D.length c7) D) ∧ Aside0 (KI.Q 31 wr 0 (fun _ => True) (.slice A9 D.length c9) D) ∧
              Aside0 (IsQ (fun _ => True) W.heap.size wr qb D i) ∧ Aside0 (Below W.heap.size W wr)) (fun _ v78 _ => D.length - (intOf v78).toNat)
          case atStart => exact ⟨_, 0, rfl, Aside0.mk rfl, by omega, HO6, HI6, HQ6, HB6⟩
          case round =>
            clear HO6 HI6 HQ6 HB6
            obtain ⟨q, j, rfl, HJ, hj, HT, H3, HQ, HB⟩ := hrel
            by_cases hjn : j < D.length
            · have hlt2 : decide (q < (D.length : Int)) = true := decide_eq_true (by rw [HJ.out]; omega)
              have hq0 : 0 ≤ q := by rw [HJ.out]; omega
              have hq1 : q < (D.length : Int) := by rw [HJ.out]; omega
              have HW : Aside0 (q + 1 = ((j + 1 : Nat) : Int)) := Aside0.mk (by rw [HJ.out]; omega)
              obtain ⟨ad2, e, hx0, hx1⟩ := at_Ip (Kd.Q_reads' HT.out).2.2 q hq0 hq1
              cases e
              obtain ⟨ad3, e, hy0, hy1⟩ := at_Ip (Kd.Q_reads' H3.out).2.2 q hq0 hq1
              cases e
              have hrd : rdI D q = D.getD j (0, 0) := by unfold rdI; rw [HJ.out]; rfl
              rw [hrd] at hx0 hx1 hy0 hy1
              have hAh : aheadE D (D.getD j (0, 0)) = q := by rw [HJ.out]; exact aheadE_get D hGD.1 j hjn
              clear hrd
              generalize D.getD j (0, 0) = X at *
              obtain ⟨r, nd⟩ := X
              have K0 : KG W (ad2.add (q.toNat * 2)) (ad3.add (q.toNat * 2)) r nd (.slice (some ad2) D.length c7) (.slice (some ad3) D.length c9) qb D i wr := ⟨hx0, hx1, hy0, hy1, HT.out, H3.out, HQ.out, HB.out⟩
              have HAh : Aside0 (∀ w, IsQ (fun _ => True) W.heap.size w qb D i → Calls Try.prog 19 #[.pointer (some ⟨qb, 0, none⟩), .agg #[.int .i64 r, .int .i64 nd]] w fun e W' => e = .returned (.int .i64 q) ∧ Below w.heap.size w W') := Aside0.mk (fun w h => by have := ahead_calls _ W.heap.size w qb i D (r, nd) h; rwa [hAh] at this)
              clear hAh HT H3 HQ HB hx0 hx1 hy0 hy1 hHD hPD
              go_upto_region 24 with (fail)
              go_region_held3 (KG W (ad2.add (q.toNat * 2)) (ad3.add (q.toNat * 2)) r nd (.slice (some ad2) D.length c7) (.slice (some ad3) D.length c9) qb D i) (first | exact KG.drew (by assumption) | exact KG.drewN (by assumption) _ | exact KG.step (by assumption) (by assumption) | go_keep)
                (first | (go_at_call 19; with_reducible refine (HAh.out _ (And.left (And.right (And.right (And.right (And.right (And.right (And.right (by assumption : KG W (ad2.add (q.toNat * 2)) (ad3.add (q.toNat * 2)) r nd (.slice (some ad2) D.length c7) (.slice (some ad3) D.length c9) qb D i _))))))))).mono ?_; rintro e w' ⟨rfl, hb⟩))
              all_goals
                (have KF := Aside0.mk (by assumption : KG W (ad2.add (q.toNat * 2)) (ad3.add (q.toNat * 2)) r nd (.slice (some ad2) D.length c7) (.slice (some ad3) D.length c9) qb D i _)
                 clear K0
                 go_wp2
                 go_roundw
                 case rel => exact ⟨_, j + 1, rfl, HW, by omega, Aside0.mk KF.out.2.2.2.2.1, Aside0.mk KF.out.2.2.2.2.2.1, Aside0.mk KF.out.2.2.2.2.2.2.1, Aside0.mk KF.out.2.2.2.2.2.2.2⟩
                 case measure => have := HW.out; have := HJ.out; simp [intOf] at *; omega)
            · have hlt2 : decide (q < (D.length : Int)) = false := decide_eq_false (by rw [HJ.out]; omega)
              have hszr := HB.out.size
              have wfr : wfI (run, 0) := ⟨hrun, rfl⟩
              have hHas := has_calls _ W.heap.size wr qb i D (run, 0) HQ.out wfr
              rw [hHD] at hHas
              have HHas := Aside0.mk (show Calls Try.prog 12 #[.pointer (some ⟨qb, 0, none⟩), .agg #[.int .i64 run, .int .i64 0]] wr _ from hHas)
              have HPush : Aside0 (∀ w, W.heap.size ≤ w.heap.size → IsQ (fun _ => True) W.heap.size w qb D i → Calls Try.prog 10 #[.pointer (some ⟨qb, 0, none⟩), .agg #[.int .i64 run, .int .i64 0]] w fun e W' => e = .returned (.int .i64 0) ∧ Below W.heap.size w W') := Aside0.mk (fun w hsz h => by
                have := push_calls _ W.heap.size w qb i D (run, 0) h wfr (by omega) hsz (fun _ _ => trivial)
                rw [hPD] at this
                exact this.mono fun e w' hh => ⟨hh.1, hh.2.2.1⟩)
              clear hHas hHD hPD wfr
              go_wp2_with (first
                | (go_at_call 12; go_loud (refine HHas.out.mono ?_; rintro e w7 ⟨rfl, hb⟩; have HQ7 := Aside0.mk (HQ.out.below hb); have HB7 := Aside0.mk (below_step HB.out hb); have hsz7 := hb.size; clear hb))
                | (go_at_call 10; go_loud (refine (HPush.out w7 (by omega) HQ7.out).mono ?_; rintro e w8 ⟨rfl, hb⟩; have HB8 := Aside0.mk (HB7.out.trans hb); clear hb)))
              go_ret
              exact ⟨by first | rfl | simp, HB8.out⟩
end Go.Proofs.Ytcnecdlphpkmgaa.Q
