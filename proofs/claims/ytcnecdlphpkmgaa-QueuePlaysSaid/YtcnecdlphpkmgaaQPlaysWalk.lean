/- QueuePlays: the walk. Condition: the numbers are numbers of 64 bits. -/
import Derived.Test.YtcnecdlphpkmgaaQSame
import Derived.Test.YtcnecdlphpkmgaaQOpenActs
namespace Go.Proofs.Ytcnecdlphpkmgaa.Q
open Go.RowKit Go.Proofs.YtcnecdlphpkmgaaW.PrintWords Go.Proofs.YtcnecdlphpkmgaaW.PrintLast Go.Proofs.YtcnecdlphpkmgaaW.PrintMore
attribute [local go_sem] max2_int min2_int
attribute [local go_sem high] eqA31 eqA42
set_option linter.unusedVariables false
set_option linter.unusedSimpArgs false

theorem row31_r {N N' : Nat} {ok : Nat → Prop} {W W' : World} {v : Value} {L : List Item} (h : KI.Q 31 W N ok v L) (hf : Fr N' (MR W) W W') : KI.Q 31 W' N ok v L := by
  refine Kd.Q_mono (Kd.Q_kept (ok := fun k => ok k ∧ ∃ cs, W.heap[k]? = some (.cells cs 31 (0, 0))) (Kd.Q_mono (Kd.Q_bound h) (fun k hk => ?_)) hf.2 (fun k ⟨_, cs, hc⟩ hm => ?_)) (fun _ hk => hk.1)
  · obtain ⟨h0, _, _, q, hq, cells, hc⟩ := hk
    rw [KI_E] at hq
    simp at hq
    subst hq
    exact ⟨h0, cells, hc⟩
  · rcases hm with hm | ⟨cs', t, hc', ht⟩
    · have := blk_lt hc; omega
    · rw [hc] at hc'; injection hc' with hc'; injection hc' with _ hc'; rcases ht with ht | ht <;> (rw [ht] at hc'; exact absurd hc' (by decide))
theorem IsR.grown {N N' : Nat} {ok : Nat → Prop} {W w1 : World} {rb : Nat} {xs L : List Item} {v : Value} (h : IsR N W rb xs) (hq : KI.Q 31 W N' ok v L) (hg : W.grownBy w1 v.ownBlock) : IsR N w1 rb xs := by
  obtain ⟨u, h1, h2, h3⟩ := h
  exact ⟨u, h1, blk_grown h2 hg (Kd.Q_ne hq h2 (by decide)), Kd.Q_over' h3 (Kd.Q_typed hq) (by rw [KI_E]; simp) hg⟩
theorem popE_form (xs : List Item) : ∃ (a b : Int) (o : Bool), popE xs = .tuple #[.agg #[.int .i64 a, .int .i64 b], .bool o] := by
  cases xs with
  | nil => exact ⟨0, 0, false, rfl⟩
  | cons x t => exact ⟨x.1, x.2, true, rfl⟩
theorem Good.drop {xs : List Item} (h : Good xs) (k : Nat) : Good (xs.drop k) := ⟨h.1.sublist (List.drop_sublist _ _), Nat.le_trans (by rw [List.length_drop]; omega) h.2.1, fun y hy => h.2.2 y (List.mem_of_mem_drop hy)⟩

set_option maxHeartbeats 8000000 in
set_option maxRecDepth 100000 in
theorem plays_walk (A : Option Addr) (c : Nat) (xs : List Item) (A1 : Option Addr) (c1 : Nat) (us : List ActT) (r nd : Int) (W : World) (hr : Kd.C KI W A xs.length xs) (hc : xs.length ≤ c) (hw : ∀ x ∈ xs, wfI x)
    (hr1 : Kd.C KAct W A1 us.length us) (hc1 : us.length ≤ c1) (hw1 : ∀ x ∈ us, wfI x.2) (hx : wfI (r, nd)) :
    Calls Try.prog 4 #[.slice A xs.length c, .slice A1 us.length c1, .agg #[.int .i64 r, .int .i64 nd]] W fun e W' => e = .returned (.bool true) ∧ Below W.heap.size W W' := by
  obtain ⟨ys, hys⟩ : ∃ ys, ys = xs.take 300 := ⟨_, rfl⟩
  have hyl : ys.length = min 300 xs.length := by rw [hys, List.length_take]
  have hm1 : (if (300 : Int) < (xs.length : Int) then (300 : Int) else (xs.length : Int)) = (ys.length : Int) := by rw [hyl]; split <;> omega
  have hyc : ys.length ≤ c := by omega
  have hyn : ys.length ≤ 300 := by omega
  have hyx : ys.length ≤ xs.length := by omega
  obtain ⟨zs, hzs⟩ : ∃ zs, zs = us.take 100 := ⟨_, rfl⟩
  have hzl : zs.length = min 100 us.length := by rw [hzs, List.length_take]
  have hm2 : (if (100 : Int) < (us.length : Int) then (100 : Int) else (us.length : Int)) = (zs.length : Int) := by rw [hzl]; split <;> omega
  have hzc : zs.length ≤ c1 := by omega
  have hzn : zs.length ≤ 100 := by omega
  have hzx : zs.length ≤ us.length := by omega
  have HR := Aside0.mk (show Kd.C KI W A ys.length ys by have := C_take hr (m := ys.length) hyx; rwa [show xs.take ys.length = ys by rw [hys, List.length_take]; simp [List.take_take]] at this)
  have HWF := Aside0.mk (show ∀ x ∈ ys, wfI x from fun x hx => hw x (by rw [hys] at hx; exact List.mem_of_mem_take hx))
  have HZ := Aside0.mk (show Kd.C KAct W A1 zs.length zs by
    obtain ⟨g1, g2, g3⟩ := hr1
    refine ⟨rfl, by omega, fun h0 => ?_⟩
    obtain ⟨ad, e, hc⟩ := g3 (by omega)
    exact ⟨ad, e, fun j p hj => hc j p (by rw [hzs, List.getElem?_take] at hj; split at hj <;> simp_all)⟩)
  have HZW := Aside0.mk (show ∀ x ∈ zs, wfI x.2 from fun x hx => hw1 x (by rw [hzs] at hx; exact List.mem_of_mem_take hx))
  have HX := Aside0.mk hx
  clear hr hw hys hyl hr1 hw1 hzs hzl hx
  have hb0 := below_alloc (below_alloc (Below.refl W.heap.size W) (.cells #[.int .i64 r, .int .i64 nd] 29)) (.cells #[.slice none 0 0] 40)
  have hk0 := blk_alloc (blk_new W (.cells #[.int .i64 r, .int .i64 nd] 29)) (.cells #[.slice none 0 0] 40)
  have hr0 := blk_new (W.alloc (.cells #[.int .i64 r, .int .i64 nd] 29)) (.cells #[.slice none 0 0] 40)
  have hs0 : (W.alloc (.cells #[.int .i64 r, .int .i64 nd] 29)).heap.size = W.heap.size + 1 := by simp
  rw [hs0] at hr0
  have HRR := Aside0.mk (show IsR W.heap.size _ (W.heap.size + 1) [] from ⟨_, by omega, hr0, Kd.Q_nil _ _ _ _ _⟩)
  have HK := Aside0.mk hk0
  have HB := Aside0.mk hb0
  clear hb0 hk0 hr0
  go_enter Try.func4, Try.ntmps4
  go_upto_region 4 with (fail)
  have hszA : ((W.alloc (.cells #[.int .i64 r, .int .i64 nd] 29)).alloc (.cells #[.slice none 0 0] 40)).heap.size = W.heap.size + 2 := by simp
  generalize (W.alloc (.cells #[.int .i64 r, .int .i64 nd] 29)).alloc (.cells #[.slice none 0 0] 40) = w1 at *
  clear hs0 hszA
  have HI := Aside0.mk (Kd.Q_nil KI 31 w1 W.heap.size (fun _ => True))
  obtain ⟨rb, hrb⟩ : ∃ rb, rb = W.heap.size + 1 := ⟨_, rfl⟩
  rw [← hrb] at HRR ⊢
  clear hrb
  go_wp2
  go_loopw [7, 9, 11, 28] (fun v7 v9 _ v28 wr => ∃ (p : Int) (i : Nat) (L acc : List Item) (E : Int) (A5 : Option Addr) (c5 : Nat), v7 = .slice A5 L.length c5 ∧ v9 = .int .i64 E ∧ v28 = .int .i64 p ∧ Aside0 (p = (i : Int)) ∧ i ≤ ys.length ∧ Aside0 (L = ys.take i) ∧ acc.length ≤ i ∧
      Aside0 (KI.Q 31 wr W.heap.size (fun _ => True) (.slice A5 L.length c5) L) ∧ Aside0 (IsR W.heap.size wr rb acc) ∧ Aside0 ((E = 0 → newR [] ys = newR acc (ys.drop i)) ∧ (E ≠ 0 → (newR [] ys).1 = E)) ∧ Aside0 (wr.heap[W.heap.size]? = some (.cells #[.int .i64 r, .int .i64 nd] 29 (0, 0))) ∧ Aside0 (Below W.heap.size W wr)) (fun _ _ _ v28 _ => ys.length - (intOf v28).toNat)
  case atStart => exact ⟨_, 0, [], [], 0, none, 0, rfl, rfl, rfl, Aside0.mk rfl, by omega, Aside0.mk rfl, by simp, HI, HRR, Aside0.mk ⟨fun _ => rfl, fun h => absurd rfl h⟩, HK, HB⟩
  case round =>
    clear HI HRR HK HB
    obtain ⟨p, i, L, acc, E, A5, c5, rfl, rfl, rfl, HP, hi, HLE, hal, HI, HRR, HNE, HK, HB⟩ := hrel
    by_cases hin : i < ys.length
    · have hlt : decide (p < (ys.length : Int)) = true := decide_eq_true (by rw [HP.out]; omega)
      have hp0 : 0 ≤ p := by rw [HP.out]; omega
      have hp1 : p < (ys.length : Int) := by rw [HP.out]; omega
      have HW : Aside0 (p + 1 = ((i + 1 : Nat) : Int)) := Aside0.mk (by rw [HP.out]; omega)
      obtain ⟨ad, e, hx0, hx1⟩ := at_Ip (Kd.C_below HR.out HB.out) p hp0 hp1
      cases e
      have hrd : rdI ys p = ys.getD i (0, 0) := by unfold rdI; rw [HP.out]; rfl
      rw [hrd] at hx0 hx1
      have HTS := Aside0.mk (show ys.take (i + 1) = L ++ [ys.getD i (0, 0)] by rw [HLE.out]; exact take_succ_getD ys i hin)
      have HST := Aside0.mk (newR_step acc ys i hin)
      have hLl : L.length ≤ 300 := by rw [HLE.out, List.length_take]; omega
      clear hrd
      generalize hX : ys.getD i (0, 0) = X at *
      obtain ⟨r2, nd2⟩ := X
      clear hX
      have hszr := HB.out.size
      go_upto_region 7 with (fail)
      have hb1 := below_alloc (Below.refl wr.heap.size wr) (.cells #[.int .i64 r2, .int .i64 nd2] 29)
      have hbk1 := blk_new wr (.cells #[.int .i64 r2, .int .i64 nd2] 29)
      have HI1 := Aside0.mk (Kd.Q_below HI.out hb1)
      have HR1 := Aside0.mk (HRR.out.below hb1)
      have HK1 := Aside0.mk (blk_below HK.out hb1)
      have HB1 := Aside0.mk (below_step HB.out hb1)
      have HBK1 := Aside0.mk hbk1
      have hz10 : (wr.alloc (.cells #[.int .i64 r2, .int .i64 nd2] 29)).cell? ⟨wr.heap.size, 0, none⟩ = some (.int .i64 r2) := (blk_cell hbk1 0).trans rfl
      have hz11 : (wr.alloc (.cells #[.int .i64 r2, .int .i64 nd2] 29)).cell? ⟨wr.heap.size, 1, none⟩ = some (.int .i64 nd2) := (blk_cell hbk1 1).trans rfl
      clear hb1 hx0 hx1 HI HRR HK HB hbk1
      generalize wr.alloc (.cells #[.int .i64 r2, .int .i64 nd2] 29) = w2 at *
      generalize hgb : wr.heap.size = gb at *
      have hlen : (L ++ [(r2, nd2)]).length = L.length + 1 := by simp
      go_upto_region 8 with (first | ((with_reducible refine gate_builtin (b := .append) (xs := #[.tmp 32, .tmp 34]) rfl ?_); at_builtin; go_loud (refine Kd.Q_append KI (w0 := W) W.heap.size rfl (.tmp 32) (.tmp 34) 32 31 (.agg #[.int .i64 0, .int .i64 0]) 16 rfl Try.underlying32 info31 rfl (by decide) (by decide) (.slice A5 L.length c5) L (r2, nd2) [.int .i64 r2, .int .i64 nd2] (fun _ => True) (fun _ => False) rfl rfl ?pM (fun _ hk => hk.elim) (fun _ _ => trivial) HI1.out HB1.out HB1.out.size ?pL ?_; (case pM => exact ⟨[.int .i64 r2], [.int .i64 nd2], rfl, rfl, rfl⟩); (case pL => omega); intro v1 w4 ho hb hg hat; obtain ⟨A6, c6, rfl, hcc6⟩ := Kd.Q_slice ho; have HI4 := Aside0.mk ho; have HB4 := Aside0.mk hb; have HR4 := Aside0.mk (HR1.out.grown HI1.out hg); have HK4 := Aside0.mk (blk_grown HK1.out hg (Kd.Q_ne HI1.out HK1.out (by decide))); have HBK4 := Aside0.mk (blk_grown HBK1.out hg (Kd.Q_ne HI1.out HBK1.out (by decide))); have hsz4 := hb.size; clear ho hb hg hat)))
      clear hz10 hz11 HI1 HB1 HR1 HK1 HBK1
      by_cases hE : E = 0
      · subst hE
        have HNX := Aside0.mk (HNE.out.1 rfl)
        have hz40 : w4.cell? ⟨gb, 0, none⟩ = some (.int .i64 r2) := (blk_cell HBK4.out 0).trans rfl
        have hz41 : w4.cell? ⟨gb, 1, none⟩ = some (.int .i64 nd2) := (blk_cell HBK4.out 1).trans rfl
        have HCL := Aside0.mk (refPush_calls W.heap.size w4 rb acc (r2, nd2) HR4.out (by omega) hsz4)
        have hpl := pushL_len acc (r2, nd2)
        have HPL := Aside0.mk (show ∀ E, E = pushE acc (r2, nd2) → ((E = 0 → newR [] ys = newR (pushL acc (r2, nd2)) (ys.drop (i + 1))) ∧ (E ≠ 0 → (newR [] ys).1 = E)) from fun E hE => by
          rw [HNX.out, HST.out]
          subst hE
          exact ⟨fun h => by rw [if_pos h], fun h => by rw [if_neg h]⟩)
        obtain ⟨E2, hE2⟩ : ∃ E2, E2 = pushE acc (r2, nd2) := ⟨_, rfl⟩
        rw [← hE2] at HCL
        have HE2 := Aside0.mk hE2
        clear hE2
        go_wp2_with (first | (go_at_call 13; go_loud (refine HCL.out.mono ?_; rintro e w5 ⟨rfl, hr5, hb⟩; have HR5 := Aside0.mk hr5; have HI5 := Aside0.mk (row31_r HI4.out hb); have HK5 := Aside0.mk (blk_r HK4.out hb (by decide) (by decide)); have HB5 := Aside0.mk (HB4.out.trans hb.1); clear hr5 hb)))
        go_roundw
        case rel => exact ⟨_, i + 1, L ++ [(r2, nd2)], pushL acc (r2, nd2), E2, A6, c6, by simp, rfl, rfl, HW, by omega, Aside0.mk HTS.out.symm, by omega, HI5, HR5, Aside0.mk (HPL.out E2 HE2.out), HK5, HB5⟩
        case measure => have := HW.out; have := HP.out; simp [intOf] at *; omega
      · have hnz : (E == 0) = false := by simp [hE]
        have hnz2 : decide (E = 0) = false := decide_eq_false hE
        have HE := Aside0.mk hE
        clear hE
        go_wp2
        go_roundw
        case rel => exact ⟨_, i + 1, L ++ [(r2, nd2)], acc, E, A6, c6, by simp, rfl, rfl, HW, by omega, Aside0.mk HTS.out.symm, by omega, HI4, HR4, Aside0.mk ⟨fun h => absurd h HE.out, HNE.out.2⟩, HK4, HB4⟩
        case measure => have := HW.out; have := HP.out; simp [intOf] at *; omega
    · have hlt : decide (p < (ys.length : Int)) = false := decide_eq_false (by rw [HP.out]; omega)
      have hie : i = ys.length := by omega
      subst hie
      have hLy : L = ys := by rw [HLE.out, List.take_length]
      subst hLy
      have hszr := HB.out.size
      by_cases hE : E = 0
      · subst hE
        have hN0 : newR [] L = (0, acc) := by rw [HNE.out.1 rfl, List.drop_length]; rfl
        have HNEW := Aside0.mk (new_ok (fun _ => True) wr A5 c5 L acc (Kd.Q_reads' HI.out).2.2 HWF.out (by omega) hN0 (fun _ _ => trivial))
        clear hN0 HNE HLE HP hin
        go_upto_region 12 with (first | (go_at_call 8; go_loud (refine HNEW.out.mono ?_; rintro e w5 ⟨qb, rfl, hq, hb⟩; have HQ5 := Aside0.mk (hq.lower hszr); have HR5 := Aside0.mk (HRR.out.below hb); have HK5 := Aside0.mk (blk_below HK.out hb); have HB5 := Aside0.mk (below_step HB.out hb); clear hq hb)))
        clear HNEW HI HRR HK HB
        go_upto_region 16 with (first | (go_at_call 9; go_loud (refine (wakes_calls _).mono ?_; rintro e w6 ⟨rfl, hb⟩; have HQ6 := Aside0.mk (HQ5.out.below hb); have HR6 := Aside0.mk (HR5.out.below hb); have HK6 := Aside0.mk (blk_below HK5.out hb); have HB6 := Aside0.mk (below_step HB5.out hb); clear hb)))
        clear HQ5 HR5 HK5 HB5
        go_wp2
        go_loopw [69] (fun v69 wr => ∃ (p : Int) (i : Nat) (acc : List Item) (n : Nat), v69 = .int .i64 p ∧ Aside0 (p = (i : Int)) ∧ i ≤ zs.length ∧ n ≤ 300 + i ∧ Aside0 (IsQ (fun _ => True) W.heap.size wr qb acc n) ∧ Aside0 (IsR W.heap.size wr rb acc) ∧ Aside0 (wr.heap[W.heap.size]? = some (.cells #[.int .i64 r, .int .i64 nd] 29 (0, 0))) ∧ Aside0 (Below W.heap.size W wr)) (fun v69 _ => zs.length - (intOf v69).toNat)
        case atStart => exact ⟨_, 0, acc, L.length, rfl, Aside0.mk rfl, by omega, by omega, HQ6, HR6, HK6, HB6⟩
        case round =>
          clear HQ6 HR6 HK6 HB6 hal
          obtain ⟨p, i, acc, n, rfl, HP, hi, hnn, HQ, HRR, HK, HB⟩ := hrel
          have hszr2 := HB.out.size
          by_cases hin : i < zs.length
          · have hlt : decide (p < (zs.length : Int)) = true := decide_eq_true (by rw [HP.out]; omega)
            have hp0 : 0 ≤ p := by rw [HP.out]; omega
            have hp1 : p < (zs.length : Int) := by rw [HP.out]; omega
            have HW : Aside0 (p + 1 = ((i + 1 : Nat) : Int)) := Aside0.mk (by rw [HP.out]; omega)
            obtain ⟨ad, e, hx0, hx1, hx2⟩ := at_Act (Kd.C_below HZ.out HB.out) p hp0 hp1
            cases e
            have HWX := Aside0.mk (show wfI (zs.getD p.toNat (0, 0, 0)).2 by
              have : p.toNat < zs.length := by omega
              rw [List.getD_eq_getElem?_getD, List.getElem?_eq_getElem this]; exact HZW.out _ (List.getElem_mem this))
            generalize zs.getD p.toNat (0, 0, 0) = X at *
            obtain ⟨dd, r2, nd2⟩ := X
            go_upto_region 19 with (fail)
            have hb1 := below_alloc (Below.refl wr.heap.size wr) (.cells #[.int .i64 dd, .int .i64 r2, .int .i64 nd2] 44)
            have hbk1 := blk_new wr (.cells #[.int .i64 dd, .int .i64 r2, .int .i64 nd2] 44)
            have HQ1 := Aside0.mk (HQ.out.below hb1)
            have HR1 := Aside0.mk (HRR.out.below hb1)
            have HK1 := Aside0.mk (blk_below HK.out hb1)
            have HB1 := Aside0.mk (below_step HB.out hb1)
            have HG1 := Aside0.mk hbk1
            have hsz1 : W.heap.size ≤ (wr.alloc (.cells #[.int .i64 dd, .int .i64 r2, .int .i64 nd2] 44)).heap.size := HB1.out.size
            have hz10 : (wr.alloc (.cells #[.int .i64 dd, .int .i64 r2, .int .i64 nd2] 44)).cell? ⟨wr.heap.size, 0, none⟩ = some (.int .i64 dd) := (blk_cell hbk1 0).trans rfl
            clear hb1 hx0 hx1 hx2 HQ HRR HK HB hbk1
            generalize wr.alloc (.cells #[.int .i64 dd, .int .i64 r2, .int .i64 nd2] 44) = w1 at *
            generalize wr.heap.size = gb at *
            obtain ⟨K, hK⟩ : ∃ K, dd.tmod 4 = K := ⟨_, rfl⟩
            have hgood := HQ1.out.good.2.1
            by_cases k1 : K = 1
            · subst k1
              obtain ⟨pa, pb, po, hpf⟩ := popE_form acc
              have hPop := pop_calls (MQ w1) W.heap.size w1 qb n acc HQ1.out.mq hsz1
              rw [hpf] at hPop
              have HPop := Aside0.mk hPop
              have HRP : Aside0 (∀ w, W.heap.size ≤ w.heap.size → IsR W.heap.size w rb acc → Calls Try.prog 15 #[.pointer (some ⟨rb, 0, none⟩)] w fun e W' => e = .returned (.tuple #[.agg #[.int .i64 pa, .int .i64 pb], .bool po]) ∧ IsR W.heap.size W' rb (acc.drop 1) ∧ Fr W.heap.size (MR w) w W') := Aside0.mk (fun w hs h => by have := refPop_calls W.heap.size w rb acc h hs (by omega); rwa [hpf] at this)
              clear hPop hpf
              go_upto_region 25 with (first | (go_at_call 14; go_loud (refine HPop.out.mono ?_; rintro e w3 ⟨rfl, hq, hb⟩; have HQ3 := Aside0.mk (hq.own (M' := fun _ => True) (fun _ _ _ => trivial)); have HR3 := Aside0.mk (HR1.out.behind hb); have HK3 := Aside0.mk (blk_q HK1.out hb (by decide) (by decide)); have HG3 := Aside0.mk (blk_q HG1.out hb (by decide) (by decide)); have HB3 := Aside0.mk (HB1.out.trans hb.1); clear hq hb)))
              have hb4 := below_alloc (Below.refl w3.heap.size w3) (.cells #[.int .i64 pa, .int .i64 pb] 31)
              have HX4 := Aside0.mk (blk_new w3 (.cells #[.int .i64 pa, .int .i64 pb] 31))
              have HQ4 := Aside0.mk (HQ3.out.below hb4)
              have HR4 := Aside0.mk (HR3.out.below hb4)
              have HK4 := Aside0.mk (blk_below HK3.out hb4)
              have HG4 := Aside0.mk (blk_below HG3.out hb4)
              have HB4 := Aside0.mk (below_step HB3.out hb4)
              clear hb4 HQ3 HR3 HK3 HG3 HB3 HQ1 HR1 HK1 HG1 HB1 hz10 HPop
              generalize w3.alloc (.cells #[.int .i64 pa, .int .i64 pb] 31) = w4 at *
              generalize w3.heap.size = gx at *
              have hsz4 := HB4.out.size
              go_upto_region 26 with (first | (go_at_call 15; go_loud (refine (HRP.out w4 hsz4 HR4.out).mono ?_; rintro e w7 ⟨rfl, hr7, hb⟩; have HR7 := Aside0.mk hr7; have HQ7 := Aside0.mk (HQ4.out.behind hb); have HK7 := Aside0.mk (blk_r HK4.out hb (by decide) (by decide)); have HG7 := Aside0.mk (blk_r HG4.out hb (by decide) (by decide)); have HX7 := Aside0.mk (blk_r HX4.out hb (by decide) (by decide)); have HB7 := Aside0.mk (HB4.out.trans hb.1); clear hr7 hb)))
              have hb8 := below_alloc (Below.refl w7.heap.size w7) (.cells #[.int .i64 pa, .int .i64 pb] 42)
              have hbk8 := blk_new w7 (.cells #[.int .i64 pa, .int .i64 pb] 42)
              have hy0 : (w7.alloc (.cells #[.int .i64 pa, .int .i64 pb] 42)).cell? ⟨w7.heap.size, 0, none⟩ = some (.int .i64 pa) := (blk_cell hbk8 0).trans rfl
              have hy1 : (w7.alloc (.cells #[.int .i64 pa, .int .i64 pb] 42)).cell? ⟨w7.heap.size, 1, none⟩ = some (.int .i64 pb) := (blk_cell hbk8 1).trans rfl
              have hx0 : (w7.alloc (.cells #[.int .i64 pa, .int .i64 pb] 42)).cell? ⟨gx, 0, none⟩ = some (.int .i64 pa) := (blk_cell (blk_below HX7.out hb8) 0).trans rfl
              have hx1 : (w7.alloc (.cells #[.int .i64 pa, .int .i64 pb] 42)).cell? ⟨gx, 1, none⟩ = some (.int .i64 pb) := (blk_cell (blk_below HX7.out hb8) 1).trans rfl
              have HQ8 := Aside0.mk (HQ7.out.below hb8)
              have HR8 := Aside0.mk (HR7.out.below hb8)
              have HK8 := Aside0.mk (blk_below HK7.out hb8)
              have HG8 := Aside0.mk (blk_below HG7.out hb8)
              have HB8 := Aside0.mk (below_step HB7.out hb8)
              clear hb8 hbk8 HQ7 HR7 HK7 HG7 HB7 HX7 HQ4 HR4 HK4 HG4 HB4 HX4 HRP
              generalize w7.alloc (.cells #[.int .i64 pa, .int .i64 pb] 42) = w8 at *
              generalize w7.heap.size = gy at *
              go_upto_region 32 with (fail)
              clear hx0 hx1 hy0 hy1
              have HS1 : Aside0 (∀ w, IsQ (fun _ => True) W.heap.size w qb (acc.drop 1) (n) → IsR W.heap.size w rb (acc.drop 1) → Calls Try.prog 18 #[.pointer (some ⟨qb, 0, none⟩), .pointer (some ⟨rb, 0, none⟩), .agg #[.int .i64 r, .int .i64 nd]] w fun e W' => e = .returned (.bool true) ∧ Below w.heap.size w W') := Aside0.mk (fun w h1 h2 => same_calls W.heap.size w qb rb _ _ (r, nd) h1 h2 HX.out)
              have HS2 : Aside0 (∀ w, IsQ (fun _ => True) W.heap.size w qb (acc.drop 1) (n) → IsR W.heap.size w rb (acc.drop 1) → Calls Try.prog 18 #[.pointer (some ⟨qb, 0, none⟩), .pointer (some ⟨rb, 0, none⟩), .agg #[.int .i64 r2, .int .i64 nd2]] w fun e W' => e = .returned (.bool true) ∧ Below w.heap.size w W') := Aside0.mk (fun w h1 h2 => same_calls W.heap.size w qb rb _ _ (r2, nd2) h1 h2 HWX.out)
              have hk80 : w8.cell? ⟨W.heap.size, 0, none⟩ = some (.int .i64 r) := (blk_cell HK8.out 0).trans rfl
              have hk81 : w8.cell? ⟨W.heap.size, 1, none⟩ = some (.int .i64 nd) := (blk_cell HK8.out 1).trans rfl
              go_wp2_with (first | (go_at_call 18; (first | (with_reducible refine (HS1.out w8 HQ8.out HR8.out).mono ?_; rintro e w9 ⟨rfl, hb⟩; have HQ9 := Aside0.mk (HQ8.out.below hb); have HR9 := Aside0.mk (HR8.out.below hb); have HK9 := Aside0.mk (blk_below HK8.out hb); have HG9 := Aside0.mk (blk_below HG8.out hb); have HB9 := Aside0.mk (below_step HB8.out hb); have hg91 : w9.cell? ⟨gb, 1, none⟩ = some (.int .i64 r2) := (blk_cell HG9.out 1).trans rfl; have hg92 : w9.cell? ⟨gb, 2, none⟩ = some (.int .i64 nd2) := (blk_cell HG9.out 2).trans rfl; clear hb) | (with_reducible refine (HS2.out w9 HQ9.out HR9.out).mono ?_; rintro e w10 ⟨rfl, hb⟩; have HQ10 := Aside0.mk (HQ9.out.below hb); have HR10 := Aside0.mk (HR9.out.below hb); have HK10 := Aside0.mk (blk_below HK9.out hb); have HB10 := Aside0.mk (below_step HB9.out hb); clear hb))))
              go_roundw
              case rel => exact ⟨_, i + 1, _, _, rfl, HW, by omega, by omega, HQ10, HR10, HK10, HB10⟩
              case measure => have := HW.out; have := HP.out; simp [intOf] at *; omega
            · by_cases k2 : K = -1
              · subst k2
                obtain ⟨pa, pb, po, hpf⟩ := popE_form acc
                have hPop := pop_calls (MQ w1) W.heap.size w1 qb n acc HQ1.out.mq hsz1
                rw [hpf] at hPop
                have HPop := Aside0.mk hPop
                have HRP : Aside0 (∀ w, W.heap.size ≤ w.heap.size → IsR W.heap.size w rb acc → Calls Try.prog 15 #[.pointer (some ⟨rb, 0, none⟩)] w fun e W' => e = .returned (.tuple #[.agg #[.int .i64 pa, .int .i64 pb], .bool po]) ∧ IsR W.heap.size W' rb (acc.drop 1) ∧ Fr W.heap.size (MR w) w W') := Aside0.mk (fun w hs h => by have := refPop_calls W.heap.size w rb acc h hs (by omega); rwa [hpf] at this)
                clear hPop hpf
                go_upto_region 25 with (first | (go_at_call 14; go_loud (refine HPop.out.mono ?_; rintro e w3 ⟨rfl, hq, hb⟩; have HQ3 := Aside0.mk (hq.own (M' := fun _ => True) (fun _ _ _ => trivial)); have HR3 := Aside0.mk (HR1.out.behind hb); have HK3 := Aside0.mk (blk_q HK1.out hb (by decide) (by decide)); have HG3 := Aside0.mk (blk_q HG1.out hb (by decide) (by decide)); have HB3 := Aside0.mk (HB1.out.trans hb.1); clear hq hb)))
                have hb4 := below_alloc (Below.refl w3.heap.size w3) (.cells #[.int .i64 pa, .int .i64 pb] 31)
                have HX4 := Aside0.mk (blk_new w3 (.cells #[.int .i64 pa, .int .i64 pb] 31))
                have HQ4 := Aside0.mk (HQ3.out.below hb4)
                have HR4 := Aside0.mk (HR3.out.below hb4)
                have HK4 := Aside0.mk (blk_below HK3.out hb4)
                have HG4 := Aside0.mk (blk_below HG3.out hb4)
                have HB4 := Aside0.mk (below_step HB3.out hb4)
                clear hb4 HQ3 HR3 HK3 HG3 HB3 HQ1 HR1 HK1 HG1 HB1 hz10 HPop
                generalize w3.alloc (.cells #[.int .i64 pa, .int .i64 pb] 31) = w4 at *
                generalize w3.heap.size = gx at *
                have hsz4 := HB4.out.size
                go_upto_region 26 with (first | (go_at_call 15; go_loud (refine (HRP.out w4 hsz4 HR4.out).mono ?_; rintro e w7 ⟨rfl, hr7, hb⟩; have HR7 := Aside0.mk hr7; have HQ7 := Aside0.mk (HQ4.out.behind hb); have HK7 := Aside0.mk (blk_r HK4.out hb (by decide) (by decide)); have HG7 := Aside0.mk (blk_r HG4.out hb (by decide) (by decide)); have HX7 := Aside0.mk (blk_r HX4.out hb (by decide) (by decide)); have HB7 := Aside0.mk (HB4.out.trans hb.1); clear hr7 hb)))
                have hb8 := below_alloc (Below.refl w7.heap.size w7) (.cells #[.int .i64 pa, .int .i64 pb] 42)
                have hbk8 := blk_new w7 (.cells #[.int .i64 pa, .int .i64 pb] 42)
                have hy0 : (w7.alloc (.cells #[.int .i64 pa, .int .i64 pb] 42)).cell? ⟨w7.heap.size, 0, none⟩ = some (.int .i64 pa) := (blk_cell hbk8 0).trans rfl
                have hy1 : (w7.alloc (.cells #[.int .i64 pa, .int .i64 pb] 42)).cell? ⟨w7.heap.size, 1, none⟩ = some (.int .i64 pb) := (blk_cell hbk8 1).trans rfl
                have hx0 : (w7.alloc (.cells #[.int .i64 pa, .int .i64 pb] 42)).cell? ⟨gx, 0, none⟩ = some (.int .i64 pa) := (blk_cell (blk_below HX7.out hb8) 0).trans rfl
                have hx1 : (w7.alloc (.cells #[.int .i64 pa, .int .i64 pb] 42)).cell? ⟨gx, 1, none⟩ = some (.int .i64 pb) := (blk_cell (blk_below HX7.out hb8) 1).trans rfl
                have HQ8 := Aside0.mk (HQ7.out.below hb8)
                have HR8 := Aside0.mk (HR7.out.below hb8)
                have HK8 := Aside0.mk (blk_below HK7.out hb8)
                have HG8 := Aside0.mk (blk_below HG7.out hb8)
                have HB8 := Aside0.mk (below_step HB7.out hb8)
                clear hb8 hbk8 HQ7 HR7 HK7 HG7 HB7 HX7 HQ4 HR4 HK4 HG4 HB4 HX4 HRP
                generalize w7.alloc (.cells #[.int .i64 pa, .int .i64 pb] 42) = w8 at *
                generalize w7.heap.size = gy at *
                go_upto_region 32 with (fail)
                clear hx0 hx1 hy0 hy1
                have HS1 : Aside0 (∀ w, IsQ (fun _ => True) W.heap.size w qb (acc.drop 1) (n) → IsR W.heap.size w rb (acc.drop 1) → Calls Try.prog 18 #[.pointer (some ⟨qb, 0, none⟩), .pointer (some ⟨rb, 0, none⟩), .agg #[.int .i64 r, .int .i64 nd]] w fun e W' => e = .returned (.bool true) ∧ Below w.heap.size w W') := Aside0.mk (fun w h1 h2 => same_calls W.heap.size w qb rb _ _ (r, nd) h1 h2 HX.out)
                have HS2 : Aside0 (∀ w, IsQ (fun _ => True) W.heap.size w qb (acc.drop 1) (n) → IsR W.heap.size w rb (acc.drop 1) → Calls Try.prog 18 #[.pointer (some ⟨qb, 0, none⟩), .pointer (some ⟨rb, 0, none⟩), .agg #[.int .i64 r2, .int .i64 nd2]] w fun e W' => e = .returned (.bool true) ∧ Below w.heap.size w W') := Aside0.mk (fun w h1 h2 => same_calls W.heap.size w qb rb _ _ (r2, nd2) h1 h2 HWX.out)
                have hk80 : w8.cell? ⟨W.heap.size, 0, none⟩ = some (.int .i64 r) := (blk_cell HK8.out 0).trans rfl
                have hk81 : w8.cell? ⟨W.heap.size, 1, none⟩ = some (.int .i64 nd) := (blk_cell HK8.out 1).trans rfl
                go_wp2_with (first | (go_at_call 18; (first | (with_reducible refine (HS1.out w8 HQ8.out HR8.out).mono ?_; rintro e w9 ⟨rfl, hb⟩; have HQ9 := Aside0.mk (HQ8.out.below hb); have HR9 := Aside0.mk (HR8.out.below hb); have HK9 := Aside0.mk (blk_below HK8.out hb); have HG9 := Aside0.mk (blk_below HG8.out hb); have HB9 := Aside0.mk (below_step HB8.out hb); have hg91 : w9.cell? ⟨gb, 1, none⟩ = some (.int .i64 r2) := (blk_cell HG9.out 1).trans rfl; have hg92 : w9.cell? ⟨gb, 2, none⟩ = some (.int .i64 nd2) := (blk_cell HG9.out 2).trans rfl; clear hb) | (with_reducible refine (HS2.out w9 HQ9.out HR9.out).mono ?_; rintro e w10 ⟨rfl, hb⟩; have HQ10 := Aside0.mk (HQ9.out.below hb); have HR10 := Aside0.mk (HR9.out.below hb); have HK10 := Aside0.mk (blk_below HK9.out hb); have HB10 := Aside0.mk (below_step HB9.out hb); clear hb))))
                go_roundw
                case rel => exact ⟨_, i + 1, _, _, rfl, HW, by omega, by omega, HQ10, HR10, HK10, HB10⟩
                case measure => have := HW.out; have := HP.out; simp [intOf] at *; omega
              · by_cases k3 : K = 2
                · subst k3
                  clear k1 k2
                  go_upto_region 30 with (fail)
                  have K0 : w1.drew.cell? ⟨gb, 1, none⟩ = some (.int .i64 r2) ∧ w1.drew.cell? ⟨gb, 2, none⟩ = some (.int .i64 nd2) := ⟨(blk_cell (w := w1.drew) HG1.out 1).trans rfl, (blk_cell (w := w1.drew) HG1.out 2).trans rfl⟩
                  have hbd := below_drew (Below.refl w1.heap.size w1)
                  have HQ2 := Aside0.mk (HQ1.out.below hbd)
                  have HR2 := Aside0.mk (HR1.out.below hbd)
                  have HK2 := Aside0.mk (blk_below HK1.out hbd)
                  have HG2 := Aside0.mk (blk_below HG1.out hbd)
                  have HB2 := Aside0.mk (below_step HB1.out hbd)
                  have hsz2 := HB2.out.size
                  refine wp_region_held_drew (S := fun w => w.cell? ⟨gb, 1, none⟩ = some (.int .i64 r2) ∧ w.cell? ⟨gb, 2, none⟩ = some (.int .i64 nd2)) (by kernel_rfl) K0 (fun hHeld => ?_)
                  clear hbd K0 HQ1 HR1 HK1 HG1 HB1 hz10
                  generalize w1.drew = wd at *
                  have hDr := drop_calls (MQ wd) W.heap.size wd qb n acc r2 HQ2.out.mq hsz2
                  have HRD0 : ∀ w, W.heap.size ≤ w.heap.size → IsR W.heap.size w rb acc → Calls Try.prog 17 #[.pointer (some ⟨rb, 0, none⟩), .int .i64 r2] w fun e W' => e = .returned (.int .i64 ((acc.length : Int) - ((dropL r2 acc).length : Int))) ∧ IsR W.heap.size W' rb (dropL r2 acc) ∧ Fr W.heap.size (MR w) w W' := fun w hs h => refDrop_calls W.heap.size w rb acc r2 h hs (by omega)
                  generalize (acc.length : Int) - ((dropL r2 acc).length : Int) = V at hDr HRD0
                  have HCL := Aside0.mk hDr
                  have HRD := Aside0.mk HRD0
                  clear hDr HRD0
                  refine wpAnyH_take (i := 0) (oi := { dst := some 109, op := Op.move (Operand.tmp 12), type := 23, pos := "law.go:73", after := #[], guard := none }) (v := ?va0) rfl (by kernel_rfl) (by kernel_rfl) (by kernel_rfl) (fun _ _ _ h => h) (Or.inl ⟨by rfl, ?ya0⟩) (by assumption) ?_
                  case ya0 => (intro w hSw; (try dsimp only at hSw); go_simp; try with_reducible rfl)
                  (try simp only [Act.put, List.setIfInBounds_toArray, List.set_cons_zero, List.set_cons_succ])
                  refine wpAnyH_take (i := 1) (oi := { dst := some 110, op := Op.fieldAddr 44 (Operand.tmp 15) 1, type := 0, pos := "law.go:73", after := #[], guard := none }) (v := ?va1) rfl (by kernel_rfl) (by kernel_rfl) (by kernel_rfl) (fun _ _ _ h => h) (Or.inl ⟨by rfl, ?ya1⟩) (by assumption) ?_
                  case ya1 => (intro w hSw; (try dsimp only at hSw); go_simp; try with_reducible rfl)
                  (try simp only [Act.put, List.setIfInBounds_toArray, List.set_cons_zero, List.set_cons_succ])
                  refine wpAnyH_take (i := 2) (oi := { dst := some 111, op := Op.fieldAddr 29 (Operand.tmp 110) 0, type := 0, pos := "law.go:73", after := #[{ on := 1, ground := Ground.data }], guard := none }) (v := ?va2) rfl (by kernel_rfl) (by kernel_rfl) (by kernel_rfl) (fun _ _ _ h => h) (Or.inl ⟨by rfl, ?ya2⟩) (by assumption) ?_
                  case ya2 => (intro w hSw; (try dsimp only at hSw); go_simp; try with_reducible rfl)
                  (try simp only [Act.put, List.setIfInBounds_toArray, List.set_cons_zero, List.set_cons_succ])
                  refine wpAnyH_take (i := 3) (oi := { dst := some 112, op := Op.load 2 (Operand.tmp 111), type := 2, pos := "law.go:73", after := #[{ on := 2, ground := Ground.data }], guard := none }) (v := ?va3) rfl (by kernel_rfl) (by kernel_rfl) (by kernel_rfl) (fun _ _ _ h => h) (Or.inl ⟨by rfl, ?ya3⟩) (by assumption) ?_
                  case ya3 => (intro w hSw; (try dsimp only at hSw); go_simp; try with_reducible rfl)
                  (try simp only [Act.put, List.setIfInBounds_toArray, List.set_cons_zero, List.set_cons_succ])
                  refine wpAnyH_take (i := 5) (oi := { dst := some 114, op := Op.move (Operand.tmp 8), type := 37, pos := "law.go:73", after := #[], guard := none }) (v := ?va5) rfl (by kernel_rfl) (by kernel_rfl) (by kernel_rfl) (fun _ _ _ h => h) (Or.inl ⟨by rfl, ?ya5⟩) (by assumption) ?_
                  case ya5 => (intro w hSw; (try dsimp only at hSw); go_simp; try with_reducible rfl)
                  (try simp only [Act.put, List.setIfInBounds_toArray, List.set_cons_zero, List.set_cons_succ])
                  refine wpAnyH_take (i := 6) (oi := { dst := some 115, op := Op.fieldAddr 44 (Operand.tmp 15) 1, type := 0, pos := "law.go:73", after := #[], guard := none }) (v := ?va6) rfl (by kernel_rfl) (by kernel_rfl) (by kernel_rfl) (fun _ _ _ h => h) (Or.inl ⟨by rfl, ?ya6⟩) (by assumption) ?_
                  case ya6 => (intro w hSw; (try dsimp only at hSw); go_simp; try with_reducible rfl)
                  (try simp only [Act.put, List.setIfInBounds_toArray, List.set_cons_zero, List.set_cons_succ])
                  refine wpAnyH_take (i := 7) (oi := { dst := some 116, op := Op.fieldAddr 29 (Operand.tmp 115) 0, type := 0, pos := "law.go:73", after := #[{ on := 6, ground := Ground.data }], guard := none }) (v := ?va7) rfl (by kernel_rfl) (by kernel_rfl) (by kernel_rfl) (fun _ _ _ h => h) (Or.inl ⟨by rfl, ?ya7⟩) (by assumption) ?_
                  case ya7 => (intro w hSw; (try dsimp only at hSw); go_simp; try with_reducible rfl)
                  (try simp only [Act.put, List.setIfInBounds_toArray, List.set_cons_zero, List.set_cons_succ])
                  refine wpAnyH_take (i := 8) (oi := { dst := some 117, op := Op.load 2 (Operand.tmp 116), type := 2, pos := "law.go:73", after := #[{ on := 7, ground := Ground.data }], guard := none }) (v := ?va8) rfl (by kernel_rfl) (by kernel_rfl) (by kernel_rfl) (fun _ _ _ h => h) (Or.inl ⟨by rfl, ?ya8⟩) (by assumption) ?_
                  case ya8 => (intro w hSw; (try dsimp only at hSw); go_simp; try with_reducible rfl)
                  (try simp only [Act.put, List.setIfInBounds_toArray, List.set_cons_zero, List.set_cons_succ])
                  refine wpAnyH_ready (rs := [4]) (by kernel_rfl) (by simp) ?_
                  refine AllReadyH.cons (o := { dst := some 113, op := Op.call { callee := Callee.value (Operand.func 16), args := #[Operand.tmp 109, Operand.tmp 112], argTypes := #[23, 2] }, type := 3, pos := "law.go:73", after := #[{ on := 0, ground := Ground.data }, { on := 3, ground := Ground.data }], guard := none }) rfl (fun K hK => ?_) AllReadyH.nil
                  (first | (go_at_call 16; go_loud (refine HCL.out.mono ?_; rintro e w5 ⟨rfl, hq, hb⟩)) | (go_simp; (go_at_call 16; go_loud (refine HCL.out.mono ?_; rintro e w5 ⟨rfl, hq, hb⟩))))
                  have HQ5 := Aside0.mk (hq.own (M' := fun _ => True) (fun _ _ _ => trivial))
                  have HR5 := Aside0.mk (HR2.out.behind hb)
                  have HK5 := Aside0.mk (blk_q HK2.out hb (by decide) (by decide))
                  have HG5 := Aside0.mk (blk_q HG2.out hb (by decide) (by decide))
                  have HB5 := Aside0.mk (HB2.out.trans hb.1)
                  have hsz5 := HB5.out.size
                  have hk5 : w5.cell? ⟨gb, 1, none⟩ = some (.int .i64 r2) ∧ w5.cell? ⟨gb, 2, none⟩ = some (.int .i64 nd2) := ⟨(blk_cell HG5.out 1).trans rfl, (blk_cell HG5.out 2).trans rfl⟩
                  clear hq hb HQ2 HR2 HK2 HG2 HB2
                  refine hK.out _ _ hk5 (fun hHeld2 => ?_)
                  clear hK K hHeld
                  have hHeld := hHeld2
                  clear hHeld2
                  (try simp only [Act.put, List.setIfInBounds_toArray, List.set_cons_zero, List.set_cons_succ])
                  refine wpAnyH_ready (rs := [9]) (by kernel_rfl) (by simp) ?_
                  refine AllReadyH.cons (o := { dst := some 118, op := Op.call { callee := Callee.value (Operand.func 17), args := #[Operand.tmp 114, Operand.tmp 117], argTypes := #[37, 2] }, type := 3, pos := "law.go:73", after := #[{ on := 5, ground := Ground.data }, { on := 8, ground := Ground.data }, { on := 4, ground := Ground.chain }], guard := none }) rfl (fun K hK => ?_) AllReadyH.nil
                  (first | (go_at_call 17; go_loud (refine (HRD.out w5 hsz5 HR5.out).mono ?_; rintro e w8 ⟨rfl, hr8, hb⟩)) | (go_simp; (go_at_call 17; go_loud (refine (HRD.out w5 hsz5 HR5.out).mono ?_; rintro e w8 ⟨rfl, hr8, hb⟩))))
                  have HR8 := Aside0.mk hr8
                  have HQ8 := Aside0.mk (HQ5.out.behind hb)
                  have HK8 := Aside0.mk (blk_r HK5.out hb (by decide) (by decide))
                  have HG8 := Aside0.mk (blk_r HG5.out hb (by decide) (by decide))
                  have HB8 := Aside0.mk (HB5.out.trans hb.1)
                  have hk8 : w8.cell? ⟨gb, 1, none⟩ = some (.int .i64 r2) ∧ w8.cell? ⟨gb, 2, none⟩ = some (.int .i64 nd2) := ⟨(blk_cell HG8.out 1).trans rfl, (blk_cell HG8.out 2).trans rfl⟩
                  clear hr8 hb HQ5 HR5 HK5 HG5 HB5
                  refine hK.out _ _ hk8 (fun hHeld2 => ?_)
                  clear hK K hHeld
                  have hHeld := hHeld2
                  clear hHeld2
                  (try simp only [Act.put, List.setIfInBounds_toArray, List.set_cons_zero, List.set_cons_succ])
                  refine wpAnyH_ready (rs := [10]) (by kernel_rfl) (by simp) ?_
                  refine AllReadyH.cons (o := { dst := some 119, op := Op.binOp BinOp.neq 3 (Operand.tmp 113) (Operand.tmp 118) 3, type := 4, pos := "law.go:73", after := #[{ on := 4, ground := Ground.data }, { on := 9, ground := Ground.data }], guard := none }) rfl (fun K hK => ?_) AllReadyH.nil
                  go_simp
                  refine hK.out _ _ hHeld (fun hHeld2 => ?_)
                  clear hK K hHeld
                  have hHeld := hHeld2
                  clear hHeld2
                  (try simp only [Act.put, List.setIfInBounds_toArray, List.set_cons_zero, List.set_cons_succ])
                  refine wpAnyH_done (by kernel_rfl) ?_ _
                  clear hHeld HCL HRD
                  go_upto_region 32 with (fail)
                  have HS1 : Aside0 (∀ w, IsQ (fun _ => True) W.heap.size w qb (dropL r2 acc) (n) → IsR W.heap.size w rb (dropL r2 acc) → Calls Try.prog 18 #[.pointer (some ⟨qb, 0, none⟩), .pointer (some ⟨rb, 0, none⟩), .agg #[.int .i64 r, .int .i64 nd]] w fun e W' => e = .returned (.bool true) ∧ Below w.heap.size w W') := Aside0.mk (fun w h1 h2 => same_calls W.heap.size w qb rb _ _ (r, nd) h1 h2 HX.out)
                  have HS2 : Aside0 (∀ w, IsQ (fun _ => True) W.heap.size w qb (dropL r2 acc) (n) → IsR W.heap.size w rb (dropL r2 acc) → Calls Try.prog 18 #[.pointer (some ⟨qb, 0, none⟩), .pointer (some ⟨rb, 0, none⟩), .agg #[.int .i64 r2, .int .i64 nd2]] w fun e W' => e = .returned (.bool true) ∧ Below w.heap.size w W') := Aside0.mk (fun w h1 h2 => same_calls W.heap.size w qb rb _ _ (r2, nd2) h1 h2 HWX.out)
                  have hk80 : w8.cell? ⟨W.heap.size, 0, none⟩ = some (.int .i64 r) := (blk_cell HK8.out 0).trans rfl
                  have hk81 : w8.cell? ⟨W.heap.size, 1, none⟩ = some (.int .i64 nd) := (blk_cell HK8.out 1).trans rfl
                  go_wp2_with (first | (go_at_call 18; (first | (with_reducible refine (HS1.out w8 HQ8.out HR8.out).mono ?_; rintro e w9 ⟨rfl, hb⟩; have HQ9 := Aside0.mk (HQ8.out.below hb); have HR9 := Aside0.mk (HR8.out.below hb); have HK9 := Aside0.mk (blk_below HK8.out hb); have HG9 := Aside0.mk (blk_below HG8.out hb); have HB9 := Aside0.mk (below_step HB8.out hb); have hg91 : w9.cell? ⟨gb, 1, none⟩ = some (.int .i64 r2) := (blk_cell HG9.out 1).trans rfl; have hg92 : w9.cell? ⟨gb, 2, none⟩ = some (.int .i64 nd2) := (blk_cell HG9.out 2).trans rfl; clear hb) | (with_reducible refine (HS2.out w9 HQ9.out HR9.out).mono ?_; rintro e w10 ⟨rfl, hb⟩; have HQ10 := Aside0.mk (HQ9.out.below hb); have HR10 := Aside0.mk (HR9.out.below hb); have HK10 := Aside0.mk (blk_below HK9.out hb); have HB10 := Aside0.mk (below_step HB9.out hb); clear hb))))
                  go_roundw
                  case rel => exact ⟨_, i + 1, _, _, rfl, HW, by omega, by omega, HQ10, HR10, HK10, HB10⟩
                  case measure => have := HW.out; have := HP.out; simp [intOf] at *; omega
                · by_cases k4 : K = -2
                  · subst k4
                    clear k1 k2 k3
                    go_upto_region 30 with (fail)
                    have K0 : w1.drew.cell? ⟨gb, 1, none⟩ = some (.int .i64 r2) ∧ w1.drew.cell? ⟨gb, 2, none⟩ = some (.int .i64 nd2) := ⟨(blk_cell (w := w1.drew) HG1.out 1).trans rfl, (blk_cell (w := w1.drew) HG1.out 2).trans rfl⟩
                    have hbd := below_drew (Below.refl w1.heap.size w1)
                    have HQ2 := Aside0.mk (HQ1.out.below hbd)
                    have HR2 := Aside0.mk (HR1.out.below hbd)
                    have HK2 := Aside0.mk (blk_below HK1.out hbd)
                    have HG2 := Aside0.mk (blk_below HG1.out hbd)
                    have HB2 := Aside0.mk (below_step HB1.out hbd)
                    have hsz2 := HB2.out.size
                    refine wp_region_held_drew (S := fun w => w.cell? ⟨gb, 1, none⟩ = some (.int .i64 r2) ∧ w.cell? ⟨gb, 2, none⟩ = some (.int .i64 nd2)) (by kernel_rfl) K0 (fun hHeld => ?_)
                    clear hbd K0 HQ1 HR1 HK1 HG1 HB1 hz10
                    generalize w1.drew = wd at *
                    have hDr := drop_calls (MQ wd) W.heap.size wd qb n acc r2 HQ2.out.mq hsz2
                    have HRD0 : ∀ w, W.heap.size ≤ w.heap.size → IsR W.heap.size w rb acc → Calls Try.prog 17 #[.pointer (some ⟨rb, 0, none⟩), .int .i64 r2] w fun e W' => e = .returned (.int .i64 ((acc.length : Int) - ((dropL r2 acc).length : Int))) ∧ IsR W.heap.size W' rb (dropL r2 acc) ∧ Fr W.heap.size (MR w) w W' := fun w hs h => refDrop_calls W.heap.size w rb acc r2 h hs (by omega)
                    generalize (acc.length : Int) - ((dropL r2 acc).length : Int) = V at hDr HRD0
                    have HCL := Aside0.mk hDr
                    have HRD := Aside0.mk HRD0
                    clear hDr HRD0
                    refine wpAnyH_take (i := 0) (oi := { dst := some 109, op := Op.move (Operand.tmp 12), type := 23, pos := "law.go:73", after := #[], guard := none }) (v := ?vb0) rfl (by kernel_rfl) (by kernel_rfl) (by kernel_rfl) (fun _ _ _ h => h) (Or.inl ⟨by rfl, ?yb0⟩) (by assumption) ?_
                    case yb0 => (intro w hSw; (try dsimp only at hSw); go_simp; try with_reducible rfl)
                    (try simp only [Act.put, List.setIfInBounds_toArray, List.set_cons_zero, List.set_cons_succ])
                    refine wpAnyH_take (i := 1) (oi := { dst := some 110, op := Op.fieldAddr 44 (Operand.tmp 15) 1, type := 0, pos := "law.go:73", after := #[], guard := none }) (v := ?vb1) rfl (by kernel_rfl) (by kernel_rfl) (by kernel_rfl) (fun _ _ _ h => h) (Or.inl ⟨by rfl, ?yb1⟩) (by assumption) ?_
                    case yb1 => (intro w hSw; (try dsimp only at hSw); go_simp; try with_reducible rfl)
                    (try simp only [Act.put, List.setIfInBounds_toArray, List.set_cons_zero, List.set_cons_succ])
                    refine wpAnyH_take (i := 2) (oi := { dst := some 111, op := Op.fieldAddr 29 (Operand.tmp 110) 0, type := 0, pos := "law.go:73", after := #[{ on := 1, ground := Ground.data }], guard := none }) (v := ?vb2) rfl (by kernel_rfl) (by kernel_rfl) (by kernel_rfl) (fun _ _ _ h => h) (Or.inl ⟨by rfl, ?yb2⟩) (by assumption) ?_
                    case yb2 => (intro w hSw; (try dsimp only at hSw); go_simp; try with_reducible rfl)
                    (try simp only [Act.put, List.setIfInBounds_toArray, List.set_cons_zero, List.set_cons_succ])
                    refine wpAnyH_take (i := 3) (oi := { dst := some 112, op := Op.load 2 (Operand.tmp 111), type := 2, pos := "law.go:73", after := #[{ on := 2, ground := Ground.data }], guard := none }) (v := ?vb3) rfl (by kernel_rfl) (by kernel_rfl) (by kernel_rfl) (fun _ _ _ h => h) (Or.inl ⟨by rfl, ?yb3⟩) (by assumption) ?_
                    case yb3 => (intro w hSw; (try dsimp only at hSw); go_simp; try with_reducible rfl)
                    (try simp only [Act.put, List.setIfInBounds_toArray, List.set_cons_zero, List.set_cons_succ])
                    refine wpAnyH_take (i := 5) (oi := { dst := some 114, op := Op.move (Operand.tmp 8), type := 37, pos := "law.go:73", after := #[], guard := none }) (v := ?vb5) rfl (by kernel_rfl) (by kernel_rfl) (by kernel_rfl) (fun _ _ _ h => h) (Or.inl ⟨by rfl, ?yb5⟩) (by assumption) ?_
                    case yb5 => (intro w hSw; (try dsimp only at hSw); go_simp; try with_reducible rfl)
                    (try simp only [Act.put, List.setIfInBounds_toArray, List.set_cons_zero, List.set_cons_succ])
                    refine wpAnyH_take (i := 6) (oi := { dst := some 115, op := Op.fieldAddr 44 (Operand.tmp 15) 1, type := 0, pos := "law.go:73", after := #[], guard := none }) (v := ?vb6) rfl (by kernel_rfl) (by kernel_rfl) (by kernel_rfl) (fun _ _ _ h => h) (Or.inl ⟨by rfl, ?yb6⟩) (by assumption) ?_
                    case yb6 => (intro w hSw; (try dsimp only at hSw); go_simp; try with_reducible rfl)
                    (try simp only [Act.put, List.setIfInBounds_toArray, List.set_cons_zero, List.set_cons_succ])
                    refine wpAnyH_take (i := 7) (oi := { dst := some 116, op := Op.fieldAddr 29 (Operand.tmp 115) 0, type := 0, pos := "law.go:73", after := #[{ on := 6, ground := Ground.data }], guard := none }) (v := ?vb7) rfl (by kernel_rfl) (by kernel_rfl) (by kernel_rfl) (fun _ _ _ h => h) (Or.inl ⟨by rfl, ?yb7⟩) (by assumption) ?_
                    case yb7 => (intro w hSw; (try dsimp only at hSw); go_simp; try with_reducible rfl)
                    (try simp only [Act.put, List.setIfInBounds_toArray, List.set_cons_zero, List.set_cons_succ])
                    refine wpAnyH_take (i := 8) (oi := { dst := some 117, op := Op.load 2 (Operand.tmp 116), type := 2, pos := "law.go:73", after := #[{ on := 7, ground := Ground.data }], guard := none }) (v := ?vb8) rfl (by kernel_rfl) (by kernel_rfl) (by kernel_rfl) (fun _ _ _ h => h) (Or.inl ⟨by rfl, ?yb8⟩) (by assumption) ?_
                    case yb8 => (intro w hSw; (try dsimp only at hSw); go_simp; try with_reducible rfl)
                    (try simp only [Act.put, List.setIfInBounds_toArray, List.set_cons_zero, List.set_cons_succ])
                    refine wpAnyH_ready (rs := [4]) (by kernel_rfl) (by simp) ?_
                    refine AllReadyH.cons (o := { dst := some 113, op := Op.call { callee := Callee.value (Operand.func 16), args := #[Operand.tmp 109, Operand.tmp 112], argTypes := #[23, 2] }, type := 3, pos := "law.go:73", after := #[{ on := 0, ground := Ground.data }, { on := 3, ground := Ground.data }], guard := none }) rfl (fun K hK => ?_) AllReadyH.nil
                    (first | (go_at_call 16; go_loud (refine HCL.out.mono ?_; rintro e w5 ⟨rfl, hq, hb⟩)) | (go_simp; (go_at_call 16; go_loud (refine HCL.out.mono ?_; rintro e w5 ⟨rfl, hq, hb⟩))))
                    have HQ5 := Aside0.mk (hq.own (M' := fun _ => True) (fun _ _ _ => trivial))
                    have HR5 := Aside0.mk (HR2.out.behind hb)
                    have HK5 := Aside0.mk (blk_q HK2.out hb (by decide) (by decide))
                    have HG5 := Aside0.mk (blk_q HG2.out hb (by decide) (by decide))
                    have HB5 := Aside0.mk (HB2.out.trans hb.1)
                    have hsz5 := HB5.out.size
                    have hk5 : w5.cell? ⟨gb, 1, none⟩ = some (.int .i64 r2) ∧ w5.cell? ⟨gb, 2, none⟩ = some (.int .i64 nd2) := ⟨(blk_cell HG5.out 1).trans rfl, (blk_cell HG5.out 2).trans rfl⟩
                    clear hq hb HQ2 HR2 HK2 HG2 HB2
                    refine hK.out _ _ hk5 (fun hHeld2 => ?_)
                    clear hK K hHeld
                    have hHeld := hHeld2
                    clear hHeld2
                    (try simp only [Act.put, List.setIfInBounds_toArray, List.set_cons_zero, List.set_cons_succ])
                    refine wpAnyH_ready (rs := [9]) (by kernel_rfl) (by simp) ?_
                    refine AllReadyH.cons (o := { dst := some 118, op := Op.call { callee := Callee.value (Operand.func 17), args := #[Operand.tmp 114, Operand.tmp 117], argTypes := #[37, 2] }, type := 3, pos := "law.go:73", after := #[{ on := 5, ground := Ground.data }, { on := 8, ground := Ground.data }, { on := 4, ground := Ground.chain }], guard := none }) rfl (fun K hK => ?_) AllReadyH.nil
                    (first | (go_at_call 17; go_loud (refine (HRD.out w5 hsz5 HR5.out).mono ?_; rintro e w8 ⟨rfl, hr8, hb⟩)) | (go_simp; (go_at_call 17; go_loud (refine (HRD.out w5 hsz5 HR5.out).mono ?_; rintro e w8 ⟨rfl, hr8, hb⟩))))
                    have HR8 := Aside0.mk hr8
                    have HQ8 := Aside0.mk (HQ5.out.behind hb)
                    have HK8 := Aside0.mk (blk_r HK5.out hb (by decide) (by decide))
                    have HG8 := Aside0.mk (blk_r HG5.out hb (by decide) (by decide))
                    have HB8 := Aside0.mk (HB5.out.trans hb.1)
                    have hk8 : w8.cell? ⟨gb, 1, none⟩ = some (.int .i64 r2) ∧ w8.cell? ⟨gb, 2, none⟩ = some (.int .i64 nd2) := ⟨(blk_cell HG8.out 1).trans rfl, (blk_cell HG8.out 2).trans rfl⟩
                    clear hr8 hb HQ5 HR5 HK5 HG5 HB5
                    refine hK.out _ _ hk8 (fun hHeld2 => ?_)
                    clear hK K hHeld
                    have hHeld := hHeld2
                    clear hHeld2
                    (try simp only [Act.put, List.setIfInBounds_toArray, List.set_cons_zero, List.set_cons_succ])
                    refine wpAnyH_ready (rs := [10]) (by kernel_rfl) (by simp) ?_
                    refine AllReadyH.cons (o := { dst := some 119, op := Op.binOp BinOp.neq 3 (Operand.tmp 113) (Operand.tmp 118) 3, type := 4, pos := "law.go:73", after := #[{ on := 4, ground := Ground.data }, { on := 9, ground := Ground.data }], guard := none }) rfl (fun K hK => ?_) AllReadyH.nil
                    go_simp
                    refine hK.out _ _ hHeld (fun hHeld2 => ?_)
                    clear hK K hHeld
                    have hHeld := hHeld2
                    clear hHeld2
                    (try simp only [Act.put, List.setIfInBounds_toArray, List.set_cons_zero, List.set_cons_succ])
                    refine wpAnyH_done (by kernel_rfl) ?_ _
                    clear hHeld HCL HRD
                    go_upto_region 32 with (fail)
                    have HS1 : Aside0 (∀ w, IsQ (fun _ => True) W.heap.size w qb (dropL r2 acc) (n) → IsR W.heap.size w rb (dropL r2 acc) → Calls Try.prog 18 #[.pointer (some ⟨qb, 0, none⟩), .pointer (some ⟨rb, 0, none⟩), .agg #[.int .i64 r, .int .i64 nd]] w fun e W' => e = .returned (.bool true) ∧ Below w.heap.size w W') := Aside0.mk (fun w h1 h2 => same_calls W.heap.size w qb rb _ _ (r, nd) h1 h2 HX.out)
                    have HS2 : Aside0 (∀ w, IsQ (fun _ => True) W.heap.size w qb (dropL r2 acc) (n) → IsR W.heap.size w rb (dropL r2 acc) → Calls Try.prog 18 #[.pointer (some ⟨qb, 0, none⟩), .pointer (some ⟨rb, 0, none⟩), .agg #[.int .i64 r2, .int .i64 nd2]] w fun e W' => e = .returned (.bool true) ∧ Below w.heap.size w W') := Aside0.mk (fun w h1 h2 => same_calls W.heap.size w qb rb _ _ (r2, nd2) h1 h2 HWX.out)
                    have hk80 : w8.cell? ⟨W.heap.size, 0, none⟩ = some (.int .i64 r) := (blk_cell HK8.out 0).trans rfl
                    have hk81 : w8.cell? ⟨W.heap.size, 1, none⟩ = some (.int .i64 nd) := (blk_cell HK8.out 1).trans rfl
                    go_wp2_with (first | (go_at_call 18; (first | (with_reducible refine (HS1.out w8 HQ8.out HR8.out).mono ?_; rintro e w9 ⟨rfl, hb⟩; have HQ9 := Aside0.mk (HQ8.out.below hb); have HR9 := Aside0.mk (HR8.out.below hb); have HK9 := Aside0.mk (blk_below HK8.out hb); have HG9 := Aside0.mk (blk_below HG8.out hb); have HB9 := Aside0.mk (below_step HB8.out hb); have hg91 : w9.cell? ⟨gb, 1, none⟩ = some (.int .i64 r2) := (blk_cell HG9.out 1).trans rfl; have hg92 : w9.cell? ⟨gb, 2, none⟩ = some (.int .i64 nd2) := (blk_cell HG9.out 2).trans rfl; clear hb) | (with_reducible refine (HS2.out w9 HQ9.out HR9.out).mono ?_; rintro e w10 ⟨rfl, hb⟩; have HQ10 := Aside0.mk (HQ9.out.below hb); have HR10 := Aside0.mk (HR9.out.below hb); have HK10 := Aside0.mk (blk_below HK9.out hb); have HB10 := Aside0.mk (below_step HB9.out hb); clear hb))))
                    go_roundw
                    case rel => exact ⟨_, i + 1, _, _, rfl, HW, by omega, by omega, HQ10, HR10, HK10, HB10⟩
                    case measure => have := HW.out; have := HP.out; simp [intOf] at *; omega
                  · have e1 : (K == 1) = false := by simp [k1]
                    have e2 : (K == -1) = false := by simp [k2]
                    have e3 : (K == 2) = false := by simp [k3]
                    have e4 : (K == -2) = false := by simp [k4]
                    have f1 : decide (K = 1) = false := decide_eq_false k1
                    have f2 : decide (K = -1) = false := decide_eq_false k2
                    have f3 : decide (K = 2) = false := decide_eq_false k3
                    have f4 : decide (K = -2) = false := decide_eq_false k4
                    clear k1 k2 k3 k4
                    go_upto_region 20 with (fail)
                    have K0 : w1.drew.cell? ⟨gb, 1, none⟩ = some (.int .i64 r2) ∧ w1.drew.cell? ⟨gb, 2, none⟩ = some (.int .i64 nd2) := ⟨(blk_cell (w := w1.drew) HG1.out 1).trans rfl, (blk_cell (w := w1.drew) HG1.out 2).trans rfl⟩
                    have hbd := below_drew (Below.refl w1.heap.size w1)
                    have HQ2 := Aside0.mk (HQ1.out.below hbd)
                    have HR2 := Aside0.mk (HR1.out.below hbd)
                    have HK2 := Aside0.mk (blk_below HK1.out hbd)
                    have HG2 := Aside0.mk (blk_below HG1.out hbd)
                    have HB2 := Aside0.mk (below_step HB1.out hbd)
                    have hsz2 := HB2.out.size
                    refine wp_region_held_drew (S := fun w => w.cell? ⟨gb, 1, none⟩ = some (.int .i64 r2) ∧ w.cell? ⟨gb, 2, none⟩ = some (.int .i64 nd2)) (by kernel_rfl) K0 (fun hHeld => ?_)
                    clear hbd K0 HQ1 HR1 HK1 HG1 HB1 hz10
                    generalize w1.drew = wd at *
                    have hPu := push_calls (MQ wd) W.heap.size wd qb n acc (r2, nd2) HQ2.out.mq HWX.out (by omega) hsz2 (mq_fresh wd)
                    have HRD0 : ∀ w, W.heap.size ≤ w.heap.size → IsR W.heap.size w rb acc → Calls Try.prog 13 #[.pointer (some ⟨rb, 0, none⟩), .agg #[.int .i64 r2, .int .i64 nd2]] w fun e W' => e = .returned (.int .i64 (pushE acc (r2, nd2))) ∧ IsR W.heap.size W' rb (pushL acc (r2, nd2)) ∧ Fr W.heap.size (MR w) w W' := fun w hs h => refPush_calls W.heap.size w rb acc (r2, nd2) h (by omega) hs
                    generalize pushE acc (r2, nd2) = V at hPu HRD0
                    have HCL := Aside0.mk hPu
                    have HRD := Aside0.mk HRD0
                    clear hPu HRD0
                    refine wpAnyH_take (i := 0) (oi := { dst := some 76, op := Op.move (Operand.tmp 12), type := 23, pos := "law.go:77", after := #[], guard := none }) (v := ?vc0) rfl (by kernel_rfl) (by kernel_rfl) (by kernel_rfl) (fun _ _ _ h => h) (Or.inl ⟨by rfl, ?yc0⟩) (by assumption) ?_
                    case yc0 => (intro w hSw; (try dsimp only at hSw); go_simp; try with_reducible rfl)
                    (try simp only [Act.put, List.setIfInBounds_toArray, List.set_cons_zero, List.set_cons_succ])
                    refine wpAnyH_take (i := 1) (oi := { dst := some 77, op := Op.fieldAddr 44 (Operand.tmp 15) 1, type := 0, pos := "law.go:77", after := #[], guard := none }) (v := ?vc1) rfl (by kernel_rfl) (by kernel_rfl) (by kernel_rfl) (fun _ _ _ h => h) (Or.inl ⟨by rfl, ?yc1⟩) (by assumption) ?_
                    case yc1 => (intro w hSw; (try dsimp only at hSw); go_simp; try with_reducible rfl)
                    (try simp only [Act.put, List.setIfInBounds_toArray, List.set_cons_zero, List.set_cons_succ])
                    refine wpAnyH_take (i := 2) (oi := { dst := some 78, op := Op.load 29 (Operand.tmp 77), type := 29, pos := "law.go:77", after := #[{ on := 1, ground := Ground.data }], guard := none }) (v := ?vc2) rfl (by kernel_rfl) (by kernel_rfl) (by kernel_rfl) (fun _ _ _ h => h) (Or.inl ⟨by rfl, ?yc2⟩) (by assumption) ?_
                    case yc2 => (intro w hSw; (try dsimp only at hSw); go_simp; try with_reducible rfl)
                    (try simp only [Act.put, List.setIfInBounds_toArray, List.set_cons_zero, List.set_cons_succ])
                    refine wpAnyH_take (i := 4) (oi := { dst := some 80, op := Op.move (Operand.tmp 8), type := 37, pos := "law.go:77", after := #[], guard := none }) (v := ?vc4) rfl (by kernel_rfl) (by kernel_rfl) (by kernel_rfl) (fun _ _ _ h => h) (Or.inl ⟨by rfl, ?yc4⟩) (by assumption) ?_
                    case yc4 => (intro w hSw; (try dsimp only at hSw); go_simp; try with_reducible rfl)
                    (try simp only [Act.put, List.setIfInBounds_toArray, List.set_cons_zero, List.set_cons_succ])
                    refine wpAnyH_take (i := 5) (oi := { dst := some 81, op := Op.fieldAddr 44 (Operand.tmp 15) 1, type := 0, pos := "law.go:77", after := #[], guard := none }) (v := ?vc5) rfl (by kernel_rfl) (by kernel_rfl) (by kernel_rfl) (fun _ _ _ h => h) (Or.inl ⟨by rfl, ?yc5⟩) (by assumption) ?_
                    case yc5 => (intro w hSw; (try dsimp only at hSw); go_simp; try with_reducible rfl)
                    (try simp only [Act.put, List.setIfInBounds_toArray, List.set_cons_zero, List.set_cons_succ])
                    refine wpAnyH_take (i := 6) (oi := { dst := some 82, op := Op.load 29 (Operand.tmp 81), type := 29, pos := "law.go:77", after := #[{ on := 5, ground := Ground.data }], guard := none }) (v := ?vc6) rfl (by kernel_rfl) (by kernel_rfl) (by kernel_rfl) (fun _ _ _ h => h) (Or.inl ⟨by rfl, ?yc6⟩) (by assumption) ?_
                    case yc6 => (intro w hSw; (try dsimp only at hSw); go_simp; try with_reducible rfl)
                    (try simp only [Act.put, List.setIfInBounds_toArray, List.set_cons_zero, List.set_cons_succ])
                    refine wpAnyH_ready (rs := [3]) (by kernel_rfl) (by simp) ?_
                    refine AllReadyH.cons (o := { dst := some 79, op := Op.call { callee := Callee.value (Operand.func 10), args := #[Operand.tmp 76, Operand.tmp 78], argTypes := #[23, 31] }, type := 24, pos := "law.go:77", after := #[{ on := 0, ground := Ground.data }, { on := 2, ground := Ground.data }], guard := none }) rfl (fun K hK => ?_) AllReadyH.nil
                    (first | (go_at_call 10; go_loud (refine HCL.out.mono ?_; rintro e w5 ⟨rfl, hq, hb⟩)) | (go_simp; (go_at_call 10; go_loud (refine HCL.out.mono ?_; rintro e w5 ⟨rfl, hq, hb⟩))))
                    have HQ5 := Aside0.mk (hq.own (M' := fun _ => True) (fun _ _ _ => trivial))
                    have HR5 := Aside0.mk (HR2.out.behind hb)
                    have HK5 := Aside0.mk (blk_q HK2.out hb (by decide) (by decide))
                    have HG5 := Aside0.mk (blk_q HG2.out hb (by decide) (by decide))
                    have HB5 := Aside0.mk (HB2.out.trans hb.1)
                    have hsz5 := HB5.out.size
                    have hk5 : w5.cell? ⟨gb, 1, none⟩ = some (.int .i64 r2) ∧ w5.cell? ⟨gb, 2, none⟩ = some (.int .i64 nd2) := ⟨(blk_cell HG5.out 1).trans rfl, (blk_cell HG5.out 2).trans rfl⟩
                    clear hq hb HQ2 HR2 HK2 HG2 HB2
                    refine hK.out _ _ hk5 (fun hHeld2 => ?_)
                    clear hK K hHeld
                    have hHeld := hHeld2
                    clear hHeld2
                    (try simp only [Act.put, List.setIfInBounds_toArray, List.set_cons_zero, List.set_cons_succ])
                    refine wpAnyH_ready (rs := [7]) (by kernel_rfl) (by simp) ?_
                    refine AllReadyH.cons (o := { dst := some 83, op := Op.call { callee := Callee.value (Operand.func 13), args := #[Operand.tmp 80, Operand.tmp 82], argTypes := #[37, 42] }, type := 3, pos := "law.go:77", after := #[{ on := 4, ground := Ground.data }, { on := 6, ground := Ground.data }, { on := 3, ground := Ground.chain }], guard := none }) rfl (fun K hK => ?_) AllReadyH.nil
                    (first | (go_at_call 13; go_loud (refine (HRD.out w5 hsz5 HR5.out).mono ?_; rintro e w8 ⟨rfl, hr8, hb⟩)) | (go_simp; (go_at_call 13; go_loud (refine (HRD.out w5 hsz5 HR5.out).mono ?_; rintro e w8 ⟨rfl, hr8, hb⟩))))
                    have HR8 := Aside0.mk hr8
                    have HQ8 := Aside0.mk (HQ5.out.behind hb)
                    have HK8 := Aside0.mk (blk_r HK5.out hb (by decide) (by decide))
                    have HG8 := Aside0.mk (blk_r HG5.out hb (by decide) (by decide))
                    have HB8 := Aside0.mk (HB5.out.trans hb.1)
                    have hk8 : w8.cell? ⟨gb, 1, none⟩ = some (.int .i64 r2) ∧ w8.cell? ⟨gb, 2, none⟩ = some (.int .i64 nd2) := ⟨(blk_cell HG8.out 1).trans rfl, (blk_cell HG8.out 2).trans rfl⟩
                    clear hr8 hb HQ5 HR5 HK5 HG5 HB5
                    refine hK.out _ _ hk8 (fun hHeld2 => ?_)
                    clear hK K hHeld
                    have hHeld := hHeld2
                    clear hHeld2
                    (try simp only [Act.put, List.setIfInBounds_toArray, List.set_cons_zero, List.set_cons_succ])
                    refine wpAnyH_ready (rs := [8]) (by kernel_rfl) (by simp) ?_
                    refine AllReadyH.cons (o := { dst := some 84, op := Op.binOp BinOp.neq 3 (Operand.tmp 79) (Operand.tmp 83) 3, type := 4, pos := "law.go:77", after := #[{ on := 3, ground := Ground.data }, { on := 7, ground := Ground.data }], guard := none }) rfl (fun K hK => ?_) AllReadyH.nil
                    go_simp
                    refine hK.out _ _ hHeld (fun hHeld2 => ?_)
                    clear hK K hHeld
                    have hHeld := hHeld2
                    clear hHeld2
                    (try simp only [Act.put, List.setIfInBounds_toArray, List.set_cons_zero, List.set_cons_succ])
                    refine wpAnyH_done (by kernel_rfl) ?_ _
                    clear hHeld HCL HRD
                    go_upto_region 32 with (fail)
                    have HS1 : Aside0 (∀ w, IsQ (fun _ => True) W.heap.size w qb (pushL acc (r2, nd2)) (n + 1) → IsR W.heap.size w rb (pushL acc (r2, nd2)) → Calls Try.prog 18 #[.pointer (some ⟨qb, 0, none⟩), .pointer (some ⟨rb, 0, none⟩), .agg #[.int .i64 r, .int .i64 nd]] w fun e W' => e = .returned (.bool true) ∧ Below w.heap.size w W') := Aside0.mk (fun w h1 h2 => same_calls W.heap.size w qb rb _ _ (r, nd) h1 h2 HX.out)
                    have HS2 : Aside0 (∀ w, IsQ (fun _ => True) W.heap.size w qb (pushL acc (r2, nd2)) (n + 1) → IsR W.heap.size w rb (pushL acc (r2, nd2)) → Calls Try.prog 18 #[.pointer (some ⟨qb, 0, none⟩), .pointer (some ⟨rb, 0, none⟩), .agg #[.int .i64 r2, .int .i64 nd2]] w fun e W' => e = .returned (.bool true) ∧ Below w.heap.size w W') := Aside0.mk (fun w h1 h2 => same_calls W.heap.size w qb rb _ _ (r2, nd2) h1 h2 HWX.out)
                    have hk80 : w8.cell? ⟨W.heap.size, 0, none⟩ = some (.int .i64 r) := (blk_cell HK8.out 0).trans rfl
                    have hk81 : w8.cell? ⟨W.heap.size, 1, none⟩ = some (.int .i64 nd) := (blk_cell HK8.out 1).trans rfl
                    go_wp2_with (first | (go_at_call 18; (first | (with_reducible refine (HS1.out w8 HQ8.out HR8.out).mono ?_; rintro e w9 ⟨rfl, hb⟩; have HQ9 := Aside0.mk (HQ8.out.below hb); have HR9 := Aside0.mk (HR8.out.below hb); have HK9 := Aside0.mk (blk_below HK8.out hb); have HG9 := Aside0.mk (blk_below HG8.out hb); have HB9 := Aside0.mk (below_step HB8.out hb); have hg91 : w9.cell? ⟨gb, 1, none⟩ = some (.int .i64 r2) := (blk_cell HG9.out 1).trans rfl; have hg92 : w9.cell? ⟨gb, 2, none⟩ = some (.int .i64 nd2) := (blk_cell HG9.out 2).trans rfl; clear hb) | (with_reducible refine (HS2.out w9 HQ9.out HR9.out).mono ?_; rintro e w10 ⟨rfl, hb⟩; have HQ10 := Aside0.mk (HQ9.out.below hb); have HR10 := Aside0.mk (HR9.out.below hb); have HK10 := Aside0.mk (blk_below HK9.out hb); have HB10 := Aside0.mk (below_step HB9.out hb); clear hb))))
                    go_roundw
                    case rel => exact ⟨_, i + 1, _, _, rfl, HW, by omega, by omega, HQ10, HR10, HK10, HB10⟩
                    case measure => have := HW.out; have := HP.out; simp [intOf] at *; omega
          · have hlt : decide (p < (zs.length : Int)) = false := decide_eq_false (by rw [HP.out]; omega)
            have HS := Aside0.mk (show Calls Try.prog 18 #[.pointer (some ⟨qb, 0, none⟩), .pointer (some ⟨rb, 0, none⟩), .agg #[.int .i64 r, .int .i64 nd]] wr _ from same_calls W.heap.size wr qb rb n acc (r, nd) HQ.out HRR.out HX.out)
            have hk80 : wr.cell? ⟨W.heap.size, 0, none⟩ = some (.int .i64 r) := (blk_cell HK.out 0).trans rfl
            have hk81 : wr.cell? ⟨W.heap.size, 1, none⟩ = some (.int .i64 nd) := (blk_cell HK.out 1).trans rfl
            go_wp2_with (first | (go_at_call 18; go_loud (refine HS.out.mono ?_; rintro e w9 ⟨rfl, hb⟩; have HB9 := Aside0.mk (below_step HB.out hb); clear hb)))
            go_ret
            exact ⟨rfl, HB9.out⟩
      · have hN1 := HNE.out.2 hE
        have hNEW := (new_calls (fun _ => True) wr A5 c5 L (Kd.Q_reads' HI.out).2.2 HWF.out (by omega) (fun _ _ => trivial))
        have HNEW := Aside0.mk (show Calls Try.prog 8 #[.slice A5 L.length c5] wr (fun e W' => e = .returned (.tuple #[.pointer none, .int .i64 E]) ∧ Below wr.heap.size wr W') from hNEW.mono fun e w' ⟨hb, hh⟩ => by
          rcases hh with ⟨qb, _, h2, _⟩ | ⟨h1, _⟩
          · rw [hN1] at h2; exact absurd h2 hE
          · rw [hN1] at h1; exact ⟨h1, hb⟩)
        have hnz : (E == 0) = false := by simp [hE]
        have hnz2 : decide (E = 0) = false := decide_eq_false hE
        have hnz3 : (E != 0) = true := by simp [hE]
        clear hNEW hN1 HNE HLE HP hin hE
        go_wp2_with (first | (go_at_call 8; go_loud (refine HNEW.out.mono ?_; rintro e w5 ⟨rfl, hb⟩; have HB5 := Aside0.mk (below_step HB.out hb); clear hb)) | (go_at_call 9; go_loud (refine (wakes_calls _).mono ?_; rintro e w6 ⟨rfl, hb⟩; have HB6 := Aside0.mk (below_step HB5.out hb); clear hb)))
        go_ret
        exact ⟨by first | rfl | simp, HB6.out⟩
end Go.Proofs.Ytcnecdlphpkmgaa.Q
