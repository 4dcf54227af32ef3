/- The document's queue: what it is in memory; Ahead, Push. No condition beyond numbers being numbers of 64 bits. -/
import Derived.Test.YtcnecdlphpkmgaaQApart
namespace Go.Proofs.Ytcnecdlphpkmgaa.Q
open Go.RowKit Go.Proofs.YtcnecdlphpkmgaaW.PrintWords Go.Proofs.YtcnecdlphpkmgaaW.PrintLast Go.Proofs.YtcnecdlphpkmgaaW.PrintMore
set_option linter.unusedVariables false
set_option linter.unusedSimpArgs false

theorem eqA42 (d : Nat) (w : World) (x0 y0 : Int) (x1 y1 : Int) :
    (Op.equalIn (d + 2) 42 (.agg #[.int .i64 x0, .int .i64 x1]) (.agg #[.int .i64 y0, .int .i64 y1])).run Try.prog w = .ok (x0 == y0 && (x1 == y1)) w := by
  refine eqA_of Try.underlying42 (by kernel_rfl) ?_
  refine eqf_cons (by rfl) (by go_simp; rfl) (by go_simp; rfl) (by go_simp) ?_
  exact eqf_last (by rfl) (by go_simp; rfl) (by go_simp; rfl) (by go_simp)
attribute [local go_sem high] eqA42
theorem info42 : (Try.prog.info? 42).map (fun i => (i.zero, i.size, i.bytes)) = some (some (.agg #[.int .i64 0, .int .i64 0]), 2, 16) := by kernel_rfl
theorem hE40 : ∀ q, q ∈ (42 : Nat) :: KI.E → q ≠ 40 := by rw [KI_E]; simp

/-- Block rb is the document's queue of the items xs, made from block N on. -/
def IsR (N : Nat) (W : World) (rb : Nat) (xs : List Item) : Prop :=
  ∃ v, N ≤ rb ∧ W.heap[rb]? = some (.cells #[v] 40 (0, 0)) ∧ KI.Q 42 W N (fun _ => True) v xs
theorem IsR.below {N : Nat} {W W' : World} {rb : Nat} {xs : List Item} (h : IsR N W rb xs) (hb : Below W.heap.size W W') : IsR N W' rb xs := by
  obtain ⟨v, h1, h2, h3⟩ := h
  exact ⟨v, h1, blk_below h2 hb, Kd.Q_below h3 hb⟩
theorem IsR.lower {N N' : Nat} {W : World} {rb : Nat} {xs : List Item} (h : IsR N W rb xs) (hN : N' ≤ N) : IsR N' W rb xs := by
  obtain ⟨v, h1, h2, h3⟩ := h
  exact ⟨v, by omega, h2, Kd.Q_lower h3 hN⟩
/-- What the document's queue may write. -/
def MR (W : World) (k : Nat) : Prop := W.heap.size ≤ k ∨ ∃ cs t, W.heap[k]? = some (.cells cs t (0, 0)) ∧ (t = 40 ∨ t = 42)
/-- What the queue may write. -/
def MQ (W : World) (k : Nat) : Prop := ∀ cs t, W.heap[k]? = some (.cells cs t (0, 0)) → t = 58 ∨ t = 31
theorem IsQ.mq {M : Nat → Prop} {N : Nat} {W : World} {qb n : Nat} {xs : List Item} (h : IsQ M N W qb xs n) : IsQ (MQ W) N W qb xs n := by
  obtain ⟨sv, mb, h1, h2, h3, h4, h5, h6⟩ := h
  refine ⟨sv, mb, ⟨h1.1, fun cs t he => ?_⟩, ⟨h2.1, fun cs t he => ?_⟩, h3, Kd.Q_mono (Kd.Q_bound h4) (fun k hk cs t he => ?_), h5, h6⟩
  · rw [h3] at he; injection he with he; injection he with _ he; exact .inl he.symm
  · exact absurd rfl (h5.ne he)
  · obtain ⟨_, _, _, q, hq, cells, hc⟩ := hk
    rw [KI_E] at hq
    simp at hq
    subst hq
    rw [hc] at he; injection he with he; injection he with _ he; exact .inr he.symm
theorem mq_fresh (W : World) (k : Nat) (hk : W.heap.size ≤ k) : MQ W k := fun cs t he => by
  have := blk_lt he; omega
/-- The document's queue behind a call of the queue's. -/
theorem IsR.behind {N : Nat} {W W' : World} {rb : Nat} {xs : List Item} (h : IsR N W rb xs) (hf : Fr N (MQ W) W W') : IsR N W' rb xs := by
  obtain ⟨v, h1, h2, h3⟩ := h
  refine ⟨v, h1, blk_kept h2 hf.2 (fun hm => by rcases hm _ _ h2 with e | e <;> exact absurd e (by decide)), ?_⟩
  refine Kd.Q_mono (Kd.Q_kept (ok := fun k => ∃ cs, W.heap[k]? = some (.cells cs 42 (0, 0))) (Kd.Q_mono (Kd.Q_bound h3) (fun k hk => ?_)) hf.2 (fun k ⟨cs, hc⟩ hm => by rcases hm _ _ hc with e | e <;> exact absurd e (by decide))) (fun _ _ => trivial)
  obtain ⟨_, _, _, q, hq, cells, hc⟩ := hk
  rw [KI_E] at hq
  simp at hq
  subst hq
  exact ⟨cells, hc⟩
theorem SetOf.at {W W' : World} {b n : Nat} {xs : List Item} (h : SetOf W b n xs) (hb : W'.heap[b]? = W.heap[b]?) : SetOf W' b n xs := by
  obtain ⟨D, ⟨es, clock, h1, F, hs, hD⟩, h2⟩ := h
  exact ⟨D, ⟨es, clock, hb.trans h1, F, hs, hD⟩, h2⟩
/-- The queue behind a call of the document's. -/
theorem IsQ.behind {M : Nat → Prop} {N : Nat} {W W' : World} {qb n : Nat} {xs : List Item} (h : IsQ M N W qb xs n) (hf : Fr N (MR W) W W') : IsQ M N W' qb xs n := by
  obtain ⟨sv, mb, h1, h2, h3, h4, h5, h6⟩ := h
  have hmb : W'.heap[mb]? = W.heap[mb]? := hf.2.2 mb h5.lt (fun hm => by
    rcases hm with hm | ⟨cs, t, hc, ht⟩
    · have := h5.lt; omega
    · exact h5.ne hc rfl)
  refine ⟨sv, mb, h1, h2, blk_kept h3 hf.2 (fun hm => ?_), ?_, h5.at hmb, h6⟩
  · rcases hm with hm | ⟨cs, t, hc, ht⟩
    · have := blk_lt h3; omega
    · rw [h3] at hc; injection hc with hc; injection hc with _ hc; rcases ht with ht | ht <;> (rw [ht] at hc; exact absurd hc (by decide))
  · refine Kd.Q_mono (Kd.Q_kept (ok := fun k => M k ∧ ∃ cs, W.heap[k]? = some (.cells cs 31 (0, 0))) (Kd.Q_mono (Kd.Q_bound h4) (fun k hk => ?_)) hf.2 (fun k ⟨_, cs, hc⟩ hm => ?_)) (fun _ hk => hk.1)
    · obtain ⟨h0, _, _, q, hq, cells, hc⟩ := hk
      rw [KI_E] at hq
      simp at hq
      subst hq
      exact ⟨h0, cells, hc⟩
    · rcases hm with hm | ⟨cs', t, hc', ht⟩
      · have := blk_lt hc; omega
      · rw [hc] at hc'; injection hc' with hc'; injection hc' with _ hc'; rcases ht with ht | ht <;> (rw [ht] at hc'; exact absurd hc' (by decide))
/-- A block of another type behind a call of either. -/
theorem blk_q {N : Nat} {W W' : World} {k t : Nat} {cs : Array Value} (h : W.heap[k]? = some (.cells cs t (0, 0))) (hf : Fr N (MQ W) W W') (h1 : t ≠ 58) (h2 : t ≠ 31) : W'.heap[k]? = some (.cells cs t (0, 0)) :=
  blk_kept h hf.2 (fun hm => by rcases hm _ _ h with e | e <;> contradiction)
theorem blk_r {N : Nat} {W W' : World} {k t : Nat} {cs : Array Value} (h : W.heap[k]? = some (.cells cs t (0, 0))) (hf : Fr N (MR W) W W') (h1 : t ≠ 40) (h2 : t ≠ 42) : W'.heap[k]? = some (.cells cs t (0, 0)) :=
  blk_kept h hf.2 (fun hm => by
    rcases hm with hm | ⟨cs', t', hc, ht⟩
    · have := blk_lt h; omega
    · rw [h] at hc; injection hc with hc; injection hc with _ hc; rcases ht with ht | ht <;> (rw [ht] at hc; contradiction))

set_option maxHeartbeats 2000000 in
set_option maxRecDepth 100000 in
theorem refAhead_calls (N : Nat) (W : World) (rb : Nat) (xs : List Item) (x : Item) (h : IsR N W rb xs) (hl : xs.length ≤ 1000000) :
    Calls Try.prog 21 #[.pointer (some ⟨rb, 0, none⟩), encI x] W fun e W' => e = .returned (.int .i64 (aheadE xs x)) ∧ Below W.heap.size W W' := by
  have hu42 := Try.underlying42
  obtain ⟨v, h1, h2, h3⟩ := h
  obtain ⟨A, c, rfl, hcc, hC⟩ := Kd.Q_reads h3
  obtain ⟨r, nd⟩ := x
  have hb0 := below_alloc (Below.refl W.heap.size W) (.cells #[.int .i64 r, .int .i64 nd] 42)
  have hcell0 := Aside0.mk (blk_below h2 hb0)
  have HR := Aside0.mk (Kd.C_below hC hb0)
  have HB := Aside0.mk hb0
  have HBK := Aside0.mk (blk_new W (.cells #[.int .i64 r, .int .i64 nd] 42))
  clear h2 h3 hC hb0
  show Calls Try.prog 21 #[.pointer (some ⟨rb, 0, none⟩), .agg #[.int .i64 r, .int .i64 nd]] W _
  go_enter Try.func21, Try.ntmps21
  go_upto_region 1 with (fail)
  have hsz1 : (W.alloc (.cells #[.int .i64 r, .int .i64 nd] 42)).heap.size = W.heap.size + 1 := by simp
  generalize W.alloc (.cells #[.int .i64 r, .int .i64 nd] 42) = W1 at *
  generalize hgb : W.heap.size = gb at *
  have HB1 := Aside0.mk (Below.refl W1.heap.size W1)
  go_wp2
  go_loopw [5] (fun v5 wr => ∃ (p : Int) (i : Nat), v5 = .int .i64 p ∧ Aside0 (p = (i : Int)) ∧ i ≤ xs.length ∧ (∀ j, j < i → xs.getD j (0, 0) ≠ (r, nd)) ∧ Aside0 (Below W1.heap.size W1 wr)) (fun v5 _ => xs.length - (intOf v5).toNat)
  case atStart => exact ⟨_, 0, rfl, Aside0.mk rfl, by omega, fun j hj => by omega, HB1⟩
  case round =>
    clear HB1
    obtain ⟨p, i, rfl, HP, hi, hne, HB1⟩ := hrel
    have hrc : wr.cell? ⟨rb, 0, none⟩ = some (.slice A xs.length c) := (blk_cell (blk_below hcell0.out HB1.out) 0).trans rfl
    by_cases hin : i < xs.length
    · have hlt : decide (p < (xs.length : Int)) = true := decide_eq_true (by rw [HP.out]; omega)
      have hp0 : 0 ≤ p := by rw [HP.out]; omega
      have hp1 : p < (xs.length : Int) := by rw [HP.out]; omega
      have HW : Aside0 (p + 1 = ((i + 1 : Nat) : Int)) := Aside0.mk (by rw [HP.out]; omega)
      obtain ⟨ad, e, hx0, hx1⟩ := at_Ip (Kd.C_below HR.out HB1.out) p hp0 hp1
      cases e
      have hz0 : wr.cell? ⟨gb, 0, none⟩ = some (.int .i64 r) := (blk_cell (blk_below HBK.out HB1.out) 0).trans rfl
      have hz1 : wr.cell? ⟨gb, 1, none⟩ = some (.int .i64 nd) := (blk_cell (blk_below HBK.out HB1.out) 1).trans rfl
      have hrd : rdI xs p = xs.getD i (0, 0) := by unfold rdI; rw [HP.out]; rfl
      by_cases heq : xs.getD i (0, 0) = (r, nd)
      · have hcond : ((rdI xs p).1 == r && ((rdI xs p).2 == nd)) = true := by rw [hrd, heq]; simp
        have HE := Aside0.mk (aheadE_at xs (r, nd) i hin hne heq)
        clear hne heq hrd
        go_wp2
        go_quiet (fail)
        go_wp2
        go_ret
        exact ⟨by rw [HE.out]; simp [HP.out], by rw [hgb]; exact HB.out.trans (pw_below_drewN (HB1.out.mono (by omega)) _)⟩
      · have hcond : ((rdI xs p).1 == r && ((rdI xs p).2 == nd)) = false := by
          rw [hrd]
          generalize xs.getD i (0, 0) = y at heq
          obtain ⟨y1, y2⟩ := y
          simp
          rintro rfl rfl
          exact heq rfl
        have HNE := Aside0.mk hne
        have HEQ := Aside0.mk heq
        clear hne heq hrd
        go_wp2
        go_quiet (fail)
        go_wp2
        go_roundw
        case rel => exact ⟨_, i + 1, rfl, HW, by omega, fun j hj => by
          rcases Nat.lt_or_ge j i with h | h
          · exact HNE.out j h
          · have : j = i := by omega
            subst this; exact HEQ.out, Aside0.mk (pw_below_drewN HB1.out _)⟩
        case measure => have := HW.out; have := HP.out; simp [intOf] at *; omega
    · have hlt : decide (p < (xs.length : Int)) = false := decide_eq_false (by rw [HP.out]; omega)
      have HE := Aside0.mk (aheadE_none xs (r, nd) (fun j hj => hne j (by omega)))
      clear hne
      go_wp2
      go_ret
      exact ⟨by rw [HE.out]; rfl, by rw [hgb]; exact HB.out.trans (HB1.out.mono (by omega))⟩

/-- What the last region of the document's Push keeps: the item's box. -/
abbrev KP (bx : Nat) (r nd : Int) (W : World) : Prop := W.cell? ⟨bx, 0, none⟩ = some (.int .i64 r) ∧ W.cell? ⟨bx, 1, none⟩ = some (.int .i64 nd)
theorem KP.alloc {bx : Nat} {r nd : Int} {W : World} (h : KP bx r nd W) (o : Obj) : KP bx r nd (W.alloc o) := ⟨pw_cell_below (below_alloc (Below.refl _ _) o) h.1, pw_cell_below (below_alloc (Below.refl _ _) o) h.2⟩
theorem KP.grown {bx : Nat} {r nd : Int} {W w1 : World} (h : KP bx r nd W) {row : Option Nat} (hg : W.grownBy w1 row) (h2 : some bx ≠ row) : KP bx r nd w1 := ⟨cell_grown hg h.1 h2, cell_grown hg h.2 h2⟩
theorem aheadE_geq (xs : List Item) (x : Item) : decide (0 ≤ aheadE xs x) = xs.contains x := by
  unfold aheadE
  by_cases h : xs.contains x = true
  · rw [if_pos h, h]; simp
  · rw [if_neg h]
    have : xs.contains x = false := by simpa using h
    rw [this]; rfl
set_option maxHeartbeats 2000000 in
set_option maxRecDepth 100000 in
theorem refPush_calls (N : Nat) (W : World) (rb : Nat) (xs : List Item) (x : Item) (h : IsR N W rb xs) (hl : xs.length ≤ 1000000) (hN : N ≤ W.heap.size) :
    Calls Try.prog 13 #[.pointer (some ⟨rb, 0, none⟩), encI x] W fun e W' => e = .returned (.int .i64 (pushE xs x)) ∧ IsR N W' rb (pushL xs x) ∧ Fr N (MR W) W W' := by
  obtain ⟨r, nd⟩ := x
  have hb0 := below_alloc (Below.refl W.heap.size W) (.cells #[.int .i64 r, .int .i64 nd] 42)
  have hR1 := h.below hb0
  have hbk := blk_new W (.cells #[.int .i64 r, .int .i64 nd] 42)
  have hMr : MR W rb := by obtain ⟨v, h1, h2, h3⟩ := h; exact .inr ⟨_, _, h2, .inl rfl⟩
  have hrow : ∃ A c, W.heap[rb]? = some (.cells #[.slice A xs.length c] 40 (0, 0)) ∧ N ≤ rb ∧ KI.Q 42 W N (MR W) (.slice A xs.length c) xs := by
    obtain ⟨v, h1, h2, h3⟩ := h
    obtain ⟨A, c, rfl, hc⟩ := Kd.Q_slice h3
    refine ⟨A, c, h2, h1, Kd.Q_mono (Kd.Q_bound h3) (fun k hk => ?_)⟩
    obtain ⟨_, _, _, q, hq, cells, hc⟩ := hk
    rw [KI_E] at hq
    simp at hq
    subst hq
    exact .inr ⟨_, _, hc, .inr rfl⟩
  obtain ⟨A, c, h2, h1, h3⟩ := hrow
  have hz0 : (W.alloc (.cells #[.int .i64 r, .int .i64 nd] 42)).cell? ⟨W.heap.size, 0, none⟩ = some (.int .i64 r) := (blk_cell hbk 0).trans rfl
  have hz1 : (W.alloc (.cells #[.int .i64 r, .int .i64 nd] 42)).cell? ⟨W.heap.size, 1, none⟩ = some (.int .i64 nd) := (blk_cell hbk 1).trans rfl
  have HA := Aside0.mk (refAhead_calls N _ rb xs (r, nd) hR1 hl)
  have HBK := Aside0.mk hbk
  have HQ0 := Aside0.mk (Kd.Q_below (Kd.Q_elderB h3 W.heap.size (Nat.le_refl _)) hb0)
  have H2 := Aside0.mk (blk_below h2 hb0)
  have HB := Aside0.mk (Fr.of_below hb0 hN : Fr N (MR W) W _)
  have HR1 := Aside0.mk hR1
  have hsz0 : (W.alloc (.cells #[.int .i64 r, .int .i64 nd] 42)).heap.size = W.heap.size + 1 := by simp
  have hge := aheadE_geq xs (r, nd)
  clear hb0 hR1 h hbk h2 h3
  show Calls Try.prog 13 #[.pointer (some ⟨rb, 0, none⟩), .agg #[.int .i64 r, .int .i64 nd]] W _
  go_enter Try.func13, Try.ntmps13
  go_upto_region 1 with (fail)
  generalize W.alloc (.cells #[.int .i64 r, .int .i64 nd] 42) = W0 at *
  have hMR : ∀ k, W.heap.size ≤ k → MR W k := fun k hk => .inl hk
  generalize hbxE : W.heap.size = bx at *
  generalize aheadE xs (r, nd) = E at *
  go_upto_region 2 with (first | (go_at_call 21; go_loud (refine HA.out.mono ?_; rintro e W1 ⟨rfl, hb⟩; have HBK1 := Aside0.mk (blk_below HBK.out hb); have HQ1 := Aside0.mk (Kd.Q_below HQ0.out hb); have H21 := Aside0.mk (blk_below H2.out hb); have HB1 := Aside0.mk (HB.out.step hb (by omega)); have HR11 := Aside0.mk (HR1.out.below hb); have hsz1 := hb.size; clear hb)))
  clear HA HBK HQ0 H2 HB hz0 hz1 HR1
  by_cases c1 : xs.contains (r, nd) = true
  · rw [c1] at hge
    have hge2 : decide (E ≥ 0) = true := hge
    have hE : pushE xs (r, nd) = 34 := by unfold pushE; rw [if_pos c1]
    have hL : pushL xs (r, nd) = xs := by unfold pushL; rw [if_pos c1]
    clear c1
    go_wp2
    go_ret
    rw [hE, hL]
    exact ⟨rfl, HR11.out, HB1.out⟩
  · have c1b : xs.contains (r, nd) = false := by simpa using c1
    rw [c1b] at hge
    have hge2 : decide (E ≥ 0) = false := hge
    have hcell0 : W1.cell? ⟨rb, 0, none⟩ = some (.slice A xs.length c) := (blk_cell H21.out 0).trans rfl
    by_cases c2 : xs.length ≥ 256
    · have c2b : decide ((xs.length : Int) ≥ 256) = true := decide_eq_true (by omega)
      have c2c : decide (256 ≤ (xs.length : Int)) = true := decide_eq_true (by omega)
      have hE : pushE xs (r, nd) = 35 := by unfold pushE; rw [if_neg c1, if_pos c2]
      have hL : pushL xs (r, nd) = xs := by unfold pushL; rw [if_neg c1, if_pos c2]
      clear c1 c1b
      go_wp2
      go_ret
      rw [hE, hL]
      exact ⟨rfl, HR11.out, HB1.out⟩
    · have c2b : decide ((xs.length : Int) ≥ 256) = false := decide_eq_false (by omega)
      have c2c : decide (256 ≤ (xs.length : Int)) = false := decide_eq_false (by omega)
      have hE : pushE xs (r, nd) = 0 := by unfold pushE; rw [if_neg c1, if_neg c2]
      have hL : pushL xs (r, nd) = xs ++ [(r, nd)] := by unfold pushL; rw [if_neg c1, if_neg c2]
      clear c1 c1b
      go_upto_region 6 with (fail)
      have hqd : W1.drew.heap[rb]? = some (.cells #[.slice A xs.length c] 40 (0, 0)) := H21.out
      have hc0d : W1.drew.cell? ⟨rb, 0, none⟩ = some (.slice A xs.length c) := hcell0
      have hbxd : W1.drew.heap[bx]? = some (.cells #[.int .i64 r, .int .i64 nd] 42 (0, 0)) := HBK1.out
      have K0 : KP bx r nd W1.drew := ⟨(blk_cell hbxd 0).trans rfl, (blk_cell hbxd 1).trans rfl⟩
      have HQ3 := Aside0.mk (Kd.Q_drew HQ1.out)
      have HB3 : Aside0 (Fr N (MR W) W W1.drew) := Aside0.mk (HB1.out.step (below_drew (Below.refl _ _)) (by omega))
      have hbq : some bx ≠ some rb := fun he => blk_ne hbxd hqd (by decide) (by injection he)
      clear HQ1 HB1 HBK1 H21 hcell0 HR11
      refine wp_region_held_drew (S := KP bx r nd) (by kernel_rfl) K0 (fun hHeld => ?_)
      have hszd2 : bx + 1 ≤ W1.drew.heap.size := by show bx + 1 ≤ W1.heap.size; omega
      obtain ⟨sz, hszd⟩ : ∃ sz, W1.drew.heap.size = sz := ⟨_, rfl⟩
      generalize W1.drew = Wd at *
      refine wpAnyH_take (i := 0) (oi := { dst := some 17, op := Op.move (Operand.tmp 0), type := 37, pos := "ref.go:41", after := #[], guard := none }) (v := ?v0) rfl (by kernel_rfl) (by kernel_rfl) (by kernel_rfl) (fun _ _ _ h => h) (Or.inl ⟨by rfl, ?y0⟩) (by assumption) ?_
      case y0 => (intro w hSw; (try dsimp only at hSw); go_simp; try with_reducible rfl)
      (try simp only [Act.put, List.setIfInBounds_toArray, List.set_cons_zero, List.set_cons_succ])
      refine wpAnyH_take (i := 1) (oi := { dst := some 18, op := Op.move (Operand.tmp 0), type := 37, pos := "ref.go:41", after := #[], guard := none }) (v := ?v1) rfl (by kernel_rfl) (by kernel_rfl) (by kernel_rfl) (fun _ _ _ h => h) (Or.inl ⟨by rfl, ?y1⟩) (by assumption) ?_
      case y1 => (intro w hSw; (try dsimp only at hSw); go_simp; try with_reducible rfl)
      (try simp only [Act.put, List.setIfInBounds_toArray, List.set_cons_zero, List.set_cons_succ])
      refine wpAnyH_take (i := 2) (oi := { dst := some 19, op := Op.nilCheck (Operand.tmp 18), type := 0, pos := "ref.go:41", after := #[{ on := 1, ground := Ground.data }], guard := none }) (v := ?v2) rfl (by kernel_rfl) (by kernel_rfl) (by kernel_rfl) (fun _ _ _ h => h) (Or.inl ⟨by rfl, ?y2⟩) (by assumption) ?_
      case y2 => (intro w hSw; (try dsimp only at hSw); go_simp; try with_reducible rfl)
      (try simp only [Act.put, List.setIfInBounds_toArray, List.set_cons_zero, List.set_cons_succ])
      refine wpAnyH_take (i := 3) (oi := { dst := some 20, op := Op.fieldAddr 40 (Operand.tmp 19) 0, type := 0, pos := "ref.go:41", after := #[{ on := 2, ground := Ground.data }], guard := none }) (v := ?v3) rfl (by kernel_rfl) (by kernel_rfl) (by kernel_rfl) (fun _ _ _ h => h) (Or.inl ⟨by rfl, ?y3⟩) (by assumption) ?_
      case y3 => (intro w hSw; (try dsimp only at hSw); go_simp; try with_reducible rfl)
      (try simp only [Act.put, List.setIfInBounds_toArray, List.set_cons_zero, List.set_cons_succ])
      refine wpAnyH_take (i := 5) (oi := { dst := some 22, op := Op.load 42 (Operand.tmp 3), type := 42, pos := "ref.go:41", after := #[], guard := none }) (v := ?v5) rfl (by kernel_rfl) (by kernel_rfl) (by kernel_rfl) (fun _ _ _ h => h) (Or.inl ⟨by rfl, ?y5⟩) (by assumption) ?_
      case y5 => (intro w hSw; (try dsimp only at hSw); go_simp; try with_reducible rfl)
      (try simp only [Act.put, List.setIfInBounds_toArray, List.set_cons_zero, List.set_cons_succ])
      refine wpAnyH_ready (rs := [4, 6]) (by kernel_rfl) (by simp) ?_
      refine AllReadyH.cons (o := { dst := some 21, op := Op.load 38 (Operand.tmp 20), type := 38, pos := "ref.go:41", after := #[{ on := 3, ground := Ground.data }], guard := none }) rfl (fun K hK => ?_) (AllReadyH.cons (o := { dst := some 23, op := Op.buildSlice 38 1 #[(0, Operand.tmp 22)], type := 38, pos := "ref.go:41", after := #[{ on := 5, ground := Ground.data }], guard := none }) rfl (fun K hK => ?_) AllReadyH.nil)
      · go_simp
        refine hK.out _ _ hHeld (fun hHeld2 => ?_)
        clear hK K hHeld
        have hHeld := hHeld2
        clear hHeld2
        (try simp only [Act.put, List.setIfInBounds_toArray, List.set_cons_zero, List.set_cons_succ])
        refine wpAnyH_ready (rs := [6]) (by kernel_rfl) (by simp) ?_
        refine AllReadyH.cons (o := { dst := some 23, op := Op.buildSlice 38 1 #[(0, Operand.tmp 22)], type := 38, pos := "ref.go:41", after := #[{ on := 5, ground := Ground.data }], guard := none }) rfl (fun K hK => ?_) AllReadyH.nil
        go_simp
        refine hK.out _ _ (KP.alloc hHeld _) (fun hHeld2 => ?_)
        clear hK K hHeld
        have hHeld := hHeld2
        clear hHeld2
        (try simp only [Act.put, List.setIfInBounds_toArray, List.set_cons_zero, List.set_cons_succ])
        refine wpAnyH_ready (rs := [7]) (by kernel_rfl) (by simp) ?_
        refine AllReadyH.cons (o := { dst := some 24, op := Op.call { callee := Callee.builtin Builtin.append, args := #[Operand.tmp 21, Operand.tmp 23], argTypes := #[38, 38] }, type := 38, pos := "ref.go:41", after := #[{ on := 4, ground := Ground.data }, { on := 6, ground := Ground.data }], guard := none }) rfl (fun K hK => ?_) AllReadyH.nil
        refine Kd.Q_append_step KI (w0 := W) N rfl (.tmp 21) (.tmp 23) 38 42 (.agg #[.int .i64 0, .int .i64 0]) 16 rfl Try.underlying38 info42 rfl (by decide) (by decide) (.slice A xs.length c) xs (r, nd) [.int .i64 r, .int .i64 nd] (fun k => (MR W k) ∧ k ≠ bx) (fun _ => False) rfl (by rw [hszd]; rfl) ?pM (fun _ hk => hk.elim) ?pF HQ3.out HB3.out.1 ?pS ?pL ?_
        case pM => exact ⟨[.int .i64 r], [.int .i64 nd], rfl, rfl, rfl⟩
        case pF => intro k hk; exact ⟨.inl (by omega), by omega⟩
        case pS => omega
        case pL => omega
        intro v1 w2 ho hb hg hat
        obtain ⟨A1, k1, rfl, hk1⟩ := Kd.Q_slice ho
        have hlen : (xs ++ [(r, nd)]).length = xs.length + 1 := by simp
        rw [hlen] at ho hat
        (try rw [hlen])
        have hq2' := blk_grown hqd hg (Kd.Q_ne HQ3.out hqd (by decide))
        have hk2 := KP.grown K0 hg (fun he => (Kd.Q_ok HQ3.out _ he.symm).2 rfl)
        have hsz2 := hg.size
        have hb2 : Fr N (MR W) W w2 := ⟨hb, Kept.of_grown hg HB3.out.2 (fun k he => .inl (Kd.Q_ok HQ3.out k he).1)⟩
        refine hK.out _ _ hk2 (fun hHeld2 => ?_)
        clear hK K hHeld
        have hHeld := hHeld2
        clear hHeld2
        (try simp only [Act.put, List.setIfInBounds_toArray, List.set_cons_zero, List.set_cons_succ])
        refine wpAnyH_ready (rs := [8]) (by kernel_rfl) (by simp) ?_
        refine AllReadyH.cons (o := { dst := some 25, op := Op.nilCheck (Operand.tmp 17), type := 0, pos := "ref.go:41", after := #[{ on := 0, ground := Ground.data }, { on := 0, ground := Ground.phase }, { on := 1, ground := Ground.phase }, { on := 2, ground := Ground.phase }, { on := 3, ground := Ground.phase }, { on := 4, ground := Ground.phase }, { on := 5, ground := Ground.phase }, { on := 6, ground := Ground.phase }, { on := 7, ground := Ground.phase }], guard := none }) rfl (fun K hK => ?_) AllReadyH.nil
        go_simp
        refine hK.out _ _ hHeld (fun hHeld2 => ?_)
        clear hK K hHeld
        have hHeld := hHeld2
        clear hHeld2
        (try simp only [Act.put, List.setIfInBounds_toArray, List.set_cons_zero, List.set_cons_succ])
        refine wpAnyH_ready (rs := [9]) (by kernel_rfl) (by simp) ?_
        refine AllReadyH.cons (o := { dst := some 26, op := Op.fieldAddr 40 (Operand.tmp 25) 0, type := 0, pos := "ref.go:41", after := #[{ on := 8, ground := Ground.data }, { on := 0, ground := Ground.phase }, { on := 1, ground := Ground.phase }, { on := 2, ground := Ground.phase }, { on := 3, ground := Ground.phase }, { on := 4, ground := Ground.phase }, { on := 5, ground := Ground.phase }, { on := 6, ground := Ground.phase }, { on := 7, ground := Ground.phase }], guard := none }) rfl (fun K hK => ?_) AllReadyH.nil
        go_simp
        refine hK.out _ _ hHeld (fun hHeld2 => ?_)
        clear hK K hHeld
        have hHeld := hHeld2
        clear hHeld2
        (try simp only [Act.put, List.setIfInBounds_toArray, List.set_cons_zero, List.set_cons_succ])
        refine wpAnyH_ready (rs := [10]) (by kernel_rfl) (by simp) ?_
        refine AllReadyH.cons (o := { dst := none, op := Op.store 38 (Operand.tmp 26) (Operand.tmp 24), type := 0, pos := "ref.go:41", after := #[{ on := 9, ground := Ground.data }, { on := 7, ground := Ground.data }, { on := 7, ground := Ground.chain }, { on := 0, ground := Ground.phase }, { on := 1, ground := Ground.phase }, { on := 2, ground := Ground.phase }, { on := 3, ground := Ground.phase }, { on := 4, ground := Ground.phase }, { on := 5, ground := Ground.phase }, { on := 6, ground := Ground.phase }, { on := 7, ground := Ground.phase }], guard := none }) rfl (fun K hK => ?_) AllReadyH.nil
        have hcq : w2.cell? ⟨rb, 0, none⟩ = some (.slice A xs.length c) := (blk_cell hq2' 0).trans rfl
        have hfq : w2.frozen? ⟨rb, 0, none⟩ = false := blk_frozen hq2' 0
        refine store_step (w1 := w2.setCell ⟨rb, 0, none⟩ (.slice A1 (xs.length + 1) k1)) rfl rfl (by first | (go_simp; done) | (go_simp; rfl)) ?_
        have hg3 := grown_setCell w2 ⟨rb, 0, none⟩ (.slice A1 (xs.length + 1) k1)
        have hq3 := blk_put hq2' 0 (.slice A1 (xs.length + 1) k1) (cs' := #[(.slice A1 (xs.length + 1) k1)]) rfl
        have ho3 := Kd.Q_set ho hq2' hE40 0 (.slice A1 (xs.length + 1) k1)
        have hb3 := Fr.grown hb2 hg3 (by omega) h1 hMr
        have hk3 := KP.grown hHeld hg3 hbq
        refine hK.out _ _ hk3 (fun hHeld2 => ?_)
        clear hK K hHeld
        have hHeld := hHeld2
        clear hHeld2
        (try simp only [Act.put, List.setIfInBounds_toArray, List.set_cons_zero, List.set_cons_succ])
        refine wpAnyH_done (by kernel_rfl) ?_ _
        have HX := Aside0.mk (show IsR N (w2.setCell ⟨rb, 0, none⟩ (.slice A1 (xs.length + 1) k1)) rb (xs ++ [(r, nd)]) from ⟨_, h1, hq3, Kd.Q_mono ho3 (fun _ _ => trivial)⟩)
        have HB5 := Aside0.mk hb3
        clear ho3 hb3 hq3 hg3 hqd hc0d hbxd ho hat hg hb hb2 hq2' hcq hfq hk2 hk3 K0
        generalize w2.setCell ⟨rb, 0, none⟩ (.slice A1 (xs.length + 1) k1) = w5 at *
        go_wp2
        go_ret
        (try rw [hE])
        (try rw [hL])
        exact ⟨rfl, HX.out, HB5.out⟩
      · go_simp
        refine hK.out _ _ (KP.alloc hHeld _) (fun hHeld2 => ?_)
        clear hK K hHeld
        have hHeld := hHeld2
        clear hHeld2
        (try simp only [Act.put, List.setIfInBounds_toArray, List.set_cons_zero, List.set_cons_succ])
        have hc0a := pw_cell_below (below_alloc (Below.refl Wd.heap.size Wd) (.cells #[.int .i64 r, .int .i64 nd] 42)) hc0d
        refine wpAnyH_ready (rs := [4]) (by kernel_rfl) (by simp) ?_
        refine AllReadyH.cons (o := { dst := some 21, op := Op.load 38 (Operand.tmp 20), type := 38, pos := "ref.go:41", after := #[{ on := 3, ground := Ground.data }], guard := none }) rfl (fun K hK => ?_) AllReadyH.nil
        go_simp
        refine hK.out _ _ hHeld (fun hHeld2 => ?_)
        clear hK K hHeld
        have hHeld := hHeld2
        clear hHeld2
        (try simp only [Act.put, List.setIfInBounds_toArray, List.set_cons_zero, List.set_cons_succ])
        refine wpAnyH_ready (rs := [7]) (by kernel_rfl) (by simp) ?_
        refine AllReadyH.cons (o := { dst := some 24, op := Op.call { callee := Callee.builtin Builtin.append, args := #[Operand.tmp 21, Operand.tmp 23], argTypes := #[38, 38] }, type := 38, pos := "ref.go:41", after := #[{ on := 4, ground := Ground.data }, { on := 6, ground := Ground.data }], guard := none }) rfl (fun K hK => ?_) AllReadyH.nil
        refine Kd.Q_append_step KI (w0 := W) N rfl (.tmp 21) (.tmp 23) 38 42 (.agg #[.int .i64 0, .int .i64 0]) 16 rfl Try.underlying38 info42 rfl (by decide) (by decide) (.slice A xs.length c) xs (r, nd) [.int .i64 r, .int .i64 nd] (fun k => (MR W k) ∧ k ≠ bx) (fun _ => False) rfl (by rw [hszd]; rfl) ?pM (fun _ hk => hk.elim) ?pF HQ3.out HB3.out.1 ?pS ?pL ?_
        case pM => exact ⟨[.int .i64 r], [.int .i64 nd], rfl, rfl, rfl⟩
        case pF => intro k hk; exact ⟨.inl (by omega), by omega⟩
        case pS => omega
        case pL => omega
        intro v1 w2 ho hb hg hat
        obtain ⟨A1, k1, rfl, hk1⟩ := Kd.Q_slice ho
        have hlen : (xs ++ [(r, nd)]).length = xs.length + 1 := by simp
        rw [hlen] at ho hat
        (try rw [hlen])
        have hq2' := blk_grown hqd hg (Kd.Q_ne HQ3.out hqd (by decide))
        have hk2 := KP.grown K0 hg (fun he => (Kd.Q_ok HQ3.out _ he.symm).2 rfl)
        have hsz2 := hg.size
        have hb2 : Fr N (MR W) W w2 := ⟨hb, Kept.of_grown hg HB3.out.2 (fun k he => .inl (Kd.Q_ok HQ3.out k he).1)⟩
        refine hK.out _ _ hk2 (fun hHeld2 => ?_)
        clear hK K hHeld
        have hHeld := hHeld2
        clear hHeld2
        (try simp only [Act.put, List.setIfInBounds_toArray, List.set_cons_zero, List.set_cons_succ])
        refine wpAnyH_ready (rs := [8]) (by kernel_rfl) (by simp) ?_
        refine AllReadyH.cons (o := { dst := some 25, op := Op.nilCheck (Operand.tmp 17), type := 0, pos := "ref.go:41", after := #[{ on := 0, ground := Ground.data }, { on := 0, ground := Ground.phase }, { on := 1, ground := Ground.phase }, { on := 2, ground := Ground.phase }, { on := 3, ground := Ground.phase }, { on := 4, ground := Ground.phase }, { on := 5, ground := Ground.phase }, { on := 6, ground := Ground.phase }, { on := 7, ground := Ground.phase }], guard := none }) rfl (fun K hK => ?_) AllReadyH.nil
        go_simp
        refine hK.out _ _ hHeld (fun hHeld2 => ?_)
        clear hK K hHeld
        have hHeld := hHeld2
        clear hHeld2
        (try simp only [Act.put, List.setIfInBounds_toArray, List.set_cons_zero, List.set_cons_succ])
        refine wpAnyH_ready (rs := [9]) (by kernel_rfl) (by simp) ?_
        refine AllReadyH.cons (o := { dst := some 26, op := Op.fieldAddr 40 (Operand.tmp 25) 0, type := 0, pos := "ref.go:41", after := #[{ on := 8, ground := Ground.data }, { on := 0, ground := Ground.phase }, { on := 1, ground := Ground.phase }, { on := 2, ground := Ground.phase }, { on := 3, ground := Ground.phase }, { on := 4, ground := Ground.phase }, { on := 5, ground := Ground.phase }, { on := 6, ground := Ground.phase }, { on := 7, ground := Ground.phase }], guard := none }) rfl (fun K hK => ?_) AllReadyH.nil
        go_simp
        refine hK.out _ _ hHeld (fun hHeld2 => ?_)
        clear hK K hHeld
        have hHeld := hHeld2
        clear hHeld2
        (try simp only [Act.put, List.setIfInBounds_toArray, List.set_cons_zero, List.set_cons_succ])
        refine wpAnyH_ready (rs := [10]) (by kernel_rfl) (by simp) ?_
        refine AllReadyH.cons (o := { dst := none, op := Op.store 38 (Operand.tmp 26) (Operand.tmp 24), type := 0, pos := "ref.go:41", after := #[{ on := 9, ground := Ground.data }, { on := 7, ground := Ground.data }, { on := 7, ground := Ground.chain }, { on := 0, ground := Ground.phase }, { on := 1, ground := Ground.phase }, { on := 2, ground := Ground.phase }, { on := 3, ground := Ground.phase }, { on := 4, ground := Ground.phase }, { on := 5, ground := Ground.phase }, { on := 6, ground := Ground.phase }, { on := 7, ground := Ground.phase }], guard := none }) rfl (fun K hK => ?_) AllReadyH.nil
        have hcq : w2.cell? ⟨rb, 0, none⟩ = some (.slice A xs.length c) := (blk_cell hq2' 0).trans rfl
        have hfq : w2.frozen? ⟨rb, 0, none⟩ = false := blk_frozen hq2' 0
        refine store_step (w1 := w2.setCell ⟨rb, 0, none⟩ (.slice A1 (xs.length + 1) k1)) rfl rfl (by first | (go_simp; done) | (go_simp; rfl)) ?_
        have hg3 := grown_setCell w2 ⟨rb, 0, none⟩ (.slice A1 (xs.length + 1) k1)
        have hq3 := blk_put hq2' 0 (.slice A1 (xs.length + 1) k1) (cs' := #[(.slice A1 (xs.length + 1) k1)]) rfl
        have ho3 := Kd.Q_set ho hq2' hE40 0 (.slice A1 (xs.length + 1) k1)
        have hb3 := Fr.grown hb2 hg3 (by omega) h1 hMr
        have hk3 := KP.grown hHeld hg3 hbq
        refine hK.out _ _ hk3 (fun hHeld2 => ?_)
        clear hK K hHeld
        have hHeld := hHeld2
        clear hHeld2
        (try simp only [Act.put, List.setIfInBounds_toArray, List.set_cons_zero, List.set_cons_succ])
        refine wpAnyH_done (by kernel_rfl) ?_ _
        have HX := Aside0.mk (show IsR N (w2.setCell ⟨rb, 0, none⟩ (.slice A1 (xs.length + 1) k1)) rb (xs ++ [(r, nd)]) from ⟨_, h1, hq3, Kd.Q_mono ho3 (fun _ _ => trivial)⟩)
        have HB5 := Aside0.mk hb3
        clear ho3 hb3 hq3 hg3 hqd hc0d hbxd ho hat hg hb hb2 hq2' hcq hfq hk2 hk3 K0
        generalize w2.setCell ⟨rb, 0, none⟩ (.slice A1 (xs.length + 1) k1) = w5 at *
        go_wp2
        go_ret
        (try rw [hE])
        (try rw [hL])
        exact ⟨rfl, HX.out, HB5.out⟩
end Go.Proofs.Ytcnecdlphpkmgaa.Q
