/- Drop. No condition beyond numbers being numbers of 64 bits. -/
import Derived.Test.YtcnecdlphpkmgaaQDelF
namespace Go.Proofs.Ytcnecdlphpkmgaa.Q
open Go.RowKit Go.Proofs.YtcnecdlphpkmgaaW.PrintWords Go.Proofs.YtcnecdlphpkmgaaW.PrintLast Go.Proofs.YtcnecdlphpkmgaaW.PrintMore
set_option linter.unusedVariables false
set_option linter.unusedSimpArgs false

/-- What Drop leaves. -/
def dropL (run : Int) (xs : List Item) : List Item := xs.filter (fun y => !(y.1 == run))
theorem kept_full (run : Int) (xs : List Item) : kept run xs xs.length = dropL run xs := by simp [kept, dropL]
theorem Good.dropL {xs : List Item} (h : Good xs) (run : Int) : Good (dropL run xs) :=
  ⟨h.1.sublist List.filter_sublist, Nat.le_trans (List.length_filter_le _ _) h.2.1, fun y hy => h.2.2 y (List.mem_filter.1 hy).1⟩
theorem dropL_none (run : Int) (xs : List Item) (h : ∀ j, j < xs.length → (xs.getD j (0, 0)).1 ≠ run) : dropL run xs = xs := by
  rw [← kept_full, kept_all run xs xs.length (Nat.le_refl _) h, List.take_length]
theorem deleteFunc_calls (M : Nat → Prop) (N qb mb rb pb n : Nat) (run : Int) (sv : Value) (W w : World) (A : Option Addr) (c : Nat) (xs : List Item) (ok : Nat → Prop) (h : DSt qb mb rb pb n run sv w xs) (hq : KI.Q 31 w N ok (.slice A xs.length c) xs) (hG : Good xs)
    (hB : Fr N M W w) (hmN : N ≤ mb) (hmM : M mb) (hok : ∀ k, ok k → M k) (hN : N ≤ w.heap.size) :
    Calls Try.prog 22 #[.slice A xs.length c, .func (.func 23) #[] #[.pointer (some ⟨rb, 0, none⟩), .pointer (some ⟨pb, 0, none⟩)]] w fun e w' =>
      ∃ A' c', e = .returned (.slice A' (dropL run xs).length c') ∧ KI.Q 31 w' N ok (.slice A' (dropL run xs).length c') (dropL run xs) ∧ DSt qb mb rb pb n run sv w' (dropL run xs) ∧ Fr N M W w' := by
  by_cases hex : ∃ j, j < xs.length ∧ (xs.getD j (0, 0)).1 = run
  · obtain ⟨j, ⟨hj1, hj2⟩, hmin⟩ : ∃ j, (j < xs.length ∧ (xs.getD j (0, 0)).1 = run) ∧ ∀ k, k < j → ¬ (k < xs.length ∧ (xs.getD k (0, 0)).1 = run) := by
      obtain ⟨j, hj⟩ := hex
      induction j using Nat.strongRecOn with
      | ind j ih =>
        by_cases hh : ∃ k, k < j ∧ (k < xs.length ∧ (xs.getD k (0, 0)).1 = run)
        · obtain ⟨k, hk, hk2⟩ := hh; exact ih k hk hk2
        · exact ⟨j, hj, fun k hk hk2 => hh ⟨k, hk, hk2⟩⟩
    obtain ⟨g, o, c', he, hg1, hg2, _⟩ := Kd.Q_form hq (by omega)
    injection he with ha hb hc
    subst ha; subst hc
    refine (deleteFunc_some M N qb mb rb pb n run sv W w g o c xs ok h hq hG hB hmN hmM hg1 (hok g (Kd.Q_ok hq g rfl)) j hj1 hj2 (fun k hk hk2 => hmin k hk ⟨by omega, hk2⟩)).mono fun e w' ⟨h1, h2, h3, h4⟩ => ?_
    rw [kept_full] at h1 h2 h3
    exact ⟨_, _, h1, h2, h3, h4⟩
  · have hne : ∀ j, j < xs.length → (xs.getD j (0, 0)).1 ≠ run := fun j hj hx => hex ⟨j, hj, hx⟩
    refine (deleteFunc_none N qb mb rb pb n run sv w A c xs ok h hq hG hne).mono fun e w' ⟨h1, h2, h3⟩ => ?_
    rw [left_end, kept_full] at h3
    rw [dropL_none run xs hne] at h3 ⊢
    exact ⟨_, _, h1, Kd.Q_grown1 hq KI_E h2 (h.2.2.2.neRow hq), h.grown h2 h3, Fr.grown hB h2 hN hmN hmM⟩

/-- What Drop's region keeps. -/
abbrev KD (qb pb : Nat) (sv : Value) (w : World) : Prop := w.cell? ⟨pb, 0, none⟩ = some (.pointer (some ⟨qb, 0, none⟩)) ∧ w.heap.size = w.heap.size
set_option maxHeartbeats 4000000 in
set_option maxRecDepth 100000 in
theorem drop_calls (M : Nat → Prop) (N : Nat) (W : World) (qb n : Nat) (xs : List Item) (run : Int) (h : IsQ M N W qb xs n) (hN : N ≤ W.heap.size) :
    Calls Try.prog 16 #[.pointer (some ⟨qb, 0, none⟩), .int .i64 run] W fun e W' => e = .returned (.int .i64 ((xs.length : Int) - ((dropL run xs).length : Int))) ∧ IsQ M N W' qb (dropL run xs) n ∧ Fr N M W W' := by
  obtain ⟨sv, mb, h1, h2, h3, h4, h5, h6⟩ := h
  obtain ⟨A, c, rfl, hc⟩ := Kd.Q_slice h4
  have hN1 := h1.1
  have hN2 := h2.1
  have hlen : (dropL run xs).length ≤ xs.length := List.length_filter_le _ _
  have hl : xs.length ≤ 256 := h6.2.1
  have hbp := below_alloc (Below.refl W.heap.size W) (.cells #[.pointer (some ⟨qb, 0, none⟩)] 23)
  have hbr := below_alloc hbp (.cells #[.int .i64 run] 2)
  have hsz1 : ((W.alloc (.cells #[.pointer (some ⟨qb, 0, none⟩)] 23)).alloc (.cells #[.int .i64 run] 2)).heap.size = W.heap.size + 2 := by simp
  have hpb := blk_alloc (blk_new W (.cells #[.pointer (some ⟨qb, 0, none⟩)] 23)) (.cells #[.int .i64 run] 2)
  have hrb := blk_new (W.alloc (.cells #[.pointer (some ⟨qb, 0, none⟩)] 23)) (.cells #[.int .i64 run] 2)
  have hsz0 : (W.alloc (.cells #[.pointer (some ⟨qb, 0, none⟩)] 23)).heap.size = W.heap.size + 1 := by simp
  rw [hsz0] at hrb
  have HD := Aside0.mk (show DSt qb mb (W.heap.size + 1) W.heap.size n run (.slice A xs.length c) _ xs from ⟨blk_below h3 hbr, hrb, hpb, h5.kept (grown_of_below hbr none) (by simp)⟩)
  have HQ := Aside0.mk (Kd.Q_below h4 hbr)
  have HB : Aside0 (Fr N M W _) := Aside0.mk (Fr.of_below hbr hN)
  have HG := Aside0.mk h6
  clear h3 h4 h5 h6 hbp hbr hpb hrb hsz0
  go_enter Try.func16, Try.ntmps16
  go_upto_region 1 with (fail)
  generalize ((W.alloc (.cells #[.pointer (some ⟨qb, 0, none⟩)] 23)).alloc (.cells #[.int .i64 run] 2)) = w1 at *
  generalize hpbE : W.heap.size = pb at *
  have hcp : w1.cell? ⟨pb, 0, none⟩ = some (.pointer (some ⟨qb, 0, none⟩)) := (blk_cell HD.out.2.2.1 0).trans rfl
  have hcq : w1.cell? ⟨qb, 0, none⟩ = some (.slice A xs.length c) := (blk_cell HD.out.1 0).trans rfl
  go_upto_region 4 with (fail)
  have hcpd : w1.drew.cell? ⟨pb, 0, none⟩ = some (.pointer (some ⟨qb, 0, none⟩)) := hcp
  have hcqd : w1.drew.cell? ⟨qb, 0, none⟩ = some (.slice A xs.length c) := hcq
  have K0 : w1.drew.cell? ⟨pb, 0, none⟩ = some (.pointer (some ⟨qb, 0, none⟩)) := hcp
  have HDd := Aside0.mk (HD.out.below (below_drew (Below.refl _ _)))
  have HQd := Aside0.mk (Kd.Q_drew HQ.out)
  have HBd : Aside0 (Fr N M W w1.drew) := Aside0.mk (HB.out.step (below_drew (Below.refl _ _)) (by omega))
  have hszd : w1.drew.heap.size = pb + 2 := hsz1
  refine wp_region_held_drew (S := fun w => w.cell? ⟨pb, 0, none⟩ = some (.pointer (some ⟨qb, 0, none⟩))) (by kernel_rfl) K0 (fun hHeld => ?_)
  clear hcp hcq HD HQ HB
  generalize w1.drew = wd at *
  refine wpAnyH_take (i := 0) (oi := { dst := some 13, op := Op.load 23 (Operand.tmp 2), type := 23, pos := "queue.go:64", after := #[], guard := none }) (v := ?v0) rfl (by kernel_rfl) (by kernel_rfl) (by kernel_rfl) (fun _ _ _ h => h) (Or.inl ⟨by rfl, ?y0⟩) (by assumption) ?_
  case y0 => (intro w hSw; (try dsimp only at hSw); go_simp; try with_reducible rfl)
  (try simp only [Act.put, List.setIfInBounds_toArray, List.set_cons_zero, List.set_cons_succ])
  refine wpAnyH_take (i := 1) (oi := { dst := some 14, op := Op.load 23 (Operand.tmp 2), type := 23, pos := "queue.go:64", after := #[], guard := none }) (v := ?v1) rfl (by kernel_rfl) (by kernel_rfl) (by kernel_rfl) (fun _ _ _ h => h) (Or.inl ⟨by rfl, ?y1⟩) (by assumption) ?_
  case y1 => (intro w hSw; (try dsimp only at hSw); go_simp; try with_reducible rfl)
  (try simp only [Act.put, List.setIfInBounds_toArray, List.set_cons_zero, List.set_cons_succ])
  refine wpAnyH_take (i := 2) (oi := { dst := some 15, op := Op.nilCheck (Operand.tmp 14), type := 0, pos := "queue.go:64", after := #[{ on := 1, ground := Ground.data }], guard := none }) (v := ?v2) rfl (by kernel_rfl) (by kernel_rfl) (by kernel_rfl) (fun _ _ _ h => h) (Or.inl ⟨by rfl, ?y2⟩) (by assumption) ?_
  case y2 => (intro w hSw; (try dsimp only at hSw); go_simp; try with_reducible rfl)
  (try simp only [Act.put, List.setIfInBounds_toArray, List.set_cons_zero, List.set_cons_succ])
  refine wpAnyH_take (i := 3) (oi := { dst := some 16, op := Op.fieldAddr 58 (Operand.tmp 15) 0, type := 0, pos := "queue.go:64", after := #[{ on := 2, ground := Ground.data }], guard := none }) (v := ?v3) rfl (by kernel_rfl) (by kernel_rfl) (by kernel_rfl) (fun _ _ _ h => h) (Or.inl ⟨by rfl, ?y3⟩) (by assumption) ?_
  case y3 => (intro w hSw; (try dsimp only at hSw); go_simp; try with_reducible rfl)
  (try simp only [Act.put, List.setIfInBounds_toArray, List.set_cons_zero, List.set_cons_succ])
  refine wpAnyH_take (i := 5) (oi := { dst := some 18, op := Op.makeFunc (Fn.func 23) #[] #[Operand.tmp 3, Operand.tmp 2], type := 34, pos := "queue.go:64", after := #[], guard := none }) (v := ?v5) rfl (by kernel_rfl) (by kernel_rfl) (by kernel_rfl) (fun _ _ _ h => h) (Or.inl ⟨by rfl, ?y5⟩) (by assumption) ?_
  case y5 => (intro w hSw; (try dsimp only at hSw); go_simp; try with_reducible rfl)
  (try simp only [Act.put, List.setIfInBounds_toArray, List.set_cons_zero, List.set_cons_succ])
  refine wpAnyH_ready (rs := [4]) (by kernel_rfl) (by simp) ?_
  refine AllReadyH.cons (o := { dst := some 17, op := Op.load 32 (Operand.tmp 16), type := 32, pos := "queue.go:64", after := #[{ on := 3, ground := Ground.data }], guard := none }) rfl (fun K hK => ?_) AllReadyH.nil
  go_simp
  refine hK.out _ _ hHeld (fun hHeld2 => ?_)
  clear hK K hHeld
  have hHeld := hHeld2
  clear hHeld2
  (try simp only [Act.put, List.setIfInBounds_toArray, List.set_cons_zero, List.set_cons_succ])
  refine wpAnyH_ready (rs := [6]) (by kernel_rfl) (by simp) ?_
  refine AllReadyH.cons (o := { dst := some 19, op := Op.call { callee := Callee.value (Operand.func 22), args := #[Operand.tmp 17, Operand.tmp 18], argTypes := #[32, 34] }, type := 32, pos := "queue.go:64", after := #[{ on := 4, ground := Ground.data }, { on := 5, ground := Ground.data }], guard := none }) rfl (fun K hK => ?_) AllReadyH.nil
  have HCL := Aside0.mk (deleteFunc_calls M N qb mb (pb + 1) pb n run (.slice A xs.length c) W wd A c xs _ HDd.out HQd.out HG.out HBd.out h2.1 h2.2 (fun _ hk => hk) (by omega))
  (first | (go_at_call 22; go_loud (refine HCL.out.mono ?_; rintro e w2 ⟨A', c', rfl, hq, hd, hb⟩)) | (go_simp; (go_at_call 22; go_loud (refine HCL.out.mono ?_; rintro e w2 ⟨A', c', rfl, hq, hd, hb⟩))))
  have hsz2 : 0 ≤ w2.heap.size := Nat.zero_le _
  have HD2 := Aside0.mk hd
  have HQ2 := Aside0.mk hq
  have HB2 := Aside0.mk hb
  have hk2 : w2.cell? ⟨pb, 0, none⟩ = some (.pointer (some ⟨qb, 0, none⟩)) := (blk_cell hd.2.2.1 0).trans rfl
  clear hd hq hb HCL
  refine hK.out _ _ hk2 (fun hHeld2 => ?_)
  clear hK K hHeld
  have hHeld := hHeld2
  clear hHeld2
  (try simp only [Act.put, List.setIfInBounds_toArray, List.set_cons_zero, List.set_cons_succ])
  refine wpAnyH_ready (rs := [7]) (by kernel_rfl) (by simp) ?_
  refine AllReadyH.cons (o := { dst := some 20, op := Op.nilCheck (Operand.tmp 13), type := 0, pos := "queue.go:64", after := #[{ on := 0, ground := Ground.data }, { on := 0, ground := Ground.phase }, { on := 1, ground := Ground.phase }, { on := 2, ground := Ground.phase }, { on := 3, ground := Ground.phase }, { on := 4, ground := Ground.phase }, { on := 5, ground := Ground.phase }, { on := 6, ground := Ground.phase }], guard := none }) rfl (fun K hK => ?_) AllReadyH.nil
  go_simp
  refine hK.out _ _ hHeld (fun hHeld2 => ?_)
  clear hK K hHeld
  have hHeld := hHeld2
  clear hHeld2
  (try simp only [Act.put, List.setIfInBounds_toArray, List.set_cons_zero, List.set_cons_succ])
  refine wpAnyH_ready (rs := [8]) (by kernel_rfl) (by simp) ?_
  refine AllReadyH.cons (o := { dst := some 21, op := Op.fieldAddr 58 (Operand.tmp 20) 0, type := 0, pos := "queue.go:64", after := #[{ on := 7, ground := Ground.data }, { on := 0, ground := Ground.phase }, { on := 1, ground := Ground.phase }, { on := 2, ground := Ground.phase }, { on := 3, ground := Ground.phase }, { on := 4, ground := Ground.phase }, { on := 5, ground := Ground.phase }, { on := 6, ground := Ground.phase }], guard := none }) rfl (fun K hK => ?_) AllReadyH.nil
  go_simp
  refine hK.out _ _ hHeld (fun hHeld2 => ?_)
  clear hK K hHeld
  have hHeld := hHeld2
  clear hHeld2
  (try simp only [Act.put, List.setIfInBounds_toArray, List.set_cons_zero, List.set_cons_succ])
  refine wpAnyH_ready (rs := [9]) (by kernel_rfl) (by simp) ?_
  refine AllReadyH.cons (o := { dst := none, op := Op.store 32 (Operand.tmp 21) (Operand.tmp 19), type := 0, pos := "queue.go:64", after := #[{ on := 8, ground := Ground.data }, { on := 6, ground := Ground.data }, { on := 6, ground := Ground.chain }, { on := 0, ground := Ground.phase }, { on := 1, ground := Ground.phase }, { on := 2, ground := Ground.phase }, { on := 3, ground := Ground.phase }, { on := 4, ground := Ground.phase }, { on := 5, ground := Ground.phase }, { on := 6, ground := Ground.phase }], guard := none }) rfl (fun K hK => ?_) AllReadyH.nil
  have hq2' := HD2.out.1
  have hcq2 : w2.cell? ⟨qb, 0, none⟩ = some (.slice A xs.length c) := (blk_cell hq2' 0).trans rfl
  have hfq : w2.frozen? ⟨qb, 0, none⟩ = false := blk_frozen hq2' 0
  refine store_step (w1 := w2.setCell ⟨qb, 0, none⟩ (.slice A' (dropL run xs).length c')) rfl rfl (by first | (go_simp; done) | (go_simp; rfl)) ?_
  have hg3 := grown_setCell w2 ⟨qb, 0, none⟩ (.slice A' (dropL run xs).length c')
  have hq3 := blk_put hq2' 0 (.slice A' (dropL run xs).length c') (cs' := #[.slice A' (dropL run xs).length c', .map (some mb)]) rfl
  have hS3 := HD2.out.2.2.2.kept hg3 (fun he => HD2.out.2.2.2.ne hq2' (by injection he))
  have ho3 := Kd.Q_set HQ2.out hq2' hE58 0 (.slice A' (dropL run xs).length c')
  have hb3 := Fr.grown HB2.out hg3 (by have := HB2.out.1.size; omega) h1.1 h1.2
  have hp3 := blk_grown HD2.out.2.2.1 hg3 (fun he => blk_ne HD2.out.2.2.1 hq2' (by decide) (by injection he))
  have hcp3 : (w2.setCell ⟨qb, 0, none⟩ (.slice A' (dropL run xs).length c')).cell? ⟨pb, 0, none⟩ = some (.pointer (some ⟨qb, 0, none⟩)) := (blk_cell hp3 0).trans rfl
  have hcq3 : (w2.setCell ⟨qb, 0, none⟩ (.slice A' (dropL run xs).length c')).cell? ⟨qb, 0, none⟩ = some (.slice A' (dropL run xs).length c') := (blk_cell hq3 0).trans rfl
  refine hK.out _ _ hcp3 (fun hHeld2 => ?_)
  clear hK K hHeld
  have hHeld := hHeld2
  clear hHeld2
  (try simp only [Act.put, List.setIfInBounds_toArray, List.set_cons_zero, List.set_cons_succ])
  refine wpAnyH_done (by kernel_rfl) ?_ _
  have HX := Aside0.mk (show IsQ M N (w2.setCell ⟨qb, 0, none⟩ (.slice A' (dropL run xs).length c')) qb (dropL run xs) n from ⟨_, mb, h1, h2, hq3, Kd.Q_mono ho3 (fun _ hk => hk), hS3, HG.out.dropL run⟩)
  have HB3 := Aside0.mk hb3
  clear hS3 ho3 hb3 hq3 hp3 hg3 hcpd hcqd
  generalize w2.setCell ⟨qb, 0, none⟩ (.slice A' (dropL run xs).length c') = w3 at *
  go_wp2
  go_ret
  exact ⟨by first | rfl | (simp; done) | (simp; omega), HX.out, HB3.out⟩
end Go.Proofs.Ytcnecdlphpkmgaa.Q
