/- New. No condition beyond numbers being numbers of 64 bits. -/
import Derived.Test.YtcnecdlphpkmgaaQDrop
namespace Go.Proofs.Ytcnecdlphpkmgaa.Q
open Go.RowKit Go.Proofs.YtcnecdlphpkmgaaW.PrintWords Go.Proofs.YtcnecdlphpkmgaaW.PrintLast Go.Proofs.YtcnecdlphpkmgaaW.PrintMore
set_option linter.unusedVariables false
set_option linter.unusedSimpArgs false

/-- New's answer: items pushed one by one; the first error. -/
def newR : List Item → List Item → Int × List Item
  | acc, [] => (0, acc)
  | acc, x :: t => if pushE acc x = 0 then newR (pushL acc x) t else (pushE acc x, acc)
theorem newR_step (acc ys : List Item) (i : Nat) (h : i < ys.length) : newR acc (ys.drop i) = if pushE acc (ys.getD i (0, 0)) = 0 then newR (pushL acc (ys.getD i (0, 0))) (ys.drop (i + 1)) else (pushE acc (ys.getD i (0, 0)), acc) := by
  rw [drop_getD ys i h, newR]
theorem IsQ.lower {M : Nat → Prop} {N N' : Nat} {W : World} {qb n : Nat} {xs : List Item} (h : IsQ M N W qb xs n) (hN : N' ≤ N) : IsQ M N' W qb xs n := by
  obtain ⟨sv, mb, h1, h2, h3, h4, h5, h6⟩ := h
  exact ⟨sv, mb, ⟨by omega, h1.2⟩, ⟨by omega, h2.2⟩, h3, Kd.Q_lower h4 hN, h5, h6⟩
theorem IsQ.mono {M : Nat → Prop} {N : Nat} {W : World} {qb n n' : Nat} {xs : List Item} (h : IsQ M N W qb xs n) (hn : n ≤ n') : IsQ M N W qb xs n' := by
  obtain ⟨sv, mb, h1, h2, h3, h4, h5, h6⟩ := h
  exact ⟨sv, mb, h1, h2, h3, h4, h5.mono hn, h6⟩
/-- Other blocks may count as its own, as long as none of its own is left out: they are below the heap's size. -/
theorem IsQ.own {M M' : Nat → Prop} {N : Nat} {W : World} {qb n : Nat} {xs : List Item} (h : IsQ M N W qb xs n) (hM : ∀ k, M k → k < W.heap.size → M' k) : IsQ M' N W qb xs n := by
  obtain ⟨sv, mb, h1, h2, h3, h4, h5, h6⟩ := h
  exact ⟨sv, mb, ⟨h1.1, hM _ h1.2 (blk_lt h3)⟩, ⟨h2.1, hM _ h2.2 h5.lt⟩, h3, Kd.Q_mono (Kd.Q_bound h4) (fun k hk => hM k hk.1 hk.2.2.1), h5, h6⟩
/-- What is written elsewhere. -/
theorem IsQ.other {M : Nat → Prop} {N : Nat} {W W' : World} {qb n g : Nat} {xs : List Item} (h : IsQ M N W qb xs n) (hg : W.grownBy W' (some g)) (hM : ¬ M g) : IsQ M N W' qb xs n := by
  obtain ⟨sv, mb, h1, h2, h3, h4, h5, h6⟩ := h
  have hne : ∀ k, M k → k ≠ g := fun k hk e => hM (e ▸ hk)
  exact ⟨sv, mb, h1, h2, blk_grown h3 hg (fun he => hne _ h1.2 (by injection he)), Kd.Q_grown h4 hg (fun k hk he => hne k hk (by injection he)), h5.kept hg (fun he => hne _ h2.2 (by injection he)), h6⟩
theorem IsQ.good {M : Nat → Prop} {N : Nat} {W : World} {qb n : Nat} {xs : List Item} (h : IsQ M N W qb xs n) : Good xs := by
  obtain ⟨sv, mb, h1, h2, h3, h4, h5, h6⟩ := h
  exact h6
theorem isQ_new (M : Nat → Prop) (W : World) (hM : ∀ k, W.heap.size ≤ k → M k) : IsQ M W.heap.size ((W.alloc (.map #[] 0)).alloc (.cells #[.slice none 0 0, .map (some W.heap.size)] 58)) (W.heap.size + 1) [] 0 := by
  have h1 := blk_new (W.alloc (.map #[] 0)) (.cells #[.slice none 0 0, .map (some W.heap.size)] 58)
  have hs : (W.alloc (.map #[] 0)).heap.size = W.heap.size + 1 := by simp
  rw [hs] at h1
  exact ⟨_, W.heap.size, ⟨by omega, hM _ (by omega)⟩, ⟨Nat.le_refl _, hM _ (Nat.le_refl _)⟩, h1, Kd.Q_nil _ _ _ _ _, (SetOf.made W).kept (grown_of_below (below_alloc (Below.refl _ _) _) none) (by simp), ⟨by simp, by simp, by simp⟩⟩

set_option maxHeartbeats 2000000 in
set_option maxRecDepth 100000 in
theorem new_calls (M : Nat → Prop) (W : World) (A : Option Addr) (c : Nat) (ys : List Item) (hr : Kd.C KI W A ys.length ys) (hw : ∀ x ∈ ys, wfI x) (hl : ys.length ≤ 100000) (hM : ∀ k, W.heap.size ≤ k → M k) :
    Calls Try.prog 8 #[.slice A ys.length c] W fun e W' => Below W.heap.size W W' ∧
      ((∃ qb, e = .returned (.tuple #[.pointer (some ⟨qb, 0, none⟩), .int .i64 0]) ∧ (newR [] ys).1 = 0 ∧ IsQ M W.heap.size W' qb (newR [] ys).2 ys.length) ∨
       (e = .returned (.tuple #[.pointer none, .int .i64 (newR [] ys).1]) ∧ (newR [] ys).1 ≠ 0)) := by
  have HR := Aside0.mk hr
  have HWF := Aside0.mk hw
  have hb0 := below_alloc (below_alloc (Below.refl W.heap.size W) (.map #[] 0)) (.cells #[.slice none 0 0, .map (some W.heap.size)] 58)
  have HB := Aside0.mk hb0
  have HQ := Aside0.mk (isQ_new M W hM)
  clear hr hw hb0
  have hmk : (Instr.makeMap 56 none).run Try.prog W = .ok (.map (some W.heap.size)) (W.alloc (.map #[] 0)) := rfl
  go_enter Try.func8, Try.ntmps8
  go_upto_region 2 with (fail)
  have hszA : ((W.alloc (.map #[] 0)).alloc (.cells #[.slice none 0 0, .map (some W.heap.size)] 58)).heap.size = W.heap.size + 2 := by simp
  generalize (W.alloc (.map #[] 0)).alloc (.cells #[.slice none 0 0, .map (some W.heap.size)] 58) = w1 at *
  clear hmk
  go_wp2
  go_loopw [6, 7, 13] (fun _ _ v13 wr => ∃ (p : Int) (i : Nat) (acc : List Item), v13 = .int .i64 p ∧ Aside0 (p = (i : Int)) ∧ i ≤ ys.length ∧ Aside0 (newR [] ys = newR acc (ys.drop i)) ∧ Aside0 (IsQ M W.heap.size wr (W.heap.size + 1) acc i) ∧ Aside0 (Below W.heap.size W wr)) (fun _ _ v13 _ => ys.length - (intOf v13).toNat)
  case atStart => exact ⟨_, 0, [], rfl, Aside0.mk rfl, by omega, Aside0.mk rfl, HQ, HB⟩
  case round =>
    clear HQ HB hszA
    obtain ⟨p, i, acc, rfl, HP, hi, HR2, HQ, HB⟩ := hrel
    by_cases hin : i < ys.length
    · have hlt : decide (p < (ys.length : Int)) = true := decide_eq_true (by rw [HP.out]; omega)
      have hp0 : 0 ≤ p := by rw [HP.out]; omega
      have hp1 : p < (ys.length : Int) := by rw [HP.out]; omega
      have HW : Aside0 (p + 1 = ((i + 1 : Nat) : Int)) := Aside0.mk (by rw [HP.out]; omega)
      obtain ⟨ad, e, hx0, hx1⟩ := at_Ip (Kd.C_below HR.out HB.out) p hp0 hp1
      cases e
      have hrd : rdI ys p = ys.getD i (0, 0) := by unfold rdI; rw [HP.out]; rfl
      rw [hrd] at hx0 hx1
      have HST := Aside0.mk (HR2.out.trans (newR_step acc ys i hin))
      have HWX := Aside0.mk (HWF.out _ (getD_mem ys i hin))
      clear hrd HR2
      generalize hX : ys.getD i (0, 0) = X at *
      obtain ⟨r, nd⟩ := X
      clear hX
      have hszr := HB.out.size
      go_upto_region 5 with (fail)
      have hb1 := below_alloc (Below.refl wr.heap.size wr) (.cells #[.int .i64 r, .int .i64 nd] 31)
      have hbk1 := blk_new wr (.cells #[.int .i64 r, .int .i64 nd] 31)
      have HQ1 := Aside0.mk (HQ.out.below hb1)
      have HB1 := Aside0.mk (below_step HB.out hb1)
      have hsz1 : (wr.alloc (.cells #[.int .i64 r, .int .i64 nd] 31)).heap.size = wr.heap.size + 1 := by simp
      have hz10 : (wr.alloc (.cells #[.int .i64 r, .int .i64 nd] 31)).cell? ⟨wr.heap.size, 0, none⟩ = some (.int .i64 r) := (blk_cell hbk1 0).trans rfl
      have hz11 : (wr.alloc (.cells #[.int .i64 r, .int .i64 nd] 31)).cell? ⟨wr.heap.size, 1, none⟩ = some (.int .i64 nd) := (blk_cell hbk1 1).trans rfl
      clear hb1 hx0 hx1 HQ HB hbk1
      generalize wr.alloc (.cells #[.int .i64 r, .int .i64 nd] 31) = w1 at *
      have HCL := Aside0.mk (push_calls M W.heap.size w1 (W.heap.size + 1) i acc (r, nd) HQ1.out HWX.out (by omega) (by omega) (fun k hk => hM k (by omega)))
      by_cases hE : pushE acc (r, nd) = 0
      · have hnz : (pushE acc (r, nd) == 0) = true := by simp [hE]
        have hnz2 : decide (pushE acc (r, nd) = 0) = true := decide_eq_true hE
        have HE := Aside0.mk hE
        clear hE
        generalize hEE : pushE acc (r, nd) = E at *
        go_wp2_with (first | (go_at_call 10; go_loud (refine HCL.out.mono ?_; rintro e w3 ⟨rfl, hq, hb⟩; have HQ3 := Aside0.mk hq; have HB3 := Aside0.mk (HB1.out.trans hb.1); clear hq hb)))
        go_roundw
        case rel => exact ⟨_, i + 1, pushL acc (r, nd), rfl, HW, by omega, Aside0.mk (by rw [HST.out, if_pos HE.out]), HQ3, HB3⟩
        case measure => have := HW.out; have := HP.out; simp [intOf] at *; omega
      · have hnz : (pushE acc (r, nd) == 0) = false := by simp [hE]
        have hnz2 : decide (pushE acc (r, nd) = 0) = false := decide_eq_false hE
        have HE := Aside0.mk hE
        clear hE
        generalize hEE : pushE acc (r, nd) = E at *
        go_wp2_with (first | (go_at_call 10; go_loud (refine HCL.out.mono ?_; rintro e w3 ⟨rfl, hq, hb⟩; have HQ3 := Aside0.mk hq; have HB3 := Aside0.mk (HB1.out.trans hb.1); clear hq hb)))
        go_ret2
        exact ⟨HB3.out, .inr ⟨by rw [HST.out, if_neg HE.out]; rfl, by rw [HST.out, if_neg HE.out]; exact HE.out⟩⟩
    · have hlt : decide (p < (ys.length : Int)) = false := decide_eq_false (by rw [HP.out]; omega)
      have hie : i = ys.length := by omega
      subst hie
      have HF : Aside0 (newR [] ys = (0, acc)) := Aside0.mk (by rw [HR2.out, List.drop_length]; rfl)
      go_wp2
      go_ret2
      exact ⟨HB.out, .inl ⟨_, rfl, by rw [HF.out], by rw [HF.out]; exact HQ.out⟩⟩
end Go.Proofs.Ytcnecdlphpkmgaa.Q
