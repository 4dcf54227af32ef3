/- IndexFunc with Drop's closure. No condition beyond numbers being numbers of 64 bits. -/
import Derived.Test.YtcnecdlphpkmgaaQDel
namespace Go.Proofs.Ytcnecdlphpkmgaa.Q
open Go.RowKit Go.Proofs.YtcnecdlphpkmgaaW.PrintWords Go.Proofs.YtcnecdlphpkmgaaW.PrintLast Go.Proofs.YtcnecdlphpkmgaaW.PrintMore
set_option linter.unusedVariables false
set_option linter.unusedSimpArgs false

def kept (run : Int) (xs : List Item) (j : Nat) : List Item := (xs.take j).filter (fun y => !(y.1 == run))
def left (run : Int) (xs : List Item) (j : Nat) : List Item := kept run xs j ++ xs.drop j
theorem take_succ_getD (xs : List Item) (j : Nat) (h : j < xs.length) : xs.take (j + 1) = xs.take j ++ [xs.getD j (0, 0)] := by
  rw [List.take_add_one, List.getD_eq_getElem?_getD, List.getElem?_eq_getElem h]; rfl
theorem drop_getD (xs : List Item) (j : Nat) (h : j < xs.length) : xs.drop j = xs.getD j (0, 0) :: xs.drop (j + 1) := by
  rw [List.drop_eq_getElem_cons h, List.getD_eq_getElem?_getD, List.getElem?_eq_getElem h]; rfl
theorem kept_succ (run : Int) (xs : List Item) (j : Nat) (h : j < xs.length) : kept run xs (j + 1) = kept run xs j ++ (if (xs.getD j (0, 0)).1 == run then [] else [xs.getD j (0, 0)]) := by
  unfold kept
  rw [take_succ_getD xs j h, List.filter_append]
  congr 1
  generalize xs.getD j (0, 0) = X
  cases c : (X.1 == run) <;> simp [List.filter_cons, c]
theorem left_zero (run : Int) (xs : List Item) : left run xs 0 = xs := by simp [left, kept]
theorem left_step (run : Int) (xs : List Item) (j : Nat) (h : j < xs.length) (hn : xs.Nodup) : delS run (left run xs j) (xs.getD j (0, 0)) = left run xs (j + 1) := by
  unfold delS
  split
  · rename_i c
    unfold left
    rw [kept_succ run xs j h, if_pos c, drop_getD xs j h, List.append_nil, List.filter_append, List.filter_cons]
    simp only [bne_self_eq_false, Bool.false_eq_true, if_false]
    congr 1
    · rw [List.filter_eq_self]
      intro y hy
      unfold kept at hy
      have h2 := (List.mem_filter.1 hy).2
      simp only [bne_iff_ne, ne_eq]
      rintro rfl
      rw [c] at h2
      cases h2
    · rw [List.filter_eq_self]
      intro y hy
      simp only [bne_iff_ne, ne_eq]
      rintro rfl
      have h2 : (xs.drop j).Nodup := hn.sublist (List.drop_sublist _ _)
      rw [drop_getD xs j h] at h2
      exact (List.nodup_cons.1 h2).1 hy
  · rename_i c
    unfold left
    rw [kept_succ run xs j h, if_neg c, drop_getD xs j h, List.append_assoc]
    rfl
theorem getD_mem (xs : List Item) (j : Nat) (h : j < xs.length) : xs.getD j (0, 0) ∈ xs := by
  rw [List.getD_eq_getElem?_getD, List.getElem?_eq_getElem h]; exact List.getElem_mem h

set_option maxHeartbeats 2000000 in
set_option maxRecDepth 100000 in
theorem indexFunc_calls (N qb mb rb pb n : Nat) (run : Int) (sv : Value) (w : World) (A : Option Addr) (c : Nat) (xs : List Item) (ok : Nat → Prop) (h : DSt qb mb rb pb n run sv w xs) (hq : KI.Q 31 w N ok (.slice A xs.length c) xs) (hG : Good xs) :
    Calls Try.prog 25 #[.slice A xs.length c, .func (.func 23) #[] #[.pointer (some ⟨rb, 0, none⟩), .pointer (some ⟨pb, 0, none⟩)]] w fun e w' =>
      ((∃ i, i < xs.length ∧ (xs.getD i (0, 0)).1 = run ∧ (∀ j, j < i → (xs.getD j (0, 0)).1 ≠ run) ∧ e = .returned (.int .i64 (i : Int)) ∧ w.grownBy w' (some mb) ∧ SetOf w' mb n (left run xs (i + 1))) ∨
       ((∀ j, j < xs.length → (xs.getD j (0, 0)).1 ≠ run) ∧ e = .returned (.int .i64 (-1)) ∧ w.grownBy w' (some mb) ∧ SetOf w' mb n (left run xs xs.length))) := by
  have HD := Aside0.mk h
  have HQ := Aside0.mk hq
  have HGd := Aside0.mk hG
  have hl : xs.length ≤ 256 := hG.2.1
  have HG := Aside0.mk (show w.grownBy w (some mb) from ⟨rfl, rfl, rfl, Nat.le_refl _, fun _ _ _ => rfl⟩)
  have HS := Aside0.mk (show SetOf w mb n (left run xs 0) from (left_zero run xs).symm ▸ h.2.2.2)
  clear h hq hG
  go_enter Try.func25, Try.ntmps25
  go_wp2
  go_loopw [8] (fun v8 wr => ∃ (p : Int) (i : Nat), v8 = .int .i64 p ∧ Aside0 (p = (i : Int)) ∧ i ≤ xs.length ∧ Aside0 (∀ j, j < i → (xs.getD j (0, 0)).1 ≠ run) ∧ Aside0 (w.grownBy wr (some mb)) ∧ Aside0 (SetOf wr mb n (left run xs i))) (fun v8 _ => xs.length - (intOf v8).toNat)
  case atStart => exact ⟨_, 0, rfl, Aside0.mk rfl, by omega, Aside0.mk (fun j hj => by omega), HG, HS⟩
  case round =>
    clear HG HS
    obtain ⟨p, i, rfl, HP, hi, HNE, HG, HS⟩ := hrel
    by_cases hin : i < xs.length
    · have hlt : decide (p < (xs.length : Int)) = true := decide_eq_true (by rw [HP.out]; omega)
      have hp0 : 0 ≤ p := by rw [HP.out]; omega
      have hp1 : p < (xs.length : Int) := by rw [HP.out]; omega
      have HW : Aside0 (p + 1 = ((i + 1 : Nat) : Int)) := Aside0.mk (by rw [HP.out]; omega)
      have HQr := Kd.Q_grown1 HQ.out KI_E HG.out (HD.out.2.2.2.neRow HQ.out)
      obtain ⟨-, -, hC⟩ := Kd.Q_reads' HQr
      obtain ⟨ad, e, hx0, hx1⟩ := at_Ip hC p hp0 hp1
      cases e
      clear HQr hC
      have hrd : rdI xs p = xs.getD i (0, 0) := by unfold rdI; rw [HP.out]; rfl
      rw [hrd] at hx0 hx1
      have HST := Aside0.mk (left_step run xs i hin HGd.out.1)
      have HWF := Aside0.mk (HGd.out.2.2 _ (getD_mem xs i hin))
      clear hrd
      have HCL := Aside0.mk (del_calls qb mb rb pb n run sv wr _ (xs.getD i (0, 0)) (HD.out.grown HG.out HS.out) HWF.out)
      generalize hX : xs.getD i (0, 0) = X at *
      obtain ⟨r, nd⟩ := X
      have HX := Aside0.mk hX
      clear hX
      by_cases heq : r = run
      · have hcond : (r == run) = true := by simp [heq]
        have HEQ := Aside0.mk heq
        clear heq
        go_wp2_with (first | (go_at_call 23; go_loud (refine HCL.out.mono ?_; rintro e w' ⟨rfl, hg, hs⟩; have HG2 := Aside0.mk (HG.out.trans hg); have HS2 := Aside0.mk hs; clear hg hs)))
        go_ret
        refine .inl ⟨i, hin, by rw [HX.out, HEQ.out], HNE.out, by rw [HP.out]; rfl, HG2.out, ?_⟩
        have := HS2.out
        rwa [HST.out] at this
      · have hcond : (r == run) = false := by simp [heq]
        have HEQ := Aside0.mk heq
        clear heq
        go_wp2_with (first | (go_at_call 23; go_loud (refine HCL.out.mono ?_; rintro e w' ⟨rfl, hg, hs⟩; have HG2 := Aside0.mk (HG.out.trans hg); have HS2 := Aside0.mk hs; clear hg hs)))
        go_roundw
        case rel => exact ⟨_, i + 1, rfl, HW, by omega, Aside0.mk (fun j hj => by
          rcases Nat.lt_or_ge j i with h | h
          · exact HNE.out j h
          · have : j = i := by omega
            subst this; rw [HX.out]; exact HEQ.out), HG2, Aside0.mk (by have := HS2.out; rwa [HST.out] at this)⟩
        case measure => have := HW.out; have := HP.out; simp [intOf] at *; omega
    · have hlt : decide (p < (xs.length : Int)) = false := decide_eq_false (by rw [HP.out]; omega)
      have hie : i = xs.length := by omega
      go_wp2
      go_ret
      subst hie
      exact .inr ⟨HNE.out, rfl, HG.out, HS.out⟩
end Go.Proofs.Ytcnecdlphpkmgaa.Q
