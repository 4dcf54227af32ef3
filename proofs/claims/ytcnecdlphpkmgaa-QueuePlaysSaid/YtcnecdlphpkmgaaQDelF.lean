/- DeleteFunc with Drop's closure. No condition beyond numbers being numbers of 64 bits. -/
import Derived.Test.YtcnecdlphpkmgaaQSeg
namespace Go.Proofs.Ytcnecdlphpkmgaa.Q
open Go.RowKit Go.Proofs.YtcnecdlphpkmgaaW.PrintWords Go.Proofs.YtcnecdlphpkmgaaW.PrintLast Go.Proofs.YtcnecdlphpkmgaaW.PrintMore
set_option linter.unusedVariables false
set_option linter.unusedSimpArgs false

theorem index_none (N qb mb rb pb n : Nat) (run : Int) (sv : Value) (w : World) (A : Option Addr) (c : Nat) (xs : List Item) (ok : Nat → Prop) (h : DSt qb mb rb pb n run sv w xs) (hq : KI.Q 31 w N ok (.slice A xs.length c) xs) (hG : Good xs)
    (hne : ∀ j, j < xs.length → (xs.getD j (0, 0)).1 ≠ run) :
    Calls Try.prog 25 #[.slice A xs.length c, .func (.func 23) #[] #[.pointer (some ⟨rb, 0, none⟩), .pointer (some ⟨pb, 0, none⟩)]] w fun e w' =>
      e = .returned (.int .i64 (-1)) ∧ w.grownBy w' (some mb) ∧ SetOf w' mb n (left run xs xs.length) :=
  (indexFunc_calls N qb mb rb pb n run sv w A c xs ok h hq hG).mono fun e w' hh => by
    rcases hh with ⟨i, hi, hx, _⟩ | ⟨_, h1, h2, h3⟩
    · exact absurd hx (hne i hi)
    · exact ⟨h1, h2, h3⟩
theorem index_some (N qb mb rb pb n : Nat) (run : Int) (sv : Value) (w : World) (A : Option Addr) (c : Nat) (xs : List Item) (ok : Nat → Prop) (h : DSt qb mb rb pb n run sv w xs) (hq : KI.Q 31 w N ok (.slice A xs.length c) xs) (hG : Good xs)
    (i : Nat) (hi : i < xs.length) (hx : (xs.getD i (0, 0)).1 = run) (hne : ∀ j, j < i → (xs.getD j (0, 0)).1 ≠ run) :
    Calls Try.prog 25 #[.slice A xs.length c, .func (.func 23) #[] #[.pointer (some ⟨rb, 0, none⟩), .pointer (some ⟨pb, 0, none⟩)]] w fun e w' =>
      e = .returned (.int .i64 (i : Int)) ∧ w.grownBy w' (some mb) ∧ SetOf w' mb n (left run xs (i + 1)) :=
  (indexFunc_calls N qb mb rb pb n run sv w A c xs ok h hq hG).mono fun e w' hh => by
    rcases hh with ⟨k, hk, hxk, hnk, h1, h2, h3⟩ | ⟨h0, _⟩
    · have : k = i := by
        rcases Nat.lt_trichotomy k i with h | h | h
        · exact absurd hxk (hne k h)
        · exact h
        · exact absurd hx (hnk i h)
      subst this
      exact ⟨h1, h2, h3⟩
    · exact absurd hx (h0 i hi)
theorem kept_all (run : Int) (xs : List Item) (j : Nat) (hj : j ≤ xs.length) (hne : ∀ k, k < j → (xs.getD k (0, 0)).1 ≠ run) : kept run xs j = xs.take j := by
  unfold kept
  rw [List.filter_eq_self]
  intro y hy
  obtain ⟨k, hk, e⟩ := List.mem_iff_getElem.1 hy
  rw [List.length_take] at hk
  rw [List.getElem_take] at e
  have := hne k (by omega)
  rw [List.getD_eq_getElem?_getD, List.getElem?_eq_getElem (by omega)] at this
  simp only [Option.getD_some] at this
  rw [e] at this
  simp [this]
theorem left_end (run : Int) (xs : List Item) : left run xs xs.length = kept run xs xs.length := by simp [left]
theorem kept_le (run : Int) (xs : List Item) (j : Nat) : (kept run xs j).length ≤ j := by
  unfold kept
  refine Nat.le_trans (List.length_filter_le _ _) ?_
  rw [List.length_take]; omega

set_option maxHeartbeats 2000000 in
set_option maxRecDepth 100000 in
theorem deleteFunc_none (N qb mb rb pb n : Nat) (run : Int) (sv : Value) (w : World) (A : Option Addr) (c : Nat) (xs : List Item) (ok : Nat → Prop) (h : DSt qb mb rb pb n run sv w xs) (hq : KI.Q 31 w N ok (.slice A xs.length c) xs) (hG : Good xs)
    (hne : ∀ j, j < xs.length → (xs.getD j (0, 0)).1 ≠ run) :
    Calls Try.prog 22 #[.slice A xs.length c, .func (.func 23) #[] #[.pointer (some ⟨rb, 0, none⟩), .pointer (some ⟨pb, 0, none⟩)]] w fun e w' =>
      e = .returned (.slice A xs.length c) ∧ w.grownBy w' (some mb) ∧ SetOf w' mb n (left run xs xs.length) := by
  have HC := Aside0.mk (index_none N qb mb rb pb n run sv w A c xs ok h hq hG hne)
  clear h hq hG hne
  go_enter Try.func22, Try.ntmps22
  go_wp2_with (first | (go_at_call 25; go_loud (refine HC.out.mono ?_; rintro e w' ⟨rfl, hg, hs⟩; have HG := Aside0.mk hg; have HS := Aside0.mk hs; clear hg hs)))
  go_ret
  exact ⟨rfl, HG.out, HS.out⟩
set_option maxHeartbeats 4000000 in
set_option maxRecDepth 100000 in
theorem deleteFunc_some (M : Nat → Prop) (N qb mb rb pb n : Nat) (run : Int) (sv : Value) (W w : World) (g o c : Nat) (xs : List Item) (ok : Nat → Prop) (h : DSt qb mb rb pb n run sv w xs) (hq : KI.Q 31 w N ok (.slice (some ⟨g, o, none⟩) xs.length c) xs) (hG : Good xs)
    (hB : Fr N M W w) (hmN : N ≤ mb) (hmM : M mb) (hgN : N ≤ g) (hgM : M g) (i0 : Nat) (hi0 : i0 < xs.length) (hx0 : (xs.getD i0 (0, 0)).1 = run) (hne : ∀ j, j < i0 → (xs.getD j (0, 0)).1 ≠ run) :
    Calls Try.prog 22 #[.slice (some ⟨g, o, none⟩) xs.length c, .func (.func 23) #[] #[.pointer (some ⟨rb, 0, none⟩), .pointer (some ⟨pb, 0, none⟩)]] w fun e w' =>
      e = .returned (.slice (some ⟨g, o, none⟩) (kept run xs xs.length).length c) ∧ KI.Q 31 w' N ok (.slice (some ⟨g, o, none⟩) (kept run xs xs.length).length c) (kept run xs xs.length) ∧ DSt qb mb rb pb n run sv w' (kept run xs xs.length) ∧ Fr N M W w' := by
  have HC := Aside0.mk (index_some N qb mb rb pb n run sv w _ c xs ok h hq hG i0 hi0 hx0 hne)
  have hK0 := kept_all run xs i0 (by omega) hne
  have hK1 : kept run xs (i0 + 1) = xs.take i0 := by rw [kept_succ run xs i0 hi0, hK0, if_pos (by simpa using hx0), List.append_nil]
  have hl : xs.length ≤ 256 := hG.2.1
  have hcap : xs.length ≤ c := (Kd.Q_reads' hq).2.1
  have hsz : N ≤ w.heap.size := by have := blk_lt (Kd.Q_typed hq g rfl).choose_spec; omega
  have HN := Aside0.mk hne
  have HGd := Aside0.mk hG
  have HD0 := Aside0.mk h
  have HQ0 := Aside0.mk hq
  have HB0 := Aside0.mk hB
  have HK1 := Aside0.mk hK1
  clear h hq hG hne hB hK0 hK1 hx0
  go_enter Try.func22, Try.ntmps22
  go_upto_region 2 with (first | (go_at_call 25; go_loud (refine HC.out.mono ?_; rintro e w2 ⟨rfl, hg, hs⟩; have HG := Aside0.mk hg; have HS := Aside0.mk hs; clear hg hs)))
  have HD := Aside0.mk (HD0.out.grown HG.out HS.out)
  have HQ := Aside0.mk (Kd.Q_grown1 HQ0.out KI_E HG.out (HD0.out.2.2.2.neRow HQ0.out))
  have HB := Aside0.mk (Fr.grown HB0.out HG.out hsz hmN hmM)
  have hsz2 := HG.out.size
  clear HC HS HG HD0 HQ0 HB0
  have hne1 : ((i0 : Int) == -1) = false := by simp
  go_wp2
  go_loopw [5, 6, 7] (fun v5 v6 _ wr => ∃ (p q : Int) (i j : Nat) (L : List Item), v5 = .int .i64 p ∧ v6 = .int .i64 q ∧ Aside0 (p = (i : Int)) ∧ Aside0 (q = (j : Int)) ∧ j ≤ xs.length ∧ i < j ∧ Aside0 (i = (kept run xs j).length) ∧ Aside0 (L.length = xs.length) ∧ Aside0 (L.take i = kept run xs j) ∧ Aside0 (L.drop j = xs.drop j) ∧
      Aside0 (KI.Q 31 wr N ok (.slice (some ⟨g, o, none⟩) xs.length c) L) ∧ Aside0 (DSt qb mb rb pb n run sv wr (left run xs j)) ∧ Aside0 (Fr N M W wr) ∧ w.heap.size ≤ wr.heap.size) (fun _ v6 _ _ => xs.length - (intOf v6).toNat)
  case atStart =>
    exact ⟨_, _, i0, i0 + 1, xs, rfl, rfl, Aside0.mk rfl, Aside0.mk (by omega), by omega, by omega, Aside0.mk (by rw [HK1.out, List.length_take]; omega), Aside0.mk rfl, Aside0.mk HK1.out.symm, Aside0.mk rfl, HQ, HD, HB, hsz2⟩
  case round =>
    clear HQ HD HB hsz2
    obtain ⟨p, q, i, j, L, rfl, rfl, HP, HQj, hj, hij, HI, HLL, HLT, HLD, HQ, HD, HB, hszr⟩ := hrel
    by_cases hin : j < xs.length
    · have hlt : decide (q < (xs.length : Int)) = true := decide_eq_true (by rw [HQj.out]; omega)
      have hq0 : 0 ≤ q := by rw [HQj.out]; omega
      have hq1 : q < (xs.length : Int) := by rw [HQj.out]; omega
      have HW : Aside0 (q + 1 = ((j + 1 : Nat) : Int)) := Aside0.mk (by rw [HQj.out]; omega)
      obtain ⟨hc0, hc1, -, -⟩ := q_elem2 HQ.out j hin
      have hLj : L.getD j (0, 0) = xs.getD j (0, 0) := by
        have h1 := drop_getD L j (by rw [HLL.out]; exact hin)
        have h2 := drop_getD xs j hin
        rw [HLD.out, h2] at h1
        injection h1 with h1
        exact h1.symm
      rw [hLj] at hc0 hc1
      have HST := Aside0.mk (left_step run xs j hin HGd.out.1)
      have HKS := Aside0.mk (kept_succ run xs j hin)
      have HWF := Aside0.mk (HGd.out.2.2 _ (getD_mem xs j hin))
      have HDX := Aside0.mk (drop_getD xs j hin)
      clear hLj
      generalize hX : xs.getD j (0, 0) = X at *
      obtain ⟨r, nd⟩ := X
      clear hX
      have hqn : q.toNat = j := by rw [HQj.out]; rfl
      go_upto_region 8 with (fail)
      have hb1 := below_alloc (Below.refl wr.heap.size wr) (.cells #[.int .i64 r, .int .i64 nd] 31)
      have hbk1 := blk_new wr (.cells #[.int .i64 r, .int .i64 nd] 31)
      have HD1 := Aside0.mk (HD.out.below hb1)
      have HQ1 := Aside0.mk (Kd.Q_below (Kd.Q_elderB HQ.out wr.heap.size (Nat.le_refl _)) hb1)
      have HB1 := Aside0.mk (HB.out.step hb1 (by omega))
      have hsz1 : (wr.alloc (.cells #[.int .i64 r, .int .i64 nd] 31)).heap.size = wr.heap.size + 1 := by simp
      clear hb1 hc0 hc1 HD HQ HB
      generalize wr.alloc (.cells #[.int .i64 r, .int .i64 nd] 31) = w1 at *
      generalize hgb : wr.heap.size = gb at *
      have HCL := Aside0.mk (del_calls qb mb rb pb n run sv w1 _ (r, nd) HD1.out HWF.out)
      have hbm : some gb ≠ some mb := fun he => HD1.out.2.2.2.ne hbk1 (by injection he with he; exact he.symm)
      have hz10 : w1.cell? ⟨gb, 0, none⟩ = some (.int .i64 r) := (blk_cell hbk1 0).trans rfl
      have hz11 : w1.cell? ⟨gb, 1, none⟩ = some (.int .i64 nd) := (blk_cell hbk1 1).trans rfl
      have hneR := HD1.out.2.2.2.neRow HQ1.out
      by_cases heq : r = run
      · have hcond : (r == run) = true := by simp [heq]
        have HEQ := Aside0.mk heq
        clear heq
        go_wp2_with (first | (go_at_call 23; go_loud (refine HCL.out.mono ?_; rintro e w3 ⟨rfl, hg, hs⟩; have HG3 := Aside0.mk hg; have HS3 := Aside0.mk hs; clear hg hs)))
        go_roundw
        case rel =>
          refine ⟨_, _, i, j + 1, L, rfl, rfl, HP, HW, by omega, by omega, Aside0.mk ?_, HLL, Aside0.mk ?_, Aside0.mk ?_, Aside0.mk (Kd.Q_mono (Kd.Q_grown1 HQ1.out KI_E HG3.out hneR) (fun _ h => h.1)), Aside0.mk (HD1.out.grown HG3.out (HST.out ▸ HS3.out)), Aside0.mk (Fr.grown HB1.out HG3.out (by omega) hmN hmM), by have := HG3.out.size; omega⟩
          · rw [HKS.out, if_pos hcond, List.append_nil]; exact HI.out
          · rw [HKS.out, if_pos hcond, List.append_nil]; exact HLT.out
          · have := congrArg (List.drop 1) HLD.out
            rwa [List.drop_drop, List.drop_drop] at this
        case measure => have := HW.out; have := HQj.out; simp [intOf] at *; omega
      · have hcond : (r == run) = false := by simp [heq]
        have HEQ := Aside0.mk heq
        clear heq
        go_upto_region 9 with (first | (go_at_call 23; go_loud (refine HCL.out.mono ?_; rintro e w3 ⟨rfl, hg, hs⟩; have HG3 := Aside0.mk hg; have HS3 := Aside0.mk hs; clear hg hs)))
        have hsz3 := HG3.out.size
        have hbk3 := blk_grown hbk1 HG3.out hbm
        have hz30 : w3.cell? ⟨gb, 0, none⟩ = some (.int .i64 r) := (blk_cell hbk3 0).trans rfl
        have hz31 : w3.cell? ⟨gb, 1, none⟩ = some (.int .i64 nd) := (blk_cell hbk3 1).trans rfl
        have HQ3 := Aside0.mk (Kd.Q_mono (Kd.Q_grown1 HQ1.out KI_E HG3.out hneR) (fun _ h => h.1) (ok' := ok))
        have HD3 := Aside0.mk (HD1.out.grown HG3.out (HST.out ▸ HS3.out))
        have HB3 := Aside0.mk (Fr.grown HB1.out HG3.out (by omega) hmN hmM)
        obtain ⟨hc0, hc1, hf0, hf1⟩ := q_elem2 HQ3.out i (by omega)
        have hp0 : 0 ≤ p := by rw [HP.out]; omega
        have hp1 : p < (xs.length : Int) := by rw [HP.out]; omega
        have hpn : p.toNat = i := by rw [HP.out]; rfl
        have HWp : Aside0 (p + 1 = ((i + 1 : Nat) : Int)) := Aside0.mk (by rw [HP.out]; omega)
        clear hz10 hz11 hbk1 hbk3
        go_upto_region 10 with (fail)
        have hset := q_set2 HQ3.out i (by omega) (r, nd)
        have hQ4 := Aside0.mk hset.1
        have hg4 := Aside0.mk hset.2
        have hblk := Kd.Q_typed HQ3.out g rfl
        clear hset hc0 hc1 hf0 hf1 hz30 hz31
        generalize (w3.setCell ⟨g, o + i * 2, none⟩ (.int .i64 r)).setCell ⟨g, o + i * 2 + 1, none⟩ (.int .i64 nd) = w4 at *
        obtain ⟨cells, hcl⟩ := hblk
        have HD4 := Aside0.mk (HD3.out.row hg4.out hcl)
        have HB4 := Aside0.mk (Fr.grown HB3.out hg4.out (by omega) hgN hgM)
        have hsz4 := hg4.out.size
        go_wp2
        go_roundw
        case rel =>
          refine ⟨_, _, i + 1, j + 1, L.set i (r, nd), rfl, rfl, HWp, HW, by omega, by omega, Aside0.mk ?_, Aside0.mk ?_, Aside0.mk ?_, Aside0.mk ?_, hQ4, HD4, HB4, by omega⟩
          · rw [HKS.out, hcond, List.length_append, ← HI.out]; rfl
          · rw [List.length_set]; exact HLL.out
          · rw [HKS.out, hcond, ← HLT.out, List.take_add_one, List.take_set_of_le (Nat.le_refl _), List.getElem?_set_self (by rw [HLL.out]; omega)]
            rfl
          · rw [List.drop_set_of_lt (by omega)]
            have := congrArg (List.drop 1) HLD.out
            rwa [List.drop_drop, List.drop_drop] at this
        case measure => have := HW.out; have := HQj.out; simp [intOf] at *; omega
    · have hlt : decide (q < (xs.length : Int)) = false := decide_eq_false (by rw [HQj.out]; omega)
      have hje : j = xs.length := by omega
      subst hje
      have hp0 : 0 ≤ p := by rw [HP.out]; omega
      have hp1 : p ≤ (xs.length : Int) := by rw [HP.out]; omega
      have hpn : p.toNat = i := by rw [HP.out]; rfl
      have hci : ¬ c = i := by omega
      obtain ⟨hclr, hqc, hgc⟩ := q_clear HQ.out i hij (c - i) 0
      have HQC := Aside0.mk hqc
      have HGC := Aside0.mk hgc
      have HBL := Aside0.mk (Kd.Q_typed HQ.out g rfl)
      have hle : (kept run xs xs.length).length = i := HI.out.symm
      clear hqc hgc
      go_wp2_with (first | ((with_reducible refine gate_builtin (b := .clear) (xs := #[.tmp 38]) rfl ?_); go_loud (refine quiet_event (w1 := wr.setCells g (o + i * 2) (List.replicate ((xs.length - i) * 2) (.int .i64 0))) (v := .tuple #[]) ?hgd ?hnd ?hrd ?_; (case hgd => rfl); (case hnd => rfl); (case hrd => first | (go_simp; done) | (go_simp; rw [hclr]; rfl)); intro w5 hw5; rw [← hw5] at HQC HGC; clear hw5)))
      go_ret
      obtain ⟨cells, hcl⟩ := HBL.out
      rw [hle, ← HLT.out]
      refine ⟨rfl, HQC.out, ?_, Fr.grown HB.out HGC.out (by omega) hgN hgM⟩
      have := HD.out.row HGC.out hcl
      rwa [left_end, ← HLT.out] at this
end Go.Proofs.Ytcnecdlphpkmgaa.Q
