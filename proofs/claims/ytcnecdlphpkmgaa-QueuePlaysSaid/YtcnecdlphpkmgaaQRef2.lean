/- The document's queue: Pop, Drop. No condition beyond numbers being numbers of 64 bits. -/
import Derived.Test.YtcnecdlphpkmgaaQRef
namespace Go.Proofs.Ytcnecdlphpkmgaa.Q
open Go.RowKit Go.Proofs.YtcnecdlphpkmgaaW.PrintWords Go.Proofs.YtcnecdlphpkmgaaW.PrintLast Go.Proofs.YtcnecdlphpkmgaaW.PrintMore
set_option linter.unusedVariables false
set_option linter.unusedSimpArgs false

theorem IsR.open {N : Nat} {W : World} {rb : Nat} {xs : List Item} (h : IsR N W rb xs) : ∃ A c, W.heap[rb]? = some (.cells #[.slice A xs.length c] 40 (0, 0)) ∧ N ≤ rb ∧ xs.length ≤ c ∧ Kd.C KI W A xs.length xs ∧ MR W rb := by
  obtain ⟨v, h1, h2, h3⟩ := h
  obtain ⟨A, c, rfl, hcc, hC⟩ := Kd.Q_reads h3
  exact ⟨A, c, h2, h1, hcc, hC, .inr ⟨_, _, h2, .inl rfl⟩⟩

set_option maxHeartbeats 2000000 in
set_option maxRecDepth 100000 in
theorem refPop_nil (N : Nat) (W : World) (rb : Nat) (h : IsR N W rb []) :
    Calls Try.prog 15 #[.pointer (some ⟨rb, 0, none⟩)] W fun e W' => e = .returned (popE []) ∧ Below W.heap.size W W' := by
  obtain ⟨A, c, h2, h1, hcc, hC, hMr⟩ := h.open
  have hcell0 : W.cell? ⟨rb, 0, none⟩ = some (.slice A 0 c) := (blk_cell h2 0).trans rfl
  clear h2 hC
  go_enter Try.func15, Try.ntmps15
  go_upto_region 1 with (fail)
  have hc0 : (W.alloc (.cells #[.int .i64 0, .int .i64 0] 42)).cell? ⟨rb, 0, none⟩ = some (.slice A 0 c) := pw_cell_below (below_alloc (Below.refl W.heap.size W) _) hcell0
  go_wp2
  refine bodyPost_ret (v := popE []) ?_ rfl ?_
  · simp [results, Try.results15, go_sem, popE, encI]
  · exact ⟨rfl, below_alloc (Below.refl _ _) _⟩
set_option maxHeartbeats 4000000 in
set_option maxRecDepth 100000 in
theorem refPop_cons (N : Nat) (W : World) (rb : Nat) (x : Item) (t : List Item) (h : IsR N W rb (x :: t)) (hN : N ≤ W.heap.size) (hl : (x :: t).length ≤ 1000000) :
    Calls Try.prog 15 #[.pointer (some ⟨rb, 0, none⟩)] W fun e W' => e = .returned (popE (x :: t)) ∧ IsR N W' rb t ∧ Fr N (MR W) W W' := by
  obtain ⟨A, c, h2, h1, hcc, hC, hMr⟩ := h.open
  have hcell0 : W.cell? ⟨rb, 0, none⟩ = some (.slice A (x :: t).length c) := (blk_cell h2 0).trans rfl
  obtain ⟨ad, had, hx0, hx1⟩ := at_I hC 0 (by simp)
  subst had
  obtain ⟨g, o, s⟩ := ad
  have hs : s = none := by
    obtain ⟨v, _, h2', h3⟩ := h
    rw [h2] at h2'
    injection h2' with h2'
    injection h2' with h2' _
    simp at h2'
    subst h2'
    obtain ⟨g', o', c', he, _⟩ := Kd.Q_form h3 (by simp)
    injection he with he _ _
    injection he with he
    injection he
  subst hs
  have hw0 : W.cell? ⟨g, o, none⟩ = some (.int .i64 x.1) := by simpa [Addr.add] using hx0
  have hw1 : W.cell? ⟨g, o + 1, none⟩ = some (.int .i64 x.2) := by simpa [Addr.add] using hx1
  clear hx0 hx1
  have hLp : 0 < (x :: t).length := by simp
  have hlen : decide (((x :: t).length : Int) = 0) = false := decide_eq_false (by simp; omega)
  have hlt := blk_lt h2
  have H2 := Aside0.mk h2
  have HC := Aside0.mk hC
  have HTL := Aside0.mk (show (x :: t).length = t.length + 1 by simp)
  have HGD := Aside0.mk (show ∀ j, j < t.length → (x :: t).getD (j + 1) (0, 0) = t.getD j (0, 0) from fun j _ => by simp)
  clear h h2 hC
  generalize hxs : x :: t = xs at *
  have hXS := Aside0.mk hxs
  clear hxs
  go_enter Try.func15, Try.ntmps15
  go_upto_region 1 with (fail)
  have hc0 : (W.alloc (.cells #[.int .i64 0, .int .i64 0] 42)).cell? ⟨rb, 0, none⟩ = some (.slice (some ⟨g, o, none⟩) xs.length c) := pw_cell_below (below_alloc (Below.refl W.heap.size W) _) hcell0
  have hy0 := pw_cell_below (below_alloc (Below.refl W.heap.size W) (.cells #[.int .i64 0, .int .i64 0] 42)) hw0
  have hy1 := pw_cell_below (below_alloc (Below.refl W.heap.size W) (.cells #[.int .i64 0, .int .i64 0] 42)) hw1
  go_upto_region 4 with (fail)
  have hbz := below_alloc (Below.refl W.heap.size W) (.cells #[.int .i64 0, .int .i64 0] 42)
  have hbx := below_alloc hbz (.cells #[.int .i64 x.1, .int .i64 x.2] 42)
  have hq2 := Aside0.mk (blk_below H2.out hbx)
  have HC2 := Aside0.mk (Kd.C_below HC.out hbx)
  have HB2 : Aside0 (Fr N (MR W) W _) := Aside0.mk (Fr.of_below hbx hN)
  have hrb := Aside0.mk (blk_alloc (blk_new W (.cells #[.int .i64 0, .int .i64 0] 42)) (.cells #[.int .i64 x.1, .int .i64 x.2] 42))
  have hxb := blk_new (W.alloc (.cells #[.int .i64 0, .int .i64 0] 42)) (.cells #[.int .i64 x.1, .int .i64 x.2] 42)
  have hsz2 : ((W.alloc (.cells #[.int .i64 0, .int .i64 0] 42)).alloc (.cells #[.int .i64 x.1, .int .i64 x.2] 42)).heap.size = W.heap.size + 2 := by simp
  have hsz1 : (W.alloc (.cells #[.int .i64 0, .int .i64 0] 42)).heap.size = W.heap.size + 1 := by simp
  rw [hsz1] at hxb
  have HSZ2 := Aside0.mk hsz2
  clear hsz2
  clear hc0 hy0 hy1 hcell0 hw0 hw1 hbz hbx H2 HC hsz1
  generalize (W.alloc (.cells #[.int .i64 0, .int .i64 0] 42)).alloc (.cells #[.int .i64 x.1, .int .i64 x.2] 42) = w2 at *
  have hXB := Aside0.mk hxb
  clear hxb
  have HI := Aside0.mk (Kd.Q_nil KI 42 w2 w2.heap.size (fun _ => True))
  have HBB := Aside0.mk (Below.refl w2.heap.size w2)
  go_wp2
  go_loopw [5, 6] (fun v5 v6 wr => ∃ (p : Int) (i : Nat) (L : List Item) (A5 : Option Addr) (c5 : Nat), v5 = .slice A5 L.length c5 ∧ v6 = .int .i64 p ∧ Aside0 (p = ((i + 1 : Nat) : Int)) ∧ i ≤ t.length ∧
      Aside0 (KI.Q 42 wr w2.heap.size (fun _ => True) (.slice A5 L.length c5) L) ∧ Aside0 (Below w2.heap.size w2 wr) ∧ Aside0 (L = t.take i)) (fun _ v6 _ => xs.length - (intOf v6).toNat)
  case atStart => exact ⟨_, 0, [], none, 0, rfl, rfl, Aside0.mk rfl, by omega, HI, HBB, Aside0.mk rfl⟩
  case round =>
    clear HI HBB
    obtain ⟨p, i, L, A5, c5, rfl, rfl, HP, hi, HI, HBB, HLE⟩ := hrel
    have hrc : wr.cell? ⟨rb, 0, none⟩ = some (.slice (some ⟨g, o, none⟩) xs.length c) := (blk_cell (blk_below hq2.out HBB.out) 0).trans rfl
    by_cases hin : i < t.length
    · have hlt2 : decide (p < (xs.length : Int)) = true := decide_eq_true (by rw [HP.out, HTL.out]; omega)
      have hp0 : 0 ≤ p := by rw [HP.out]; omega
      have hp1 : p < (xs.length : Int) := by rw [HP.out, HTL.out]; omega
      have HW : Aside0 (p + 1 = ((i + 1 + 1 : Nat) : Int)) := Aside0.mk (by rw [HP.out]; omega)
      obtain ⟨ad2, e, hx0, hx1⟩ := at_Ip (Kd.C_below HC2.out HBB.out) p hp0 hp1
      cases e
      have hrd : rdI xs p = t.getD i (0, 0) := by unfold rdI; rw [HP.out]; exact HGD.out i hin
      rw [hrd] at hx0 hx1
      have HTS := Aside0.mk (show t.take (i + 1) = L ++ [t.getD i (0, 0)] by rw [HLE.out]; exact take_succ_getD t i hin)
      have hpn : p.toNat = i + 1 := by rw [HP.out]; rfl
      rw [hpn] at hx0 hx1
      have hw0 : wr.cell? ⟨g, o + (i + 1) * 2, none⟩ = some (.int .i64 (t.getD i (0, 0)).1) := by simpa [Addr.add] using hx0
      have hw1 : wr.cell? ⟨g, o + (i + 1) * 2 + 1, none⟩ = some (.int .i64 (t.getD i (0, 0)).2) := by simpa [Addr.add] using hx1
      clear hx0 hx1
      clear hrd
      generalize t.getD i (0, 0) = X at *
      obtain ⟨r, nd⟩ := X
      have hszr := HBB.out.size
      have hlen2 : (L ++ [(r, nd)]).length = L.length + 1 := by simp
      have htk : L.length ≤ 1000000 := by rw [HLE.out, List.length_take]; have := HTL.out; omega
      go_wp2_with (first | ((with_reducible refine gate_builtin (b := .append) (xs := #[.tmp 29, .tmp 37]) rfl ?_); at_builtin; go_loud (refine Kd.Q_append KI (w0 := w2) w2.heap.size rfl (.tmp 29) (.tmp 37) 38 42 (.agg #[.int .i64 0, .int .i64 0]) 16 rfl Try.underlying38 info42 rfl (by decide) (by decide) (.slice A5 L.length c5) L (r, nd) [.int .i64 r, .int .i64 nd] (fun _ => True) (fun _ => False) rfl rfl ?pM (fun _ hk => hk.elim) (fun _ _ => trivial) HI.out HBB.out HBB.out.size ?pL ?_; (case pM => exact ⟨[.int .i64 r], [.int .i64 nd], rfl, rfl, rfl⟩); (case pL => omega); intro v1 w4 ho hb hg hat; obtain ⟨A6, c6, rfl, hcc6⟩ := Kd.Q_slice ho; have HI4 := Aside0.mk ho; have HB4 := Aside0.mk hb; clear ho hb hg hat)))
      go_roundw
      case rel => exact ⟨_, i + 1, L ++ [(r, nd)], A6, c6, by simp, rfl, Aside0.mk (by have := HW.out; omega), by omega, HI4, Aside0.mk HTS.out.symm⟩
      case measure => have := HW.out; have := HP.out; have := HTL.out; simp [intOf] at *; omega
    · have hlt2 : decide (p < (xs.length : Int)) = false := decide_eq_false (by rw [HP.out, HTL.out]; omega)
      have hsz2 := HSZ2.out
      have hie : L = t := by rw [HLE.out, List.take_of_length_le]; omega
      clear HLE
      subst hie
      have hszr := HBB.out.size
      have hrf : wr.frozen? ⟨rb, 0, none⟩ = false := blk_frozen (blk_below hq2.out HBB.out) 0
      go_upto_region 10 with (fail)
      have hqr := blk_below hq2.out HBB.out
      have hg3 := grown_setCell wr ⟨rb, 0, none⟩ (.slice A5 L.length c5)
      have hq3 := blk_put hqr 0 (.slice A5 L.length c5) (cs' := #[.slice A5 L.length c5]) rfl
      have ho3 := Aside0.mk (Kd.Q_set HI.out hqr hE40 0 (.slice A5 L.length c5))
      have hx3 := blk_grown (blk_below hXB.out HBB.out) hg3 (fun he => blk_ne hXB.out hq2.out (by decide) (by injection he))
      have hr3 := blk_grown (blk_below hrb.out HBB.out) hg3 (fun he => blk_ne hrb.out hq2.out (by decide) (by injection he))
      have HB3 := Aside0.mk (Fr.grown (HB2.out.step HBB.out (by omega)) hg3 (by omega) h1 hMr)
      have hsz3 := hg3.size
      have hQ3 := Aside0.mk hq3
      have hR3 := Aside0.mk hr3
      have hX3 := Aside0.mk hx3
      clear hg3 hq3 hr3 hx3 hrc hrf hqr
      generalize wr.setCell ⟨rb, 0, none⟩ (.slice A5 L.length c5) = w3 at *
      have hz0 : w3.cell? ⟨W.heap.size + 1, 0, none⟩ = some (.int .i64 x.1) := (blk_cell hX3.out 0).trans rfl
      have hz1 : w3.cell? ⟨W.heap.size + 1, 1, none⟩ = some (.int .i64 x.2) := (blk_cell hX3.out 1).trans rfl
      have hr30 : w3.cell? ⟨W.heap.size, 0, none⟩ = some (.int .i64 0) := (blk_cell hR3.out 0).trans rfl
      have hr31 : w3.cell? ⟨W.heap.size, 1, none⟩ = some (.int .i64 0) := (blk_cell hR3.out 1).trans rfl
      have hrf0 := blk_frozen hR3.out 0
      have hrf1 := blk_frozen hR3.out 1
      go_wp2
      have hg5 := (grown_setCell w3 ⟨W.heap.size, 0, none⟩ (.int .i64 x.1)).trans (grown_setCell (w3.setCell ⟨W.heap.size, 0, none⟩ (.int .i64 x.1)) ⟨W.heap.size, 1, none⟩ (.int .i64 x.2))
      have hrb5 := blk_put (blk_put hR3.out 0 (.int .i64 x.1) (cs' := #[.int .i64 x.1, .int .i64 0]) rfl) 1 (.int .i64 x.2) (cs' := #[.int .i64 x.1, .int .i64 x.2]) rfl
      clear hr30 hr31
      generalize (w3.setCell ⟨W.heap.size, 0, none⟩ (.int .i64 x.1)).setCell ⟨W.heap.size, 1, none⟩ (.int .i64 x.2) = w5 at *
      have hz0 : w5.cell? ⟨W.heap.size, 0, none⟩ = some (.int .i64 x.1) := (blk_cell hrb5 0).trans rfl
      have hz1 : w5.cell? ⟨W.heap.size, 1, none⟩ = some (.int .i64 x.2) := (blk_cell hrb5 1).trans rfl
      have hq5 := blk_grown hQ3.out hg5 (fun he => by injection he with he; have : rb = W.heap.size := he; omega)
      have ho5 := Kd.Q_grown2 (Kd.Q_tight KI_E ho3.out) KI_E hg5 (fun k he hs => by
        have h1 := Kd.Q_base ho3.out k hs.symm
        injection he with he
        have he : W.heap.size = k := he
        omega)
      have hb5 : Fr N (MR W) W w5 := ⟨pw_below_grown HB3.out.1 (some W.heap.size) (by omega) hg5 (fun k he => by injection he with he; omega), Kept.of_grown hg5 HB3.out.2 (fun k he => .inr (by injection he with he; exact Nat.le_of_eq he))⟩
      rw [← hXS.out]
      refine bodyPost_ret (v := popE (x :: L)) ?_ rfl ⟨rfl, ⟨_, h1, hq5, Kd.Q_mono (Kd.Q_lower ho5 (by omega)) (fun _ _ => trivial)⟩, hb5⟩
      simp [results, Try.results15, go_sem, popE, encI, hz0, hz1]
theorem refPop_calls (N : Nat) (W : World) (rb : Nat) (xs : List Item) (h : IsR N W rb xs) (hN : N ≤ W.heap.size) (hl : xs.length ≤ 1000000) :
    Calls Try.prog 15 #[.pointer (some ⟨rb, 0, none⟩)] W fun e W' => e = .returned (popE xs) ∧ IsR N W' rb (xs.drop 1) ∧ Fr N (MR W) W W' := by
  cases xs with
  | nil => exact (refPop_nil N W rb h).mono fun e w' ⟨h1, h2⟩ => ⟨h1, h.below h2, Fr.of_below h2 hN⟩
  | cons x t => exact refPop_cons N W rb x t h hN hl

set_option maxHeartbeats 4000000 in
set_option maxRecDepth 100000 in
theorem refDrop_calls (N : Nat) (W : World) (rb : Nat) (xs : List Item) (run : Int) (h : IsR N W rb xs) (hN : N ≤ W.heap.size) (hl : xs.length ≤ 1000000) :
    Calls Try.prog 17 #[.pointer (some ⟨rb, 0, none⟩), .int .i64 run] W fun e W' => e = .returned (.int .i64 ((xs.length : Int) - ((dropL run xs).length : Int))) ∧ IsR N W' rb (dropL run xs) ∧ Fr N (MR W) W W' := by
  obtain ⟨A, c, h2, h1, hcc, hC, hMr⟩ := h.open
  have hq2 := Aside0.mk h2
  have HC2 := Aside0.mk hC
  have hlt := blk_lt h2
  clear h h2 hC
  have HI := Aside0.mk (Kd.Q_nil KI 42 W W.heap.size (fun _ => True))
  have HBB := Aside0.mk (Below.refl W.heap.size W)
  go_enter Try.func17, Try.ntmps17
  go_wp2
  go_loopw [5, 6] (fun v5 v6 wr => ∃ (p : Int) (i : Nat) (A5 : Option Addr) (c5 : Nat), v5 = .slice A5 (kept run xs i).length c5 ∧ v6 = .int .i64 p ∧ Aside0 (p = (i : Int)) ∧ i ≤ xs.length ∧
      Aside0 (KI.Q 42 wr W.heap.size (fun _ => True) (.slice A5 (kept run xs i).length c5) (kept run xs i)) ∧ Aside0 (Below W.heap.size W wr)) (fun _ v6 _ => xs.length - (intOf v6).toNat)
  case atStart => exact ⟨_, 0, none, 0, by simp [kept], rfl, Aside0.mk rfl, by omega, by simpa [kept] using HI, HBB⟩
  case round =>
    clear HI HBB
    obtain ⟨p, i, A5, c5, rfl, rfl, HP, hi, HI, HBB⟩ := hrel
    have hrc : wr.cell? ⟨rb, 0, none⟩ = some (.slice A xs.length c) := (blk_cell (blk_below hq2.out HBB.out) 0).trans rfl
    by_cases hin : i < xs.length
    · have hlt2 : decide (p < (xs.length : Int)) = true := decide_eq_true (by rw [HP.out]; omega)
      have hp0 : 0 ≤ p := by rw [HP.out]; omega
      have hp1 : p < (xs.length : Int) := by rw [HP.out]; omega
      have HW : Aside0 (p + 1 = ((i + 1 : Nat) : Int)) := Aside0.mk (by rw [HP.out]; omega)
      obtain ⟨ad2, e, hx0, hx1⟩ := at_Ip (Kd.C_below HC2.out HBB.out) p hp0 hp1
      cases e
      have hrd : rdI xs p = xs.getD i (0, 0) := by unfold rdI; rw [HP.out]; rfl
      rw [hrd] at hx0 hx1
      have hKS := kept_succ run xs i hin
      have hkl := kept_le run xs i
      clear hrd
      generalize xs.getD i (0, 0) = X at *
      obtain ⟨r, nd⟩ := X
      have hszr := HBB.out.size
      by_cases heq : r = run
      · have hcond : (r == run) = true := by simp [heq]
        have hcond2 : decide (r = run) = true := by simp [heq]
        rw [if_pos hcond, List.append_nil] at hKS
        clear heq
        have HKS := Aside0.mk hKS
        clear hKS
        go_wp2
        go_roundw
        case rel => exact ⟨_, i + 1, A5, c5, by rw [HKS.out], rfl, HW, by omega, by rw [HKS.out]; exact HI, HBB⟩
        case measure => have := HW.out; have := HP.out; simp [intOf] at *; omega
      · have hcond : (r == run) = false := by simp [heq]
        have hcond2 : decide (r = run) = false := by simp [heq]
        rw [if_neg (by simpa using heq)] at hKS
        clear heq
        have hlen : (kept run xs i ++ [(r, nd)]).length = (kept run xs i).length + 1 := by simp
        have HKS := Aside0.mk hKS
        clear hKS
        go_wp2_with (first | ((with_reducible refine gate_builtin (b := .append) (xs := #[.tmp 27, .tmp 35]) rfl ?_); at_builtin; go_loud (refine Kd.Q_append KI (w0 := W) W.heap.size rfl (.tmp 27) (.tmp 35) 38 42 (.agg #[.int .i64 0, .int .i64 0]) 16 rfl Try.underlying38 info42 rfl (by decide) (by decide) (.slice A5 (kept run xs i).length c5) (kept run xs i) (r, nd) [.int .i64 r, .int .i64 nd] (fun _ => True) (fun _ => False) rfl rfl ?pM (fun _ hk => hk.elim) (fun _ _ => trivial) HI.out HBB.out HBB.out.size ?pL ?_; (case pM => exact ⟨[.int .i64 r], [.int .i64 nd], rfl, rfl, rfl⟩); (case pL => omega); intro v1 w4 ho hb hg hat; obtain ⟨A6, c6, rfl, hcc6⟩ := Kd.Q_slice ho; have HI4 := Aside0.mk ho; have HB4 := Aside0.mk hb; clear ho hb hg hat)))
        go_roundw
        case rel => exact ⟨_, i + 1, A6, c6, by rw [HKS.out, hlen], rfl, HW, by omega, by rw [HKS.out]; exact HI4, HB4⟩
        case measure => have := HW.out; have := HP.out; simp [intOf] at *; omega
    · have hlt2 : decide (p < (xs.length : Int)) = false := decide_eq_false (by rw [HP.out]; omega)
      have hie : i = xs.length := by omega
      subst hie
      rw [kept_full] at *
      have hszr := HBB.out.size
      have hrf : wr.frozen? ⟨rb, 0, none⟩ = false := blk_frozen (blk_below hq2.out HBB.out) 0
      have hdl : (dropL run xs).length ≤ xs.length := List.length_filter_le _ _
      go_upto_region 9 with (fail)
      have hqr := blk_below hq2.out HBB.out
      have hg3 := grown_setCell wr ⟨rb, 0, none⟩ (.slice A5 (dropL run xs).length c5)
      have hq3 := blk_put hqr 0 (.slice A5 (dropL run xs).length c5) (cs' := #[.slice A5 (dropL run xs).length c5]) rfl
      have ho3 := Aside0.mk (Kd.Q_set HI.out hqr hE40 0 (.slice A5 (dropL run xs).length c5))
      have HB3 := Aside0.mk (Fr.grown (Fr.of_below (M := MR W) HBB.out hN) hg3 (by omega) h1 hMr)
      have hQ3 := Aside0.mk hq3
      clear hg3 hq3 hrc hrf hqr
      generalize wr.setCell ⟨rb, 0, none⟩ (.slice A5 (dropL run xs).length c5) = w3 at *
      go_wp2
      go_ret
      exact ⟨by first | rfl | (simp; done) | (simp; omega), ⟨_, h1, hQ3.out, Kd.Q_mono (Kd.Q_lower ho3.out hN) (fun _ _ => trivial)⟩, HB3.out⟩
end Go.Proofs.Ytcnecdlphpkmgaa.Q
