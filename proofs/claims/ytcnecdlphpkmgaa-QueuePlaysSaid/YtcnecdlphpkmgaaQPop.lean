/- Pop. No condition beyond numbers being numbers of 64 bits. -/
import Derived.Test.YtcnecdlphpkmgaaQHas
namespace Go.Proofs.Ytcnecdlphpkmgaa.Q
open Go.RowKit Go.Proofs.YtcnecdlphpkmgaaW.PrintWords Go.Proofs.YtcnecdlphpkmgaaW.PrintLast Go.Proofs.YtcnecdlphpkmgaaW.PrintMore
set_option linter.unusedVariables false
set_option linter.unusedSimpArgs false

section
variable {P : Program} {ops : Array Oper} {rest : List Oper} {o : Oper} {a : Act} {Q : Exit → Act → World → Prop} {W : World}
theorem quiet_event {w1 : World} {v : Value} (hgd : o.guard = none) (hN : o.dst = none)
    (hrun : (execOp a.eval o).run P W = .ok (.value v) w1) (h : ∀ w', w' = w1 → wpList P ops Q rest a w') : wpList P ops Q (o :: rest) a W := by
  refine wpList_plain hgd fun K hK => ?_
  unfold Oper.wp
  rw [hrun]
  show K (a.put o.dst v) w1
  rw [hN]
  exact hK _ _ (h _ rfl)
theorem gate_none (_hN : o.dst = none) (h : wpList P ops Q (o :: rest) a W) : wpList P ops Q (o :: rest) a W := h
end
theorem Good.tail {x : Item} {t : List Item} (h : Good (x :: t)) : Good t := ⟨(List.nodup_cons.1 h.1).2, by have := h.2.1; simp at this; omega, fun y hy => h.2.2 y (List.mem_cons_of_mem _ hy)⟩
theorem Good.head {x : Item} {t : List Item} (h : Good (x :: t)) : wfI x := h.2.2 x List.mem_cons_self
theorem Good.filter {x : Item} {t : List Item} (h : Good (x :: t)) : (x :: t).filter (fun y => y != x) = t := by
  have hn := (List.nodup_cons.1 h.1).1
  simp only [List.filter_cons, bne_self_eq_false, Bool.false_eq_true, if_false]
  rw [List.filter_eq_self]
  intro y hy
  simp
  rintro rfl
  exact hn hy
def popE : List Item → Value
  | [] => .tuple #[encI (0, 0), .bool false]
  | x :: _ => .tuple #[encI x, .bool true]

set_option maxHeartbeats 2000000 in
set_option maxRecDepth 100000 in
theorem pop_nil (M : Nat → Prop) (N : Nat) (W : World) (qb n : Nat) (h : IsQ M N W qb [] n) :
    Calls Try.prog 14 #[.pointer (some ⟨qb, 0, none⟩)] W fun e W' => e = .returned (popE []) ∧ Below W.heap.size W W' := by
  obtain ⟨sv, mb, h1, h2, h3, h4, h5, h6⟩ := h
  obtain ⟨A, c, rfl, hc⟩ := Kd.Q_slice h4
  have hcell0 : W.cell? ⟨qb, 0, none⟩ = some (.slice A 0 c) := (blk_cell h3 0).trans rfl
  have hlt := blk_lt h3
  clear h5 h6 h4 h3
  go_enter Try.func14, Try.ntmps14
  go_upto_region 1 with (fail)
  have hc0 : (W.alloc (.cells #[.int .i64 0, .int .i64 0] 31)).cell? ⟨qb, 0, none⟩ = some (.slice A 0 c) := pw_cell_below (below_alloc (Below.refl W.heap.size W) _) hcell0
  go_wp2
  refine bodyPost_ret (v := popE []) ?_ rfl ?_
  · simp [results, Try.results14, go_sem, popE, encI]
  · exact ⟨rfl, below_alloc (Below.refl _ _) _⟩
set_option maxHeartbeats 2000000 in
set_option maxRecDepth 100000 in
theorem pop_cons (M : Nat → Prop) (N : Nat) (W : World) (qb n : Nat) (x : Item) (t : List Item) (h : IsQ M N W qb (x :: t) n) (hN : N ≤ W.heap.size) :
    Calls Try.prog 14 #[.pointer (some ⟨qb, 0, none⟩)] W fun e W' => e = .returned (popE (x :: t)) ∧ IsQ M N W' qb t n ∧ Fr N M W W' := by
  obtain ⟨sv, mb, h1, h2, h3, h4, h5, h6⟩ := h
  have hN1 := h1.1
  have hN2 := h2.1
  obtain ⟨g, o, c, rfl, hg1, hg2, -⟩ := Kd.Q_form h4 (by simp)
  obtain ⟨hcn, hcc, hC⟩ := Kd.Q_reads' h4
  obtain ⟨ad, had, hx0, hx1⟩ := at_I hC 0 (by simp)
  injection had with had
  subst had
  have hx0 : W.cell? ⟨g, o, none⟩ = some (.int .i64 x.1) := by simpa [Addr.add] using hx0
  have hx1 : W.cell? ⟨g, o + 1, none⟩ = some (.int .i64 x.2) := by simpa [Addr.add] using hx1
  have hLp : 0 < (x :: t).length := by simp
  have hcell0 : W.cell? ⟨qb, 0, none⟩ = some (.slice (some ⟨g, o, none⟩) (x :: t).length c) := (blk_cell h3 0).trans rfl
  have hlt := blk_lt h3
  have hlen : decide (((x :: t).length : Int) = 0) = false := decide_eq_false (by simp; omega)
  have H6 := Aside0.mk h6
  have H5 := Aside0.mk h5
  have H4 := Aside0.mk h4
  have H3 := Aside0.mk h3
  clear h6 h5 h4 h3
  generalize hL : (x :: t).length = L at *
  go_enter Try.func14, Try.ntmps14
  go_upto_region 1 with (fail)
  have hc0 : (W.alloc (.cells #[.int .i64 0, .int .i64 0] 31)).cell? ⟨qb, 0, none⟩ = some (.slice (some ⟨g, o, none⟩) L c) := pw_cell_below (below_alloc (Below.refl W.heap.size W) _) hcell0
  have hy0 := pw_cell_below (below_alloc (Below.refl W.heap.size W) (.cells #[.int .i64 0, .int .i64 0] 31)) hx0
  have hy1 := pw_cell_below (below_alloc (Below.refl W.heap.size W) (.cells #[.int .i64 0, .int .i64 0] 31)) hx1
  go_upto_region 4 with (fail)
  have hbz := below_alloc (Below.refl W.heap.size W) (.cells #[.int .i64 0, .int .i64 0] 31)
  have hbx := below_alloc hbz (.cells #[.int .i64 x.1, .int .i64 x.2] 31)
  have hq2 := blk_below H3.out hbx
  have hS2 := Aside0.mk (H5.out.kept (grown_of_below hbx none) (by simp))
  have hQ2 := Aside0.mk (Kd.Q_below (Kd.Q_elderB (Kd.Q_elderB H4.out W.heap.size (Nat.le_refl _)) (W.heap.size + 1) (by omega)) hbx)
  have hB2 : Aside0 (Fr N M W _) := Aside0.mk (Fr.of_below hbx hN)
  have hrb := blk_alloc (blk_new W (.cells #[.int .i64 0, .int .i64 0] 31)) (.cells #[.int .i64 x.1, .int .i64 x.2] 31)
  have hxb := blk_new (W.alloc (.cells #[.int .i64 0, .int .i64 0] 31)) (.cells #[.int .i64 x.1, .int .i64 x.2] 31)
  have hsz2 : ((W.alloc (.cells #[.int .i64 0, .int .i64 0] 31)).alloc (.cells #[.int .i64 x.1, .int .i64 x.2] 31)).heap.size = W.heap.size + 2 := by simp
  have hsz1 : (W.alloc (.cells #[.int .i64 0, .int .i64 0] 31)).heap.size = W.heap.size + 1 := by simp
  rw [hsz1] at hxb
  clear hc0 hy0 hy1 hcell0 hx0 hx1 hC hbz hbx H3 H4 H5 hsz1
  generalize (W.alloc (.cells #[.int .i64 0, .int .i64 0] 31)).alloc (.cells #[.int .i64 x.1, .int .i64 x.2] 31) = W2 at *
  have hxb := Aside0.mk hxb
  have hrb := Aside0.mk hrb
  have hcq : W2.cell? ⟨qb, 0, none⟩ = some (.slice (some ⟨g, o, none⟩) L c) := (blk_cell hq2 0).trans rfl
  have hfq := blk_frozen hq2 0
  go_upto_region 5 with (fail)
  have hfil := H6.out.filter
  have hgood := H6.out.tail
  have hwx := H6.out.head
  have hQ3 := Kd.Q_drop (k := 1) hQ2.out (by simp)
  have hQ3 : KI.Q 31 W2 N _ (.slice (if c = 1 then some ⟨g, o, none⟩ else some ⟨g, o + 2, none⟩) (L - 1) (c - 1)) t := hQ3
  generalize hsv : Value.slice (if c = 1 then some (⟨g, o, none⟩ : Addr) else some ⟨g, o + 2, none⟩) (L - 1) (c - 1) = sv at *
  have hg3 := grown_setCell W2 ⟨qb, 0, none⟩ sv
  have hq3 := blk_put hq2 0 sv (cs' := #[sv, .map (some mb)]) rfl
  have hS3 := hS2.out.kept hg3 (fun he => hS2.out.ne hq2 (by injection he))
  have ho3 := Kd.Q_set hQ3 hq2 hE58 0 sv
  have hsz3 := hg3.size
  have hb3 := Fr.grown hB2.out hg3 (by omega) h1.1 h1.2
  have hrb3 := blk_grown hrb.out hg3 (fun he => blk_ne hrb.out hq2 (by decide) (by injection he))
  have hxb3 := blk_grown hxb.out hg3 (fun he => blk_ne hxb.out hq2 (by decide) (by injection he))
  clear hQ3 hQ2 hS2 hB2 hq2 hrb hxb hcq hfq
  generalize W2.setCell ⟨qb, 0, none⟩ sv = W3 at *
  obtain ⟨W4, hdel, hS4, hg4⟩ := (hS3.drewN 1).drop hwx 0
  have hx30 : W3.cell? ⟨W.heap.size + 1, 0, none⟩ = some (.int .i64 x.1) := (blk_cell hxb3 0).trans rfl
  have hx31 : W3.cell? ⟨W.heap.size + 1, 1, none⟩ = some (.int .i64 x.2) := (blk_cell hxb3 1).trans rfl
  have hc31 : W3.cell? ⟨qb, 1, none⟩ = some (.map (some mb)) := (blk_cell hq3 1).trans rfl
  have hdel : Sem.run Try.prog (Builtin.delete_ #[56, 31] 0 #[.map (some mb), .agg #[.int .i64 x.1, .int .i64 x.2]]) W3.drew = Result.ok (Value.tuple #[]) W4 := hdel
  have hg4 : W3.drew.grownBy W4 (some mb) := hg4
  rw [hfil] at hS4
  have hS4 := Aside0.mk hS4
  have hqm : some qb ≠ some mb := fun he => hS3.ne hq3 (by injection he with he; exact he.symm)
  have hq4 := blk_grown (w := W3.drew) hq3 hg4 hqm
  have hrm : some W.heap.size ≠ some mb := fun he => hS3.ne hrb3 (by injection he with he; exact he.symm)
  have hrb4 := blk_grown (w := W3.drew) hrb3 hg4 hrm
  have hxb4 := blk_grown (w := W3.drew) hxb3 hg4 (fun he => hS3.ne hxb3 (by injection he with he; exact he.symm))
  have ho4 := Aside0.mk (Kd.Q_grown1 (Kd.Q_drew ho3) KI_E hg4 (hS3.neRow ho3))
  have hb4 := Aside0.mk (Fr.grown (hb3.step (below_drew (Below.refl _ W3)) (by omega)) hg4 (show N ≤ W3.heap.size by omega) h2.1 h2.2)
  have hsz4 : W3.heap.size ≤ W4.heap.size := hg4.size
  go_still_tail 5, (by kernel_rfl)
  change wpList _ _ _ _ _ W3.drew
  refine quiet_event (w1 := W4) (v := .tuple #[]) rfl rfl (by first | (go_simp; done) | (go_simp; rw [hdel]; rfl)) ?_
  intro w4 hw4
  subst hw4
  have hx40 : w4.cell? ⟨W.heap.size + 1, 0, none⟩ = some (.int .i64 x.1) := (blk_cell hxb4 0).trans rfl
  have hx41 : w4.cell? ⟨W.heap.size + 1, 1, none⟩ = some (.int .i64 x.2) := (blk_cell hxb4 1).trans rfl
  have hr40 : w4.cell? ⟨W.heap.size, 0, none⟩ = some (.int .i64 0) := (blk_cell hrb4 0).trans rfl
  have hr41 : w4.cell? ⟨W.heap.size, 1, none⟩ = some (.int .i64 0) := (blk_cell hrb4 1).trans rfl
  have hrf0 := blk_frozen hrb4 0
  have hrf1 := blk_frozen hrb4 1
  clear hx30 hx31 hc31
  go_wp2
  have hg5 := (grown_setCell w4 ⟨W.heap.size, 0, none⟩ (.int .i64 x.1)).trans (grown_setCell (w4.setCell ⟨W.heap.size, 0, none⟩ (.int .i64 x.1)) ⟨W.heap.size, 1, none⟩ (.int .i64 x.2))
  have hrb5 := blk_put (blk_put hrb4 0 (.int .i64 x.1) (cs' := #[.int .i64 x.1, .int .i64 0]) rfl) 1 (.int .i64 x.2) (cs' := #[.int .i64 x.1, .int .i64 x.2]) rfl
  clear hr40 hr41
  generalize (w4.setCell ⟨W.heap.size, 0, none⟩ (.int .i64 x.1)).setCell ⟨W.heap.size, 1, none⟩ (.int .i64 x.2) = W5 at *
  have hz0 : W5.cell? ⟨W.heap.size, 0, none⟩ = some (.int .i64 x.1) := (blk_cell hrb5 0).trans rfl
  have hz1 : W5.cell? ⟨W.heap.size, 1, none⟩ = some (.int .i64 x.2) := (blk_cell hrb5 1).trans rfl
  have hq5 := blk_grown hq4 hg5 (fun he => by injection he with he; have : qb = W.heap.size := he; omega)
  have hS5 := hS4.out.kept hg5 (fun he => hrm he.symm)
  have ho5 := Kd.Q_grown1 ho4.out KI_E hg5 (fun he => (Kd.Q_ok ho4.out _ he.symm).1.2 rfl)
  have hb5 : Fr N M W W5 := ⟨pw_below_grown hb4.out.1 (some W.heap.size) (by omega) hg5 (fun k he => by injection he with he; omega), Kept.of_grown hg5 hb4.out.2 (fun k he => .inr (by injection he with he; exact Nat.le_of_eq he))⟩
  refine bodyPost_ret (v := popE (x :: t)) ?_ rfl ⟨rfl, ⟨_, mb, h1, h2, hq5, Kd.Q_mono ho5 (fun _ hk => hk.1.1), hS5, hgood⟩, hb5⟩
  simp [results, Try.results14, go_sem, popE, encI, hz0, hz1]
/-- Pop. -/
theorem pop_calls (M : Nat → Prop) (N : Nat) (W : World) (qb n : Nat) (xs : List Item) (h : IsQ M N W qb xs n) (hN : N ≤ W.heap.size) :
    Calls Try.prog 14 #[.pointer (some ⟨qb, 0, none⟩)] W fun e W' => e = .returned (popE xs) ∧ IsQ M N W' qb (xs.drop 1) n ∧ Fr N M W W' := by
  cases xs with
  | nil => exact (pop_nil M N W qb n h).mono fun e w' ⟨h1, h2⟩ => ⟨h1, h.below h2, Fr.of_below h2 hN⟩
  | cons x t => exact (pop_cons M N W qb n x t h hN).mono fun e w' hh => hh
end Go.Proofs.Ytcnecdlphpkmgaa.Q
