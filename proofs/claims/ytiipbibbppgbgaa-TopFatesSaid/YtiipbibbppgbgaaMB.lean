/- The steps of one node's state: lease, finish, answer, as the closures of run hand them on. slices.Clone of a flow's nodes: a row of its own whose elements' dependencies are only read. Run.clone: the run with rows of its own. slices.Repeat of one state that is zero: so many such states. Run.next: what a waiting node becomes. The states of a run, by phases and tries; what settling makes of them. Run.settle. Run.settle: the walk. -/
import Derived.Test.YtiipbibbppgbgaaMA
import Derived.Test.YtiipbibbppgbgaaPFinishx1
import Derived.Test.YtiipbibbppgbgaaPLeasex1
import Derived.Test.YtiipbibbppgbgaaPAnswerx1
import Derived.Test.YtiipbibbppgbgaaPTopFatesx4
namespace Go.Proofs.Ytiipbibbppgbgaa.T
open Go.RowKit Go.Proofs.Ytiipbibbppgbgaa.PTopFates Go.Proofs.YtiipbibbppgbgaaW.PrintWords Go.Proofs.YtiipbibbppgbgaaW.PrintLast Go.Proofs.YtiipbibbppgbgaaW.PrintMore
set_option linter.unusedVariables false
set_option linter.unusedSimpArgs false

/-- A node's state: its phase, its try, until when that lasts. -/
def mkS (p t l : Int) : S53 := ⟨p, t, if p = 2 ∨ p = 3 then l else 0, 0⟩
def encS (s : S53) : Value := .agg #[.int .i64 s.f0, .int .i64 s.f1, .int .i64 s.f2, .int .i64 s.f3]
theorem lease_f (t l : Int) (h0 : 0 ≤ t) (h1 : t < 100) (h2 : 1 ≤ l) (h3 : l ≤ 50) :
    PLease.node_State_Lease.f 1 t 0 0 0 l = some (2, t + 1, l, 0, 0) := by
  have hm : PLease.node_until.f 0 l = some l := by
    unfold PLease.node_until.f
    have : mx 0 l = l := by unfold mx; rw [if_pos (by omega)]
    rw [this, if_neg (by unfold wrap64; omega)]
    congr 1
    unfold wrap64; omega
  unfold PLease.node_State_Lease.f PLease.node_State_from.f PLease.node_State_to.f
  simp only [if_true, Option.bind_some, hm]
  rw [if_pos (by omega)]
  congr 2
  congr 1
  unfold wrap64; omega
theorem finish_f (t l try_ tries : Int) (ok : Bool) (ht : t = try_) (h2 : 1 ≤ l) :
    PFinish.node_State_Finish.f 1 2 t l 0 0 try_ tries ok = some (if ok then 4 else if t < tries then 1 else 5, t, 0, 0, 0) := by
  subst ht
  unfold PFinish.node_State_Finish.f PFinish.node_State_Finish.j0 PFinish.node_State_again.f PFinish.node_State_to.f
  have : decide ((0 : Int) > l) = false := decide_eq_false (by omega)
  cases ok <;> by_cases h : t < tries <;> simp [this, h]
theorem answer_f (t l : Int) (ok : Bool) (h2 : 1 ≤ l) :
    PAnswer.node_State_Answer.f 1 3 t l 0 0 ok = some (if ok then 4 else 5, t, 0, 0, 0) := by
  unfold PAnswer.node_State_Answer.f PAnswer.node_State_Answer.j0 PAnswer.node_State_to.f
  have : decide ((0 : Int) > l) = false := decide_eq_false (by omega)
  cases ok <;> simp [this]
theorem put4 {w : World} {g : Nat} {a b c d : Value} (h : w.heap[g]? = some (.cells #[a, b, c, d] 53 (0, 0))) (x y z u : Value) :
    ((((w.setCell ⟨g, 0, none⟩ x).setCell ⟨g, 1, none⟩ y).setCell ⟨g, 2, none⟩ z).setCell ⟨g, 3, none⟩ u).heap[g]? = some (.cells #[x, y, z, u] 53 (0, 0)) :=
  blk_put (cs := #[x, y, z, d]) (blk_put (cs := #[x, y, c, d]) (blk_put (cs := #[x, b, c, d]) (blk_put (cs := #[a, b, c, d]) h 0 _ rfl) 1 _ rfl) 2 _ rfl) 3 _ rfl
theorem below4 {N : Nat} {w0 w : World} {g : Nat} (hb : Below N w0 w) (hg : N ≤ g) (x y z u : Value) :
    Below N w0 ((((w.setCell ⟨g, 0, none⟩ x).setCell ⟨g, 1, none⟩ y).setCell ⟨g, 2, none⟩ z).setCell ⟨g, 3, none⟩ u) :=
  (((hb.setCell hg _).setCell hg _).setCell hg _).setCell hg _
theorem allocs3 (w : World) (a b c : Obj) : Below w.heap.size w (((w.alloc a).alloc b).alloc c) ∧ (((w.alloc a).alloc b).alloc c).heap[w.heap.size]? = some a ∧ (((w.alloc a).alloc b).alloc c).heap[w.heap.size + 1]? = some b ∧ (((w.alloc a).alloc b).alloc c).heap[w.heap.size + 2]? = some c := by
  have hs1 : (w.alloc a).heap.size = w.heap.size + 1 := by simp
  have hs2 : ((w.alloc a).alloc b).heap.size = w.heap.size + 2 := by simp
  have k2 := blk_new (w.alloc a) b
  rw [hs1] at k2
  have k3 := blk_new ((w.alloc a).alloc b) c
  rw [hs2] at k3
  exact ⟨below_alloc (below_alloc (below_alloc (Below.refl _ _) _) _) _, blk_alloc (blk_alloc (blk_new w a) _) _, blk_alloc k2 _, k3⟩
set_option maxHeartbeats 4000000 in
set_option maxRecDepth 100000 in
theorem lease1_calls (t l : Int) (x : S43) (A1 : Option Addr) (c1 : Nat) (nb : Nat) (w : World) (hn : w.heap[nb]? = some (.cells #[.int .i64 0] 2 (0, 0))) (h0 : 0 ≤ t) (h1 : t < 100) (hl : x.f3 = l) (h2 : 1 ≤ l) (h3 : l ≤ 50) :
    Calls Try.prog 22 #[encS (mkS 1 t l), .agg #[.string x.f0, .slice A1 x.f1.length c1, .int .i64 x.f2, .int .i64 x.f3, .int .i64 x.f4, .string x.f5], .pointer (some ⟨nb, 0, none⟩)] w fun e w' => e = .returned (.tuple #[encS (mkS 2 (t + 1) l), .int .i64 0]) ∧ Below w.heap.size w w' := by
  have hu := Try.underlying43
  have hu53 := Try.underlying53
  obtain ⟨f0, f1, f2, f3, f4, f5⟩ := x
  simp only at hl
  subst hl
  show Calls Try.prog 22 #[.agg #[.int .i64 1, .int .i64 t, .int .i64 0, .int .i64 0], .agg #[.string f0, .slice A1 f1.length c1, .int .i64 f2, .int .i64 f3, .int .i64 f4, .string f5], .pointer (some ⟨nb, 0, none⟩)] w fun e w' => e = .returned (.tuple #[.agg #[.int .i64 2, .int .i64 (t + 1), .int .i64 f3, .int .i64 0], .int .i64 0]) ∧ Below w.heap.size w w'
  obtain ⟨hb, hk1, hk2, hk3⟩ := allocs3 w (.cells #[.int .i64 1, .int .i64 t, .int .i64 0, .int .i64 0] 53) (.cells #[.string f0, .slice A1 f1.length c1, .int .i64 f2, .int .i64 f3, .int .i64 f4, .string f5] 43) (.cells #[.int .i64 0, .int .i64 0, .int .i64 0, .int .i64 0] 53)
  have HB := Aside0.mk hb
  have HK3 := Aside0.mk hk3
  have hn0 : (((w.alloc (.cells #[.int .i64 1, .int .i64 t, .int .i64 0, .int .i64 0] 53)).alloc (.cells #[.string f0, .slice A1 f1.length c1, .int .i64 f2, .int .i64 f3, .int .i64 f4, .string f5] 43)).alloc (.cells #[.int .i64 0, .int .i64 0, .int .i64 0, .int .i64 0] 53)).cell? ⟨nb, 0, none⟩ = some (.int .i64 0) := (blk_cell (blk_below hn hb) 0).trans rfl
  clear hn
  go_enter Try.func22, Try.ntmps22
  go_upto_region 1 with (fail)
  generalize ((w.alloc (.cells #[.int .i64 1, .int .i64 t, .int .i64 0, .int .i64 0] 53)).alloc (.cells #[.string f0, .slice A1 f1.length c1, .int .i64 f2, .int .i64 f3, .int .i64 f4, .string f5] 43)).alloc (.cells #[.int .i64 0, .int .i64 0, .int .i64 0, .int .i64 0] 53) = w1 at *
  have hx0 : w1.cell? ⟨w.heap.size, 0, none⟩ = some (.int .i64 1) := (blk_cell hk1 0).trans rfl
  have hx1 : w1.cell? ⟨w.heap.size, 1, none⟩ = some (.int .i64 t) := (blk_cell hk1 1).trans rfl
  have hx2 : w1.cell? ⟨w.heap.size, 2, none⟩ = some (.int .i64 0) := (blk_cell hk1 2).trans rfl
  have hx3 : w1.cell? ⟨w.heap.size, 3, none⟩ = some (.int .i64 0) := (blk_cell hk1 3).trans rfl
  have hy2 : w1.cell? ⟨w.heap.size + 1, 2, none⟩ = some (.int .i64 f2) := (blk_cell hk2 2).trans rfl
  have hy3 : w1.cell? ⟨w.heap.size + 1, 3, none⟩ = some (.int .i64 f3) := (blk_cell hk2 3).trans rfl
  have HC := Aside0.mk (PLease.node_State_Lease.calls 1 t 0 0 0 f3 _ _ _ _ _ w1 (lease_f t f3 h0 h1 h2 h3))
  clear hk1 hk2 hk3 hb
  go_wp2_with (first | (go_at_call 23; go_loud (refine HC.out.mono ?_; rintro e w2 ⟨rfl, hb⟩; have HB2 := Aside0.mk (below_step HB.out hb); have HK4 := Aside0.mk (blk_below HK3.out hb); have hz0 := blk_cell HK4.out 0; have hz1 := blk_cell HK4.out 1; have hz2 := blk_cell HK4.out 2; have hz3 := blk_cell HK4.out 3; have hf0 := blk_frozen HK4.out 0; have hf1 := blk_frozen HK4.out 1; have hf2 := blk_frozen HK4.out 2; have hf3 := blk_frozen HK4.out 3; clear hb)))
  refine bodyPost_ret (results_ct rfl _ _ (w.heap.size + 2) 53 #[.int .i64 2, .int .i64 (t + 1), .int .i64 f3, .int .i64 0] (0, 0) _ rfl (put4 HK4.out _ _ _ _) Try.underlying53 rfl (by kernel_rfl)) rfl ?_
  exact ⟨rfl, below4 HB2.out (by omega) _ _ _ _⟩
set_option maxHeartbeats 4000000 in
set_option maxRecDepth 100000 in
theorem finish1_calls (t l : Int) (x : S43) (A1 : Option Addr) (c1 : Nat) (nb tb ob : Nat) (ok : Bool) (tries : Int) (w : World) (hnb : w.heap[nb]? = some (.cells #[.int .i64 0] 2 (0, 0))) (htb : w.heap[tb]? = some (.cells #[.int .i64 t] 3 (0, 0))) (hob : w.heap[ob]? = some (.cells #[.bool ok] 4 (0, 0))) (hl : x.f2 = tries) (h2 : 1 ≤ l) (h3 : l ≤ 50) :
    Calls Try.prog 24 #[encS (mkS 2 t l), .agg #[.string x.f0, .slice A1 x.f1.length c1, .int .i64 x.f2, .int .i64 x.f3, .int .i64 x.f4, .string x.f5], .pointer (some ⟨nb, 0, none⟩), .pointer (some ⟨tb, 0, none⟩), .pointer (some ⟨ob, 0, none⟩)] w fun e w' => e = .returned (.tuple #[encS (mkS (if ok then 4 else if t < tries then 1 else 5) t l), .int .i64 0]) ∧ Below w.heap.size w w' := by
  have hu := Try.underlying43
  have hu53 := Try.underlying53
  obtain ⟨f0, f1, f2, f3, f4, f5⟩ := x
  simp only at hl
  subst hl
  have hE : encS (mkS (if ok then 4 else if t < f2 then 1 else 5) t l) = .agg #[.int .i64 (if ok then 4 else if t < f2 then 1 else 5), .int .i64 t, .int .i64 0, .int .i64 0] := by cases ok <;> by_cases h : t < f2 <;> simp [encS, mkS, h]
  rw [hE]
  clear hE
  have hf := finish_f t l t f2 ok rfl h2
  generalize (if ok then 4 else if t < f2 then 1 else 5 : Int) = Ph at hf ⊢
  show Calls Try.prog 24 #[.agg #[.int .i64 2, .int .i64 t, .int .i64 l, .int .i64 0], .agg #[.string f0, .slice A1 f1.length c1, .int .i64 f2, .int .i64 f3, .int .i64 f4, .string f5], .pointer (some ⟨nb, 0, none⟩), .pointer (some ⟨tb, 0, none⟩), .pointer (some ⟨ob, 0, none⟩)] w fun e w' => e = .returned (.tuple #[.agg #[.int .i64 Ph, .int .i64 t, .int .i64 0, .int .i64 0], .int .i64 0]) ∧ Below w.heap.size w w'
  obtain ⟨hb, hk1, hk2, hk3⟩ := allocs3 w (.cells #[.int .i64 2, .int .i64 t, .int .i64 l, .int .i64 0] 53) (.cells #[.string f0, .slice A1 f1.length c1, .int .i64 f2, .int .i64 f3, .int .i64 f4, .string f5] 43) (.cells #[.int .i64 0, .int .i64 0, .int .i64 0, .int .i64 0] 53)
  have HB := Aside0.mk hb
  have HK3 := Aside0.mk hk3
  have h_nb : (((w.alloc (.cells #[.int .i64 2, .int .i64 t, .int .i64 l, .int .i64 0] 53)).alloc (.cells #[.string f0, .slice A1 f1.length c1, .int .i64 f2, .int .i64 f3, .int .i64 f4, .string f5] 43)).alloc (.cells #[.int .i64 0, .int .i64 0, .int .i64 0, .int .i64 0] 53)).cell? ⟨nb, 0, none⟩ = some (.int .i64 0) := (blk_cell (blk_below hnb hb) 0).trans rfl
  have h_tb : (((w.alloc (.cells #[.int .i64 2, .int .i64 t, .int .i64 l, .int .i64 0] 53)).alloc (.cells #[.string f0, .slice A1 f1.length c1, .int .i64 f2, .int .i64 f3, .int .i64 f4, .string f5] 43)).alloc (.cells #[.int .i64 0, .int .i64 0, .int .i64 0, .int .i64 0] 53)).cell? ⟨tb, 0, none⟩ = some (.int .i64 t) := (blk_cell (blk_below htb hb) 0).trans rfl
  have h_ob : (((w.alloc (.cells #[.int .i64 2, .int .i64 t, .int .i64 l, .int .i64 0] 53)).alloc (.cells #[.string f0, .slice A1 f1.length c1, .int .i64 f2, .int .i64 f3, .int .i64 f4, .string f5] 43)).alloc (.cells #[.int .i64 0, .int .i64 0, .int .i64 0, .int .i64 0] 53)).cell? ⟨ob, 0, none⟩ = some (.bool ok) := (blk_cell (blk_below hob hb) 0).trans rfl
  clear hnb htb hob
  go_enter Try.func24, Try.ntmps24
  go_upto_region 1 with (fail)
  generalize ((w.alloc (.cells #[.int .i64 2, .int .i64 t, .int .i64 l, .int .i64 0] 53)).alloc (.cells #[.string f0, .slice A1 f1.length c1, .int .i64 f2, .int .i64 f3, .int .i64 f4, .string f5] 43)).alloc (.cells #[.int .i64 0, .int .i64 0, .int .i64 0, .int .i64 0] 53) = w1 at *
  have hx0 : w1.cell? ⟨w.heap.size, 0, none⟩ = some (.int .i64 2) := (blk_cell hk1 0).trans rfl
  have hx1 : w1.cell? ⟨w.heap.size, 1, none⟩ = some (.int .i64 t) := (blk_cell hk1 1).trans rfl
  have hx2 : w1.cell? ⟨w.heap.size, 2, none⟩ = some (.int .i64 l) := (blk_cell hk1 2).trans rfl
  have hx3 : w1.cell? ⟨w.heap.size, 3, none⟩ = some (.int .i64 0) := (blk_cell hk1 3).trans rfl
  have hy2 : w1.cell? ⟨w.heap.size + 1, 2, none⟩ = some (.int .i64 f2) := (blk_cell hk2 2).trans rfl
  have hy3 : w1.cell? ⟨w.heap.size + 1, 3, none⟩ = some (.int .i64 f3) := (blk_cell hk2 3).trans rfl
  have HC := Aside0.mk (PFinish.node_State_Finish.calls 1 2 t l 0 0 t f2 ok _ _ _ _ _ w1 hf)
  clear hk1 hk2 hk3 hb hf
  go_wp2_with (first | (go_at_call 25; go_loud (refine HC.out.mono ?_; rintro e w2 ⟨rfl, hb⟩; have HB2 := Aside0.mk (below_step HB.out hb); have HK4 := Aside0.mk (blk_below HK3.out hb); have hz0 := blk_cell HK4.out 0; have hz1 := blk_cell HK4.out 1; have hz2 := blk_cell HK4.out 2; have hz3 := blk_cell HK4.out 3; have hf0 := blk_frozen HK4.out 0; have hf1 := blk_frozen HK4.out 1; have hf2 := blk_frozen HK4.out 2; have hf3 := blk_frozen HK4.out 3; clear hb)))
  refine bodyPost_ret (results_ct rfl _ _ (w.heap.size + 2) 53 #[.int .i64 Ph, .int .i64 t, .int .i64 0, .int .i64 0] (0, 0) _ rfl (put4 HK4.out _ _ _ _) Try.underlying53 rfl (by kernel_rfl)) rfl ?_
  exact ⟨rfl, below4 HB2.out (by omega) _ _ _ _⟩
set_option maxHeartbeats 4000000 in
set_option maxRecDepth 100000 in
theorem answer1_calls (t l : Int) (x : S43) (A1 : Option Addr) (c1 : Nat) (nb ob : Nat) (ok : Bool) (w : World) (hnb : w.heap[nb]? = some (.cells #[.int .i64 0] 2 (0, 0))) (hob : w.heap[ob]? = some (.cells #[.bool ok] 4 (0, 0))) (h2 : 1 ≤ l) (h3 : l ≤ 50) :
    Calls Try.prog 19 #[encS (mkS 3 t l), .agg #[.string x.f0, .slice A1 x.f1.length c1, .int .i64 x.f2, .int .i64 x.f3, .int .i64 x.f4, .string x.f5], .pointer (some ⟨nb, 0, none⟩), .pointer (some ⟨ob, 0, none⟩)] w fun e w' => e = .returned (.tuple #[encS (mkS (if ok then 4 else 5) t l), .int .i64 0]) ∧ Below w.heap.size w w' := by
  have hu := Try.underlying43
  have hu53 := Try.underlying53
  obtain ⟨f0, f1, f2, f3, f4, f5⟩ := x
  have hE : encS (mkS (if ok then 4 else 5) t l) = .agg #[.int .i64 (if ok then 4 else 5), .int .i64 t, .int .i64 0, .int .i64 0] := by cases ok <;> simp [encS, mkS]
  rw [hE]
  clear hE
  have hf := answer_f t l ok h2
  generalize (if ok then 4 else 5 : Int) = Ph at hf ⊢
  show Calls Try.prog 19 #[.agg #[.int .i64 3, .int .i64 t, .int .i64 l, .int .i64 0], .agg #[.string f0, .slice A1 f1.length c1, .int .i64 f2, .int .i64 f3, .int .i64 f4, .string f5], .pointer (some ⟨nb, 0, none⟩), .pointer (some ⟨ob, 0, none⟩)] w fun e w' => e = .returned (.tuple #[.agg #[.int .i64 Ph, .int .i64 t, .int .i64 0, .int .i64 0], .int .i64 0]) ∧ Below w.heap.size w w'
  obtain ⟨hb, hk1, hk2, hk3⟩ := allocs3 w (.cells #[.int .i64 3, .int .i64 t, .int .i64 l, .int .i64 0] 53) (.cells #[.string f0, .slice A1 f1.length c1, .int .i64 f2, .int .i64 f3, .int .i64 f4, .string f5] 43) (.cells #[.int .i64 0, .int .i64 0, .int .i64 0, .int .i64 0] 53)
  have HB := Aside0.mk hb
  have HK3 := Aside0.mk hk3
  have h_nb : (((w.alloc (.cells #[.int .i64 3, .int .i64 t, .int .i64 l, .int .i64 0] 53)).alloc (.cells #[.string f0, .slice A1 f1.length c1, .int .i64 f2, .int .i64 f3, .int .i64 f4, .string f5] 43)).alloc (.cells #[.int .i64 0, .int .i64 0, .int .i64 0, .int .i64 0] 53)).cell? ⟨nb, 0, none⟩ = some (.int .i64 0) := (blk_cell (blk_below hnb hb) 0).trans rfl
  have h_ob : (((w.alloc (.cells #[.int .i64 3, .int .i64 t, .int .i64 l, .int .i64 0] 53)).alloc (.cells #[.string f0, .slice A1 f1.length c1, .int .i64 f2, .int .i64 f3, .int .i64 f4, .string f5] 43)).alloc (.cells #[.int .i64 0, .int .i64 0, .int .i64 0, .int .i64 0] 53)).cell? ⟨ob, 0, none⟩ = some (.bool ok) := (blk_cell (blk_below hob hb) 0).trans rfl
  clear hnb hob
  go_enter Try.func19, Try.ntmps19
  go_upto_region 1 with (fail)
  generalize ((w.alloc (.cells #[.int .i64 3, .int .i64 t, .int .i64 l, .int .i64 0] 53)).alloc (.cells #[.string f0, .slice A1 f1.length c1, .int .i64 f2, .int .i64 f3, .int .i64 f4, .string f5] 43)).alloc (.cells #[.int .i64 0, .int .i64 0, .int .i64 0, .int .i64 0] 53) = w1 at *
  have hx0 : w1.cell? ⟨w.heap.size, 0, none⟩ = some (.int .i64 3) := (blk_cell hk1 0).trans rfl
  have hx1 : w1.cell? ⟨w.heap.size, 1, none⟩ = some (.int .i64 t) := (blk_cell hk1 1).trans rfl
  have hx2 : w1.cell? ⟨w.heap.size, 2, none⟩ = some (.int .i64 l) := (blk_cell hk1 2).trans rfl
  have hx3 : w1.cell? ⟨w.heap.size, 3, none⟩ = some (.int .i64 0) := (blk_cell hk1 3).trans rfl
  have hy2 : w1.cell? ⟨w.heap.size + 1, 2, none⟩ = some (.int .i64 f2) := (blk_cell hk2 2).trans rfl
  have hy3 : w1.cell? ⟨w.heap.size + 1, 3, none⟩ = some (.int .i64 f3) := (blk_cell hk2 3).trans rfl
  have HC := Aside0.mk (PAnswer.node_State_Answer.calls 1 3 t l 0 0 ok _ _ _ _ _ w1 hf)
  clear hk1 hk2 hk3 hb hf
  go_wp2_with (first | (go_at_call 20; go_loud (refine HC.out.mono ?_; rintro e w2 ⟨rfl, hb⟩; have HB2 := Aside0.mk (below_step HB.out hb); have HK4 := Aside0.mk (blk_below HK3.out hb); have hz0 := blk_cell HK4.out 0; have hz1 := blk_cell HK4.out 1; have hz2 := blk_cell HK4.out 2; have hz3 := blk_cell HK4.out 3; have hf0 := blk_frozen HK4.out 0; have hf1 := blk_frozen HK4.out 1; have hf2 := blk_frozen HK4.out 2; have hf3 := blk_frozen HK4.out 3; clear hb)))
  refine bodyPost_ret (results_ct rfl _ _ (w.heap.size + 2) 53 #[.int .i64 Ph, .int .i64 t, .int .i64 0, .int .i64 0] (0, 0) _ rfl (put4 HK4.out _ _ _ _) Try.underlying53 rfl (by kernel_rfl)) rfl ?_
  exact ⟨rfl, below4 HB2.out (by omega) _ _ _ _⟩
end Go.Proofs.Ytiipbibbppgbgaa.T
namespace Go.Proofs.Ytiipbibbppgbgaa.T
open Go.RowKit Go.Proofs.Ytiipbibbppgbgaa.PTopFates Go.Proofs.YtiipbibbppgbgaaW.PrintWords Go.Proofs.YtiipbibbppgbgaaW.PrintLast Go.Proofs.YtiipbibbppgbgaaW.PrintMore
set_option linter.unusedVariables false
set_option linter.unusedSimpArgs false

theorem eqlNil25 (w : World) (A : Option Addr) (n c : Nat) : (binOp .eql 25 (.slice A n c) (.slice none 0 0)).run Try.prog w = .ok (.bool A.isNone) w := by
  have h : ∀ d : Nat, (Op.equalIn (d + 1) 25 (.slice A n c) (.slice none 0 0)).run Try.prog w = .ok A.isNone w := fun d => by
    cases A <;> simp [Op.equalIn, run_underlying Try.underlying25]
  simp only [binOp]
  simp [Op.equal, Op.maxDepth, h 9999]
attribute [local go_sem high] eqlNil25
set_option maxHeartbeats 2000000 in
set_option maxRecDepth 100000 in
theorem clone33_calls (A : Option Addr) (c : Nat) (xs : List S43) (okp : Nat → Prop) (W : World) (hr : Kd.F k43 W okp A xs.length xs) (hl : xs.length ≤ 1000000) :
    Calls Try.prog 33 #[.slice A xs.length c] W fun e W' => ∃ A' c', e = .returned (.slice A' xs.length c') ∧ Kd.N k43 43 W' W.heap.size (fun k => okp k ∨ W.heap.size ≤ k) (.slice A' xs.length c') xs ∧ Below W.heap.size W W' := by
  have HR := Aside0.mk hr
  clear hr
  have HB := Aside0.mk (Below.refl W.heap.size W)
  cases A with
  | none =>
    have h0 := C_none (Kd.F_now HR.out)
    have hxs : xs = [] := List.length_eq_zero_iff.1 h0
    subst hxs
    go_enter Try.func33, Try.ntmps33
    go_wp2
    go_ret
    exact ⟨none, 0, rfl, Kd.N_nil _ _ _ _ _, HB.out⟩
  | some ad =>
    go_enter Try.func33, Try.ntmps33
    go_upto_region 3 with (fail)
    go_wp2_with (first
      | ((with_reducible refine gate_dst (N := 5) rfl ?_); go_loud (refine Kd.R_lit k43 W.heap.size 43 rfl rfl (xs := []) (inner := []) (ok := fun _ => True) (okp := fun _ => True) (by first | (go_simp; done) | (go_simp; rfl)) ⟨rfl, fun j p h => by simp at h⟩ (fun _ h => h) trivial (Below.refl _ _) (Nat.le_refl _) (by decide) ?_; intro v1 w1 ho hb hg hnew; obtain ⟨A1, c1, rfl⟩ := Kd.R_slice ho; have HO := Aside0.mk ho; have n0 := Aside0.mk hb; clear HB ho hb hg hnew; have HB := n0; clear n0))
      | ((with_reducible refine gate_dst (N := 7) rfl ?_); go_loud (refine Kd.N_append_rows k43 (w0 := W) W.heap.size rfl (.tmp 5) (.tmp 6) 25 43 (.agg #[(.string ⟨#[]⟩), (.slice none 0 0), (.int .i64 0), (.int .i64 0), (.int .i64 0), (.string ⟨#[]⟩)]) 80 rfl Try.underlying25 info43 rfl (by decide) (by decide) _ [] xs (some ad) xs.length c (fun k => okp k ∨ W.heap.size ≤ k) (fun k => okp k ∧ k < W.heap.size) rfl rfl (Kd.R_N (Kd.R_mono (Kd.R_bound HO.out) (fun k hk => .inr hk.2.1))) (Kd.F_below (Kd.F_bound HR.out) HB.out) (fun k hk => ⟨.inl hk.1, fun he => by have := Kd.R_base HO.out k he.symm; have := hk.2; omega⟩) (fun k hk => .inr (Nat.le_trans HB.out.size hk)) HB.out HB.out.size (by simp; omega) ?_; intro v2 w2 ho hb hg hat; rw [List.nil_append] at ho; obtain ⟨A2, c2, rfl⟩ := Kd.N_slice ho; have HO2 := Aside0.mk ho; have n0 := Aside0.mk hb; clear HB HO ho hb hg hat; have HB := n0; clear n0)))
    go_ret
    exact ⟨A2, c2, rfl, HO2.out, HB.out⟩
end Go.Proofs.Ytiipbibbppgbgaa.T
namespace Go.Proofs.Ytiipbibbppgbgaa.T
open Go.RowKit Go.Proofs.Ytiipbibbppgbgaa.PTopFates Go.Proofs.YtiipbibbppgbgaaW.PrintWords Go.Proofs.YtiipbibbppgbgaaW.PrintLast Go.Proofs.YtiipbibbppgbgaaW.PrintMore
set_option linter.unusedVariables false
set_option linter.unusedSimpArgs false

section
variable {P : Program} {ops : Array Oper} {o : Oper} {a : Act} {Q : Exit → Act → World → Prop} {Kc : Act → World → Prop}
theorem store_step {W w1 : World} (hw : Region.wanted o (yielded ops a.tmps) = true) (hN : o.dst = none) (hrun : (execOp a.eval o).run P W = .ok .skip w1) (h : Kc a w1) : if Region.wanted o (yielded ops a.tmps) = true then Oper.wp P o a W Kc Q else Kc (a.put o.dst undef) W := by
  rw [if_pos hw]
  unfold Oper.wp
  rw [hrun]
  show Kc (a.put o.dst undef) w1
  rw [hN]
  exact h
end
theorem allocs2 (w : World) (a b : Obj) : Below w.heap.size w ((w.alloc a).alloc b) ∧ ((w.alloc a).alloc b).heap[w.heap.size]? = some a ∧ ((w.alloc a).alloc b).heap[w.heap.size + 1]? = some b := by
  have hs1 : (w.alloc a).heap.size = w.heap.size + 1 := by simp
  have k2 := blk_new (w.alloc a) b
  rw [hs1] at k2
  exact ⟨below_alloc (below_alloc (Below.refl _ _) _) _, blk_alloc (blk_new w a) _, k2⟩
/-- A run as a value. -/
abbrev runV (i0 i1 i2 : Int) (nm : ByteArray) (A : Option Addr) (n c : Nat) (B : Option Addr) (m cb : Nat) : Array Value := #[.int .i64 i0, .int .i64 i1, .int .i64 i2, .string nm, .slice A n c, .slice B m cb]
abbrev runZ : Array Value := #[.int .i64 0, .int .i64 0, .int .i64 0, .string (⟨#[]⟩ : ByteArray), .slice none 0 0, .slice none 0 0]
theorem FK43_dep {W : World} {ok : Nat → Prop} {x : S43} {A : Option Addr} {c : Nat} (hl : x.f1.length ≤ c) (h : Kd.F Kd.string W ok A x.f1.length x.f1) : Kd.FK k43 W ok x [.string x.f0, .slice A x.f1.length c, .int .i64 x.f2, .int .i64 x.f3, .int .i64 x.f4, .string x.f5] :=
  fun W' hW => k43_mk W' x hl (h W' hW)
/-- Six cells are written. -/
def set6 (w : World) (g : Nat) (a b c d e f : Value) : World := (((((w.setCell ⟨g, 0, none⟩ a).setCell ⟨g, 1, none⟩ b).setCell ⟨g, 2, none⟩ c).setCell ⟨g, 3, none⟩ d).setCell ⟨g, 4, none⟩ e).setCell ⟨g, 5, none⟩ f
theorem set6_blk {w : World} {g t : Nat} {a' b' c' d' e' f' : Value} (h : w.heap[g]? = some (.cells #[a', b', c', d', e', f'] t (0, 0))) (a b c d e f : Value) : (set6 w g a b c d e f).heap[g]? = some (.cells #[a, b, c, d, e, f] t (0, 0)) :=
  blk_put (cs := #[a, b, c, d, e, f']) (blk_put (cs := #[a, b, c, d, e', f']) (blk_put (cs := #[a, b, c, d', e', f']) (blk_put (cs := #[a, b, c', d', e', f']) (blk_put (cs := #[a, b', c', d', e', f']) (blk_put (cs := #[a', b', c', d', e', f']) h 0 _ rfl) 1 _ rfl) 2 _ rfl) 3 _ rfl) 4 _ rfl) 5 _ rfl
theorem set6_below {N : Nat} {w0 w : World} {g : Nat} (hb : Below N w0 w) (hg : N ≤ g) (a b c d e f : Value) : Below N w0 (set6 w g a b c d e f) :=
  (((((hb.setCell hg _).setCell hg _).setCell hg _).setCell hg _).setCell hg _).setCell hg _
theorem set6_other (w : World) (g : Nat) (a b c d e f : Value) (k : Nat) (hk : k ≠ g) : (set6 w g a b c d e f).heap[k]? = w.heap[k]? := by
  unfold set6
  rw [Below.heap_setCell _ ⟨g, 5, none⟩ _ k hk, Below.heap_setCell _ ⟨g, 4, none⟩ _ k hk, Below.heap_setCell _ ⟨g, 3, none⟩ _ k hk, Below.heap_setCell _ ⟨g, 2, none⟩ _ k hk, Below.heap_setCell _ ⟨g, 1, none⟩ _ k hk, Below.heap_setCell _ ⟨g, 0, none⟩ _ k hk]
theorem hE53_33 : ∀ q, q ∈ (53 : Nat) :: k53.E → q ≠ 33 := by rw [show k53.E = [] from rfl]; simp
theorem hE53_43 : ∀ q, q ∈ (53 : Nat) :: k53.E → q ≠ 43 := by rw [show k53.E = [] from rfl]; simp
set_option maxHeartbeats 4000000 in
set_option maxRecDepth 100000 in
theorem clone14_calls (i0 i1 i2 : Int) (nm : ByteArray) (A : Option Addr) (c : Nat) (ns : List S43) (B : Option Addr) (cb : Nat) (st : List S53) (okF : Nat → Prop) (W : World) (hA : Kd.F k43 W okF A ns.length ns) (hB : Kd.C k53 W B st.length st) (hln : ns.length ≤ 12) (hls : st.length ≤ 12) (hd12 : ∀ x ∈ ns, x.f1.length ≤ 12) :
    Calls Try.prog 14 #[.agg #[.int .i64 i0, .int .i64 i1, .int .i64 i2, .string nm, .slice A ns.length c, .slice B st.length cb]] W fun e W' => ∃ A' c' B' cb', e = .returned (.agg #[.int .i64 i0, .int .i64 i1, .int .i64 i2, .string nm, .slice A' ns.length c', .slice B' st.length cb']) ∧
      Kd.N k43 43 W' W.heap.size (fun k => (okF k ∨ W.heap.size ≤ k) ∧ some k ≠ (Value.slice B' st.length cb').ownBlock) (.slice A' ns.length c') ns ∧ Kd.R k53 53 W' W.heap.size (fun _ => True) (.slice B' st.length cb') st ∧ Below W.heap.size W W' := by
  have hu33 := Try.underlying33
  have hu27 := Try.underlying27
  have hu43 := Try.underlying43
  obtain ⟨hb, hk1, hk2⟩ := allocs2 W (.cells #[.int .i64 i0, .int .i64 i1, .int .i64 i2, .string nm, .slice A ns.length c, .slice B st.length cb] 33) (.cells runZ 33)
  have HA := Aside0.mk hA
  have HB0 := Aside0.mk hB
  have HD12 := Aside0.mk hd12
  have HB := Aside0.mk hb
  have HK1 := Aside0.mk hk1
  have HK2 := Aside0.mk hk2
  clear hA hB hd12 hb hk1 hk2
  have hs : ((W.alloc (.cells #[.int .i64 i0, .int .i64 i1, .int .i64 i2, .string nm, .slice A ns.length c, .slice B st.length cb] 33)).alloc (.cells runZ 33)).heap.size = W.heap.size + 2 := by simp
  go_enter Try.func14, Try.ntmps14
  go_upto_region 1 with (fail)
  generalize (W.alloc (.cells #[.int .i64 i0, .int .i64 i1, .int .i64 i2, .string nm, .slice A ns.length c, .slice B st.length cb] 33)).alloc (.cells runZ 33) = w1 at *
  have hx5 : w1.cell? ⟨W.heap.size, 5, none⟩ = some (.slice B st.length cb) := (blk_cell HK1.out 5).trans rfl
  have hf5 := blk_frozen HK1.out 5
  have HC := Aside0.mk (clone17_calls B cb st w1 (Kd.C_below HB0.out HB.out) (by omega))
  go_upto_region 2 with (first | (go_at_call 17; go_loud (refine HC.out.mono ?_; rintro e w2 ⟨B', cb', rfl, hq, hb⟩; have HR := Aside0.mk hq; have HB2 := Aside0.mk hb; have HKa := Aside0.mk (blk_below HK1.out hb); have HKb := Aside0.mk (blk_below HK2.out hb); have hf5 := blk_frozen HKa.out 5; have hx5 : w2.cell? ⟨W.heap.size, 5, none⟩ = some (.slice B st.length cb) := (blk_cell HKa.out 5).trans rfl; clear hq hb)))
  have HKa3 := Aside0.mk (blk_put (cs' := #[.int .i64 i0, .int .i64 i1, .int .i64 i2, .string nm, .slice A ns.length c, .slice B' st.length cb']) HKa.out 5 (.slice B' st.length cb') rfl)
  have HKb3 := Aside0.mk (blk_far (p := ⟨W.heap.size, 5, none⟩) HKb.out (by show W.heap.size + 1 ≠ W.heap.size; omega) (.slice B' st.length cb'))
  have HB3 : Aside0 (Below W.heap.size W (w2.setCell ⟨W.heap.size, 5, none⟩ (.slice B' st.length cb'))) := Aside0.mk (below_set (below_step HB.out HB2.out) (Nat.le_refl _))
  have HR3 := Aside0.mk (Kd.R_set HR.out HKa.out hE53_33 5 (.slice B' st.length cb'))
  have HF3 := Aside0.mk (Kd.F_far (p := ⟨W.heap.size, 5, none⟩) (Kd.F_below (Kd.F_bound HA.out) (below_step HB.out HB2.out)) (fun k hk => (by show k ≠ W.heap.size; have := hk.2; omega)) (.slice B' st.length cb'))
  have hs3 : W.heap.size + 2 ≤ (w2.setCell ⟨W.heap.size, 5, none⟩ (.slice B' st.length cb')).heap.size := by rw [World.size_setCell]; have := HB2.out.size; omega
  clear HR HKa HKb HK1 HK2 HC hx5 hf5
  generalize w2.setCell ⟨W.heap.size, 5, none⟩ (.slice B' st.length cb') = w3 at *
  have hy4 : w3.cell? ⟨W.heap.size, 4, none⟩ = some (.slice A ns.length c) := (blk_cell HKa3.out 4).trans rfl
  have hs12 : W.heap.size + 2 ≤ w1.heap.size := by rw [hs]; exact Nat.le_refl _
  have HC2 := Aside0.mk (clone33_calls A c ns _ w3 HF3.out (by omega))
  have HBk : Aside0 (∀ k, (Value.slice B' st.length cb').ownBlock = some k → W.heap.size + 2 ≤ k ∧ k < w3.heap.size) := Aside0.mk (fun k hk => ⟨Nat.le_trans hs12 (Kd.R_base HR3.out k hk), Kd.R_lt HR3.out k hk⟩)
  go_upto_region 3 with (first | (go_at_call 33; go_loud (refine HC2.out.mono ?_; rintro e w4 ⟨A', c', rfl, hq, hb⟩; have HN := Aside0.mk hq; have HB4 := Aside0.mk hb; have HKa4 := Aside0.mk (blk_below HKa3.out hb); have HKb4 := Aside0.mk (blk_below HKb3.out hb); have hy4 : w4.cell? ⟨W.heap.size, 4, none⟩ = some (.slice A ns.length c) := (blk_cell HKa4.out 4).trans rfl; have hf4 := blk_frozen HKa4.out 4; clear hq hb)))
  have HKa5 := Aside0.mk (blk_put (cs' := #[.int .i64 i0, .int .i64 i1, .int .i64 i2, .string nm, .slice A' ns.length c', .slice B' st.length cb']) HKa4.out 4 (.slice A' ns.length c') rfl)
  have HKb5 := Aside0.mk (blk_far (p := ⟨W.heap.size, 4, none⟩) HKb4.out (by show W.heap.size + 1 ≠ W.heap.size; omega) (.slice A' ns.length c'))
  have HB5 : Aside0 (Below W.heap.size W (w4.setCell ⟨W.heap.size, 4, none⟩ (.slice A' ns.length c'))) := Aside0.mk (below_set (below_step HB3.out HB4.out) (Nat.le_refl _))
  have HR5 := Aside0.mk (Kd.R_set (Kd.R_lower (Kd.R_below HR3.out HB4.out) (base' := W.heap.size) (by omega)) HKa4.out hE53_33 4 (.slice A' ns.length c'))
  have HN5 : Aside0 (Kd.N k43 43 (w4.setCell ⟨W.heap.size, 4, none⟩ (.slice A' ns.length c')) W.heap.size (fun k => ((okF k ∨ W.heap.size ≤ k) ∧ k ≠ W.heap.size ∧ k ≠ W.heap.size + 1) ∧ some k ≠ (Value.slice B' st.length cb').ownBlock) (.slice A' ns.length c') ns) := Aside0.mk (Kd.N_far (Kd.N_lower (Kd.N_mono HN.out (fun k hk => by
    rcases hk with hk | hk
    · exact ⟨⟨.inl hk.1, by have := hk.2; omega, by have := hk.2; omega⟩, fun he => by have := HBk.out k he.symm; have := hk.2; omega⟩
    · exact ⟨⟨.inr (by omega), by omega, by omega⟩, fun he => by have := HBk.out k he.symm; omega⟩)) (by omega)) (p := ⟨W.heap.size, 4, none⟩) (fun k hk => hk.1.2.1) (.slice A' ns.length c'))
  have hs5 : w3.heap.size ≤ (w4.setCell ⟨W.heap.size, 4, none⟩ (.slice A' ns.length c')).heap.size := by rw [World.size_setCell]; exact HB4.out.size
  clear HN HKa4 HKb4 HKa3 HKb3 HR3 HF3 HC2 hy4 hf4
  generalize w4.setCell ⟨W.heap.size, 4, none⟩ (.slice A' ns.length c') = w5 at *
  have hz4 : w5.cell? ⟨W.heap.size, 4, none⟩ = some (.slice A' ns.length c') := (blk_cell HKa5.out 4).trans rfl
  go_wp2
  clear hz4
  go_loopw [19] (fun v19 wr => ∃ (p : Int) (i : Nat), v19 = .int .i64 p ∧ Aside0 (p = (i : Int)) ∧ i ≤ ns.length ∧ Aside0 (Kd.N k43 43 wr W.heap.size (fun k => ((okF k ∨ W.heap.size ≤ k) ∧ k ≠ W.heap.size ∧ k ≠ W.heap.size + 1) ∧ some k ≠ (Value.slice B' st.length cb').ownBlock) (.slice A' ns.length c') ns) ∧ Aside0 (Kd.R k53 53 wr W.heap.size (fun _ => True) (.slice B' st.length cb') st) ∧ Aside0 (wr.heap[W.heap.size]? = some (.cells #[.int .i64 i0, .int .i64 i1, .int .i64 i2, .string nm, .slice A' ns.length c', .slice B' st.length cb'] 33 (0, 0))) ∧ Aside0 (wr.heap[W.heap.size + 1]? = some (.cells runZ 33 (0, 0))) ∧ Aside0 (Below W.heap.size W wr) ∧ Aside0 (w5.heap.size ≤ wr.heap.size)) (fun v19 _ => ns.length - (intOf v19).toNat)
  case atStart => exact ⟨_, 0, rfl, Aside0.mk rfl, by omega, HN5, HR5, HKa5, HKb5, HB5, Aside0.mk (Nat.le_refl _)⟩
  case round =>
    clear HN5 HR5 HKa5 HKb5 HB5
    obtain ⟨p, i, rfl, HP, hi, HN, HR, HKa, HKb, HB, HSZ⟩ := hrel
    by_cases hin : i < ns.length
    · have hlt : decide (p < (ns.length : Int)) = true := decide_eq_true (by rw [HP.out]; omega)
      have hp0 : 0 ≤ p := by rw [HP.out]; omega
      have hp1 : p < (ns.length : Int) := by rw [HP.out]; omega
      have HW : Aside0 (p + 1 = ((i + 1 : Nat) : Int)) := Aside0.mk (by rw [HP.out]; omega)
      obtain ⟨g, cap, he, hg1, hg2, hgc⟩ := Kd.N_form HN.out (by omega)
      injection he with ha hl_ hcc
      clear hl_
      subst ha; subst hcc
      obtain ⟨cs, hcl, hK, hcc, hfr⟩ := Kd.N_elem HN.out z43 p hp0 hp1
      obtain ⟨A1, c1, rfl, hl1, hC1⟩ := k43_open (Kd.FK_now hK)
      have hx12 : (ns.getD p.toNat z43).f1.length ≤ 12 := HD12.out _ (by rw [HP.out, List.getD_eq_getElem?_getD, Int.toNat_natCast, List.getElem?_eq_getElem hin]; exact List.getElem_mem hin)
      have HSET : Aside0 (ns.set p.toNat (ns.getD p.toNat z43) = ns) := Aside0.mk (by rw [HP.out, Int.toNat_natCast, List.getD_eq_getElem?_getD, List.getElem?_eq_getElem hin]; exact List.set_getElem_self hin)
      have hx0 : wr.cell? ⟨g, p.toNat * 6, none⟩ = some (.string (ns.getD p.toNat z43).f0) := hcc 0 _ rfl
      have hx1 : wr.cell? ⟨g, p.toNat * 6 + 1, none⟩ = some (.slice A1 (ns.getD p.toNat z43).f1.length c1) := hcc 1 _ rfl
      have hx2 : wr.cell? ⟨g, p.toNat * 6 + 2, none⟩ = some (.int .i64 (ns.getD p.toNat z43).f2) := hcc 2 _ rfl
      have hx3 : wr.cell? ⟨g, p.toNat * 6 + 3, none⟩ = some (.int .i64 (ns.getD p.toNat z43).f3) := hcc 3 _ rfl
      have hx4 : wr.cell? ⟨g, p.toNat * 6 + 4, none⟩ = some (.int .i64 (ns.getD p.toNat z43).f4) := hcc 4 _ rfl
      have hx5 : wr.cell? ⟨g, p.toNat * 6 + 5, none⟩ = some (.string (ns.getD p.toNat z43).f5) := hcc 5 _ rfl
      have HCC := Aside0.mk hcc
      have HFR := Aside0.mk hfr
      have HL1 := Aside0.mk hl1
      clear hcc hfr hcl hK hl1
      generalize ns.getD p.toNat z43 = X at *
      obtain ⟨f0, f1, f2, f3, f4, f5⟩ := X
      simp only at hx0 hx1 hx2 hx3 hx4 hx5 hC1 hx12
      have hb2 := below_alloc (Below.refl wr.heap.size wr) (.cells #[.string f0, .slice A1 f1.length c1, .int .i64 f2, .int .i64 f3, .int .i64 f4, .string f5] 43)
      have hbk2 := blk_new wr (.cells #[.string f0, .slice A1 f1.length c1, .int .i64 f2, .int .i64 f3, .int .i64 f4, .string f5] 43)
      have hs6 : (wr.alloc (.cells #[.string f0, .slice A1 f1.length c1, .int .i64 f2, .int .i64 f3, .int .i64 f4, .string f5] 43)).heap.size = wr.heap.size + 1 := by simp
      go_upto_region 6 with (fail)
      clear hx0 hx1 hx2 hx3 hx4 hx5
      have HB6 := Aside0.mk (show Below wr.heap.size wr (wr.alloc (.cells #[.string f0, .slice A1 f1.length c1, .int .i64 f2, .int .i64 f3, .int .i64 f4, .string f5] 43)).drew from hb2.drew)
      have HX6 : Aside0 ((wr.alloc (.cells #[.string f0, .slice A1 f1.length c1, .int .i64 f2, .int .i64 f3, .int .i64 f4, .string f5] 43)).drew.heap[wr.heap.size]? = some (.cells #[.string f0, .slice A1 f1.length c1, .int .i64 f2, .int .i64 f3, .int .i64 f4, .string f5] 43 (0, 0))) := Aside0.mk hbk2
      have hs7 : (wr.alloc (.cells #[.string f0, .slice A1 f1.length c1, .int .i64 f2, .int .i64 f3, .int .i64 f4, .string f5] 43)).drew.heap.size = wr.heap.size + 1 := hs6
      have K0 : (wr.alloc (.cells #[.string f0, .slice A1 f1.length c1, .int .i64 f2, .int .i64 f3, .int .i64 f4, .string f5] 43)).drew.cell? ⟨W.heap.size, 4, none⟩ = some (.slice (some ⟨g, 0, none⟩) ns.length c') ∧ (wr.alloc (.cells #[.string f0, .slice A1 f1.length c1, .int .i64 f2, .int .i64 f3, .int .i64 f4, .string f5] 43)).drew.cell? ⟨wr.heap.size, 1, none⟩ = some (.slice A1 f1.length c1) := ⟨(blk_cell (blk_below HKa.out HB6.out) 4).trans rfl, (blk_cell HX6.out 1).trans rfl⟩
      refine wp_region_held_drew (S := fun w => w.cell? ⟨W.heap.size, 4, none⟩ = some (.slice (some ⟨g, 0, none⟩) ns.length c') ∧ w.cell? ⟨wr.heap.size, 1, none⟩ = some (.slice A1 f1.length c1)) (by kernel_rfl) K0 (fun hHeld => ?_)
      have HCC1 := Aside0.mk (Kd.C_below hC1 HB6.out)
      clear K0 hb2 hbk2 hs6 hC1
      generalize (wr.alloc (.cells #[.string f0, .slice A1 f1.length c1, .int .i64 f2, .int .i64 f3, .int .i64 f4, .string f5] 43)).drew = wd at *
      have HC5 := Aside0.mk (clone34_calls A1 c1 f1 wd HCC1.out (by omega))
      refine wpAnyH_take (i := 0) (oi := { dst := some 24, op := Op.fieldAddr 33 (Operand.tmp 1) 2, type := 0, pos := "run.go:49", after := #[], guard := none }) (v := ?v0) rfl (by kernel_rfl) (by kernel_rfl) (by kernel_rfl) (fun _ _ _ h => h) (Or.inl ⟨by rfl, ?y0⟩) (by assumption) ?_
      case y0 => (intro w hSw; (try dsimp only at hSw); go_simp; try with_reducible rfl)
      (try simp only [Act.put, List.setIfInBounds_toArray, List.set_cons_zero, List.set_cons_succ])
      refine wpAnyH_take (i := 1) (oi := { dst := some 25, op := Op.fieldAddr 27 (Operand.tmp 24) 1, type := 0, pos := "run.go:49", after := #[{ on := 0, ground := Ground.data }], guard := none }) (v := ?v1) rfl (by kernel_rfl) (by kernel_rfl) (by kernel_rfl) (fun _ _ _ h => h) (Or.inl ⟨by rfl, ?y1⟩) (by assumption) ?_
      case y1 => (intro w hSw; (try dsimp only at hSw); go_simp; try with_reducible rfl)
      (try simp only [Act.put, List.setIfInBounds_toArray, List.set_cons_zero, List.set_cons_succ])
      refine wpAnyH_take (i := 2) (oi := { dst := some 26, op := Op.load 25 (Operand.tmp 25), type := 25, pos := "run.go:49", after := #[{ on := 1, ground := Ground.data }], guard := none }) (v := ?v2) rfl (by kernel_rfl) (by kernel_rfl) (by kernel_rfl) (fun _ _ _ h => h) (Or.inl ⟨by rfl, ?y2⟩) (by assumption) ?_
      case y2 => (intro w hSw; (try dsimp only at hSw); go_simp; try with_reducible rfl)
      (try simp only [Act.put, List.setIfInBounds_toArray, List.set_cons_zero, List.set_cons_succ])
      refine wpAnyH_take (i := 3) (oi := { dst := some 27, op := Op.move (Operand.tmp 3), type := 3, pos := "run.go:49", after := #[], guard := none }) (v := ?v3) rfl (by kernel_rfl) (by kernel_rfl) (by kernel_rfl) (fun _ _ _ h => h) (Or.inl ⟨by rfl, ?y3⟩) (by assumption) ?_
      case y3 => (intro w hSw; (try dsimp only at hSw); go_simp; try with_reducible rfl)
      (try simp only [Act.put, List.setIfInBounds_toArray, List.set_cons_zero, List.set_cons_succ])
      refine wpAnyH_take (i := 4) (oi := { dst := some 28, op := Op.fieldAddr 43 (Operand.tmp 4) 1, type := 0, pos := "run.go:49", after := #[], guard := none }) (v := ?v4) rfl (by kernel_rfl) (by kernel_rfl) (by kernel_rfl) (fun _ _ _ h => h) (Or.inl ⟨by rfl, ?y4⟩) (by assumption) ?_
      case y4 => (intro w hSw; (try dsimp only at hSw); go_simp; try with_reducible rfl)
      (try simp only [Act.put, List.setIfInBounds_toArray, List.set_cons_zero, List.set_cons_succ])
      refine wpAnyH_take (i := 5) (oi := { dst := some 29, op := Op.load 41 (Operand.tmp 28), type := 41, pos := "run.go:49", after := #[{ on := 4, ground := Ground.data }], guard := none }) (v := ?v5) rfl (by kernel_rfl) (by kernel_rfl) (by kernel_rfl) (fun _ _ _ h => h) (Or.inl ⟨by rfl, ?y5⟩) (by assumption) ?_
      case y5 => (intro w hSw; (try dsimp only at hSw); go_simp; try with_reducible rfl)
      (try simp only [Act.put, List.setIfInBounds_toArray, List.set_cons_zero, List.set_cons_succ])
      refine wpAnyH_ready (rs := [6]) (by kernel_rfl) (by simp) ?_
      refine AllReadyH.cons (o := { dst := some 30, op := Op.call { callee := Callee.value (Operand.func 34), args := #[Operand.tmp 29], argTypes := #[41] }, type := 41, pos := "run.go:49", after := #[{ on := 5, ground := Ground.data }], guard := none }) rfl (fun K hK => ?_) AllReadyH.nil
      (first | (go_at_call 34; go_loud (refine HC5.out.mono ?_; rintro e w7 ⟨A5, c5, rfl, hq5, hb5⟩)) | (go_simp; (go_at_call 34; go_loud (refine HC5.out.mono ?_; rintro e w7 ⟨A5, c5, rfl, hq5, hb5⟩))))
      have HR7 := Aside0.mk hq5
      have HB7 := Aside0.mk hb5
      have K7 : w7.cell? ⟨W.heap.size, 4, none⟩ = some (.slice (some ⟨g, 0, none⟩) ns.length c') ∧ w7.cell? ⟨wr.heap.size, 1, none⟩ = some (.slice A1 f1.length c1) := ⟨(blk_cell (blk_below (blk_below HKa.out HB6.out) hb5) 4).trans rfl, (blk_cell (blk_below HX6.out hb5) 1).trans rfl⟩
      clear hq5 hb5
      refine hK.out _ _ K7 (fun hHeld2 => ?_)
      clear hK K hHeld
      have hHeld := hHeld2
      clear hHeld2
      (try simp only [Act.put, List.setIfInBounds_toArray, List.set_cons_zero, List.set_cons_succ])
      refine wpAnyH_ready (rs := [7]) (by kernel_rfl) (by simp) ?_
      refine AllReadyH.cons (o := { dst := some 31, op := Op.indexAddr 25 (Operand.tmp 26) (Operand.tmp 27), type := 0, pos := "run.go:49", after := #[{ on := 2, ground := Ground.data }, { on := 3, ground := Ground.data }, { on := 0, ground := Ground.phase }, { on := 1, ground := Ground.phase }, { on := 2, ground := Ground.phase }, { on := 3, ground := Ground.phase }, { on := 4, ground := Ground.phase }, { on := 5, ground := Ground.phase }, { on := 6, ground := Ground.phase }], guard := none }) rfl (fun K hK => ?_) AllReadyH.nil
      go_simp
      refine hK.out _ _ hHeld (fun hHeld2 => ?_)
      clear hK K hHeld
      have hHeld := hHeld2
      clear hHeld2
      (try simp only [Act.put, List.setIfInBounds_toArray, List.set_cons_zero, List.set_cons_succ])
      refine wpAnyH_ready (rs := [8]) (by kernel_rfl) (by simp) ?_
      refine AllReadyH.cons (o := { dst := some 32, op := Op.fieldAddr 43 (Operand.tmp 31) 1, type := 0, pos := "run.go:49", after := #[{ on := 7, ground := Ground.data }, { on := 0, ground := Ground.phase }, { on := 1, ground := Ground.phase }, { on := 2, ground := Ground.phase }, { on := 3, ground := Ground.phase }, { on := 4, ground := Ground.phase }, { on := 5, ground := Ground.phase }, { on := 6, ground := Ground.phase }], guard := none }) rfl (fun K hK => ?_) AllReadyH.nil
      go_simp
      refine hK.out _ _ hHeld (fun hHeld2 => ?_)
      clear hK K hHeld
      have hHeld := hHeld2
      clear hHeld2
      (try simp only [Act.put, List.setIfInBounds_toArray, List.set_cons_zero, List.set_cons_succ])
      refine wpAnyH_ready (rs := [9]) (by kernel_rfl) (by simp) ?_
      refine AllReadyH.cons (o := { dst := none, op := Op.store 41 (Operand.tmp 32) (Operand.tmp 30), type := 0, pos := "run.go:49", after := #[{ on := 8, ground := Ground.data }, { on := 6, ground := Ground.data }, { on := 6, ground := Ground.chain }, { on := 0, ground := Ground.phase }, { on := 1, ground := Ground.phase }, { on := 2, ground := Ground.phase }, { on := 3, ground := Ground.phase }, { on := 4, ground := Ground.phase }, { on := 5, ground := Ground.phase }, { on := 6, ground := Ground.phase }], guard := none }) rfl (fun K hK => ?_) AllReadyH.nil
      have HN7 := Aside0.mk (Kd.N_below (Kd.N_below HN.out HB6.out) HB7.out)
      obtain ⟨cs7, hcl7, hK7, hcc7, hfr7⟩ := Kd.N_elem HN7.out z43 p hp0 hp1
      have hc7 : w7.cell? ⟨g, p.toNat * 6 + 1, none⟩ = some (.slice A1 f1.length c1) := pw_cell_below HB7.out (pw_cell_below HB6.out (HCC.out 1 _ rfl))
      have hf7 : w7.frozen? ⟨g, p.toNat * 6 + 1, none⟩ = false := hfr7 1
      refine store_step (w1 := w7.setCell ⟨g, p.toNat * 6 + 1, none⟩ (.slice A5 f1.length c5)) rfl rfl (by first | (go_simp; done) | (go_simp; rfl)) ?_
      have hFS := Kd.R_F (Kd.R_mono (Kd.R_bound HR7.out) (ok' := fun k => wd.heap.size ≤ k) (fun k hk => hk.2.1))
      have hcr := Kd.R_reads' HR7.out
      have hBB := Kd.R_lt HR.out
      have hseg := Kd.N_seg HN7.out p hp0 hp1 (c := [.string f0, .slice A1 f1.length c1, .int .i64 f2, .int .i64 f3, .int .i64 f4, .string f5]) (seg := [.slice A5 f1.length c5]) (j := 1) (okp := fun k => wd.heap.size ≤ k) rfl
        (fun j u hu => pw_cell_below HB7.out (pw_cell_below HB6.out (HCC.out j u hu))) (by show 1 + 1 ≤ 6; omega) (x' := ⟨f0, f1, f2, f3, f4, f5⟩) (FK43_dep hcr.2.1 hFS)
        (fun k hk => by
          have h1 := HSZ.out
          have h2 := HB.out.size
          refine ⟨⟨⟨.inr (by omega), by omega, by omega⟩, fun he => ?_⟩, by omega⟩
          have := hBB k he.symm
          omega)
      have hN8 := hseg.1
      rw [HSET.out] at hN8
      obtain ⟨gcs, hgc0⟩ := hgc
      have hg7 := blk_below (blk_below hgc0 HB6.out) HB7.out
      have HN8 : Aside0 (Kd.N k43 43 (w7.setCell ⟨g, p.toNat * 6 + 1, none⟩ (.slice A5 f1.length c5)) W.heap.size (fun k => ((okF k ∨ W.heap.size ≤ k) ∧ k ≠ W.heap.size ∧ k ≠ W.heap.size + 1) ∧ some k ≠ (Value.slice B' st.length cb').ownBlock) (.slice (some ⟨g, 0, none⟩) ns.length c') ns) := Aside0.mk hN8
      have HR8 := Aside0.mk (Kd.R_set (Kd.R_below (Kd.R_below HR.out HB6.out) HB7.out) hg7 hE53_43 (p.toNat * 6 + 1) (.slice A5 f1.length c5))
      have hka7 := blk_below (blk_below HKa.out HB6.out) HB7.out
      have hkb7 := blk_below (blk_below HKb.out HB6.out) HB7.out
      have HKa8 := Aside0.mk (blk_far (p := ⟨g, p.toNat * 6 + 1, none⟩) hka7 (blk_ne hka7 hg7 (by decide)) (.slice A5 f1.length c5))
      have HKb8 := Aside0.mk (blk_far (p := ⟨g, p.toNat * 6 + 1, none⟩) hkb7 (blk_ne hkb7 hg7 (by decide)) (.slice A5 f1.length c5))
      have HB8 : Aside0 (Below W.heap.size W (w7.setCell ⟨g, p.toNat * 6 + 1, none⟩ (.slice A5 f1.length c5))) := Aside0.mk (below_set (below_step (below_step HB.out HB6.out) HB7.out) hg1)
      have HSZ8 : Aside0 (w5.heap.size ≤ (w7.setCell ⟨g, p.toNat * 6 + 1, none⟩ (.slice A5 f1.length c5)).heap.size) := Aside0.mk (by rw [World.size_setCell]; have h1 := HSZ.out; have h2 := HB6.out.size; have h3 := HB7.out.size; omega)
      have K8 : (w7.setCell ⟨g, p.toNat * 6 + 1, none⟩ (.slice A5 f1.length c5)).cell? ⟨W.heap.size, 4, none⟩ = some (.slice (some ⟨g, 0, none⟩) ns.length c') ∧ (w7.setCell ⟨g, p.toNat * 6 + 1, none⟩ (.slice A5 f1.length c5)).cell? ⟨wr.heap.size, 1, none⟩ = some (.slice A1 f1.length c1) := ⟨(blk_cell HKa8.out 4).trans rfl, (blk_cell (blk_far (p := ⟨g, p.toNat * 6 + 1, none⟩) (blk_below HX6.out HB7.out) (by show wr.heap.size ≠ g; omega) (.slice A5 f1.length c5)) 1).trans rfl⟩
      clear hFS hcr hBB hseg hN8 hg7 hgc0 hka7 hkb7 hc7 hf7 hcc7 hfr7 hK7 hcl7
      refine hK.out _ _ K8 (fun hHeld2 => ?_)
      clear hK K hHeld
      have hHeld := hHeld2
      clear hHeld2
      (try simp only [Act.put, List.setIfInBounds_toArray, List.set_cons_zero, List.set_cons_succ])
      refine wpAnyH_done (by kernel_rfl) ?_ _
      generalize w7.setCell ⟨g, p.toNat * 6 + 1, none⟩ (.slice A5 f1.length c5) = w8 at *
      clear hHeld K8 K7
      go_wp2
      go_roundw
      case rel => exact ⟨_, i + 1, rfl, HW, by omega, HN8, HR8, HKa8, HKb8, HB8, HSZ8⟩
      case measure => have := HW.out; have := HP.out; simp [intOf] at *; omega
    · have hlt : decide (p < (ns.length : Int)) = false := decide_eq_false (by rw [HP.out]; omega)
      have hz0 : wr.cell? ⟨W.heap.size, 0, none⟩ = some (.int .i64 i0) := (blk_cell HKa.out 0).trans rfl
      have hz1 : wr.cell? ⟨W.heap.size, 1, none⟩ = some (.int .i64 i1) := (blk_cell HKa.out 1).trans rfl
      have hz2 : wr.cell? ⟨W.heap.size, 2, none⟩ = some (.int .i64 i2) := (blk_cell HKa.out 2).trans rfl
      have hz3 : wr.cell? ⟨W.heap.size, 3, none⟩ = some (.string nm) := (blk_cell HKa.out 3).trans rfl
      have hz4 : wr.cell? ⟨W.heap.size, 4, none⟩ = some (.slice A' ns.length c') := (blk_cell HKa.out 4).trans rfl
      have hz5 : wr.cell? ⟨W.heap.size, 5, none⟩ = some (.slice B' st.length cb') := (blk_cell HKa.out 5).trans rfl
      have hy0 := blk_cell HKb.out 0
      have hy1 := blk_cell HKb.out 1
      have hy2 := blk_cell HKb.out 2
      have hy3 := blk_cell HKb.out 3
      have hy4 := blk_cell HKb.out 4
      have hy5 := blk_cell HKb.out 5
      have hf0 := blk_frozen HKb.out 0
      have hf1 := blk_frozen HKb.out 1
      have hf2 := blk_frozen HKb.out 2
      have hf3 := blk_frozen HKb.out 3
      have hf4 := blk_frozen HKb.out 4
      have hf5 := blk_frozen HKb.out 5
      go_wp2
      have HN9 := Kd.N_step HN.out (w1 := set6 wr (W.heap.size + 1) (.int .i64 i0) (.int .i64 i1) (.int .i64 i2) (.string nm) (.slice A' ns.length c') (.slice B' st.length cb')) (fun k hk _ => set6_other _ _ _ _ _ _ _ _ k hk.1.2.2)
      have HR9 := Kd.R_types HR.out HKb.out hE53_33
      have HR10 := Kd.R_step HR9 (w1 := set6 wr (W.heap.size + 1) (.int .i64 i0) (.int .i64 i1) (.int .i64 i2) (.string nm) (.slice A' ns.length c') (.slice B' st.length cb')) (fun k hk _ => set6_other _ _ _ _ _ _ _ _ k hk.2)
      refine bodyPost_ret (results_cell_row rfl _ _ (W.heap.size + 1) 33 #[.int .i64 i0, .int .i64 i1, .int .i64 i2, .string nm, .slice A' ns.length c', .slice B' st.length cb'] (0, 0) _ rfl (set6_blk HKb.out _ _ _ _ _ _) Try.underlying33 rfl (by kernel_rfl)) rfl ?_
      exact ⟨A', c', B', cb', rfl, Kd.N_mono HN9 (fun k hk => ⟨hk.1.1, hk.2⟩), Kd.R_mono HR10 (fun _ _ => trivial), set6_below HB.out (by omega) _ _ _ _ _ _⟩
end Go.Proofs.Ytiipbibbppgbgaa.T
namespace Go.Proofs.Ytiipbibbppgbgaa.T
open Go.RowKit Go.Proofs.Ytiipbibbppgbgaa.PTopFates Go.Proofs.YtiipbibbppgbgaaW.PrintWords Go.Proofs.YtiipbibbppgbgaaW.PrintLast Go.Proofs.YtiipbibbppgbgaaW.PrintMore
set_option linter.unusedVariables false
set_option linter.unusedSimpArgs false

theorem mul_f (n : Nat) (h : n < 13) : bits_Mul.f 1 (n : Int) = some (0, (n : Int)) := by
  have : ∀ n : Nat, n < 13 → bits_Mul.f 1 (n : Int) = some (0, (n : Int)) := by decide +kernel
  exact this n h
theorem setCell_same {w : World} {g o : Nat} {v : Value} (h : w.cell? ⟨g, o, none⟩ = some v) : w.setCell ⟨g, o, none⟩ v = w := by
  unfold World.cell? at h
  split at h
  · rename_i c t fr hb
    simp at h
    rw [setCell_eq_setRow w g o c t fr v hb, show c.setIfInBounds o v = c from ?_, setRow_self w g c t fr hb]
    obtain ⟨h1, h2⟩ := Array.getElem?_eq_some_iff.1 h
    apply Array.ext (by simp)
    intro i h3 h4
    rw [Array.getElem_setIfInBounds]
    split
    · rename_i he; subst he; exact h2.symm
    · rfl
  · cases h
theorem setCells_same_val (g : Nat) : ∀ (vs : List Value) (o : Nat) (w : World), (∀ j (hj : j < vs.length), w.cell? ⟨g, o + j, none⟩ = some vs[j]) → w.setCells g o vs = w
  | [], _, _, _ => rfl
  | v :: r, o, w, h => by
    have h0 : w.cell? ⟨g, o, none⟩ = some v := h 0 (by simp)
    rw [World.setCells, setCell_same h0]
    exact setCells_same_val g r (o + 1) w (fun j hj => by have := h (j + 1) (by simp; omega); rw [show o + 1 + j = o + (j + 1) by omega]; simpa using this)
theorem zeros53 {w : World} {X : Option Addr} {n : Nat} {xs : List S53} (h : Kd.C k53 w X n xs) (hz : ∀ i, i < n → xs.getD i z53 = z53) (j : Nat) (hj : j < n * 4) : ∃ ad, X = some ad ∧ w.cell? (ad.add j) = some (.int .i64 0) := by
  obtain ⟨ad, e, h0, h1, h2, h3⟩ := at_T53 h ((j / 4 : Nat) : Int) (by omega) (by omega)
  refine ⟨ad, e, ?_⟩
  have hr : rd_T53 xs ((j / 4 : Nat) : Int) = z53 := by unfold rd_T53; exact hz (j / 4) (by omega)
  rw [hr] at h0 h1 h2 h3
  rw [← add_field _ _ 1 (by omega)] at h1
  rw [← add_field _ _ 2 (by omega)] at h2
  rw [← add_field _ _ 3 (by omega)] at h3
  simp only [Int.toNat_natCast] at h0 h1 h2 h3
  have hm : j % 4 = 0 ∨ j % 4 = 1 ∨ j % 4 = 2 ∨ j % 4 = 3 := by omega
  rcases hm with hm | hm | hm | hm
  · rw [show j / 4 * 4 = j by omega] at h0; exact h0
  · rw [show j / 4 * 4 + 1 = j by omega] at h1; exact h1
  · rw [show j / 4 * 4 + 2 = j by omega] at h2; exact h2
  · rw [show j / 4 * 4 + 3 = j by omega] at h3; exact h3
/-- copy of zero states onto zero states. -/
theorem copy_zeros (w : World) (g o dLen dCap : Nat) (a : Addr) (sLen sCap : Nat) (ty : TypeId) (hd : ∀ j, j < min sLen dLen * 4 → w.cell? ⟨g, o + j, none⟩ = some (.int .i64 0)) (hf : ∀ j, j < min sLen dLen * 4 → w.frozen? ⟨g, o + j, none⟩ = false) (hs : ∀ j, j < min sLen dLen * 4 → w.cell? (a.add j) = some (.int .i64 0)) :
    (Builtin.copy_ #[31, 31] ty #[.slice (some ⟨g, o, none⟩) dLen dCap, .slice (some a) sLen sCap]).run Try.prog w = .ok (goInt ((min sLen dLen : Nat) : Int)) w := by
  have hl := run_loadCells_list (P := Try.prog) (w := w) a (List.replicate (min sLen dLen * 4) (.int .i64 0)) (fun j v hv => by
    have hj := (List.getElem?_eq_some_iff.1 hv).1
    rw [List.getElem?_eq_getElem hj, List.getElem_replicate] at hv
    rw [← Option.some.inj hv]
    rw [List.length_replicate] at hj
    exact hs j hj)
  have hst := run_storeCells_cells (P := Try.prog) g o (List.replicate (min sLen dLen * 4) (.int .i64 0)) 0 w (fun j hj => by rw [List.length_replicate] at hj; rw [Nat.add_zero, hd j hj]; rfl) (fun j hj => by rw [List.length_replicate] at hj; exact hf j hj) (fun v hv => by rw [(List.mem_replicate.1 hv).2]; rfl)
  rw [setCells_same_val g _ _ w (fun j hj => by rw [List.length_replicate] at hj; rw [List.getElem_replicate, Nat.add_zero]; exact hd j hj)] at hst
  rw [List.length_replicate] at hl
  cases hq : Try.prog.info? 53 with
  | none => have := info53; rw [hq] at this; cases this
  | some i =>
    have hi : i.size = 4 := by have := info53; rw [hq] at this; simp at this; exact this.2.1
    have hmn : Nat.min sLen dLen = min sLen dLen := rfl
    simp [Builtin.copy_, run_underlying Try.underlying31, Builtin.lenOf, Builtin.firstCells, sizeOf, typeInfo, hq, hi, hmn, hl, hst]
theorem zrow {w : World} {base g n cap : Nat} {ok : Nat → Prop} (h : Kd.R k53 53 w base ok (.slice (some ⟨g, 0, none⟩) n cap) (List.replicate n z53)) (hn : 1 ≤ n) :
    (∀ j, j < n * 4 → w.cell? ⟨g, j, none⟩ = some (.int .i64 0)) ∧ ∀ j, w.frozen? ⟨g, j, none⟩ = false := by
  refine ⟨fun j hj => ?_, fun j => ?_⟩
  · have h2 := (Kd.R_reads' h).2.2
    rw [List.length_replicate] at h2
    obtain ⟨ad, e, hc⟩ := zeros53 h2 (fun i hi => by rw [List.getD_eq_getElem?_getD, List.getElem?_replicate]; simp [hi]) j hj
    cases e
    have hadd : (⟨g, 0, none⟩ : Addr).add j = ⟨g, j, none⟩ := by unfold Addr.add; split <;> simp_all
    rw [hadd] at hc
    exact hc
  · obtain ⟨c, _, _, _, hf⟩ := Kd.R_elem h z53 0 (by omega) (by omega)
    have := hf j
    rwa [show (0 : Int).toNat * k53.sz + j = j by simp] at this
theorem copy_hrun {P : Program} {a : Act} {o : Oper} {W : World} (s x : Operand) (ho : o.op = .call { callee := .builtin .copy, args := #[s, x], argTypes := #[31, 31] }) {v vx r : Value} (hs : a.eval s = v) (hx : a.eval x = vx)
    (hr : (Builtin.copy_ #[31, 31] o.type #[v, vx]).run P W = .ok r W) : (execOp a.eval o).run P W = .ok (.value r) W := by
  unfold execOp
  simp only [ho, resolve, invoke, builtin, Sem.run_bind, Sem.run_pure, Result.andThen_ok, List.map_toArray, List.map_cons, List.map_nil, hs, hx, hr]
set_option maxHeartbeats 4000000 in
set_option maxRecDepth 100000 in
theorem repeat_calls (X : Option Addr) (cx n : Nat) (W : World) (hX : Kd.C k53 W X 1 [z53]) (h1 : 1 ≤ n) (h2 : n ≤ 12) :
    Calls Try.prog 15 #[.slice X 1 cx, .int .i64 (n : Int)] W fun e W' => ∃ A' c', e = .returned (.slice A' n c') ∧ Kd.R k53 53 W' W.heap.size (fun _ => True) (.slice A' n c') (List.replicate n z53) ∧ Below W.heap.size W W' := by
  have HX := Aside0.mk hX
  clear hX
  have hc1 : decide ((n : Int) < 0) = false := decide_eq_false (by omega)
  have hu1 : IntKind.u64.wrap (n : Int) = (n : Int) := by rw [IntKind.wrap_u64]; omega
  have hu2 : IntKind.u64.wrap 1 = 1 := by decide
  have hi1 : wrap64 (n : Int) = (n : Int) := by unfold wrap64; omega
  have hc2 : decide ((n : Int) > 9223372036854775807) = false := decide_eq_false (by omega)
  have hc3 : decide (9223372036854775807 < (n : Int)) = false := decide_eq_false (by omega)
  have HM := Aside0.mk (mul_f n (by omega))
  have HCM := Aside0.mk (fun (w : World) => bits_Mul.calls 1 (n : Int) 0 (n : Int) w HM.out)
  clear HM
  have HB := Aside0.mk (Below.refl W.heap.size W)
  go_enter Try.func15, Try.ntmps15
  go_upto_region 6 with (first | (go_at_call 35; go_loud (refine (HCM.out _).mono ?_; rintro e w1 ⟨rfl, hd⟩; have HB1 := Aside0.mk (below_of_drawn hd); clear hd)))
  go_upto_region 7 with (first | ((with_reducible refine gate_dst (N := 30) rfl ?_); go_loud (refine Kd.R_make k53 (w0 := W) W.heap.size 53 rfl rfl 31 (.tmp 29) (.tmp 29) rfl (n : Int) (by first | (go_simp; done) | (go_simp; rfl)) (by first | (go_simp; done) | (go_simp; rfl)) Try.underlying31 (.agg #[.int .i64 0, .int .i64 0, .int .i64 0, .int .i64 0]) 32 info53 rfl (by decide) (by decide) z53 (ok := fun _ => True) (okp := fun _ => True) (k53_mkM _ _ _ z53) (fun _ h => h) trivial (by omega) (by omega) HB1.out HB1.out.size ?_; intro v2 w2 hr hb hg hat; have HR := Aside0.mk hr; have HB2 := Aside0.mk hb; clear hr hb hg hat)))
  rw [Int.toNat_natCast] at HR
  have hv2 := Kd.R_form HR.out (by rw [List.length_replicate]; omega)
  obtain ⟨g, cap, rfl, hg1, hg2, hgc⟩ := hv2
  rw [List.length_replicate] at HR ⊢
  obtain ⟨hz, hf⟩ := zrow HR.out h1
  obtain ⟨adx, ex, _⟩ := zeros53 HX.out (fun i hi => by rw [show i = 0 by omega]; rfl) 0 (by omega)
  subst ex
  have hzx : ∀ j, j < 4 → w2.cell? (adx.add j) = some (.int .i64 0) := fun j hj => by
    obtain ⟨ad, e, h⟩ := zeros53 HX.out (fun i hi => by rw [show i = 0 by omega]; rfl) j (by omega)
    cases e
    exact pw_cell_below HB2.out h
  have hmin : min 1 n = 1 := by omega
  have HCP : Aside0 ((Builtin.copy_ #[31, 31] 3 #[.slice (some ⟨g, 0, none⟩) n cap, .slice (some adx) 1 cx]).run Try.prog w2 = .ok (.int .i64 1) w2) := Aside0.mk (by
    have := copy_zeros w2 g 0 n cap adx 1 cx 3 (fun j hj => by rw [Nat.zero_add]; exact hz j (by omega)) (fun j _ => by rw [Nat.zero_add]; exact hf j) (fun j hj => hzx j (by omega))
    rw [hmin] at this
    exact this)
  clear hz hf hzx hmin
  go_upto_region 8 with (first | ((with_reducible refine gate_dst (N := 33) rfl ?_); go_loud (refine Kd.event_run rfl (copy_hrun (.tmp 31) (.tmp 32) rfl rfl rfl HCP.out) ?_)))
  have HINF := Aside0.mk info53
  go_loopw [8] (fun v8 wr => ∃ (p : Int) (i : Nat), v8 = .int .i64 p ∧ Aside0 (p = (i : Int)) ∧ Aside0 (1 ≤ i ∧ i ≤ n) ∧ Aside0 (Kd.R k53 53 wr W.heap.size (fun _ => True) (.slice (some ⟨g, 0, none⟩) n cap) (List.replicate n z53)) ∧ Aside0 (Below W.heap.size W wr)) (fun v8 _ => n - (intOf v8).toNat)
  case atStart => exact ⟨1, 1, rfl, Aside0.mk rfl, Aside0.mk ⟨Nat.le_refl _, h1⟩, HR, HB2⟩
  case round =>
    clear HR HB2 HCP hgc hg2
    obtain ⟨p, i, rfl, HP, HI, HR, HB2⟩ := hrel
    by_cases hin : i < n
    · have hlt : decide (p < (n : Int)) = true := decide_eq_true (by rw [HP.out]; omega)
      obtain ⟨hz, hf⟩ := zrow (Kd.R_drew HR.out) h1
      have hpi : p.toNat = i := by rw [HP.out]; rfl
      have hnc := (Kd.R_reads' HR.out).2.1
      obtain ⟨ti, hti, hsz⟩ : ∃ ti : TypeInfo, Try.prog.info? 53 = some ti ∧ ti.size = 4 := by
        cases hq : Try.prog.info? 53 with
        | none => have := info53; rw [hq] at this; cases this
        | some ti => exact ⟨ti, rfl, by have := info53; rw [hq] at this; simp at this; exact this.2.1⟩
      have hcf := cut_from (P := Try.prog) 31 53 .i64 Try.underlying31 hti 4 hsz (some ⟨g, 0, none⟩) n cap p (by rw [HP.out]; omega) (by rw [HP.out]; omega)
      have hct := cut_to (P := Try.prog) 31 53 .i64 Try.underlying31 hti (some ⟨g, 0, none⟩) n cap p (by rw [HP.out]; omega) (by rw [HP.out]; omega) hnc
      have hadd : (⟨g, 0, none⟩ : Addr).add (i * 4) = ⟨g, i * 4, none⟩ := by unfold Addr.add; split <;> simp_all
      rw [hpi, if_neg (by omega), Option.map_some, hadd] at hcf
      rw [hpi] at hct
      obtain ⟨m, hm⟩ : ∃ m, m = min i (n - i) := ⟨_, rfl⟩
      have hadd0 : ∀ j, (⟨g, 0, none⟩ : Addr).add j = ⟨g, j, none⟩ := fun j => by unfold Addr.add; split <;> simp_all
      have hcp := copy_zeros wr.drew g (i * 4) (n - i) (cap - i) ⟨g, 0, none⟩ i cap 3 (fun j hj => hz _ (by omega)) (fun j hj => hf _) (fun j hj => by rw [hadd0]; exact hz j (by omega))
      rw [← hm] at hcp
      have HCP : Aside0 ((Builtin.copy_ #[31, 31] 3 #[.slice (some ⟨g, i * 4, none⟩) (n - i) (cap - i), .slice (some ⟨g, 0, none⟩) i cap]).run Try.prog wr.drew = .ok (.int .i64 (m : Int)) wr.drew) := Aside0.mk hcp
      obtain ⟨P2, hP2⟩ : ∃ P2 : Int, P2 = ((i + m : Nat) : Int) := ⟨_, rfl⟩
      have hwr : IntKind.i64.wrap (p + (m : Int)) = P2 := by rw [HP.out, IntKind.wrap_i64, hP2]; have := HI.out; omega
      have HP2 := Aside0.mk hP2
      have HM := Aside0.mk (show 1 ≤ m ∧ i + m ≤ n by have := HI.out; omega)
      have HB3 : Aside0 (Below W.heap.size W wr.drew) := Aside0.mk (below_drew1 HB2.out)
      have HR3 := Aside0.mk (Kd.R_drew HR.out)
      clear hz hf hpi hnc hadd hadd0 hcp hm hti hsz hin hP2
      go_upto_region 9 with (fail)
      refine wp_region_held_drew (S := fun w => w = wr.drew) (by kernel_rfl) rfl (fun hHeld => ?_)
      refine wpAnyH_take (i := 0) (oi := { dst := some 38, op := Op.move (Operand.tmp 8), type := 3, pos := "slices.go:528", after := #[], guard := none }) (v := ?v0) rfl (by kernel_rfl) (by kernel_rfl) (by kernel_rfl) (fun _ _ _ h => h) (Or.inl ⟨by rfl, ?y0⟩) (by assumption) ?_
      case y0 => (intro w hSw; (try dsimp only at hSw); go_simp; try with_reducible rfl)
      (try simp only [Act.put, List.setIfInBounds_toArray, List.set_cons_zero, List.set_cons_succ])
      refine wpAnyH_take (i := 1) (oi := { dst := some 39, op := Op.move (Operand.tmp 7), type := 31, pos := "slices.go:528", after := #[], guard := none }) (v := ?v1) rfl (by kernel_rfl) (by kernel_rfl) (by kernel_rfl) (fun _ _ _ h => h) (Or.inl ⟨by rfl, ?y1⟩) (by assumption) ?_
      case y1 => (intro w hSw; (try dsimp only at hSw); go_simp; try with_reducible rfl)
      (try simp only [Act.put, List.setIfInBounds_toArray, List.set_cons_zero, List.set_cons_succ])
      refine wpAnyH_take (i := 2) (oi := { dst := some 40, op := Op.move (Operand.tmp 8), type := 3, pos := "slices.go:528", after := #[], guard := none }) (v := ?v2) rfl (by kernel_rfl) (by kernel_rfl) (by kernel_rfl) (fun _ _ _ h => h) (Or.inl ⟨by rfl, ?y2⟩) (by assumption) ?_
      case y2 => (intro w hSw; (try dsimp only at hSw); go_simp; try with_reducible rfl)
      (try simp only [Act.put, List.setIfInBounds_toArray, List.set_cons_zero, List.set_cons_succ])
      refine wpAnyH_take (i := 3) (oi := { dst := some 41, op := Op.slice 31 (Operand.tmp 39) (some (Operand.tmp 40)) none none, type := 31, pos := "slices.go:528", after := #[{ on := 1, ground := Ground.data }, { on := 2, ground := Ground.data }], guard := none }) (v := ?v3) rfl (by kernel_rfl) (by kernel_rfl) (by kernel_rfl) (fun _ _ _ h => h) (Or.inl ⟨by rfl, ?y3⟩) (by assumption) ?_
      case y3 => (intro w hSw; (try dsimp only at hSw); go_simp; try with_reducible rfl)
      (try simp only [Act.put, List.setIfInBounds_toArray, List.set_cons_zero, List.set_cons_succ])
      refine wpAnyH_take (i := 4) (oi := { dst := some 42, op := Op.move (Operand.tmp 7), type := 31, pos := "slices.go:528", after := #[], guard := none }) (v := ?v4) rfl (by kernel_rfl) (by kernel_rfl) (by kernel_rfl) (fun _ _ _ h => h) (Or.inl ⟨by rfl, ?y4⟩) (by assumption) ?_
      case y4 => (intro w hSw; (try dsimp only at hSw); go_simp; try with_reducible rfl)
      (try simp only [Act.put, List.setIfInBounds_toArray, List.set_cons_zero, List.set_cons_succ])
      refine wpAnyH_take (i := 5) (oi := { dst := some 43, op := Op.move (Operand.tmp 8), type := 3, pos := "slices.go:528", after := #[], guard := none }) (v := ?v5) rfl (by kernel_rfl) (by kernel_rfl) (by kernel_rfl) (fun _ _ _ h => h) (Or.inl ⟨by rfl, ?y5⟩) (by assumption) ?_
      case y5 => (intro w hSw; (try dsimp only at hSw); go_simp; try with_reducible rfl)
      (try simp only [Act.put, List.setIfInBounds_toArray, List.set_cons_zero, List.set_cons_succ])
      refine wpAnyH_take (i := 6) (oi := { dst := some 44, op := Op.slice 31 (Operand.tmp 42) none (some (Operand.tmp 43)) none, type := 31, pos := "slices.go:528", after := #[{ on := 4, ground := Ground.data }, { on := 5, ground := Ground.data }], guard := none }) (v := ?v6) rfl (by kernel_rfl) (by kernel_rfl) (by kernel_rfl) (fun _ _ _ h => h) (Or.inl ⟨by rfl, ?y6⟩) (by assumption) ?_
      case y6 => (intro w hSw; (try dsimp only at hSw); go_simp; try with_reducible rfl)
      (try simp only [Act.put, List.setIfInBounds_toArray, List.set_cons_zero, List.set_cons_succ])
      refine wpAnyH_ready (rs := [7]) (by kernel_rfl) (by simp) ?_
      refine AllReadyH.cons (o := { dst := some 45, op := Op.call { callee := Callee.builtin Builtin.copy, args := #[Operand.tmp 41, Operand.tmp 44], argTypes := #[31, 31] }, type := 3, pos := "slices.go:528", after := #[{ on := 3, ground := Ground.data }, { on := 6, ground := Ground.data }], guard := none }) rfl (fun K hK => ?_) AllReadyH.nil
      refine event_step rfl (copy_hrun (.tmp 41) (.tmp 44) rfl rfl rfl HCP.out) ?_
      refine hK.out _ _ hHeld (fun hHeld2 => ?_)
      clear hK K hHeld
      have hHeld := hHeld2
      clear hHeld2
      (try simp only [Act.put, List.setIfInBounds_toArray, List.set_cons_zero, List.set_cons_succ])
      refine wpAnyH_ready (rs := [8]) (by kernel_rfl) (by simp) ?_
      refine AllReadyH.cons (o := { dst := some 46, op := Op.binOp BinOp.add 3 (Operand.tmp 38) (Operand.tmp 45) 3, type := 3, pos := "slices.go:528", after := #[{ on := 0, ground := Ground.data }, { on := 7, ground := Ground.data }], guard := none }) rfl (fun K hK => ?_) AllReadyH.nil
      go_simp
      refine hK.out _ _ hHeld (fun hHeld2 => ?_)
      clear hK K hHeld
      have hHeld := hHeld2
      clear hHeld2
      (try simp only [Act.put, List.setIfInBounds_toArray, List.set_cons_zero, List.set_cons_succ])
      refine wpAnyH_ready (rs := [9]) (by kernel_rfl) (by simp) ?_
      refine AllReadyH.cons (o := { dst := some 8, op := Op.assign (Operand.tmp 46), type := 3, pos := "slices.go:528", after := #[{ on := 8, ground := Ground.data }, { on := 7, ground := Ground.chain }, { on := 0, ground := Ground.phase }, { on := 1, ground := Ground.phase }, { on := 2, ground := Ground.phase }, { on := 3, ground := Ground.phase }, { on := 4, ground := Ground.phase }, { on := 5, ground := Ground.phase }, { on := 6, ground := Ground.phase }, { on := 7, ground := Ground.phase }, { on := 8, ground := Ground.phase }], guard := none }) rfl (fun K hK => ?_) AllReadyH.nil
      go_simp
      refine hK.out _ _ hHeld (fun hHeld2 => ?_)
      clear hK K hHeld
      have hHeld := hHeld2
      clear hHeld2
      (try simp only [Act.put, List.setIfInBounds_toArray, List.set_cons_zero, List.set_cons_succ])
      refine wpAnyH_done (by kernel_rfl) ?_ _
      clear hHeld
      generalize wr.drew = w3 at *
      (try simp only [hwr])
      go_wp2
      go_roundw
      case rel => exact ⟨_, i + m, rfl, HP2, Aside0.mk (by have := HM.out; omega), HR3, HB3⟩
      case measure => have := HP2.out; have := HP.out; have := HM.out; simp [intOf] at *; omega
    · have hlt : decide (p < (n : Int)) = false := decide_eq_false (by rw [HP.out]; omega)
      go_wp2
      go_ret
      exact ⟨_, _, rfl, HR.out, HB2.out⟩
end Go.Proofs.Ytiipbibbppgbgaa.T
namespace Go.Proofs.Ytiipbibbppgbgaa.T
open Go.RowKit Go.Proofs.Ytiipbibbppgbgaa.PTopFates Go.Proofs.YtiipbibbppgbgaaW.PrintWords Go.Proofs.YtiipbibbppgbgaaW.PrintLast Go.Proofs.YtiipbibbppgbgaaW.PrintMore
set_option linter.unusedVariables false
set_option linter.unusedSimpArgs false

/-- Are all of the first k that it waits for done? -/
def doneB (B : Nat) (st : List S53) (k : Nat) : Bool := (List.range k).all fun d => !B.testBit d || ((st.getD d z53).f0 == 4)
/-- Is one of the first k that it waits for lost? -/
def lostB (B : Nat) (st : List S53) (k : Nat) : Bool := (List.range k).any fun d => B.testBit d && ((st.getD d z53).f0 == 5 || (st.getD d z53).f0 == 6)
/-- The phase that a node comes to. -/
def nextP (lost done call : Bool) (p : Int) : Option Int := if p = 0 then (if lost then some 6 else if done then some (if call then 3 else 1) else none) else none
theorem until0 (l : Int) (h2 : 1 ≤ l) (h3 : l ≤ 50) : node_until.f 0 l = some l := by
  unfold node_until.f
  have : mx 0 l = l := by unfold mx; rw [if_pos (by omega)]
  rw [this, if_neg (by unfold wrap64; omega)]
  congr 1
  unfold wrap64; omega
theorem next_l (i0 i1 i2 : Int) (nm : ByteArray) (ns : List S43) (st : List S53) (i : Nat) (B : Nat) (p t l : Int) (hB : B < 2 ^ 32) (hm : st.length ≤ 12) (hin : i < ns.length) (his : i < st.length) (hst : st.getD i z53 = mkS p t l) (hl : (ns.getD i z43).f3 = l) (h2 : 1 ≤ l) (h3 : l ≤ 50) :
    ∀ (f k : Nat), k ≤ st.length → st.length - k < f → run_Run_next.l0 f (i : Int) (B : Int) 0 (doneB B st k) (lostB B st k) st (st.length : Int) (k : Int) i0 i1 i2 nm ns st =
      some (match nextP (lostB B st st.length) (doneB B st st.length) ((ns.getD i z43).f4 != -1) p with | some p' => (p', t, (mkS p' t l).f2, 0, true) | none => (0, 0, 0, 0, false)) := by
  intro f
  induction f with
  | zero => intro k _ h; omega
  | succ f ih =>
    intro k hk hf
    unfold run_Run_next.l0
    by_cases hkn : k < st.length
    · rw [if_pos (by omega), if_pos (by omega), if_pos (by omega), bit_val B k hB (by omega)]
      have hrd : rd_T53 st (k : Int) = st.getD k z53 := rfl
      rw [hrd, wrap_small (by omega)]
      have hD : doneB B st (k + 1) = (doneB B st k && (!B.testBit k || ((st.getD k z53).f0 == 4))) := by simp [doneB, List.range_succ, List.all_append]
      have hL : lostB B st (k + 1) = (lostB B st k || (B.testBit k && ((st.getD k z53).f0 == 5 || (st.getD k z53).f0 == 6))) := by simp [lostB, List.range_succ, List.any_append]
      have hih := ih (k + 1) (by omega) (by omega)
      rw [hD, hL] at hih
      rw [← hih]
      clear hih hD hL hrd ih
      generalize (st.getD k z53).f0 = q
      generalize doneB B st k = dd
      generalize lostB B st k = ll
      cases hb : B.testBit k
      · simp
      · cases dd <;> cases ll <;> by_cases h5 : q = 5 <;> first | (simp [h5]; done) | (simp [h5, beq_eq_false_iff_ne.mpr h5]; done)
    · have hke : k = st.length := by omega
      subst hke
      have hrs : rd_T53 st (i : Int) = mkS p t l := hst
      have hrn : rd_T43 ns (i : Int) = ns.getD i z43 := rfl
      rw [if_neg (by omega), if_pos (by omega), if_pos (by omega), hrs, hrn, hl]
      unfold nextP
      cases hlo : lostB B st st.length
      · cases hdo : doneB B st st.length
        · simp
        · rw [if_neg (by simp), if_pos rfl, if_pos (by omega)]
          unfold node_State_Wake.f node_State_from.f node_State_to.f
          rw [until0 l h2 h3]
          by_cases hp : p = 0
          · subst hp
            cases hc : ((ns.getD i z43).f4 != -1) <;> simp [mkS]
          · cases hc : ((ns.getD i z43).f4 != -1) <;> simp [mkS, hp]
      · rw [if_pos rfl, if_pos (by omega)]
        unfold node_State_Skip.f node_State_from.f node_State_to.f
        by_cases hp : p = 0
        · subst hp; simp [mkS]
        · simp [mkS, hp]
theorem next_f (i0 i1 i2 : Int) (nm : ByteArray) (ns : List S43) (st : List S53) (i : Nat) (B : Nat) (p t l : Int) (hB : B < 2 ^ 32) (hm : st.length ≤ 12) (hin : i < ns.length) (his : i < st.length) (hst : st.getD i z53 = mkS p t l) (hl : (ns.getD i z43).f3 = l) (h2 : 1 ≤ l) (h3 : l ≤ 50) :
    run_Run_next.f 20 i0 i1 i2 nm ns st (i : Int) (B : Int) 0 =
      some (match nextP (lostB B st st.length) (doneB B st st.length) ((ns.getD i z43).f4 != -1) p with | some p' => (p', t, (mkS p' t l).f2, 0, true) | none => (0, 0, 0, 0, false)) :=
  next_l i0 i1 i2 nm ns st i B p t l hB hm hin his hst hl h2 h3 20 0 (by omega) (by omega)
end Go.Proofs.Ytiipbibbppgbgaa.T
namespace Go.Proofs.Ytiipbibbppgbgaa.T
open Go.RowKit Go.Proofs.Ytiipbibbppgbgaa.PTopFates Go.Proofs.YtiipbibbppgbgaaW.PrintWords Go.Proofs.YtiipbibbppgbgaaW.PrintLast Go.Proofs.YtiipbibbppgbgaaW.PrintMore
set_option linter.unusedVariables false
set_option linter.unusedSimpArgs false

/-- The states: each node's phase and try. -/
def stL (ns : List S43) (P T : Nat → Int) : List S53 := (List.range ns.length).map fun i => mkS (P i) (T i) (ns.getD i z43).f3
def upd (P : Nat → Int) (i : Nat) (v : Int) : Nat → Int := fun j => if j = i then v else P j
theorem upd_same (P : Nat → Int) (i : Nat) (v : Int) : upd P i v i = v := by unfold upd; rw [if_pos rfl]
theorem upd_ne (P : Nat → Int) (i : Nat) (v : Int) {j : Nat} (h : j ≠ i) : upd P i v j = P j := by unfold upd; rw [if_neg h]
theorem stL_len (ns : List S43) (P T : Nat → Int) : (stL ns P T).length = ns.length := by simp [stL]
theorem stL_get (ns : List S43) (P T : Nat → Int) (i : Nat) (h : i < ns.length) : (stL ns P T).getD i z53 = mkS (P i) (T i) (ns.getD i z43).f3 := by
  simp [stL, h]
theorem stL_set2 (ns : List S43) (P T : Nat → Int) (i : Nat) (v t : Int) (h : i < ns.length) : (stL ns P T).set i (mkS v t (ns.getD i z43).f3) = stL ns (upd P i v) (upd T i t) := by
  apply List.ext_getElem
  · simp [stL]
  · intro j h1 h2
    rw [List.getElem_set]
    by_cases hj : i = j
    · subst hj
      simp [stL, upd]
    · rw [if_neg hj]
      simp [stL, upd, Ne.symm hj]
theorem stL_set (ns : List S43) (P T : Nat → Int) (i : Nat) (v : Int) (h : i < ns.length) : (stL ns P T).set i (mkS v (T i) (ns.getD i z43).f3) = stL ns (upd P i v) T := by
  rw [stL_set2 ns P T i v (T i) h]
  congr 1
  funext j
  unfold upd
  split
  · rename_i hj; rw [hj]
  · rfl
/-- Is a node a call? -/
def isCall (ns : List S43) (i : Nat) : Bool := (ns.getD i z43).f4 != -1
def Lost (D : Nat → List Nat) (P : Nat → Int) (i : Nat) : Prop := ∃ d ∈ D i, P d = 5 ∨ P d = 6
def AllDone (D : Nat → List Nat) (P : Nat → Int) (i : Nat) : Prop := ∀ d ∈ D i, P d = 4
theorem lostB_iff (ns : List S43) (D : Nat → List Nat) (P T : Nat → Int) (i : Nat) (h : ∀ d ∈ D i, d < ns.length) : lostB (maskN (D i)) (stL ns P T) ns.length = true ↔ Lost D P i := by
  unfold lostB Lost
  rw [List.any_eq_true]
  constructor
  · rintro ⟨d, hd, hx⟩
    rw [List.mem_range] at hd
    rw [maskN_bit, stL_get ns P T d hd] at hx
    simp [mkS] at hx
    exact ⟨d, hx.1, hx.2⟩
  · rintro ⟨d, hd, hx⟩
    refine ⟨d, List.mem_range.2 (h d hd), ?_⟩
    rw [maskN_bit, stL_get ns P T d (h d hd)]
    simp [mkS, hd, hx]
theorem doneB_iff (ns : List S43) (D : Nat → List Nat) (P T : Nat → Int) (i : Nat) (h : ∀ d ∈ D i, d < ns.length) : doneB (maskN (D i)) (stL ns P T) ns.length = true ↔ AllDone D P i := by
  unfold doneB AllDone
  rw [List.all_eq_true]
  constructor
  · intro hx d hd
    have := hx d (List.mem_range.2 (h d hd))
    rw [maskN_bit, stL_get ns P T d (h d hd)] at this
    simpa [mkS, hd] using this
  · intro hx d hd
    rw [List.mem_range] at hd
    rw [maskN_bit, stL_get ns P T d hd]
    by_cases hm : d ∈ D i
    · simp [mkS, hx d hm]
    · simp [hm]
/-- What a node comes to, by the phases. -/
def nextN (ns : List S43) (D : Nat → List Nat) (P T : Nat → Int) (i : Nat) : Option Int := nextP (lostB (maskN (D i)) (stL ns P T) ns.length) (doneB (maskN (D i)) (stL ns P T) ns.length) (isCall ns i) (P i)
/-- Nothing comes of it now. -/
def Still (D : Nat → List Nat) (P : Nat → Int) (i : Nat) : Prop := P i = 0 → ¬ Lost D P i ∧ ¬ AllDone D P i
theorem nextN_none {ns : List S43} {D : Nat → List Nat} {P T : Nat → Int} {i : Nat} (h : ∀ d ∈ D i, d < ns.length) (hn : nextN ns D P T i = none) : Still D P i := by
  intro h0
  unfold nextN nextP at hn
  rw [if_pos h0] at hn
  split at hn
  · cases hn
  · rename_i hl
    split at hn
    · cases hn
    · rename_i hd
      exact ⟨fun hx => hl ((lostB_iff ns D P T i h).2 hx), fun hx => hd ((doneB_iff ns D P T i h).2 hx)⟩
def wakeP (ns : List S43) (i : Nat) : Int := if isCall ns i then 3 else 1
theorem nextN_some {ns : List S43} {D : Nat → List Nat} {P T : Nat → Int} {i : Nat} {p : Int} (h : ∀ d ∈ D i, d < ns.length) (hn : nextN ns D P T i = some p) : P i = 0 ∧ ((p = 6 ∧ Lost D P i) ∨ (p = wakeP ns i ∧ AllDone D P i)) := by
  unfold nextN nextP at hn
  split at hn
  · rename_i h0
    refine ⟨h0, ?_⟩
    split at hn
    · rename_i hl
      exact .inl ⟨(Option.some.inj hn).symm, (lostB_iff ns D P T i h).1 hl⟩
    · split at hn
      · rename_i hd
        exact .inr ⟨(Option.some.inj hn).symm, (doneB_iff ns D P T i h).1 hd⟩
      · cases hn
  · cases hn
/-- The phases on the way: what was no waiting node is as it was; what came of a waiting one had its ground. -/
def Mid (ns : List S43) (D : Nat → List Nat) (P0 P : Nat → Int) : Prop := ∀ i, i < ns.length → (P0 i ≠ 0 → P i = P0 i) ∧ (P0 i = 0 → P i = 0 ∨ (P i = 6 ∧ Lost D P i) ∨ (P i = wakeP ns i ∧ AllDone D P i))
theorem Mid.refl (ns : List S43) (D : Nat → List Nat) (P : Nat → Int) : Mid ns D P P := fun i _ => ⟨fun _ => rfl, fun h => .inl h⟩
theorem Mid.step {ns : List S43} {D : Nat → List Nat} {P0 P T : Nat → Int} {i : Nat} {p : Int} (h : Mid ns D P0 P) (hi : i < ns.length) (hd : ∀ d ∈ D i, d < i) (hn : nextN ns D P T i = some p) : Mid ns D P0 (upd P i p) := by
  obtain ⟨h0, hw⟩ := nextN_some (fun d hx => Nat.lt_trans (hd d hx) hi) hn
  have keepL : ∀ j, Lost D P j → Lost D (upd P i p) j := fun j ⟨d, hx, hy⟩ => by
    have hne : d ≠ i := fun e => by rw [e, h0] at hy; omega
    exact ⟨d, hx, by rw [upd_ne _ _ _ hne]; exact hy⟩
  have keepD : ∀ j, AllDone D P j → AllDone D (upd P i p) j := fun j hx d hd' => by
    have hy := hx d hd'
    have hne : d ≠ i := fun e => by rw [e, h0] at hy; omega
    rw [upd_ne _ _ _ hne]; exact hy
  intro j hj
  by_cases hji : j = i
  · subst hji
    have hP0 : P0 j = 0 := Classical.byContradiction fun hne => by have := (h j hj).1 hne; omega
    refine ⟨fun hne => absurd hP0 hne, fun _ => ?_⟩
    rw [upd_same]
    rcases hw with ⟨h1, h2⟩ | ⟨h1, h2⟩
    · exact .inr (.inl ⟨h1, keepL j h2⟩)
    · exact .inr (.inr ⟨h1, keepD j h2⟩)
  · rw [upd_ne _ _ _ hji]
    refine ⟨(h j hj).1, fun hz => ?_⟩
    rcases (h j hj).2 hz with h1 | ⟨h1, h2⟩ | ⟨h1, h2⟩
    · exact .inl h1
    · exact .inr (.inl ⟨h1, keepL j h2⟩)
    · exact .inr (.inr ⟨h1, keepD j h2⟩)
/-- How many still wait. -/
def zeros (n : Nat) (P : Nat → Int) : Nat := (List.range n).countP fun i => P i == 0
theorem zeros_succ (n : Nat) (P : Nat → Int) : zeros (n + 1) P = zeros n P + (if P n = 0 then 1 else 0) := by
  unfold zeros
  rw [List.range_succ, List.countP_append]
  by_cases h : P n = 0 <;> simp [h]
theorem zeros_upd_ge (n : Nat) (P : Nat → Int) (i : Nat) (p : Int) (hi : n ≤ i) : zeros n (upd P i p) = zeros n P := by
  induction n with
  | zero => rfl
  | succ n ih => rw [zeros_succ, zeros_succ, ih (by omega), upd_ne _ _ _ (by omega)]
theorem zeros_upd (n : Nat) (P : Nat → Int) (i : Nat) (p : Int) (hi : i < n) (h0 : P i = 0) (hp : p ≠ 0) : zeros n (upd P i p) < zeros n P := by
  induction n with
  | zero => omega
  | succ n ih =>
    rw [zeros_succ, zeros_succ]
    by_cases hin : i = n
    · subst hin
      rw [zeros_upd_ge _ _ _ _ (Nat.le_refl _), upd_same, if_neg hp, if_pos h0]; omega
    · rw [upd_ne _ _ _ (show n ≠ i by omega)]
      have := ih (by omega)
      omega
theorem nextN_ne {ns : List S43} {D : Nat → List Nat} {P T : Nat → Int} {i : Nat} {p : Int} (h : ∀ d ∈ D i, d < ns.length) (hn : nextN ns D P T i = some p) : P i = 0 ∧ p ≠ 0 := by
  obtain ⟨h0, hw⟩ := nextN_some h hn
  refine ⟨h0, ?_⟩
  rcases hw with ⟨h1, _⟩ | ⟨h1, _⟩
  · omega
  · rw [h1]; unfold wakeP; split <;> omega
theorem next_at (i0 i1 i2 : Int) (nm : ByteArray) (ns : List S43) (D : Nat → List Nat) (P T : Nat → Int) (i : Nat) (hl : ns.length ≤ 12) (hi : i < ns.length) (hd : ∀ d ∈ D i, d < i) (hg : GoodN (ns.getD i z43)) :
    run_Run_next.f 20 i0 i1 i2 nm ns (stL ns P T) (i : Int) ((maskN (D i) : Nat) : Int) 0 =
      some (match nextN ns D P T i with | some p' => (p', T i, (mkS p' (T i) (ns.getD i z43).f3).f2, 0, true) | none => (0, 0, 0, 0, false)) := by
  obtain ⟨g1, g2, g3, g4, g5, g6⟩ := hg
  have hlt : maskN (D i) < 2 ^ 32 := Nat.lt_of_lt_of_le (maskN_lt _ i hd) (Nat.pow_le_pow_right (by decide) (by omega))
  have := next_f i0 i1 i2 nm ns (stL ns P T) i (maskN (D i)) (P i) (T i) (ns.getD i z43).f3 hlt (by rw [stL_len]; exact hl) hi (by rw [stL_len]; exact hi) (stL_get ns P T i hi) rfl g4 g5
  rw [stL_len] at this
  exact this
end Go.Proofs.Ytiipbibbppgbgaa.T
namespace Go.Proofs.Ytiipbibbppgbgaa.T
open Go.RowKit Go.Proofs.Ytiipbibbppgbgaa.PTopFates Go.Proofs.YtiipbibbppgbgaaW.PrintWords Go.Proofs.YtiipbibbppgbgaaW.PrintLast Go.Proofs.YtiipbibbppgbgaaW.PrintMore
set_option linter.unusedVariables false
set_option linter.unusedSimpArgs false

/-- What a call leaves as it was: what is elder than N, and what is not M. -/
def Fr (N : Nat) (M : Nat → Prop) (W w : World) : Prop := Below N W w ∧ Kept W w M
theorem Fr.of_below {N : Nat} {M : Nat → Prop} {W w : World} (h : Below W.heap.size W w) (hN : N ≤ W.heap.size) : Fr N M W w := ⟨h.mono hN, Kept.of_below h M⟩
theorem Fr.grown {N b : Nat} {M : Nat → Prop} {W w w' : World} (h : Fr N M W w) (hg : w.grownBy w' (some b)) (hN : N ≤ w.heap.size) (hb : N ≤ b) (hM : M b ∨ W.heap.size ≤ b) : Fr N M W w' :=
  ⟨pw_below_grown h.1 (some b) hN hg (fun k he => by injection he with he; omega), Kept.of_grown hg h.2 (fun k he => by injection he with he; exact he ▸ hM)⟩
theorem Fr.step {N : Nat} {M : Nat → Prop} {W w w' : World} (h : Fr N M W w) (hb : Below w.heap.size w w') (hN : N ≤ w.heap.size) : Fr N M W w' := ⟨below_then h.1 hN hb, h.2.below hb⟩
/-- What settling has at hand. -/
structure Env where
  N : Nat
  i0 : Int
  i1 : Int
  i2 : Int
  nm : ByteArray
  A : Option Addr
  c : Nat
  g : Nat
  cb : Nat
  ns : List S43
  okF : Nat → Prop
  okG : Nat → Prop
  AF : Option Addr
  cF : Nat
  fr : List S53
  W : World
abbrev chZ : Array Value := #[.int .i64 0, .int .i64 0, .int .i64 0, .string (⟨#[]⟩ : ByteArray), .slice none 0 0, .slice none 0 0, .slice none 0 0, .slice none 0 0]
/-- How it lies in memory on the way. -/
structure SS (E : Env) (w : World) (st : List S53) : Prop where
  box : w.heap[E.W.heap.size]? = some (.cells (runV E.i0 E.i1 E.i2 E.nm E.A E.ns.length E.c (some ⟨E.g, 0, none⟩) E.ns.length E.cb) 33 (0, 0))
  out : w.heap[E.W.heap.size + 1]? = some (.cells chZ 35 (0, 0))
  nodes : Kd.F k43 w E.okF E.A E.ns.length E.ns
  from_ : Kd.F k53 w E.okG E.AF E.fr.length E.fr
  row : Kd.R k53 53 w E.N (fun _ => True) (.slice (some ⟨E.g, 0, none⟩) E.ns.length E.cb) st
  fr : Fr E.N (fun k => k = E.g) E.W w
structure EnvOk (E : Env) : Prop where
  hF : ∀ k, E.okF k → k ≠ E.g
  hG : ∀ k, E.okG k → k ≠ E.g
  hN : E.N ≤ E.W.heap.size
theorem SS.below {E : Env} {w w' : World} {st : List S53} (h : SS E w st) (hE : EnvOk E) (hb : Below w.heap.size w w') : SS E w' st :=
  ⟨blk_below h.box hb, blk_below h.out hb, Kd.F_below h.nodes hb, Kd.F_below h.from_ hb, Kd.R_below h.row hb, h.fr.step hb (Nat.le_trans hE.hN h.fr.1.size)⟩
theorem SS.typed {E : Env} {w : World} {st : List S53} (h : SS E w st) (h1 : 1 ≤ E.ns.length) : ∃ cells, w.heap[E.g]? = some (.cells cells 53 (0, 0)) := by
  have hl := (Kd.R_reads' h.row).1
  obtain ⟨g', cap, he, _, _, hc⟩ := Kd.R_form h.row (by omega)
  injection he with he
  injection he with he
  injection he with he
  subst he
  exact hc
theorem SS.put {E : Env} {w w' : World} {st st' : List S53} (h : SS E w st) (hE : EnvOk E) (h1 : 1 ≤ E.ns.length) (hg : w.grownBy w' (some E.g)) (hR : Kd.R k53 53 w' E.N (fun _ => True) (.slice (some ⟨E.g, 0, none⟩) E.ns.length E.cb) st') : SS E w' st' := by
  obtain ⟨cs, hcs⟩ := h.typed h1
  exact ⟨blk_grown h.box hg (fun e => blk_ne h.box hcs (by decide) (by injection e)), blk_grown h.out hg (fun e => blk_ne h.out hcs (by decide) (by injection e)),
    Kd.F_grown h.nodes hg (fun k hk e => hE.hF k hk (by injection e)), Kd.F_grown h.from_ hg (fun k hk e => hE.hG k hk (by injection e)), hR,
    h.fr.grown hg (Nat.le_trans hE.hN h.fr.1.size) (Kd.R_base h.row E.g rfl) (.inl rfl)⟩
theorem setCells_grown (w : World) (g : Nat) (vs : List Value) : w.grownBy (w.setCells g 0 vs) (some g) := by
  obtain ⟨h1, h2, h3, h4⟩ := setCells_same g vs 0 w
  exact ⟨h1, h2, h3, by rw [h4]; exact Nat.le_refl _, fun k _ hk => setCells_far vs 0 k (fun e => hk (by rw [e]))⟩
theorem setCells_full {w : World} {g : Nat} {t : TypeId} {cur : Array Value} (h : w.heap[g]? = some (.cells cur t (0, 0))) (vs : List Value) (hl : vs.length = cur.size) : (w.setCells g 0 vs).heap[g]? = some (.cells vs.toArray t (0, 0)) := by
  obtain ⟨cur', h1, h2, h3⟩ := setCells_row vs 0 w cur h (by omega)
  rw [List.take_zero, List.nil_append, List.drop_eq_nil_of_le (by rw [Array.length_toList]; omega), List.append_nil] at h3
  rw [h1, ← h3]
theorem hE48_53 : ∀ q, q ∈ (48 : Nat) :: (Kd.int .u32).E → q ≠ 53 := by rw [show (Kd.int .u32).E = [] from rfl]; simp
theorem hE53_35 : ∀ q, q ∈ (53 : Nat) :: k53.E → q ≠ 35 := by rw [show k53.E = [] from rfl]; simp
end Go.Proofs.Ytiipbibbppgbgaa.T
namespace Go.Proofs.Ytiipbibbppgbgaa.T
open Go.RowKit Go.Proofs.Ytiipbibbppgbgaa.PTopFates Go.Proofs.YtiipbibbppgbgaaW.PrintWords Go.Proofs.YtiipbibbppgbgaaW.PrintLast Go.Proofs.YtiipbibbppgbgaaW.PrintMore
set_option linter.unusedVariables false
set_option linter.unusedSimpArgs false

/-- Which nodes have come to a phase. -/
def cameL (E : Env) (P : Nat → Int) (p : Int) (k : Nat) : List Int := ((List.range k).filter fun i => !(P i == (E.fr.getD i z53).f0) && P i == p).map fun i => ((i : Nat) : Int)
theorem cameL_succ (E : Env) (P : Nat → Int) (p : Int) (k : Nat) : cameL E P p (k + 1) = cameL E P p k ++ (if (!(P k == (E.fr.getD k z53).f0) && P k == p) = true then [((k : Nat) : Int)] else []) := by
  unfold cameL
  rw [List.range_succ, List.filter_append, List.map_append]
  congr 1
  rw [List.filter_cons, List.filter_nil]
  by_cases h : (!(P k == (E.fr.getD k z53).f0) && P k == p) = true
  · rw [if_pos h, if_pos h]; rfl
  · rw [if_neg h, if_neg h]; rfl
theorem cameL_len (E : Env) (P : Nat → Int) (p : Int) (k : Nat) : (cameL E P p k).length ≤ k := by
  unfold cameL
  rw [List.length_map]
  exact Nat.le_trans (List.length_filter_le _ _) (by simp)
theorem hE3_35 : ∀ q, q ∈ (3 : Nat) :: (Kd.int .i64).E → q ≠ 35 := by rw [show (Kd.int .i64).E = [] from rfl]; simp
theorem info3 : (Try.prog.info? 3).map (fun i => (i.zero, i.size, i.bytes)) = some (some (.int .i64 0), 1, 8) := by kernel_rfl
set_option maxHeartbeats 8000000 in
set_option maxRecDepth 100000 in
theorem settle_calls (E : Env) (hE : EnvOk E) (D : Nat → List Nat) (P T : Nat → Int) (h1 : 1 ≤ E.ns.length) (hl : E.ns.length ≤ 12) (hn : Names E.ns) (hD : Deps E.ns D) (hg : ∀ i, i < E.ns.length → GoodN (E.ns.getD i z43)) (hcA : E.ns.length ≤ E.c) (hfl : E.fr.length = E.ns.length) (hcF : E.fr.length ≤ E.cF)
    (hF : Kd.F k43 E.W E.okF E.A E.ns.length E.ns) (hG : Kd.F k53 E.W E.okG E.AF E.fr.length E.fr) (hR : Kd.R k53 53 E.W E.N (fun _ => True) (.slice (some ⟨E.g, 0, none⟩) E.ns.length E.cb) (stL E.ns P T)) :
    Calls Try.prog 16 #[.agg (runV E.i0 E.i1 E.i2 E.nm E.A E.ns.length E.c (some ⟨E.g, 0, none⟩) E.ns.length E.cb), .int .i64 0, .slice E.AF E.fr.length E.cF] E.W fun e W' => ∃ P' AR cR AC cC,
      e = .returned (.agg #[.int .i64 E.i0, .int .i64 E.i1, .int .i64 E.i2, .string E.nm, .slice E.A E.ns.length E.c, .slice (some ⟨E.g, 0, none⟩) E.ns.length E.cb, .slice AR (cameL E P' 1 E.ns.length).length cR, .slice AC (cameL E P' 3 E.ns.length).length cC]) ∧
      Mid E.ns D P P' ∧ (∀ i, i < E.ns.length → Still D P' i) ∧ Kd.F k43 W' E.okF E.A E.ns.length E.ns ∧ Kd.F k53 W' E.okG E.AF E.fr.length E.fr ∧ Kd.R k53 53 W' E.N (fun _ => True) (.slice (some ⟨E.g, 0, none⟩) E.ns.length E.cb) (stL E.ns P' T) ∧
      Kd.Q (Kd.int .i64) 3 W' E.W.heap.size (fun _ => True) (.slice AR (cameL E P' 1 E.ns.length).length cR) (cameL E P' 1 E.ns.length) ∧ Kd.Q (Kd.int .i64) 3 W' E.W.heap.size (fun _ => True) (.slice AC (cameL E P' 3 E.ns.length).length cC) (cameL E P' 3 E.ns.length) ∧ Fr E.N (fun k => k = E.g) E.W W' := by
  obtain ⟨adF, eF⟩ : ∃ adF, E.AF = some adF := by
    obtain ⟨ad, e, _⟩ := at_T53 (Kd.F_now hG) 0 (by omega) (by omega)
    exact ⟨ad, e⟩
  rw [show (Value.slice E.AF E.fr.length E.cF) = .slice (some adF) E.fr.length E.cF by rw [eF]]
  have HAF := Aside0.mk eF
  clear eF
  have hu33 := Try.underlying33
  have hu27 := Try.underlying27
  have hu53 := Try.underlying53
  obtain ⟨hb, hk1, hk2⟩ := allocs2 E.W (.cells (runV E.i0 E.i1 E.i2 E.nm E.A E.ns.length E.c (some ⟨E.g, 0, none⟩) E.ns.length E.cb) 33) (.cells chZ 35)
  have HS : Aside0 (SS E ((E.W.alloc (.cells (runV E.i0 E.i1 E.i2 E.nm E.A E.ns.length E.c (some ⟨E.g, 0, none⟩) E.ns.length E.cb) 33)).alloc (.cells chZ 35)) (stL E.ns P T)) :=
    Aside0.mk ⟨hk1, hk2, Kd.F_below hF hb, Kd.F_below hG hb, Kd.R_below hR hb, Fr.of_below hb hE.hN⟩
  have HE := Aside0.mk hE
  have HD := Aside0.mk hD
  have HG := Aside0.mk hg
  have HN := Aside0.mk hn
  have HFL := Aside0.mk hfl
  have HCF := Aside0.mk hcF
  have HCA := Aside0.mk hcA
  have hs : ((E.W.alloc (.cells (runV E.i0 E.i1 E.i2 E.nm E.A E.ns.length E.c (some ⟨E.g, 0, none⟩) E.ns.length E.cb) 33)).alloc (.cells chZ 35)).heap.size = E.W.heap.size + 2 := by simp
  have HF0 := Aside0.mk hF
  have HG0 := Aside0.mk hG
  clear hF hG hR hb hk1 hk2 hE hD hg hn hfl hcF hcA
  go_enter Try.func16, Try.ntmps16
  go_upto_region 1 with (fail)
  generalize (E.W.alloc (.cells (runV E.i0 E.i1 E.i2 E.nm E.A E.ns.length E.c (some ⟨E.g, 0, none⟩) E.ns.length E.cb) 33)).alloc (.cells chZ 35) = w1 at *
  have hx3 : w1.cell? ⟨E.W.heap.size, 3, none⟩ = some (.string E.nm) := (blk_cell HS.out.box 3).trans rfl
  have hx4 : w1.cell? ⟨E.W.heap.size, 4, none⟩ = some (.slice E.A E.ns.length E.c) := (blk_cell HS.out.box 4).trans rfl
  have HC := Aside0.mk (masks_calls E.nm E.A E.c E.ns D w1 (Kd.F_now HS.out.nodes) HN.out hl HD.out)
  go_upto_region 2 with (first | (go_at_call 32; go_loud (refine HC.out.mono ?_; rintro e w2 ⟨A7, c7, rfl, hq, hb⟩; have HQ := Aside0.mk hq; have HS2 := Aside0.mk (HS.out.below HE.out hb); have hs2 := hb.size; clear hq hb)))
  clear hx3 hx4 HC HS
  have HMS := Aside0.mk (show masksL D E.ns.length = masksL D E.ns.length from rfl)
  go_wp2
  go_loopg [8] (zeros E.ns.length P + 1) (fun gk v8 wr => ∃ (b : Bool) (P1 : Nat → Int), v8 = .bool b ∧ Aside0 (Mid E.ns D P P1) ∧ Aside0 (b = true → zeros E.ns.length P1 < gk) ∧ Aside0 (b = false → ∀ i, i < E.ns.length → Still D P1 i) ∧ Aside0 (SS E wr (stL E.ns P1 T)) ∧ Aside0 (Kd.Q (Kd.int .u32) 48 wr w1.heap.size (fun _ => True) (.slice A7 E.ns.length c7) (masksL D E.ns.length)) ∧ Aside0 (w2.heap.size ≤ wr.heap.size))
  case atStart => exact ⟨true, P, rfl, Aside0.mk (Mid.refl _ _ _), Aside0.mk (fun _ => by omega), Aside0.mk (fun h => by cases h), HS2, HQ, Aside0.mk (Nat.le_refl _)⟩
  case round =>
    obtain ⟨b, P1, rfl, HM, HZ, HT, HS, HQ1, HSZ⟩ := hrel
    clear HS2 HQ
    cases b with
    | false =>
      have HT2 := Aside0.mk (HT.out rfl)
      clear HT HZ
      rename World => wo
      have hx0 : wo.cell? ⟨E.W.heap.size, 0, none⟩ = some (.int .i64 E.i0) := (blk_cell HS.out.box 0).trans rfl
      have hx1 : wo.cell? ⟨E.W.heap.size, 1, none⟩ = some (.int .i64 E.i1) := (blk_cell HS.out.box 1).trans rfl
      have hx2 : wo.cell? ⟨E.W.heap.size, 2, none⟩ = some (.int .i64 E.i2) := (blk_cell HS.out.box 2).trans rfl
      have hx3 : wo.cell? ⟨E.W.heap.size, 3, none⟩ = some (.string E.nm) := (blk_cell HS.out.box 3).trans rfl
      have hx4 : wo.cell? ⟨E.W.heap.size, 4, none⟩ = some (.slice E.A E.ns.length E.c) := (blk_cell HS.out.box 4).trans rfl
      have hx5 : wo.cell? ⟨E.W.heap.size, 5, none⟩ = some (.slice (some ⟨E.g, 0, none⟩) E.ns.length E.cb) := (blk_cell HS.out.box 5).trans rfl
      go_upto_region 13 with (fail)
      have hb9 := below_alloc (Below.refl wo.heap.size wo) (.cells #[.int .i64 E.i0, .int .i64 E.i1, .int .i64 E.i2, .string E.nm, .slice E.A E.ns.length E.c, .slice (some ⟨E.g, 0, none⟩) E.ns.length E.cb, .slice none 0 0, .slice none 0 0] 35)
      have hk9 := Aside0.mk (blk_new wo (.cells #[.int .i64 E.i0, .int .i64 E.i1, .int .i64 E.i2, .string E.nm, .slice E.A E.ns.length E.c, .slice (some ⟨E.g, 0, none⟩) E.ns.length E.cb, .slice none 0 0, .slice none 0 0] 35))
      have HB9 := Aside0.mk hb9
      clear hb9 hx0 hx1 hx2 hx3 hx4 hx5 HQ1 HSZ
      generalize wo.alloc (.cells #[.int .i64 E.i0, .int .i64 E.i1, .int .i64 E.i2, .string E.nm, .slice E.A E.ns.length E.c, .slice (some ⟨E.g, 0, none⟩) E.ns.length E.cb, .slice none 0 0, .slice none 0 0] 35) = w9 at *
      have hv5 : w9.cell? ⟨E.W.heap.size, 5, none⟩ = some (.slice (some ⟨E.g, 0, none⟩) E.ns.length E.cb) := (blk_cell (blk_below HS.out.box HB9.out) 5).trans rfl
      go_wp2
      clear hv5
      go_loopw [47] (fun v47 wr => ∃ (p : Int) (i : Nat) (LR LC : List Int) (AR : Option Addr) (cR : Nat) (AC : Option Addr) (cC : Nat), v47 = .int .i64 p ∧ Aside0 (p = (i : Int)) ∧ i ≤ E.ns.length ∧ Aside0 (LR = cameL E P1 1 i) ∧ Aside0 (LC = cameL E P1 3 i) ∧
        Aside0 (wr.heap[wo.heap.size]? = some (.cells #[.int .i64 E.i0, .int .i64 E.i1, .int .i64 E.i2, .string E.nm, .slice E.A E.ns.length E.c, .slice (some ⟨E.g, 0, none⟩) E.ns.length E.cb, .slice AR LR.length cR, .slice AC LC.length cC] 35 (0, 0))) ∧ Aside0 (Kd.Q (Kd.int .i64) 3 wr wo.heap.size (fun _ => True) (.slice AR LR.length cR) LR) ∧ Aside0 (Kd.Q (Kd.int .i64) 3 wr wo.heap.size (fun _ => True) (.slice AC LC.length cC) LC) ∧
        Aside0 (∀ k, (Value.slice AR LR.length cR).ownBlock = some k → (Value.slice AC LC.length cC).ownBlock ≠ some k) ∧ Aside0 (Below wo.heap.size wo wr)) (fun v47 _ => E.ns.length - (intOf v47).toNat)
      case atStart => exact ⟨_, 0, [], [], none, 0, none, 0, rfl, Aside0.mk rfl, by omega, Aside0.mk rfl, Aside0.mk rfl, hk9, Aside0.mk (Kd.Q_nil _ _ _ _ _), Aside0.mk (Kd.Q_nil _ _ _ _ _), Aside0.mk (fun k h => by simp [Value.ownBlock] at h), HB9⟩
      case round =>
        clear hk9 HB9
        obtain ⟨p, i, LR, LC, AR, cR, AC, cC, rfl, HP, hi, HLR, HLC, HK, HQR, HQC, HAP, HB⟩ := hrel
        by_cases hin : i < E.ns.length
        · have hlt : decide (p < (E.ns.length : Int)) = true := decide_eq_true (by rw [HP.out]; omega)
          have hp0 : 0 ≤ p := by rw [HP.out]; omega
          have hp1 : p < (E.ns.length : Int) := by rw [HP.out]; omega
          have hp2 : p < (E.fr.length : Int) := by rw [HP.out, HFL.out]; omega
          have HW : Aside0 (p + 1 = ((i + 1 : Nat) : Int)) := Aside0.mk (by rw [HP.out]; omega)
          have hSr := HS.out.below HE.out HB.out
          obtain ⟨cs, hcl, hM, hcc, hfr⟩ := Kd.R_elem hSr.row z53 p hp0 hp1
          rw [show p.toNat = i by rw [HP.out]; rfl] at hM hcc
          rw [stL_get E.ns P1 T i hin] at hM
          have hcs := k53_openM hM
          subst hcs
          obtain ⟨adF', eF, hfx, _, _, _⟩ := at_T53 (Kd.F_now hSr.from_) p hp0 hp2
          have hadF : adF' = adF := by have := eF.symm.trans HAF.out; injection this
          subst hadF
          have hFI : (rd_T53 E.fr p).f0 = (E.fr.getD i z53).f0 := by unfold rd_T53; rw [HP.out]; rfl
          rw [hFI] at hfx
          have hpi : p.toNat = i := by rw [HP.out]; rfl
          have hxa : wr.cell? ⟨E.g, p.toNat * 4, none⟩ = some (.int .i64 (P1 i)) := by rw [hpi]; exact hcc 0 _ rfl
          have hxb : wr.cell? ⟨E.g, p.toNat * 4 + 1, none⟩ = some (.int .i64 (T i)) := by rw [hpi]; exact hcc 1 _ rfl
          have hxc : wr.cell? ⟨E.g, p.toNat * 4 + 2, none⟩ = some (.int .i64 (mkS (P1 i) (T i) (E.ns.getD i z43).f3).f2) := by rw [hpi]; exact hcc 2 _ rfl
          have hxd : wr.cell? ⟨E.g, p.toNat * 4 + 3, none⟩ = some (.int .i64 0) := by rw [hpi]; exact hcc 3 _ rfl
          have hsR := cameL_succ E P1 1 i
          have hsC := cameL_succ E P1 3 i
          generalize (mkS (P1 i) (T i) (E.ns.getD i z43).f3).f2 = U0 at *
          generalize (E.fr.getD i z53).f0 = FI at *
          generalize P1 i = PH at *
          generalize T i = T0 at *
          have HSR := Aside0.mk hsR
          have HSC := Aside0.mk hsC
          clear hcl hM hcc hfr hpi hFI hsR hsC hSr eF
          go_upto_region 16 with (fail)
          have hb15 := below_alloc (Below.refl wr.heap.size wr) (.cells #[.int .i64 PH, .int .i64 T0, .int .i64 U0, .int .i64 0] 53)
          have hk15 := blk_new wr (.cells #[.int .i64 PH, .int .i64 T0, .int .i64 U0, .int .i64 0] 53)
          have HB15 := Aside0.mk (below_step HB.out hb15)
          have HK15 := Aside0.mk (blk_below HK.out hb15)
          have HQR15 := Aside0.mk (Kd.Q_below HQR.out hb15)
          have HQC15 := Aside0.mk (Kd.Q_below HQC.out hb15)
          have HXK := Aside0.mk hk15
          have hz := pw_cell_below hb15 hfx
          clear hb15 hxa hxb hxc hxd hfx HB HK HQR HQC hk15
          generalize wr.alloc (.cells #[.int .i64 PH, .int .i64 T0, .int .i64 U0, .int .i64 0] 53) = w15 at *
          generalize wr.heap.size = gx at *
          have hy0 : w15.cell? ⟨gx, 0, none⟩ = some (.int .i64 PH) := (blk_cell HXK.out 0).trans rfl
          go_quiet (fail)
          have hbq : Below w15.heap.size w15 (w15.drewN nq) := pw_below_drewN (Below.refl _ _) nq
          have HB16 := Aside0.mk (below_step HB15.out hbq)
          have HK16 := Aside0.mk (blk_below HK15.out hbq)
          have HQR16 := Aside0.mk (Kd.Q_below HQR15.out hbq)
          have HQC16 := Aside0.mk (Kd.Q_below HQC15.out hbq)
          have HXK16 := Aside0.mk (blk_below HXK.out hbq)
          have hlR : LR.length ≤ 12 := by rw [HLR.out]; exact Nat.le_trans (cameL_len _ _ _ _) (by omega)
          have hlC : LC.length ≤ 12 := by rw [HLC.out]; exact Nat.le_trans (cameL_len _ _ _ _) (by omega)
          clear hbq HB15 HK15 HQR15 HQC15 HXK hy0 hz
          generalize w15.drewN nq = w16 at *
          have hy0 : w16.cell? ⟨gx, 0, none⟩ = some (.int .i64 PH) := (blk_cell HXK16.out 0).trans rfl
          have hv6 : w16.cell? ⟨wo.heap.size, 6, none⟩ = some (.slice AR LR.length cR) := (blk_cell HK16.out 6).trans rfl
          have hv7 : w16.cell? ⟨wo.heap.size, 7, none⟩ = some (.slice AC LC.length cC) := (blk_cell HK16.out 7).trans rfl
          by_cases hpf : PH = FI
          · have e1 : decide (PH = FI) = true := decide_eq_true hpf
            have e2 : (PH == FI) = true := by simpa using hpf
            have HR1 : Aside0 (LR = cameL E P1 1 (i + 1)) := Aside0.mk (by rw [HSR.out, HLR.out, if_neg (by simp [e2]), List.append_nil])
            have HC1 : Aside0 (LC = cameL E P1 3 (i + 1)) := Aside0.mk (by rw [HSC.out, HLC.out, if_neg (by simp [e2]), List.append_nil])
            clear hpf
            go_wp2
            go_roundw
            case rel => exact ⟨_, i + 1, LR, LC, AR, cR, AC, cC, rfl, HW, by omega, HR1, HC1, HK16, HQR16, HQC16, HAP, HB16⟩
            case measure => have := HW.out; have := HP.out; simp [intOf] at *; omega
          · have e1 : decide (PH = FI) = false := decide_eq_false hpf
            have e2 : (PH == FI) = false := by simpa using hpf
            by_cases hp1' : PH = 1
            · have HR1 : Aside0 (LR ++ [p] = cameL E P1 1 (i + 1)) := Aside0.mk (by rw [HSR.out, HLR.out, if_pos (by rw [e2, hp1']; rfl), HP.out])
              have HC1 : Aside0 (LC = cameL E P1 3 (i + 1)) := Aside0.mk (by rw [HSC.out, HLC.out, if_neg (by rw [hp1']; simp), List.append_nil])
              have e3 : decide (PH = 1) = true := decide_eq_true hp1'
              have e4 : (PH == 1) = true := by simpa using hp1'
              clear hpf hp1'
              go_wp2_with (first | ((with_reducible refine gate_builtin (b := .append) (xs := #[.tmp 66, .tmp 68]) rfl ?_); at_builtin; go_loud (refine Kd.Q_append (Kd.int .i64) (w0 := wo) wo.heap.size rfl (.tmp 66) (.tmp 68) 24 3 (.int .i64 0) 8 rfl Try.underlying24 info3 rfl (by decide) (by decide) (.slice AR LR.length cR) LR p [.int .i64 p] (fun _ => True) (fun _ => False) rfl rfl ?pM (fun _ hk => hk.elim) (fun _ _ => trivial) ?pQ HB16.out HB16.out.size ?pL ?_; (case pM => exact rfl); (case pQ => exact HQR16.out); (case pL => omega); intro v1 w4 ho hb hg hat; obtain ⟨A6, c6, rfl, hcc⟩ := Kd.Q_slice ho; have HQ4 := Aside0.mk ho; have HB4 := Aside0.mk hb; have HG4 := Aside0.mk hg; have HAT := Aside0.mk hat; have HK4 := Aside0.mk (blk_grown HK16.out hg (Kd.Q_ne HQR16.out HK16.out (by decide))); have hgc : w4.cell? ⟨wo.heap.size, 6, none⟩ = some (.slice AR LR.length cR) := (blk_cell HK4.out 6).trans rfl; have hgf := blk_frozen HK4.out 6; clear ho hb hg hat)))
              have HO4 := Aside0.mk (Kd.Q_grown2 HQC16.out rfl HG4.out (fun k hk he => HAP.out k hk he.symm))
              have HK5 := Aside0.mk (blk_put (cs' := #[.int .i64 E.i0, .int .i64 E.i1, .int .i64 E.i2, .string E.nm, .slice E.A E.ns.length E.c, .slice (some ⟨E.g, 0, none⟩) E.ns.length E.cb, .slice A6 (LR ++ [p]).length c6, .slice AC LC.length cC]) HK4.out 6 (.slice A6 (LR ++ [p]).length c6) rfl)
              have HQ5 := Aside0.mk (Kd.Q_set HQ4.out HK4.out hE3_35 6 (.slice A6 (LR ++ [p]).length c6))
              have HO5 := Aside0.mk (Kd.Q_set HO4.out HK4.out hE3_35 6 (.slice A6 (LR ++ [p]).length c6))
              have HB5 : Aside0 (Below wo.heap.size wo (w4.setCell ⟨wo.heap.size, 6, none⟩ (.slice A6 (LR ++ [p]).length c6))) := Aside0.mk (below_set HB4.out (Nat.le_refl _))
              have HAP5 : Aside0 (∀ k, (Value.slice A6 (LR ++ [p]).length c6).ownBlock = some k → (Value.slice AC LC.length cC).ownBlock ≠ some k) := Aside0.mk (fun k hk he => by
                rcases HAT.out with h | ⟨b, h, hle⟩
                · exact HAP.out k (h ▸ hk) he
                · have := Kd.Q_lt HQC16.out k he
                  rw [h] at hk; injection hk with hk; omega)
              go_roundw
              case rel => rw [show LR.length + 1 = (LR ++ [p]).length by simp]; exact ⟨_, i + 1, LR ++ [p], LC, A6, c6, AC, cC, rfl, HW, by omega, HR1, HC1, HK5, HQ5, HO5, HAP5, HB5⟩
              case measure => have := HW.out; have := HP.out; simp [intOf] at *; omega
            · have HR1 : Aside0 (LR = cameL E P1 1 (i + 1)) := Aside0.mk (by rw [HSR.out, HLR.out, if_neg (by simp [hp1']), List.append_nil])
              have e3 : decide (PH = 1) = false := decide_eq_false hp1'
              have e4 : (PH == 1) = false := by simpa using hp1'
              by_cases hp3 : PH = 3
              · have HC1 : Aside0 (LC ++ [p] = cameL E P1 3 (i + 1)) := Aside0.mk (by rw [HSC.out, HLC.out, if_pos (by rw [e2, hp3]; rfl), HP.out])
                have e5 : decide (PH = 3) = true := decide_eq_true hp3
                have e6 : (PH == 3) = true := by simpa using hp3
                clear hpf hp1' hp3
                go_wp2_with (first | ((with_reducible refine gate_builtin (b := .append) (xs := #[.tmp 76, .tmp 78]) rfl ?_); at_builtin; go_loud (refine Kd.Q_append (Kd.int .i64) (w0 := wo) wo.heap.size rfl (.tmp 76) (.tmp 78) 24 3 (.int .i64 0) 8 rfl Try.underlying24 info3 rfl (by decide) (by decide) (.slice AC LC.length cC) LC p [.int .i64 p] (fun _ => True) (fun _ => False) rfl rfl ?pM (fun _ hk => hk.elim) (fun _ _ => trivial) ?pQ HB16.out HB16.out.size ?pL ?_; (case pM => exact rfl); (case pQ => exact HQC16.out); (case pL => omega); intro v1 w4 ho hb hg hat; obtain ⟨A6, c6, rfl, hcc⟩ := Kd.Q_slice ho; have HQ4 := Aside0.mk ho; have HB4 := Aside0.mk hb; have HG4 := Aside0.mk hg; have HAT := Aside0.mk hat; have HK4 := Aside0.mk (blk_grown HK16.out hg (Kd.Q_ne HQC16.out HK16.out (by decide))); have hgc : w4.cell? ⟨wo.heap.size, 7, none⟩ = some (.slice AC LC.length cC) := (blk_cell HK4.out 7).trans rfl; have hgf := blk_frozen HK4.out 7; clear ho hb hg hat)))
                have HO4 := Aside0.mk (Kd.Q_grown2 HQR16.out rfl HG4.out (fun k hk he => HAP.out k he.symm hk))
                have HK5 := Aside0.mk (blk_put (cs' := #[.int .i64 E.i0, .int .i64 E.i1, .int .i64 E.i2, .string E.nm, .slice E.A E.ns.length E.c, .slice (some ⟨E.g, 0, none⟩) E.ns.length E.cb, .slice AR LR.length cR, .slice A6 (LC ++ [p]).length c6]) HK4.out 7 (.slice A6 (LC ++ [p]).length c6) rfl)
                have HQ5 := Aside0.mk (Kd.Q_set HQ4.out HK4.out hE3_35 7 (.slice A6 (LC ++ [p]).length c6))
                have HO5 := Aside0.mk (Kd.Q_set HO4.out HK4.out hE3_35 7 (.slice A6 (LC ++ [p]).length c6))
                have HB5 : Aside0 (Below wo.heap.size wo (w4.setCell ⟨wo.heap.size, 7, none⟩ (.slice A6 (LC ++ [p]).length c6))) := Aside0.mk (below_set HB4.out (Nat.le_refl _))
                have HAP5 : Aside0 (∀ k, (Value.slice AR LR.length cR).ownBlock = some k → (Value.slice A6 (LC ++ [p]).length c6).ownBlock ≠ some k) := Aside0.mk (fun k hk he => by
                  rcases HAT.out with h | ⟨b, h, hle⟩
                  · exact HAP.out k hk (h ▸ he)
                  · have := Kd.Q_lt HQR16.out k hk
                    rw [h] at he; injection he with he; omega)
                go_roundw
                case rel => rw [show LC.length + 1 = (LC ++ [p]).length by simp]; exact ⟨_, i + 1, LR, LC ++ [p], AR, cR, A6, c6, rfl, HW, by omega, HR1, HC1, HK5, HO5, HQ5, HAP5, HB5⟩
                case measure => have := HW.out; have := HP.out; simp [intOf] at *; omega
              · have HC1 : Aside0 (LC = cameL E P1 3 (i + 1)) := Aside0.mk (by rw [HSC.out, HLC.out, if_neg (by simp [hp3]), List.append_nil])
                have e5 : decide (PH = 3) = false := decide_eq_false hp3
                have e6 : (PH == 3) = false := by simpa using hp3
                clear hpf hp1' hp3
                go_wp2
                go_roundw
                case rel => exact ⟨_, i + 1, LR, LC, AR, cR, AC, cC, rfl, HW, by omega, HR1, HC1, HK16, HQR16, HQC16, HAP, HB16⟩
                case measure => have := HW.out; have := HP.out; simp [intOf] at *; omega
        · have hlt : decide (p < (E.ns.length : Int)) = false := decide_eq_false (by rw [HP.out]; omega)
          have hie : i = E.ns.length := by omega
          subst hie
          have HSR := Aside0.mk (HS.out.below HE.out HB.out)
          clear hi hin
          have hv0 : wr.cell? ⟨wo.heap.size, 0, none⟩ = some (.int .i64 E.i0) := (blk_cell HK.out 0).trans rfl
          have hv1 : wr.cell? ⟨wo.heap.size, 1, none⟩ = some (.int .i64 E.i1) := (blk_cell HK.out 1).trans rfl
          have hv2 : wr.cell? ⟨wo.heap.size, 2, none⟩ = some (.int .i64 E.i2) := (blk_cell HK.out 2).trans rfl
          have hv3 : wr.cell? ⟨wo.heap.size, 3, none⟩ = some (.string E.nm) := (blk_cell HK.out 3).trans rfl
          have hv4 : wr.cell? ⟨wo.heap.size, 4, none⟩ = some (.slice E.A E.ns.length E.c) := (blk_cell HK.out 4).trans rfl
          have hv5 : wr.cell? ⟨wo.heap.size, 5, none⟩ = some (.slice (some ⟨E.g, 0, none⟩) E.ns.length E.cb) := (blk_cell HK.out 5).trans rfl
          have hv6 : wr.cell? ⟨wo.heap.size, 6, none⟩ = some (.slice AR LR.length cR) := (blk_cell HK.out 6).trans rfl
          have hv7 : wr.cell? ⟨wo.heap.size, 7, none⟩ = some (.slice AC LC.length cC) := (blk_cell HK.out 7).trans rfl
          have hz0 : wr.cell? ⟨E.W.heap.size + 1, 0, none⟩ = some (.int .i64 0) := (blk_cell HSR.out.out 0).trans rfl
          have hf0 := blk_frozen HSR.out.out 0
          have hz1 : wr.cell? ⟨E.W.heap.size + 1, 1, none⟩ = some (.int .i64 0) := (blk_cell HSR.out.out 1).trans rfl
          have hf1 := blk_frozen HSR.out.out 1
          have hz2 : wr.cell? ⟨E.W.heap.size + 1, 2, none⟩ = some (.int .i64 0) := (blk_cell HSR.out.out 2).trans rfl
          have hf2 := blk_frozen HSR.out.out 2
          have hz3 : wr.cell? ⟨E.W.heap.size + 1, 3, none⟩ = some (.string (⟨#[]⟩ : ByteArray)) := (blk_cell HSR.out.out 3).trans rfl
          have hf3 := blk_frozen HSR.out.out 3
          have hz4 : wr.cell? ⟨E.W.heap.size + 1, 4, none⟩ = some (.slice none 0 0) := (blk_cell HSR.out.out 4).trans rfl
          have hf4 := blk_frozen HSR.out.out 4
          have hz5 : wr.cell? ⟨E.W.heap.size + 1, 5, none⟩ = some (.slice none 0 0) := (blk_cell HSR.out.out 5).trans rfl
          have hf5 := blk_frozen HSR.out.out 5
          have hz6 : wr.cell? ⟨E.W.heap.size + 1, 6, none⟩ = some (.slice none 0 0) := (blk_cell HSR.out.out 6).trans rfl
          have hf6 := blk_frozen HSR.out.out 6
          have hz7 : wr.cell? ⟨E.W.heap.size + 1, 7, none⟩ = some (.slice none 0 0) := (blk_cell HSR.out.out 7).trans rfl
          have hf7 := blk_frozen HSR.out.out 7
          go_wp2
          have hg8 := setCells_grown wr (E.W.heap.size + 1) [.int .i64 E.i0, .int .i64 E.i1, .int .i64 E.i2, .string E.nm, .slice E.A E.ns.length E.c, .slice (some ⟨E.g, 0, none⟩) E.ns.length E.cb, .slice AR LR.length cR, .slice AC LC.length cC]
          have hk8 := setCells_full HSR.out.out [.int .i64 E.i0, .int .i64 E.i1, .int .i64 E.i2, .string E.nm, .slice E.A E.ns.length E.c, .slice (some ⟨E.g, 0, none⟩) E.ns.length E.cb, .slice AR LR.length cR, .slice AC LC.length cC] rfl
          simp only [World.setCells, Nat.zero_add, Nat.reduceAdd] at hg8 hk8
          have hszo : E.W.heap.size ≤ wo.heap.size := HS.out.fr.1.size
          have hFr := HSR.out.fr.grown hg8 (Nat.le_trans HE.out.hN HSR.out.fr.1.size) (by have := HE.out.hN; omega) (.inr (by omega))
          have hR8 := Kd.R_mono (Kd.R_grown (Kd.R_types HSR.out.row HSR.out.out hE53_35) hg8 (fun k hk he => hk.2 (by injection he))) (ok' := fun _ => True) (fun _ _ => trivial)
          have hQR8 := Kd.Q_mono (Kd.Q_grown (Kd.Q_types (Kd.Q_lower HQR.out hszo) HSR.out.out hE3_35) hg8 (fun k hk he => hk.2 (by injection he))) (ok' := fun _ => True) (fun _ _ => trivial)
          have hQC8 := Kd.Q_mono (Kd.Q_grown (Kd.Q_types (Kd.Q_lower HQC.out hszo) HSR.out.out hE3_35) hg8 (fun k hk he => hk.2 (by injection he))) (ok' := fun _ => True) (fun _ _ => trivial)
          refine bodyPost_ret (results_cell_row rfl _ _ (E.W.heap.size + 1) 35 #[.int .i64 E.i0, .int .i64 E.i1, .int .i64 E.i2, .string E.nm, .slice E.A E.ns.length E.c, .slice (some ⟨E.g, 0, none⟩) E.ns.length E.cb, .slice AR LR.length cR, .slice AC LC.length cC] (0, 0) _ rfl hk8 Try.underlying35 rfl (by kernel_rfl)) rfl ?_
          have hLR := HLR.out
          have hLC := HLC.out
          subst hLR
          subst hLC
          exact ⟨P1, AR, cR, AC, cC, rfl, HM.out, HT2.out, Kd.F_kept HF0.out hFr.2 HE.out.hF, Kd.F_kept HG0.out hFr.2 HE.out.hG, hR8, hQR8, hQC8, hFr⟩
    | true =>
      have HZ2 := Aside0.mk (HZ.out rfl)
      clear HT HZ
      go_wp2
      rename World => wo
      go_loopw [8, 22] (fun v8 v22 wr => ∃ (b : Bool) (p : Int) (i : Nat) (P2 : Nat → Int), v8 = .bool b ∧ v22 = .int .i64 p ∧ Aside0 (p = (i : Int)) ∧ i ≤ E.ns.length ∧ Aside0 (Mid E.ns D P P2) ∧ Aside0 (b = true → zeros E.ns.length P2 < zeros E.ns.length P1) ∧ Aside0 (b = false → P2 = P1 ∧ ∀ j, j < i → Still D P2 j) ∧ Aside0 (SS E wr (stL E.ns P2 T)) ∧ Aside0 (Kd.Q (Kd.int .u32) 48 wr w1.heap.size (fun _ => True) (.slice A7 E.ns.length c7) (masksL D E.ns.length)) ∧ Aside0 (w2.heap.size ≤ wr.heap.size)) (fun _ v22 _ => E.ns.length - (intOf v22).toNat)
      case atStart => exact ⟨false, _, 0, P1, rfl, rfl, Aside0.mk rfl, by omega, HM, Aside0.mk (fun h => by cases h), Aside0.mk (fun _ => ⟨rfl, fun j hj => by omega⟩), HS, HQ1, HSZ⟩
      case round =>
        clear HM HS HQ1 HSZ
        obtain ⟨b, p, i, P2, rfl, rfl, HP, hi, HM, HZ, HT, HS, HQ1, HSZ⟩ := hrel
        by_cases hin : i < E.ns.length
        · have hlt : decide (p < (E.ns.length : Int)) = true := decide_eq_true (by rw [HP.out]; omega)
          have hp0 : 0 ≤ p := by rw [HP.out]; omega
          have hp1 : p < (E.ns.length : Int) := by rw [HP.out]; omega
          have HW : Aside0 (p + 1 = ((i + 1 : Nat) : Int)) := Aside0.mk (by rw [HP.out]; omega)
          have hqr := Kd.Q_reads' HQ1.out
          have hqc := hqr.2.2
          rw [masksL_len] at hqc
          obtain ⟨ad7, e, hm0⟩ := Kd.at_int hqc p hp0 hp1
          cases e
          have hmv : rd (masksL D E.ns.length) p = ((maskN (D i) : Nat) : Int) := by unfold rd; rw [HP.out]; simp [masksL, hin]
          rw [hmv] at hm0
          have hdi := (HD.out i hin).2.1
          have hnx := next_at E.i0 E.i1 E.i2 E.nm E.ns D P2 T i hl hin hdi (HG.out i hin)
          rw [← HP.out] at hnx
          obtain ⟨M, hM⟩ : ∃ M : Int, M = ((maskN (D i) : Nat) : Int) := ⟨_, rfl⟩
          rw [← hM] at hm0 hnx
          have hR2 := (Kd.R_reads' HS.out.row)
          have hDN : ∀ d ∈ D i, d < E.ns.length := fun d hd => Nat.lt_trans (hdi d hd) hin
          have hx0 : wr.cell? ⟨E.W.heap.size, 0, none⟩ = some (.int .i64 E.i0) := (blk_cell HS.out.box 0).trans rfl
          have hx1 : wr.cell? ⟨E.W.heap.size, 1, none⟩ = some (.int .i64 E.i1) := (blk_cell HS.out.box 1).trans rfl
          have hx2 : wr.cell? ⟨E.W.heap.size, 2, none⟩ = some (.int .i64 E.i2) := (blk_cell HS.out.box 2).trans rfl
          have hx3 : wr.cell? ⟨E.W.heap.size, 3, none⟩ = some (.string E.nm) := (blk_cell HS.out.box 3).trans rfl
          have hx4 : wr.cell? ⟨E.W.heap.size, 4, none⟩ = some (.slice E.A E.ns.length E.c) := (blk_cell HS.out.box 4).trans rfl
          have hx5 : wr.cell? ⟨E.W.heap.size, 5, none⟩ = some (.slice (some ⟨E.g, 0, none⟩) E.ns.length E.cb) := (blk_cell HS.out.box 5).trans rfl
          cases hnn : nextN E.ns D P2 T i with
          | none =>
            rw [hnn] at hnx
            have hcl := run_Run_next.calls 20 E.i0 E.i1 E.i2 E.nm E.A E.c E.ns (some ⟨E.g, 0, none⟩) E.cb (stL E.ns P2 T) p M 0 0 0 0 0 false wr (Kd.F_now HS.out.nodes) HCA.out hR2.2.2 (by rw [stL_len]; exact hR2.2.1) hnx
            rw [stL_len] at hcl
            have HCL := Aside0.mk hcl
            have hNN := nextN_none hDN hnn
            have HT6 : Aside0 (b = false → P2 = P1 ∧ ∀ j, j < i + 1 → Still D P2 j) := Aside0.mk (fun hbf => ⟨(HT.out hbf).1, fun j hj => by
              rcases Nat.lt_succ_iff_lt_or_eq.1 hj with h | h
              · exact (HT.out hbf).2 j h
              · rw [h]; exact hNN⟩)
            clear hcl hR2 hDN hnn hnx hM hdi hmv hqc hqr hNN
            go_upto_region 9 with (first | (go_at_call 36; go_loud (refine HCL.out.mono ?_; rintro e w5 ⟨rfl, hb⟩; have HS5 := Aside0.mk (HS.out.below HE.out hb); have HQ5 := Aside0.mk (Kd.Q_below HQ1.out hb); have hs5 := hb.size; clear hb)))
            have hb6 := below_alloc (Below.refl w5.heap.size w5) (.cells #[.int .i64 0, .int .i64 0, .int .i64 0, .int .i64 0] 53)
            have HS6 := Aside0.mk (HS5.out.below HE.out hb6)
            have HQ6 := Aside0.mk (Kd.Q_below HQ5.out hb6)
            have HSZ6 := Aside0.mk (Nat.le_trans (Nat.le_trans HSZ.out hs5) hb6.size)
            clear hb6 HS5 HQ5 hx0 hx1 hx2 hx3 hx4 hx5 hm0
            generalize w5.alloc (.cells #[.int .i64 0, .int .i64 0, .int .i64 0, .int .i64 0] 53) = w6 at *
            go_wp2
            go_roundw
            case rel => exact ⟨b, _, i + 1, P2, rfl, rfl, HW, by omega, HM, HZ, HT6, HS6, HQ6, HSZ6⟩
            case measure => have := HW.out; have := HP.out; simp [intOf] at *; omega
          | some p' =>
            rw [hnn] at hnx
            have hcl := run_Run_next.calls 20 E.i0 E.i1 E.i2 E.nm E.A E.c E.ns (some ⟨E.g, 0, none⟩) E.cb (stL E.ns P2 T) p M 0 p' (T i) (mkS p' (T i) (E.ns.getD i z43).f3).f2 0 true wr (Kd.F_now HS.out.nodes) HCA.out hR2.2.2 (by rw [stL_len]; exact hR2.2.1) hnx
            rw [stL_len] at hcl
            have hset := stL_set E.ns P2 T i p' hin
            have hmid := HM.out.step hin hdi hnn
            have hne := nextN_ne hDN hnn
            have hzz := zeros_upd E.ns.length P2 i p' hin hne.1 hne.2
            obtain ⟨T0, hT0⟩ : ∃ x, x = T i := ⟨_, rfl⟩
            obtain ⟨U0, hU0⟩ : ∃ x, x = (mkS p' (T i) (E.ns.getD i z43).f3).f2 := ⟨_, rfl⟩
            have hsv : mkS p' (T i) (E.ns.getD i z43).f3 = ⟨p', T0, U0, 0⟩ := by rw [hT0, hU0]; rfl
            rw [← hU0, ← hT0] at hcl
            rw [hsv] at hset
            have HCL := Aside0.mk hcl
            have HSET := Aside0.mk hset
            have HMID := Aside0.mk hmid
            have HZZ := Aside0.mk (show zeros E.ns.length (upd P2 i p') < zeros E.ns.length P1 from by
              cases hb : b with
              | true => exact Nat.lt_trans hzz (HZ.out hb)
              | false => rw [← (HT.out hb).1]; exact hzz)
            clear hcl hR2 hDN hnn hnx hM hdi hmv hqc hqr hset hmid hne hzz hsv hT0 hU0
            go_upto_region 9 with (first | (go_at_call 36; go_loud (refine HCL.out.mono ?_; rintro e w5 ⟨rfl, hb⟩; have HS5 := Aside0.mk (HS.out.below HE.out hb); have HQ5 := Aside0.mk (Kd.Q_below HQ1.out hb); have hs5 := hb.size; clear hb)))
            have hb6 := below_alloc (Below.refl w5.heap.size w5) (.cells #[.int .i64 p', .int .i64 T0, .int .i64 U0, .int .i64 0] 53)
            have hk6 := blk_new w5 (.cells #[.int .i64 p', .int .i64 T0, .int .i64 U0, .int .i64 0] 53)
            have HS6 := Aside0.mk (HS5.out.below HE.out hb6)
            have HQ6 := Aside0.mk (Kd.Q_below HQ5.out hb6)
            have HSZ6 := Aside0.mk (Nat.le_trans (Nat.le_trans HSZ.out hs5) hb6.size)
            clear hb6 HS5 HQ5 hx0 hx1 hx2 hx3 hx4 hx5 hm0
            generalize w5.alloc (.cells #[.int .i64 p', .int .i64 T0, .int .i64 U0, .int .i64 0] 53) = w6 at *
            generalize w5.heap.size = gb at *
            have hv5 : w6.cell? ⟨E.W.heap.size, 5, none⟩ = some (.slice (some ⟨E.g, 0, none⟩) E.ns.length E.cb) := (blk_cell HS6.out.box 5).trans rfl
            have hy0 : w6.cell? ⟨gb, 0, none⟩ = some (.int .i64 p') := (blk_cell hk6 0).trans rfl
            have hy1 : w6.cell? ⟨gb, 1, none⟩ = some (.int .i64 T0) := (blk_cell hk6 1).trans rfl
            have hy2 : w6.cell? ⟨gb, 2, none⟩ = some (.int .i64 U0) := (blk_cell hk6 2).trans rfl
            have hy3 : w6.cell? ⟨gb, 3, none⟩ = some (.int .i64 0) := (blk_cell hk6 3).trans rfl
            clear hk6
            obtain ⟨cs, hcl, hK, hcc, hfr⟩ := Kd.R_elem HS6.out.row z53 p hp0 hp1
            have HCS := Aside0.mk (And.intro hcl hcc)
            clear hcl hK hcc hfr
            go_wp2_with (first | ((with_reducible refine gate_store (t := 53) (p := 40) rfl ?_); go_loud (refine Kd.R_store k53 (w0 := E.W) E.N rfl rfl 53 (.tmp 40) (.tmp 39) rfl 53 p 0 (stL E.ns P2 T) ⟨p', T0, U0, 0⟩ (.agg #[.int .i64 p', .int .i64 T0, .int .i64 U0, .int .i64 0]) [.int .i64 p', .int .i64 T0, .int .i64 U0, .int .i64 0] cs (fun _ => True) (fun _ => False) rfl rfl rfl rfl (by kernel_rfl) (by intro q hq; simp at hq; rcases hq with rfl | rfl | rfl | rfl <;> rfl) HS6.out.row hp0 hp1 HCS.out.1 HCS.out.2 (by show 0 + 4 ≤ 4; omega) ?pM (fun _ h => h.elim) HS6.out.fr.1 ?_; (case pM => (have hd4 : List.drop (0 + 4) cs = [] := List.drop_eq_nil_of_le (by rw [HCS.out.1]; exact Nat.le_refl _); simp only [List.take_zero, List.nil_append, List.length_cons, List.length_nil, hd4, List.append_nil]; exact k53_mkM _ _ _ _)); intro w7 hr7 hb7 hg7)))
            have HS7 := Aside0.mk (HS6.out.put HE.out h1 hg7 (by have := hr7; rw [show p.toNat = i by rw [HP.out]; rfl, HSET.out] at this; exact this))
            have HQ7 := Aside0.mk (Kd.Q_mono (Kd.Q_grown (Kd.Q_types HQ6.out (Classical.choose_spec (HS6.out.typed h1)) hE48_53) hg7 (fun k hk he => hk.2 (by injection he))) (ok' := fun _ => True) (fun _ _ => trivial))
            have HSZ7 := Aside0.mk (Nat.le_trans HSZ6.out hg7.size)
            clear hr7 hb7 hg7
            go_roundw
            case rel => exact ⟨true, _, i + 1, upd P2 i p', rfl, rfl, HW, by omega, HMID, Aside0.mk (fun _ => HZZ.out), Aside0.mk (fun h => by cases h), HS7, HQ7, HSZ7⟩
            case measure => have := HW.out; have := HP.out; simp [intOf] at *; omega
        · have hlt : decide (p < (E.ns.length : Int)) = false := decide_eq_false (by rw [HP.out]; omega)
          have hie : i = E.ns.length := by omega
          have HZB : Aside0 (b = true → zeros E.ns.length P2 < gk - 1) := Aside0.mk (fun h => by have := HZ.out h; have := HZ2.out; omega)
          have HTB : Aside0 (b = false → ∀ j, j < E.ns.length → Still D P2 j) := Aside0.mk (fun h j hj => (HT.out h).2 j (by omega))
          have HGK := Aside0.mk (show gk - 1 < gk by have := HZ2.out; omega)
          clear hin hie HZ HT HP hi HZ2
          go_wp2
          go_roundg (gk - 1)
          case rel => exact ⟨b, P2, rfl, HM, HZB, HTB, HS, HQ1, HSZ⟩
          case measure => exact HGK.out
end Go.Proofs.Ytiipbibbppgbgaa.T
