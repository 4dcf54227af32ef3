/- Ahead, Clone, List. No condition beyond numbers being numbers of 64 bits. -/
import Derived.Test.YtcnecdlphpkmgaaQRead
namespace Go.Proofs.Ytcnecdlphpkmgaa.Q
open Go.RowKit Go.Proofs.YtcnecdlphpkmgaaW.PrintWords Go.Proofs.YtcnecdlphpkmgaaW.PrintLast Go.Proofs.YtcnecdlphpkmgaaW.PrintMore
set_option linter.unusedVariables false
set_option linter.unusedSimpArgs false

/-- What Ahead's region keeps. -/
abbrev KA (W : World) (gb qb : Nat) (A : Option Addr) (c : Nat) (xs : List Item) (r nd : Int) (w : World) : Prop :=
  w.cell? ⟨qb, 0, none⟩ = some (.slice A xs.length c) ∧ w.cell? ⟨gb, 0, none⟩ = some (.int .i64 r) ∧ w.cell? ⟨gb, 1, none⟩ = some (.int .i64 nd) ∧ Kd.C KI w A xs.length xs ∧ Below gb W w
theorem KA.step {W : World} {gb qb : Nat} {A : Option Addr} {c : Nat} {xs : List Item} {r nd : Int} {w w' : World} (h : KA W gb qb A c xs r nd w) (hb : Below w.heap.size w w') : KA W gb qb A c xs r nd w' :=
  ⟨pw_cell_below hb h.1, pw_cell_below hb h.2.1, pw_cell_below hb h.2.2.1, Kd.C_below h.2.2.2.1 hb, below_then h.2.2.2.2 (Nat.le_of_lt (World.block_lt_of_cell? _ _ h.2.1)) hb⟩
theorem KA.drew {W : World} {gb qb : Nat} {A : Option Addr} {c : Nat} {xs : List Item} {r nd : Int} {w : World} (h : KA W gb qb A c xs r nd w) : KA W gb qb A c xs r nd w.drew := h.step (below_drew (Below.refl _ _))
theorem KA.drewN {W : World} {gb qb : Nat} {A : Option Addr} {c : Nat} {xs : List Item} {r nd : Int} {w : World} (h : KA W gb qb A c xs r nd w) (m : Nat) : KA W gb qb A c xs r nd (w.drewN m) := h.step (pw_below_drewN (Below.refl _ _) m)
set_option maxHeartbeats 2000000 in
set_option maxRecDepth 100000 in
theorem ahead_calls (M : Nat → Prop) (N : Nat) (W : World) (qb n : Nat) (xs : List Item) (x : Item) (h : IsQ M N W qb xs n) :
    Calls Try.prog 19 #[.pointer (some ⟨qb, 0, none⟩), encI x] W fun e W' => e = .returned (.int .i64 (aheadE xs x)) ∧ Below W.heap.size W W' := by
  obtain ⟨sv, mb, h1, h2, h3, h4, h5, h6⟩ := h
  obtain ⟨r, nd⟩ := x
  obtain ⟨A, c, rfl, hcc, hC⟩ := Kd.Q_reads h4
  have hl := h6.2.1
  have hb0 := below_alloc (Below.refl W.heap.size W) (.cells #[.int .i64 r, .int .i64 nd] 31)
  have hcell0 : (W.alloc (.cells #[.int .i64 r, .int .i64 nd] 31)).cell? ⟨qb, 0, none⟩ = some (.slice A xs.length c) := (blk_cell (blk_below h3 hb0) 0).trans rfl
  have hbk := blk_new W (.cells #[.int .i64 r, .int .i64 nd] 31)
  have hz0 : (W.alloc (.cells #[.int .i64 r, .int .i64 nd] 31)).cell? ⟨W.heap.size, 0, none⟩ = some (.int .i64 r) := (blk_cell hbk 0).trans rfl
  have hz1 : (W.alloc (.cells #[.int .i64 r, .int .i64 nd] 31)).cell? ⟨W.heap.size, 1, none⟩ = some (.int .i64 nd) := (blk_cell hbk 1).trans rfl
  have HC := Aside0.mk (Kd.C_below hC hb0)
  have HB := Aside0.mk hb0
  have HCC := Aside0.mk hcc
  clear h5 h4 h3 h6 hC hb0 hbk hcc
  show Calls Try.prog 19 #[.pointer (some ⟨qb, 0, none⟩), .agg #[.int .i64 r, .int .i64 nd]] W _
  go_enter Try.func19, Try.ntmps19
  go_upto_region 3 with (fail)
  generalize W.alloc (.cells #[.int .i64 r, .int .i64 nd] 31) = W1 at *
  generalize hgb : W.heap.size = gb at *
  have K0 : KA W gb qb A c xs r nd W1 := ⟨hcell0, hz0, hz1, HC.out, HB.out⟩
  have HIx : Aside0 (∀ w, Kd.C KI w A xs.length xs → Calls Try.prog 24 #[.slice A xs.length c, .agg #[.int .i64 r, .int .i64 nd]] w fun e W' => e = .returned (.int .i64 (aheadE xs (r, nd))) ∧ Below w.heap.size w W') := Aside0.mk (fun w hC => index_calls A c xs (r, nd) w hC HCC.out (by omega))
  clear HC HB hcell0 hz0 hz1
  go_region_held3 (KA W gb qb A c xs r nd) (first | exact KA.drew (by assumption) | exact KA.drewN (by assumption) _ | exact KA.step (by assumption) (by assumption) | go_keep)
    (first | (go_at_call 24; with_reducible refine (HIx.out _ (And.left (And.right (And.right (And.right (by assumption : KA W gb qb A c xs r nd _)))))).mono ?_; rintro e w' ⟨rfl, hb⟩))
  all_goals
    (have KF := Aside0.mk (by assumption : KA W gb qb A c xs r nd _)
     clear K0
     go_wp2
     go_ret
     exact ⟨rfl, by rw [hgb]; exact KF.out.2.2.2.2⟩)
theorem KM_of_K {w w1 : World} {base : Nat} {ok : Nat → Prop} {x : Item} {cs : List Value} (h : KI.K w x cs) : KI.M w1 base ok x cs := by
  obtain ⟨_, _, rfl, rfl, rfl⟩ := h
  exact ⟨[.int .i64 x.1], [.int .i64 x.2], rfl, rfl, rfl⟩
theorem eqlNil (w : World) (A : Option Addr) (n c : Nat) : (binOp .eql 32 (.slice A n c) (.slice none 0 0)).run Try.prog w = .ok (.bool A.isNone) w := by
  have h : ∀ d : Nat, (Op.equalIn (d + 1) 32 (.slice A n c) (.slice none 0 0)).run Try.prog w = .ok A.isNone w := fun d => by
    cases A <;> simp [Op.equalIn, run_underlying Try.underlying32]
  simp only [binOp]
  simp [Op.equal, Op.maxDepth, h 9999]
attribute [local go_sem high] eqlNil
theorem C_none {w : World} {n : Nat} {xs : List Item} (h : Kd.C KI w none n xs) : n = 0 := by
  rcases Nat.eq_zero_or_pos n with h0 | h0
  · exact h0
  · obtain ⟨ad, e, _⟩ := at_I h 0 h0
    cases e
set_option maxHeartbeats 2000000 in
set_option maxRecDepth 100000 in
theorem clone_calls (A : Option Addr) (c : Nat) (xs : List Item) (W : World) (hr : Kd.C KI W A xs.length xs) (hl : xs.length ≤ 1000000) :
    Calls Try.prog 20 #[.slice A xs.length c] W fun e W' => ∃ A' c', e = .returned (.slice A' xs.length c') ∧ KI.Q 31 W' W.heap.size (fun _ => True) (.slice A' xs.length c') xs ∧ Below W.heap.size W W' := by
  have HR := Aside0.mk hr
  clear hr
  have HB := Aside0.mk (Below.refl W.heap.size W)
  cases A with
  | none =>
    have h0 := C_none HR.out
    have hxs : xs = [] := List.length_eq_zero_iff.1 h0
    subst hxs
    go_enter Try.func20, Try.ntmps20
    go_wp2
    go_ret
    exact ⟨none, 0, rfl, Kd.Q_nil _ _ _ _ _, HB.out⟩
  | some ad =>
    go_enter Try.func20, Try.ntmps20
    go_upto_region 3 with (fail)
    go_wp2_with (first
      | ((with_reducible refine gate_dst (N := 5) rfl ?_); go_loud (refine Kd.R_lit KI W.heap.size 31 rfl rfl (xs := []) (inner := []) (ok := fun _ => True) (okp := fun _ => True) (by first | (go_simp; done) | (go_simp; rfl)) ⟨rfl, fun j p h => by simp at h⟩ (fun _ h => h) trivial (Below.refl _ _) (Nat.le_refl _) (by decide) ?_; intro v1 w1 ho hb hg hnew; obtain ⟨A1, c1, rfl⟩ := Kd.R_slice ho; have HO := Aside0.mk ho; have HN := Aside0.mk hnew; have n0 := Aside0.mk hb; clear HB ho hb hg hnew; have HB := n0; clear n0))
      | ((with_reducible refine gate_dst (N := 7) rfl ?_); go_loud (refine Kd.R_append_rows KI (Rr := KI.K w1) (w0 := W) W.heap.size rfl (.tmp 5) (.tmp 6) 32 31 (.agg #[.int .i64 0, .int .i64 0]) 16 rfl Try.underlying32 info31 rfl (by decide) (by decide) _ [] xs (some ad) xs.length c (fun _ => True) (fun _ => False) rfl rfl HO.out (Kd.C_below HR.out HB.out) (fun x cs h => KM_of_K h) (fun _ h => h.elim) (fun _ _ => trivial) HB.out HB.out.size (by simp; omega) ?_; intro v2 w2 ho hb hg hat; rw [List.nil_append] at ho; obtain ⟨A2, c2, rfl⟩ := Kd.R_slice ho; have HO2 := Aside0.mk ho; have n0 := Aside0.mk hb; clear HB HO ho hb hg hat; have HB := n0; clear n0)))
    go_ret
    exact ⟨A2, c2, rfl, Kd.Q_of_R HO2.out, HB.out⟩
set_option maxHeartbeats 2000000 in
set_option maxRecDepth 100000 in
theorem list_calls (M : Nat → Prop) (N : Nat) (W : World) (qb n : Nat) (xs : List Item) (h : IsQ M N W qb xs n) :
    Calls Try.prog 11 #[.pointer (some ⟨qb, 0, none⟩)] W fun e W' => ∃ A' c', e = .returned (.slice A' xs.length c') ∧ KI.Q 31 W' W.heap.size (fun _ => True) (.slice A' xs.length c') xs ∧ Below W.heap.size W W' := by
  obtain ⟨sv, mb, h1, h2, h3, h4, h5, h6⟩ := h
  obtain ⟨A, c, rfl, hcc, hC⟩ := Kd.Q_reads h4
  have hl := h6.2.1
  have hcell0 : W.cell? ⟨qb, 0, none⟩ = some (.slice A xs.length c) := (blk_cell h3 0).trans rfl
  have HC := Aside0.mk hC
  clear h5 h4 h3 h6 hC
  go_enter Try.func11, Try.ntmps11
  go_wp2_with (first | (go_at_call 20; go_loud (refine (clone_calls A c xs W HC.out (by omega)).mono ?_; rintro e w' ⟨A', c', rfl, hq, hb⟩; have HQ := Aside0.mk hq; have HB := Aside0.mk hb; clear hq hb)))
  go_ret
  exact ⟨A', c', rfl, HQ.out, HB.out⟩
end Go.Proofs.Ytcnecdlphpkmgaa.Q
