/- The nil queue's answers; what the laws' own check of the document's example answers. No condition. -/
import Derived.Test.YtcnecdlphpkmgaaQNew
namespace Go.Proofs.Ytcnecdlphpkmgaa.Q
open Go.RowKit Go.Proofs.YtcnecdlphpkmgaaW.PrintWords Go.Proofs.YtcnecdlphpkmgaaW.PrintLast Go.Proofs.YtcnecdlphpkmgaaW.PrintMore
set_option linter.unusedVariables false
set_option linter.unusedSimpArgs false

set_option maxHeartbeats 2000000 in
set_option maxRecDepth 100000 in
theorem pop_nilq (W : World) : Calls Try.prog 14 #[.pointer none] W fun e W' => e = .returned (popE []) ∧ Below W.heap.size W W' := by
  go_enter Try.func14, Try.ntmps14
  go_wp2
  refine bodyPost_ret (v := popE []) ?_ rfl ?_
  · simp [results, Try.results14, go_sem, popE, encI]
  · exact ⟨rfl, below_alloc (Below.refl _ _) _⟩
set_option maxRecDepth 100000 in
theorem push_nilq (W : World) (r nd : Int) : Calls Try.prog 10 #[.pointer none, .agg #[.int .i64 r, .int .i64 nd]] W fun e W' => e = .returned (.int .i64 1) ∧ Below W.heap.size W W' := by
  have hb := below_alloc (Below.refl W.heap.size W) (.cells #[.int .i64 r, .int .i64 nd] 31)
  go_enter Try.func10, Try.ntmps10
  go_wp2
  go_ret
  exact ⟨rfl, hb⟩
set_option maxRecDepth 100000 in
theorem drop_nilq (W : World) (r : Int) : Calls Try.prog 16 #[.pointer none, .int .i64 r] W fun e W' => e = .returned (.int .i64 0) ∧ Below W.heap.size W W' := by
  have hb := below_alloc (below_alloc (Below.refl W.heap.size W) (.cells #[.pointer none] 23)) (.cells #[.int .i64 r] 2)
  have hc := pw_cell_below (below_alloc (Below.refl _ (W.alloc (.cells #[.pointer none] 23))) (.cells #[.int .i64 r] 2)) ((blk_cell (blk_new W (.cells #[.pointer none] 23)) 0).trans rfl)
  go_enter Try.func16, Try.ntmps16
  go_wp2
  go_ret
  exact ⟨rfl, hb⟩
set_option maxHeartbeats 2000000 in
set_option maxRecDepth 100000 in
theorem has_nilq (W : World) (r nd : Int) : Calls Try.prog 12 #[.pointer none, .agg #[.int .i64 r, .int .i64 nd]] W fun e W' => e = .returned (.bool false) ∧ Below W.heap.size W W' := by
  have hb := Aside0.mk (below_alloc (Below.refl W.heap.size W) (.cells #[.int .i64 r, .int .i64 nd] 31))
  go_enter Try.func12, Try.ntmps12
  go_upto_region 1 with (fail)
  go_quiet (fail)
  go_wp2
  go_ret
  exact ⟨rfl, pw_below_drewN hb.out _⟩
set_option maxRecDepth 100000 in
theorem ahead_nilq (W : World) (r nd : Int) : Calls Try.prog 19 #[.pointer none, .agg #[.int .i64 r, .int .i64 nd]] W fun e W' => e = .returned (.int .i64 (-1)) ∧ Below W.heap.size W W' := by
  have hb := below_alloc (Below.refl W.heap.size W) (.cells #[.int .i64 r, .int .i64 nd] 31)
  go_enter Try.func19, Try.ntmps19
  go_wp2
  go_ret
  exact ⟨rfl, hb⟩
set_option maxRecDepth 100000 in
theorem list_nilq (W : World) : Calls Try.prog 11 #[.pointer none] W fun e W' => e = .returned (.slice none 0 0) ∧ Below W.heap.size W W' := by
  go_enter Try.func11, Try.ntmps11
  go_wp2
  go_ret
  exact ⟨rfl, Below.refl _ _⟩

theorem new_ok (M : Nat → Prop) (W : World) (A : Option Addr) (c : Nat) (ys zs : List Item) (hr : Kd.C KI W A ys.length ys) (hw : ∀ x ∈ ys, wfI x) (hl : ys.length ≤ 100000) (h : newR [] ys = (0, zs)) (hM : ∀ k, W.heap.size ≤ k → M k) :
    Calls Try.prog 8 #[.slice A ys.length c] W fun e W' => ∃ qb, e = .returned (.tuple #[.pointer (some ⟨qb, 0, none⟩), .int .i64 0]) ∧ IsQ M W.heap.size W' qb zs ys.length ∧ Below W.heap.size W W' :=
  (new_calls M W A c ys hr hw hl hM).mono fun e w' ⟨hb, hh⟩ => by
    rcases hh with ⟨qb, h1, _, h3⟩ | ⟨_, h2⟩
    · exact ⟨qb, h1, by rw [h] at h3; exact h3, hb⟩
    · rw [h] at h2; exact absurd rfl h2

set_option maxHeartbeats 4000000 in
set_option maxRecDepth 100000 in
theorem wakes_calls (W : World) : Calls Try.prog 9 #[] W fun e W' => e = .returned (.bool true) ∧ Below W.heap.size W W' := by
  have HB := Aside0.mk (Below.refl W.heap.size W)
  have wf3 : ∀ x ∈ ([(1, 0), (2, 0), (1, 1)] : List Item), wfI x := by
    intro x hx
    simp at hx
    rcases hx with rfl | rfl | rfl <;> exact ⟨rfl, rfl⟩
  have HW3 := Aside0.mk wf3
  have HN := Aside0.mk (show newR [] [(1, 0), (2, 0), (1, 1)] = (0, [(1, 0), (2, 0), (1, 1)]) by decide)
  clear wf3
  go_enter Try.func9, Try.ntmps9
  go_upto_region 2 with (first
    | ((with_reducible refine gate_dst (N := 9) rfl ?_); go_loud (refine Kd.R_lit KI W.heap.size 31 rfl rfl (xs := [(1, 0), (2, 0), (1, 1)]) (inner := [.int .i64 1, .int .i64 0, .int .i64 2, .int .i64 0, .int .i64 1, .int .i64 1]) (ok := fun _ => True) (okp := fun _ => True) (by first | (go_simp; done) | (go_simp; rfl)) ?hrep (fun _ h => h) trivial (Below.refl _ _) (Nat.le_refl _) (by decide) ?_; (case hrep => refine ⟨rfl, fun j p hj => ?_⟩; match j, hj with | 0, hj => (cases hj; exact ⟨[.int .i64 1], [.int .i64 0], rfl, rfl, rfl⟩) | 1, hj => (cases hj; exact ⟨[.int .i64 2], [.int .i64 0], rfl, rfl, rfl⟩) | 2, hj => (cases hj; exact ⟨[.int .i64 1], [.int .i64 1], rfl, rfl, rfl⟩)); intro v1 w1 ho hb hg hnew; obtain ⟨A1, c1, rfl⟩ := Kd.R_slice ho; have HO := Aside0.mk ho; have n0 := Aside0.mk hb; clear HB ho hb hg hnew; have HB := n0; clear n0))
    | (go_at_call 8; go_loud (refine (new_ok (fun _ => True) w1 A1 c1 _ _ (Kd.R_reads' HO.out).2.2 HW3.out (by decide) HN.out (fun _ _ => trivial)).mono ?_; rintro e w2 ⟨qb, rfl, hq, hb⟩; have HQ := Aside0.mk hq; have hszq := HB.out.size; have hsz2 := hb.size; have n0 := Aside0.mk (below_step HB.out hb); clear HB hq hb; have HB := n0; clear n0)))
  have HD := Aside0.mk (show Calls Try.prog 16 #[.pointer (some ⟨qb, 0, none⟩), .int .i64 1] w2 (fun e W' => e = .returned (.int .i64 2) ∧ IsQ (fun _ => True) w1.heap.size W' qb [(2, 0)] 3 ∧ Fr w1.heap.size (fun _ => True) w2 W') from drop_calls (fun _ => True) w1.heap.size w2 qb 3 [(1, 0), (2, 0), (1, 1)] 1 HQ.out hsz2)
  go_upto_region 4 with (first | (go_at_call 16; go_loud (refine HD.out.mono ?_; rintro e w3 ⟨rfl, hq, hb⟩; have HQ3 := Aside0.mk hq; have hsz3 := hb.1.size; have n0 := Aside0.mk (HB.out.trans (hb.1.mono hszq)); clear HB hq hb; have HB := n0; clear n0)))
  have HP := Aside0.mk (show Calls Try.prog 14 #[.pointer (some ⟨qb, 0, none⟩)] w3 (fun e W' => e = .returned (.tuple #[.agg #[.int .i64 2, .int .i64 0], .bool true]) ∧ IsQ (fun _ => True) w1.heap.size W' qb [] 3 ∧ Fr w1.heap.size (fun _ => True) w3 W') from pop_calls (fun _ => True) w1.heap.size w3 qb 3 [(2, 0)] HQ3.out (by omega))
  go_upto_region 5 with (first | (go_at_call 14; go_loud (refine HP.out.mono ?_; rintro e w4 ⟨rfl, hq, hb⟩; have n0 := Aside0.mk (HB.out.trans (hb.1.mono hszq)); clear HB hq hb; have HB := n0; clear n0)))
  have hb5 := below_alloc HB.out (.cells #[.int .i64 2, .int .i64 0] 31)
  have hz : (w4.alloc (.cells #[.int .i64 2, .int .i64 0] 31)).cell? ⟨w4.heap.size, 0, none⟩ = some (.int .i64 2) := (blk_cell (blk_new w4 _) 0).trans rfl
  go_wp2
  go_ret
  exact ⟨by first | rfl | simp, hb5⟩
end Go.Proofs.Ytcnecdlphpkmgaa.Q
