/- QueueNil: the walk. No condition. -/
import Derived.Test.YtcnecdlphpkmgaaQWakes
namespace Go.Proofs.Ytcnecdlphpkmgaa.Q
open Go.RowKit Go.Proofs.YtcnecdlphpkmgaaW.PrintWords Go.Proofs.YtcnecdlphpkmgaaW.PrintLast Go.Proofs.YtcnecdlphpkmgaaW.PrintMore
set_option linter.unusedVariables false
set_option linter.unusedSimpArgs false

set_option maxHeartbeats 4000000 in
set_option maxRecDepth 100000 in
theorem nil_walk (W : World) (r nd : Int) : Calls Try.prog 6 #[.agg #[.int .i64 r, .int .i64 nd]] W fun e W' => e = .returned (.bool true) ∧ Below W.heap.size W W' := by
  have hb0 := below_alloc (Below.refl W.heap.size W) (.cells #[.int .i64 r, .int .i64 nd] 29)
  have hbk0 := blk_new W (.cells #[.int .i64 r, .int .i64 nd] 29)
  have HB := Aside0.mk hb0
  have HK := Aside0.mk hbk0
  clear hb0 hbk0
  go_enter Try.func6, Try.ntmps6
  go_upto_region 1 with (fail)
  have hsz0 : (W.alloc (.cells #[.int .i64 r, .int .i64 nd] 29)).heap.size = W.heap.size + 1 := by simp
  generalize W.alloc (.cells #[.int .i64 r, .int .i64 nd] 29) = w1 at *
  go_upto_region 3 with (first | (go_at_call 14; go_loud (refine (pop_nilq _).mono ?_; rintro e w2 ⟨rfl, hb⟩; have hsz2 := hb.size; have HK2 := Aside0.mk (blk_below HK.out hb); have n0 := Aside0.mk (below_step HB.out hb); clear HB HK hb; have HB := n0; have HK := HK2; clear n0 HK2; unfold popE encI)))
  have hb5 := below_alloc (Below.refl w2.heap.size w2) (.cells #[.int .i64 0, .int .i64 0] 31)
  have HB := Aside0.mk (below_step HB.out hb5)
  have HK := Aside0.mk (blk_below HK.out hb5)
  clear hb5
  generalize w2.alloc (.cells #[.int .i64 0, .int .i64 0] 31) = w3 at *
  have hz0 : w3.cell? ⟨W.heap.size, 0, none⟩ = some (.int .i64 r) := (blk_cell HK.out 0).trans rfl
  have hz1 : w3.cell? ⟨W.heap.size, 1, none⟩ = some (.int .i64 nd) := (blk_cell HK.out 1).trans rfl
  go_wp2_with (first
    | (go_at_call 9; go_loud (refine (wakes_calls _).mono ?_; rintro e w4 ⟨rfl, hb⟩; have hz0 := pw_cell_below hb hz0; have hz1 := pw_cell_below hb hz1; have n0 := Aside0.mk (below_step HB.out hb); clear HB HK hb; have HB := n0; clear n0))
    | (go_at_call 10; go_loud (refine (push_nilq _ _ _).mono ?_; rintro e w5 ⟨rfl, hb⟩; have hz0 := pw_cell_below hb hz0; have hz1 := pw_cell_below hb hz1; have n0 := Aside0.mk (below_step HB.out hb); clear HB hb; have HB := n0; clear n0))
    | (go_at_call 16; go_loud (refine (drop_nilq _ _).mono ?_; rintro e w6 ⟨rfl, hb⟩; have hz0 := pw_cell_below hb hz0; have hz1 := pw_cell_below hb hz1; have n0 := Aside0.mk (below_step HB.out hb); clear HB hb; have HB := n0; clear n0))
    | (go_at_call 12; go_loud (refine (has_nilq _ _ _).mono ?_; rintro e w7 ⟨rfl, hb⟩; have hz0 := pw_cell_below hb hz0; have hz1 := pw_cell_below hb hz1; have n0 := Aside0.mk (below_step HB.out hb); clear HB hb; have HB := n0; clear n0))
    | (go_at_call 19; go_loud (refine (ahead_nilq _ _ _).mono ?_; rintro e w8 ⟨rfl, hb⟩; have hz0 := pw_cell_below hb hz0; have hz1 := pw_cell_below hb hz1; have n0 := Aside0.mk (below_step HB.out hb); clear HB hb; have HB := n0; clear n0))
    | (go_at_call 11; go_loud (refine (list_nilq _).mono ?_; rintro e w9 ⟨rfl, hb⟩; have n0 := Aside0.mk (below_step HB.out hb); clear HB hb; have HB := n0; clear n0)))
  go_ret
  exact ⟨by first | rfl | simp, HB.out⟩
end Go.Proofs.Ytcnecdlphpkmgaa.Q
