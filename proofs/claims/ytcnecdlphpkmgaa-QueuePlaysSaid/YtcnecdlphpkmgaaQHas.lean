/- Has, Pop. No condition beyond numbers being numbers of 64 bits. -/
import Derived.Test.YtcnecdlphpkmgaaQBase
import Derived.Test.YtcnecdlphpkmgaaWGuard
namespace Go.Proofs.Ytcnecdlphpkmgaa.Q
open Go.RowKit Go.Proofs.YtcnecdlphpkmgaaW.PrintWords Go.Proofs.YtcnecdlphpkmgaaW.PrintLast Go.Proofs.YtcnecdlphpkmgaaW.PrintMore
set_option linter.unusedVariables false
set_option linter.unusedSimpArgs false

theorem at_I {w : World} {A : Option Addr} {n : Nat} {xs : List Item} (h : Kd.C KI w A n xs) (i : Nat) (h1 : i < n) : ∃ ad, A = some ad ∧ w.cell? (ad.add (i * 2)) = some (.int .i64 (xs.getD i (0, 0)).1) ∧ w.cell? ⟨(ad.add (i * 2)).block, (ad.add (i * 2)).off + 1, none⟩ = some (.int .i64 (xs.getD i (0, 0)).2) := by
  obtain ⟨ad, c, e, _, hK, hc0⟩ := Kd.C_get h (0, 0) (i : Int) (by omega) (by omega)
  have hc : ∀ j u, c[j]? = some u → w.cell? (ad.add (i * 2 + j)) = some u := hc0
  obtain ⟨_, _, rfl, rfl, rfl⟩ := hK
  exact ⟨ad, e, hc 0 _ rfl, by rw [← add_field _ _ 1 (by omega)]; exact hc 1 _ rfl⟩

set_option maxHeartbeats 2000000 in
set_option maxRecDepth 100000 in
theorem has_calls (M : Nat → Prop) (N : Nat) (W : World) (qb n : Nat) (xs : List Item) (x : Item) (h : IsQ M N W qb xs n) (hx : wfI x) :
    Calls Try.prog 12 #[.pointer (some ⟨qb, 0, none⟩), encI x] W fun e W' => e = .returned (.bool (xs.contains x)) ∧ Below W.heap.size W W' := by
  obtain ⟨sv, mb, h1, h2, h3, h4, h5, h6⟩ := h
  obtain ⟨r, nd⟩ := x
  have hb0 := below_alloc (Below.refl W.heap.size W) (.cells #[.int .i64 r, .int .i64 nd] 31)
  have hset1 := h5.kept (grown_of_below hb0 none) (by simp)
  have hq1 := blk_alloc h3 (.cells #[.int .i64 r, .int .i64 nd] 31)
  have hcell1 : (W.alloc (.cells #[.int .i64 r, .int .i64 nd] 31)).cell? ⟨qb, 1, none⟩ = some (.map (some mb)) := (blk_cell hq1 1).trans rfl
  have hlook : ∀ k, (Instr.lookup 56 (.map (some mb)) (.agg #[.int .i64 r, .int .i64 nd]) false).run Try.prog ((W.alloc (.cells #[.int .i64 r, .int .i64 nd] 31)).drewN k) = .ok (.bool (xs.contains (r, nd))) ((W.alloc (.cells #[.int .i64 r, .int .i64 nd] 31)).drewN k) := fun k => (hset1.drewN k).look hx
  have HB := Aside0.mk hb0
  clear h5 h4 h3 hset1 hb0 h6 hq1
  show Calls Try.prog 12 #[.pointer (some ⟨qb, 0, none⟩), .agg #[.int .i64 r, .int .i64 nd]] W _
  go_enter Try.func12, Try.ntmps12
  go_upto_region 1 with (fail)
  go_quiet (fail)
  go_wp2
  go_ret
  exact ⟨by simp, pw_below_drewN HB.out _⟩
end Go.Proofs.Ytcnecdlphpkmgaa.Q
