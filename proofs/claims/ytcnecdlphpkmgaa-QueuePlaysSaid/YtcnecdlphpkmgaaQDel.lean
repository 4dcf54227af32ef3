/- Drop's closure. No condition beyond numbers being numbers of 64 bits. -/
import Derived.Test.YtcnecdlphpkmgaaQList
namespace Go.Proofs.Ytcnecdlphpkmgaa.Q
open Go.RowKit Go.Proofs.YtcnecdlphpkmgaaW.PrintWords Go.Proofs.YtcnecdlphpkmgaaW.PrintLast Go.Proofs.YtcnecdlphpkmgaaW.PrintMore
set_option linter.unusedVariables false
set_option linter.unusedSimpArgs false

/-- What Drop's closure finds. -/
def DSt (qb mb rb pb n : Nat) (run : Int) (sv : Value) (w : World) (S : List Item) : Prop :=
  w.heap[qb]? = some (.cells #[sv, .map (some mb)] 58 (0, 0)) ∧ w.heap[rb]? = some (.cells #[.int .i64 run] 2 (0, 0)) ∧ w.heap[pb]? = some (.cells #[.pointer (some ⟨qb, 0, none⟩)] 23 (0, 0)) ∧ SetOf w mb n S
section
variable {qb mb rb pb n : Nat} {run : Int} {sv : Value} {w w' : World} {S S' : List Item}
theorem DSt.grown (h : DSt qb mb rb pb n run sv w S) (hg : w.grownBy w' (some mb)) (hs : SetOf w' mb n S') : DSt qb mb rb pb n run sv w' S' := by
  obtain ⟨h1, h2, h3, h4⟩ := h
  exact ⟨blk_grown h1 hg (fun he => h4.ne h1 (by injection he with he; exact he.symm)), blk_grown h2 hg (fun he => h4.ne h2 (by injection he with he; exact he.symm)), blk_grown h3 hg (fun he => h4.ne h3 (by injection he with he; exact he.symm)), hs⟩
theorem DSt.below (h : DSt qb mb rb pb n run sv w S) (hb : Below w.heap.size w w') : DSt qb mb rb pb n run sv w' S := by
  obtain ⟨h1, h2, h3, h4⟩ := h
  exact ⟨blk_below h1 hb, blk_below h2 hb, blk_below h3 hb, h4.kept (grown_of_below hb none) (by simp)⟩
/-- A write into a row of items. -/
theorem DSt.row (h : DSt qb mb rb pb n run sv w S) {g : Nat} {cs : Array Value} (hg : w.grownBy w' (some g)) (hc : w.heap[g]? = some (.cells cs 31 (0, 0))) : DSt qb mb rb pb n run sv w' S := by
  obtain ⟨h1, h2, h3, h4⟩ := h
  exact ⟨blk_grown h1 hg (fun he => blk_ne h1 hc (by decide) (by injection he)), blk_grown h2 hg (fun he => blk_ne h2 hc (by decide) (by injection he)), blk_grown h3 hg (fun he => blk_ne h3 hc (by decide) (by injection he)), h4.kept hg (fun he => h4.ne hc (by injection he))⟩
end
def delS (run : Int) (S : List Item) (x : Item) : List Item := if x.1 == run then S.filter (fun y => y != x) else S

set_option maxHeartbeats 2000000 in
set_option maxRecDepth 100000 in
theorem del_calls (qb mb rb pb n : Nat) (run : Int) (sv : Value) (w : World) (S : List Item) (x : Item) (h : DSt qb mb rb pb n run sv w S) (hx : wfI x) :
    Calls Try.prog 23 #[encI x, .pointer (some ⟨rb, 0, none⟩), .pointer (some ⟨pb, 0, none⟩)] w fun e w' => e = .returned (.bool (x.1 == run)) ∧ w.grownBy w' (some mb) ∧ SetOf w' mb n (delS run S x) := by
  obtain ⟨r, nd⟩ := x
  have hb0 := below_alloc (Below.refl w.heap.size w) (.cells #[.int .i64 r, .int .i64 nd] 31)
  have hbk := blk_new w (.cells #[.int .i64 r, .int .i64 nd] 31)
  have hD := h.below hb0
  have hg0 := (grown_of_below hb0 (some mb))
  clear h hb0
  show Calls Try.prog 23 #[.agg #[.int .i64 r, .int .i64 nd], .pointer (some ⟨rb, 0, none⟩), .pointer (some ⟨pb, 0, none⟩)] w _
  go_enter Try.func23, Try.ntmps23
  go_upto_region 1 with (fail)
  generalize w.alloc (.cells #[.int .i64 r, .int .i64 nd] 31) = w1 at *
  generalize w.heap.size = gb at *
  have D := Aside0.mk hD
  obtain ⟨hq, hr, hp, hS⟩ := hD
  have hS0 := Aside0.mk hS
  clear hS
  have hz0 : w1.cell? ⟨gb, 0, none⟩ = some (.int .i64 r) := (blk_cell hbk 0).trans rfl
  have hz1 : w1.cell? ⟨gb, 1, none⟩ = some (.int .i64 nd) := (blk_cell hbk 1).trans rfl
  have hcr : w1.cell? ⟨rb, 0, none⟩ = some (.int .i64 run) := (blk_cell hr 0).trans rfl
  have hcp : w1.cell? ⟨pb, 0, none⟩ = some (.pointer (some ⟨qb, 0, none⟩)) := (blk_cell hp 0).trans rfl
  have hcq : w1.cell? ⟨qb, 1, none⟩ = some (.map (some mb)) := (blk_cell hq 1).trans rfl
  by_cases hrun : r = run
  · have hcond : (r == run) = true := by simp [hrun]
    have hcond2 : decide (r = run) = true := by simp [hrun]
    have hE : delS run S (r, nd) = S.filter (fun y => y != (r, nd)) := by unfold delS; rw [if_pos hcond]
    have HRUN := Aside0.mk hrun
    clear hrun
    obtain ⟨w4, hdel, hS4, hg4⟩ := (hS0.out.drewN 1).drop hx 0
    have hdel : Sem.run Try.prog (Builtin.delete_ #[56, 31] 0 #[.map (some mb), .agg #[.int .i64 r, .int .i64 nd]]) w1.drew = Result.ok (Value.tuple #[]) w4 := hdel
    have hg4 : w1.drew.grownBy w4 (some mb) := hg4
    have hz40 : w4.cell? ⟨gb, 0, none⟩ = some (.int .i64 r) := cell_grown hg4 (show w1.drew.cell? ⟨gb, 0, none⟩ = _ from hz0) (fun he => hS0.out.ne hbk (by injection he with he; exact he.symm))
    have hcr4 : w4.cell? ⟨rb, 0, none⟩ = some (.int .i64 run) := cell_grown hg4 (show w1.drew.cell? ⟨rb, 0, none⟩ = _ from hcr) (fun he => hS0.out.ne hr (by injection he with he; exact he.symm))
    have HS4 := Aside0.mk hS4
    have HG4 := Aside0.mk (hg0.trans ((grown_of_below (below_drew (Below.refl _ w1)) (some mb)).trans hg4))
    clear hS4 hg4 hg0
    go_upto_region 2 with (fail)
    go_still_tail 5, (by kernel_rfl)
    change wpList _ _ _ _ _ w1.drew
    refine quiet_event (w1 := w4) (v := .tuple #[]) rfl rfl (by first | (go_simp; done) | (go_simp; rw [hdel]; rfl)) ?_
    intro w5 hw5
    subst hw5
    go_wp2
    go_ret
    rw [hE]
    exact ⟨by simp [HRUN.out], HG4.out, HS4.out⟩
  · have hcond : (r == run) = false := by simp [hrun]
    have hcond2 : decide (r = run) = false := by simp [hrun]
    have hE : delS run S (r, nd) = S := by unfold delS; rw [if_neg (by simpa using hrun)]
    have HRUN := Aside0.mk hrun
    clear hrun
    go_wp2
    go_ret
    rw [hE]
    exact ⟨by simp [HRUN.out], hg0, hS0.out⟩
end Go.Proofs.Ytcnecdlphpkmgaa.Q
