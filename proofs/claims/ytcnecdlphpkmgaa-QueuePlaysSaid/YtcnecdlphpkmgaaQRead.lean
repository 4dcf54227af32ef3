/- Index, Ahead. No condition beyond numbers being numbers of 64 bits. -/
import Derived.Test.YtcnecdlphpkmgaaQPop
import Derived.Test.YtcnecdlphpkmgaaWEqStruct
namespace Go.Proofs.Ytcnecdlphpkmgaa.Q
open Go.RowKit Go.Proofs.YtcnecdlphpkmgaaW.PrintWords Go.Proofs.YtcnecdlphpkmgaaW.PrintLast Go.Proofs.YtcnecdlphpkmgaaW.PrintMore
set_option linter.unusedVariables false
set_option linter.unusedSimpArgs false

theorem eqA31 (d : Nat) (w : World) (x0 y0 : Int) (x1 y1 : Int) :
    (Op.equalIn (d + 2) 31 (.agg #[.int .i64 x0, .int .i64 x1]) (.agg #[.int .i64 y0, .int .i64 y1])).run Try.prog w = .ok (x0 == y0 && (x1 == y1)) w := by
  refine eqA_of Try.underlying31 (by kernel_rfl) ?_
  refine eqf_cons (by rfl) (by go_simp; rfl) (by go_simp; rfl) (by go_simp) ?_
  exact eqf_last (by rfl) (by go_simp; rfl) (by go_simp; rfl) (by go_simp)
attribute [local go_sem high] eqA31

def rdI (xs : List Item) (p : Int) : Item := xs.getD p.toNat (0, 0)
theorem at_Ip {w : World} {A : Option Addr} {n : Nat} {xs : List Item} (h : Kd.C KI w A n xs) (p : Int) (h0 : 0 ≤ p) (h1 : p < n) : ∃ ad, A = some ad ∧ w.cell? (ad.add (p.toNat * 2)) = some (.int .i64 (rdI xs p).1) ∧ w.cell? ⟨(ad.add (p.toNat * 2)).block, (ad.add (p.toNat * 2)).off + 1, none⟩ = some (.int .i64 (rdI xs p).2) :=
  at_I h p.toNat (by omega)
theorem wrap_succ (i : Nat) (h : i < 9223372036854775807) : wrap64 ((i : Int) + 1) = ((i + 1 : Nat) : Int) := by unfold wrap64; omega
def intOf : Value → Int
  | .int _ x => x
  | _ => 0
def aheadE (xs : List Item) (x : Item) : Int := if xs.contains x then (xs.idxOf x : Nat) else -1
theorem aheadE_at (xs : List Item) (x : Item) (i : Nat) (hi : i < xs.length) (h : ∀ j, j < i → xs.getD j (0, 0) ≠ x) (hx : xs.getD i (0, 0) = x) : aheadE xs x = (i : Int) := by
  have hx' : xs[i] = x := by simpa [List.getD_eq_getElem?_getD, hi] using hx
  have hm : xs.contains x = true := by simp; exact hx' ▸ List.getElem_mem hi
  unfold aheadE
  rw [if_pos hm]
  congr 1
  have h1 : xs.idxOf x ≤ i := by
    rcases Nat.lt_or_ge i (xs.idxOf x) with hlt | hge
    · have := List.not_of_lt_findIdx (p := fun y => y == x) (xs := xs) (i := i) hlt
      simp [hx'] at this
    · exact hge
  rcases Nat.lt_or_ge (xs.idxOf x) i with hlt | hge
  · have hlt2 : xs.idxOf x < xs.length := by omega
    have := List.getElem_idxOf hlt2
    have h2 := h _ hlt
    rw [List.getD_eq_getElem?_getD, List.getElem?_eq_getElem hlt2] at h2
    exact absurd this h2
  · omega
theorem aheadE_none (xs : List Item) (x : Item) (h : ∀ j, j < xs.length → xs.getD j (0, 0) ≠ x) : aheadE xs x = -1 := by
  unfold aheadE
  rw [if_neg]
  simp only [List.contains_iff_mem]
  intro hm
  obtain ⟨j, hj, e⟩ := List.mem_iff_getElem.1 hm
  have := h j hj
  rw [List.getD_eq_getElem?_getD, List.getElem?_eq_getElem hj] at this
  exact this e

set_option maxHeartbeats 2000000 in
set_option maxRecDepth 100000 in
theorem index_calls (A : Option Addr) (c : Nat) (xs : List Item) (x : Item) (W : World) (hr : Kd.C KI W A xs.length xs) (hc : xs.length ≤ c) (hl : xs.length ≤ 1000000) :
    Calls Try.prog 24 #[.slice A xs.length c, encI x] W fun e W' => e = .returned (.int .i64 (aheadE xs x)) ∧ Below W.heap.size W W' := by
  have hu31 := Try.underlying31
  obtain ⟨r, nd⟩ := x
  have HR := Aside0.mk hr
  have HC := Aside0.mk hc
  have hb0 := below_alloc (Below.refl W.heap.size W) (.cells #[.int .i64 r, .int .i64 nd] 31)
  have hbk := blk_new W (.cells #[.int .i64 r, .int .i64 nd] 31)
  have HB := Aside0.mk hb0
  have HBK := Aside0.mk hbk
  clear hr hc hb0 hbk
  show Calls Try.prog 24 #[.slice A xs.length c, .agg #[.int .i64 r, .int .i64 nd]] W _
  go_enter Try.func24, Try.ntmps24
  go_upto_region 1 with (fail)
  generalize W.alloc (.cells #[.int .i64 r, .int .i64 nd] 31) = W1 at *
  have hg0 : W.heap.size ≤ W.heap.size := Nat.le_refl _
  generalize hgb : W.heap.size = gb at *
  go_wp2
  go_loopw [8] (fun v8 wr => ∃ (p : Int) (i : Nat), v8 = .int .i64 p ∧ Aside0 (p = (i : Int)) ∧ i ≤ xs.length ∧ (∀ j, j < i → xs.getD j (0, 0) ≠ (r, nd)) ∧ Aside0 (Below gb W wr) ∧ Aside0 (wr.heap[gb]? = some (.cells #[.int .i64 r, .int .i64 nd] 31 (0, 0)))) (fun v8 _ => xs.length - (intOf v8).toNat)
  case atStart => exact ⟨_, 0, rfl, Aside0.mk rfl, by omega, fun j hj => by omega, HB, HBK⟩
  case round =>
    clear HB HBK
    obtain ⟨p, i, rfl, HP, hi, hne, HB, HBK⟩ := hrel
    by_cases hin : i < xs.length
    · have hlt : decide (p < (xs.length : Int)) = true := decide_eq_true (by rw [HP.out]; omega)
      have hp0 : 0 ≤ p := by rw [HP.out]; omega
      have hp1 : p < (xs.length : Int) := by rw [HP.out]; omega
      have HW : Aside0 (p + 1 = ((i + 1 : Nat) : Int)) := Aside0.mk (by rw [HP.out]; omega)
      obtain ⟨ad, e, hx0, hx1⟩ := at_Ip HR.out p hp0 hp1
      cases e
      replace hx0 := (HB.out.cell (by rw [← hgb]; exact World.block_lt_of_cell? W _ hx0)).trans hx0
      replace hx1 := (HB.out.cell (by rw [← hgb]; exact World.block_lt_of_cell? W _ hx1)).trans hx1
      have hz0 : wr.cell? ⟨gb, 0, none⟩ = some (.int .i64 r) := (blk_cell HBK.out 0).trans rfl
      have hz1 : wr.cell? ⟨gb, 1, none⟩ = some (.int .i64 nd) := (blk_cell HBK.out 1).trans rfl
      have hrd : rdI xs p = xs.getD i (0, 0) := by unfold rdI; rw [HP.out]; rfl
      by_cases heq : xs.getD i (0, 0) = (r, nd)
      · have hcond : (r == (rdI xs p).1 && (nd == (rdI xs p).2)) = true := by rw [hrd, heq]; simp
        have HE := Aside0.mk (aheadE_at xs (r, nd) i hin hne heq)
        clear hne heq hrd
        go_wp2
        go_quiet (fail)
        go_wp2
        go_ret
        exact ⟨by rw [HE.out]; simp [HP.out], by rw [hgb]; exact pw_below_drewN HB.out _⟩
      · have hcond : (r == (rdI xs p).1 && (nd == (rdI xs p).2)) = false := by
          rw [hrd]
          generalize xs.getD i (0, 0) = y at heq
          obtain ⟨y1, y2⟩ := y
          simp
          rintro rfl rfl
          exact heq rfl
        have HNE := Aside0.mk hne
        have HEQ := Aside0.mk heq
        clear hne heq hrd
        go_wp2
        go_quiet (fail)
        go_wp2
        go_roundw
        case rel => exact ⟨_, i + 1, rfl, HW, by omega, fun j hj => by
          rcases Nat.lt_or_ge j i with h | h
          · exact HNE.out j h
          · have : j = i := by omega
            subst this; exact HEQ.out, Aside0.mk (pw_below_drewN HB.out _), Aside0.mk (blk_drewN HBK.out _)⟩
        case measure => have := HW.out; have := HP.out; simp [intOf] at *; omega
    · have hlt : decide (p < (xs.length : Int)) = false := decide_eq_false (by rw [HP.out]; omega)
      have HE := Aside0.mk (aheadE_none xs (r, nd) (fun j hj => hne j (by omega)))
      clear hne
      go_wp2
      go_ret
      exact ⟨by rw [HE.out]; rfl, by rw [hgb]; exact HB.out⟩
end Go.Proofs.Ytcnecdlphpkmgaa.Q
