/- What a queue is in memory: its block, its row of items, its set; Push. No condition beyond numbers being numbers of 64 bits. -/
import Derived.Test.YtcnecdlphpkmgaaQMap
import Derived.Test.YtcnecdlphpkmgaaWLast
import Derived.Test.YtcnecdlphpkmgaaWMore
import Derived.Test.YtcnecdlphpkmgaaWKept
import Derived.Outline
import Derived.StillTailTactics
import Derived.Deep.RegionHeld3
namespace Go.Proofs.Ytcnecdlphpkmgaa.Q
open Go.RowKit Go.Proofs.YtcnecdlphpkmgaaW.PrintWords Go.Proofs.YtcnecdlphpkmgaaW.PrintLast Go.Proofs.YtcnecdlphpkmgaaW.PrintMore
set_option linter.unusedVariables false

/-- How an item lies: two cells. -/
def KI : Kd Item := Kd.pair (Kd.int .i64) (Kd.int .i64)
/-- What a queue's items meet. -/
def Good (xs : List Item) : Prop := xs.Nodup ∧ xs.length ≤ 256 ∧ ∀ x ∈ xs, wfI x
/-- Block qb is a queue of the items xs, made from block N on. -/
def IsQ (M : Nat → Prop) (N : Nat) (W : World) (qb : Nat) (xs : List Item) (n : Nat) : Prop :=
  ∃ sv mb, (N ≤ qb ∧ M qb) ∧ (N ≤ mb ∧ M mb) ∧ W.heap[qb]? = some (.cells #[sv, .map (some mb)] 58 (0, 0)) ∧ KI.Q 31 W N M sv xs ∧ SetOf W mb n xs ∧ Good xs
/-- What a call leaves as it was: what is elder than N, and what is not the queue's. -/
def Fr (N : Nat) (M : Nat → Prop) (W w : World) : Prop := Below N W w ∧ Kept W w M
theorem Fr.refl (N : Nat) (M : Nat → Prop) (W : World) : Fr N M W W := ⟨Below.refl _ _, Kept.refl _ _⟩
theorem Fr.of_below {N : Nat} {M : Nat → Prop} {W w : World} (h : Below W.heap.size W w) (hN : N ≤ W.heap.size) : Fr N M W w := ⟨h.mono hN, Kept.of_below h M⟩
theorem Fr.grown {N b : Nat} {M : Nat → Prop} {W w w' : World} (h : Fr N M W w) (hg : w.grownBy w' (some b)) (hN : N ≤ w.heap.size) (hb : N ≤ b) (hM : M b) : Fr N M W w' :=
  ⟨pw_below_grown h.1 (some b) hN hg (fun k he => by injection he with he; omega), Kept.of_grown hg h.2 (fun k he => .inl (by injection he with he; exact he ▸ hM))⟩
theorem Fr.step {N : Nat} {M : Nat → Prop} {W w w' : World} (h : Fr N M W w) (hb : Below w.heap.size w w') (hN : N ≤ w.heap.size) : Fr N M W w' := ⟨below_then h.1 hN hb, h.2.below hb⟩
theorem Fr.then_ {N : Nat} {M : Nat → Prop} {W w w' : World} (h : Fr N M W w) (k : Fr N M w w') : Fr N M W w' := ⟨h.1.trans k.1, h.2.then_ k.2 (fun _ hk => .inl hk)⟩
theorem IsQ.below {M : Nat → Prop} {N : Nat} {W W' : World} {qb n : Nat} {xs : List Item} (h : IsQ M N W qb xs n) (hb : Below W.heap.size W W') : IsQ M N W' qb xs n := by
  obtain ⟨sv, mb, h1, h2, h3, h4, h5, h6⟩ := h
  exact ⟨sv, mb, h1, h2, (hb.block qb (Array.getElem?_eq_some_iff.1 h3).1).trans h3, Kd.Q_below h4 hb, h5.kept (grown_of_below hb none) (by simp), h6⟩
theorem SetOf.drewN {W : World} {b n : Nat} {xs : List Item} (h : SetOf W b n xs) (k : Nat) : SetOf (W.drewN k) b n xs := h.kept (grown_of_below (pw_below_drewN (Below.refl _ _) k) none) (by simp)
/-- The answer of Push. -/
def pushE (xs : List Item) (x : Item) : Int := if xs.contains x then 34 else if xs.length ≥ 256 then 35 else 0
def pushL (xs : List Item) (x : Item) : List Item := if xs.contains x then xs else if xs.length ≥ 256 then xs else xs ++ [x]
theorem Good.push {xs : List Item} {x : Item} (h : Good xs) (hx : wfI x) : Good (pushL xs x) := by
  unfold pushL
  split
  · exact h
  · split
    · exact h
    · rename_i c1 c2
      refine ⟨?_, by simp; omega, fun y hy => ?_⟩
      · rw [List.nodup_append]
        refine ⟨h.1, by simp, fun a ha b hb => ?_⟩
        rw [List.mem_singleton.1 hb]
        rintro rfl
        exact c1 (by simpa using ha)
      · rcases List.mem_append.1 hy with hy | hy
        · exact h.2.2 y hy
        · rw [List.mem_singleton.1 hy]; exact hx

theorem KI_E : KI.E = [] := rfl
theorem hE58 : ∀ q, q ∈ (31 : Nat) :: KI.E → q ≠ 58 := by rw [KI_E]; simp
theorem SetOf.map {W : World} {b n : Nat} {xs : List Item} (h : SetOf W b n xs) : ∃ es clock, W.heap[b]? = some (.map es clock) := by
  obtain ⟨D, h1, h2⟩ := h
  obtain ⟨es, clock, hb, _⟩ := id h1
  exact ⟨es, clock, hb⟩
theorem SetOf.ne {W : World} {b n g t : Nat} {xs : List Item} {cs : Array Value} (h : SetOf W b n xs) (hb : W.heap[g]? = some (.cells cs t (0, 0))) : b ≠ g := by
  obtain ⟨es, clock, hm⟩ := h.map
  rintro rfl
  rw [hm] at hb; cases hb
theorem SetOf.neRow {W : World} {b n e base : Nat} {xs : List Item} {ys : List Item} {v : Value} {ok : Nat → Prop} (h : SetOf W b n xs) (hq : KI.Q e W base ok v ys) : some b ≠ v.ownBlock := by
  intro he
  obtain ⟨cells, hc⟩ := Kd.Q_typed hq b he.symm
  exact h.ne hc rfl
theorem grown_setCell (W : World) (p : Addr) (u : Value) : W.grownBy (W.setCell p u) (some p.block) :=
  ⟨rfl, rfl, rfl, by simp [World.setCell], fun k _ hk => Below.heap_setCell _ _ _ k (fun e => hk (by rw [e]))⟩
theorem grown_setBlock {W : World} {b k : Nat} {es} (h : W.heap[b]? = some (.map es k)) (o : Obj) : W.grownBy (Go.ChangeMaps.setBlock W b o) (some b) :=
  ⟨rfl, rfl, rfl, by simp [Go.ChangeMaps.setBlock], fun i _ hi => Go.ChangeMaps.heap_setBlock_other h _ (fun e => hi (by rw [e]))⟩
/-- What the last region of Push keeps: the set's own field; the item's box. -/
abbrev KS (qb bx mb : Nat) (r nd : Int) (W : World) : Prop := W.cell? ⟨qb, 1, none⟩ = some (.map (some mb)) ∧ W.cell? ⟨bx, 0, none⟩ = some (.int .i64 r) ∧ W.cell? ⟨bx, 1, none⟩ = some (.int .i64 nd)
theorem KS.alloc {qb bx mb : Nat} {r nd : Int} {W : World} (h : KS qb bx mb r nd W) (o : Obj) : KS qb bx mb r nd (W.alloc o) :=
  ⟨((below_alloc (Below.refl _ _) o).cell (World.block_lt_of_cell? _ _ h.1)).trans h.1, ((below_alloc (Below.refl _ _) o).cell (World.block_lt_of_cell? _ _ h.2.1)).trans h.2.1, ((below_alloc (Below.refl _ _) o).cell (World.block_lt_of_cell? _ _ h.2.2)).trans h.2.2⟩
theorem KS.grown {qb bx mb : Nat} {r nd : Int} {W w1 : World} (h : KS qb bx mb r nd W) {row : Option Nat} (hg : W.grownBy w1 row) (h1 : some qb ≠ row) (h2 : some bx ≠ row) : KS qb bx mb r nd w1 :=
  ⟨cell_grown hg h.1 h1, cell_grown hg h.2.1 h2, cell_grown hg h.2.2 h2⟩
section
variable {P : Program} {ops : Array Oper} {o : Oper} {a : Act} {Q : Exit → Act → World → Prop} {Kc : Act → World → Prop}
theorem store_step {W w1 : World} (hw : Region.wanted o (yielded ops a.tmps) = true) (hN : o.dst = none) (hrun : (execOp a.eval o).run P W = .ok .skip w1) (h : Kc a w1) : if Region.wanted o (yielded ops a.tmps) = true then Oper.wp P o a W Kc Q else Kc (a.put o.dst undef) W := by
  rw [if_pos hw]
  unfold Oper.wp
  rw [hrun]
  show Kc (a.put o.dst undef) w1
  rw [hN]
  exact h
end
theorem info31 : (Try.prog.info? 31).map (fun i => (i.zero, i.size, i.bytes)) = some (some (.agg #[.int .i64 0, .int .i64 0]), 2, 16) := by kernel_rfl

set_option linter.unusedSimpArgs false
set_option maxHeartbeats 2000000 in
set_option maxRecDepth 100000 in
theorem push_calls (M : Nat → Prop) (N : Nat) (W : World) (qb n : Nat) (xs : List Item) (x : Item) (h : IsQ M N W qb xs n) (hx : wfI x) (hn : n < 1000000) (hN : N ≤ W.heap.size) (hM : ∀ k, W.heap.size ≤ k → M k) :
    Calls Try.prog 10 #[.pointer (some ⟨qb, 0, none⟩), encI x] W fun e W' => e = .returned (.int .i64 (pushE xs x)) ∧ IsQ M N W' qb (pushL xs x) (n + 1) ∧ Fr N M W W' := by
  obtain ⟨sv, mb, h1, h2, h3, h4, h5, h6⟩ := h
  have hN1 := h1.1
  have hN2 := h2.1
  obtain ⟨A, c, rfl, hc⟩ := Kd.Q_slice h4
  obtain ⟨r, nd⟩ := x
  have hb0 := below_alloc (Below.refl W.heap.size W) (.cells #[.int .i64 r, .int .i64 nd] 31)
  have hq1 : (W.alloc (.cells #[.int .i64 r, .int .i64 nd] 31)).heap[qb]? = some (.cells #[.slice A xs.length c, .map (some mb)] 58 (0, 0)) := (hb0.block qb (Array.getElem?_eq_some_iff.1 h3).1).trans h3
  have hset1 := h5.kept (grown_of_below hb0 none) (by simp)
  have hrow1 := Kd.Q_below (Kd.Q_elderB h4 W.heap.size (Nat.le_refl _)) hb0
  have hcell0 : (W.alloc (.cells #[.int .i64 r, .int .i64 nd] 31)).cell? ⟨qb, 0, none⟩ = some (.slice A xs.length c) := by simp [World.cell?, hq1]
  have hcell1 : (W.alloc (.cells #[.int .i64 r, .int .i64 nd] 31)).cell? ⟨qb, 1, none⟩ = some (.map (some mb)) := by simp [World.cell?, hq1]
  have hlook : ∀ k, (Instr.lookup 56 (.map (some mb)) (.agg #[.int .i64 r, .int .i64 nd]) false).run Try.prog ((W.alloc (.cells #[.int .i64 r, .int .i64 nd] 31)).drewN k) = .ok (.bool (xs.contains (r, nd))) ((W.alloc (.cells #[.int .i64 r, .int .i64 nd] 31)).drewN k) := fun k => (hset1.drewN k).look hx
  have HS := Aside0.mk hset1
  have HQ := Aside0.mk hrow1
  have HB := Aside0.mk hb0
  have H6 := Aside0.mk h6
  have hl : xs.length ≤ 256 := h6.2.1
  clear h5 h4 h3 hset1 hrow1 hb0 h6
  show Calls Try.prog 10 #[.pointer (some ⟨qb, 0, none⟩), .agg #[.int .i64 r, .int .i64 nd]] W _
  go_enter Try.func10, Try.ntmps10
  go_upto_region 3 with (fail)
  go_quiet (fail)
  have HS1 := Aside0.mk (HS.out.drewN nq)
  have HQ1 := Aside0.mk (Kd.Q_drewN HQ.out nq)
  have HB1 := Aside0.mk (pw_below_drewN HB.out nq)
  have hq2 : ((W.alloc (.cells #[.int .i64 r, .int .i64 nd] 31)).drewN nq).heap[qb]? = some (.cells #[.slice A xs.length c, .map (some mb)] 58 (0, 0)) := hq1
  have hbx : ((W.alloc (.cells #[.int .i64 r, .int .i64 nd] 31)).drewN nq).heap[W.heap.size]? = some (.cells #[.int .i64 r, .int .i64 nd] 31 (0, 0)) := blk_new W _
  have hsz1 : ((W.alloc (.cells #[.int .i64 r, .int .i64 nd] 31)).drewN nq).heap.size = W.heap.size + 1 := by simp
  clear hlook hcell0 hcell1 hq1 HS HQ HB
  have HB2 : Aside0 (Fr N M W ((W.alloc (.cells #[.int .i64 r, .int .i64 nd] 31)).drewN nq)) := Aside0.mk (Fr.of_below HB1.out hN)
  by_cases c1 : (r, nd) ∈ xs
  · have c1b : decide ((r, nd) ∈ xs) = true := decide_eq_true c1
    have hE : pushE xs (r, nd) = 34 := by unfold pushE; rw [if_pos (by simpa using c1)]
    have hL : pushL xs (r, nd) = xs := by unfold pushL; rw [if_pos (by simpa using c1)]
    rw [c1b]
    go_wp2
    go_ret
    rw [hE, hL]
    exact ⟨rfl, ⟨_, mb, h1, h2, hq2, Kd.Q_mono HQ1.out (fun _ hk => hk.1), HS1.out.mono (by omega), H6.out⟩, HB2.out⟩
  · have c1b : decide ((r, nd) ∈ xs) = false := decide_eq_false c1
    rw [c1b]
    generalize ((W.alloc (.cells #[.int .i64 r, .int .i64 nd] 31)).drewN nq) = W1 at *
    generalize W.heap.size = bx at *
    have hcell0 : W1.cell? ⟨qb, 0, none⟩ = some (.slice A xs.length c) := by simp [World.cell?, hq2]
    have hcell1 : W1.cell? ⟨qb, 1, none⟩ = some (.map (some mb)) := by simp [World.cell?, hq2]
    by_cases c2 : xs.length ≥ 256
    · have c2b : decide ((xs.length : Int) ≥ 256) = true := decide_eq_true (by omega)
      have c2c : decide (256 ≤ (xs.length : Int)) = true := decide_eq_true (by omega)
      have hE : pushE xs (r, nd) = 35 := by unfold pushE; rw [if_neg (by simpa using c1), if_pos c2]
      have hL : pushL xs (r, nd) = xs := by unfold pushL; rw [if_neg (by simpa using c1), if_pos c2]
      go_wp2
      go_ret
      rw [hE, hL]
      exact ⟨rfl, ⟨_, mb, h1, h2, hq2, Kd.Q_mono HQ1.out (fun _ hk => hk.1), HS1.out.mono (by omega), H6.out⟩, HB2.out⟩
    · have c2b : decide ((xs.length : Int) ≥ 256) = false := decide_eq_false (by omega)
      have c2c : decide (256 ≤ (xs.length : Int)) = false := decide_eq_false (by omega)
      have hE : pushE xs (r, nd) = 0 := by unfold pushE; rw [if_neg (by simpa using c1), if_neg c2]
      have hL : pushL xs (r, nd) = xs ++ [(r, nd)] := by unfold pushL; rw [if_neg (by simpa using c1), if_neg c2]
      have HQ2 := HQ1
      go_upto_region 7 with (fail)
      have K0 : KS qb bx mb r nd W1.drew := ⟨hcell1, (blk_cell (w := W1.drew) hbx 0).trans rfl, (blk_cell (w := W1.drew) hbx 1).trans rfl⟩
      have hqd : W1.drew.heap[qb]? = some (.cells #[.slice A xs.length c, .map (some mb)] 58 (0, 0)) := hq2
      have hc0d : W1.drew.cell? ⟨qb, 0, none⟩ = some (.slice A xs.length c) := hcell0
      have hbxd : W1.drew.heap[bx]? = some (.cells #[.int .i64 r, .int .i64 nd] 31 (0, 0)) := hbx
      have HQ3 := Aside0.mk (Kd.Q_drew HQ2.out)
      have HS3 := Aside0.mk (HS1.out.drewN 1)
      have HB3 : Aside0 (Fr N M W W1.drew) := Aside0.mk (HB2.out.step (below_drew (Below.refl _ _)) (by omega))
      have hszd : W1.drew.heap.size = bx + 1 := hsz1
      have hbq : some bx ≠ some qb := fun he => blk_ne hbxd hqd (by decide) (by injection he)
      have hqm : some qb ≠ some mb := fun he => HS3.out.ne hqd (by injection he with he; exact he.symm)
      have hbm : some bx ≠ some mb := fun he => HS3.out.ne hbxd (by injection he with he; exact he.symm)
      have hW6 : Good (xs ++ [(r, nd)]) := hL ▸ H6.out.push hx
      have hNb : N ≤ bx := hN
      refine wp_region_held_drew (S := KS qb bx mb r nd) (by kernel_rfl) K0 (fun hHeld => ?_)
      have HS3 : Aside0 (SetOf W1.drew mb n xs) := HS3
      generalize W1.drew = Wd at *
      refine wpAnyH_take (i := 0) (oi := { dst := some 22, op := Op.move (Operand.tmp 0), type := 23, pos := "queue.go:43", after := #[], guard := none }) (v := ?v0) rfl (by kernel_rfl) (by kernel_rfl) (by kernel_rfl) (fun _ _ _ h => h) (Or.inl ⟨by rfl, ?y0⟩) (by assumption) ?_
      case y0 => (intro w hSw; (try dsimp only at hSw); go_simp; try with_reducible rfl)
      (try simp only [Act.put, List.setIfInBounds_toArray, List.set_cons_zero, List.set_cons_succ])
      refine wpAnyH_take (i := 1) (oi := { dst := some 23, op := Op.move (Operand.tmp 0), type := 23, pos := "queue.go:43", after := #[], guard := none }) (v := ?v1) rfl (by kernel_rfl) (by kernel_rfl) (by kernel_rfl) (fun _ _ _ h => h) (Or.inl ⟨by rfl, ?y1⟩) (by assumption) ?_
      case y1 => (intro w hSw; (try dsimp only at hSw); go_simp; try with_reducible rfl)
      (try simp only [Act.put, List.setIfInBounds_toArray, List.set_cons_zero, List.set_cons_succ])
      refine wpAnyH_take (i := 2) (oi := { dst := some 24, op := Op.nilCheck (Operand.tmp 23), type := 0, pos := "queue.go:43", after := #[{ on := 1, ground := Ground.data }], guard := none }) (v := ?v2) rfl (by kernel_rfl) (by kernel_rfl) (by kernel_rfl) (fun _ _ _ h => h) (Or.inl ⟨by rfl, ?y2⟩) (by assumption) ?_
      case y2 => (intro w hSw; (try dsimp only at hSw); go_simp; try with_reducible rfl)
      (try simp only [Act.put, List.setIfInBounds_toArray, List.set_cons_zero, List.set_cons_succ])
      refine wpAnyH_take (i := 3) (oi := { dst := some 25, op := Op.fieldAddr 58 (Operand.tmp 24) 1, type := 0, pos := "queue.go:43", after := #[{ on := 2, ground := Ground.data }], guard := none }) (v := ?v3) rfl (by kernel_rfl) (by kernel_rfl) (by kernel_rfl) (fun _ _ _ h => h) (Or.inl ⟨by rfl, ?y3⟩) (by assumption) ?_
      case y3 => (intro w hSw; (try dsimp only at hSw); go_simp; try with_reducible rfl)
      (try simp only [Act.put, List.setIfInBounds_toArray, List.set_cons_zero, List.set_cons_succ])
      refine wpAnyH_take (i := 4) (oi := { dst := some 26, op := Op.load 56 (Operand.tmp 25), type := 56, pos := "queue.go:43", after := #[{ on := 3, ground := Ground.data }], guard := none }) (v := ?v4) rfl (by kernel_rfl) (by kernel_rfl) (by kernel_rfl) (fun _ _ _ h => h) (Or.inl ⟨by rfl, ?y4⟩) (by assumption) ?_
      case y4 => (intro w hSw; (try dsimp only at hSw); go_simp; try with_reducible rfl)
      (try simp only [Act.put, List.setIfInBounds_toArray, List.set_cons_zero, List.set_cons_succ])
      refine wpAnyH_take (i := 5) (oi := { dst := some 27, op := Op.load 31 (Operand.tmp 3), type := 31, pos := "queue.go:43", after := #[], guard := none }) (v := ?v5) rfl (by kernel_rfl) (by kernel_rfl) (by kernel_rfl) (fun _ _ _ h => h) (Or.inl ⟨by rfl, ?y5⟩) (by assumption) ?_
      case y5 => (intro w hSw; (try dsimp only at hSw); go_simp; try with_reducible rfl)
      (try simp only [Act.put, List.setIfInBounds_toArray, List.set_cons_zero, List.set_cons_succ])
      refine wpAnyH_take (i := 6) (oi := { dst := some 28, op := Op.move (Operand.tmp 0), type := 23, pos := "queue.go:43", after := #[], guard := none }) (v := ?v6) rfl (by kernel_rfl) (by kernel_rfl) (by kernel_rfl) (fun _ _ _ h => h) (Or.inl ⟨by rfl, ?y6⟩) (by assumption) ?_
      case y6 => (intro w hSw; (try dsimp only at hSw); go_simp; try with_reducible rfl)
      (try simp only [Act.put, List.setIfInBounds_toArray, List.set_cons_zero, List.set_cons_succ])
      refine wpAnyH_take (i := 7) (oi := { dst := some 29, op := Op.nilCheck (Operand.tmp 28), type := 0, pos := "queue.go:43", after := #[{ on := 6, ground := Ground.data }], guard := none }) (v := ?v7) rfl (by kernel_rfl) (by kernel_rfl) (by kernel_rfl) (fun _ _ _ h => h) (Or.inl ⟨by rfl, ?y7⟩) (by assumption) ?_
      case y7 => (intro w hSw; (try dsimp only at hSw); go_simp; try with_reducible rfl)
      (try simp only [Act.put, List.setIfInBounds_toArray, List.set_cons_zero, List.set_cons_succ])
      refine wpAnyH_take (i := 8) (oi := { dst := some 30, op := Op.fieldAddr 58 (Operand.tmp 29) 0, type := 0, pos := "queue.go:43", after := #[{ on := 7, ground := Ground.data }], guard := none }) (v := ?v8) rfl (by kernel_rfl) (by kernel_rfl) (by kernel_rfl) (fun _ _ _ h => h) (Or.inl ⟨by rfl, ?y8⟩) (by assumption) ?_
      case y8 => (intro w hSw; (try dsimp only at hSw); go_simp; try with_reducible rfl)
      (try simp only [Act.put, List.setIfInBounds_toArray, List.set_cons_zero, List.set_cons_succ])
      refine wpAnyH_take (i := 10) (oi := { dst := some 32, op := Op.load 31 (Operand.tmp 3), type := 31, pos := "queue.go:43", after := #[], guard := none }) (v := ?v10) rfl (by kernel_rfl) (by kernel_rfl) (by kernel_rfl) (fun _ _ _ h => h) (Or.inl ⟨by rfl, ?y10⟩) (by assumption) ?_
      case y10 => (intro w hSw; (try dsimp only at hSw); go_simp; try with_reducible rfl)
      (try simp only [Act.put, List.setIfInBounds_toArray, List.set_cons_zero, List.set_cons_succ])
      refine wpAnyH_ready (rs := [9, 11]) (by kernel_rfl) (by simp) ?_
      refine AllReadyH.cons (o := { dst := some 31, op := Op.load 32 (Operand.tmp 30), type := 32, pos := "queue.go:43", after := #[{ on := 8, ground := Ground.data }], guard := none }) rfl (fun K hK => ?_) (AllReadyH.cons (o := { dst := some 33, op := Op.buildSlice 32 1 #[(0, Operand.tmp 32)], type := 32, pos := "queue.go:43", after := #[{ on := 10, ground := Ground.data }], guard := none }) rfl (fun K hK => ?_) AllReadyH.nil)
      · go_simp
        refine hK.out _ _ hHeld (fun hHeld2 => ?_)
        clear hK K hHeld
        have hHeld := hHeld2
        clear hHeld2
        (try simp only [Act.put, List.setIfInBounds_toArray, List.set_cons_zero, List.set_cons_succ])
        refine wpAnyH_ready (rs := [11]) (by kernel_rfl) (by simp) ?_
        refine AllReadyH.cons (o := { dst := some 33, op := Op.buildSlice 32 1 #[(0, Operand.tmp 32)], type := 32, pos := "queue.go:43", after := #[{ on := 10, ground := Ground.data }], guard := none }) rfl (fun K hK => ?_) AllReadyH.nil
        go_simp
        refine hK.out _ _ (KS.alloc hHeld _) (fun hHeld2 => ?_)
        clear hK K hHeld
        have hHeld := hHeld2
        clear hHeld2
        (try simp only [Act.put, List.setIfInBounds_toArray, List.set_cons_zero, List.set_cons_succ])
        refine wpAnyH_ready (rs := [12]) (by kernel_rfl) (by simp) ?_
        refine AllReadyH.cons (o := { dst := some 34, op := Op.call { callee := Callee.builtin Builtin.append, args := #[Operand.tmp 31, Operand.tmp 33], argTypes := #[32, 32] }, type := 32, pos := "queue.go:43", after := #[{ on := 9, ground := Ground.data }, { on := 11, ground := Ground.data }], guard := none }) rfl (fun K hK => ?_) AllReadyH.nil
        refine Kd.Q_append_step KI (w0 := W) N rfl (.tmp 31) (.tmp 33) 32 31 (.agg #[.int .i64 0, .int .i64 0]) 16 rfl Try.underlying32 info31 rfl (by decide) (by decide) (.slice A xs.length c) xs (r, nd) [.int .i64 r, .int .i64 nd] (fun k => M k ∧ k ≠ bx) (fun _ => False) rfl (by rw [hszd]; rfl) ?pM (fun _ hk => hk.elim) ?pF HQ3.out HB3.out.1 ?pS ?pL ?_
        case pM => exact ⟨[.int .i64 r], [.int .i64 nd], rfl, rfl, rfl⟩
        case pF => intro k hk; exact ⟨hM k (by omega), by omega⟩
        case pS => omega
        case pL => omega
        intro v1 w2 ho hb hg hat
        obtain ⟨A1, k1, rfl, hk1⟩ := Kd.Q_slice ho
        have hlen : (xs ++ [(r, nd)]).length = xs.length + 1 := by simp
        rw [hlen] at ho hat
        (try rw [hlen])
        have hS2 := HS3.out.kept hg (HS3.out.neRow HQ3.out)
        have hq2' := blk_grown hqd hg (Kd.Q_ne HQ3.out hqd (by decide))
        have hk2 := KS.grown K0 hg (Kd.Q_ne HQ3.out hqd (by decide)) (fun he => (Kd.Q_ok HQ3.out _ he.symm).2 rfl)
        have hsz2 := hg.size
        refine hK.out _ _ hk2 (fun hHeld2 => ?_)
        clear hK K hHeld
        have hHeld := hHeld2
        clear hHeld2
        (try simp only [Act.put, List.setIfInBounds_toArray, List.set_cons_zero, List.set_cons_succ])
        refine wpAnyH_ready (rs := [13]) (by kernel_rfl) (by simp) ?_
        refine AllReadyH.cons (o := { dst := some 35, op := Op.nilCheck (Operand.tmp 22), type := 0, pos := "queue.go:43", after := #[{ on := 0, ground := Ground.data }, { on := 0, ground := Ground.phase }, { on := 1, ground := Ground.textOnly Departure.lateStores }, { on := 2, ground := Ground.textOnly Departure.lateStoresUnsure }, { on := 3, ground := Ground.textOnly Departure.lateStoresUnsure }, { on := 4, ground := Ground.phase }, { on := 5, ground := Ground.textOnly Departure.lateStoresUnsure }, { on := 6, ground := Ground.phase }, { on := 7, ground := Ground.phase }, { on := 8, ground := Ground.phase }, { on := 9, ground := Ground.phase }, { on := 10, ground := Ground.phase }, { on := 11, ground := Ground.phase }, { on := 12, ground := Ground.phase }], guard := none }) rfl (fun K hK => ?_) AllReadyH.nil
        go_simp
        refine hK.out _ _ hHeld (fun hHeld2 => ?_)
        clear hK K hHeld
        have hHeld := hHeld2
        clear hHeld2
        (try simp only [Act.put, List.setIfInBounds_toArray, List.set_cons_zero, List.set_cons_succ])
        refine wpAnyH_ready (rs := [14]) (by kernel_rfl) (by simp) ?_
        refine AllReadyH.cons (o := { dst := some 36, op := Op.fieldAddr 58 (Operand.tmp 35) 0, type := 0, pos := "queue.go:43", after := #[{ on := 13, ground := Ground.data }, { on := 0, ground := Ground.phase }, { on := 1, ground := Ground.textOnly Departure.lateStores }, { on := 2, ground := Ground.textOnly Departure.lateStoresUnsure }, { on := 3, ground := Ground.textOnly Departure.lateStoresUnsure }, { on := 4, ground := Ground.phase }, { on := 5, ground := Ground.textOnly Departure.lateStoresUnsure }, { on := 6, ground := Ground.phase }, { on := 7, ground := Ground.phase }, { on := 8, ground := Ground.phase }, { on := 9, ground := Ground.phase }, { on := 10, ground := Ground.phase }, { on := 11, ground := Ground.phase }, { on := 12, ground := Ground.phase }], guard := none }) rfl (fun K hK => ?_) AllReadyH.nil
        go_simp
        refine hK.out _ _ hHeld (fun hHeld2 => ?_)
        clear hK K hHeld
        have hHeld := hHeld2
        clear hHeld2
        (try simp only [Act.put, List.setIfInBounds_toArray, List.set_cons_zero, List.set_cons_succ])
        refine wpAnyH_ready (rs := [15]) (by kernel_rfl) (by simp) ?_
        refine AllReadyH.cons (o := { dst := none, op := Op.store 32 (Operand.tmp 36) (Operand.tmp 34), type := 0, pos := "queue.go:43", after := #[{ on := 14, ground := Ground.data }, { on := 12, ground := Ground.data }, { on := 12, ground := Ground.chain }, { on := 0, ground := Ground.phase }, { on := 1, ground := Ground.textOnly Departure.lateStores }, { on := 2, ground := Ground.textOnly Departure.lateStoresUnsure }, { on := 3, ground := Ground.textOnly Departure.lateStoresUnsure }, { on := 4, ground := Ground.phase }, { on := 5, ground := Ground.textOnly Departure.lateStoresUnsure }, { on := 6, ground := Ground.phase }, { on := 7, ground := Ground.phase }, { on := 8, ground := Ground.phase }, { on := 9, ground := Ground.phase }, { on := 10, ground := Ground.phase }, { on := 11, ground := Ground.phase }, { on := 12, ground := Ground.phase }], guard := none }) rfl (fun K hK => ?_) AllReadyH.nil
        have hcq : w2.cell? ⟨qb, 0, none⟩ = some (.slice A xs.length c) := by simp [World.cell?, hq2']
        have hfq : w2.frozen? ⟨qb, 0, none⟩ = false := blk_frozen hq2' 0
        refine store_step (w1 := w2.setCell ⟨qb, 0, none⟩ (.slice A1 (xs.length + 1) k1)) rfl rfl (by first | (go_simp; done) | (go_simp; rfl)) ?_
        have hg3 := grown_setCell w2 ⟨qb, 0, none⟩ (.slice A1 (xs.length + 1) k1)
        have hq3 := blk_put hq2' 0 (.slice A1 (xs.length + 1) k1) (cs' := #[.slice A1 (xs.length + 1) k1, .map (some mb)]) rfl
        have hS3 := hS2.kept hg3 (fun he => hS2.ne hq2' (by injection he))
        have ho3 := Kd.Q_set ho hq2' hE58 0 (.slice A1 (xs.length + 1) k1)
        have hb3 := Fr.grown ⟨hb, Kept.of_grown hg HB3.out.2 (fun k he => .inl (Kd.Q_ok HQ3.out k he).1)⟩ hg3 (by omega) h1.1 h1.2
        have hk3 : KS qb bx mb r nd (w2.setCell ⟨qb, 0, none⟩ (.slice A1 (xs.length + 1) k1)) := ⟨by simp [World.cell?, hq3], cell_grown hg3 hHeld.2.1 hbq, cell_grown hg3 hHeld.2.2 hbq⟩
        have hsz3 := hg3.size
        refine hK.out _ _ hk3 (fun hHeld2 => ?_)
        clear hK K hHeld
        have hHeld := hHeld2
        clear hHeld2
        (try simp only [Act.put, List.setIfInBounds_toArray, List.set_cons_zero, List.set_cons_succ])
        generalize w2.setCell ⟨qb, 0, none⟩ (.slice A1 (xs.length + 1) k1) = w3 at *
        refine wpAnyH_ready (rs := [16]) (by kernel_rfl) (by simp) ?_
        refine AllReadyH.cons (o := { dst := some 37, op := Op.mapEntry 56 (Operand.tmp 26) (Operand.tmp 27), type := 0, pos := "queue.go:43", after := #[{ on := 4, ground := Ground.data }, { on := 5, ground := Ground.data }, { on := 15, ground := Ground.chain }, { on := 0, ground := Ground.phase }, { on := 1, ground := Ground.textOnly Departure.tupleMapEntryFirst }, { on := 2, ground := Ground.textOnly Departure.lateStoresUnsure }, { on := 3, ground := Ground.textOnly Departure.lateStoresUnsure }, { on := 4, ground := Ground.phase }, { on := 5, ground := Ground.textOnly Departure.lateStoresUnsure }, { on := 6, ground := Ground.phase }, { on := 7, ground := Ground.phase }, { on := 8, ground := Ground.phase }, { on := 9, ground := Ground.phase }, { on := 10, ground := Ground.phase }, { on := 11, ground := Ground.phase }, { on := 12, ground := Ground.phase }, { on := 13, ground := Ground.phase }, { on := 14, ground := Ground.phase }, { on := 15, ground := Ground.phase }], guard := none }) rfl (fun K hK => ?_) AllReadyH.nil
        obtain ⟨v0, st, o, hme, hput⟩ := hS3.put (n := n) (by have : maxLen = 9223372036854775807 := rfl; omega) hx
        obtain ⟨es, clk, hmb⟩ := hS3.map
        have hg4 := grown_setBlock hmb o
        have hmb4 : (Go.ChangeMaps.setBlock w3 mb o).heap[mb]? = some o := Go.ChangeMaps.heap_setBlock_same hmb o
        have hk4 : KS qb bx mb r nd (Go.ChangeMaps.setBlock w3 mb o) := KS.grown hHeld hg4 hqm hbm
        refine event_step (w1 := Go.ChangeMaps.setBlock w3 mb o) (v := .tuple #[v0, goInt st]) rfl (by unfold encI at hme; first | (go_simp; done) | (go_simp; rfl)) ?_
        refine hK.out _ _ hk4 (fun hHeld2 => ?_)
        clear hK K hHeld
        have hHeld := hHeld2
        clear hHeld2
        (try simp only [Act.put, List.setIfInBounds_toArray, List.set_cons_zero, List.set_cons_succ])
        obtain ⟨w5, hst, hS5, hg5⟩ := hput _ hmb4
        generalize Go.ChangeMaps.setBlock w3 mb o = w4 at *
        refine wpAnyH_ready (rs := [17]) (by kernel_rfl) (by simp) ?_
        refine AllReadyH.cons (o := { dst := some 38, op := Op.extract (Operand.tmp 37) 1, type := 3, pos := "queue.go:43", after := #[{ on := 16, ground := Ground.data }], guard := none }) rfl (fun K hK => ?_) AllReadyH.nil
        go_simp
        refine hK.out _ _ hHeld (fun hHeld2 => ?_)
        clear hK K hHeld
        have hHeld := hHeld2
        clear hHeld2
        (try simp only [Act.put, List.setIfInBounds_toArray, List.set_cons_zero, List.set_cons_succ])
        refine wpAnyH_ready (rs := [18]) (by kernel_rfl) (by simp) ?_
        refine AllReadyH.cons (o := { dst := none, op := Op.entryStore 56 (Operand.tmp 26) (Operand.tmp 38) (Operand.const (Value.bool true)), type := 0, pos := "queue.go:43", after := #[{ on := 4, ground := Ground.data }, { on := 17, ground := Ground.data }, { on := 16, ground := Ground.chain }, { on := 0, ground := Ground.phase }, { on := 1, ground := Ground.phase }, { on := 2, ground := Ground.phase }, { on := 3, ground := Ground.phase }, { on := 4, ground := Ground.phase }, { on := 5, ground := Ground.phase }, { on := 6, ground := Ground.phase }, { on := 7, ground := Ground.phase }, { on := 8, ground := Ground.phase }, { on := 9, ground := Ground.phase }, { on := 10, ground := Ground.phase }, { on := 11, ground := Ground.phase }, { on := 12, ground := Ground.phase }, { on := 13, ground := Ground.phase }, { on := 14, ground := Ground.phase }, { on := 15, ground := Ground.phase }, { on := 16, ground := Ground.phase }], guard := none }) rfl (fun K hK => ?_) AllReadyH.nil
        have hst2 : (Instr.entryStore 56 (.map (some mb)) (.int .i64 (st : Int)) (.bool true)).run Try.prog w4 = .ok () w5 := hst
        refine store_step (w1 := w5) rfl rfl (by first | (go_simp; done) | (go_simp; rw [hst2]; rfl)) ?_
        have hk5 := KS.grown hHeld hg5 hqm hbm
        refine hK.out _ _ hk5 (fun hHeld2 => ?_)
        clear hK K hHeld
        have hHeld := hHeld2
        clear hHeld2
        (try simp only [Act.put, List.setIfInBounds_toArray, List.set_cons_zero, List.set_cons_succ])
        have hg35 := hg4.trans hg5
        have hb5 := Fr.grown hb3 hg35 (by omega) h2.1 h2.2
        have ho5 := Kd.Q_grown1 ho3 KI_E hg35 (hS3.neRow ho3)
        have hq5 := blk_grown hq3 hg35 hqm
        refine wpAnyH_done (by kernel_rfl) ?_ _
        go_wp2
        go_ret
        (try rw [hE])
        (try rw [hL])
        exact ⟨rfl, ⟨_, mb, h1, h2, hq5, Kd.Q_mono ho5 (fun _ hk => hk.1), hS5, hW6⟩, hb5⟩
      · go_simp
        refine hK.out _ _ (KS.alloc hHeld _) (fun hHeld2 => ?_)
        clear hK K hHeld
        have hHeld := hHeld2
        clear hHeld2
        (try simp only [Act.put, List.setIfInBounds_toArray, List.set_cons_zero, List.set_cons_succ])
        have hc0a := pw_cell_below (below_alloc (Below.refl Wd.heap.size Wd) (.cells #[.int .i64 r, .int .i64 nd] 31)) hc0d
        refine wpAnyH_ready (rs := [9]) (by kernel_rfl) (by simp) ?_
        refine AllReadyH.cons (o := { dst := some 31, op := Op.load 32 (Operand.tmp 30), type := 32, pos := "queue.go:43", after := #[{ on := 8, ground := Ground.data }], guard := none }) rfl (fun K hK => ?_) AllReadyH.nil
        go_simp
        refine hK.out _ _ hHeld (fun hHeld2 => ?_)
        clear hK K hHeld
        have hHeld := hHeld2
        clear hHeld2
        (try simp only [Act.put, List.setIfInBounds_toArray, List.set_cons_zero, List.set_cons_succ])
        refine wpAnyH_ready (rs := [12]) (by kernel_rfl) (by simp) ?_
        refine AllReadyH.cons (o := { dst := some 34, op := Op.call { callee := Callee.builtin Builtin.append, args := #[Operand.tmp 31, Operand.tmp 33], argTypes := #[32, 32] }, type := 32, pos := "queue.go:43", after := #[{ on := 9, ground := Ground.data }, { on := 11, ground := Ground.data }], guard := none }) rfl (fun K hK => ?_) AllReadyH.nil
        refine Kd.Q_append_step KI (w0 := W) N rfl (.tmp 31) (.tmp 33) 32 31 (.agg #[.int .i64 0, .int .i64 0]) 16 rfl Try.underlying32 info31 rfl (by decide) (by decide) (.slice A xs.length c) xs (r, nd) [.int .i64 r, .int .i64 nd] (fun k => M k ∧ k ≠ bx) (fun _ => False) rfl (by rw [hszd]; rfl) ?pM (fun _ hk => hk.elim) ?pF HQ3.out HB3.out.1 ?pS ?pL ?_
        case pM => exact ⟨[.int .i64 r], [.int .i64 nd], rfl, rfl, rfl⟩
        case pF => intro k hk; exact ⟨hM k (by omega), by omega⟩
        case pS => omega
        case pL => omega
        intro v1 w2 ho hb hg hat
        obtain ⟨A1, k1, rfl, hk1⟩ := Kd.Q_slice ho
        have hlen : (xs ++ [(r, nd)]).length = xs.length + 1 := by simp
        rw [hlen] at ho hat
        (try rw [hlen])
        have hS2 := HS3.out.kept hg (HS3.out.neRow HQ3.out)
        have hq2' := blk_grown hqd hg (Kd.Q_ne HQ3.out hqd (by decide))
        have hk2 := KS.grown K0 hg (Kd.Q_ne HQ3.out hqd (by decide)) (fun he => (Kd.Q_ok HQ3.out _ he.symm).2 rfl)
        have hsz2 := hg.size
        refine hK.out _ _ hk2 (fun hHeld2 => ?_)
        clear hK K hHeld
        have hHeld := hHeld2
        clear hHeld2
        (try simp only [Act.put, List.setIfInBounds_toArray, List.set_cons_zero, List.set_cons_succ])
        refine wpAnyH_ready (rs := [13]) (by kernel_rfl) (by simp) ?_
        refine AllReadyH.cons (o := { dst := some 35, op := Op.nilCheck (Operand.tmp 22), type := 0, pos := "queue.go:43", after := #[{ on := 0, ground := Ground.data }, { on := 0, ground := Ground.phase }, { on := 1, ground := Ground.textOnly Departure.lateStores }, { on := 2, ground := Ground.textOnly Departure.lateStoresUnsure }, { on := 3, ground := Ground.textOnly Departure.lateStoresUnsure }, { on := 4, ground := Ground.phase }, { on := 5, ground := Ground.textOnly Departure.lateStoresUnsure }, { on := 6, ground := Ground.phase }, { on := 7, ground := Ground.phase }, { on := 8, ground := Ground.phase }, { on := 9, ground := Ground.phase }, { on := 10, ground := Ground.phase }, { on := 11, ground := Ground.phase }, { on := 12, ground := Ground.phase }], guard := none }) rfl (fun K hK => ?_) AllReadyH.nil
        go_simp
        refine hK.out _ _ hHeld (fun hHeld2 => ?_)
        clear hK K hHeld
        have hHeld := hHeld2
        clear hHeld2
        (try simp only [Act.put, List.setIfInBounds_toArray, List.set_cons_zero, List.set_cons_succ])
        refine wpAnyH_ready (rs := [14]) (by kernel_rfl) (by simp) ?_
        refine AllReadyH.cons (o := { dst := some 36, op := Op.fieldAddr 58 (Operand.tmp 35) 0, type := 0, pos := "queue.go:43", after := #[{ on := 13, ground := Ground.data }, { on := 0, ground := Ground.phase }, { on := 1, ground := Ground.textOnly Departure.lateStores }, { on := 2, ground := Ground.textOnly Departure.lateStoresUnsure }, { on := 3, ground := Ground.textOnly Departure.lateStoresUnsure }, { on := 4, ground := Ground.phase }, { on := 5, ground := Ground.textOnly Departure.lateStoresUnsure }, { on := 6, ground := Ground.phase }, { on := 7, ground := Ground.phase }, { on := 8, ground := Ground.phase }, { on := 9, ground := Ground.phase }, { on := 10, ground := Ground.phase }, { on := 11, ground := Ground.phase }, { on := 12, ground := Ground.phase }], guard := none }) rfl (fun K hK => ?_) AllReadyH.nil
        go_simp
        refine hK.out _ _ hHeld (fun hHeld2 => ?_)
        clear hK K hHeld
        have hHeld := hHeld2
        clear hHeld2
        (try simp only [Act.put, List.setIfInBounds_toArray, List.set_cons_zero, List.set_cons_succ])
        refine wpAnyH_ready (rs := [15]) (by kernel_rfl) (by simp) ?_
        refine AllReadyH.cons (o := { dst := none, op := Op.store 32 (Operand.tmp 36) (Operand.tmp 34), type := 0, pos := "queue.go:43", after := #[{ on := 14, ground := Ground.data }, { on := 12, ground := Ground.data }, { on := 12, ground := Ground.chain }, { on := 0, ground := Ground.phase }, { on := 1, ground := Ground.textOnly Departure.lateStores }, { on := 2, ground := Ground.textOnly Departure.lateStoresUnsure }, { on := 3, ground := Ground.textOnly Departure.lateStoresUnsure }, { on := 4, ground := Ground.phase }, { on := 5, ground := Ground.textOnly Departure.lateStoresUnsure }, { on := 6, ground := Ground.phase }, { on := 7, ground := Ground.phase }, { on := 8, ground := Ground.phase }, { on := 9, ground := Ground.phase }, { on := 10, ground := Ground.phase }, { on := 11, ground := Ground.phase }, { on := 12, ground := Ground.phase }], guard := none }) rfl (fun K hK => ?_) AllReadyH.nil
        have hcq : w2.cell? ⟨qb, 0, none⟩ = some (.slice A xs.length c) := by simp [World.cell?, hq2']
        have hfq : w2.frozen? ⟨qb, 0, none⟩ = false := blk_frozen hq2' 0
        refine store_step (w1 := w2.setCell ⟨qb, 0, none⟩ (.slice A1 (xs.length + 1) k1)) rfl rfl (by first | (go_simp; done) | (go_simp; rfl)) ?_
        have hg3 := grown_setCell w2 ⟨qb, 0, none⟩ (.slice A1 (xs.length + 1) k1)
        have hq3 := blk_put hq2' 0 (.slice A1 (xs.length + 1) k1) (cs' := #[.slice A1 (xs.length + 1) k1, .map (some mb)]) rfl
        have hS3 := hS2.kept hg3 (fun he => hS2.ne hq2' (by injection he))
        have ho3 := Kd.Q_set ho hq2' hE58 0 (.slice A1 (xs.length + 1) k1)
        have hb3 := Fr.grown ⟨hb, Kept.of_grown hg HB3.out.2 (fun k he => .inl (Kd.Q_ok HQ3.out k he).1)⟩ hg3 (by omega) h1.1 h1.2
        have hk3 : KS qb bx mb r nd (w2.setCell ⟨qb, 0, none⟩ (.slice A1 (xs.length + 1) k1)) := ⟨by simp [World.cell?, hq3], cell_grown hg3 hHeld.2.1 hbq, cell_grown hg3 hHeld.2.2 hbq⟩
        have hsz3 := hg3.size
        refine hK.out _ _ hk3 (fun hHeld2 => ?_)
        clear hK K hHeld
        have hHeld := hHeld2
        clear hHeld2
        (try simp only [Act.put, List.setIfInBounds_toArray, List.set_cons_zero, List.set_cons_succ])
        generalize w2.setCell ⟨qb, 0, none⟩ (.slice A1 (xs.length + 1) k1) = w3 at *
        refine wpAnyH_ready (rs := [16]) (by kernel_rfl) (by simp) ?_
        refine AllReadyH.cons (o := { dst := some 37, op := Op.mapEntry 56 (Operand.tmp 26) (Operand.tmp 27), type := 0, pos := "queue.go:43", after := #[{ on := 4, ground := Ground.data }, { on := 5, ground := Ground.data }, { on := 15, ground := Ground.chain }, { on := 0, ground := Ground.phase }, { on := 1, ground := Ground.textOnly Departure.tupleMapEntryFirst }, { on := 2, ground := Ground.textOnly Departure.lateStoresUnsure }, { on := 3, ground := Ground.textOnly Departure.lateStoresUnsure }, { on := 4, ground := Ground.phase }, { on := 5, ground := Ground.textOnly Departure.lateStoresUnsure }, { on := 6, ground := Ground.phase }, { on := 7, ground := Ground.phase }, { on := 8, ground := Ground.phase }, { on := 9, ground := Ground.phase }, { on := 10, ground := Ground.phase }, { on := 11, ground := Ground.phase }, { on := 12, ground := Ground.phase }, { on := 13, ground := Ground.phase }, { on := 14, ground := Ground.phase }, { on := 15, ground := Ground.phase }], guard := none }) rfl (fun K hK => ?_) AllReadyH.nil
        obtain ⟨v0, st, o, hme, hput⟩ := hS3.put (n := n) (by have : maxLen = 9223372036854775807 := rfl; omega) hx
        obtain ⟨es, clk, hmb⟩ := hS3.map
        have hg4 := grown_setBlock hmb o
        have hmb4 : (Go.ChangeMaps.setBlock w3 mb o).heap[mb]? = some o := Go.ChangeMaps.heap_setBlock_same hmb o
        have hk4 : KS qb bx mb r nd (Go.ChangeMaps.setBlock w3 mb o) := KS.grown hHeld hg4 hqm hbm
        refine event_step (w1 := Go.ChangeMaps.setBlock w3 mb o) (v := .tuple #[v0, goInt st]) rfl (by unfold encI at hme; first | (go_simp; done) | (go_simp; rfl)) ?_
        refine hK.out _ _ hk4 (fun hHeld2 => ?_)
        clear hK K hHeld
        have hHeld := hHeld2
        clear hHeld2
        (try simp only [Act.put, List.setIfInBounds_toArray, List.set_cons_zero, List.set_cons_succ])
        obtain ⟨w5, hst, hS5, hg5⟩ := hput _ hmb4
        generalize Go.ChangeMaps.setBlock w3 mb o = w4 at *
        refine wpAnyH_ready (rs := [17]) (by kernel_rfl) (by simp) ?_
        refine AllReadyH.cons (o := { dst := some 38, op := Op.extract (Operand.tmp 37) 1, type := 3, pos := "queue.go:43", after := #[{ on := 16, ground := Ground.data }], guard := none }) rfl (fun K hK => ?_) AllReadyH.nil
        go_simp
        refine hK.out _ _ hHeld (fun hHeld2 => ?_)
        clear hK K hHeld
        have hHeld := hHeld2
        clear hHeld2
        (try simp only [Act.put, List.setIfInBounds_toArray, List.set_cons_zero, List.set_cons_succ])
        refine wpAnyH_ready (rs := [18]) (by kernel_rfl) (by simp) ?_
        refine AllReadyH.cons (o := { dst := none, op := Op.entryStore 56 (Operand.tmp 26) (Operand.tmp 38) (Operand.const (Value.bool true)), type := 0, pos := "queue.go:43", after := #[{ on := 4, ground := Ground.data }, { on := 17, ground := Ground.data }, { on := 16, ground := Ground.chain }, { on := 0, ground := Ground.phase }, { on := 1, ground := Ground.phase }, { on := 2, ground := Ground.phase }, { on := 3, ground := Ground.phase }, { on := 4, ground := Ground.phase }, { on := 5, ground := Ground.phase }, { on := 6, ground := Ground.phase }, { on := 7, ground := Ground.phase }, { on := 8, ground := Ground.phase }, { on := 9, ground := Ground.phase }, { on := 10, ground := Ground.phase }, { on := 11, ground := Ground.phase }, { on := 12, ground := Ground.phase }, { on := 13, ground := Ground.phase }, { on := 14, ground := Ground.phase }, { on := 15, ground := Ground.phase }, { on := 16, ground := Ground.phase }], guard := none }) rfl (fun K hK => ?_) AllReadyH.nil
        have hst2 : (Instr.entryStore 56 (.map (some mb)) (.int .i64 (st : Int)) (.bool true)).run Try.prog w4 = .ok () w5 := hst
        refine store_step (w1 := w5) rfl rfl (by first | (go_simp; done) | (go_simp; rw [hst2]; rfl)) ?_
        have hk5 := KS.grown hHeld hg5 hqm hbm
        refine hK.out _ _ hk5 (fun hHeld2 => ?_)
        clear hK K hHeld
        have hHeld := hHeld2
        clear hHeld2
        (try simp only [Act.put, List.setIfInBounds_toArray, List.set_cons_zero, List.set_cons_succ])
        have hg35 := hg4.trans hg5
        have hb5 := Fr.grown hb3 hg35 (by omega) h2.1 h2.2
        have ho5 := Kd.Q_grown1 ho3 KI_E hg35 (hS3.neRow ho3)
        have hq5 := blk_grown hq3 hg35 hqm
        refine wpAnyH_done (by kernel_rfl) ?_ _
        go_wp2
        go_ret
        (try rw [hE])
        (try rw [hL])
        exact ⟨rfl, ⟨_, mb, h1, h2, hq5, Kd.Q_mono ho5 (fun _ hk => hk.1), hS5, hW6⟩, hb5⟩
end Go.Proofs.Ytcnecdlphpkmgaa.Q
