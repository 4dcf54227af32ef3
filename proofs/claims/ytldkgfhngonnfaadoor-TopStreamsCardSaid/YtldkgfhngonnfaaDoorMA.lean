/- The disk: what it holds as plain data, and how it lies in memory. The disk's small functions: at, Sectors, find, Read, fails, Off, On, and what the closures tell. The disk: fails, On, what is kept, last. The disk: last, for the two closures. The disk: one region of it opened and shut; lose. The disk: Write, Flush. -/
import Derived.Test.YtldkgfhngonnfaaDoorPTopStreamsx2
import Derived.Test.YtldkgfhngonnfaaDoorWMore
import Derived.Test.YtldkgfhngonnfaaDoorWShare
import Derived.IntWalk
import Derived.Outline
import Derived.StillTailTactics
import Derived.Test.YtldkgfhngonnfaaDoorWApart
namespace Go.Proofs.YtldkgfhngonnfaaDoor.S
open Go.RowKit Go.Proofs.YtldkgfhngonnfaaDoor.PTopStreams Go.Proofs.YtldkgfhngonnfaaDoorW.PrintWords Go.Proofs.YtldkgfhngonnfaaDoorW.PrintLast Go.Proofs.YtldkgfhngonnfaaDoorW.PrintMore
set_option linter.unusedVariables false
set_option linter.unusedSimpArgs false

theorem grown_setCell (W : World) (b j : Nat) (u : Value) : W.grownBy (W.setCell ⟨b, j, none⟩ u) (some b) :=
  ⟨rfl, rfl, rfl, by simp [World.setCell], fun k _ hk => Below.heap_setCell _ _ _ k (fun e => hk (by rw [e]))⟩
section
variable {P : Program} {ops : Array Oper} {o : Oper} {a : Act} {Q : Exit → Act → World → Prop} {Kc : Act → World → Prop}
theorem store_step {W w1 : World} (hw : Region.wanted o (yielded ops a.tmps) = true) (hN : o.dst = none) (hrun : (execOp a.eval o).run P W = .ok .skip w1) (h : Kc a w1) : if Region.wanted o (yielded ops a.tmps) = true then Oper.wp P o a W Kc Q else Kc (a.put o.dst undef) W := by
  rw [if_pos hw]
  unfold Oper.wp
  rw [hrun]
  show Kc (a.put o.dst undef) w1
  rw [hN]
  exact h
end
theorem setCells_grown (w : World) (g : Nat) (vs : List Value) : w.grownBy (w.setCells g 0 vs) (some g) := by
  obtain ⟨h1, h2, h3, h4⟩ := setCells_same g vs 0 w
  exact ⟨h1, h2, h3, by rw [h4]; exact Nat.le_refl _, fun k _ hk => setCells_far vs 0 k (fun e => hk (by rw [e]))⟩
theorem setCells_full {w : World} {g : Nat} {t : TypeId} {cur : Array Value} (h : w.heap[g]? = some (.cells cur t (0, 0))) (vs : List Value) (hl : vs.length = cur.size) : (w.setCells g 0 vs).heap[g]? = some (.cells vs.toArray t (0, 0)) := by
  obtain ⟨cur', h1, h2, h3⟩ := setCells_row vs 0 w cur h (by omega)
  rw [List.take_zero, List.nil_append, List.drop_eq_nil_of_le (by rw [Array.length_toList]; omega), List.append_nil] at h3
  rw [h1, ← h3]
/-- Of the blocks that were there only those of S have been written, and none below N. -/
structure Fk (S : Nat → Prop) (N : Nat) (W w : World) : Prop where
  below : Below N W w
  size : W.heap.size ≤ w.heap.size
  keep : ∀ k, k < W.heap.size → ¬ S k → w.heap[k]? = W.heap[k]?
theorem Fk.refl (S : Nat → Prop) (N : Nat) (W : World) : Fk S N W W := ⟨Below.refl _ _, Nat.le_refl _, fun _ _ _ => rfl⟩
theorem Fk.of_below {S : Nat → Prop} {N : Nat} {W w : World} (h : Below W.heap.size W w) (hN : N ≤ W.heap.size) : Fk S N W w := ⟨h.mono hN, h.size, fun k hk _ => h.block k hk⟩
theorem Fk.trans {S S' : Nat → Prop} {N : Nat} {W w1 w2 : World} (h : Fk S N W w1) (h2 : Fk S' N w1 w2) (hS : ∀ k, k < W.heap.size → S' k → S k) : Fk S N W w2 :=
  ⟨h.below.trans h2.below, Nat.le_trans h.size h2.size, fun k hk hf => by
    rw [h2.keep k (Nat.lt_of_lt_of_le hk h.size) (fun h' => hf (hS k hk h')), h.keep k hk hf]⟩
theorem Fk.step {S : Nat → Prop} {N : Nat} {W w1 w2 : World} (h : Fk S N W w1) (h2 : Below w1.heap.size w1 w2) (hN : N ≤ W.heap.size) : Fk S N W w2 := h.trans (Fk.of_below (S := S) h2 (Nat.le_trans hN h.size)) (fun _ _ h => h)
theorem Fk.grown {S : Nat → Prop} {N b : Nat} {W w : World} (hg : W.grownBy w (some b)) (hb : N ≤ b) (hN : N ≤ W.heap.size) (hS : S b) : Fk S N W w :=
  ⟨(Below.refl N W).grown hg hN (fun k e => by injection e with e; omega), hg.size, fun k hk hf => hg.block k hk (fun e => hf (by injection e with e; exact e ▸ hS))⟩
theorem Fk.blk {S : Nat → Prop} {N : Nat} {W w : World} (h : Fk S N W w) {k : Nat} {o : Obj} (hk : W.heap[k]? = some o) (hS : ¬ S k) : w.heap[k]? = some o := (h.keep k (blk_lt hk) hS).trans hk
/-- A write that is not flushed: where, what. -/
abbrev Wr := Int × ByteArray
def KW : Kd Wr := Kd.pair (Kd.int .i64) Kd.string
structure Reg where
  lasts : List ByteArray
  queue : List Wr
instance : Inhabited Reg := ⟨⟨[], []⟩⟩
structure Dsk where
  regs : List Reg
  off : Bool
  tr : Int
  tl : Int
  keep : List Int
/-- Where a disk lies: its block, its row of regions, each region's block and its sectors' block. -/
structure Ad where
  db : Nat
  rb : Nat
  ps : List (Nat × Nat)
def IsReg (N : Nat) (w : World) (x : Nat × Nat) (R : Reg) (q : Value) : Prop :=
  N ≤ x.1 ∧ ∃ cl, w.heap[x.1]? = some (.cells #[.slice (some ⟨x.2, 0, none⟩) R.lasts.length cl, q] 57 (0, 0)) ∧ Kd.R Kd.string 9 w N (fun _ => True) (.slice (some ⟨x.2, 0, none⟩) R.lasts.length cl) R.lasts ∧ Kd.R KW 119 w N (fun _ => True) q R.queue
/-- A block that is none of the disk's. -/
def Free (K : Ad) (w : World) (k : Nat) : Prop := (k ≠ K.db ∧ ∀ x ∈ K.ps, k ≠ x.1 ∧ k ≠ x.2) ∧ ∀ cs fr, w.heap[k]? ≠ some (.cells cs 119 fr)
/-- What a call on a disk leaves as it was. -/
structure Fd (K : Ad) (N : Nat) (W w : World) : Prop where
  below : Below N W w
  size : W.heap.size ≤ w.heap.size
  keep : ∀ k, k < W.heap.size → Free K W k → w.heap[k]? = W.heap[k]?
structure IsDisk (N : Nat) (w : World) (K : Ad) (D : Dsk) : Prop where
  ndb : N ≤ K.db
  nd1 : (K.ps.map (·.1)).Nodup
  nd2 : (K.ps.map (·.2)).Nodup
  main : ∃ cr kv, w.heap[K.db]? = some (.cells #[.slice (some ⟨K.rb, 0, none⟩) K.ps.length cr, .bool D.off, .int .i64 D.tr, .int .i64 D.tl, kv] 51 (0, 0)) ∧ Kd.R (Kd.int .u64) 32 w N (fun _ => True) kv D.keep
  row : ∃ cs, w.heap[K.rb]? = some (.cells cs 52 (0, 0)) ∧ ∀ (i : Nat) (x : Nat × Nat), K.ps[i]? = some x → cs[i]? = some (Value.pointer (some ⟨x.1, 0, none⟩))
  len : D.regs.length = K.ps.length
  short : K.ps.length ≤ 8
  regs : ∃ qs : List Value, qs.length = K.ps.length ∧ (∀ (i : Nat) (x : Nat × Nat) (R : Reg) (q : Value), K.ps[i]? = some x → D.regs[i]? = some R → qs[i]? = some q → IsReg N w x R q) ∧ (∀ (i j : Nat) (q q' : Value), i ≠ j → qs[i]? = some q → qs[j]? = some q' → ∀ k, q.ownBlock = some k → q'.ownBlock ≠ some k)
theorem Fd.refl (K : Ad) (N : Nat) (W : World) : Fd K N W W := ⟨Below.refl _ _, Nat.le_refl _, fun _ _ _ => rfl⟩
theorem Fd.of_below {K : Ad} {N : Nat} {W w : World} (h : Below W.heap.size W w) (hN : N ≤ W.heap.size) : Fd K N W w := ⟨h.mono hN, h.size, fun k hk _ => h.block k hk⟩
theorem Free.step {K : Ad} {W w : World} {k : Nat} (h : Free K W k) (e : w.heap[k]? = W.heap[k]?) : Free K w k := ⟨h.1, fun cs fr => by rw [e]; exact h.2 cs fr⟩
theorem Fd.trans {K : Ad} {N : Nat} {W w1 w2 : World} (h : Fd K N W w1) (h2 : Fd K N w1 w2) : Fd K N W w2 :=
  ⟨h.below.trans h2.below, Nat.le_trans h.size h2.size, fun k hk hf => by
    have e := h.keep k hk hf
    rw [h2.keep k (Nat.lt_of_lt_of_le hk h.size) (hf.step e), e]⟩
theorem Fd.step {K : Ad} {N : Nat} {W w1 w2 : World} (h : Fd K N W w1) (h2 : Below w1.heap.size w1 w2) (hN : N ≤ W.heap.size) : Fd K N W w2 := h.trans (Fd.of_below h2 (Nat.le_trans hN h.size))
theorem Fd.grown {K : Ad} {N b : Nat} {W w : World} (hg : W.grownBy w (some b)) (hb : N ≤ b) (hN : N ≤ W.heap.size) (hK : ¬ Free K W b) : Fd K N W w :=
  ⟨(Below.refl N W).grown hg hN (fun k e => by injection e with e; omega), hg.size, fun k hk hf => hg.block k hk (fun e => hK (by injection e with e; exact e ▸ hf))⟩
theorem not_free_db (K : Ad) (W : World) : ¬ Free K W K.db := fun h => h.1.1 rfl
theorem not_free_p {K : Ad} {W : World} {x : Nat × Nat} (h : x ∈ K.ps) : ¬ Free K W x.1 := fun hf => (hf.1.2 x h).1 rfl
theorem not_free_l {K : Ad} {W : World} {x : Nat × Nat} (h : x ∈ K.ps) : ¬ Free K W x.2 := fun hf => (hf.1.2 x h).2 rfl
theorem not_free_q {K : Ad} {W : World} {k : Nat} {cs : Array Value} {fr : Nat × Nat} (h : W.heap[k]? = some (.cells cs 119 fr)) : ¬ Free K W k := fun hf => hf.2 cs fr h
theorem IsReg.below {N : Nat} {w w' : World} {x : Nat × Nat} {R : Reg} {q : Value} (h : IsReg N w x R q) (hb : Below w.heap.size w w') : IsReg N w' x R q := by
  obtain ⟨h0, cl, h1, h2, h3⟩ := h
  exact ⟨h0, cl, blk_below h1 hb, Kd.R_below h2 hb, Kd.R_below h3 hb⟩
theorem IsDisk.below {N : Nat} {w w' : World} {K : Ad} {D : Dsk} (h : IsDisk N w K D) (hb : Below w.heap.size w w') : IsDisk N w' K D := by
  obtain ⟨cr, kv, m1, m2⟩ := h.main
  obtain ⟨cs, r1, r2⟩ := h.row
  obtain ⟨qs, q1, q2, q3⟩ := h.regs
  exact ⟨h.ndb, h.nd1, h.nd2, ⟨cr, kv, blk_below m1 hb, Kd.R_below m2 hb⟩, ⟨cs, blk_below r1 hb, r2⟩, h.len, h.short, ⟨qs, q1, fun i x R q a b c => (q2 i x R q a b c).below hb, q3⟩⟩
/-- The i-th region. -/
theorem IsDisk.reg {N : Nat} {w : World} {K : Ad} {D : Dsk} (h : IsDisk N w K D) (i : Nat) (hi : i < K.ps.length) : ∃ x R q, K.ps[i]? = some x ∧ D.regs[i]? = some R ∧ IsReg N w x R q := by
  obtain ⟨qs, q1, q2, _⟩ := h.regs
  refine ⟨K.ps[i], D.regs[i]'(by rw [h.len]; exact hi), qs[i]'(by rw [q1]; exact hi), List.getElem?_eq_getElem hi, List.getElem?_eq_getElem _, ?_⟩
  exact q2 i _ _ _ (List.getElem?_eq_getElem hi) (List.getElem?_eq_getElem _) (List.getElem?_eq_getElem _)
theorem IsDisk.ptr {N : Nat} {w : World} {K : Ad} {D : Dsk} (h : IsDisk N w K D) (i : Nat) (x : Nat × Nat) (hx : K.ps[i]? = some x) : w.cell? ⟨K.rb, i, none⟩ = some (.pointer (some ⟨x.1, 0, none⟩)) := by
  obtain ⟨cs, r1, r2⟩ := h.row
  have h2 := r2 i x hx
  obtain ⟨hlt, he⟩ := Array.getElem?_eq_some_iff.1 h2
  rw [← he]
  exact (blk_cell r1 i).trans (by rw [h2, he])
/-- A write of a row of writes. -/
theorem at_W {w : World} {A : Option Addr} {n : Nat} {xs : List Wr} (h : Kd.C KW w A n xs) (p : Int) (i : Nat) (hp : p = (i : Int)) (hi : i < n) (z : Wr) : ∃ ad, A = some ad ∧ w.cell? (ad.add (p.toNat * 2)) = some (.int .i64 (xs.getD i z).1) ∧ w.cell? ⟨(ad.add (p.toNat * 2)).block, (ad.add (p.toNat * 2)).off + 1, none⟩ = some (.string (xs.getD i z).2) := by
  obtain ⟨ad, c, e, _, hK, hc0⟩ := Kd.C_get h z p (by omega) (by omega)
  have hc : ∀ j u, c[j]? = some u → w.cell? (ad.add (p.toNat * 2 + j)) = some u := hc0
  rw [show p.toNat = i by omega] at hK hc ⊢
  obtain ⟨_, _, rfl, rfl, rfl⟩ := hK
  exact ⟨ad, e, hc 0 _ rfl, by rw [← add_field _ _ 1 (by omega)]; exact hc 1 _ rfl⟩
end Go.Proofs.YtldkgfhngonnfaaDoor.S
namespace Go.Proofs.YtldkgfhngonnfaaDoor.S
open Go.RowKit Go.Proofs.YtldkgfhngonnfaaDoor.PTopStreams Go.Proofs.YtldkgfhngonnfaaDoorW.PrintWords Go.Proofs.YtldkgfhngonnfaaDoorW.PrintLast Go.Proofs.YtldkgfhngonnfaaDoorW.PrintMore
set_option linter.unusedVariables false
set_option linter.unusedSimpArgs false

/-- The disk's five cells. -/
theorem IsDisk.cells {N : Nat} {w : World} {K : Ad} {D : Dsk} (h : IsDisk N w K D) : ∃ cr kv, w.cell? ⟨K.db, 0, none⟩ = some (.slice (some ⟨K.rb, 0, none⟩) K.ps.length cr) ∧ w.cell? ⟨K.db, 1, none⟩ = some (.bool D.off) ∧ w.cell? ⟨K.db, 2, none⟩ = some (.int .i64 D.tr) ∧ w.cell? ⟨K.db, 3, none⟩ = some (.int .i64 D.tl) ∧ w.cell? ⟨K.db, 4, none⟩ = some kv ∧ (∀ j, w.frozen? ⟨K.db, j, none⟩ = false) ∧ Kd.R (Kd.int .u64) 32 w N (fun _ => True) kv D.keep := by
  obtain ⟨cr, kv, m1, m2⟩ := h.main
  exact ⟨cr, kv, (blk_cell m1 0).trans rfl, (blk_cell m1 1).trans rfl, (blk_cell m1 2).trans rfl, (blk_cell m1 3).trans rfl, (blk_cell m1 4).trans rfl, fun j => blk_frozen m1 j, m2⟩
set_option maxHeartbeats 2000000 in
set_option maxRecDepth 100000 in
theorem at_calls (N : Nat) (w : World) (K : Ad) (D : Dsk) (h : IsDisk N w K D) (p : Int) (i : Nat) (hp : p = (i : Int)) (x : Nat × Nat) (hx : K.ps[i]? = some x) :
    Calls Tryd.prog 17 #[.pointer (some ⟨K.db, 0, none⟩), .int .i64 p] w fun e w' => e = .returned (.pointer (some ⟨x.1, 0, none⟩)) ∧ w = w' := by
  have hi : i < K.ps.length := (List.getElem?_eq_some_iff.1 hx).1
  obtain ⟨cr, kv, k0, _, _, _, _, _, _⟩ := h.cells
  have kp := h.ptr i x hx
  have e : p.toNat = i := by omega
  rw [← e] at kp
  have h0 : 0 ≤ p := by omega
  have h1 : p < (K.ps.length : Int) := by omega
  have g1 : decide (p < 0) = false := decide_eq_false (by omega)
  have g2 : decide (p ≥ (K.ps.length : Int)) = false := decide_eq_false (by omega)
  have hu := Tryd.underlying51
  clear hp hx e h hi
  go_enter Tryd.func17, Tryd.ntmps17
  go_wp2
  go_ret
  exact ⟨rfl, rfl⟩
theorem IsReg.cells {N : Nat} {w : World} {x : Nat × Nat} {R : Reg} {q : Value} (h : IsReg N w x R q) : ∃ cl A c, q = .slice A R.queue.length c ∧ w.cell? ⟨x.1, 0, none⟩ = some (.slice (some ⟨x.2, 0, none⟩) R.lasts.length cl) ∧ w.cell? ⟨x.1, 1, none⟩ = some q ∧ (∀ j, w.frozen? ⟨x.1, j, none⟩ = false) := by
  obtain ⟨h0, cl, h1, h2, h3⟩ := h
  obtain ⟨A, c, e⟩ := Kd.R_slice h3
  exact ⟨cl, A, c, e, (blk_cell h1 0).trans rfl, (blk_cell h1 1).trans rfl, fun j => blk_frozen h1 j⟩
/-- A sector's text. -/
def Reg.at (R : Reg) (s : Nat) : ByteArray := R.lasts.getD s ByteArray.empty
theorem IsReg.last_cell {N : Nat} {w : World} {x : Nat × Nat} {R : Reg} {q : Value} (h : IsReg N w x R q) (p : Int) (s : Nat) (hp : p = (s : Int)) (hs : s < R.lasts.length) : w.cell? ⟨x.2, p.toNat, none⟩ = some (.string (R.at s)) ∧ w.frozen? ⟨x.2, p.toNat, none⟩ = false := by
  obtain ⟨h0, cl, h1, h2, h3⟩ := h
  have := Kd.R_celln (d := ByteArray.empty) h2 p (by omega) (by omega)
  unfold rdOf at this
  rw [show p.toNat = s by omega] at this ⊢
  exact this
set_option maxHeartbeats 2000000 in
set_option maxRecDepth 100000 in
theorem sectors_calls (N : Nat) (w : World) (K : Ad) (D : Dsk) (h : IsDisk N w K D) (p : Int) (i : Nat) (hp : p = (i : Int)) (R : Reg) (hR : D.regs[i]? = some R) :
    Calls Tryd.prog 20 #[.pointer (some ⟨K.db, 0, none⟩), .int .i64 p] w fun e w' => e = .returned (.int .i64 (R.lasts.length : Int)) ∧ w = w' := by
  have hi : i < K.ps.length := by rw [← h.len]; exact (List.getElem?_eq_some_iff.1 hR).1
  obtain ⟨x, R', q, hx, hR', hr⟩ := h.reg i hi
  obtain rfl : R = R' := Option.some.inj (hR.symm.trans hR')
  obtain ⟨cl, A, c, _, k0, _, _⟩ := hr.cells
  have HA := Aside0.mk (at_calls N w K D h p i hp x hx)
  have hu := Tryd.underlying57
  clear hp hR hR' hx h hr hi
  go_enter Tryd.func20, Tryd.ntmps20
  go_wp2_with (first | (go_at_call 17; go_loud (refine HA.out.mono ?_; rintro e w' ⟨rfl, rfl⟩)))
  go_ret
  exact ⟨rfl, rfl⟩
set_option maxHeartbeats 2000000 in
set_option maxRecDepth 100000 in
theorem find_calls (N : Nat) (w : World) (K : Ad) (D : Dsk) (h : IsDisk N w K D) (p : Int) (i : Nat) (hp : p = (i : Int)) (x : Nat × Nat) (hx : K.ps[i]? = some x) (R : Reg) (hR : D.regs[i]? = some R) (s : Int) (hs0 : 0 ≤ s) (hs1 : s < (R.lasts.length : Int)) :
    Calls Tryd.prog 57 #[.pointer (some ⟨K.db, 0, none⟩), .int .i64 p, .int .i64 s] w fun e w' => e = .returned (.tuple (if D.off then #[.pointer none, .int .i64 11] else #[.pointer (some ⟨x.1, 0, none⟩), .int .i64 0])) ∧ w = w' := by
  have hi : i < K.ps.length := (List.getElem?_eq_some_iff.1 hx).1
  obtain ⟨x', R', q, hx', hR', hr⟩ := h.reg i hi
  obtain rfl : R = R' := Option.some.inj (hR.symm.trans hR')
  obtain rfl : x = x' := Option.some.inj (hx.symm.trans hx')
  obtain ⟨cl, A, c, _, k0, _, _⟩ := hr.cells
  obtain ⟨cr, kv, d0, d1, d2, d3, d4, _, _⟩ := h.cells
  have HA := Aside0.mk (at_calls N w K D h p i hp x hx)
  have hu := Tryd.underlying57
  have hu2 := Tryd.underlying51
  have g1 : decide (s < 0) = false := decide_eq_false (by omega)
  have g2 : decide (s ≥ (R.lasts.length : Int)) = false := decide_eq_false (by omega)
  obtain ⟨regs, off, tr, tl, keep⟩ := D
  clear hp hR hR' hx hx' h hr hi
  simp only at d1
  cases off
  · go_enter Tryd.func57, Tryd.ntmps57
    go_wp2_with (first | (go_at_call 17; go_loud (refine HA.out.mono ?_; rintro e w' ⟨rfl, rfl⟩)))
    go_ret2
    exact ⟨rfl, rfl⟩
  · go_enter Tryd.func57, Tryd.ntmps57
    go_wp2_with (first | (go_at_call 17; go_loud (refine HA.out.mono ?_; rintro e w' ⟨rfl, rfl⟩)))
    go_ret2
    exact ⟨rfl, rfl⟩
set_option maxHeartbeats 2000000 in
set_option maxRecDepth 100000 in
/-- Read, nothing waiting to be flushed. -/
theorem read_calls (N : Nat) (w : World) (K : Ad) (D : Dsk) (h : IsDisk N w K D) (p : Int) (i : Nat) (hp : p = (i : Int)) (R : Reg) (hR : D.regs[i]? = some R) (hq : R.queue = []) (s : Int) (j : Nat) (hs : s = (j : Int)) (hj : j < R.lasts.length) :
    Calls Tryd.prog 37 #[.pointer (some ⟨K.db, 0, none⟩), .int .i64 p, .int .i64 s] w fun e w' => e = .returned (.tuple (if D.off then #[.string ⟨#[]⟩, .int .i64 11] else #[.string (R.at j), .int .i64 0])) ∧ w = w' := by
  have hi : i < K.ps.length := by rw [← h.len]; exact (List.getElem?_eq_some_iff.1 hR).1
  obtain ⟨x, R', q, hx, hR', hr⟩ := h.reg i hi
  obtain rfl : R = R' := Option.some.inj (hR.symm.trans hR')
  have hs0 : 0 ≤ s := by omega
  have hs1 : s < (R.lasts.length : Int) := by omega
  obtain ⟨cl, A, c, hqv, k0, k1, _⟩ := hr.cells
  rw [hq] at hqv
  have hqv2 : q = .slice A 0 c := hqv
  subst hqv2
  obtain ⟨lc, _⟩ := hr.last_cell s j hs hj
  have HF := Aside0.mk (find_calls N w K D h p i hp x hx R hR s hs0 hs1)
  have hu := Tryd.underlying57
  generalize R.at j = txt at *
  obtain ⟨regs, off, tr, tl, keep⟩ := D
  clear hp hR hR' hx h hr hi hqv hq hs hj
  cases off
  · have HF2 : Aside0 (Calls Tryd.prog 57 #[.pointer (some ⟨K.db, 0, none⟩), .int .i64 p, .int .i64 s] w fun e w' => e = .returned (.tuple #[.pointer (some ⟨x.1, 0, none⟩), .int .i64 0]) ∧ w = w') := HF
    clear HF
    go_enter Tryd.func37, Tryd.ntmps37
    go_wp2_with (first | (go_at_call 57; go_loud (refine HF2.out.mono ?_; rintro e w' ⟨rfl, rfl⟩)))
    refine wp_loop_rounds 1 ?_
    rw [rounds_succ]
    go_wp2
    go_ret2
    exact ⟨rfl, rfl⟩
  · have HF2 : Aside0 (Calls Tryd.prog 57 #[.pointer (some ⟨K.db, 0, none⟩), .int .i64 p, .int .i64 s] w fun e w' => e = .returned (.tuple #[.pointer none, .int .i64 11]) ∧ w = w') := HF
    clear HF
    go_enter Tryd.func37, Tryd.ntmps37
    go_wp2_with (first | (go_at_call 57; go_loud (refine HF2.out.mono ?_; rintro e w' ⟨rfl, rfl⟩)))
    go_ret2
    exact ⟨rfl, rfl⟩
set_option maxHeartbeats 2000000 in
set_option maxRecDepth 100000 in
theorem off_calls (N : Nat) (w : World) (K : Ad) (D : Dsk) (h : IsDisk N w K D) :
    Calls Tryd.prog 10 #[.pointer (some ⟨K.db, 0, none⟩)] w fun e w' => e = .returned (.bool D.off) ∧ w = w' := by
  obtain ⟨cr, kv, d0, d1, d2, d3, d4, _, _⟩ := h.cells
  have hu2 := Tryd.underlying51
  clear h
  go_enter Tryd.func10, Tryd.ntmps10
  go_wp2
  go_ret
  exact ⟨rfl, rfl⟩
/-- The disk's head is written anew. -/
theorem IsDisk.head {N : Nat} {w w' : World} {K : Ad} {D : Dsk} (h : IsDisk N w K D) (hg : w.grownBy w' (some K.db)) {off : Bool} {tr tl : Int} {keep : List Int} {kv : Value} {cr : Nat}
    (hk : w'.heap[K.db]? = some (.cells #[.slice (some ⟨K.rb, 0, none⟩) K.ps.length cr, .bool off, .int .i64 tr, .int .i64 tl, kv] 51 (0, 0))) (hR : Kd.R (Kd.int .u64) 32 w' N (fun _ => True) kv keep) : IsDisk N w' K ⟨D.regs, off, tr, tl, keep⟩ := by
  obtain ⟨cr0, kv0, m1, m2⟩ := h.main
  obtain ⟨cs, r1, r2⟩ := h.row
  obtain ⟨qs, q1, q2, q3⟩ := h.regs
  refine ⟨h.ndb, h.nd1, h.nd2, ⟨cr, kv, hk, hR⟩, ⟨cs, blk_grown r1 hg (fun e => blk_ne r1 m1 (by decide) (by injection e)), r2⟩, h.len, h.short, ⟨qs, q1, fun i x R q a b c => ?_, q3⟩⟩
  obtain ⟨h0, cl, h1, h2, h3⟩ := q2 i x R q a b c
  refine ⟨h0, cl, blk_grown h1 hg (fun e => blk_ne h1 m1 (by decide) (by injection e)), ?_, ?_⟩
  · exact Kd.R_mono (Kd.R_grown (Kd.R_types h2 m1 (t := 51) (by rw [show Kd.string.E = [] from rfl]; simp)) hg (fun k hk e => hk.2 (by injection e))) (fun _ _ => trivial)
  · exact Kd.R_mono (Kd.R_grown (Kd.R_types h3 m1 (t := 51) (by rw [show KW.E = [] from rfl]; simp)) hg (fun k hk e => hk.2 (by injection e))) (fun _ _ => trivial)
theorem IsDisk.keepR {N : Nat} {w w' : World} {K : Ad} {D : Dsk} (h : IsDisk N w K D) (hg : w.grownBy w' (some K.db)) {kv : Value} {ks : List Int} (hR : Kd.R (Kd.int .u64) 32 w N (fun _ => True) kv ks) : Kd.R (Kd.int .u64) 32 w' N (fun _ => True) kv ks := by
  obtain ⟨cr0, kv0, m1, m2⟩ := h.main
  exact Kd.R_mono (Kd.R_grown (Kd.R_types hR m1 (t := 51) (by rw [show (Kd.int .u64).E = [] from rfl]; simp)) hg (fun k hk e => hk.2 (by injection e))) (fun _ _ => trivial)
end Go.Proofs.YtldkgfhngonnfaaDoor.S
namespace Go.Proofs.YtldkgfhngonnfaaDoor.S
open Go.RowKit Go.Proofs.YtldkgfhngonnfaaDoor.PTopStreams Go.Proofs.YtldkgfhngonnfaaDoorW.PrintWords Go.Proofs.YtldkgfhngonnfaaDoorW.PrintLast Go.Proofs.YtldkgfhngonnfaaDoorW.PrintMore
set_option linter.unusedVariables false
set_option linter.unusedSimpArgs false

/-- Does the power fail at this call? -/
def Dsk.fails (D : Dsk) (n : Int) : Bool := !(D.tl == 0) && (D.tr == n && D.tl - 1 == 0)
def Dsk.tick (D : Dsk) (n : Int) : Dsk := if D.tl ≠ 0 ∧ D.tr = n then ⟨D.regs, D.off, D.tr, D.tl - 1, D.keep⟩ else D
set_option maxHeartbeats 2000000 in
set_option maxRecDepth 100000 in
theorem fails_calls (N : Nat) (w : World) (K : Ad) (D : Dsk) (h : IsDisk N w K D) (n : Int) (hN : N ≤ w.heap.size) (ht0 : 0 ≤ D.tl) (ht1 : D.tl ≤ 9223372036854775807) :
    Calls Tryd.prog 60 #[.pointer (some ⟨K.db, 0, none⟩), .int .i64 n] w fun e w' => e = .returned (.bool (D.fails n)) ∧ IsDisk N w' K (D.tick n) ∧ Fd K N w w' := by
  obtain ⟨cr, kv, d0, d1, d2, d3, d4, df, dk⟩ := h.cells
  have hm := h.main
  have hu2 := Tryd.underlying51
  have hu3 := Tryd.underlying49
  have HD := Aside0.mk h
  obtain ⟨regs, off, tr, tl, keep⟩ := D
  simp only at d1 d2 d3 ht0 ht1
  by_cases c0 : tl = 0
  · subst c0
    have hf : Dsk.fails ⟨regs, off, tr, 0, keep⟩ n = false := rfl
    have hk : Dsk.tick ⟨regs, off, tr, 0, keep⟩ n = ⟨regs, off, tr, 0, keep⟩ := by unfold Dsk.tick; rw [if_neg (by simp)]
    rw [hf, hk]
    clear hf hk h hm ht0 ht1 df dk
    go_enter Tryd.func60, Tryd.ntmps60
    go_wp2
    go_ret
    exact ⟨rfl, HD.out, Fd.refl _ _ _⟩
  · have e0 : (tl == 0) = false := beq_eq_false_iff_ne.mpr c0
    by_cases c1 : tr = n
    · subst c1
      have hf : Dsk.fails ⟨regs, off, tr, tl, keep⟩ tr = (tl - 1 == 0) := by unfold Dsk.fails; simp [e0]
      have hk : Dsk.tick ⟨regs, off, tr, tl, keep⟩ tr = ⟨regs, off, tr, tl - 1, keep⟩ := by unfold Dsk.tick; rw [if_pos ⟨c0, rfl⟩]
      rw [hf, hk]
      have hf3 := df 3
      have ht2 : 1 ≤ tl := by omega
      obtain ⟨cr', kv', m1, m2⟩ := hm
      have hg : w.grownBy (w.setCell ⟨K.db, 3, none⟩ (.int .i64 (tl - 1))) (some K.db) := grown_setCell w K.db 3 _
      have hk3 := blk_put (cs' := #[.slice (some ⟨K.rb, 0, none⟩) K.ps.length cr', .bool off, .int .i64 tr, .int .i64 (tl - 1), kv']) m1 3 (.int .i64 (tl - 1)) rfl
      have HD3 := Aside0.mk (h.head hg hk3 (h.keepR hg m2))
      have HG := Aside0.mk (Fd.grown (K := K) (N := N) hg h.ndb hN (not_free_db K w))
      clear h m1 m2 df dk c0 ht0 hf hk hk3 hg
      go_enter Tryd.func60, Tryd.ntmps60
      go_wp2
      go_ret
      exact ⟨rfl, HD3.out, HG.out⟩
    · have e1 : (tr == n) = false := beq_eq_false_iff_ne.mpr c1
      have e2 : (tr != n) = true := bne_iff_ne.mpr c1
      have hf : Dsk.fails ⟨regs, off, tr, tl, keep⟩ n = false := by unfold Dsk.fails; simp [e1]
      have hk : Dsk.tick ⟨regs, off, tr, tl, keep⟩ n = ⟨regs, off, tr, tl, keep⟩ := by unfold Dsk.tick; rw [if_neg (by simp [c1])]
      rw [hf, hk]
      clear hf hk h hm ht0 ht1 df dk c0 c1
      go_enter Tryd.func60, Tryd.ntmps60
      go_wp2
      go_ret
      exact ⟨rfl, HD.out, Fd.refl _ _ _⟩
set_option maxHeartbeats 2000000 in
set_option maxRecDepth 100000 in
theorem on_calls (N : Nat) (w : World) (K : Ad) (D : Dsk) (h : IsDisk N w K D) (hN : N ≤ w.heap.size) :
    Calls Tryd.prog 11 #[.pointer (some ⟨K.db, 0, none⟩)] w fun e w' => e = .returned (.tuple #[]) ∧ IsDisk N w' K ⟨D.regs, false, 0, 0, []⟩ ∧ Fd K N w w' := by
  obtain ⟨cr', kv', m1, m2⟩ := h.main
  have hu2 := Tryd.underlying51
  have hu3 := Tryd.underlying49
  have hx0 : w.cell? ⟨K.db, 1, none⟩ = some (.bool D.off) := (blk_cell m1 1).trans rfl
  have hx2 : w.cell? ⟨K.db, 2, none⟩ = some (.int .i64 D.tr) := (blk_cell m1 2).trans rfl
  have hx3 : w.cell? ⟨K.db, 3, none⟩ = some (.int .i64 D.tl) := (blk_cell m1 3).trans rfl
  have hx4 : w.cell? ⟨K.db, 4, none⟩ = some kv' := (blk_cell m1 4).trans rfl
  have hf1 := blk_frozen m1 1
  have hf2 := blk_frozen m1 2
  have hf3 := blk_frozen m1 3
  have hf4 := blk_frozen m1 4
  have HD := Aside0.mk h
  have HM := Aside0.mk m1
  clear h m1 m2
  go_enter Tryd.func11, Tryd.ntmps11
  go_wp2
  have hg : w.grownBy ((((w.setCell ⟨K.db, 1, none⟩ (.bool false)).setCell ⟨K.db, 2, none⟩ (.int .i64 0)).setCell ⟨K.db, 3, none⟩ (.int .i64 0)).setCell ⟨K.db, 4, none⟩ (.slice none 0 0)) (some K.db) :=
    (((grown_setCell w K.db 1 _).trans (grown_setCell _ K.db 2 _)).trans (grown_setCell _ K.db 3 _)).trans (grown_setCell _ K.db 4 _)
  have hk := blk_put (cs' := #[.slice (some ⟨K.rb, 0, none⟩) K.ps.length cr', .bool false, .int .i64 0, .int .i64 0, .slice none 0 0]) (blk_put (cs' := #[.slice (some ⟨K.rb, 0, none⟩) K.ps.length cr', .bool false, .int .i64 0, .int .i64 0, kv']) (blk_put (cs' := #[.slice (some ⟨K.rb, 0, none⟩) K.ps.length cr', .bool false, .int .i64 0, .int .i64 D.tl, kv']) (blk_put (cs' := #[.slice (some ⟨K.rb, 0, none⟩) K.ps.length cr', .bool false, .int .i64 D.tr, .int .i64 D.tl, kv']) HM.out 1 (.bool false) rfl) 2 (.int .i64 0) rfl) 3 (.int .i64 0) rfl) 4 (.slice none 0 0) rfl
  go_end0
  exact ⟨rfl, HD.out.head hg hk (Kd.R_nil _ _ _ _ _), Fd.grown hg HD.out.ndb hN (not_free_db K w)⟩
/-- Is the i-th write of region n kept? -/
def keptB (ks : List Int) (n i : Nat) : Bool := decide (n < ks.length) && (Go.bits .and .u64 (shr .u64 (ks.getD n 0) ((i % 64 : Nat) : Int)) 1 == 1)
set_option maxHeartbeats 2000000 in
set_option maxRecDepth 100000 in
theorem kept_calls (w : World) (nb kb : Nat) (n i : Nat) (pn pi : Int) (A : Option Addr) (c : Nat) (ks : List Int) (hpn : pn = (n : Int)) (hpi : pi = (i : Int)) (hnb : w.heap[nb]? = some (.cells #[.int .i64 pn] 3 (0, 0))) (hkb : w.heap[kb]? = some (.cells #[.slice A ks.length c] 47 (0, 0))) (hk : Kd.C (Kd.int .u64) w A ks.length ks) :
    Calls Tryd.prog 52 #[.int .i64 pi, .pointer (some ⟨nb, 0, none⟩), .pointer (some ⟨kb, 0, none⟩)] w fun e w' => e = .returned (.bool (keptB ks n i)) ∧ w = w' := by
  have hx : w.cell? ⟨nb, 0, none⟩ = some (.int .i64 pn) := (blk_cell hnb 0).trans rfl
  have hy : w.cell? ⟨kb, 0, none⟩ = some (.slice A ks.length c) := (blk_cell hkb 0).trans rfl
  have hp0 : 0 ≤ pi := by omega
  have hm0 : 0 ≤ pi % 64 := by omega
  have hm1 : pi % 64 ≤ 64 := by omega
  by_cases hin : n < ks.length
  · have g1 : decide (pn < (ks.length : Int)) = true := decide_eq_true (by omega)
    obtain ⟨ad, e, hc⟩ := Kd.at_int hk pn (by omega) (by omega)
    subst e
    have hv : rd ks pn = ks.getD n 0 := by unfold rd; rw [show pn.toNat = n by omega]
    rw [hv] at hc
    have hmi : pi % 64 = ((i % 64 : Nat) : Int) := by omega
    have h0 : 0 ≤ pn := by omega
    have h1 : pn < (ks.length : Int) := by omega
    have hB : keptB ks n i = (Go.bits .and .u64 (shr .u64 (ks.getD n 0) (pi % 64)) 1 == 1) := by unfold keptB; rw [decide_eq_true hin, Bool.true_and, hmi]
    rw [hB]
    have hsh := shr_small (k := .u64) (x := ks.getD n 0) (y := pi % 64) (j := shr .u64 (ks.getD n 0) (pi % 64)) rfl (by show pi % 64 ≤ 64; omega)
    have hsh2 : ks.getD n 0 / 2 ^ min (pi % 64).toNat 64 = shr .u64 (ks.getD n 0) (pi % 64) := rfl
    generalize shr .u64 (ks.getD n 0) (pi % 64) = js at *
    generalize ks.getD n 0 = kk at *
    clear hB hmi hv hk hnb hkb hin hpn hpi
    go_enter Tryd.func52, Tryd.ntmps52
    go_wp2
    go_ret
    exact ⟨rfl, rfl⟩
  · have g1 : decide (pn < (ks.length : Int)) = false := decide_eq_false (by omega)
    have hB : keptB ks n i = false := by unfold keptB; rw [decide_eq_false hin, Bool.false_and]
    rw [hB]
    clear hB hk hnb hkb hin hpn hpi
    go_enter Tryd.func52, Tryd.ntmps52
    go_wp2
    go_ret
    exact ⟨rfl, rfl⟩
set_option maxHeartbeats 2000000 in
set_option maxRecDepth 100000 in
theorem all_calls (w : World) (pi : Int) : Calls Tryd.prog 61 #[.int .i64 pi] w fun e w' => e = .returned (.bool true) ∧ w = w' := by
  go_enter Tryd.func61, Tryd.ntmps61
  go_wp2
  go_ret
  exact ⟨rfl, rfl⟩
end Go.Proofs.YtldkgfhngonnfaaDoor.S
namespace Go.Proofs.YtldkgfhngonnfaaDoor.S
open Go.RowKit Go.Proofs.YtldkgfhngonnfaaDoor.PTopStreams Go.Proofs.YtldkgfhngonnfaaDoorW.PrintWords Go.Proofs.YtldkgfhngonnfaaDoorW.PrintLast Go.Proofs.YtldkgfhngonnfaaDoorW.PrintMore
set_option linter.unusedVariables false
set_option linter.unusedSimpArgs false

def z119 : Wr := (0, ByteArray.empty)
/-- The sectors behind the first i writes, as far as they are kept. -/
def lastTo (kept : Nat → Bool) (Q : List Wr) (L : List ByteArray) : Nat → List ByteArray
  | 0 => L
  | i + 1 => if kept i then (lastTo kept Q L i).set (Q.getD i z119).1.toNat (Q.getD i z119).2 else lastTo kept Q L i
theorem lastTo_len (kept : Nat → Bool) (Q : List Wr) (L : List ByteArray) (i : Nat) : (lastTo kept Q L i).length = L.length := by
  induction i with
  | zero => rfl
  | succ i ih => unfold lastTo; split <;> simp [ih]
def Reg.last (R : Reg) (kept : Nat → Bool) : Reg := ⟨lastTo kept R.queue R.lasts R.queue.length, []⟩
/-- Every write that waits is to a sector that is there. -/
def Reg.ok (R : Reg) : Prop := ∀ u ∈ R.queue, 0 ≤ u.1 ∧ u.1 < (R.lasts.length : Int)
/-- The sectors' row with one sector written. -/
theorem IsReg.set {N : Nat} {w : World} {x : Nat × Nat} {R : Reg} {q : Value} (h : IsReg N w x R q) (p : Int) (v : ByteArray) (h0 : 0 ≤ p) (h1 : p < (R.lasts.length : Int)) : IsReg N (w.setCell ⟨x.2, p.toNat, none⟩ (.string v)) x ⟨R.lasts.set p.toNat v, R.queue⟩ q ∧ w.grownBy (w.setCell ⟨x.2, p.toNat, none⟩ (.string v)) (some x.2) ∧ N ≤ x.2 := by
  obtain ⟨h0, cl, h1, h2, h3⟩ := h
  obtain ⟨k1, k2⟩ := Kd.R_putg h2 p v
  obtain ⟨cells, hty⟩ := Kd.R_typed h2 x.2 rfl
  refine ⟨⟨h0, cl, ?_, ?_, ?_⟩, k2, Kd.R_base h2 x.2 rfl⟩
  · rw [List.length_set]
    exact blk_grown h1 k2 (fun e => blk_ne h1 hty (by decide) (by injection e))
  · rw [List.length_set]; exact k1
  · exact Kd.R_mono (Kd.R_grown (Kd.R_types h3 hty (by rw [show KW.E = [] from rfl]; simp)) k2 (fun k hk e => hk.2 (by injection e))) (fun _ _ => trivial)
set_option maxHeartbeats 8000000 in
set_option maxRecDepth 100000 in
theorem last61_calls (N : Nat) (w : World) (x : Nat × Nat) (R : Reg) (q : Value) (h : IsReg N w x R q) (hq : R.ok) (hN : N ≤ w.heap.size) :
    Calls Tryd.prog 51 #[.pointer (some ⟨x.1, 0, none⟩), .func (Fn.func 61) #[] #[]] w fun e w' => e = .returned (.tuple #[]) ∧ IsReg N w' x (R.last (fun _ => true)) (.slice none 0 0) ∧ Fk (fun k => k = x.1 ∨ k = x.2) N w w' := by
  have hu := Tryd.underlying57
  have hu2 := Tryd.underlying119
  obtain ⟨cl, A1, c1, hqv, k0, k1, kf⟩ := h.cells
  subst hqv
  have H := Aside0.mk h
  have HQ := Aside0.mk hq
  have HMX : Aside0 (R.queue.length ≤ 9223372036854775807) := Aside0.mk (by
    obtain ⟨_, _, _, _, h3⟩ := h
    have h4 := (Kd.R_reads' h3).2.2.2.1
    have : maxLen = 9223372036854775807 := rfl
    omega)
  have HKC : Aside0 (∀ (w1 : World) (pi : Int) (i : Nat), Fk (fun k => k = x.1 ∨ k = x.2) N w w1 → pi = (i : Int) → Calls Tryd.prog 61 #[.int .i64 pi] w1 fun e w' => e = .returned (.bool true) ∧ w1 = w') := Aside0.mk (fun w1 pi i _ _ => all_calls w1 pi)
  clear h hq kf k0
  go_enter Tryd.func51, Tryd.ntmps51
  go_wp2
  clear k1
  have hmx := HMX.out
  go_loopw [11] (fun v11 wr => ∃ (p : Int) (i : Nat), v11 = .int .i64 p ∧ Aside0 (p = (i : Int)) ∧ i ≤ R.queue.length ∧ Aside0 (IsReg N wr x ⟨lastTo (fun _ => true) R.queue R.lasts i, R.queue⟩ (.slice A1 R.queue.length c1)) ∧ Aside0 (Fk (fun k => k = x.1 ∨ k = x.2) N w wr)) (fun v11 _ => R.queue.length - (intOf v11).toNat)
  case atStart => exact ⟨0, 0, rfl, Aside0.mk rfl, Nat.zero_le _, H, Aside0.mk (Fk.refl _ _ _)⟩
  case round =>
    obtain ⟨p, i, rfl, HP, hi, HR, HF⟩ := hrel
    have hsz : N ≤ wr.heap.size := Nat.le_trans hN HF.out.size
    by_cases hin : i < R.queue.length
    · have hlt : decide (p < (R.queue.length : Int)) = true := decide_eq_true (by rw [HP.out]; omega)
      have hp0 : 0 ≤ p := by rw [HP.out]; omega
      have hp1 : p < (R.queue.length : Int) := by rw [HP.out]; omega
      have HW : Aside0 (p + 1 = ((i + 1 : Nat) : Int)) := Aside0.mk (by rw [HP.out]; omega)
      obtain ⟨ad, e, c0, c1'⟩ := at_W (by obtain ⟨_, _, _, _, h3⟩ := HR.out; exact (Kd.R_reads' h3).2.2) p i HP.out hin z119
      subst e
      have hmem : R.queue.getD i z119 ∈ R.queue := by rw [List.getD_eq_getElem?_getD, List.getElem?_eq_getElem hin]; exact List.getElem_mem hin
      obtain ⟨hs0, hs1⟩ := HQ.out _ hmem
      have hll := lastTo_len (fun _ => true) R.queue R.lasts i
      have HS := Aside0.mk (show lastTo (fun _ => true) R.queue R.lasts (i + 1) = if (fun _ => true) i then (lastTo (fun _ => true) R.queue R.lasts i).set (R.queue.getD i z119).1.toNat (R.queue.getD i z119).2 else lastTo (fun _ => true) R.queue R.lasts i from rfl)
      generalize R.queue.getD i z119 = u at *
      obtain ⟨us, ud⟩ := u
      simp only at c0 c1' hs0 hs1
      have hb1 := below_alloc (Below.refl wr.heap.size wr) (.cells #[.int .i64 us, .string ud] 119)
      have HX1 := Aside0.mk (blk_new wr (.cells #[.int .i64 us, .string ud] 119))
      have HR1 := Aside0.mk (HR.out.below hb1)
      have HF1 := Aside0.mk (HF.out.step hb1 hN)
      have hs1' : us < ((lastTo (fun _ => true) R.queue R.lasts i).length : Int) := by rw [hll]; exact hs1
      clear hmem hs1 hll HR
      go_upto_region 3 with (fail)
      clear c0 c1' hb1
      generalize wr.alloc (.cells #[.int .i64 us, .string ud] 119) = w1 at *
      generalize wr.heap.size = gb at *
      have hx0 : w1.cell? ⟨gb, 0, none⟩ = some (.int .i64 us) := (blk_cell HX1.out 0).trans rfl
      have hx1 : w1.cell? ⟨gb, 1, none⟩ = some (.string ud) := (blk_cell HX1.out 1).trans rfl
      have HC := Aside0.mk (HKC.out w1 p i HF1.out HP.out)
      replace HS : Aside0 (lastTo (fun _ => true) R.queue R.lasts (i + 1) = (lastTo (fun _ => true) R.queue R.lasts i).set us.toNat ud) := Aside0.mk HS.out
      obtain ⟨cl2, A2, c2, e2, k0, k1, kf⟩ := HR1.out.cells
      clear e2 k1 kf
      have k0 : w1.cell? ⟨x.1, 0, none⟩ = some (.slice (some ⟨x.2, 0, none⟩) (lastTo (fun _ => true) R.queue R.lasts i).length cl2) := k0
      obtain ⟨hst, hgr, hnx⟩ := (HR1.out.below (below_drew1 (Below.refl w1.heap.size w1))).set us ud hs0 hs1'
      obtain ⟨hcl, hfz⟩ := (HR1.out.below (below_drew1 (Below.refl w1.heap.size w1))).last_cell us us.toNat (by omega) (by simp only; omega)
      have HST := Aside0.mk hst
      have HF2 := Aside0.mk ((HF1.out.step (below_drew1 (Below.refl w1.heap.size w1)) hN).trans (Fk.grown (S := fun k => k = x.1 ∨ k = x.2) hgr hnx (Nat.le_trans hN (HF1.out.step (below_drew1 (Below.refl w1.heap.size w1)) hN).size) (.inr rfl)) (fun _ _ h => h))
      clear hst hgr hnx HR1 HF1
      go_upto_region 4 with (first | (go_at_call 61; go_loud (refine HC.out.mono ?_; rintro e w' ⟨rfl, rfl⟩)))
      go_still_tail 9, (by kernel_rfl)
      change wpList _ _ _ _ _ w1.drew
      refine store_event (t := 9) (p := 27) (w1 := w1.drew.setCell ⟨x.2, us.toNat, none⟩ (.string ud)) rfl rfl rfl (by first | (go_simp; done) | (go_simp; rfl)) ?_
      intro w5 hw5
      subst hw5
      generalize w1.drew.setCell ⟨x.2, us.toNat, none⟩ (.string ud) = w5 at *
      clear hcl hfz k0 hx0 hx1
      go_wp2
      go_roundw
      case rel => exact ⟨_, i + 1, rfl, HW, by omega, by rw [HS.out]; exact HST, HF2⟩
      case measure => simp [intOf]; have := HP.out; have := HW.out; omega
    · have hlt : decide (p < (R.queue.length : Int)) = false := decide_eq_false (by rw [HP.out]; omega)
      obtain rfl : i = R.queue.length := by omega
      obtain ⟨h0, cl3, h1, h2, h3⟩ := HR.out
      have hx1 : wr.cell? ⟨x.1, 1, none⟩ = some (.slice A1 R.queue.length c1) := (blk_cell h1 1).trans rfl
      have hf1 := blk_frozen h1 1
      have hg := grown_setCell wr x.1 1 (.slice none 0 0)
      have hk := blk_put (cs' := #[.slice (some ⟨x.2, 0, none⟩) (lastTo (fun _ => true) R.queue R.lasts R.queue.length).length cl3, .slice none 0 0]) h1 1 (.slice none 0 0) rfl
      have HL := Aside0.mk (Kd.R_mono (Kd.R_grown (Kd.R_types h2 h1 (t := 57) (by rw [show Kd.string.E = [] from rfl]; simp)) hg (fun k hk e => hk.2 (by injection e))) (fun _ _ => trivial) : Kd.R Kd.string 9 (wr.setCell ⟨x.1, 1, none⟩ (.slice none 0 0)) N (fun _ => True) _ _)
      have HK := Aside0.mk hk
      have HG := Aside0.mk hg
      clear h1 h2 h3 hk hg
      go_wp2
      go_end0
      exact ⟨rfl, ⟨h0, cl3, HK.out, HL.out, Kd.R_nil _ _ _ _ _⟩, HF.out.trans (Fk.grown (S := fun k => k = x.1 ∨ k = x.2) HG.out h0 hsz (.inl rfl)) (fun _ _ h => h)⟩
set_option maxHeartbeats 8000000 in
set_option maxRecDepth 100000 in
theorem last52_calls (N : Nat) (w : World) (x : Nat × Nat) (R : Reg) (q : Value) (h : IsReg N w x R q) (hq : R.ok) (hN : N ≤ w.heap.size) (nb kb n : Nat) (pn : Int) (A : Option Addr) (c : Nat) (ks : List Int) (okK : Nat → Prop) (hpn : pn = (n : Int)) (hnb : w.heap[nb]? = some (.cells #[.int .i64 pn] 3 (0, 0))) (hkb : w.heap[kb]? = some (.cells #[.slice A ks.length c] 47 (0, 0))) (hks : Kd.F (Kd.int .u64) w okK A ks.length ks) (hok : ∀ k, okK k → k ≠ x.1 ∧ k ≠ x.2) (hnx : (nb ≠ x.1 ∧ nb ≠ x.2) ∧ kb ≠ x.1 ∧ kb ≠ x.2) :
    Calls Tryd.prog 51 #[.pointer (some ⟨x.1, 0, none⟩), .func (Fn.func 52) #[] #[.pointer (some ⟨nb, 0, none⟩), .pointer (some ⟨kb, 0, none⟩)]] w fun e w' => e = .returned (.tuple #[]) ∧ IsReg N w' x (R.last (keptB ks n)) (.slice none 0 0) ∧ Fk (fun k => k = x.1 ∨ k = x.2) N w w' := by
  have hu := Tryd.underlying57
  have hu2 := Tryd.underlying119
  obtain ⟨cl, A1, c1, hqv, k0, k1, kf⟩ := h.cells
  subst hqv
  have H := Aside0.mk h
  have HQ := Aside0.mk hq
  have HMX : Aside0 (R.queue.length ≤ 9223372036854775807) := Aside0.mk (by
    obtain ⟨_, _, _, _, h3⟩ := h
    have h4 := (Kd.R_reads' h3).2.2.2.1
    have : maxLen = 9223372036854775807 := rfl
    omega)
  have HKC : Aside0 (∀ (w1 : World) (pi : Int) (i : Nat), Fk (fun k => k = x.1 ∨ k = x.2) N w w1 → pi = (i : Int) → Calls Tryd.prog 52 #[.int .i64 pi, .pointer (some ⟨nb, 0, none⟩), .pointer (some ⟨kb, 0, none⟩)] w1 fun e w' => e = .returned (.bool (keptB ks n i)) ∧ w1 = w') := Aside0.mk (fun w1 pi i hf hpi => by
    refine kept_calls w1 nb kb n i pn pi A c ks hpn hpi (hf.blk hnb ?_) (hf.blk hkb ?_) (Kd.F_now (Kd.F_step hks (fun k hk hlt => hf.keep k hlt ?_)))
    · rintro (e | e)
      · exact hnx.1.1 e
      · exact hnx.1.2 e
    · rintro (e | e)
      · exact hnx.2.1 e
      · exact hnx.2.2 e
    · rintro (e | e)
      · exact (hok k hk).1 e
      · exact (hok k hk).2 e)
  clear hpn hnb hkb hks hok hnx
  clear h hq kf k0
  go_enter Tryd.func51, Tryd.ntmps51
  go_wp2
  clear k1
  have hmx := HMX.out
  go_loopw [11] (fun v11 wr => ∃ (p : Int) (i : Nat), v11 = .int .i64 p ∧ Aside0 (p = (i : Int)) ∧ i ≤ R.queue.length ∧ Aside0 (IsReg N wr x ⟨lastTo (keptB ks n) R.queue R.lasts i, R.queue⟩ (.slice A1 R.queue.length c1)) ∧ Aside0 (Fk (fun k => k = x.1 ∨ k = x.2) N w wr)) (fun v11 _ => R.queue.length - (intOf v11).toNat)
  case atStart => exact ⟨0, 0, rfl, Aside0.mk rfl, Nat.zero_le _, H, Aside0.mk (Fk.refl _ _ _)⟩
  case round =>
    obtain ⟨p, i, rfl, HP, hi, HR, HF⟩ := hrel
    have hsz : N ≤ wr.heap.size := Nat.le_trans hN HF.out.size
    by_cases hin : i < R.queue.length
    · have hlt : decide (p < (R.queue.length : Int)) = true := decide_eq_true (by rw [HP.out]; omega)
      have hp0 : 0 ≤ p := by rw [HP.out]; omega
      have hp1 : p < (R.queue.length : Int) := by rw [HP.out]; omega
      have HW : Aside0 (p + 1 = ((i + 1 : Nat) : Int)) := Aside0.mk (by rw [HP.out]; omega)
      obtain ⟨ad, e, c0, c1'⟩ := at_W (by obtain ⟨_, _, _, _, h3⟩ := HR.out; exact (Kd.R_reads' h3).2.2) p i HP.out hin z119
      subst e
      have hmem : R.queue.getD i z119 ∈ R.queue := by rw [List.getD_eq_getElem?_getD, List.getElem?_eq_getElem hin]; exact List.getElem_mem hin
      obtain ⟨hs0, hs1⟩ := HQ.out _ hmem
      have hll := lastTo_len (keptB ks n) R.queue R.lasts i
      have HS := Aside0.mk (show lastTo (keptB ks n) R.queue R.lasts (i + 1) = if (keptB ks n) i then (lastTo (keptB ks n) R.queue R.lasts i).set (R.queue.getD i z119).1.toNat (R.queue.getD i z119).2 else lastTo (keptB ks n) R.queue R.lasts i from rfl)
      generalize R.queue.getD i z119 = u at *
      obtain ⟨us, ud⟩ := u
      simp only at c0 c1' hs0 hs1
      have hb1 := below_alloc (Below.refl wr.heap.size wr) (.cells #[.int .i64 us, .string ud] 119)
      have HX1 := Aside0.mk (blk_new wr (.cells #[.int .i64 us, .string ud] 119))
      have HR1 := Aside0.mk (HR.out.below hb1)
      have HF1 := Aside0.mk (HF.out.step hb1 hN)
      have hs1' : us < ((lastTo (keptB ks n) R.queue R.lasts i).length : Int) := by rw [hll]; exact hs1
      clear hmem hs1 hll HR
      go_upto_region 3 with (fail)
      clear c0 c1' hb1
      generalize wr.alloc (.cells #[.int .i64 us, .string ud] 119) = w1 at *
      generalize wr.heap.size = gb at *
      have hx0 : w1.cell? ⟨gb, 0, none⟩ = some (.int .i64 us) := (blk_cell HX1.out 0).trans rfl
      have hx1 : w1.cell? ⟨gb, 1, none⟩ = some (.string ud) := (blk_cell HX1.out 1).trans rfl
      have HC := Aside0.mk (HKC.out w1 p i HF1.out HP.out)
      cases hkp : keptB ks n i
      · rw [hkp] at HS HC
        replace HS : Aside0 (lastTo (keptB ks n) R.queue R.lasts (i + 1) = lastTo (keptB ks n) R.queue R.lasts i) := Aside0.mk HS.out
        clear hkp
        go_wp2_with (first | (go_at_call 52; go_loud (refine HC.out.mono ?_; rintro e w' ⟨rfl, rfl⟩)))
        go_roundw
        case rel => exact ⟨_, i + 1, rfl, HW, by omega, by rw [HS.out]; exact HR1, HF1⟩
        case measure => simp [intOf]; have := HP.out; have := HW.out; omega
      · rw [hkp] at HS HC
        replace HS : Aside0 (lastTo (keptB ks n) R.queue R.lasts (i + 1) = (lastTo (keptB ks n) R.queue R.lasts i).set us.toNat ud) := Aside0.mk HS.out
        clear hkp
        obtain ⟨cl2, A2, c2, e2, k0, k1, kf⟩ := HR1.out.cells
        clear e2 k1 kf
        have k0 : w1.cell? ⟨x.1, 0, none⟩ = some (.slice (some ⟨x.2, 0, none⟩) (lastTo (keptB ks n) R.queue R.lasts i).length cl2) := k0
        obtain ⟨hst, hgr, hnx⟩ := (HR1.out.below (below_drew1 (Below.refl w1.heap.size w1))).set us ud hs0 hs1'
        obtain ⟨hcl, hfz⟩ := (HR1.out.below (below_drew1 (Below.refl w1.heap.size w1))).last_cell us us.toNat (by omega) (by simp only; omega)
        have HST := Aside0.mk hst
        have HF2 := Aside0.mk ((HF1.out.step (below_drew1 (Below.refl w1.heap.size w1)) hN).trans (Fk.grown (S := fun k => k = x.1 ∨ k = x.2) hgr hnx (Nat.le_trans hN (HF1.out.step (below_drew1 (Below.refl w1.heap.size w1)) hN).size) (.inr rfl)) (fun _ _ h => h))
        clear hst hgr hnx HR1 HF1
        go_upto_region 4 with (first | (go_at_call 52; go_loud (refine HC.out.mono ?_; rintro e w' ⟨rfl, rfl⟩)))
        go_still_tail 9, (by kernel_rfl)
        change wpList _ _ _ _ _ w1.drew
        refine store_event (t := 9) (p := 27) (w1 := w1.drew.setCell ⟨x.2, us.toNat, none⟩ (.string ud)) rfl rfl rfl (by first | (go_simp; done) | (go_simp; rfl)) ?_
        intro w5 hw5
        subst hw5
        generalize w1.drew.setCell ⟨x.2, us.toNat, none⟩ (.string ud) = w5 at *
        clear hcl hfz k0 hx0 hx1
        go_wp2
        go_roundw
        case rel => exact ⟨_, i + 1, rfl, HW, by omega, by rw [HS.out]; exact HST, HF2⟩
        case measure => simp [intOf]; have := HP.out; have := HW.out; omega
    · have hlt : decide (p < (R.queue.length : Int)) = false := decide_eq_false (by rw [HP.out]; omega)
      obtain rfl : i = R.queue.length := by omega
      obtain ⟨h0, cl3, h1, h2, h3⟩ := HR.out
      have hx1 : wr.cell? ⟨x.1, 1, none⟩ = some (.slice A1 R.queue.length c1) := (blk_cell h1 1).trans rfl
      have hf1 := blk_frozen h1 1
      have hg := grown_setCell wr x.1 1 (.slice none 0 0)
      have hk := blk_put (cs' := #[.slice (some ⟨x.2, 0, none⟩) (lastTo (keptB ks n) R.queue R.lasts R.queue.length).length cl3, .slice none 0 0]) h1 1 (.slice none 0 0) rfl
      have HL := Aside0.mk (Kd.R_mono (Kd.R_grown (Kd.R_types h2 h1 (t := 57) (by rw [show Kd.string.E = [] from rfl]; simp)) hg (fun k hk e => hk.2 (by injection e))) (fun _ _ => trivial) : Kd.R Kd.string 9 (wr.setCell ⟨x.1, 1, none⟩ (.slice none 0 0)) N (fun _ => True) _ _)
      have HK := Aside0.mk hk
      have HG := Aside0.mk hg
      clear h1 h2 h3 hk hg
      go_wp2
      go_end0
      exact ⟨rfl, ⟨h0, cl3, HK.out, HL.out, Kd.R_nil _ _ _ _ _⟩, HF.out.trans (Fk.grown (S := fun k => k = x.1 ∨ k = x.2) HG.out h0 hsz (.inl rfl)) (fun _ _ h => h)⟩
end Go.Proofs.YtldkgfhngonnfaaDoor.S
namespace Go.Proofs.YtldkgfhngonnfaaDoor.S
open Go.RowKit Go.Proofs.YtldkgfhngonnfaaDoor.PTopStreams Go.Proofs.YtldkgfhngonnfaaDoorW.PrintWords Go.Proofs.YtldkgfhngonnfaaDoorW.PrintLast Go.Proofs.YtldkgfhngonnfaaDoorW.PrintMore
set_option linter.unusedVariables false
set_option linter.unusedSimpArgs false

/-- A row of elements without rows of their own is its own block alone. -/
theorem R_own_step {α : Type} {d : Kd α} {e base : Nat} {w w' : World} {v : Value} {xs : List α} (hE : d.E = []) (h : d.R e w base (fun _ => True) v xs) (hm : ∀ k, v.ownBlock = some k → k < w.heap.size → w'.heap[k]? = w.heap[k]?) : d.R e w' base (fun _ => True) v xs :=
  Kd.R_mono (Kd.R_step (Kd.R_tight hE h) (fun k hk hlt => hm k hk.symm hlt)) (fun _ _ => trivial)
theorem nodup_ne {α : Type} {l : List α} {i j : Nat} {a b : α} (h : l.Nodup) (hi : l[i]? = some a) (hj : l[j]? = some b) (hij : i ≠ j) : a ≠ b := by
  obtain ⟨h1, rfl⟩ := List.getElem?_eq_some_iff.1 hi
  obtain ⟨h2, rfl⟩ := List.getElem?_eq_some_iff.1 hj
  intro e
  rcases Nat.lt_or_gt_of_ne hij with h3 | h3
  · exact List.pairwise_iff_getElem.1 h i j h1 h2 h3 e
  · exact List.pairwise_iff_getElem.1 h j i h2 h1 h3 e.symm
/-- What a call on one region may write. -/
def Sx (x : Nat × Nat) (q : Value) (k : Nat) : Prop := k = x.1 ∨ k = x.2 ∨ some k = q.ownBlock
theorem IsDisk.lens {N : Nat} {w : World} {K : Ad} {D : Dsk} (h : IsDisk N w K D) (i : Nat) (hi : i < K.ps.length) : ∃ x R q, K.ps[i]? = some x ∧ D.regs[i]? = some R ∧ IsReg N w x R q ∧
    ∀ w' R' q', IsReg N w' x R' q' → Fk (Sx x q) N w w' → (q'.ownBlock = none ∨ q'.ownBlock = q.ownBlock ∨ ∃ b, q'.ownBlock = some b ∧ w.heap.size ≤ b) → IsDisk N w' K ⟨D.regs.set i R', D.off, D.tr, D.tl, D.keep⟩ ∧ Fd K N w w' := by
  obtain ⟨cr, kv, m1, m2⟩ := h.main
  obtain ⟨cs, r1, r2⟩ := h.row
  obtain ⟨qs, q1, q2, q3⟩ := h.regs
  have hx : K.ps[i]? = some K.ps[i] := List.getElem?_eq_getElem hi
  have hRi : i < D.regs.length := by rw [h.len]; exact hi
  have hqi : i < qs.length := by rw [q1]; exact hi
  have hR : D.regs[i]? = some D.regs[i] := List.getElem?_eq_getElem hRi
  have hq : qs[i]? = some qs[i] := List.getElem?_eq_getElem hqi
  have hreg := q2 i _ _ _ hx hR hq
  refine ⟨K.ps[i], D.regs[i], qs[i], hx, hR, hreg, ?_⟩
  intro w' R' q' hr' hf hq'
  generalize K.ps[i] = x at *
  generalize D.regs[i] = R at *
  generalize qs[i] = q at *
  obtain ⟨n0, cl, b1, b2, b3⟩ := hreg
  obtain ⟨c9, t9⟩ := Kd.R_typed b2 x.2 rfl
  have tq : ∀ k, some k = q.ownBlock → ∃ cells, w.heap[k]? = some (.cells cells 119 (0, 0)) := fun k hk => Kd.R_typed b3 k hk.symm
  -- a block of another type is none of these
  have free : ∀ {k : Nat} {c : Array Value} {t : TypeId}, w.heap[k]? = some (.cells c t (0, 0)) → t ≠ 57 → t ≠ 9 → t ≠ 119 → ¬ Sx x q k := fun hb h1 h2 h3 hs => by
    rcases hs with e | e | e
    · exact blk_ne hb b1 h1 e
    · exact blk_ne hb t9 h2 e
    · obtain ⟨c2, t2⟩ := tq _ e
      exact blk_ne hb t2 h3 rfl
  constructor
  · refine ⟨h.ndb, h.nd1, h.nd2, ⟨cr, kv, hf.blk m1 (free m1 (by decide) (by decide) (by decide)), R_own_step rfl m2 (fun k hk hlt => ?_)⟩, ⟨cs, hf.blk r1 (free r1 (by decide) (by decide) (by decide)), r2⟩, by simp [h.len], h.short, ⟨qs.set i q', by simp [q1], ?_, ?_⟩⟩
    · obtain ⟨c3, t3⟩ := Kd.R_typed m2 k hk
      exact hf.keep k hlt (free t3 (by decide) (by decide) (by decide))
    · intro j x2 R2 qj hxj hRj hqj
      by_cases hij : i = j
      · subst hij
        obtain rfl : x = x2 := Option.some.inj (hx.symm.trans hxj)
        rw [List.getElem?_set_self hRi] at hRj
        rw [List.getElem?_set_self hqi] at hqj
        obtain rfl := Option.some.inj hRj
        obtain rfl := Option.some.inj hqj
        exact hr'
      · rw [List.getElem?_set_ne hij] at hRj hqj
        obtain ⟨e0, cl2, e1, e2, e3⟩ := q2 j x2 R2 qj hxj hRj hqj
        have hn1 : x2.1 ≠ x.1 := fun e => nodup_ne h.nd1 (i := i) (j := j) (by rw [List.getElem?_map, hx]; rfl) (by rw [List.getElem?_map, hxj]; rfl) hij e.symm
        have hn2 : x2.2 ≠ x.2 := fun e => nodup_ne h.nd2 (i := i) (j := j) (by rw [List.getElem?_map, hx]; rfl) (by rw [List.getElem?_map, hxj]; rfl) hij e.symm
        obtain ⟨c29, t29⟩ := Kd.R_typed e2 x2.2 rfl
        refine ⟨e0, cl2, hf.blk e1 ?_, R_own_step rfl e2 (fun k hk hlt => hf.keep k hlt ?_), R_own_step rfl e3 (fun k hk hlt => hf.keep k hlt ?_)⟩
        · rintro (e | e | e)
          · exact hn1 e
          · exact blk_ne e1 t9 (by decide) e
          · obtain ⟨c2, t2⟩ := tq _ e
            exact blk_ne e1 t2 (by decide) rfl
        · have hk2 : k = x2.2 := by injection hk with hk; exact hk.symm
          subst hk2
          rintro (e | e | e)
          · exact blk_ne t29 b1 (by decide) e
          · exact hn2 e
          · obtain ⟨c2, t2⟩ := tq _ e
            exact blk_ne t29 t2 (by decide) rfl
        · obtain ⟨c3, t3⟩ := Kd.R_typed e3 k hk
          rintro (e | e | e)
          · exact blk_ne t3 b1 (by decide) e
          · exact blk_ne t3 t9 (by decide) e
          · exact q3 j i qj q (Ne.symm hij) hqj hq k hk e.symm
    · intro a b qa qb hab hqa hqb k hka hkb
      by_cases hia : i = a
      · subst hia
        rw [List.getElem?_set_self hqi] at hqa
        obtain rfl := Option.some.inj hqa
        rw [List.getElem?_set_ne hab] at hqb
        rcases hq' with e | e | ⟨b9, e, hle⟩
        · rw [e] at hka; cases hka
        · exact q3 i b q qb hab hq hqb k (e ▸ hka) hkb
        · rw [e] at hka
          injection hka with hka
          obtain ⟨_, _, _, _, e3⟩ := q2 b K.ps[b]! D.regs[b]! qb (by
            have hb : b < K.ps.length := by rw [← q1]; exact (List.getElem?_eq_some_iff.1 hqb).1
            rw [List.getElem?_eq_getElem hb, getElem!_pos K.ps b hb]) (by
            have hb : b < D.regs.length := by rw [h.len, ← q1]; exact (List.getElem?_eq_some_iff.1 hqb).1
            rw [List.getElem?_eq_getElem hb, getElem!_pos D.regs b hb]) hqb
          have := Kd.R_lt e3 k hkb
          omega
      · rw [List.getElem?_set_ne hia] at hqa
        by_cases hib : i = b
        · subst hib
          rw [List.getElem?_set_self hqi] at hqb
          obtain rfl := Option.some.inj hqb
          rcases hq' with e | e | ⟨b9, e, hle⟩
          · rw [e] at hkb; cases hkb
          · exact q3 a i qa q hab hqa hq k hka (e ▸ hkb)
          · rw [e] at hkb
            injection hkb with hkb
            obtain ⟨_, _, _, _, e3⟩ := q2 a K.ps[a]! D.regs[a]! qa (by
              have hb : a < K.ps.length := by rw [← q1]; exact (List.getElem?_eq_some_iff.1 hqa).1
              rw [List.getElem?_eq_getElem hb, getElem!_pos K.ps a hb]) (by
              have hb : a < D.regs.length := by rw [h.len, ← q1]; exact (List.getElem?_eq_some_iff.1 hqa).1
              rw [List.getElem?_eq_getElem hb, getElem!_pos D.regs a hb]) hqa
            have := Kd.R_lt e3 k hka
            omega
        · rw [List.getElem?_set_ne hib] at hqb
          exact q3 a b qa qb hab hqa hqb k hka hkb
  · refine ⟨hf.below, hf.size, fun k hk hfr => hf.keep k hk ?_⟩
    have hmem : x ∈ K.ps := List.mem_of_getElem? hx
    rintro (e | e | e)
    · exact (hfr.1.2 x hmem).1 e
    · exact (hfr.1.2 x hmem).2 e
    · obtain ⟨c2, t2⟩ := tq _ e
      exact hfr.2 _ _ t2
/-- A block of another type is none of the disk's. -/
theorem IsDisk.free {N : Nat} {w : World} {K : Ad} {D : Dsk} (h : IsDisk N w K D) {k : Nat} {cs : Array Value} {t : TypeId} (hb : w.heap[k]? = some (.cells cs t (0, 0))) (h1 : t ≠ 51) (h2 : t ≠ 57) (h3 : t ≠ 9) (h4 : t ≠ 119) : Free K w k := by
  refine ⟨⟨fun e => ?_, fun x hx => ?_⟩, fun cs' fr e => ?_⟩
  · obtain ⟨cr, kv, m1, m2⟩ := h.main
    exact blk_ne hb m1 h1 e
  · obtain ⟨i, hi, rfl⟩ := List.getElem_of_mem hx
    obtain ⟨x, R, q, hx', _, hr⟩ := h.reg i hi
    obtain rfl : K.ps[i] = x := by rw [List.getElem?_eq_getElem hi] at hx'; exact Option.some.inj hx'
    obtain ⟨n0, cl, b1, b2, b3⟩ := hr
    obtain ⟨c9, t9⟩ := Kd.R_typed b2 _ rfl
    exact ⟨blk_ne hb b1 h2, blk_ne hb t9 h3⟩
  · rw [hb] at e
    injection e with e
    injection e with _ e
    exact h4 e
theorem IsDisk.new {N : Nat} {w : World} {K : Ad} {D : Dsk} (h : IsDisk N w K D) {k : Nat} (hk : w.heap.size ≤ k) : Free K w k := by
  refine ⟨⟨fun e => ?_, fun x hx => ?_⟩, fun cs' fr e => ?_⟩
  · obtain ⟨cr, kv, m1, m2⟩ := h.main
    have := blk_lt m1
    omega
  · obtain ⟨i, hi, rfl⟩ := List.getElem_of_mem hx
    obtain ⟨x, R, q, hx', _, hr⟩ := h.reg i hi
    obtain rfl : K.ps[i] = x := by rw [List.getElem?_eq_getElem hi] at hx'; exact Option.some.inj hx'
    obtain ⟨n0, cl, b1, b2, b3⟩ := hr
    have h1 := blk_lt b1
    have h2 : K.ps[i].2 < w.heap.size := Kd.R_lt b2 _ rfl
    exact ⟨by omega, by omega⟩
  · have := (Array.getElem?_eq_some_iff.1 e).1
    omega
def Dsk.ok (D : Dsk) : Prop := ∀ r ∈ D.regs, r.ok
def Dsk.lose (D : Dsk) (ks : List Int) : Dsk := ⟨D.regs.mapIdx (fun n r => r.last (keptB ks n)), true, 0, 0, []⟩
def lostTo (L : List Reg) (ks : List Int) (i : Nat) : List Reg := L.mapIdx (fun j r => if j < i then r.last (keptB ks j) else r)
theorem lostTo_len (L : List Reg) (ks : List Int) (i : Nat) : (lostTo L ks i).length = L.length := by simp [lostTo]
theorem lostTo_zero (L : List Reg) (ks : List Int) : lostTo L ks 0 = L := by
  apply List.ext_getElem
  · simp [lostTo]
  · intro j h1 h2; simp [lostTo]
theorem lostTo_end (L : List Reg) (ks : List Int) : lostTo L ks L.length = L.mapIdx (fun n r => r.last (keptB ks n)) := by
  apply List.ext_getElem
  · simp [lostTo]
  · intro j h1 h2
    have : j < L.length := by simpa [lostTo] using h1
    simp [lostTo, this]
theorem lostTo_at (L : List Reg) (ks : List Int) (i : Nat) (R : Reg) (h : (lostTo L ks i)[i]? = some R) : L[i]? = some R := by
  unfold lostTo at h
  rw [List.getElem?_mapIdx] at h
  cases hl : L[i]? with
  | none => rw [hl] at h; cases h
  | some r => rw [hl] at h; simpa using h
theorem lostTo_set (L : List Reg) (ks : List Int) (i : Nat) (R : Reg) (h : L[i]? = some R) : (lostTo L ks i).set i (R.last (keptB ks i)) = lostTo L ks (i + 1) := by
  obtain ⟨hi, rfl⟩ := List.getElem?_eq_some_iff.1 h
  apply List.ext_getElem
  · simp [lostTo]
  · intro j h1 h2
    rw [List.getElem_set]
    by_cases hj : i = j
    · subst hj; simp [lostTo]
    · rw [if_neg hj]
      have : (j < i) ↔ (j < i + 1) := by omega
      simp [lostTo, this]
set_option maxHeartbeats 8000000 in
set_option maxRecDepth 100000 in
theorem lose_calls (N : Nat) (w : World) (K : Ad) (D : Dsk) (h : IsDisk N w K D) (hok : D.ok) (hN : N ≤ w.heap.size) (A : Option Addr) (c : Nat) (ks : List Int) (okK : Nat → Prop) (hks : Kd.F (Kd.int .u64) w okK A ks.length ks) (hfr : ∀ k, okK k → Free K w k) :
    Calls Tryd.prog 34 #[.pointer (some ⟨K.db, 0, none⟩), .slice A ks.length c] w fun e w' => e = .returned (.tuple #[]) ∧ IsDisk N w' K (D.lose ks) ∧ Fd K N w w' := by
  have hu2 := Tryd.underlying51
  have hu3 := Tryd.underlying49
  have hb0 := below_alloc (Below.refl w.heap.size w) (.cells #[.slice A ks.length c] 47)
  have HKB := Aside0.mk (blk_new w (.cells #[.slice A ks.length c] 47))
  have HD0 := Aside0.mk (h.below hb0)
  have HF0 := Aside0.mk (Fd.of_below (K := K) hb0 hN)
  have HKS := Aside0.mk (Kd.F_below (Kd.F_bound hks) hb0)
  have HFR : Aside0 (∀ k, okK k ∧ k < w.heap.size → Free K (w.alloc (.cells #[.slice A ks.length c] 47)) k) := Aside0.mk (fun k hk => (hfr k hk.1).step (hb0.block k hk.2))
  have HOK := Aside0.mk hok
  have hn8 := h.short
  have HRL := Aside0.mk h.len
  obtain ⟨cr, kv, d0, _, _, _, _, _, _⟩ := (h.below hb0).cells
  have hN1 : N ≤ (w.alloc (.cells #[.slice A ks.length c] 47)).heap.size := Nat.le_trans hN hb0.size
  clear h hok hks hfr hb0
  go_enter Tryd.func34, Tryd.ntmps34
  go_wp2
  clear d0
  generalize w.alloc (.cells #[.slice A ks.length c] 47) = w0 at *
  generalize w.heap.size = kb at *
  obtain ⟨regs, off, tr, tl, keep⟩ := D
  go_loopw [11] (fun v11 wr => ∃ (p : Int) (i : Nat), v11 = .int .i64 p ∧ Aside0 (p = (i : Int)) ∧ i ≤ K.ps.length ∧ Aside0 (IsDisk N wr K ⟨lostTo regs ks i, off, tr, tl, keep⟩) ∧ Aside0 (Fd K N w0 wr)) (fun v11 _ => K.ps.length - (intOf v11).toNat)
  case atStart => exact ⟨0, 0, rfl, Aside0.mk rfl, Nat.zero_le _, by rw [lostTo_zero]; exact HD0, Aside0.mk (Fd.refl _ _ _)⟩
  case round =>
    obtain ⟨p, i, rfl, HP, hi, HD, HF⟩ := hrel
    have hsz : N ≤ wr.heap.size := Nat.le_trans hN1 HF.out.size
    by_cases hin : i < K.ps.length
    · have hlt : decide (p < (K.ps.length : Int)) = true := decide_eq_true (by rw [HP.out]; omega)
      have hp0 : 0 ≤ p := by rw [HP.out]; omega
      have hp1 : p < (K.ps.length : Int) := by rw [HP.out]; omega
      have HW : Aside0 (p + 1 = ((i + 1 : Nat) : Int)) := Aside0.mk (by rw [HP.out]; omega)
      have hb1 := below_alloc (Below.refl wr.heap.size wr) (.cells #[.int .i64 p] 3)
      have hnb := blk_new wr (.cells #[.int .i64 p] 3)
      have HD1 := Aside0.mk (HD.out.below hb1)
      have HF1 := Aside0.mk (HF.out.trans (Fd.of_below (K := K) hb1 hsz))
      have hsz1 := Nat.le_trans hsz hb1.size
      obtain ⟨x, R, q, hx, hR, hr, hput⟩ := HD1.out.lens i hin
      have hR' := lostTo_at regs ks i R hR
      have hrok : R.ok := HOK.out R (List.mem_of_getElem? hR')
      have hptr := HD.out.ptr i x hx
      rw [show i = p.toNat by rw [HP.out]; rfl] at hptr
      have hkb1 := (HF1.out.keep kb (blk_lt HKB.out) (HD0.out.free HKB.out (by decide) (by decide) (by decide) (by decide))).trans HKB.out
      have hfk := HD1.out.free hkb1 (by decide) (by decide) (by decide) (by decide)
      have hfn := HD1.out.free hnb (by decide) (by decide) (by decide) (by decide)
      have hmem : x ∈ K.ps := List.mem_of_getElem? hx
      have hks1 := Kd.F_step (Kd.F_bound HKS.out) (fun k hk hlt => HF1.out.keep k hk.2 (HFR.out k hk.1))
      have HCL := Aside0.mk (last52_calls N (wr.alloc (.cells #[.int .i64 p] 3)) x R q hr hrok hsz1 wr.heap.size kb i p A c ks _ HP.out hnb hkb1 hks1 (fun k hk => (HFR.out k hk.1).1.2 x hmem) ⟨hfn.1.2 x hmem, hfk.1.2 x hmem⟩)
      have HPUT := Aside0.mk hput
      have HSET := Aside0.mk (lostTo_set regs ks i R hR')
      clear hb1 hnb hr hR hR' hrok hkb1 hfk hfn hmem hks1 hput hx hsz
      go_wp2_with (first | (go_at_call 51; go_loud (refine HCL.out.mono ?_; rintro e w5 ⟨rfl, hr5, hf5⟩; have HN5 := Aside0.mk (HPUT.out w5 _ _ hr5 ⟨hf5.below, hf5.size, fun k hk hs => hf5.keep k hk (fun e => hs (e.elim .inl (fun e2 => .inr (.inl e2))))⟩ (.inl rfl)); clear hr5 hf5)))
      go_roundw
      case rel => exact ⟨_, i + 1, rfl, HW, by omega, by rw [← HSET.out]; exact Aside0.mk HN5.out.1, Aside0.mk (HF1.out.trans HN5.out.2)⟩
      case measure => simp [intOf]; have := HP.out; have := HW.out; omega
    · have hlt : decide (p < (K.ps.length : Int)) = false := decide_eq_false (by rw [HP.out]; omega)
      obtain rfl : i = K.ps.length := by omega
      obtain ⟨cr', kv', m1, m2⟩ := HD.out.main
      have hx0 : wr.cell? ⟨K.db, 1, none⟩ = some (.bool off) := (blk_cell m1 1).trans rfl
      have hx2 : wr.cell? ⟨K.db, 2, none⟩ = some (.int .i64 tr) := (blk_cell m1 2).trans rfl
      have hx3 : wr.cell? ⟨K.db, 3, none⟩ = some (.int .i64 tl) := (blk_cell m1 3).trans rfl
      have hx4 : wr.cell? ⟨K.db, 4, none⟩ = some kv' := (blk_cell m1 4).trans rfl
      have hf1 := blk_frozen m1 1
      have hf2 := blk_frozen m1 2
      have hf3 := blk_frozen m1 3
      have hf4 := blk_frozen m1 4
      have HM := Aside0.mk m1
      clear m1 m2
      go_wp2
      have hg : wr.grownBy ((((wr.setCell ⟨K.db, 1, none⟩ (.bool true)).setCell ⟨K.db, 2, none⟩ (.int .i64 0)).setCell ⟨K.db, 3, none⟩ (.int .i64 0)).setCell ⟨K.db, 4, none⟩ (.slice none 0 0)) (some K.db) :=
        (((grown_setCell wr K.db 1 _).trans (grown_setCell _ K.db 2 _)).trans (grown_setCell _ K.db 3 _)).trans (grown_setCell _ K.db 4 _)
      have hk := blk_put (cs' := #[.slice (some ⟨K.rb, 0, none⟩) K.ps.length cr', .bool true, .int .i64 0, .int .i64 0, .slice none 0 0]) (blk_put (cs' := #[.slice (some ⟨K.rb, 0, none⟩) K.ps.length cr', .bool true, .int .i64 0, .int .i64 0, kv']) (blk_put (cs' := #[.slice (some ⟨K.rb, 0, none⟩) K.ps.length cr', .bool true, .int .i64 0, .int .i64 tl, kv']) (blk_put (cs' := #[.slice (some ⟨K.rb, 0, none⟩) K.ps.length cr', .bool true, .int .i64 tr, .int .i64 tl, kv']) HM.out 1 (.bool true) rfl) 2 (.int .i64 0) rfl) 3 (.int .i64 0) rfl) 4 (.slice none 0 0) rfl
      go_end0
      have hfin := HD.out.head hg hk (Kd.R_nil _ _ _ _ _)
      refine ⟨rfl, ?_, HF0.out.trans (HF.out.trans (Fd.grown hg HD.out.ndb hsz (not_free_db K wr)))⟩
      unfold Dsk.lose
      have he : regs.mapIdx (fun n r => r.last (keptB ks n)) = lostTo regs ks K.ps.length := by rw [← HRL.out]; exact (lostTo_end regs ks).symm
      rw [he]
      exact hfin
end Go.Proofs.YtldkgfhngonnfaaDoor.S
namespace Go.Proofs.YtldkgfhngonnfaaDoor.S
open Go.RowKit Go.Proofs.YtldkgfhngonnfaaDoor.PTopStreams Go.Proofs.YtldkgfhngonnfaaDoorW.PrintWords Go.Proofs.YtldkgfhngonnfaaDoorW.PrintLast Go.Proofs.YtldkgfhngonnfaaDoorW.PrintMore
set_option linter.unusedVariables false
set_option linter.unusedSimpArgs false

theorem KW_mkM (w : World) (base : Nat) (ok : Nat → Prop) (u : Wr) : KW.M w base ok u [.int .i64 u.1, .string u.2] := ⟨[.int .i64 u.1], [.string u.2], rfl, rfl, rfl⟩
theorem info119 : (Tryd.prog.info? 119).map (fun i => (i.zero, i.size, i.bytes)) = some (some (.agg #[.int .i64 0, .string ⟨#[]⟩]), 2, 24) := by kernel_rfl
theorem Fk.of_grown {S : Nat → Prop} {N : Nat} {W w : World} {row : Option Nat} (hg : W.grownBy w row) (hN : N ≤ W.heap.size) (hS : ∀ k, row = some k → S k ∧ N ≤ k) : Fk S N W w :=
  ⟨(Below.refl N W).grown hg hN (fun k e => (hS k e).2), hg.size, fun k hk hf => hg.block k hk (fun e => hf (hS k e.symm).1)⟩
theorem IsReg.push {N : Nat} {w w1 : World} {x : Nat × Nat} {R : Reg} {q v1 : Value} {L : List Wr} (h : IsReg N w x R q) (hN : N ≤ w.heap.size) (hg : w.grownBy w1 q.ownBlock) (hq : Kd.R KW 119 w1 N (fun _ => True) v1 L) :
    IsReg N (w1.setCell ⟨x.1, 1, none⟩ v1) x ⟨R.lasts, L⟩ v1 ∧ Fk (Sx x q) N w (w1.setCell ⟨x.1, 1, none⟩ v1) ∧ (∃ v, w1.cell? ⟨x.1, 1, none⟩ = some v) ∧ w1.frozen? ⟨x.1, 1, none⟩ = false := by
  obtain ⟨h0, cl, h1, h2, h3⟩ := h
  have tq : ∀ k, q.ownBlock = some k → ∃ cells, w.heap[k]? = some (.cells cells 119 (0, 0)) := fun k hk => Kd.R_typed h3 k hk
  have h1' := blk_grown h1 hg (fun e => by obtain ⟨c, hc⟩ := tq _ e.symm; exact blk_ne h1 hc (by decide) rfl)
  have h2' := R_own_step rfl h2 (w' := w1) (fun k hk hlt => hg.block k hlt (fun e => by
    obtain ⟨c, hc⟩ := tq _ e.symm
    obtain ⟨c2, hc2⟩ := Kd.R_typed h2 k hk
    exact blk_ne hc2 hc (by decide) rfl))
  have hg2 := grown_setCell w1 x.1 1 v1
  refine ⟨⟨h0, cl, blk_put h1' 1 v1 rfl, ?_, ?_⟩, ?_, ⟨q, (blk_cell h1' 1).trans rfl⟩, blk_frozen h1' 1⟩
  · exact Kd.R_set h2' h1' (by rw [show Kd.string.E = [] from rfl]; simp) 1 v1
  · exact Kd.R_set hq h1' (by rw [show KW.E = [] from rfl]; simp) 1 v1
  · exact (Fk.of_grown (S := Sx x q) hg hN (fun k hk => ⟨.inr (.inr hk.symm), Kd.R_base h3 k hk⟩)).trans (Fk.of_grown (S := fun k => k = x.1) hg2 (Nat.le_trans hN hg.size) (fun k hk => by injection hk with hk; exact ⟨hk.symm, hk ▸ h0⟩)) (fun k _ e => .inl e)
/-- What the disk's own list of what is kept leads to. -/
theorem IsDisk.kept {N : Nat} {w : World} {K : Ad} {D : Dsk} (h : IsDisk N w K D) : ∃ A c okK, w.cell? ⟨K.db, 4, none⟩ = some (.slice A D.keep.length c) ∧ Kd.F (Kd.int .u64) w okK A D.keep.length D.keep ∧ ∀ k, okK k → Free K w k := by
  obtain ⟨cr, kv, m1, m2⟩ := h.main
  obtain ⟨A, c, rfl⟩ := Kd.R_slice m2
  refine ⟨A, c, _, (blk_cell m1 4).trans rfl, Kd.R_F (Kd.R_bound m2), fun k hk => ?_⟩
  obtain ⟨_, _, _, q, hq, cells, hc⟩ := hk
  rw [show (Kd.int .u64).E = [] from rfl] at hq
  simp at hq
  subst hq
  exact h.free hc (by decide) (by decide) (by decide) (by decide)
def Dsk.put (D : Dsk) (n : Nat) (R : Reg) : Dsk := ⟨D.regs.set n R, D.off, D.tr, D.tl, D.keep⟩
/-- What a write comes to: the disk, the error. -/
def Dsk.write (D : Dsk) (n : Nat) (s : Int) (data : ByteArray) : Dsk × Int :=
  if D.off then (D, 11) else
    let R := D.regs.getD n default
    let D1 := D.put n ⟨R.lasts, R.queue ++ [(s, data)]⟩
    if D1.fails n then ((D1.tick n).lose D1.keep, 11) else (D1.tick n, 0)
def Dsk.flush (D : Dsk) (n : Nat) : Dsk × Int :=
  if D.off then (D, 11) else
    if D.fails n then ((D.tick n).lose D.keep, 11) else
      ((D.tick n).put n ((D.regs.getD n default).last fun _ => true), 0)
theorem tick_regs (D : Dsk) (n : Int) : (D.tick n).regs = D.regs := by unfold Dsk.tick; split <;> rfl
theorem tick_keep (D : Dsk) (n : Int) : (D.tick n).keep = D.keep := by unfold Dsk.tick; split <;> rfl
theorem tick_ok {D : Dsk} (h : D.ok) (n : Int) : (D.tick n).ok := fun r hr => h r (by rwa [tick_regs] at hr)
theorem getD_of {l : List Reg} {n : Nat} {R : Reg} (h : l[n]? = some R) : l.getD n default = R := by rw [List.getD_eq_getElem?_getD, h]; rfl
theorem put_ok {D : Dsk} (h : D.ok) {n : Nat} {R : Reg} (hR : R.ok) : (D.put n R).ok := fun r hr => by
  rcases List.mem_or_eq_of_mem_set hr with hr | hr
  · exact h r hr
  · exact hr ▸ hR
set_option maxHeartbeats 8000000 in
set_option maxRecDepth 100000 in
theorem write_calls (N : Nat) (w : World) (K : Ad) (D : Dsk) (h : IsDisk N w K D) (hok : D.ok) (hN : N ≤ w.heap.size) (p : Int) (n : Nat) (hp : p = (n : Int)) (R : Reg) (hR : D.regs[n]? = some R) (s : Int) (hs0 : 0 ≤ s) (hs1 : s < (R.lasts.length : Int)) (data : ByteArray) (hd : data.size = 64) (hq : R.queue.length ≤ 100000) (ht0 : 0 ≤ D.tl) (ht1 : D.tl ≤ 9223372036854775807) :
    Calls Tryd.prog 45 #[.pointer (some ⟨K.db, 0, none⟩), .int .i64 p, .int .i64 s, .string data] w fun e w' => e = .returned (.int .i64 (D.write n s data).2) ∧ IsDisk N w' K (D.write n s data).1 ∧ Fd K N w w' := by
  have hi : n < K.ps.length := by rw [← h.len]; exact (List.getElem?_eq_some_iff.1 hR).1
  obtain ⟨x, R', q, hx, hR', hr, hput⟩ := h.lens n hi
  obtain rfl : R = R' := Option.some.inj (hR.symm.trans hR')
  have HF := Aside0.mk (find_calls N w K D h p n hp x hx R hR s hs0 hs1)
  obtain ⟨cl, A, c, hqv, k0, k1, kf⟩ := hr.cells
  subst hqv
  have hrok : Reg.ok ⟨R.lasts, R.queue ++ [(s, data)]⟩ := fun u hu => by
    rcases List.mem_append.1 hu with hu | hu
    · exact hok R (List.mem_of_getElem? hR) u hu
    · rw [List.mem_singleton.1 hu]; exact ⟨hs0, hs1⟩
  have hu57 := Tryd.underlying57
  have hu51 := Tryd.underlying51
  have hu49 := Tryd.underlying49
  have hu119 := Tryd.underlying119
  by_cases hoff : D.off = true
  · have hW : D.write n s data = (D, 11) := by unfold Dsk.write; rw [if_pos hoff]
    rw [hW]
    rw [hoff] at HF
    have HF2 : Aside0 (Calls Tryd.prog 57 #[.pointer (some ⟨K.db, 0, none⟩), .int .i64 p, .int .i64 s] w fun e w' => e = .returned (.tuple #[.pointer none, .int .i64 11]) ∧ w = w') := HF
    have HD := Aside0.mk h
    clear HF h hput hr hok hrok kf k0 k1 hW hoff hp hx hR hR' hd hq
    go_enter Tryd.func45, Tryd.ntmps45
    go_wp2_with (first | (go_at_call 57; go_loud (refine HF2.out.mono ?_; rintro e w' ⟨rfl, rfl⟩)))
    go_ret
    exact ⟨rfl, HD.out, Fd.refl _ _ _⟩
  · have hoff : D.off = false := by simpa using hoff
    have hW : D.write n s data = if (D.put n ⟨R.lasts, R.queue ++ [(s, data)]⟩).fails n then (((D.put n ⟨R.lasts, R.queue ++ [(s, data)]⟩).tick n).lose D.keep, 11) else ((D.put n ⟨R.lasts, R.queue ++ [(s, data)]⟩).tick n, 0) := by
      unfold Dsk.write; rw [if_neg (by simp [hoff]), getD_of hR]; rfl
    rw [hW]
    rw [hoff] at HF
    have HF2 : Aside0 (Calls Tryd.prog 57 #[.pointer (some ⟨K.db, 0, none⟩), .int .i64 p, .int .i64 s] w fun e w' => e = .returned (.tuple #[.pointer (some ⟨x.1, 0, none⟩), .int .i64 0]) ∧ w = w') := HF
    have g64 : ((data.size : Int) != 64) = false := by rw [hd]; rfl
    have HR := Aside0.mk hr
    have HQ : Aside0 (Kd.R KW 119 w N (fun _ => True) (.slice A R.queue.length c) R.queue) := Aside0.mk (by obtain ⟨_, _, _, _, h3⟩ := hr; exact h3)
    have hROK := put_ok hok (n := n) hrok
    have hf1 := kf 1
    obtain ⟨Lq, hLq⟩ : ∃ Lq, R.queue ++ [(s, data)] = Lq := ⟨_, rfl⟩
    have HLq := Aside0.mk hLq
    rw [hLq] at hROK ⊢
    obtain ⟨D1, hD1⟩ : ∃ D1, D.put n ⟨R.lasts, Lq⟩ = D1 := ⟨_, rfl⟩
    have hkeep : D.keep = D1.keep := by rw [← hD1]; rfl
    have ht0' : 0 ≤ D1.tl := by rw [← hD1]; exact ht0
    have ht1' : D1.tl ≤ 9223372036854775807 := by rw [← hD1]; exact ht1
    have HPUT : Aside0 (∀ w' q', IsReg N w' x ⟨R.lasts, Lq⟩ q' → Fk (Sx x (.slice A R.queue.length c)) N w w' → (q'.ownBlock = none ∨ q'.ownBlock = (Value.slice A R.queue.length c).ownBlock ∨ ∃ b, q'.ownBlock = some b ∧ w.heap.size ≤ b) → IsDisk N w' K D1 ∧ Fd K N w w') := Aside0.mk (fun w' q' a1 a2 a3 => by
      have := hput w' _ q' a1 a2 a3
      rw [← hD1]
      exact this)
    rw [hD1] at hROK ⊢
    rw [hkeep, ← hp]
    have HROK := Aside0.mk hROK
    clear HF h hput hr hok hrok kf k0 hW hoff hp hx hR hR' hD1 hkeep hLq hROK ht0 ht1
    cases hfl : D1.fails p
    all_goals
      have HFL := Aside0.mk hfl
      clear hfl
      go_enter Tryd.func45, Tryd.ntmps45
      go_upto_region 7 with (first
        | (go_at_call 57; go_loud (refine HF2.out.mono ?_; rintro e w' ⟨rfl, rfl⟩))
        | ((with_reducible refine gate_dst (N := 35) rfl ?_); go_loud (refine Kd.R_append KW (w0 := w) (W := w) N rfl (.tmp 30) (.tmp 34) 55 119 (.agg #[.int .i64 0, .string ⟨#[]⟩]) 24 rfl Tryd.underlying55 info119 rfl (by decide) (by decide) (.slice A R.queue.length c) R.queue (s, data) [.int .i64 s, .string data] (fun _ => True) (fun _ => False) (by first | rfl | (go_simp; done)) (by first | rfl | (go_simp; done)) (KW_mkM _ _ _ (s, data)) (fun _ h => h.elim) (fun _ _ => trivial) HQ.out (Below.refl _ _) hN (by omega) ?_; intro v1 w1 hq1 hb1 hg1 hat1; rw [HLq.out] at hq1; obtain ⟨A2, c2, rfl⟩ := Kd.R_slice hq1; obtain ⟨p1, p2, ⟨vv, p3⟩, p4⟩ := HR.out.push hN hg1 hq1; have HP1 := Aside0.mk p1; have HP2 := Aside0.mk p2; have HAT := Aside0.mk hat1; clear hb1 hg1 hq1 hat1 p1 p2)))
      generalize w1.setCell ⟨x.1, 1, none⟩ (.slice A2 Lq.length c2) = w2 at *
      have hboth := HPUT.out w2 _ HP1.out HP2.out (.inr HAT.out)
      have HF3 := Aside0.mk hboth.2
      have hN2 : N ≤ w2.heap.size := Nat.le_trans hN HF3.out.size
      have HFC := Aside0.mk (fails_calls N w2 K D1 hboth.1 p hN2 ht0' ht1')
      rw [HFL.out] at HFC
      clear hboth HP1 HP2 HAT HPUT HR HQ p3 p4 k1 hf1 vv ht0' ht1'
      go_wp2_with (first
        | (go_at_call 60; go_loud (refine HFC.out.mono ?_; rintro e w3 ⟨rfl, hd3, hf3⟩; obtain ⟨Ak, ck, okK, hk4, hks, hfr⟩ := hd3.kept; have hN3 : N ≤ w3.heap.size := Nat.le_trans hN2 hf3.size; have HD3 := Aside0.mk hd3; have HLC := Aside0.mk (lose_calls N w3 K _ hd3 (tick_ok HROK.out p) hN3 Ak ck _ okK hks hfr); have HF4 := Aside0.mk hf3; clear hd3 hf3 hks hfr))
        | (go_at_call 34; go_loud (refine HLC.out.mono ?_; rintro e w4 ⟨rfl, hd4, hf4⟩; have HD4 := Aside0.mk hd4; have HF5 := Aside0.mk hf4; clear hd4 hf4)))
      go_ret
    · exact ⟨rfl, HD3.out, HF3.out.trans HF4.out⟩
    · rw [tick_keep] at HD4
      exact ⟨rfl, HD4.out, HF3.out.trans (HF4.out.trans HF5.out)⟩
end Go.Proofs.YtldkgfhngonnfaaDoor.S
