/- The disk: Flush, Cut, Crash. A sector of noughts; slices.Repeat of one text. A region that draws its order, whose operation z (a store) waits for the loads: what S says of the world need hold only till z has come up. disk.New. Numbers as bytes; the check sum. frame.Sum. frame.Put, frame.Get, frame.All. frame.All. -/
import Derived.Test.YtldkgfhngonnfaaDoorMA
import Derived.Test.YtldkgfhngonnfaaDoorShelf
import Derived.Test.YtldkgfhngonnfaaDoorPTopStreamsx1
import Derived.Deep.RegionHeld
import Derived.Laws.Bits64b
namespace Go.Proofs.YtldkgfhngonnfaaDoor.S
open Go.RowKit Go.Proofs.YtldkgfhngonnfaaDoor.PTopStreams Go.Proofs.YtldkgfhngonnfaaDoorW.PrintWords Go.Proofs.YtldkgfhngonnfaaDoorW.PrintLast Go.Proofs.YtldkgfhngonnfaaDoorW.PrintMore
set_option linter.unusedVariables false
set_option linter.unusedSimpArgs false

set_option maxHeartbeats 8000000 in
set_option maxRecDepth 100000 in
theorem flush_calls (N : Nat) (w : World) (K : Ad) (D : Dsk) (h : IsDisk N w K D) (hok : D.ok) (hN : N ≤ w.heap.size) (p : Int) (n : Nat) (hp : p = (n : Int)) (R : Reg) (hR : D.regs[n]? = some R) (ht0 : 0 ≤ D.tl) (ht1 : D.tl ≤ 9223372036854775807) :
    Calls Tryd.prog 46 #[.pointer (some ⟨K.db, 0, none⟩), .int .i64 p] w fun e w' => e = .returned (.int .i64 (D.flush n).2) ∧ IsDisk N w' K (D.flush n).1 ∧ Fd K N w w' := by
  have hi : n < K.ps.length := by rw [← h.len]; exact (List.getElem?_eq_some_iff.1 hR).1
  obtain ⟨x, hx⟩ : ∃ x, K.ps[n]? = some x := ⟨_, List.getElem?_eq_getElem hi⟩
  obtain ⟨cr, kv, d0, d1, d2, d3, d4, _, _⟩ := h.cells
  have HA := Aside0.mk (at_calls N w K D h p n hp x hx)
  have hu51 := Tryd.underlying51
  by_cases hoff : D.off = true
  · have hW : D.flush n = (D, 11) := by unfold Dsk.flush; rw [if_pos hoff]
    rw [hW]
    rw [hoff] at d1
    have HD := Aside0.mk h
    clear h hok hW hoff hp hx hR d0 d2 d3 d4
    go_enter Tryd.func46, Tryd.ntmps46
    go_wp2_with (first | (go_at_call 17; go_loud (refine HA.out.mono ?_; rintro e w' ⟨rfl, rfl⟩)))
    go_ret
    exact ⟨rfl, HD.out, Fd.refl _ _ _⟩
  · have hoff : D.off = false := by simpa using hoff
    have hW : D.flush n = if D.fails p then ((D.tick p).lose D.keep, 11) else ((D.tick p).put n (R.last fun _ => true), 0) := by
      unfold Dsk.flush; rw [if_neg (by simp [hoff]), getD_of hR, hp]
    rw [hW]
    rw [hoff] at d1
    have HFC := Aside0.mk (fails_calls N w K D h p hN ht0 ht1)
    have HROK := Aside0.mk hok
    have HRR := Aside0.mk hR
    clear h hok hW hoff hp hR d0 d2 d3 d4
    cases hfl : D.fails p
    all_goals
      rw [hfl] at HFC
      clear hfl
      go_enter Tryd.func46, Tryd.ntmps46
      go_wp2_with (first
        | (go_at_call 17; go_loud (refine HA.out.mono ?_; rintro e w' ⟨rfl, rfl⟩))
        | (go_at_call 60; go_loud (refine HFC.out.mono ?_; rintro e w3 ⟨rfl, hd3, hf3⟩; obtain ⟨Ak, ck, okK, hk4, hks, hfr⟩ := hd3.kept; have hN3 : N ≤ w3.heap.size := Nat.le_trans hN hf3.size; have HD3 := Aside0.mk hd3; have HLC := Aside0.mk (lose_calls N w3 K _ hd3 (tick_ok HROK.out p) hN3 Ak ck _ okK hks hfr); have HF4 := Aside0.mk hf3; obtain ⟨x2, R2, q2, hx2, hR2, hr2, hput⟩ := hd3.lens n hi; rw [tick_regs] at hR2; obtain rfl : R = R2 := Option.some.inj (HRR.out.symm.trans hR2); obtain rfl : x = x2 := Option.some.inj (hx.symm.trans hx2); have HLA := Aside0.mk (last61_calls N w3 x R q2 hr2 (HROK.out R (List.mem_of_getElem? HRR.out)) hN3); have HPUT := Aside0.mk hput; clear hd3 hf3 hks hfr hx2 hR2 hr2 hput))
        | (go_at_call 51; go_loud (refine HLA.out.mono ?_; rintro e w4 ⟨rfl, hr4, hf4⟩; have HB := Aside0.mk (HPUT.out w4 _ _ hr4 ⟨hf4.below, hf4.size, fun k hk hs => hf4.keep k hk (fun e => hs (e.elim .inl (fun e2 => .inr (.inl e2))))⟩ (.inl rfl)); clear hr4 hf4))
        | (go_at_call 34; go_loud (refine HLC.out.mono ?_; rintro e w4 ⟨rfl, hd4, hf4⟩; have HD4 := Aside0.mk hd4; have HF5 := Aside0.mk hf4; clear hd4 hf4)))
      go_ret
    · have hb1 := HB.out.1
      rw [tick_regs] at hb1
      have e : (D.tick p).put n (R.last fun _ => true) = ⟨D.regs.set n (R.last fun _ => true), (D.tick p).off, (D.tick p).tr, (D.tick p).tl, (D.tick p).keep⟩ := by unfold Dsk.put; rw [tick_regs]
      refine ⟨rfl, ?_, HF4.out.trans HB.out.2⟩
      rw [e]
      exact hb1
    · rw [tick_keep] at HD4
      exact ⟨rfl, HD4.out, HF4.out.trans HF5.out⟩
theorem info32 : (Tryd.prog.info? 32).map (fun i => (i.zero, i.size, i.bytes)) = some (some (.int .u64 0), 1, 8) := by kernel_rfl
theorem size32 : ∀ w, (Go.sizeOf 32).run Tryd.prog w = .ok 1 w := fun _ => by kernel_rfl
/-- A clone of two numbers. -/
theorem clone2_calls (w : World) (kb : Nat) (k1 k2 : Int) (hb : w.heap[kb]? = some (.cells #[.int .u64 k1, .int .u64 k2] 32 (0, 0))) :
    Calls Tryd.prog 18 #[.slice (some ⟨kb, 0, none⟩) 2 2] w fun e w' => ∃ A c, e = .returned (.slice A 2 c) ∧ Kd.R (Kd.int .u64) 32 w' w.heap.size (fun _ => True) (.slice A 2 c) [k1, k2] ∧ Below w.heap.size w w' := by
  obtain ⟨i0, hi, hzz⟩ := Option.map_eq_some_iff.1 info32
  simp only [Prod.mk.injEq] at hzz
  refine (Tryd.slices_Clone i0 (.int .u64 0) 1 8 hi hzz.1 hzz.2.1 hzz.2.2 rfl (by decide) size32 kb 0 2 2 ([k1, k2].map (fun x => Value.int .u64 x)) w rfl (by decide) (by decide) (fun j u hu => ?_) (fun u hu => ?_)).mono ?_
  · rw [Nat.zero_add]
    match j, hu with
    | 0, hu => cases hu; exact (blk_cell hb 0).trans rfl
    | 1, hu => cases hu; exact (blk_cell hb 1).trans rfl
  · obtain ⟨x, _, rfl⟩ := List.mem_map.1 hu
    rfl
  · rintro e w' ⟨v', rfl, ho, _, hbl⟩
    have hR : (Kd.int .u64).R 32 w' w.heap.size (fun _ => True) v' [k1, k2] := Kd.R_of_own ho (fun _ _ => trivial)
    obtain ⟨A, c, rfl⟩ := Kd.R_slice hR
    exact ⟨A, c, rfl, hR, hbl⟩
/-- What Cut asks for. -/
def Dsk.cut (D : Dsk) (n left : Int) (ks : List Int) : Dsk := if 0 < left then ⟨D.regs, D.off, n, left, ks⟩ else ⟨D.regs, D.off, 0, 0, []⟩
set_option maxHeartbeats 8000000 in
set_option maxRecDepth 100000 in
theorem cut_calls (N : Nat) (w : World) (K : Ad) (D : Dsk) (h : IsDisk N w K D) (hN : N ≤ w.heap.size) (p : Int) (n : Nat) (hp : p = (n : Int)) (hn : n < K.ps.length) (left : Int) (kb : Nat) (k1 k2 : Int) (hb : w.heap[kb]? = some (.cells #[.int .u64 k1, .int .u64 k2] 32 (0, 0))) (hkn : kb ≠ K.db) :
    Calls Tryd.prog 7 #[.pointer (some ⟨K.db, 0, none⟩), .int .i64 p, .int .i64 left, .slice (some ⟨kb, 0, none⟩) 2 2] w fun e w' => e = .returned (.tuple #[]) ∧ IsDisk N w' K (D.cut p left [k1, k2]) ∧ Fd K N w w' := by
  obtain ⟨x, hx⟩ : ∃ x, K.ps[n]? = some x := ⟨_, List.getElem?_eq_getElem hn⟩
  obtain ⟨cr', kv', m1, m2⟩ := h.main
  have hu51 := Tryd.underlying51
  have hu49 := Tryd.underlying49
  have hx1 : w.cell? ⟨K.db, 1, none⟩ = some (.bool D.off) := (blk_cell m1 1).trans rfl
  have hx2 : w.cell? ⟨K.db, 2, none⟩ = some (.int .i64 D.tr) := (blk_cell m1 2).trans rfl
  have hx3 : w.cell? ⟨K.db, 3, none⟩ = some (.int .i64 D.tl) := (blk_cell m1 3).trans rfl
  have hx4 : w.cell? ⟨K.db, 4, none⟩ = some kv' := (blk_cell m1 4).trans rfl
  have hf2 := blk_frozen m1 2
  have hf3 := blk_frozen m1 3
  have hf4 := blk_frozen m1 4
  have hg : w.grownBy (((w.setCell ⟨K.db, 2, none⟩ (.int .i64 0)).setCell ⟨K.db, 3, none⟩ (.int .i64 0)).setCell ⟨K.db, 4, none⟩ (.slice none 0 0)) (some K.db) :=
    ((grown_setCell w K.db 2 _).trans (grown_setCell _ K.db 3 _)).trans (grown_setCell _ K.db 4 _)
  have hk := blk_put (cs' := #[.slice (some ⟨K.rb, 0, none⟩) K.ps.length cr', .bool D.off, .int .i64 0, .int .i64 0, .slice none 0 0]) (blk_put (cs' := #[.slice (some ⟨K.rb, 0, none⟩) K.ps.length cr', .bool D.off, .int .i64 0, .int .i64 0, kv']) (blk_put (cs' := #[.slice (some ⟨K.rb, 0, none⟩) K.ps.length cr', .bool D.off, .int .i64 0, .int .i64 D.tl, kv']) m1 2 (.int .i64 0) rfl) 3 (.int .i64 0) rfl) 4 (.slice none 0 0) rfl
  have HD1 := Aside0.mk (h.head hg hk (Kd.R_nil _ _ _ _ _))
  have HF1 := Aside0.mk (Fd.grown (K := K) (N := N) hg h.ndb hN (not_free_db K w))
  have HK1 := Aside0.mk hk
  have HB1 := Aside0.mk (blk_grown hb hg (fun e => hkn (by injection e)))
  clear h m1 m2 hg hk hb
  by_cases hl : 0 < left
  · have hc : D.cut p left [k1, k2] = ⟨D.regs, D.off, p, left, [k1, k2]⟩ := if_pos hl
    rw [hc]
    have g1 : decide (left > 0) = true := decide_eq_true hl
    go_enter Tryd.func7, Tryd.ntmps7
    go_upto_region 2 with (fail)
    generalize (((w.setCell ⟨K.db, 2, none⟩ (.int .i64 0)).setCell ⟨K.db, 3, none⟩ (.int .i64 0)).setCell ⟨K.db, 4, none⟩ (.slice none 0 0)) = w1 at *
    have HA := Aside0.mk (at_calls N w1 K _ HD1.out p n hp x hx)
    have HC := Aside0.mk (clone2_calls w1 kb k1 k2 HB1.out)
    have hN1 : N ≤ w1.heap.size := Nat.le_trans hN HF1.out.size
    clear hx1 hx2 hx3 hx4 hf2 hf3 hf4 hp hx HB1
    go_wp2_with (first
      | (go_at_call 17; go_loud (refine HA.out.mono ?_; rintro e w' ⟨rfl, rfl⟩))
      | (go_at_call 18; go_loud (refine HC.out.mono ?_; rintro e w2 ⟨A, c, rfl, hR, hb2⟩; have HK2 := Aside0.mk (blk_below HK1.out hb2); have HD2 := Aside0.mk (HD1.out.below hb2); have HR2 := Aside0.mk (Kd.R_lower hR hN1); have HF2 := Aside0.mk (HF1.out.step hb2 hN); have hx2 : w2.cell? ⟨K.db, 2, none⟩ = some (.int .i64 0) := (blk_cell HK2.out 2).trans rfl; have hx3 : w2.cell? ⟨K.db, 3, none⟩ = some (.int .i64 0) := (blk_cell HK2.out 3).trans rfl; have hx4 : w2.cell? ⟨K.db, 4, none⟩ = some (.slice none 0 0) := (blk_cell HK2.out 4).trans rfl; have hf2 := blk_frozen HK2.out 2; have hf3 := blk_frozen HK2.out 3; have hf4 := blk_frozen HK2.out 4; clear hR hb2)))
    have hg2 : w2.grownBy (((w2.setCell ⟨K.db, 2, none⟩ (.int .i64 p)).setCell ⟨K.db, 3, none⟩ (.int .i64 left)).setCell ⟨K.db, 4, none⟩ (.slice A 2 c)) (some K.db) :=
      ((grown_setCell w2 K.db 2 _).trans (grown_setCell _ K.db 3 _)).trans (grown_setCell _ K.db 4 _)
    have hk2 := blk_put (cs' := #[.slice (some ⟨K.rb, 0, none⟩) K.ps.length cr', .bool D.off, .int .i64 p, .int .i64 left, .slice A 2 c]) (blk_put (cs' := #[.slice (some ⟨K.rb, 0, none⟩) K.ps.length cr', .bool D.off, .int .i64 p, .int .i64 left, .slice none 0 0]) (blk_put (cs' := #[.slice (some ⟨K.rb, 0, none⟩) K.ps.length cr', .bool D.off, .int .i64 p, .int .i64 0, .slice none 0 0]) HK2.out 2 (.int .i64 p) rfl) 3 (.int .i64 left) rfl) 4 (.slice A 2 c) rfl
    go_end0
    exact ⟨rfl, HD2.out.head hg2 hk2 (HD2.out.keepR hg2 HR2.out), HF2.out.trans (Fd.grown hg2 HD2.out.ndb (Nat.le_trans hN HF2.out.size) (not_free_db K w2))⟩
  · have hc : D.cut p left [k1, k2] = ⟨D.regs, D.off, 0, 0, []⟩ := if_neg hl
    rw [hc]
    have g1 : decide (left > 0) = false := decide_eq_false hl
    go_enter Tryd.func7, Tryd.ntmps7
    go_upto_region 2 with (fail)
    generalize (((w.setCell ⟨K.db, 2, none⟩ (.int .i64 0)).setCell ⟨K.db, 3, none⟩ (.int .i64 0)).setCell ⟨K.db, 4, none⟩ (.slice none 0 0)) = w1 at *
    have HA := Aside0.mk (at_calls N w1 K _ HD1.out p n hp x hx)
    clear hx1 hx2 hx3 hx4 hf2 hf3 hf4 hp hx HB1
    go_wp2_with (first | (go_at_call 17; go_loud (refine HA.out.mono ?_; rintro e w' ⟨rfl, rfl⟩)))
    go_end0
    exact ⟨rfl, HD1.out, HF1.out⟩
set_option maxHeartbeats 8000000 in
set_option maxRecDepth 100000 in
/-- Crash, nothing kept. -/
theorem crash_calls (N : Nat) (w : World) (K : Ad) (D : Dsk) (h : IsDisk N w K D) (hok : D.ok) (hN : N ≤ w.heap.size) (hoff : D.off = false) :
    Calls Tryd.prog 14 #[.pointer (some ⟨K.db, 0, none⟩), .slice none 0 0] w fun e w' => e = .returned (.tuple #[]) ∧ IsDisk N w' K ⟨(D.lose []).regs, false, 0, 0, []⟩ ∧ Fd K N w w' := by
  obtain ⟨cr, kv, d0, d1, d2, d3, d4, _, _⟩ := h.cells
  have hu51 := Tryd.underlying51
  rw [hoff] at d1
  have HL := Aside0.mk (lose_calls N w K D h hok hN none 0 [] (fun _ => False) (fun _ _ => Kd.C_nil _ _) (fun _ hk => hk.elim))
  simp only [List.length_nil] at HL
  clear h hok hoff d0 d2 d3 d4
  go_enter Tryd.func14, Tryd.ntmps14
  go_wp2_with (first
    | (go_at_call 34; go_loud (refine HL.out.mono ?_; rintro e w3 ⟨rfl, hd3, hf3⟩; have hN3 : N ≤ w3.heap.size := Nat.le_trans hN hf3.size; have HON := Aside0.mk (on_calls N w3 K _ hd3 hN3); have HF3 := Aside0.mk hf3; clear hd3 hf3))
    | (go_at_call 11; go_loud (refine HON.out.mono ?_; rintro e w4 ⟨rfl, hd4, hf4⟩; have HD4 := Aside0.mk hd4; have HF4 := Aside0.mk hf4; clear hd4 hf4)))
  go_end0
  exact ⟨rfl, HD4.out, HF3.out.trans HF4.out⟩
end Go.Proofs.YtldkgfhngonnfaaDoor.S
namespace Go.Proofs.YtldkgfhngonnfaaDoor.S
open Go.RowKit Go.Proofs.YtldkgfhngonnfaaDoor.PTopStreams Go.Proofs.YtldkgfhngonnfaaDoorW.PrintWords Go.Proofs.YtldkgfhngonnfaaDoorW.PrintLast Go.Proofs.YtldkgfhngonnfaaDoorW.PrintMore
set_option linter.unusedVariables false
set_option linter.unusedSimpArgs false

theorem below_of_drawn {w w' : World} (h : Drawn0 w w') : Below w.heap.size w w' := by obtain ⟨n, rfl⟩ := h; exact pw_below_drewN (Below.refl _ _) n
def zeros (n : Nat) : ByteArray := ⟨(List.replicate n 0).toArray⟩
theorem rep_zero : (Lib.repeatL (⟨#[0]⟩ : ByteArray).data.toList 64).toArray = (List.replicate 64 (0 : UInt8)).toArray := by decide +kernel
set_option maxHeartbeats 2000000 in
theorem none_calls (w : World) : Calls Tryd.prog 16 #[] w fun e w' => e = .returned (.string (zeros 64)) ∧ Below w.heap.size w w' := by
  have HR : Aside0 (Calls Tryd.prog 36 #[.string ⟨#[0]⟩, .int .i64 64] w fun e w' => e = .returned (.string (zeros 64)) ∧ Below w.heap.size w w') := Aside0.mk (by
    have := Tryd.strings_Repeat_main ⟨#[0]⟩ 64 w (by decide) (by decide) (by decide) (by decide)
    rw [rep_zero] at this
    exact this)
  go_enter Tryd.func16, Tryd.ntmps16
  go_wp2_with (first | (go_at_call 36; go_loud (refine HR.out.mono ?_; rintro e w' ⟨rfl, hb⟩; have HB := Aside0.mk hb; clear hb)))
  go_ret
  exact ⟨rfl, HB.out⟩
theorem mul_f (n : Nat) (h : n < 70) : bits_Mul.f 1 (n : Int) = some (0, (n : Int)) := by
  have : ∀ n : Nat, n < 70 → bits_Mul.f 1 (n : Int) = some (0, (n : Int)) := by decide +kernel
  exact this n h
theorem info9 : (Tryd.prog.info? 9).map (fun i => (i.zero, i.size, i.bytes)) = some (some (.string ⟨#[]⟩), 1, 16) := by kernel_rfl
theorem copy_hrun {P : Program} {a : Act} {o : Oper} {W w1 : World} (s x : Operand) (ho : o.op = .call { callee := .builtin .copy, args := #[s, x], argTypes := #[29, 29] }) {v vx r : Value} (hs : a.eval s = v) (hx : a.eval x = vx)
    (hr : (Builtin.copy_ #[29, 29] o.type #[v, vx]).run P W = .ok r w1) : (execOp a.eval o).run P W = .ok (.value r) w1 := by
  unfold execOp
  simp only [ho, resolve, invoke, builtin, Sem.run_bind, Sem.run_pure, Result.andThen_ok, List.map_toArray, List.map_cons, List.map_nil, hs, hx, hr]
/-- Texts are written one behind the other. -/
theorem R_setCells {base g n cap : Nat} {ok : Nat → Prop} : ∀ (ys : List ByteArray) (i : Nat) (w : World) (xs : List ByteArray), i + ys.length ≤ n → Kd.R Kd.string 9 w base ok (.slice (some ⟨g, 0, none⟩) n cap) xs →
    Kd.R Kd.string 9 (w.setCells g i (ys.map fun y => Value.string y)) base ok (.slice (some ⟨g, 0, none⟩) n cap) (xs.take i ++ ys ++ xs.drop (i + ys.length)) ∧ w.grownBy (w.setCells g i (ys.map fun y => Value.string y)) (some g) := by
  intro ys
  induction ys with
  | nil => intro i w xs _ h; exact ⟨by simpa [World.setCells] using h, World.grownBy.refl _ _⟩
  | cons y ys ih =>
    intro i w xs hi h
    have hn := (Kd.R_reads' h).1
    simp only [List.length_cons] at hi
    obtain ⟨k1, k2⟩ := Kd.R_putg h (i : Int) y
    rw [Int.toNat_natCast] at k1 k2
    obtain ⟨j1, j2⟩ := ih (i + 1) _ _ (by omega) k1
    refine ⟨?_, ?_⟩
    · rw [List.map_cons, World.setCells]
      have e : (xs.set i y).take (i + 1) ++ ys ++ (xs.set i y).drop (i + 1 + ys.length) = xs.take i ++ y :: ys ++ xs.drop (i + (y :: ys).length) := by
        rw [List.take_succ_eq_append_getElem (by rw [List.length_set]; omega), List.take_set_of_le (Nat.le_refl _), List.getElem_set_self, List.drop_set_of_lt (by omega)]
        simp [Nat.add_assoc, Nat.add_comm 1]
      rw [e] at j1
      exact j1
    · rw [List.map_cons, World.setCells]
      exact k2.trans j2
/-- What has been filled in so far. -/
def fillL (n i : Nat) (s : ByteArray) : List ByteArray := List.replicate i s ++ List.replicate (n - i) ⟨#[]⟩
theorem fillL_len (n i : Nat) (s : ByteArray) (h : i ≤ n) : (fillL n i s).length = n := by simp [fillL]; omega
theorem fillL_more (n i m : Nat) (s : ByteArray) (h : i + m ≤ n) : (fillL n i s).take i ++ List.replicate m s ++ (fillL n i s).drop (i + m) = fillL n (i + m) s := by
  unfold fillL
  rw [List.take_left' (by simp), List.drop_append, List.drop_eq_nil_of_le (by simp), List.length_replicate, List.replicate_append_replicate, List.drop_replicate, List.nil_append, show i + m - i = m by omega, show n - i - m = n - (i + m) by omega]
theorem fillL_at (n i j : Nat) (s : ByteArray) (h : j < i) : (fillL n i s).getD j ByteArray.empty = s := by
  unfold fillL
  rw [List.getD_eq_getElem?_getD, List.getElem?_append_left (by simpa using h)]
  simp [h]
theorem copy_texts (w : World) (g o dLen dCap : Nat) (a : Addr) (sLen sCap m : Nat) (s : ByteArray) (ty : TypeId) (hm : m = min sLen dLen) (hc : ∀ j, j < m → (w.cell? ⟨g, o + j, none⟩).isSome = true) (hf : ∀ j, w.frozen? ⟨g, j, none⟩ = false) (hs : ∀ j, j < m → w.cell? (a.add j) = some (.string s)) :
    (Builtin.copy_ #[29, 29] ty #[.slice (some ⟨g, o, none⟩) dLen dCap, .slice (some a) sLen sCap]).run Tryd.prog w = .ok (.int .i64 (m : Int)) (w.setCells g o ((List.replicate m s).map fun y => Value.string y)) := by
  have hsz : (Tryd.prog.info? 9).map (·.size) = some 1 := by
    cases hq : Tryd.prog.info? 9 with
    | none => have := info9; rw [hq] at this; cases this
    | some i => have := info9; rw [hq] at this; simp at this; simp [this.2.1]
  have := run_copy_cells (P := Tryd.prog) w 29 29 ty 9 g o dLen dCap a sLen sCap ((List.replicate m s).map fun y => Value.string y) Tryd.underlying29 hsz (by simp; exact hm) (fun j v hv => by
    have hj := (List.getElem?_eq_some_iff.1 hv).1
    rw [List.getElem?_map] at hv
    simp at hj
    rw [List.getElem?_replicate, if_pos hj] at hv
    cases hv
    exact hs j hj) (fun j hj => hc j (by simpa using hj)) (fun j _ => hf _) (fun v hv => by obtain ⟨x, _, rfl⟩ := List.mem_map.1 hv; rfl)
  rw [List.length_map, List.length_replicate] at this
  exact this
set_option maxHeartbeats 4000000 in
set_option maxRecDepth 100000 in
theorem repeat_calls (gx cx n : Nat) (s : ByteArray) (W : World) (hX : W.cell? ⟨gx, 0, none⟩ = some (.string s)) (h1 : 1 ≤ n) (h2 : n < 70) :
    Calls Tryd.prog 15 #[.slice (some ⟨gx, 0, none⟩) 1 cx, .int .i64 (n : Int)] W fun e W' => ∃ g c', e = .returned (.slice (some ⟨g, 0, none⟩) n c') ∧ Kd.R Kd.string 9 W' W.heap.size (fun _ => True) (.slice (some ⟨g, 0, none⟩) n c') (List.replicate n s) ∧ Below W.heap.size W W' := by
  have HX := Aside0.mk hX
  clear hX
  have hc1 : decide ((n : Int) < 0) = false := decide_eq_false (by omega)
  have hu1 : IntKind.u64.wrap (n : Int) = (n : Int) := by rw [IntKind.wrap_u64]; omega
  have hu2 : IntKind.u64.wrap 1 = 1 := by decide
  have hi1 : wrap64 (n : Int) = (n : Int) := by unfold wrap64; omega
  have hc2 : decide ((n : Int) > 9223372036854775807) = false := decide_eq_false (by omega)
  have hc3 : decide (9223372036854775807 < (n : Int)) = false := decide_eq_false (by omega)
  have HM := Aside0.mk (mul_f n (by omega))
  have HCM := Aside0.mk (fun (w : World) => bits_Mul.calls 1 (n : Int) 0 (n : Int) w HM.out)
  clear HM
  have HB := Aside0.mk (Below.refl W.heap.size W)
  go_enter Tryd.func15, Tryd.ntmps15
  go_upto_region 6 with (first | (go_at_call 35; go_loud (refine (HCM.out _).mono ?_; rintro e w1 ⟨rfl, hd⟩; have HB1 := Aside0.mk (below_of_drawn hd); clear hd)))
  go_upto_region 7 with (first | ((with_reducible refine gate_dst (N := 30) rfl ?_); go_loud (refine Kd.R_make Kd.string (w0 := W) W.heap.size 9 rfl rfl 29 (.tmp 29) (.tmp 29) rfl (n : Int) (by first | (go_simp; done) | (go_simp; rfl)) (by first | (go_simp; done) | (go_simp; rfl)) Tryd.underlying29 (.string ⟨#[]⟩) 16 info9 rfl (by decide) (by decide) ⟨#[]⟩ (ok := fun _ => True) (okp := fun _ => True) rfl (fun _ h => h) trivial (by omega) (by omega) HB1.out HB1.out.size ?_; intro v2 w2 hr hb hg hat; have HR := Aside0.mk hr; have HB2 := Aside0.mk hb; clear hr hb hg hat)))
  rw [Int.toNat_natCast] at HR
  have hv2 := Kd.R_form HR.out (by rw [List.length_replicate]; omega)
  obtain ⟨g, cap, rfl, hg1, hg2, hgc⟩ := hv2
  rw [List.length_replicate] at HR ⊢
  have hx2 := pw_cell_below HB2.out HX.out
  have hfr : ∀ j, w2.frozen? ⟨g, j, none⟩ = false := by
    obtain ⟨cs, hcs⟩ := hgc
    exact fun j => blk_frozen hcs j
  have hcl := (Kd.R_celln (d := ByteArray.empty) HR.out 0 (by omega) (by omega)).1
  have hmin : 1 = min 1 n := by omega
  have HCP : Aside0 ((Builtin.copy_ #[29, 29] 3 #[.slice (some ⟨g, 0, none⟩) n cap, .slice (some ⟨gx, 0, none⟩) 1 cx]).run Tryd.prog w2 = .ok (.int .i64 ((1 : Nat) : Int)) (w2.setCells g 0 ((List.replicate 1 s).map fun y => Value.string y))) := Aside0.mk (copy_texts w2 g 0 n cap ⟨gx, 0, none⟩ 1 cx 1 s 3 hmin (fun j hj => by
    have : j = 0 := by omega
    subst this
    have h3 : w2.cell? ⟨g, 0, none⟩ = _ := hcl
    rw [h3]; rfl) hfr (fun j hj => by
    have : j = 0 := by omega
    subst this
    rw [add_at]; exact hx2))
  obtain ⟨q1, q2⟩ := R_setCells (List.replicate 1 s) 0 w2 _ (by simp; omega) HR.out
  have e1 : (List.replicate n (⟨#[]⟩ : ByteArray)).take 0 ++ List.replicate 1 s ++ (List.replicate n (⟨#[]⟩ : ByteArray)).drop (0 + (List.replicate 1 s).length) = fillL n 1 s := by
    unfold fillL; simp
  rw [e1] at q1
  obtain ⟨L1, hL1⟩ : ∃ L1 : List Value, ((List.replicate 1 s).map fun y => Value.string y) = L1 := ⟨_, rfl⟩
  rw [hL1] at HCP q1 q2
  have HR3 := Aside0.mk q1
  have HB3 := Aside0.mk (HB2.out.grown q2 HB2.out.size (fun k e => by injection e with e; omega))
  clear hx2 hfr hcl hmin q1 q2 e1 hgc hL1
  go_upto_region 8 with (first | ((with_reducible refine gate_dst (N := 33) rfl ?_); go_loud (refine Kd.event_run rfl (copy_hrun (.tmp 31) (.tmp 32) rfl rfl rfl HCP.out) ?_)))
  generalize w2.setCells g 0 L1 = w3 at *
  go_loopw [8] (fun v8 wr => ∃ (p : Int) (i : Nat), v8 = .int .i64 p ∧ Aside0 (p = (i : Int)) ∧ Aside0 (1 ≤ i ∧ i ≤ n) ∧ Aside0 (Kd.R Kd.string 9 wr W.heap.size (fun _ => True) (.slice (some ⟨g, 0, none⟩) n cap) (fillL n i s)) ∧ Aside0 (Below W.heap.size W wr)) (fun v8 _ => n - (intOf v8).toNat)
  case atStart => exact ⟨1, 1, rfl, Aside0.mk rfl, Aside0.mk ⟨Nat.le_refl _, h1⟩, HR3, HB3⟩
  case round =>
    clear HR HB2 HCP hg2 HR3 HB3
    obtain ⟨p, i, rfl, HP, HI, HR, HB2⟩ := hrel
    by_cases hin : i < n
    · have hlt : decide (p < (n : Int)) = true := decide_eq_true (by rw [HP.out]; omega)
      have hRd := Kd.R_drew HR.out
      have hpi : p.toNat = i := by rw [HP.out]; rfl
      have hnc := (Kd.R_reads' HR.out).2.1
      obtain ⟨ti, hti, hsz⟩ : ∃ ti : TypeInfo, Tryd.prog.info? 9 = some ti ∧ ti.size = 1 := by
        cases hq : Tryd.prog.info? 9 with
        | none => have := info9; rw [hq] at this; cases this
        | some ti => exact ⟨ti, rfl, by have := info9; rw [hq] at this; simp at this; exact this.2.1⟩
      have hcf := cut_from (P := Tryd.prog) 29 9 .i64 Tryd.underlying29 hti 1 hsz (some ⟨g, 0, none⟩) n cap p (by rw [HP.out]; omega) (by rw [HP.out]; omega)
      have hct := cut_to (P := Tryd.prog) 29 9 .i64 Tryd.underlying29 hti (some ⟨g, 0, none⟩) n cap p (by rw [HP.out]; omega) (by rw [HP.out]; omega) hnc
      rw [hpi, if_neg (by omega), Option.map_some, add_at, Nat.mul_one, Nat.zero_add] at hcf
      rw [hpi] at hct
      obtain ⟨m, hm⟩ : ∃ m, m = min i (n - i) := ⟨_, rfl⟩
      have hi2 := HI.out
      obtain ⟨cs, hty⟩ := Kd.R_typed hRd g rfl
      have hcp := copy_texts wr.drew g i (n - i) (cap - i) ⟨g, 0, none⟩ i cap m s 3 hm (fun j hj => by
        have h3 := (Kd.R_celln (d := ByteArray.empty) hRd ((i + j : Nat) : Int) (by omega) (by omega)).1
        rw [Int.toNat_natCast] at h3
        rw [h3]; rfl) (fun j => blk_frozen hty j) (fun j hj => by
        have h3 := (Kd.R_celln (d := ByteArray.empty) hRd ((j : Nat) : Int) (by omega) (by omega)).1
        unfold rdOf at h3
        rw [Int.toNat_natCast, fillL_at n i j s (by omega)] at h3
        rw [add_at, Nat.zero_add]
        exact h3)
      have HCP : Aside0 ((Builtin.copy_ #[29, 29] 3 #[.slice (some ⟨g, i, none⟩) (n - i) (cap - i), .slice (some ⟨g, 0, none⟩) i cap]).run Tryd.prog wr.drew = .ok (.int .i64 (m : Int)) (wr.drew.setCells g i ((List.replicate m s).map fun y => Value.string y))) := Aside0.mk hcp
      obtain ⟨q1, q2⟩ := R_setCells (List.replicate m s) i wr.drew _ (by simp; omega) hRd
      rw [List.length_replicate, fillL_more n i m s (by omega)] at q1
      obtain ⟨L2, hL2⟩ : ∃ L2 : List Value, ((List.replicate m s).map fun y => Value.string y) = L2 := ⟨_, rfl⟩
      rw [hL2] at HCP q1 q2
      have HR3 := Aside0.mk q1
      have hbd := below_drew1 HB2.out
      have HB3 := Aside0.mk (hbd.grown q2 hbd.size (fun k e => by injection e with e; omega))
      obtain ⟨P2, hP2⟩ : ∃ P2 : Int, P2 = ((i + m : Nat) : Int) := ⟨_, rfl⟩
      have hwr : IntKind.i64.wrap (p + (m : Int)) = P2 := by rw [HP.out, IntKind.wrap_i64, hP2]; omega
      have HP2 := Aside0.mk hP2
      have HM := Aside0.mk (show 1 ≤ m ∧ i + m ≤ n by omega)
      clear hRd hpi hnc hcp hm hti hsz hin hP2 hty hbd q1 q2 hi2 hL2
      go_upto_region 9 with (fail)
      refine wp_region_held_drew (S := fun _ => True) (by kernel_rfl) trivial (fun hHeld => ?_)
      refine wpAnyH_take (i := 0) (oi := { dst := some 38, op := Op.move (Operand.tmp 8), type := 3, pos := "slices.go:528", after := #[], guard := none }) (v := ?v0) rfl (by kernel_rfl) (by kernel_rfl) (by kernel_rfl) (fun _ _ _ h => h) (Or.inl ⟨by rfl, ?y0⟩) (by assumption) ?_
      case y0 => (intro w hSw; (try dsimp only at hSw); go_simp; try with_reducible rfl)
      (try simp only [Act.put, List.setIfInBounds_toArray, List.set_cons_zero, List.set_cons_succ])
      refine wpAnyH_take (i := 1) (oi := { dst := some 39, op := Op.move (Operand.tmp 7), type := 29, pos := "slices.go:528", after := #[], guard := none }) (v := ?v1) rfl (by kernel_rfl) (by kernel_rfl) (by kernel_rfl) (fun _ _ _ h => h) (Or.inl ⟨by rfl, ?y1⟩) (by assumption) ?_
      case y1 => (intro w hSw; (try dsimp only at hSw); go_simp; try with_reducible rfl)
      (try simp only [Act.put, List.setIfInBounds_toArray, List.set_cons_zero, List.set_cons_succ])
      refine wpAnyH_take (i := 2) (oi := { dst := some 40, op := Op.move (Operand.tmp 8), type := 3, pos := "slices.go:528", after := #[], guard := none }) (v := ?v2) rfl (by kernel_rfl) (by kernel_rfl) (by kernel_rfl) (fun _ _ _ h => h) (Or.inl ⟨by rfl, ?y2⟩) (by assumption) ?_
      case y2 => (intro w hSw; (try dsimp only at hSw); go_simp; try with_reducible rfl)
      (try simp only [Act.put, List.setIfInBounds_toArray, List.set_cons_zero, List.set_cons_succ])
      refine wpAnyH_take (i := 3) (oi := { dst := some 41, op := Op.slice 29 (Operand.tmp 39) (some (Operand.tmp 40)) none none, type := 29, pos := "slices.go:528", after := #[{ on := 1, ground := Ground.data }, { on := 2, ground := Ground.data }], guard := none }) (v := ?v3) rfl (by kernel_rfl) (by kernel_rfl) (by kernel_rfl) (fun _ _ _ h => h) (Or.inl ⟨by rfl, ?y3⟩) (by assumption) ?_
      case y3 => (intro w hSw; (try dsimp only at hSw); go_simp; try with_reducible rfl)
      (try simp only [Act.put, List.setIfInBounds_toArray, List.set_cons_zero, List.set_cons_succ])
      refine wpAnyH_take (i := 4) (oi := { dst := some 42, op := Op.move (Operand.tmp 7), type := 29, pos := "slices.go:528", after := #[], guard := none }) (v := ?v4) rfl (by kernel_rfl) (by kernel_rfl) (by kernel_rfl) (fun _ _ _ h => h) (Or.inl ⟨by rfl, ?y4⟩) (by assumption) ?_
      case y4 => (intro w hSw; (try dsimp only at hSw); go_simp; try with_reducible rfl)
      (try simp only [Act.put, List.setIfInBounds_toArray, List.set_cons_zero, List.set_cons_succ])
      refine wpAnyH_take (i := 5) (oi := { dst := some 43, op := Op.move (Operand.tmp 8), type := 3, pos := "slices.go:528", after := #[], guard := none }) (v := ?v5) rfl (by kernel_rfl) (by kernel_rfl) (by kernel_rfl) (fun _ _ _ h => h) (Or.inl ⟨by rfl, ?y5⟩) (by assumption) ?_
      case y5 => (intro w hSw; (try dsimp only at hSw); go_simp; try with_reducible rfl)
      (try simp only [Act.put, List.setIfInBounds_toArray, List.set_cons_zero, List.set_cons_succ])
      refine wpAnyH_take (i := 6) (oi := { dst := some 44, op := Op.slice 29 (Operand.tmp 42) none (some (Operand.tmp 43)) none, type := 29, pos := "slices.go:528", after := #[{ on := 4, ground := Ground.data }, { on := 5, ground := Ground.data }], guard := none }) (v := ?v6) rfl (by kernel_rfl) (by kernel_rfl) (by kernel_rfl) (fun _ _ _ h => h) (Or.inl ⟨by rfl, ?y6⟩) (by assumption) ?_
      case y6 => (intro w hSw; (try dsimp only at hSw); go_simp; try with_reducible rfl)
      (try simp only [Act.put, List.setIfInBounds_toArray, List.set_cons_zero, List.set_cons_succ])
      refine wpAnyH_ready (rs := [7]) (by kernel_rfl) (by simp) ?_
      refine AllReadyH.cons (o := { dst := some 45, op := Op.call { callee := Callee.builtin Builtin.copy, args := #[Operand.tmp 41, Operand.tmp 44], argTypes := #[29, 29] }, type := 3, pos := "slices.go:528", after := #[{ on := 3, ground := Ground.data }, { on := 6, ground := Ground.data }], guard := none }) rfl (fun K hK => ?_) AllReadyH.nil
      refine event_step rfl (copy_hrun (.tmp 41) (.tmp 44) rfl rfl rfl HCP.out) ?_
      refine hK.out _ _ trivial (fun hHeld2 => ?_)
      clear hK K hHeld
      have hHeld := hHeld2
      clear hHeld2
      (try simp only [Act.put, List.setIfInBounds_toArray, List.set_cons_zero, List.set_cons_succ])
      refine wpAnyH_ready (rs := [8]) (by kernel_rfl) (by simp) ?_
      refine AllReadyH.cons (o := { dst := some 46, op := Op.binOp BinOp.add 3 (Operand.tmp 38) (Operand.tmp 45) 3, type := 3, pos := "slices.go:528", after := #[{ on := 0, ground := Ground.data }, { on := 7, ground := Ground.data }], guard := none }) rfl (fun K hK => ?_) AllReadyH.nil
      go_simp
      refine hK.out _ _ trivial (fun hHeld2 => ?_)
      clear hK K hHeld
      have hHeld := hHeld2
      clear hHeld2
      (try simp only [Act.put, List.setIfInBounds_toArray, List.set_cons_zero, List.set_cons_succ])
      refine wpAnyH_ready (rs := [9]) (by kernel_rfl) (by simp) ?_
      refine AllReadyH.cons (o := { dst := some 8, op := Op.assign (Operand.tmp 46), type := 3, pos := "slices.go:528", after := #[{ on := 8, ground := Ground.data }, { on := 7, ground := Ground.chain }, { on := 0, ground := Ground.phase }, { on := 1, ground := Ground.phase }, { on := 2, ground := Ground.phase }, { on := 3, ground := Ground.phase }, { on := 4, ground := Ground.phase }, { on := 5, ground := Ground.phase }, { on := 6, ground := Ground.phase }, { on := 7, ground := Ground.phase }, { on := 8, ground := Ground.phase }], guard := none }) rfl (fun K hK => ?_) AllReadyH.nil
      go_simp
      refine hK.out _ _ trivial (fun hHeld2 => ?_)
      clear hK K hHeld
      have hHeld := hHeld2
      clear hHeld2
      (try simp only [Act.put, List.setIfInBounds_toArray, List.set_cons_zero, List.set_cons_succ])
      refine wpAnyH_done (by kernel_rfl) ?_ _
      clear hHeld
      generalize wr.drew.setCells g i L2 = w5 at *
      (try simp only [hwr])
      go_wp2
      go_roundw
      case rel => exact ⟨_, i + m, rfl, HP2, Aside0.mk (by have := HM.out; omega), HR3, HB3⟩
      case measure => have := HP2.out; have := HP.out; have := HM.out; simp [intOf] at *; omega
    · have hlt : decide (p < (n : Int)) = false := decide_eq_false (by rw [HP.out]; omega)
      have HE : Aside0 (fillL n i s = List.replicate n s) := Aside0.mk (by
        have := HI.out
        obtain rfl : i = n := by omega
        unfold fillL; simp)
      rw [HE.out] at HR
      go_wp2
      go_ret
      exact ⟨_, _, rfl, HR.out, HB2.out⟩
end Go.Proofs.YtldkgfhngonnfaaDoor.S
namespace Go.Proofs.YtldkgfhngonnfaaDoor.S
open Go
section
variable {P : Program} {ops : Array Oper} {Q : Exit → Act → World → Prop} {md : Region.Mode} {S : World → Prop} {z : Nat}
/-- Whatever order is picked from here on, and S holds behind every operation till z has come up. -/
def wpAnyZ (P : Program) (md : Region.Mode) (ops : Array Oper) (Q : Exit → Act → World → Prop) (S : World → Prop) (z : Nat) : Nat → Array Bool → Act → World → Prop
  | 0, listed, a, w => Region.ready md ops listed = [] ∧ Q .normal a w
  | fuel + 1, listed, a, w =>
    (Region.ready md ops listed = [] → Q .normal a w) ∧
    ∀ i ∈ Region.ready md ops listed, wpOp P ops Q i (fun a' w' => ((listed.setIfInBounds i true).getD z true = false → S w') ∧ wpAnyZ P md ops Q S z fuel (listed.setIfInBounds i true) a' w') a w
theorem wpAny_of_z : ∀ (fuel : Nat) (listed : Array Bool) (a : Act) (w : World), wpAnyZ P md ops Q S z fuel listed a w → wpAny P md ops Q fuel listed a w
  | 0, _, _, _, h => h
  | fuel + 1, _, _, _, h => ⟨h.1, fun i hi => wpOp_mono (fun a' w' h' => wpAny_of_z fuel _ a' w' h'.2) (h.2 i hi)⟩
theorem wpAnyZ_first {i : Nat} {oi : Oper} {v : Value} (hi : ops[i]? = some oi) (hsel : ∀ (j : Nat) (o : Oper) cs b, ops[j]? = some o → o.op ≠ .select cs b)
    (hQ : ∀ c a w, Q (.panic c) (a.put oi.dst v) w → Q (.panic c) a w) (hz : ∀ oz, ops[z]? = some oz → ∃ e ∈ oz.after, Region.binds md e = true ∧ e.on = i) :
    ∀ (fuel : Nat) (listed : Array Bool) (a : Act) (w : World),
      (∀ j oj, ops[j]? = some oj → j ≠ i → listed.getD j true = false → (∀ e ∈ oj.after, Region.binds md e = true → e.on ≠ i) → oi.apart ops oj = true) →
      i ∈ Region.ready md ops listed → listed.getD z true = false → YieldsIf P ops S oi v a → S w →
      wpAnyZ P md ops Q S z fuel (listed.setIfInBounds i true) (a.put oi.dst v) w → z ≠ i → wpAnyZ P md ops Q S z (fuel + 1) listed a w := by
  intro fuel
  induction fuel with
  | zero =>
    intro listed a w _ hr hzl hy hS H hzi
    refine ⟨fun h => (by rw [h] at hr; cases hr), fun j hj => ?_⟩
    by_cases hji : j = i
    · subst hji; exact hy.wpOp hi hS ⟨fun _ => hS, H⟩
    · have := ready_mono hj hji
      rw [H.1] at this
      cases this
  | succ fuel ih =>
    intro listed a w hfree hr hzl hy hS H hzi
    refine ⟨fun h => (by rw [h] at hr; cases hr), fun j hj => ?_⟩
    by_cases hji : j = i
    · subst hji; exact hy.wpOp hi hS ⟨fun _ => hS, H⟩
    · have h1 := H.2 j (ready_mono hj hji)
      obtain ⟨hjun, oj, hoj, hall⟩ := mem_ready.1 hj
      have hnot : ∀ e ∈ oj.after, Region.binds md e = true → e.on ≠ i := fun e he hb heq => by
        have h1 := hall e he hb
        have h0 := (mem_ready.1 hr).1
        rw [heq] at h1
        rcases Nat.lt_or_ge i listed.size with h' | h'
        · simp [h'] at h0 h1; rw [h0] at h1; cases h1
        · simp [Array.getElem?_eq_none h'] at h1
      have hjz : j ≠ z := fun e => by
        subst e
        obtain ⟨e, he, hb, heq⟩ := hz oj hoj
        exact hnot e he hb heq
      have hzl' : (listed.setIfInBounds j true).getD z true = false := by rw [getD_set_ne true hjz]; exact hzl
      have hzl'' : ((listed.setIfInBounds i true).setIfInBounds j true).getD z true = false := by rw [getD_set_ne true hjz, getD_set_ne true (Ne.symm hzi)]; exact hzl
      have h2 := wpOp_putIf hoj (hfree j oj hoj hji hjun hnot) (fun cs b => hsel i oi cs b hi) (fun cs b => hsel j oj cs b hoj) hQ hy h1
      have hfree' : ∀ k ok, ops[k]? = some ok → k ≠ i → (listed.setIfInBounds j true).getD k true = false →
          (∀ e ∈ ok.after, Region.binds md e = true → e.on ≠ i) → oi.apart ops ok = true := fun k ok hk hki hun hno => by
        refine hfree k ok hk hki ?_ hno
        by_cases hjk : j = k
        · subst hjk; exact hjun
        · rw [getD_set_ne true hjk] at hun; exact hun
      refine wpOp_mono (fun a' w' h3 => ⟨fun _ => h3.2.1 hzl'', ih (listed.setIfInBounds j true) a' w' hfree' (ready_mono hr (Ne.symm hji)) hzl' h3.1 (h3.2.1 hzl'') ?_ hzi⟩) h2
      rw [Array.setIfInBounds_comm _ _ hji]
      exact h3.2.2
/-- Does z wait for i? -/
def waitsOn (md : Region.Mode) (ops : Array Oper) (z i : Nat) : Bool := (match ops[z]? with | some oz => oz.after.any fun e => Region.binds md e && e.on == i | none => false) && !(z == i)
theorem wpAnyZ_take {i : Nat} {oi : Oper} {v : Value} {fuel : Nat} {listed : Array Bool} {a : Act} {w : World} (hi : ops[i]? = some oi)
    (hs : Region.noSelect ops = true) (hf : Region.free md ops listed i = true) (hr : (Region.ready md ops listed).contains i = true) (hzw : waitsOn md ops z i = true) (hzl : listed.getD z true = false)
    (hQ : ∀ c a w, Q (.panic c) (a.put oi.dst v) w → Q (.panic c) a w) (hy : YieldsIf P ops S oi v a) (hS : S w)
    (h : wpAnyZ P md ops Q S z fuel (listed.setIfInBounds i true) (a.put oi.dst v) w) : wpAnyZ P md ops Q S z (fuel + 1) listed a w := by
  unfold waitsOn at hzw
  simp only [Bool.and_eq_true] at hzw
  refine wpAnyZ_first hi (Region.noSelect_spec hs) hQ (fun oz hoz => ?_) fuel listed a w (Region.free_spec hi hf) (by simpa using hr) hzl hy hS h (by simpa using hzw.2)
  have h1 := hzw.1
  rw [hoz] at h1
  simp only [Array.any_eq_true', Bool.and_eq_true, beq_iff_eq] at h1
  obtain ⟨e, he, h2, h3⟩ := h1
  exact ⟨e, he, h2, h3⟩
/-- Each of the operations 'rs' comes up next. -/
def AllReadyZ (P : Program) (md : Region.Mode) (ops : Array Oper) (Q : Exit → Act → World → Prop) (S : World → Prop) (z : Nat) (fuel : Nat) (listed : Array Bool) (a : Act) (w : World) (rs : List Nat) : Prop :=
  ∀ i ∈ rs, wpOp P ops Q i (fun a' w' => ((listed.setIfInBounds i true).getD z true = false → S w') ∧ wpAnyZ P md ops Q S z fuel (listed.setIfInBounds i true) a' w') a w
theorem AllReadyZ.nil {fuel : Nat} {listed : Array Bool} {a : Act} {w : World} : AllReadyZ P md ops Q S z fuel listed a w [] := fun _ h => by cases h
/-- One that comes up ahead of z. -/
theorem AllReadyZ.cons {fuel : Nat} {listed : Array Bool} {a : Act} {w : World} {i : Nat} {o : Oper} {rs : List Nat} (ho : ops[i]? = some o)
    (h : ∀ K' : Act → World → Prop, Shut (∀ a w, S w → (S w → wpAnyZ P md ops Q S z fuel (listed.setIfInBounds i true) a w) → K' a w) → if Region.wanted o (yielded ops a.tmps) = true then Oper.wp P o a w K' Q else K' (a.put o.dst undef) w)
    (hs : AllReadyZ P md ops Q S z fuel listed a w rs) : AllReadyZ P md ops Q S z fuel listed a w (i :: rs) := fun j hj => by
  rcases List.mem_cons.1 hj with rfl | hj
  · exact wpOp_step ho (fun K' hK => h K' (fun a w hS hW => hK a w ⟨fun _ => hS, hW hS⟩))
  · exact hs j hj
/-- z itself, or one behind it. -/
theorem AllReadyZ.last {fuel : Nat} {listed : Array Bool} {a : Act} {w : World} {i : Nat} {o : Oper} {rs : List Nat} (ho : ops[i]? = some o) (hzl : (listed.setIfInBounds i true).getD z true = true)
    (h : ∀ K' : Act → World → Prop, Shut (∀ a w, True → (True → wpAnyZ P md ops Q S z fuel (listed.setIfInBounds i true) a w) → K' a w) → if Region.wanted o (yielded ops a.tmps) = true then Oper.wp P o a w K' Q else K' (a.put o.dst undef) w)
    (hs : AllReadyZ P md ops Q S z fuel listed a w rs) : AllReadyZ P md ops Q S z fuel listed a w (i :: rs) := fun j hj => by
  rcases List.mem_cons.1 hj with rfl | hj
  · exact wpOp_step ho (fun K' hK => h K' (fun a w _ hW => hK a w ⟨fun e => (by rw [hzl] at e; cases e), hW trivial⟩))
  · exact hs j hj
theorem wpAnyZ_ready {rs : List Nat} {fuel : Nat} {listed : Array Bool} {a : Act} {w : World} (hr : Region.ready md ops listed = rs) (hne : rs ≠ [])
    (h : AllReadyZ P md ops Q S z fuel listed a w rs) : wpAnyZ P md ops Q S z (fuel + 1) listed a w := ⟨fun h0 => absurd (hr ▸ h0) hne, hr ▸ h⟩
theorem wpAnyZ_done {listed : Array Bool} {a : Act} {w : World} (hr : Region.ready md ops listed = []) (h : Q .normal a w) :
    ∀ fuel, wpAnyZ P md ops Q S z fuel listed a w
  | 0 => ⟨hr, h⟩
  | _ + 1 => ⟨fun _ => h, by rw [hr]; simp⟩
theorem wp_region_z_drew {id : Nat} {a : Act} {w : World} (z : Nat) (hm : P.follows .mixedOrders = true) (hS : S w.drew)
    (h : S w.drew → wpAnyZ P .any ops Q S z ops.size (Array.replicate ops.size false) a w.drew) : (Code.region id ops true).wp P Q a w :=
  wp_region_any hm (wpAny_of_z _ _ _ _ (h hS))
end
end Go.Proofs.YtldkgfhngonnfaaDoor.S
namespace Go.Proofs.YtldkgfhngonnfaaDoor.S
open Go.RowKit Go.Proofs.YtldkgfhngonnfaaDoor.PTopStreams Go.Proofs.YtldkgfhngonnfaaDoorW.PrintWords Go.Proofs.YtldkgfhngonnfaaDoorW.PrintLast Go.Proofs.YtldkgfhngonnfaaDoorW.PrintMore
set_option linter.unusedVariables false
set_option linter.unusedSimpArgs false

theorem add_at (b n : Nat) : Addr.add ⟨b, 0, none⟩ n = ⟨b, n, none⟩ := by
  unfold Addr.add
  split
  · next h => subst h; rfl
  · simp
/-- Pointers to blocks. -/
def KP : Kd Nat := Kd.scalar (fun p => Value.pointer (some ⟨p, 0, none⟩)) (fun _ => rfl)
def freshR (m : Nat) : Reg := ⟨List.replicate m (zeros 64), []⟩
structure NewSt (N : Nat) (w : World) (db : Nat) (v : Value) (ps : List (Nat × Nat)) (ns : List Nat) : Prop where
  ndb : N ≤ db
  main : w.heap[db]? = some (.cells #[v, .bool false, .int .i64 0, .int .i64 0, .slice none 0 0] 51 (0, 0))
  row : Kd.R KP 52 w N (fun _ => True) v (ps.map (·.1))
  nd1 : (ps.map (·.1)).Nodup
  nd2 : (ps.map (·.2)).Nodup
  regs : ∀ (j : Nat) (x : Nat × Nat) (m : Nat), ps[j]? = some x → ns[j]? = some m → IsReg N w x (freshR m) (.slice none 0 0)
  old : ∀ x ∈ ps, x.1 < w.heap.size ∧ x.2 < w.heap.size
theorem NewSt.below {N : Nat} {w w' : World} {db : Nat} {v : Value} {ps : List (Nat × Nat)} {ns : List Nat} (h : NewSt N w db v ps ns) (hb : Below w.heap.size w w') : NewSt N w' db v ps ns :=
  ⟨h.ndb, blk_below h.main hb, Kd.R_below h.row hb, h.nd1, h.nd2, fun j x m a b => (h.regs j x m a b).below hb, fun x hx => by have := h.old x hx; have := hb.size; omega⟩
theorem info52 : (Tryd.prog.info? 52).map (fun i => (i.zero, i.size, i.bytes)) = some (some (.pointer none), 1, 8) := by kernel_rfl
/-- One region more. -/
theorem NewSt.more {N : Nat} {w w1 : World} {db p g c : Nat} {v v1 : Value} {ps : List (Nat × Nat)} {ns : List Nat} {m : Nat} (h : NewSt N w db v ps ns) (hm : ns[ps.length]? = some m) (hN : N ≤ w.heap.size)
    (hp : w.heap[p]? = some (.cells #[.slice (some ⟨g, 0, none⟩) m c, .slice none 0 0] 57 (0, 0))) (hg : Kd.R Kd.string 9 w N (fun _ => True) (.slice (some ⟨g, 0, none⟩) m c) (List.replicate m (zeros 64)))
    (hnp : ∀ x ∈ ps, x.1 ≠ p ∧ x.2 ≠ g) (hNp : N ≤ p) (hR : Kd.R KP 52 w1 N (fun _ => True) v1 (ps.map (·.1) ++ [p])) (hgr : w.grownBy w1 v.ownBlock) :
    NewSt N (w1.setCell ⟨db, 0, none⟩ v1) db v1 (ps ++ [(p, g)]) ns := by
  have tv : ∀ k, v.ownBlock = some k → ∃ cells, w.heap[k]? = some (.cells cells 52 (0, 0)) := fun k hk => Kd.R_typed h.row k hk
  have keep : ∀ {k : Nat} {cs : Array Value} {t : TypeId}, w.heap[k]? = some (.cells cs t (0, 0)) → t ≠ 52 → w1.heap[k]? = some (.cells cs t (0, 0)) := fun hb ht => blk_grown hb hgr (fun e => by obtain ⟨c2, hc2⟩ := tv _ e.symm; exact blk_ne hb hc2 ht rfl)
  have keepR : ∀ {A : Option Addr} {n c : Nat} {xs : List ByteArray}, Kd.R Kd.string 9 w N (fun _ => True) (.slice A n c) xs → Kd.R Kd.string 9 w1 N (fun _ => True) (.slice A n c) xs := fun hr => R_own_step rfl hr (fun k hk hlt => hgr.block k hlt (fun e => by
    obtain ⟨c2, hc2⟩ := tv _ e.symm
    obtain ⟨c3, hc3⟩ := Kd.R_typed hr k hk
    exact blk_ne hc3 hc2 (by decide) rfl))
  have m1 := keep h.main (by decide)
  have hreg : ∀ {x : Nat × Nat} {m : Nat} {cl : Nat}, N ≤ x.1 → w.heap[x.1]? = some (.cells #[.slice (some ⟨x.2, 0, none⟩) (freshR m).lasts.length cl, .slice none 0 0] 57 (0, 0)) → Kd.R Kd.string 9 w N (fun _ => True) (.slice (some ⟨x.2, 0, none⟩) (freshR m).lasts.length cl) (freshR m).lasts → IsReg N (w1.setCell ⟨db, 0, none⟩ v1) x (freshR m) (.slice none 0 0) := fun h0 h1 h2 => by
    have k1 := keep h1 (by decide)
    exact ⟨h0, _, blk_far (p := ⟨db, 0, none⟩) k1 (blk_ne k1 m1 (by decide)) v1, Kd.R_set (keepR h2) m1 (by rw [show Kd.string.E = [] from rfl]; simp) 0 v1, Kd.R_nil _ _ _ _ _⟩
  have hsz : w.heap.size ≤ (w1.setCell ⟨db, 0, none⟩ v1).heap.size := by rw [World.size_setCell]; exact hgr.size
  refine ⟨h.ndb, blk_put m1 0 v1 rfl, ?_, ?_, ?_, ?_, ?_⟩
  · rw [List.map_append]
    exact Kd.R_set hR m1 (by rw [show KP.E = [] from rfl]; simp) 0 v1
  · rw [List.map_append, List.nodup_append]
    refine ⟨h.nd1, by simp, fun a ha b hb e => ?_⟩
    obtain ⟨x, hx, rfl⟩ := List.mem_map.1 ha
    simp at hb
    exact (hnp x hx).1 (e.trans hb)
  · rw [List.map_append, List.nodup_append]
    refine ⟨h.nd2, by simp, fun a ha b hb e => ?_⟩
    obtain ⟨x, hx, rfl⟩ := List.mem_map.1 ha
    simp at hb
    exact (hnp x hx).2 (e.trans hb)
  · intro j x m' hx hm'
    rcases Nat.lt_trichotomy j ps.length with hj | hj | hj
    · rw [List.getElem?_append_left hj] at hx
      obtain ⟨h0, cl, h1, h2, _⟩ := h.regs j x m' hx hm'
      exact hreg h0 h1 h2
    · subst hj
      rw [List.getElem?_append_right (Nat.le_refl _), Nat.sub_self] at hx
      simp at hx
      subst hx
      obtain rfl : m = m' := Option.some.inj (hm.symm.trans hm')
      have e : (freshR m).lasts.length = m := by simp [freshR]
      exact hreg (x := (p, g)) (cl := c) hNp (by rw [e]; exact hp) (by rw [e]; exact hg)
    · rw [List.getElem?_eq_none (by simp; omega)] at hx; cases hx
  · intro x hx
    rcases List.mem_append.1 hx with hx | hx
    · have := h.old x hx; omega
    · simp at hx
      subst hx
      have h1 := blk_lt hp
      have h2 : g < w.heap.size := Kd.R_lt hg g rfl
      exact ⟨by omega, by omega⟩
/-- The regions are laid: a disk. -/
theorem NewSt.disk {N : Nat} {w : World} {db : Nat} {v : Value} {ps : List (Nat × Nat)} {ns : List Nat} (h : NewSt N w db v ps ns) (hl : ps.length = ns.length) (h1 : 1 ≤ ns.length) (h8 : ns.length ≤ 8) : ∃ rb, IsDisk N w ⟨db, rb, ps⟩ ⟨ns.map freshR, false, 0, 0, []⟩ := by
  obtain ⟨rb, cr, rfl, _, _, cells, hc⟩ := Kd.R_form h.row (by rw [List.length_map]; omega)
  rw [List.length_map] at *
  refine ⟨rb, h.ndb, h.nd1, h.nd2, ⟨cr, _, h.main, Kd.R_nil _ _ _ _ _⟩, ⟨cells, hc, fun i x hx => ?_⟩, by simp [hl], by show ps.length ≤ 8; omega, ⟨List.replicate ps.length (.slice none 0 0), by simp, ?_, ?_⟩⟩
  · have hi : i < ps.length := (List.getElem?_eq_some_iff.1 hx).1
    have h2 := (Kd.R_celln (d := 0) h.row ((i : Nat) : Int) (by omega) (by omega)).1
    rw [Int.toNat_natCast] at h2
    have h3 := (blk_cell hc i).symm.trans h2
    have h4 : rdOf 0 (ps.map (·.1)) (i : Int) = x.1 := by unfold rdOf; simp [hx]
    rw [h4] at h3
    exact h3
  · intro i x R q hx hR hq
    simp only [List.getElem?_map] at hR
    obtain ⟨m, hm, rfl⟩ := Option.map_eq_some_iff.1 hR
    have hq2 := List.getElem?_eq_some_iff.1 hq
    obtain ⟨_, e⟩ := hq2
    simp at e
    subst e
    exact h.regs i x m hx hm
  · intro i j q q' _ hq hq' k hk
    obtain ⟨_, e⟩ := List.getElem?_eq_some_iff.1 hq
    simp at e
    subst e
    simp [Value.ownBlock] at hk
set_option maxHeartbeats 8000000 in
set_option maxRecDepth 100000 in
theorem new_calls (sb : Nat) (ns : List Nat) (W : World) (hs : Kd.C (Kd.int .i64) W (some ⟨sb, 0, none⟩) ns.length (ns.map (fun n : Nat => (n : Int)))) (h1 : 1 ≤ ns.length) (h8 : ns.length ≤ 8) (hm : ∀ n ∈ ns, 1 ≤ n ∧ n < 70) :
    Calls Tryd.prog 5 #[.slice (some ⟨sb, 0, none⟩) ns.length ns.length] W fun e W' => ∃ K : Ad, e = .returned (.pointer (some ⟨K.db, 0, none⟩)) ∧ K.ps.length = ns.length ∧ IsDisk W.heap.size W' K ⟨ns.map freshR, false, 0, 0, []⟩ ∧ Below W.heap.size W W' := by
  have hu51 := Tryd.underlying51
  have hu57 := Tryd.underlying57
  have hb0 := below_alloc (Below.refl W.heap.size W) (.cells #[.slice none 0 0, .bool false, .int .i64 0, .int .i64 0, .slice none 0 0] 51)
  have HS0 : Aside0 (NewSt W.heap.size (W.alloc (.cells #[.slice none 0 0, .bool false, .int .i64 0, .int .i64 0, .slice none 0 0] 51)) W.heap.size (.slice none 0 0) [] ns) := Aside0.mk ⟨Nat.le_refl _, blk_new W _, Kd.R_nil _ _ _ _ _, List.nodup_nil, List.nodup_nil, fun j x m hx _ => by simp at hx, fun x hx => by cases hx⟩
  have HB0 := Aside0.mk hb0
  have HC := Aside0.mk hs
  have HM := Aside0.mk hm
  have hmn : min (ns.length : Int) 8 = (ns.length : Int) := by omega
  have hmn2 : max (ns.length : Int) 0 = (ns.length : Int) := by omega
  have hlen : (ns.map (fun n : Nat => (n : Int))).length = ns.length := by simp
  clear hs hm hb0
  go_enter Tryd.func5, Tryd.ntmps5
  go_wp2
  generalize W.alloc (.cells #[.slice none 0 0, .bool false, .int .i64 0, .int .i64 0, .slice none 0 0] 51) = w0 at *
  go_loopw [14] (fun v14 wr => ∃ (p : Int) (v : Value) (ps : List (Nat × Nat)), v14 = .int .i64 p ∧ Aside0 (p = (ps.length : Int)) ∧ ps.length ≤ ns.length ∧ Aside0 (NewSt W.heap.size wr W.heap.size v ps ns) ∧ Aside0 (Below W.heap.size W wr)) (fun v14 _ => ns.length - (intOf v14).toNat)
  case atStart => exact ⟨0, _, [], rfl, Aside0.mk rfl, Nat.zero_le _, HS0, HB0⟩
  case round =>
    clear HS0 HB0
    obtain ⟨p, v, ps, rfl, HP, hi, HS, HB⟩ := hrel
    by_cases hin : ps.length < ns.length
    · have hlt : decide (p < (ns.length : Int)) = true := decide_eq_true (by rw [HP.out]; omega)
      have hp0 : 0 ≤ p := by rw [HP.out]; omega
      have hp1 : p < (ns.length : Int) := by rw [HP.out]; omega
      have HW : Aside0 (p + 1 = ((ps.length + 1 : Nat) : Int)) := Aside0.mk (by rw [HP.out]; omega)
      obtain ⟨m, hm⟩ : ∃ m, ns[ps.length]? = some m := ⟨_, List.getElem?_eq_getElem hin⟩
      obtain ⟨hm1, hm2⟩ := HM.out m (List.mem_of_getElem? hm)
      obtain ⟨ad, e, hx⟩ := Kd.at_int (Kd.C_below HC.out HB.out) p hp0 hp1
      injection e with e
      subst e
      have hrd : rd (ns.map (fun n : Nat => (n : Int))) p = (m : Int) := by unfold rd; rw [show p.toNat = ps.length by rw [HP.out]; rfl]; simp [List.getD_eq_getElem?_getD, hm]
      rw [hrd] at hx
      have hx : wr.cell? ⟨sb, p.toNat, none⟩ = some (.int .i64 (m : Int)) := by rw [← add_at]; exact hx
      have hmx1 : min (m : Int) 4096 = (m : Int) := by omega
      have hmx2 : max (m : Int) 0 = (m : Int) := by omega
      have HMM := Aside0.mk hm
      obtain ⟨A, c, hv⟩ := Kd.R_slice HS.out.row
      rw [List.length_map] at hv
      subst hv
      clear hrd hm
      go_upto_region 5 with (fail)
      clear hx
      have hdr : Below wr.heap.size wr wr.drew := below_drew1 (Below.refl _ _)
      have HS0 := Aside0.mk (HS.out.below hdr)
      have HBw := Aside0.mk (below_step HB.out hdr)
      have hs0 := HB.out.size
      have K0 : wr.drew.cell? ⟨W.heap.size, 0, none⟩ = some (.slice A ps.length c) := (blk_cell HS0.out.main 0).trans rfl
      refine wp_region_z_drew (S := fun w => w.cell? ⟨W.heap.size, 0, none⟩ = some (.slice A ps.length c)) 17 (by kernel_rfl) K0 (fun hHeld => ?_)
      have hsd : wr.drew.heap.size = wr.heap.size := rfl
      clear K0 hdr HS HB
      generalize wr.drew = w1 at *
      refine wpAnyZ_take (i := 0) (oi := { dst := some 18, op := Op.move (Operand.tmp 3), type := 25, pos := "disk.go:53", after := #[], guard := none }) (v := ?v0) rfl (by kernel_rfl) (by kernel_rfl) (by kernel_rfl) (by kernel_rfl) (by kernel_rfl) (fun _ _ _ h => h) (Or.inl ⟨by rfl, ?y0⟩) (by assumption) ?_
      case y0 => (intro w hSw; (try dsimp only at hSw); go_simp; try with_reducible rfl)
      (try simp only [Act.put, List.setIfInBounds_toArray, List.set_cons_zero, List.set_cons_succ])
      refine wpAnyZ_take (i := 1) (oi := { dst := some 19, op := Op.move (Operand.tmp 3), type := 25, pos := "disk.go:53", after := #[], guard := none }) (v := ?v1) rfl (by kernel_rfl) (by kernel_rfl) (by kernel_rfl) (by kernel_rfl) (by kernel_rfl) (fun _ _ _ h => h) (Or.inl ⟨by rfl, ?y1⟩) (by assumption) ?_
      case y1 => (intro w hSw; (try dsimp only at hSw); go_simp; try with_reducible rfl)
      (try simp only [Act.put, List.setIfInBounds_toArray, List.set_cons_zero, List.set_cons_succ])
      refine wpAnyZ_take (i := 2) (oi := { dst := some 20, op := Op.nilCheck (Operand.tmp 19), type := 0, pos := "disk.go:53", after := #[{ on := 1, ground := Ground.data }], guard := none }) (v := ?v2) rfl (by kernel_rfl) (by kernel_rfl) (by kernel_rfl) (by kernel_rfl) (by kernel_rfl) (fun _ _ _ h => h) (Or.inl ⟨by rfl, ?y2⟩) (by assumption) ?_
      case y2 => (intro w hSw; (try dsimp only at hSw); go_simp; try with_reducible rfl)
      (try simp only [Act.put, List.setIfInBounds_toArray, List.set_cons_zero, List.set_cons_succ])
      refine wpAnyZ_take (i := 3) (oi := { dst := some 21, op := Op.fieldAddr 51 (Operand.tmp 20) 0, type := 0, pos := "disk.go:53", after := #[{ on := 2, ground := Ground.data }], guard := none }) (v := ?v3) rfl (by kernel_rfl) (by kernel_rfl) (by kernel_rfl) (by kernel_rfl) (by kernel_rfl) (fun _ _ _ h => h) (Or.inl ⟨by rfl, ?y3⟩) (by assumption) ?_
      case y3 => (intro w hSw; (try dsimp only at hSw); go_simp; try with_reducible rfl)
      (try simp only [Act.put, List.setIfInBounds_toArray, List.set_cons_zero, List.set_cons_succ])
      refine wpAnyZ_take (i := 4) (oi := { dst := some 22, op := Op.load 46 (Operand.tmp 21), type := 46, pos := "disk.go:53", after := #[{ on := 3, ground := Ground.data }], guard := none }) (v := ?v4) rfl (by kernel_rfl) (by kernel_rfl) (by kernel_rfl) (by kernel_rfl) (by kernel_rfl) (fun _ _ _ h => h) (Or.inl ⟨by rfl, ?y4⟩) (by assumption) ?_
      case y4 => (intro w hSw; (try dsimp only at hSw); go_simp; try with_reducible rfl)
      (try simp only [Act.put, List.setIfInBounds_toArray, List.set_cons_zero, List.set_cons_succ])
      refine wpAnyZ_take (i := 7) (oi := { dst := some 25, op := Op.move (Operand.tmp 5), type := 3, pos := "disk.go:53", after := #[], guard := none }) (v := ?v7) rfl (by kernel_rfl) (by kernel_rfl) (by kernel_rfl) (by kernel_rfl) (by kernel_rfl) (fun _ _ _ h => h) (Or.inl ⟨by rfl, ?y7⟩) (by assumption) ?_
      case y7 => (intro w hSw; (try dsimp only at hSw); go_simp; try with_reducible rfl)
      (try simp only [Act.put, List.setIfInBounds_toArray, List.set_cons_zero, List.set_cons_succ])
      refine wpAnyZ_take (i := 8) (oi := { dst := some 26, op := Op.call { callee := Callee.builtin Builtin.min, args := #[Operand.tmp 25, Operand.const (Value.int IntKind.i64 4096)], argTypes := #[3, 3] }, type := 3, pos := "disk.go:53", after := #[{ on := 7, ground := Ground.data }], guard := none }) (v := ?v8) rfl (by kernel_rfl) (by kernel_rfl) (by kernel_rfl) (by kernel_rfl) (by kernel_rfl) (fun _ _ _ h => h) (Or.inl ⟨by rfl, ?y8⟩) (by assumption) ?_
      case y8 => (intro w hSw; (try dsimp only at hSw); go_simp; try with_reducible rfl)
      (try simp only [Act.put, List.setIfInBounds_toArray, List.set_cons_zero, List.set_cons_succ])
      refine wpAnyZ_take (i := 9) (oi := { dst := some 27, op := Op.call { callee := Callee.builtin Builtin.max, args := #[Operand.const (Value.int IntKind.i64 0), Operand.tmp 26], argTypes := #[3, 3] }, type := 3, pos := "disk.go:53", after := #[{ on := 8, ground := Ground.data }], guard := none }) (v := ?v9) rfl (by kernel_rfl) (by kernel_rfl) (by kernel_rfl) (by kernel_rfl) (by kernel_rfl) (fun _ _ _ h => h) (Or.inl ⟨by rfl, ?y9⟩) (by assumption) ?_
      case y9 => (intro w hSw; (try dsimp only at hSw); go_simp; try with_reducible rfl)
      (try simp only [Act.put, List.setIfInBounds_toArray, List.set_cons_zero, List.set_cons_succ])
      refine wpAnyZ_ready (rs := [5]) (by kernel_rfl) (by simp) ?_
      refine AllReadyZ.cons (o := { dst := some 23, op := Op.call { callee := Callee.value (Operand.func 16), args := #[], argTypes := #[] }, type := 9, pos := "disk.go:53", after := #[], guard := none }) rfl (fun K hK => ?_) AllReadyZ.nil
      (first | (go_at_call 16; go_loud (refine (none_calls w1).mono ?_; rintro e w2 ⟨rfl, hb⟩)) | (go_simp; (go_at_call 16; go_loud (refine (none_calls w1).mono ?_; rintro e w2 ⟨rfl, hb⟩))))
      have HS2 := Aside0.mk (HS0.out.below hb)
      have HB2 := Aside0.mk (below_step HBw.out hb)
      have hs2 := hb.size
      have K2 : w2.cell? ⟨W.heap.size, 0, none⟩ = some (.slice A ps.length c) := (blk_cell HS2.out.main 0).trans rfl
      clear hb
      refine hK.out _ _ K2 (fun hHeld2 => ?_)
      clear hK K hHeld
      have hHeld := hHeld2
      clear hHeld2
      (try simp only [Act.put, List.setIfInBounds_toArray, List.set_cons_zero, List.set_cons_succ])
      refine wpAnyZ_ready (rs := [6]) (by kernel_rfl) (by simp) ?_
      refine AllReadyZ.cons (o := { dst := some 24, op := Op.buildSlice 29 1 #[(0, Operand.tmp 23)], type := 29, pos := "disk.go:53", after := #[{ on := 5, ground := Ground.data }], guard := none }) rfl (fun K hK => ?_) AllReadyZ.nil
      go_simp
      have hb3 := below_alloc (Below.refl w2.heap.size w2) (.cells #[.string (zeros 64)] 9)
      have HS3 := Aside0.mk (HS2.out.below hb3)
      have HB3 := Aside0.mk (below_step HB2.out hb3)
      have hs3 := hb3.size
      have hx3 : (w2.alloc (.cells #[.string (zeros 64)] 9)).cell? ⟨w2.heap.size, 0, none⟩ = some (.string (zeros 64)) := (blk_cell (blk_new w2 _) 0).trans rfl
      have K3 : (w2.alloc (.cells #[.string (zeros 64)] 9)).cell? ⟨W.heap.size, 0, none⟩ = some (.slice A ps.length c) := (blk_cell HS3.out.main 0).trans rfl
      have HRC := Aside0.mk (repeat_calls w2.heap.size 1 m (zeros 64) (w2.alloc (.cells #[.string (zeros 64)] 9)) hx3 hm1 hm2)
      clear hb3 hx3
      refine hK.out _ _ K3 (fun hHeld2 => ?_)
      clear hK K hHeld
      have hHeld := hHeld2
      clear hHeld2
      (try simp only [Act.put, List.setIfInBounds_toArray, List.set_cons_zero, List.set_cons_succ])
      have h30 := HB3.out.size
      generalize w2.alloc (.cells #[.string (zeros 64)] 9) = w3 at *
      refine wpAnyZ_ready (rs := [10]) (by kernel_rfl) (by simp) ?_
      refine AllReadyZ.cons (o := { dst := some 28, op := Op.call { callee := Callee.value (Operand.func 15), args := #[Operand.tmp 24, Operand.tmp 27], argTypes := #[29, 3] }, type := 29, pos := "disk.go:53", after := #[{ on := 6, ground := Ground.data }, { on := 9, ground := Ground.data }, { on := 5, ground := Ground.chain }], guard := none }) rfl (fun K hK => ?_) AllReadyZ.nil
      (first | (go_at_call 15; go_loud (refine HRC.out.mono ?_; rintro e w4 ⟨g, c4, rfl, hg4, hb⟩)) | (go_simp; (go_at_call 15; go_loud (refine HRC.out.mono ?_; rintro e w4 ⟨g, c4, rfl, hg4, hb⟩))))
      have HS4 := Aside0.mk (HS3.out.below hb)
      have HB4 := Aside0.mk (below_step HB3.out hb)
      have hs4 := hb.size
      have HG4 := Aside0.mk hg4
      have K4 : w4.cell? ⟨W.heap.size, 0, none⟩ = some (.slice A ps.length c) := (blk_cell HS4.out.main 0).trans rfl
      clear hb hg4 HRC
      refine hK.out _ _ K4 (fun hHeld2 => ?_)
      clear hK K hHeld
      have hHeld := hHeld2
      clear hHeld2
      (try simp only [Act.put, List.setIfInBounds_toArray, List.set_cons_zero, List.set_cons_succ])
      refine wpAnyZ_ready (rs := [11]) (by kernel_rfl) (by simp) ?_
      refine AllReadyZ.cons (o := { dst := some 29, op := Op.build 57 #[(0, Operand.tmp 28)], type := 57, pos := "disk.go:53", after := #[{ on := 10, ground := Ground.data }], guard := none }) rfl (fun K hK => ?_) AllReadyZ.nil
      go_simp
      refine hK.out _ _ K4 (fun hHeld2 => ?_)
      clear hK K hHeld
      have hHeld := hHeld2
      clear hHeld2
      (try simp only [Act.put, List.setIfInBounds_toArray, List.set_cons_zero, List.set_cons_succ])
      refine wpAnyZ_ready (rs := [12]) (by kernel_rfl) (by simp) ?_
      refine AllReadyZ.cons (o := { dst := some 30, op := Op.box 57 (Operand.tmp 29), type := 52, pos := "disk.go:53", after := #[{ on := 11, ground := Ground.data }], guard := none }) rfl (fun K hK => ?_) AllReadyZ.nil
      go_simp
      have hb5 := below_alloc (Below.refl w4.heap.size w4) (.cells #[.slice (some ⟨g, 0, none⟩) m c4, .slice none 0 0] 57)
      have HS5 := Aside0.mk (HS4.out.below hb5)
      have HB5 := Aside0.mk (below_step HB4.out hb5)
      have hs5 := hb5.size
      have HP5 := Aside0.mk (blk_new w4 (.cells #[.slice (some ⟨g, 0, none⟩) m c4, .slice none 0 0] 57))
      have HG5 := Aside0.mk (Kd.R_lower (Kd.R_below HG4.out hb5) (base' := W.heap.size) (by omega))
      have HGB := Aside0.mk (Kd.R_base HG4.out g rfl)
      have K5 : (w4.alloc (.cells #[.slice (some ⟨g, 0, none⟩) m c4, .slice none 0 0] 57)).cell? ⟨W.heap.size, 0, none⟩ = some (.slice A ps.length c) := (blk_cell HS5.out.main 0).trans rfl
      clear hb5
      refine hK.out _ _ K5 (fun hHeld2 => ?_)
      clear hK K hHeld
      have hHeld := hHeld2
      clear hHeld2
      (try simp only [Act.put, List.setIfInBounds_toArray, List.set_cons_zero, List.set_cons_succ])
      have h50 := HB5.out.size
      generalize w4.alloc (.cells #[.slice (some ⟨g, 0, none⟩) m c4, .slice none 0 0] 57) = w5 at *
      refine wpAnyZ_ready (rs := [13]) (by kernel_rfl) (by simp) ?_
      refine AllReadyZ.cons (o := { dst := some 31, op := Op.buildSlice 46 1 #[(0, Operand.tmp 30)], type := 46, pos := "disk.go:53", after := #[{ on := 12, ground := Ground.data }], guard := none }) rfl (fun K hK => ?_) AllReadyZ.nil
      go_simp
      have hb6 := below_alloc (Below.refl w5.heap.size w5) (.cells #[.pointer (some ⟨w4.heap.size, 0, none⟩)] 52)
      have K6 : (w5.alloc (.cells #[.pointer (some ⟨w4.heap.size, 0, none⟩)] 52)).cell? ⟨W.heap.size, 0, none⟩ = some (.slice A ps.length c) := (blk_cell (HS5.out.below hb6).main 0).trans rfl
      clear hb6
      refine hK.out _ _ K6 (fun hHeld2 => ?_)
      clear hK K hHeld
      have hHeld := hHeld2
      clear hHeld2
      (try simp only [Act.put, List.setIfInBounds_toArray, List.set_cons_zero, List.set_cons_succ])
      refine wpAnyZ_ready (rs := [14]) (by kernel_rfl) (by simp) ?_
      refine AllReadyZ.cons (o := { dst := some 32, op := Op.call { callee := Callee.builtin Builtin.append, args := #[Operand.tmp 22, Operand.tmp 31], argTypes := #[46, 46] }, type := 46, pos := "disk.go:53", after := #[{ on := 4, ground := Ground.data }, { on := 13, ground := Ground.data }, { on := 10, ground := Ground.chain }], guard := none }) rfl (fun K hK => ?_) AllReadyZ.nil
      refine Kd.R_append_step KP (w0 := W) W.heap.size rfl (.tmp 22) (.tmp 31) 46 52 (.pointer none) 8 rfl rfl info52 rfl (by decide) (by decide) (.slice A ps.length c) (ps.map (·.1)) w4.heap.size [.pointer (some ⟨w4.heap.size, 0, none⟩)] (fun _ => True) (fun _ => False) rfl rfl rfl (fun k hk => hk.elim) (fun _ _ => trivial) HS5.out.row HB5.out h50 ?len ?app
      case len => rw [List.length_map]; omega
      case app =>
        intro v7 w7 hR7 hB7 hG7 _
        have HR7 := Aside0.mk hR7
        have HB7 := Aside0.mk hB7
        have HG7 := Aside0.mk hG7
        have K7 : w7.cell? ⟨W.heap.size, 0, none⟩ = some (.slice A ps.length c) := (blk_cell (blk_grown HS5.out.main hG7 (fun e => by
          obtain ⟨c2, hc2⟩ := Kd.R_typed HS5.out.row _ e.symm
          exact blk_ne HS5.out.main hc2 (by decide) rfl)) 0).trans rfl
        obtain ⟨A7, c7, rfl⟩ := Kd.R_slice hR7
        have hsz7 := HG7.out.size
        have Z7 : w7.frozen? ⟨W.heap.size, 0, none⟩ = false := blk_frozen (blk_grown HS5.out.main HG7.out (fun e => by
          obtain ⟨c2, hc2⟩ := Kd.R_typed HS5.out.row _ e.symm
          exact blk_ne HS5.out.main hc2 (by decide) rfl)) 0
        have HS8 := Aside0.mk (NewSt.more HS5.out HMM.out h50 HP5.out HG5.out (fun x hx => by have h := HS4.out.old x hx; have h2 := HS3.out.old x hx; have := HGB.out; omega) (by omega) hR7 HG7.out)
        have HB8 := Aside0.mk (below_set (j := 0) (v := .slice A7 (List.map (fun x => x.fst) ps ++ [w4.heap.size]).length c7) HB7.out (Nat.le_refl _))
        clear hR7 hB7 hG7 HR7 HB7 HG7 HS5 HS4 HS3 HS2 HS0 HP5 HG5 HG4 K2 K3 K4 K5 K6
        have hl8 : (ps ++ [(w4.heap.size, g)]).length = ps.length + 1 := by simp
        refine hK.out _ _ K7 (fun hHeld2 => ?_)
        clear hK K hHeld
        have hHeld := hHeld2
        clear hHeld2
        (try simp only [Act.put, List.setIfInBounds_toArray, List.set_cons_zero, List.set_cons_succ])
        refine wpAnyZ_ready (rs := [15]) (by kernel_rfl) (by simp) ?_
        refine AllReadyZ.cons (o := { dst := some 33, op := Op.nilCheck (Operand.tmp 18), type := 0, pos := "disk.go:53", after := #[{ on := 0, ground := Ground.data }, { on := 0, ground := Ground.phase }, { on := 1, ground := Ground.phase }, { on := 2, ground := Ground.phase }, { on := 3, ground := Ground.phase }, { on := 4, ground := Ground.phase }, { on := 5, ground := Ground.phase }, { on := 6, ground := Ground.phase }, { on := 7, ground := Ground.phase }, { on := 8, ground := Ground.phase }, { on := 9, ground := Ground.phase }, { on := 10, ground := Ground.phase }, { on := 11, ground := Ground.phase }, { on := 12, ground := Ground.phase }, { on := 13, ground := Ground.phase }, { on := 14, ground := Ground.phase }], guard := none }) rfl (fun K hK => ?_) AllReadyZ.nil
        go_simp
        refine hK.out _ _ K7 (fun hHeld2 => ?_)
        clear hK K hHeld
        have hHeld := hHeld2
        clear hHeld2
        (try simp only [Act.put, List.setIfInBounds_toArray, List.set_cons_zero, List.set_cons_succ])
        refine wpAnyZ_ready (rs := [16]) (by kernel_rfl) (by simp) ?_
        refine AllReadyZ.cons (o := { dst := some 34, op := Op.fieldAddr 51 (Operand.tmp 33) 0, type := 0, pos := "disk.go:53", after := #[{ on := 15, ground := Ground.data }, { on := 0, ground := Ground.phase }, { on := 1, ground := Ground.phase }, { on := 2, ground := Ground.phase }, { on := 3, ground := Ground.phase }, { on := 4, ground := Ground.phase }, { on := 5, ground := Ground.phase }, { on := 6, ground := Ground.phase }, { on := 7, ground := Ground.phase }, { on := 8, ground := Ground.phase }, { on := 9, ground := Ground.phase }, { on := 10, ground := Ground.phase }, { on := 11, ground := Ground.phase }, { on := 12, ground := Ground.phase }, { on := 13, ground := Ground.phase }, { on := 14, ground := Ground.phase }], guard := none }) rfl (fun K hK => ?_) AllReadyZ.nil
        go_simp
        refine hK.out _ _ K7 (fun hHeld2 => ?_)
        clear hK K hHeld
        have hHeld := hHeld2
        clear hHeld2
        (try simp only [Act.put, List.setIfInBounds_toArray, List.set_cons_zero, List.set_cons_succ])
        refine wpAnyZ_ready (rs := [17]) (by kernel_rfl) (by simp) ?_
        refine AllReadyZ.last (o := { dst := none, op := Op.store 46 (Operand.tmp 34) (Operand.tmp 32), type := 0, pos := "disk.go:53", after := #[{ on := 16, ground := Ground.data }, { on := 14, ground := Ground.data }, { on := 14, ground := Ground.chain }, { on := 0, ground := Ground.phase }, { on := 1, ground := Ground.phase }, { on := 2, ground := Ground.phase }, { on := 3, ground := Ground.phase }, { on := 4, ground := Ground.phase }, { on := 5, ground := Ground.phase }, { on := 6, ground := Ground.phase }, { on := 7, ground := Ground.phase }, { on := 8, ground := Ground.phase }, { on := 9, ground := Ground.phase }, { on := 10, ground := Ground.phase }, { on := 11, ground := Ground.phase }, { on := 12, ground := Ground.phase }, { on := 13, ground := Ground.phase }, { on := 14, ground := Ground.phase }], guard := none }) rfl (by kernel_rfl) (fun K hK => ?_) AllReadyZ.nil
        go_simp
        refine hK.out _ _ trivial (fun hHeld2 => ?_)
        clear hK K hHeld
        have hHeld := hHeld2
        clear hHeld2
        (try simp only [Act.put, List.setIfInBounds_toArray, List.set_cons_zero, List.set_cons_succ])
        refine wpAnyZ_done (by kernel_rfl) ?_ _
        clear hHeld K7 Z7
        simp only [List.length_append, List.length_map, List.length_cons, List.length_nil, Nat.zero_add] at HS8 HB8 ⊢
        generalize w7.setCell ⟨W.heap.size, 0, none⟩ (.slice A7 (ps.length + 1) c7) = w8 at *
        go_wp2
        go_roundw
        case rel => exact ⟨_, _, ps ++ [(w4.heap.size, g)], rfl, Aside0.mk (by rw [hl8]; exact HW.out), by omega, HS8, HB8⟩
        case measure => have := HW.out; have := HP.out; simp [intOf] at *; omega
    · have hlt : decide (p < (ns.length : Int)) = false := decide_eq_false (by rw [HP.out]; omega)
      obtain ⟨rb, hd⟩ := HS.out.disk (by omega) h1 h8
      have HD := Aside0.mk hd
      have hl : ps.length = ns.length := by omega
      clear hd
      go_wp2
      go_ret
      exact ⟨⟨W.heap.size, rb, ps⟩, rfl, hl, HD.out, HB.out⟩
end Go.Proofs.YtldkgfhngonnfaaDoor.S
namespace Go.Proofs.YtldkgfhngonnfaaDoor.S
open Go.RowKit Go.Proofs.YtldkgfhngonnfaaDoor.PTopStreams Go.Proofs.YtldkgfhngonnfaaDoorW.PrintWords Go.Proofs.YtldkgfhngonnfaaDoorW.PrintLast Go.Proofs.YtldkgfhngonnfaaDoorW.PrintMore
set_option linter.unusedVariables false
set_option linter.unusedSimpArgs false

/-- n in so many bytes, the greatest first. -/
def putL : Nat → Nat → List Int
  | 0, _ => []
  | w + 1, n => ((n / 256 ^ w % 256 : Nat) : Int) :: putL w n
def putB (w n : Nat) : ByteArray := Go.strOfNums (putL w n)
theorem putL_len : ∀ w n, (putL w n).length = w
  | 0, _ => rfl
  | w + 1, n => by simp [putL, putL_len w n]
theorem putB_size (w n : Nat) : (putB w n).size = w := by unfold putB; rw [Go.strOfNums_size, putL_len]
theorem wrap64_in {n : Int} (h0 : -9223372036854775808 ≤ n) (h1 : n < 9223372036854775808) : wrap64 n = n := by unfold wrap64; omega
theorem put_loop (x : Nat) : ∀ (j k : Nat) (xs : List Int), j ≤ 8 → j < k → xs.length + j ≤ 100 → words_Put.l0 k (x : Int) xs ((j : Int) - 1) = some (Go.strOfNums (xs ++ putL j x))
  | 0, k + 1, xs, _, _, _ => by
    simp only [words_Put.l0, putL, List.append_nil]
    rfl
  | j + 1, k + 1, xs, h8, hk, hl => by
    simp only [words_Put.l0]
    have e1 : (((j + 1 : Nat) : Int) - 1) = (j : Int) := by omega
    rw [e1, if_pos (by omega), wrap64_in (n := 8 * (j : Int)) (by omega) (by omega), if_pos (by omega), if_pos (by omega), wrap64_in (n := (j : Int) - 1) (by omega) (by omega), put_loop x j k _ (by omega) (by omega) (by simp; omega)]
    have e2 : shr .u64 (x : Int) (8 * (j : Int)) % 256 = ((x / 256 ^ j % 256 : Nat) : Int) := by
      unfold shr
      have e3 : min (8 * (j : Int)).toNat (IntKind.bits .u64) = 8 * j := by
        show min (8 * (j : Int)).toNat 64 = 8 * j
        omega
      rw [e3]
      have e4 : (2 : Int) ^ (8 * j) = ((256 ^ j : Nat) : Int) := by
        rw [Int.pow_mul]
        norm_cast
      rw [e4, ← Int.natCast_ediv]
      exact (Int.natCast_emod _ 256).symm
    rw [e2, List.append_assoc]
    rfl
theorem put_eq (w n : Nat) (h : w ≤ 8) : words_Put.f 10 (w : Int) (n : Int) = some (putB w n) := by
  unfold words_Put.f
  have e : mx 0 (mn (w : Int) 8) - 1 = (w : Int) - 1 := by unfold mx mn; repeat' split <;> omega
  rw [e, put_loop n w 10 [] h (by omega) (by simp; omega)]
  rfl
/-- A byte of a text. -/
def by1 (s : ByteArray) (i : Nat) : Nat := (bt s (i : Int)).toNat
theorem by1_eq (s : ByteArray) (i : Nat) : by1 s i = (s.data.toList.getD i 0).toNat := by
  unfold by1 bt
  by_cases h : i < s.size
  · rw [dif_pos (by simpa using h)]
    have h2 : i < s.data.toList.length := by rw [Array.length_toList]; exact h
    simp [List.getD_eq_getElem?_getD, List.getElem?_eq_getElem h2, ByteArray.getElem_eq_getElem_data]
  · rw [dif_neg (by simpa using h)]
    have h2 : s.data.toList.length ≤ i := by rw [Array.length_toList]; exact Nat.le_of_not_lt h
    rw [List.getD_eq_getElem?_getD, List.getElem?_eq_none h2]; rfl
theorem by1_lt (s : ByteArray) (i : Nat) : by1 s i < 256 := by have := bt_range s (i : Int); unfold by1; omega
theorem bt_by1 (s : ByteArray) (i : Nat) : bt s (i : Int) = (by1 s i : Int) := by have := bt_range s (i : Int); unfold by1; omega
theorem by1_right (a b : ByteArray) (i : Nat) : by1 (a ++ b) (a.size + i) = by1 b i := by
  rw [by1_eq, by1_eq, ByteArray.data_append, Array.toList_append, List.getD_eq_getElem?_getD, List.getElem?_append_right (by rw [Array.length_toList]; exact Nat.le_add_right _ _), List.getD_eq_getElem?_getD]
  have e : a.size + i - a.data.toList.length = i := by rw [Array.length_toList]; exact Nat.add_sub_cancel_left _ _
  rw [e]
theorem by1_left (a b : ByteArray) (i : Nat) (h : i < a.size) : by1 (a ++ b) i = by1 a i := by
  rw [by1_eq, by1_eq, ByteArray.data_append, Array.toList_append, List.getD_eq_getElem?_getD, List.getElem?_append_left (by rw [Array.length_toList]; exact h), List.getD_eq_getElem?_getD]
/-- The number at a place. -/
def getN (s : ByteArray) (at_ : Nat) : Nat → Nat
  | 0 => 0
  | i + 1 => getN s at_ i * 256 + by1 s (at_ + i)
theorem getN_lt (s : ByteArray) (at_ : Nat) : ∀ i, getN s at_ i < 256 ^ i
  | 0 => by simp [getN]
  | i + 1 => by
    have h := getN_lt s at_ i
    have h2 := by1_lt s (at_ + i)
    simp only [getN, Nat.pow_succ]
    omega
theorem getN_right (a b : ByteArray) (i : Nat) : ∀ w, getN (a ++ b) (a.size + i) w = getN b i w
  | 0 => rfl
  | w + 1 => by simp only [getN]; rw [getN_right a b i w, Nat.add_assoc, by1_right]
theorem getN_left (a b : ByteArray) (i : Nat) : ∀ w, i + w ≤ a.size → getN (a ++ b) i w = getN a i w
  | 0, _ => rfl
  | w + 1, h => by simp only [getN]; rw [getN_left a b i w (by omega), by1_left _ _ _ (by omega)]
theorem putL_get (n : Nat) : ∀ (w i : Nat), i < w → (putL w n).getD i 0 = ((n / 256 ^ (w - 1 - i) % 256 : Nat) : Int)
  | w + 1, 0, _ => by simp [putL]
  | w + 1, i + 1, h => by
    have e : w + 1 - 1 - (i + 1) = w - 1 - i := by omega
    rw [e, ← putL_get n w i (by omega)]
    simp [putL]
theorem by1_put (w n i : Nat) (h : i < w) : by1 (putB w n) i = n / 256 ^ (w - 1 - i) % 256 := by
  have hl := putL_len w n
  have g := putL_get n w i h
  rw [by1_eq]
  unfold putB
  rw [Go.strOfNums_data, List.getD_eq_getElem?_getD, List.getElem?_map]
  rw [List.getD_eq_getElem?_getD] at g
  rw [List.getElem?_eq_getElem (by omega)] at g ⊢
  simp only [Option.map_some, Option.getD_some] at g ⊢
  rw [g, Int.toNat_natCast, UInt8.toNat_ofNat']
  omega
theorem getN_put (w n : Nat) : ∀ i, i ≤ w → getN (putB w n) 0 i = n / 256 ^ (w - i) % 256 ^ i
  | 0, _ => by simp [getN, Nat.mod_one]
  | i + 1, h => by
    simp only [getN]
    rw [getN_put w n i (by omega), Nat.zero_add, by1_put w n i (by omega)]
    have e : w - i = (w - 1 - i) + 1 := by omega
    have e2 : w - (i + 1) = w - 1 - i := by omega
    rw [e, e2, Nat.pow_succ 256 (w - 1 - i), ← Nat.div_div_eq_div_mul, Nat.pow_succ 256 i, Nat.mul_comm (256 ^ i) 256, Nat.mod_mul]
    omega
theorem get_put (w n : Nat) (h : n < 256 ^ w) : getN (putB w n) 0 w = n := by
  rw [getN_put w n w (Nat.le_refl _), Nat.sub_self]
  simp [Nat.mod_eq_of_lt h]
theorem get_loop (s : ByteArray) (at_ w : Nat) (hw : w ≤ 7) (hs : at_ + w ≤ s.size) (hb : s.size < 1000000000000) : ∀ (j i k : Nat), i + j = w → j < k → words_Get.l0 k s (at_ : Int) (w : Int) (getN s at_ i : Int) (w : Int) (i : Int) = some ((getN s at_ w : Int), ((at_ + w : Nat) : Int), 0)
  | 0, i, k + 1, h, _ => by
    obtain rfl : i = w := by omega
    simp only [words_Get.l0]
    rw [if_neg (by omega), wrap64_in (by omega) (by omega)]
    norm_cast
  | j + 1, i, k + 1, h, hk => by
    simp only [words_Get.l0]
    rw [if_pos (by omega), wrap64_in (n := (at_ : Int) + (i : Int)) (by omega) (by omega), if_pos (by omega), if_pos (by omega), wrap64_in (n := (i : Int) + 1) (by omega) (by omega)]
    have hg := getN_lt s at_ i
    have hp : (256 : Nat) ^ i ≤ 256 ^ 6 := Nat.pow_le_pow_right (by decide) (by omega)
    have hb1 := by1_lt s (at_ + i)
    have e0 : (256 : Nat) ^ 6 = 281474976710656 := by decide
    have e1 : ((at_ : Int) + (i : Int)) = ((at_ + i : Nat) : Int) := by omega
    have e2 : IntKind.u64.wrap ((getN s at_ i : Int) * 256) = ((getN s at_ i * 256 : Nat) : Int) := by
      show ((getN s at_ i : Int) * 256) % 18446744073709551616 = _
      omega
    have e3 : IntKind.u64.wrap (bt s ((at_ + i : Nat) : Int)) = ((by1 s (at_ + i) : Nat) : Int) := by
      rw [bt_by1]
      show (by1 s (at_ + i) : Int) % 18446744073709551616 = _
      omega
    rw [e1, e2, e3, Go.bits_or_u64_nat _ _ (by omega) (by omega)]
    have e4 : getN s at_ i * 256 ||| by1 s (at_ + i) = getN s at_ (i + 1) := by
      have h3 := Nat.two_pow_add_eq_or_of_lt (i := 8) hb1 (getN s at_ i)
      simp only [getN]
      rw [show (2 : Nat) ^ 8 = 256 from rfl] at h3
      rw [Nat.mul_comm _ 256, ← h3]
    rw [e4]
    have := get_loop s at_ w hw hs hb j (i + 1) k (by omega) (by omega)
    rw [show ((i : Int) + 1) = ((i + 1 : Nat) : Int) by omega]
    exact this
theorem get_eq (s : ByteArray) (at_ w : Nat) (h1 : 1 ≤ w) (h7 : w ≤ 7) (hs : at_ + w ≤ s.size) (hb : s.size < 1000000000000) : words_Get.f 12 s (at_ : Int) (w : Int) = some ((getN s at_ w : Int), ((at_ + w : Nat) : Int), 0) := by
  unfold words_Get.f
  rw [if_neg (by omega), if_neg (by omega), if_neg (by omega), decide_eq_false (by omega)]
  simp only [words_Get.j0]
  rw [if_neg (by simp), wrap64_in (by omega) (by omega), if_neg (by omega)]
  exact get_loop s at_ w h7 hs hb w 0 11 (by omega) (by omega)
theorem get_short (s : ByteArray) (at_ w : Nat) (h1 : 1 ≤ w) (h7 : w ≤ 7) (ha : at_ ≤ s.size) (hs : s.size < at_ + w) (hb : s.size < 1000000000000) : words_Get.f 12 s (at_ : Int) (w : Int) = some (0, 0, 3) := by
  unfold words_Get.f
  rw [if_neg (by omega), if_neg (by omega), if_neg (by omega), decide_eq_false (by omega)]
  simp only [words_Get.j0]
  rw [if_neg (by simp), wrap64_in (by omega) (by omega), if_pos (by omega)]
end Go.Proofs.YtldkgfhngonnfaaDoor.S
namespace Go.Proofs.YtldkgfhngonnfaaDoor.S
open Go.RowKit Go.Proofs.YtldkgfhngonnfaaDoor.PTopStreams Go.Proofs.YtldkgfhngonnfaaDoorW.PrintWords Go.Proofs.YtldkgfhngonnfaaDoorW.PrintLast Go.Proofs.YtldkgfhngonnfaaDoorW.PrintMore
set_option linter.unusedVariables false
set_option linter.unusedSimpArgs false
/-- A bit of the check sum; eight; a byte; all bytes. -/
def rnd (c : Int) : Int := bits .xor .u32 (c / 2) (bits .and .u32 2197175160 (-bits .and .u32 c 1 % 4294967296))
def rnds (c : Int) : Nat → Int
  | 0 => c
  | n + 1 => rnd (rnds c n)
def sumTo (s : ByteArray) : Nat → Int
  | 0 => 4294967295
  | i + 1 => rnds (bits .xor .u32 (sumTo s i) (bt s (i : Int) % 4294967296)) 8
def sumC (s : ByteArray) : Int := bits .xor .u32 IntKind.u32.max (sumTo s s.size)
set_option maxHeartbeats 8000000 in
set_option maxRecDepth 100000 in
theorem sum_calls0 (s : ByteArray) (hs : s.size < 1000000000000) (W : World) : Calls Tryd.prog 48 #[.string s] W fun e w' => e = .returned (.int .u32 (sumC s)) ∧ W = w' := by
  go_enter Tryd.func48, Tryd.ntmps48
  go_wp2
  go_loopw [3, 7] (fun v3 v7 wr => ∃ (c p : Int) (i : Nat), v3 = .int .u32 c ∧ v7 = .int .i64 p ∧ Aside0 (c = sumTo s i) ∧ Aside0 (p = (i : Int)) ∧ i ≤ s.size ∧ W = wr) (fun _ v7 _ => s.size - (intOf v7).toNat)
  case atStart => exact ⟨_, 0, 0, rfl, rfl, Aside0.mk rfl, Aside0.mk rfl, Nat.zero_le _, rfl⟩
  case round =>
    obtain ⟨c, p, i, rfl, rfl, HC, HP, hi, rfl⟩ := hrel
    by_cases hin : i < s.size
    · have hlt : decide (p < (s.size : Int)) = true := decide_eq_true (by rw [HP.out]; omega)
      have hp0 : 0 ≤ p := by rw [HP.out]; omega
      have hp1 : p < (s.size : Int) := by rw [HP.out]; omega
      go_upto_region 6 with (fail)
      simp only [bt_at]
      obtain ⟨c0, hc0⟩ : ∃ c0, c0 = bits .xor .u32 c (bt s p % 4294967296) := ⟨_, rfl⟩
      rw [← hc0]
      have HC0 : Aside0 (c0 = bits .xor .u32 (sumTo s i) (bt s (i : Int) % 4294967296)) := Aside0.mk (by rw [hc0, HC.out, HP.out])
      clear hc0
      generalize bt s p = bb at *
      generalize bits .xor .u32 c (bb % 4294967296) = cc at *
      go_wp2
      go_loopw [3, 16] (fun v3 v16 wr => ∃ (c q : Int) (i : Nat), v3 = .int .u32 c ∧ v16 = .int .i64 q ∧ Aside0 (c = rnds c0 i) ∧ Aside0 (q = (i : Int)) ∧ i ≤ 8 ∧ W = wr) (fun _ v16 _ => 8 - (intOf v16).toNat)
      case atStart => exact ⟨_, 0, 0, rfl, rfl, Aside0.mk rfl, Aside0.mk rfl, Nat.zero_le _, rfl⟩
      case round =>
        obtain ⟨c2, q, j, rfl, rfl, HK, HQ, hj, rfl⟩ := hrel
        by_cases hjn : j < 8
        · have hlt2 : decide (q < 8) = true := decide_eq_true (by rw [HQ.out]; omega)
          have hq0 : 0 ≤ q := by rw [HQ.out]; omega
          have hq1 : q < 8 := by rw [HQ.out]; omega
          go_wp2
          exact ⟨⟨_, _, j + 1, rfl, rfl, Aside0.mk (by rw [HK.out]; rfl), Aside0.mk (by have := HQ.out; omega), by omega, trivial⟩, by simp [intOf]; omega⟩
        · have hlt2 : decide (q < 8) = false := decide_eq_false (by rw [HQ.out]; omega)
          have H8 : Aside0 (c2 = sumTo s (i + 1)) := Aside0.mk (by
            obtain rfl : j = 8 := by omega
            rw [HK.out, HC0.out]; rfl)
          go_wp2
          exact ⟨⟨_, _, i + 1, rfl, rfl, H8, Aside0.mk (by have := HP.out; omega), by omega, trivial⟩, by simp [intOf]; omega⟩
    · have hlt : decide (p < (s.size : Int)) = false := decide_eq_false (by rw [HP.out]; omega)
      have HE : Aside0 (bits .xor .u32 IntKind.u32.max c = sumC s) := Aside0.mk (by
        obtain rfl : i = s.size := by omega
        rw [HC.out]; rfl)
      go_wp2
      go_ret
      exact ⟨by rw [HE.out]; rfl, rfl⟩
def sumN (s : ByteArray) : Nat := (sumC s).toNat
theorem sumC_eq (s : ByteArray) : sumC s = (sumN s : Int) ∧ sumN s < 4294967296 := by
  have h : 0 ≤ sumC s ∧ sumC s < 4294967296 := by
    unfold sumC bits
    exact ⟨Int.emod_nonneg _ (by decide), Int.emod_lt_of_pos _ (by decide)⟩
  unfold sumN
  omega
theorem sum_calls (s : ByteArray) (hs : s.size < 1000000000000) (W : World) : Calls Tryd.prog 48 #[.string s] W fun e w' => e = .returned (.int .u32 (sumN s : Int)) ∧ W = w' := by
  rw [← (sumC_eq s).1]
  exact sum_calls0 s hs W
end Go.Proofs.YtldkgfhngonnfaaDoor.S
namespace Go.Proofs.YtldkgfhngonnfaaDoor.S
open Go.RowKit Go.Proofs.YtldkgfhngonnfaaDoor.PTopStreams Go.Proofs.YtldkgfhngonnfaaDoorW.PrintWords Go.Proofs.YtldkgfhngonnfaaDoorW.PrintLast Go.Proofs.YtldkgfhngonnfaaDoorW.PrintMore
set_option linter.unusedVariables false
set_option linter.unusedSimpArgs false
theorem put1 (n : Nat) : words_Put.f 10 1 (n : Int) = some (putB 1 n) := put_eq 1 n (by decide)
theorem put2 (n : Nat) : words_Put.f 10 2 (n : Int) = some (putB 2 n) := put_eq 2 n (by decide)
theorem put4 (n : Nat) : words_Put.f 10 4 (n : Int) = some (putB 4 n) := put_eq 4 n (by decide)
theorem put6 (n : Nat) : words_Put.f 10 6 (n : Int) = some (putB 6 n) := put_eq 6 n (by decide)
/-- The frame of a body. -/
def frm (b : ByteArray) : ByteArray := putB 2 b.size ++ putB 4 (sumN (putB 2 b.size ++ b)) ++ b
theorem frm_size (b : ByteArray) : (frm b).size = 6 + b.size := by
  unfold frm
  rw [ByteArray.size_append, ByteArray.size_append, putB_size, putB_size]
set_option maxHeartbeats 8000000 in
set_option maxRecDepth 100000 in
theorem fput_calls (b : ByteArray) (h1 : 1 ≤ b.size) (h2 : b.size ≤ 4096) (W : World) : Calls Tryd.prog 29 #[.string b] W fun e w' => e = .returned (.tuple #[.string (frm b), .int .i64 0]) ∧ Below W.heap.size W w' := by
  have hne : b.toList.isEmpty = false := by
    rw [Lib.toList_data]
    cases h : b.data.toList with
    | nil =>
      have e : b.data.toList.length = b.size := by rw [Array.length_toList]; rfl
      rw [h] at e
      simp at e; omega
    | cons _ _ => rfl
  have hz1 : ¬ 9223372036854775807 < (putB 2 b.size).size + b.size := by rw [putB_size]; omega
  have hz2 : ¬ 9223372036854775807 < (putB 2 b.size).size + (putB 4 (sumN (putB 2 b.size ++ b))).size := by rw [putB_size, putB_size]; omega
  have hz3 : ¬ 9223372036854775807 < (putB 2 b.size ++ putB 4 (sumN (putB 2 b.size ++ b))).size + b.size := by rw [ByteArray.size_append, putB_size, putB_size]; omega
  have hp2 := put2 b.size
  have hle : decide ((4096 : Int) < (b.size : Int)) = false := decide_eq_false (by omega)
  have HS := Aside0.mk (fun w => sum_calls (putB 2 b.size ++ b) (by rw [ByteArray.size_append, putB_size]; omega) w)
  have HN := sumC_eq (putB 2 b.size ++ b)
  have HE : Aside0 (putB 2 b.size ++ putB 4 (sumN (putB 2 b.size ++ b)) ++ b = frm b) := Aside0.mk rfl
  have hn1 := HN.2
  clear HN
  generalize sumN (putB 2 b.size ++ b) = sn at *
  generalize putB 2 b.size = b2 at *
  have hp4 := put4 sn
  generalize putB 4 sn = b4 at *
  go_enter Tryd.func29, Tryd.ntmps29
  have hb0 := Below.refl W.heap.size W
  go_wp2_with (first | (go_at_call 47; go_loud (refine (words_Put.calls 10 _ _ _ _ (by first | with_reducible exact hp2 | with_reducible exact hp4)).mono ?_; rintro e w2 ⟨rfl, hb⟩)) | (go_at_call 48; go_loud (refine (HS.out _).mono ?_; rintro e w4 ⟨rfl, rfl⟩)))
  · rw [HE.out]
    go_ret2
    exact ⟨rfl, below_step (by assumption) hb⟩
theorem get2 (s : ByteArray) (at_ : Nat) (hs : at_ + 2 ≤ s.size) (hb : s.size < 1000000000000) : words_Get.f 12 s (at_ : Int) 2 = some ((getN s at_ 2 : Int), ((at_ + 2 : Nat) : Int), 0) := get_eq s at_ 2 (by decide) (by decide) hs hb
theorem get4 (s : ByteArray) (at_ : Nat) (hs : at_ + 4 ≤ s.size) (hb : s.size < 1000000000000) : words_Get.f 12 s (at_ : Int) 4 = some ((getN s at_ 4 : Int), ((at_ + 4 : Nat) : Int), 0) := get_eq s at_ 4 (by decide) (by decide) hs hb
theorem get2s (s : ByteArray) (at_ : Nat) (ha : at_ ≤ s.size) (hs : s.size < at_ + 2) (hb : s.size < 1000000000000) : words_Get.f 12 s (at_ : Int) 2 = some (0, 0, 3) := get_short s at_ 2 (by decide) (by decide) ha hs hb
/-- The frame at a place. -/
def getF (s : ByteArray) (at_ : Nat) : Option (ByteArray × Nat) :=
  if s.size < at_ + 2 then none
  else if getN s at_ 2 = 0 then none
  else if 4096 < getN s at_ 2 then none
  else if s.size < at_ + (6 + getN s at_ 2) then none
  else if getN s (at_ + 2) 4 = sumN (s.extract at_ (at_ + 2) ++ s.extract (at_ + 6) (at_ + 6 + getN s at_ 2)) then some (s.extract (at_ + 6) (at_ + 6 + getN s at_ 2), at_ + 6 + getN s at_ 2)
  else none
def GetPost (s : ByteArray) (at_ : Nat) (e : Ending) : Prop := match getF s at_ with
  | some (b, n) => e = .returned (.tuple #[.string b, .int .i64 (n : Int), .int .i64 0])
  | none => ∃ k : Int, k ≠ 0 ∧ e = .returned (.tuple #[.string ⟨#[]⟩, .int .i64 0, .int .i64 k])
set_option maxHeartbeats 8000000 in
set_option maxRecDepth 100000 in
theorem fget_calls (s : ByteArray) (at_ : Nat) (p : Int) (hp : p = (at_ : Int)) (ha : at_ ≤ s.size) (hs : s.size < 1000000000000) (W : World) : Calls Tryd.prog 40 #[.string s, .int .i64 p] W fun e w' => GetPost s at_ e ∧ Below W.heap.size W w' := by
  by_cases c1 : s.size < at_ + 2
  · have HP : Aside0 (∀ k : Int, k ≠ 0 → GetPost s at_ (.returned (.tuple #[.string ⟨#[]⟩, .int .i64 0, .int .i64 k]))) := Aside0.mk (fun k hk => by unfold GetPost getF; rw [if_pos c1]; exact ⟨k, hk, rfl⟩)
    have hg := get2s s at_ ha c1 hs
    rw [← hp] at hg
    clear c1 hp
    go_enter Tryd.func40, Tryd.ntmps40
    go_wp2_with (go_at_call 38; go_loud (refine (words_Get.calls 12 _ _ _ _ _ _ _ hg).mono ?_; rintro e w2 ⟨rfl, hd⟩))
    go_ret3
    exact ⟨HP.out 3 (by decide), hd.below⟩
  · have hg := get2 s at_ (by omega) hs
    have hg4 : s.size < at_ + 6 ∨ words_Get.f 12 s (p + 2) 4 = some ((getN s (at_ + 2) 4 : Int), p + 6, 0) := by
      by_cases h : s.size < at_ + 6
      · exact Or.inl h
      · have := get4 s (at_ + 2) (by omega) hs
        rw [show ((at_ + 2 : Nat) : Int) = p + 2 by omega, show ((at_ + 2 + 4 : Nat) : Int) = p + 6 by omega] at this
        exact Or.inr this
    have HN : GetPost s at_ = fun e => match (if getN s at_ 2 = 0 then none
        else if 4096 < getN s at_ 2 then none
        else if s.size < at_ + (6 + getN s at_ 2) then none
        else if getN s (at_ + 2) 4 = sumN (s.extract at_ (at_ + 2) ++ s.extract (at_ + 6) (at_ + 6 + getN s at_ 2)) then some (s.extract (at_ + 6) (at_ + 6 + getN s at_ 2), at_ + 6 + getN s at_ 2)
        else none : Option (ByteArray × Nat)) with
      | some (b, n) => e = .returned (.tuple #[.string b, .int .i64 (n : Int), .int .i64 0])
      | none => ∃ k : Int, k ≠ 0 ∧ e = .returned (.tuple #[.string ⟨#[]⟩, .int .i64 0, .int .i64 k]) := by
      funext e; unfold GetPost getF; rw [if_neg c1]
    rw [HN]
    clear HN
    rw [show ((at_ + 2 : Nat) : Int) = p + 2 by omega, ← hp] at hg
    generalize getN s at_ 2 = n at *
    have hg4l := getN_lt s (at_ + 2) 4
    generalize getN s (at_ + 2) 4 = g4 at *
    obtain ⟨m, hm⟩ : ∃ m : Int, m = (n : Int) := ⟨_, rfl⟩
    rw [← hm] at hg
    have hp0 : 0 ≤ p := by omega
    have hp1 : p ≤ (s.size : Int) := by omega
    have hss : (s.size : Int) < 1000000000000 := by omega
    by_cases c2 : n = 0
    · rw [if_pos c2]
      obtain rfl : m = 0 := by omega
      clear c1 hp hm c2 hg4
      go_enter Tryd.func40, Tryd.ntmps40
      go_wp2_with (go_at_call 38; go_loud (refine (words_Get.calls 12 _ _ _ _ _ _ _ hg).mono ?_; rintro e w2 ⟨rfl, hd⟩))
      go_ret3
      exact ⟨⟨13, by decide, rfl⟩, hd.below⟩
    · rw [if_neg c2]
      have hm0 : 0 < m := by omega
      have e2 : (m == 0) = false := by rw [beq_eq_false_iff_ne]; omega
      by_cases c3 : 4096 < n
      · rw [if_pos c3]
        have e3 : decide ((4096 : Int) < m) = true := decide_eq_true (by omega)
        clear c1 hp hm c2 c3 hg4
        go_enter Tryd.func40, Tryd.ntmps40
        go_wp2_with (go_at_call 38; go_loud (refine (words_Get.calls 12 _ _ _ _ _ _ _ hg).mono ?_; rintro e w2 ⟨rfl, hd⟩))
        go_ret3
        exact ⟨⟨5, by decide, rfl⟩, hd.below⟩
      · rw [if_neg c3]
        have e3 : decide ((4096 : Int) < m) = false := decide_eq_false (by omega)
        have hm1 : m ≤ 4096 := by omega
        by_cases c4 : s.size < at_ + (6 + n)
        · rw [if_pos c4]
          have e4 : decide ((s.size : Int) - p < 6 + m) = true := decide_eq_true (by omega)
          clear c1 hp hm c2 c3 c4 hg4
          go_enter Tryd.func40, Tryd.ntmps40
          go_wp2_with (go_at_call 38; go_loud (refine (words_Get.calls 12 _ _ _ _ _ _ _ hg).mono ?_; rintro e w2 ⟨rfl, hd⟩))
          go_ret3
          exact ⟨⟨3, by decide, rfl⟩, hd.below⟩
        · rw [if_neg c4]
          have e4 : decide ((s.size : Int) - p < 6 + m) = false := decide_eq_false (by omega)
          replace hg4 := hg4.resolve_left (by omega)
          have hk1 : p + 6 + m ≤ (s.size : Int) := by omega
          have HX : Aside0 (s.extract at_ (at_ + 2) = s.extract p.toNat (p + 2).toNat ∧ s.extract (at_ + 6) (at_ + 6 + n) = s.extract (p + 6).toNat (p + 6 + m).toNat ∧ ((at_ + 6 + n : Nat) : Int) = p + 6 + m) := Aside0.mk (by
            refine ⟨?_, ?_, by omega⟩
            · congr 1 <;> omega
            · congr 1 <;> omega)
          rw [HX.out.1, HX.out.2.1]
          have HX3 := Aside0.mk HX.out.2.2
          have HS := Aside0.mk (fun w => sum_calls (s.extract p.toNat (p + 2).toNat ++ s.extract (p + 6).toNat (p + 6 + m).toNat) (by rw [ByteArray.size_append, ByteArray.size_extract, ByteArray.size_extract]; omega) w)
          have hsn := (sumC_eq (s.extract p.toNat (p + 2).toNat ++ s.extract (p + 6).toNat (p + 6 + m).toNat)).2
          have hz : ¬ 9223372036854775807 < (s.extract p.toNat (p + 2).toNat).size + (s.extract (p + 6).toNat (p + 6 + m).toNat).size := by rw [ByteArray.size_extract, ByteArray.size_extract]; omega
          clear HX c1 hp hm c2 c3 c4
          obtain ⟨t1, ht1⟩ : ∃ t1, t1 = s.extract p.toNat (p + 2).toNat := ⟨_, rfl⟩
          obtain ⟨t2, ht2⟩ : ∃ t2, t2 = s.extract (p + 6).toNat (p + 6 + m).toNat := ⟨_, rfl⟩
          rw [← ht1, ← ht2] at HS hsn hz
          rw [← ht1, ← ht2]
          replace ht1 := ht1.symm
          replace ht2 := ht2.symm
          generalize sumN (t1 ++ t2) = sn at *
          have hu9 := Tryd.underlying9
          obtain ⟨p2, hp2⟩ : ∃ x, p + 2 = x := ⟨_, rfl⟩
          obtain ⟨p6, hp6⟩ : ∃ x, p + 6 = x := ⟨_, rfl⟩
          rw [hp2] at hg hg4 ht1
          rw [hp6] at hg4 ht2 hk1
          rw [hp6] at HX3
          obtain ⟨q, hq⟩ : ∃ x, p6 + m = x := ⟨_, rfl⟩
          rw [hq] at ht2 hk1 HX3
          have s0 : 0 ≤ p6 := by omega
          have s1 : p6 ≤ q := by omega
          have s2 : p ≤ p2 := by omega
          have s3 : p2 ≤ (s.size : Int) := by omega
          have s4 : p6 ≤ (s.size : Int) := by omega
          have e5 : (g4 : Int) % 4294967296 = (g4 : Int) := Int.emod_eq_of_lt (by omega) (by
            have : g4 < 4294967296 := hg4l
            omega)
          clear hg4l
          by_cases c5 : g4 = sn
          · subst c5
            rw [if_pos rfl]
            go_enter Tryd.func40, Tryd.ntmps40
            go_wp2_with (first | (go_at_call 38; go_loud (refine (words_Get.calls 12 _ _ _ _ _ _ _ (by with_reducible exact hg)).mono ?_; rintro e w2 ⟨rfl, hd'⟩)) | (go_at_call 38; go_loud (refine (words_Get.calls 12 _ _ _ _ _ _ _ (by with_reducible exact hg4)).mono ?_; rintro e w3 ⟨rfl, hd⟩)) | (go_at_call 48; go_loud (refine (HS.out _).mono ?_; rintro e w4 ⟨rfl, rfl⟩)))
            · rw [HX3.out]
              go_ret3
              exact ⟨rfl, below_step hd'.below hd.below⟩
          · rw [if_neg c5]
            have e6 : ((g4 : Int) != (sn : Int)) = true := by rw [bne_iff_ne]; omega
            clear c5 hsn
            generalize (g4 : Int) = y4 at *
            generalize (sn : Int) = ys at *
            go_enter Tryd.func40, Tryd.ntmps40
            go_wp2_with (first | (go_at_call 38; go_loud (refine (words_Get.calls 12 _ _ _ _ _ _ _ (by with_reducible exact hg)).mono ?_; rintro e w2 ⟨rfl, hd'⟩)) | (go_at_call 38; go_loud (refine (words_Get.calls 12 _ _ _ _ _ _ _ (by with_reducible exact hg4)).mono ?_; rintro e w3 ⟨rfl, hd⟩)) | (go_at_call 48; go_loud (refine (HS.out _).mono ?_; rintro e w4 ⟨rfl, rfl⟩)))
            · go_ret3
              exact ⟨⟨6, by decide, rfl⟩, below_step hd'.below hd.below⟩
end Go.Proofs.YtldkgfhngonnfaaDoor.S
namespace Go.Proofs.YtldkgfhngonnfaaDoor.S
open Go.RowKit Go.Proofs.YtldkgfhngonnfaaDoor.PTopStreams Go.Proofs.YtldkgfhngonnfaaDoorW.PrintWords Go.Proofs.YtldkgfhngonnfaaDoorW.PrintLast Go.Proofs.YtldkgfhngonnfaaDoorW.PrintMore
set_option linter.unusedVariables false
set_option linter.unusedSimpArgs false
theorem getF_next {s : ByteArray} {n n' : Nat} {b : ByteArray} (h : getF s n = some (b, n')) : n + 7 ≤ n' ∧ n' ≤ s.size := by
  unfold getF at h
  repeat' split at h
  all_goals first
    | (cases h; done)
    | (simp only [Option.some.injEq, Prod.mk.injEq] at h; omega)
/-- The bodies of the frames from a place on. -/
def allF (s : ByteArray) : Nat → Nat → List ByteArray
  | 0, _ => []
  | k + 1, n => match getF s n with
    | some (b, n') => b :: allF s k n'
    | none => []
theorem allF_fuel (s : ByteArray) : ∀ (k k' n : Nat), s.size < n + k → s.size < n + k' → n ≤ s.size → allF s k n = allF s k' n
  | 0, _, n, h, _, hn => by omega
  | _, 0, n, _, h, hn => by omega
  | k + 1, k' + 1, n, h, h', hn => by
    simp only [allF]
    cases hg : getF s n with
    | none => rfl
    | some x =>
      obtain ⟨b, n'⟩ := x
      obtain ⟨h1, h2⟩ := getF_next hg
      simp only
      rw [allF_fuel s k k' n' (by omega) (by omega) h2]
def framesF (s : ByteArray) (n : Nat) : List ByteArray := allF s (s.size + 1) n
theorem framesF_some {s : ByteArray} {n n' : Nat} {b : ByteArray} (hn : n ≤ s.size) (h : getF s n = some (b, n')) : framesF s n = b :: framesF s n' := by
  obtain ⟨h1, h2⟩ := getF_next h
  have e : allF s (s.size + 1) n' = allF s s.size n' := allF_fuel s _ _ n' (by omega) (by omega) h2
  unfold framesF
  rw [e]
  show (match getF s n with
    | some (b, n') => b :: allF s s.size n'
    | none => []) = _
  rw [h]
theorem framesF_none {s : ByteArray} {n : Nat} (h : getF s n = none) : framesF s n = [] := by
  unfold framesF
  simp only [allF, h]
set_option maxHeartbeats 8000000 in
set_option maxRecDepth 100000 in
theorem fall_calls (s : ByteArray) (hs : s.size < 1000000000) (W : World) : Calls Tryd.prog 24 #[.string s] W fun e w' => ∃ v n, e = .returned (.tuple #[v, .int .i64 n]) ∧ Kd.R Kd.string 9 w' W.heap.size (fun _ => True) v (framesF s 0) ∧ Below W.heap.size W w' := by
  have hu9 := Tryd.underlying9
  have HR0 := Aside0.mk (Kd.R_nil Kd.string 9 W W.heap.size (fun _ => True))
  have HB0 := Aside0.mk (Below.refl W.heap.size W)
  go_enter Tryd.func24, Tryd.ntmps24
  go_wp2
  go_loopw [4, 5] (fun v4 v5 wr => ∃ (p : Int) (n : Nat) (xs : List ByteArray), v5 = .int .i64 p ∧ Aside0 (p = (n : Int)) ∧ n ≤ s.size ∧ Aside0 (xs.length ≤ n) ∧ Aside0 (framesF s 0 = xs ++ framesF s n) ∧ Aside0 (Kd.R Kd.string 9 wr W.heap.size (fun _ => True) v4 xs) ∧ Aside0 (Below W.heap.size W wr)) (fun _ v5 _ => s.size - (intOf v5).toNat)
  case atStart => exact ⟨0, 0, [], rfl, Aside0.mk rfl, Nat.zero_le _, Aside0.mk (Nat.zero_le _), Aside0.mk rfl, HR0, HB0⟩
  case round =>
    clear HR0 HB0
    obtain ⟨p, n, xs, rfl, HP, hn, HL, HE, HR, HB⟩ := hrel
    obtain ⟨A, c, rfl⟩ := Kd.R_slice HR.out
    cases hg : getF s n with
    | none =>
      have HG : Aside0 (Calls Tryd.prog 40 #[.string s, .int .i64 p] wr fun e w' => (∃ k : Int, k ≠ 0 ∧ e = .returned (.tuple #[.string ⟨#[]⟩, .int .i64 0, .int .i64 k])) ∧ Below wr.heap.size wr w') := Aside0.mk ((fget_calls s n p HP.out hn (by omega) wr).mono (by
        rintro e w' ⟨h, hb⟩
        unfold GetPost at h
        rw [hg] at h
        exact ⟨h, hb⟩))
      have HX : Aside0 (framesF s 0 = xs) := Aside0.mk (by rw [HE.out, framesF_none hg, List.append_nil])
      clear hg
      go_wp2_with (first | (go_at_call 40; go_loud (refine HG.out.mono ?_; rintro e w2 ⟨⟨k, hk, rfl⟩, hb⟩; have hk2 : (k != 0) = true := (by rw [bne_iff_ne]; exact hk); have HR2 := Aside0.mk (Kd.R_below HR.out (hb)); have HB2 := Aside0.mk (below_step HB.out hb); clear hb hk)))
      go_ret2
      exact ⟨_, _, rfl, by rw [HX.out]; exact HR2.out, HB2.out⟩
    | some x =>
      obtain ⟨b, n'⟩ := x
      obtain ⟨h7, h8⟩ := getF_next hg
      obtain ⟨q, hq⟩ : ∃ q : Int, q = (n' : Int) := ⟨_, rfl⟩
      have HG : Aside0 (Calls Tryd.prog 40 #[.string s, .int .i64 p] wr fun e w' => e = .returned (.tuple #[.string b, .int .i64 q, .int .i64 0]) ∧ Below wr.heap.size wr w') := Aside0.mk ((fget_calls s n p HP.out hn (by omega) wr).mono (by
        rintro e w' ⟨h, hb⟩
        unfold GetPost at h
        rw [hg] at h
        rw [hq]
        exact ⟨h, hb⟩))
      have HX : Aside0 (framesF s 0 = (xs ++ [b]) ++ framesF s n') := Aside0.mk (by rw [HE.out, framesF_some hn hg, List.append_assoc]; rfl)
      have HQ := Aside0.mk hq
      have HL2 : Aside0 ((xs ++ [b]).length ≤ n') := Aside0.mk (by have := HL.out; simp; omega)
      have HLB : Aside0 ((xs.length + 1) * 16 ≤ 140737488355328) := Aside0.mk (by have := HL.out; omega)
      have hN : W.heap.size ≤ wr.heap.size := HB.out.size
      clear hg hq
      go_upto_region 6 with (first | (go_at_call 40; go_loud (refine HG.out.mono ?_; rintro e w2 ⟨rfl, hb⟩; have HR2 := Aside0.mk (Kd.R_below HR.out (hb)); have HB2 := Aside0.mk (below_step HB.out hb); have hN2 := HB2.out.size; clear hb)))
      clear HR HB
      go_wp2_with (first | ((with_reducible refine gate_dst (N := 23) rfl ?_); go_loud (refine Kd.R_append Kd.string (w0 := W) (W := w2) W.heap.size rfl (.tmp 20) (.tmp 22) 29 9 (.string ⟨#[]⟩) 16 rfl Tryd.underlying29 info9 rfl (by decide) (by decide) (.slice A xs.length c) xs b [.string b] (fun _ => True) (fun _ => False) (by first | rfl | (go_simp; done)) (by first | rfl | (go_simp; done)) rfl (fun _ h => h.elim) (fun _ _ => trivial) HR2.out HB2.out hN2 HLB.out ?_; intro v1 w1 hq1 hb1 hg1 hat1; have HR3 := Aside0.mk hq1; have HB3 := Aside0.mk hb1; clear hq1 hb1 hg1 hat1)))
      exact ⟨⟨q, n', _, rfl, HQ, h8, HL2, HX, HR3, HB3⟩, by have := HP.out; have := HQ.out; simp [intOf]; omega⟩
end Go.Proofs.YtldkgfhngonnfaaDoor.S
