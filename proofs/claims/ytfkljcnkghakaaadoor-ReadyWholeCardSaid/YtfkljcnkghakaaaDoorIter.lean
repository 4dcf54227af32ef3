/- The walks of bits.TrailingZeros32, ready.each and ready.List: the lowest set bit; the set bits of a number, rising. One condition: the table deBruijn32tab holds its numbers. -/
import Derived.Test.YtfkljcnkghakaaaDoorSpecC
import Derived.Shelf.Spec.TrailingZeros
import Derived.RangeFuncBox
import Derived.RangeFuncLeaves
import Derived.RangeFuncCalls
import Derived.Shelf.Abstract
import Derived.OwnWalkIn
import Derived.TacticsInMore
import Derived.LoopNIn
import Derived.LoopIn
import Derived.Maps.AppendAt
import Derived.Outline
namespace Go.Proofs.YtfkljcnkghakaaaDoor.Masks
open Go.RowKit Go.Shelf
attribute [local go_sem] Oper.semAt_some
set_option linter.unusedVariables false

/-- The table holds its numbers. -/
def Tab (w : World) : Prop := ∀ j, j < 32 → w.cell? ⟨0, j, none⟩ = some (.int .u8 (Lib.deBruijn32tab.getD j 0))
theorem Tab.below {n₀ : Nat} {w w' : World} (h : Tab w) (h0 : 0 < n₀) (hb : Below n₀ w w') : Tab w' := fun j hj => (hb.cell (p := ⟨0, j, none⟩) h0).trans (h j hj)
theorem Tab.pos {w : World} (h : Tab w) : 0 < w.heap.size := World.block_lt_of_cell? _ _ (h 0 (by decide))

set_option maxHeartbeats 1000000 in
theorem tz_core (x k idx : Nat) (w : World) (hx0 : ((x : Int) == 0) = false)
    (key : bits BinOp.and IntKind.u32 (x : Int) (-(x : Int) % 4294967296) * 125613361 % 4294967296 / 134217728 = (idx : Int))
    (hi : idx < 32) (hk : k < 32) (hcell : w.cell? ⟨0, idx, none⟩ = some (.int .u8 k)) :
    Calls Tryd.prog 21 #[.int .u32 x] w fun e w' => e = .returned (.int .i64 k) ∧ w' = w := by
  go_enter Tryd.func21, Tryd.ntmps21
  go_wp2_with (simp only [key])
  go_ret
  exact ⟨rfl, rfl⟩
/-- The lowest set bit of a number that isn't 0. -/
theorem tz_any (x : Nat) (h0 : x ≠ 0) (hx : x < 4294967296) (w : World) (hT : Tab w) :
    Calls Tryd.prog 21 #[.int .u32 x] w fun e w' => e = .returned (.int .i64 (Lib.ctz 32 x)) ∧ w' = w := by
  obtain ⟨hlow, hk⟩ := Lib.lowest_bit 32 x h0 hx
  obtain ⟨hi, htab⟩ := Lib.deBruijn32_at _ hk
  have hcell := hT _ hi
  rw [htab] at hcell
  exact tz_core x _ _ w (by simp; omega) (tz32_key x _ hx h0 hlow) hi hk hcell

/-! ### the bits, one by one -/
theorem ctz_form (x : Nat) (h0 : x ≠ 0) (hx : x < 4294967296) : ∃ m, x = 2 ^ Lib.ctz 32 x * (2 * m + 1) ∧ Lib.ctz 32 x < 32 := by
  unfold Lib.ctz
  rw [if_neg h0]
  exact Lib.ctzFrom_spec 32 x (by omega) hx
theorem ctz_bit (x : Nat) (h0 : x ≠ 0) (hx : x < 4294967296) : x.testBit (Lib.ctz 32 x) = true ∧ Lib.ctz 32 x < 32 ∧ ∀ j, j < Lib.ctz 32 x → x.testBit j = false := by
  obtain ⟨m, hm, hk⟩ := ctz_form x h0 hx
  generalize Lib.ctz 32 x = c at *
  refine ⟨?_, hk, fun j hj => ?_⟩
  · rw [hm, Nat.mul_comm, Nat.testBit_mul_two_pow]
    simp [Nat.testBit_zero]
  · rw [hm, Nat.mul_comm, Nat.testBit_mul_two_pow]
    have : ¬ c ≤ j := by omega
    simp [this]
/-- x & (x - 1): without its lowest bit. -/
theorem drop_bit (x : Nat) (h0 : x ≠ 0) (hx : x < 4294967296) (j : Nat) : (x &&& (x - 1)).testBit j = (x.testBit j && !(j == Lib.ctz 32 x)) := by
  obtain ⟨m, hm, hk⟩ := ctz_form x h0 hx
  generalize Lib.ctz 32 x = c at *
  have e1 : x - 1 = 2 ^ c * (2 * m) + (2 ^ c - 1) := by
    rw [hm, Nat.mul_add, Nat.mul_one]
    have : 0 < 2 ^ c := Nat.pow_pos (by decide)
    omega
  have hlt : 2 ^ c - 1 < 2 ^ c := by have : 0 < 2 ^ c := Nat.pow_pos (by decide); omega
  rw [Nat.testBit_and, e1, Nat.testBit_two_pow_mul_add _ hlt, hm, Nat.mul_comm (2 ^ c) (2 * m + 1), Nat.testBit_mul_two_pow]
  by_cases h1 : j < c
  · have : ¬ c ≤ j := by omega
    simp [this]
  · have h2 : c ≤ j := by omega
    rw [if_neg h1]
    by_cases h3 : j = c
    · subst h3; simp [Nat.testBit_zero]
    · obtain ⟨d, rfl⟩ : ∃ d, j = c + (d + 1) := ⟨j - c - 1, by omega⟩
      have e2 : c + (d + 1) - c = d + 1 := by omega
      rw [e2, Nat.testBit_succ, Nat.testBit_succ]
      have e3 : (2 * m + 1) / 2 = m := by omega
      have e4 : 2 * m / 2 = m := by omega
      rw [e3, e4]
      have e5 : (c + (d + 1) == c) = false := by simp
      simp [e5]
theorem drop_lt (x : Nat) (h0 : x ≠ 0) : x &&& (x - 1) < x := by
  have : x &&& (x - 1) ≤ x - 1 := Nat.and_le_right
  omega
/-- The bits of a number: its lowest one, and those of the rest. -/
theorem bitsOf_cons (x : Nat) (h0 : x ≠ 0) (hx : x < 4294967296) : bitsOf x = Lib.ctz 32 x :: bitsOf (x &&& (x - 1)) := by
  obtain ⟨h1, h2, h3⟩ := ctz_bit x h0 hx
  unfold bitsOf
  have hd := drop_bit x h0 hx
  generalize Lib.ctz 32 x = c at *
  have hs : List.range 32 = List.range c ++ c :: (List.range' (c + 1) (31 - c)) := by
    rw [List.range_eq_range', List.range_eq_range', show 32 = c + (31 - c + 1) by omega, ← List.range'_append_1, Nat.zero_add, List.range'_succ]
  rw [hs, List.filter_append, List.filter_append, List.filter_cons, List.filter_cons, h1, hd c]
  have f1 : (List.range c).filter (fun i => x.testBit i) = [] := by
    rw [List.filter_eq_nil_iff]; intro j hj; rw [h3 j (List.mem_range.1 hj)]; simp
  have f2 : (List.range c).filter (fun i => (x &&& (x - 1)).testBit i) = [] := by
    rw [List.filter_eq_nil_iff]; intro j hj; rw [hd j, h3 j (List.mem_range.1 hj)]; simp
  rw [f1, f2]
  simp only [if_true, List.nil_append, h1, beq_self_eq_true, Bool.not_true, Bool.and_false]
  congr 1
  apply List.filter_congr
  intro j hj
  rw [hd j]
  have : j ≠ c := by
    have := (List.mem_range'_1).1 hj
    omega
  simp [this]
theorem bitsOf_zero : bitsOf 0 = [] := by unfold bitsOf; simp
theorem bitsOf_len (x : Nat) : (bitsOf x).length ≤ 32 := by
  unfold bitsOf
  have := List.length_filter_le (fun i => x.testBit i) (List.range 32)
  simpa using this

set_option maxRecDepth 100000 in
set_option maxHeartbeats 1000000 in
/-- ready.each's iterator, for every loop body that keeps what lay below n₀. -/
theorem each1_in (n : Nat) (hn : 1 ≤ n) (l Bn n₀ : Nat) (hn0 : 0 < n₀) (m0 : Nat) (hm0 : m0 < 4294967296) (J Jx : List Int → World → Prop)
    (hY : ∀ pre x W, J pre W → pre.length < 32 → (∃ ys, natsOf (bitsOf m0) = pre ++ x :: ys) → YieldAt Fence.wide (n - 1) Tryd.prog l #[.int .i64 x] W fun e W' =>
      (e = .returned (.bool true) ∧ J (pre ++ [x]) W' ∧ Below n₀ W W') ∨ (e = .returned (.bool false) ∧ Jx (pre ++ [x]) W'))
    (W : World) (hBn : W.cell? ⟨Bn, 0, none⟩ = some (.int .u32 m0)) (hT : Tab W) (h0 : J [] W) :
    CallsIn Fence.wide n Tryd.prog 28 #[.func (.yield l) #[] #[], .pointer (some ⟨Bn, 0, none⟩)] W fun e W' => (∃ v, e = .returned v) ∧
      ((∃ ys, ys = natsOf (bitsOf m0) ∧ J ys W') ∨ (∃ pre, pre <+: natsOf (bitsOf m0) ∧ Jx pre W')) := by
  refine callsIn_of_wp Tryd.func28 rfl trivial ?_ rfl
  simp only [Tryd.ntmps28, List.size_toArray, List.length_cons, List.length_nil, Nat.reduceAdd, Nat.reduceSub, Array.replicate_succ, Array.replicate_zero, List.push_toArray, List.append_toArray, List.nil_append, List.cons_append]
  gi_wp2
  gi_loopw [3] (fun v wr => ∃ (pre : List Int) (m : Nat), v = .int .u32 m ∧ m < 4294967296 ∧ Hid (natsOf (bitsOf m0) = pre ++ natsOf (bitsOf m)) ∧ J pre wr ∧ Hid (Tab wr))
    (fun v _ => (intOf v).toNat)
  case atStart => exact ⟨[], m0, rfl, hm0, rfl, h0, hT⟩
  case round =>
    obtain ⟨pre, m, rfl, hm, HX, hJs, HT⟩ := hrel
    by_cases hz : m = 0
    · subst hz
      gi_wp2
      go_end0
      exact ⟨⟨_, rfl⟩, .inl ⟨pre, by have := HX.out; rw [bitsOf_zero] at this; simpa [natsOf] using this.symm, hJs⟩⟩
    · have hz1 : ((m : Int) != 0) = true := by simp [hz]
      have HC : Hid (natsOf (bitsOf m) = ((Lib.ctz 32 m : Nat) : Int) :: natsOf (bitsOf (m &&& (m - 1)))) := by
        show natsOf (bitsOf m) = _
        rw [bitsOf_cons m hz hm]; rfl
      have HL : Hid (m &&& (m - 1) < m) := drop_lt m hz
      have HA : bits BinOp.and IntKind.u32 (m : Int) ((m : Int) - 1) = ((m &&& (m - 1) : Nat) : Int) := by
        have := and_nat m (m - 1) (by omega) (by omega)
        rwa [show ((m - 1 : Nat) : Int) = (m : Int) - 1 by omega] at this
      have hm1 : 1 ≤ m := by omega
      have hlen : pre.length < 32 := by
        have h1 := HX.out
        have h2 := congrArg List.length h1
        rw [HC.out] at h2
        have h3 := bitsOf_len m0
        simp [natsOf] at h2
        omega
      obtain ⟨fn, tmps, assign, body, hy, hR⟩ := hY pre ((Lib.ctz 32 m : Nat) : Int) wr hJs hlen ⟨_, by rw [HX.out, HC.out]⟩
      have HTz := tz_any m hz hm wr HT.out
      generalize Lib.ctz 32 m = c at HC hy hR HTz
      gi_wp2_with (refine ⟨trivial, ?_⟩; gi_at_call 21; refine (callsIn_wide.2 HTz).mono ?_; rintro e w' ⟨rfl, rfl⟩)
      refine hR.mono ?_
      rintro e W3 (⟨rfl, hJ3, hk3⟩ | ⟨rfl, hJx3⟩)
      · have HT3 : Hid (Tab W3) := HT.out.below hn0 hk3
        clear HT HTz hk3 hJs hR hy
        gi_wp2
        go_roundw
        case rel => exact ⟨pre ++ [((c : Nat) : Int)], m &&& (m - 1), rfl, by have := HL.out; omega, by
          show natsOf (bitsOf m0) = _
          rw [HX.out, HC.out, List.append_assoc]; rfl, hJ3, HT3⟩
        case measure => simp [intOf]; exact HL.out
      · gi_wp2
        refine bodyPost_ret (results_none rfl _ _ _) rfl ?_
        exact ⟨⟨_, rfl⟩, .inr ⟨pre ++ [((c : Nat) : Int)], ⟨natsOf (bitsOf (m &&& (m - 1))), by rw [HX.out, HC.out, List.append_assoc]; rfl⟩, hJx3⟩⟩

set_option maxHeartbeats 1000000 in
/-- ready.each: the number is boxed; the function value captures the box. -/
theorem each_in (n : Nat) (m : Nat) (w : World) :
    CallsIn Fence.wide n Tryd.prog 25 #[.int .u32 m] w fun e w' => e = .returned (.func (.func 28) #[] #[.pointer (some ⟨w.heap.size, 0, none⟩)]) ∧ w' = w.alloc (.cells #[.int .u32 m] 28) := by
  refine callsIn_of_wp Tryd.func25 rfl trivial ?_ rfl
  simp only [Tryd.ntmps25, List.size_toArray, List.length_cons, List.length_nil, Nat.reduceAdd, Nat.reduceSub, Array.replicate_succ, Array.replicate_zero, List.push_toArray, List.append_toArray, List.nil_append, List.cons_append]
  gi_wp2
  go_ret
  exact ⟨rfl, rfl⟩
theorem each_stops (n : Nat) (hn : 1 ≤ n) (Bn n₀ : Nat) (hn0 : 0 < n₀) (m : Nat) (hm : m < 4294967296) (w : World) (hBn : Bn < w.heap.size) (hn₀ : n₀ ≤ w.heap.size)
    (hc : w.cell? ⟨Bn, 0, none⟩ = some (.int .u32 m)) (hT : Tab w) :
    SeqStopsK Fence.wide n Tryd.prog 28 #[.pointer (some ⟨Bn, 0, none⟩)] (fun x : Int => #[Value.int .i64 x]) (Below n₀) (fun ys => ys = natsOf (bitsOf m)) (fun pre => pre <+: natsOf (bitsOf m)) 32 w := fun l J Jx W hW _ _ hY h0 =>
  each1_in n hn l Bn n₀ hn0 m hm J Jx (fun pre x W1 h1 h2 _ => hY pre x W1 h1 h2) W ((hW.cell (p := ⟨Bn, 0, none⟩) hBn).trans hc) (hT.below hT.pos hW) h0
/-- The same where the body is told that what comes is a bit of the number. -/
abbrev BitAt (m : Nat) := { x : Int // x ∈ natsOf (bitsOf m) }
theorem each_stops_bits (n : Nat) (hn : 1 ≤ n) (Bn n₀ : Nat) (hn0 : 0 < n₀) (m : Nat) (hm : m < 4294967296) (w : World) (hBn : Bn < w.heap.size) (hn₀ : n₀ ≤ w.heap.size)
    (hc : w.cell? ⟨Bn, 0, none⟩ = some (.int .u32 m)) (hT : Tab w) :
    SeqStopsK Fence.wide n Tryd.prog 28 #[.pointer (some ⟨Bn, 0, none⟩)] (fun x : BitAt m => #[Value.int .i64 x.1]) (Below n₀) (fun ys => ys.map (fun x => x.1) = natsOf (bitsOf m)) (fun _ => True) 32 w := fun l J Jx W hW _ _ hY h0 => by
  refine (each1_in n hn l Bn n₀ hn0 m hm (fun pre W => ∃ pre' : List (BitAt m), pre = pre'.map (fun x => x.1) ∧ J pre' W) (fun pre W => ∃ pre' : List (BitAt m), pre = pre'.map (fun x => x.1) ∧ Jx pre' W)
    ?_ W ((hW.cell (p := ⟨Bn, 0, none⟩) hBn).trans hc) (hT.below hT.pos hW) ⟨[], rfl, h0⟩).mono ?_
  · rintro pre x W1 ⟨pre', rfl, hJ⟩ hlen ⟨ys, hys⟩
    have hx : x ∈ natsOf (bitsOf m) := by rw [hys]; simp
    obtain ⟨fn, tmps, assign, body, hy, hR⟩ := hY pre' ⟨x, hx⟩ W1 hJ (by simpa using hlen)
    refine ⟨fn, tmps, assign, body, hy, hR.mono ?_⟩
    rintro e W3 (⟨h1, h2, h3⟩ | ⟨h1, h2⟩)
    · exact .inl ⟨h1, ⟨_, by simp, h2⟩, h3⟩
    · exact .inr ⟨h1, ⟨_, by simp, h2⟩⟩
  · rintro e W' ⟨hv, (⟨ys, h1, pre', h2, h3⟩ | ⟨pre, _, pre', _, h3⟩)⟩
    · exact ⟨hv, .inl ⟨pre', h2.symm.trans h1, h3⟩⟩
    · exact ⟨hv, .inr ⟨pre', trivial, h3⟩⟩
end Go.Proofs.YtfkljcnkghakaaaDoor.Masks
