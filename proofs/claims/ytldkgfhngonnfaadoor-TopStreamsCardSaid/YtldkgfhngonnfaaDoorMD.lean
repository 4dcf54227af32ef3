/- stream.lay. stream.failed. A stream beside its disk. stream.Append. -/
import Derived.Test.YtldkgfhngonnfaaDoorMC
namespace Go.Proofs.YtldkgfhngonnfaaDoor.S
open Go.RowKit Go.Proofs.YtldkgfhngonnfaaDoor.PTopStreams Go.Proofs.YtldkgfhngonnfaaDoorW.PrintWords Go.Proofs.YtldkgfhngonnfaaDoorW.PrintLast Go.Proofs.YtldkgfhngonnfaaDoorW.PrintMore
set_option linter.unusedVariables false
set_option linter.unusedSimpArgs false
/-- A disk whose power is on, region n ready for a write. -/
structure Rdy (D : Dsk) (n L q : Nat) : Prop where
  ok : D.ok
  reg : ∃ R, D.regs[n]? = some R ∧ R.lasts.length = L ∧ R.queue.length = q
  t0 : 0 ≤ D.tl
  t1 : D.tl ≤ 9223372036854775807
  on : D.off = false
theorem tick_off (D : Dsk) (n : Int) : (D.tick n).off = D.off := by unfold Dsk.tick; split <;> rfl
theorem tick_tl (D : Dsk) (n : Int) (h0 : 0 ≤ D.tl) (h1 : D.tl ≤ 9223372036854775807) : 0 ≤ (D.tick n).tl ∧ (D.tick n).tl ≤ 9223372036854775807 := by
  unfold Dsk.tick
  split
  · next h => exact ⟨by show 0 ≤ D.tl - 1; omega, by show D.tl - 1 ≤ _; omega⟩
  · exact ⟨h0, h1⟩
theorem Rdy.write {D : Dsk} {n L q : Nat} (h : Rdy D n L q) (s : Int) (h0 : 0 ≤ s) (h1 : s < (L : Int)) (data : ByteArray) (he : (D.write n s data).2 = 0) : Rdy (D.write n s data).1 n L (q + 1) := by
  obtain ⟨R, hR, hL, hq⟩ := h.reg
  have hlt := (List.getElem?_eq_some_iff.1 hR).1
  have hRok : Reg.ok R := h.ok R (List.mem_of_getElem? hR)
  unfold Dsk.write at he ⊢
  simp only [h.on, Bool.false_eq_true, if_false, getD_of hR] at he ⊢
  split at he
  · cases he
  · next hf =>
    rw [if_neg hf]
    have hp : (D.put n ⟨R.lasts, R.queue ++ [(s, data)]⟩).ok := put_ok h.ok (fun u hu => by
      rcases List.mem_append.1 hu with hu | hu
      · exact hRok u hu
      · simp at hu; subst hu; exact ⟨h0, by show s < (R.lasts.length : Int); omega⟩)
    have ht := tick_tl (D.put n ⟨R.lasts, R.queue ++ [(s, data)]⟩) n h.t0 h.t1
    refine ⟨tick_ok hp _, ⟨⟨R.lasts, R.queue ++ [(s, data)]⟩, ?_, hL, by simp [hq]⟩, ht.1, ht.2, ?_⟩
    · show ((D.put n ⟨R.lasts, R.queue ++ [(s, data)]⟩).tick n).regs[n]? = _
      rw [tick_regs]
      show (D.regs.set n _)[n]? = _
      rw [List.getElem?_set_self hlt]
    · show ((D.put n ⟨R.lasts, R.queue ++ [(s, data)]⟩).tick n).off = false
      rw [tick_off]; exact h.on
/-- Cells are written, one behind the other; then they last. -/
def Dsk.lay (D : Dsk) (n : Nat) : Nat → List ByteArray → Dsk × Int
  | _, [] => D.flush n
  | s, c :: cs => if (D.write n (s : Int) c).2 = 0 then Dsk.lay (D.write n (s : Int) c).1 n (s + 1) cs else D.write n (s : Int) c
theorem write_err (D : Dsk) (n : Nat) (s : Int) (c : ByteArray) : (D.write n s c).2 = 0 ∨ (D.write n s c).2 = 11 := by
  unfold Dsk.write
  split
  · exact .inr rfl
  · dsimp only
    split
    · exact .inr rfl
    · exact .inl rfl
set_option maxHeartbeats 1000000 in
set_option maxRecDepth 100000 in
theorem lay_calls (N : Nat) (W : World) (K : Ad) (D : Dsk) (hD : IsDisk N W K D) (hN : N ≤ W.heap.size) (sb : Nat) (S : Str) (hS : IsStr W sb K.db S) (hSf : Free K W sb) (L : Nat) (hr : Rdy D S.reg L 0) (half index : Nat) (hi ii : Int) (hhi : hi = (half : Int)) (hii : ii = (index : Int)) (hh : half ≤ 1) (hsz : S.size ≤ 2000)
    (A : Option Addr) (c : Nat) (cs : List ByteArray) (okC : Nat → Prop) (hcs : Kd.F Kd.string W okC A cs.length cs) (hfr : ∀ k, okC k → Free K W k) (h64 : ∀ x ∈ cs, x.size = 64) (hL : 1 + half * S.size + index + cs.length ≤ L) (hL9 : L ≤ 5000) :
    Calls Tryd.prog 31 #[.pointer (some ⟨sb, 0, none⟩), .int .i64 hi, .int .i64 ii, .slice A cs.length c] W fun e w' => e = .returned (.int .i64 (D.lay S.reg (1 + half * S.size + index) cs).2) ∧ IsDisk N w' K (D.lay S.reg (1 + half * S.size + index) cs).1 ∧ Fd K N W w' := by
  have hu := Tryd.underlying64
  obtain ⟨b, hb⟩ : ∃ b : Nat, b = 1 + half * S.size + index := ⟨_, rfl⟩
  obtain ⟨m, hm⟩ : ∃ m : Int, hi * (S.size : Int) = m := ⟨_, rfl⟩
  have hm2 : 0 ≤ m ∧ m ≤ 2000 ∧ (b : Int) = 1 + m + ii := by
    rcases (show half = 0 ∨ half = 1 by omega) with e | e
    · subst e; subst hhi; simp at hm hb; omega
    · subst e; subst hhi; simp at hm hb; omega
  obtain ⟨hm0, hm9, hbm⟩ := hm2
  rw [← hb] at hL ⊢
  have HFK := Aside0.mk hcs
  have HFR := Aside0.mk hfr
  have HS := Aside0.mk hS
  have HSF := Aside0.mk hSf
  have H64 := Aside0.mk h64
  have HLB := Aside0.mk (show b + cs.length ≤ L ∧ L ≤ 5000 ∧ (b : Int) = 1 + m + ii ∧ N ≤ W.heap.size from ⟨hL, hL9, hbm, hN⟩)
  have HRel : Aside0 (IsDisk N W K D ∧ Rdy D S.reg L 0 ∧ Fd K N W W) := Aside0.mk ⟨hD, hr, Fd.refl _ _ _⟩
  have hi0 : 0 ≤ ii := by omega
  have hi9 : ii ≤ 5000 := by omega
  have hcl : (cs.length : Int) ≤ 5000 := by omega
  have hwm : IntKind.i64.wrap m = m := by rw [IntKind.wrap_i64]; omega
  have hwm1 : IntKind.i64.wrap (1 + m) = 1 + m := by rw [IntKind.wrap_i64]; omega
  have hwm2 : IntKind.i64.wrap (1 + m + ii) = 1 + m + ii := by rw [IntKind.wrap_i64]; omega
  clear hcs hfr hS hSf h64 hD hr hN hb hbm hL hL9 hhi hii hsz
  go_enter Tryd.func31, Tryd.ntmps31
  go_wp2
  go_loopw [14] (fun v14 wr => ∃ (q : Int) (j : Nat) (E : Dsk), v14 = .int .i64 q ∧ Aside0 (q = (j : Int)) ∧ j ≤ cs.length ∧ Aside0 (D.lay S.reg b cs = E.lay S.reg (b + j) (cs.drop j)) ∧ Aside0 (IsDisk N wr K E ∧ Rdy E S.reg L j ∧ Fd K N W wr)) (fun v14 _ => cs.length - (intOf v14).toNat)
  case atStart => exact ⟨0, 0, D, rfl, Aside0.mk rfl, Nat.zero_le _, Aside0.mk rfl, HRel⟩
  case round =>
    clear HRel
    obtain ⟨q, j, E, rfl, HQ, hj, HE, HR⟩ := hrel
    have hsk : IsStr wr sb K.db S := by
      have h := HR.out.2.2.keep sb (blk_lt HS.out) HSF.out
      unfold IsStr; rw [h]; exact HS.out
    by_cases hin : j < cs.length
    · have hlt : decide (q < (cs.length : Int)) = true := decide_eq_true (by rw [HQ.out]; omega)
      have hq0 : 0 ≤ q := by rw [HQ.out]; omega
      have hq1 : q < (cs.length : Int) := by rw [HQ.out]; omega
      have hqj : q.toNat = j := by rw [HQ.out]; rfl
      obtain ⟨x, hx⟩ : ∃ x, cs[j]? = some x := ⟨_, List.getElem?_eq_getElem hin⟩
      have hks := Kd.F_step (Kd.F_bound HFK.out) (fun k hk hlt => HR.out.2.2.keep k hk.2 (HFR.out k hk.1))
      obtain ⟨ad, hA, hcell⟩ := Kd.at_string (Kd.F_now hks) q hq0 hq1
      have hrd : rdOf ByteArray.empty cs q = x := by unfold rdOf; rw [hqj]; simp [List.getD_eq_getElem?_getD, hx]
      rw [hrd] at hcell
      subst hA
      have hbb := HLB.out
      have hqq := HQ.out
      obtain ⟨R, hR, hRL, hRq⟩ := HR.out.2.1.reg
      have HR9 := HR
      obtain ⟨sr, hsr⟩ : ∃ s : Int, s = (S.reg : Int) := ⟨_, rfl⟩
      obtain ⟨st, hst⟩ : ∃ s : Int, 1 + m + ii + q = s := ⟨_, rfl⟩
      have hstb : st = ((b + j : Nat) : Int) := by omega
      have HWC := Aside0.mk (fun w (h1 : IsDisk N w K E) (h2 : N ≤ w.heap.size) => write_calls N w K E h1 HR.out.2.1.ok h2 sr S.reg hsr R hR st (by omega) (by omega) x (H64.out x (List.mem_of_getElem? hx)) (by omega) HR.out.2.1.t0 HR.out.2.1.t1)
      have hrec : E.lay S.reg (b + j) (cs.drop j) = if (E.write S.reg st x).2 = 0 then Dsk.lay (E.write S.reg st x).1 S.reg (b + (j + 1)) (cs.drop (j + 1)) else E.write S.reg st x := by
        rw [hstb]
        rw [List.drop_eq_getElem_cons hin]
        have ex : cs[j] = x := by rw [List.getElem?_eq_getElem hin] at hx; exact Option.some.inj hx
        rw [ex]
        rfl
      have HREC := Aside0.mk hrec
      have HRW := Aside0.mk (fun he => HR.out.2.1.write st (by omega) (by omega) x he)
      have HWE := Aside0.mk (write_err E S.reg st x)
      have hwst : IntKind.i64.wrap st = st := by rw [IntKind.wrap_i64]; omega
      have hi4 := HR.out.1.below (below_drew1 (Below.refl wr.heap.size wr))
      have HI4 := Aside0.mk hi4
      have HN4 : Aside0 (N ≤ wr.drew.heap.size) := Aside0.mk (Nat.le_trans hbb.2.2.2 HR.out.2.2.size)
      have HF4 := Aside0.mk (HR.out.2.2.step (below_drew1 (Below.refl wr.heap.size wr)) hbb.2.2.2)
      obtain ⟨k0, k1, k2, _⟩ := IsStr.at (show IsStr wr.drew sb K.db S from hsk)
      rw [← hsr] at k1
      have hck : ∀ w : World, w.heap[sb]? = W.heap[sb]? → w.cell? ⟨sb, 0, none⟩ = some (.pointer (some ⟨K.db, 0, none⟩)) ∧ w.cell? ⟨sb, 1, none⟩ = some (.int .i64 sr) ∧ w.cell? ⟨sb, 2, none⟩ = some (.int .i64 (S.size : Int)) := fun w h => by
        obtain ⟨a0, a1, a2, _⟩ := IsStr.at (show IsStr w sb K.db S by unfold IsStr; rw [h]; exact HS.out)
        rw [← hsr] at a1
        exact ⟨a0, a1, a2⟩
      have HCK := Aside0.mk hck
      have HLT := Aside0.mk (blk_lt HS.out)
      generalize (S.size : Int) = z at *
      clear hck
      generalize E.write S.reg st x = PW at *
      clear hks hrd hqj hx hsk hi4 hrec hR hRL hRq hbb hqq hstb hsr
      go_upto_region 4 with (fail)
      refine wp_region_held_drew (S := fun w => w.cell? ⟨sb, 0, none⟩ = some (.pointer (some ⟨K.db, 0, none⟩)) ∧ w.cell? ⟨sb, 1, none⟩ = some (.int .i64 sr) ∧ w.cell? ⟨sb, 2, none⟩ = some (.int .i64 z)) (by kernel_rfl) ⟨k0, k1, k2⟩ (fun hHeld => ?_)
      generalize wr.drew = w4 at *
      rcases HWE.out with he | he
      · have HRW1 := Aside0.mk (HRW.out he)
        have HREC1 : Aside0 (E.lay S.reg (b + j) (cs.drop j) = Dsk.lay PW.1 S.reg (b + (j + 1)) (cs.drop (j + 1))) := Aside0.mk (by rw [HREC.out, if_pos he])
        rw [he] at HWC
        clear he HRW HREC HWE
        refine wpAnyH_take (i := 0) (oi := { dst := some 19, op := Op.move (Operand.tmp 0), type := 27, pos := "stream.go:95", after := #[], guard := none }) (v := ?v0) rfl (by kernel_rfl) (by kernel_rfl) (by kernel_rfl) (fun _ _ _ h => h) (Or.inl ⟨by rfl, ?y0⟩) (by assumption) ?_
        case y0 => (intro w hSw; (try dsimp only at hSw); go_simp; try with_reducible rfl)
        (try simp only [Act.put, List.setIfInBounds_toArray, List.set_cons_zero, List.set_cons_succ])
        refine wpAnyH_take (i := 1) (oi := { dst := some 20, op := Op.nilCheck (Operand.tmp 19), type := 0, pos := "stream.go:95", after := #[{ on := 0, ground := Ground.data }], guard := none }) (v := ?v1) rfl (by kernel_rfl) (by kernel_rfl) (by kernel_rfl) (fun _ _ _ h => h) (Or.inl ⟨by rfl, ?y1⟩) (by assumption) ?_
        case y1 => (intro w hSw; (try dsimp only at hSw); go_simp; try with_reducible rfl)
        (try simp only [Act.put, List.setIfInBounds_toArray, List.set_cons_zero, List.set_cons_succ])
        refine wpAnyH_take (i := 2) (oi := { dst := some 21, op := Op.fieldAddr 64 (Operand.tmp 20) 0, type := 0, pos := "stream.go:95", after := #[{ on := 1, ground := Ground.data }], guard := none }) (v := ?v2) rfl (by kernel_rfl) (by kernel_rfl) (by kernel_rfl) (fun _ _ _ h => h) (Or.inl ⟨by rfl, ?y2⟩) (by assumption) ?_
        case y2 => (intro w hSw; (try dsimp only at hSw); go_simp; try with_reducible rfl)
        (try simp only [Act.put, List.setIfInBounds_toArray, List.set_cons_zero, List.set_cons_succ])
        refine wpAnyH_take (i := 3) (oi := { dst := some 22, op := Op.load 25 (Operand.tmp 21), type := 25, pos := "stream.go:95", after := #[{ on := 2, ground := Ground.data }], guard := none }) (v := ?v3) rfl (by kernel_rfl) (by kernel_rfl) (by kernel_rfl) (fun _ _ _ h => h) (Or.inl ⟨by rfl, ?y3⟩) (by assumption) ?_
        case y3 => (intro w hSw; (try dsimp only at hSw); go_simp; try with_reducible rfl)
        (try simp only [Act.put, List.setIfInBounds_toArray, List.set_cons_zero, List.set_cons_succ])
        refine wpAnyH_take (i := 4) (oi := { dst := some 23, op := Op.move (Operand.tmp 0), type := 27, pos := "stream.go:95", after := #[], guard := none }) (v := ?v4) rfl (by kernel_rfl) (by kernel_rfl) (by kernel_rfl) (fun _ _ _ h => h) (Or.inl ⟨by rfl, ?y4⟩) (by assumption) ?_
        case y4 => (intro w hSw; (try dsimp only at hSw); go_simp; try with_reducible rfl)
        (try simp only [Act.put, List.setIfInBounds_toArray, List.set_cons_zero, List.set_cons_succ])
        refine wpAnyH_take (i := 5) (oi := { dst := some 24, op := Op.nilCheck (Operand.tmp 23), type := 0, pos := "stream.go:95", after := #[{ on := 4, ground := Ground.data }], guard := none }) (v := ?v5) rfl (by kernel_rfl) (by kernel_rfl) (by kernel_rfl) (fun _ _ _ h => h) (Or.inl ⟨by rfl, ?y5⟩) (by assumption) ?_
        case y5 => (intro w hSw; (try dsimp only at hSw); go_simp; try with_reducible rfl)
        (try simp only [Act.put, List.setIfInBounds_toArray, List.set_cons_zero, List.set_cons_succ])
        refine wpAnyH_take (i := 6) (oi := { dst := some 25, op := Op.fieldAddr 64 (Operand.tmp 24) 1, type := 0, pos := "stream.go:95", after := #[{ on := 5, ground := Ground.data }], guard := none }) (v := ?v6) rfl (by kernel_rfl) (by kernel_rfl) (by kernel_rfl) (fun _ _ _ h => h) (Or.inl ⟨by rfl, ?y6⟩) (by assumption) ?_
        case y6 => (intro w hSw; (try dsimp only at hSw); go_simp; try with_reducible rfl)
        (try simp only [Act.put, List.setIfInBounds_toArray, List.set_cons_zero, List.set_cons_succ])
        refine wpAnyH_take (i := 7) (oi := { dst := some 26, op := Op.load 3 (Operand.tmp 25), type := 3, pos := "stream.go:95", after := #[{ on := 6, ground := Ground.data }], guard := none }) (v := ?v7) rfl (by kernel_rfl) (by kernel_rfl) (by kernel_rfl) (fun _ _ _ h => h) (Or.inl ⟨by rfl, ?y7⟩) (by assumption) ?_
        case y7 => (intro w hSw; (try dsimp only at hSw); go_simp; try with_reducible rfl)
        (try simp only [Act.put, List.setIfInBounds_toArray, List.set_cons_zero, List.set_cons_succ])
        refine wpAnyH_take (i := 8) (oi := { dst := some 27, op := Op.move (Operand.tmp 1), type := 3, pos := "stream.go:95", after := #[], guard := none }) (v := ?v8) rfl (by kernel_rfl) (by kernel_rfl) (by kernel_rfl) (fun _ _ _ h => h) (Or.inl ⟨by rfl, ?y8⟩) (by assumption) ?_
        case y8 => (intro w hSw; (try dsimp only at hSw); go_simp; try with_reducible rfl)
        (try simp only [Act.put, List.setIfInBounds_toArray, List.set_cons_zero, List.set_cons_succ])
        refine wpAnyH_take (i := 9) (oi := { dst := some 28, op := Op.move (Operand.tmp 0), type := 27, pos := "stream.go:95", after := #[], guard := none }) (v := ?v9) rfl (by kernel_rfl) (by kernel_rfl) (by kernel_rfl) (fun _ _ _ h => h) (Or.inl ⟨by rfl, ?y9⟩) (by assumption) ?_
        case y9 => (intro w hSw; (try dsimp only at hSw); go_simp; try with_reducible rfl)
        (try simp only [Act.put, List.setIfInBounds_toArray, List.set_cons_zero, List.set_cons_succ])
        refine wpAnyH_take (i := 10) (oi := { dst := some 29, op := Op.nilCheck (Operand.tmp 28), type := 0, pos := "stream.go:95", after := #[{ on := 9, ground := Ground.data }], guard := none }) (v := ?v10) rfl (by kernel_rfl) (by kernel_rfl) (by kernel_rfl) (fun _ _ _ h => h) (Or.inl ⟨by rfl, ?y10⟩) (by assumption) ?_
        case y10 => (intro w hSw; (try dsimp only at hSw); go_simp; try with_reducible rfl)
        (try simp only [Act.put, List.setIfInBounds_toArray, List.set_cons_zero, List.set_cons_succ])
        refine wpAnyH_take (i := 11) (oi := { dst := some 30, op := Op.fieldAddr 64 (Operand.tmp 29) 2, type := 0, pos := "stream.go:95", after := #[{ on := 10, ground := Ground.data }], guard := none }) (v := ?v11) rfl (by kernel_rfl) (by kernel_rfl) (by kernel_rfl) (fun _ _ _ h => h) (Or.inl ⟨by rfl, ?y11⟩) (by assumption) ?_
        case y11 => (intro w hSw; (try dsimp only at hSw); go_simp; try with_reducible rfl)
        (try simp only [Act.put, List.setIfInBounds_toArray, List.set_cons_zero, List.set_cons_succ])
        refine wpAnyH_take (i := 12) (oi := { dst := some 31, op := Op.load 3 (Operand.tmp 30), type := 3, pos := "stream.go:95", after := #[{ on := 11, ground := Ground.data }], guard := none }) (v := ?v12) rfl (by kernel_rfl) (by kernel_rfl) (by kernel_rfl) (fun _ _ _ h => h) (Or.inl ⟨by rfl, ?y12⟩) (by assumption) ?_
        case y12 => (intro w hSw; (try dsimp only at hSw); go_simp; try with_reducible rfl)
        (try simp only [Act.put, List.setIfInBounds_toArray, List.set_cons_zero, List.set_cons_succ])
        refine wpAnyH_take (i := 13) (oi := { dst := some 32, op := Op.binOp BinOp.mul 3 (Operand.tmp 27) (Operand.tmp 31) 3, type := 3, pos := "stream.go:95", after := #[{ on := 8, ground := Ground.data }, { on := 12, ground := Ground.data }], guard := none }) (v := ?v13) rfl (by kernel_rfl) (by kernel_rfl) (by kernel_rfl) (fun _ _ _ h => h) (Or.inl ⟨by rfl, ?y13⟩) (by assumption) ?_
        case y13 => (intro w hSw; (try dsimp only at hSw); go_simp; try with_reducible rfl)
        (try simp only [Act.put, List.setIfInBounds_toArray, List.set_cons_zero, List.set_cons_succ])
        refine wpAnyH_take (i := 14) (oi := { dst := some 33, op := Op.binOp BinOp.add 3 (Operand.const (Value.int IntKind.i64 1)) (Operand.tmp 32) 3, type := 3, pos := "stream.go:95", after := #[{ on := 13, ground := Ground.data }], guard := none }) (v := ?v14) rfl (by kernel_rfl) (by kernel_rfl) (by kernel_rfl) (fun _ _ _ h => h) (Or.inl ⟨by rfl, ?y14⟩) (by assumption) ?_
        case y14 => (intro w hSw; (try dsimp only at hSw); go_simp; try with_reducible rfl)
        (try simp only [Act.put, List.setIfInBounds_toArray, List.set_cons_zero, List.set_cons_succ])
        refine wpAnyH_take (i := 15) (oi := { dst := some 34, op := Op.move (Operand.tmp 2), type := 3, pos := "stream.go:95", after := #[], guard := none }) (v := ?v15) rfl (by kernel_rfl) (by kernel_rfl) (by kernel_rfl) (fun _ _ _ h => h) (Or.inl ⟨by rfl, ?y15⟩) (by assumption) ?_
        case y15 => (intro w hSw; (try dsimp only at hSw); go_simp; try with_reducible rfl)
        (try simp only [Act.put, List.setIfInBounds_toArray, List.set_cons_zero, List.set_cons_succ])
        refine wpAnyH_take (i := 16) (oi := { dst := some 35, op := Op.binOp BinOp.add 3 (Operand.tmp 33) (Operand.tmp 34) 3, type := 3, pos := "stream.go:95", after := #[{ on := 14, ground := Ground.data }, { on := 15, ground := Ground.data }], guard := none }) (v := ?v16) rfl (by kernel_rfl) (by kernel_rfl) (by kernel_rfl) (fun _ _ _ h => h) (Or.inl ⟨by rfl, ?y16⟩) (by assumption) ?_
        case y16 => (intro w hSw; (try dsimp only at hSw); go_simp; try with_reducible rfl)
        (try simp only [Act.put, List.setIfInBounds_toArray, List.set_cons_zero, List.set_cons_succ])
        refine wpAnyH_take (i := 17) (oi := { dst := some 36, op := Op.move (Operand.tmp 9), type := 3, pos := "stream.go:95", after := #[], guard := none }) (v := ?v17) rfl (by kernel_rfl) (by kernel_rfl) (by kernel_rfl) (fun _ _ _ h => h) (Or.inl ⟨by rfl, ?y17⟩) (by assumption) ?_
        case y17 => (intro w hSw; (try dsimp only at hSw); go_simp; try with_reducible rfl)
        (try simp only [Act.put, List.setIfInBounds_toArray, List.set_cons_zero, List.set_cons_succ])
        refine wpAnyH_take (i := 18) (oi := { dst := some 37, op := Op.binOp BinOp.add 3 (Operand.tmp 35) (Operand.tmp 36) 3, type := 3, pos := "stream.go:95", after := #[{ on := 16, ground := Ground.data }, { on := 17, ground := Ground.data }], guard := none }) (v := ?v18) rfl (by kernel_rfl) (by kernel_rfl) (by kernel_rfl) (fun _ _ _ h => h) (Or.inl ⟨by rfl, ?y18⟩) (by assumption) ?_
        case y18 => (intro w hSw; (try dsimp only at hSw); go_simp; try with_reducible rfl)
        (try simp only [Act.put, List.setIfInBounds_toArray, List.set_cons_zero, List.set_cons_succ])
        refine wpAnyH_take (i := 19) (oi := { dst := some 38, op := Op.move (Operand.tmp 10), type := 9, pos := "stream.go:95", after := #[], guard := none }) (v := ?v19) rfl (by kernel_rfl) (by kernel_rfl) (by kernel_rfl) (fun _ _ _ h => h) (Or.inl ⟨by rfl, ?y19⟩) (by assumption) ?_
        case y19 => (intro w hSw; (try dsimp only at hSw); go_simp; try with_reducible rfl)
        (try simp only [Act.put, List.setIfInBounds_toArray, List.set_cons_zero, List.set_cons_succ])
        refine wpAnyH_ready (rs := [20]) (by kernel_rfl) (by simp) ?_
        refine AllReadyH.cons (o := { dst := some 39, op := Op.call { callee := Callee.value (Operand.func 45), args := #[Operand.tmp 22, Operand.tmp 26, Operand.tmp 37, Operand.tmp 38], argTypes := #[25, 3, 3, 9] }, type := 36, pos := "stream.go:95", after := #[{ on := 3, ground := Ground.data }, { on := 7, ground := Ground.data }, { on := 18, ground := Ground.data }, { on := 19, ground := Ground.data }], guard := none }) rfl (fun K hK => ?_) AllReadyH.nil
        go_simp
        go_at_call 45
        go_loud (refine (HWC.out _ HI4.out HN4.out).mono ?_; rintro e w5 ⟨rfl, hd5, hf5⟩)
        have HD5 := Aside0.mk hd5
        have HF5 := Aside0.mk (HF4.out.trans hf5)
        clear hd5 hf5
        refine hK.out _ _ (HCK.out _ (HF5.out.keep sb HLT.out HSF.out)) (fun hHeld2 => ?_)
        clear hK K hHeld
        have hHeld := hHeld2
        clear hHeld2
        (try simp only [Act.put, List.setIfInBounds_toArray, List.set_cons_zero, List.set_cons_succ])
        refine wpAnyH_ready (rs := [21]) (by kernel_rfl) (by simp) ?_
        refine AllReadyH.cons (o := { dst := some 11, op := Op.assign (Operand.tmp 39), type := 36, pos := "stream.go:95", after := #[{ on := 20, ground := Ground.data }, { on := 20, ground := Ground.chain }, { on := 0, ground := Ground.phase }, { on := 1, ground := Ground.phase }, { on := 2, ground := Ground.phase }, { on := 3, ground := Ground.phase }, { on := 4, ground := Ground.phase }, { on := 5, ground := Ground.phase }, { on := 6, ground := Ground.phase }, { on := 7, ground := Ground.phase }, { on := 8, ground := Ground.phase }, { on := 9, ground := Ground.phase }, { on := 10, ground := Ground.phase }, { on := 11, ground := Ground.phase }, { on := 12, ground := Ground.phase }, { on := 13, ground := Ground.phase }, { on := 14, ground := Ground.phase }, { on := 15, ground := Ground.phase }, { on := 16, ground := Ground.phase }, { on := 17, ground := Ground.phase }, { on := 18, ground := Ground.phase }, { on := 19, ground := Ground.phase }, { on := 20, ground := Ground.phase }], guard := none }) rfl (fun K hK => ?_) AllReadyH.nil
        go_simp
        refine hK.out _ _ (HCK.out _ (HF5.out.keep sb HLT.out HSF.out)) (fun hHeld2 => ?_)
        clear hK K hHeld
        have hHeld := hHeld2
        clear hHeld2
        (try simp only [Act.put, List.setIfInBounds_toArray, List.set_cons_zero, List.set_cons_succ])
        refine wpAnyH_done (by kernel_rfl) ?_ _
        clear hHeld
        go_wp2
        exact ⟨⟨q + 1, j + 1, PW.1, rfl, Aside0.mk (by have := HQ.out; omega), by omega, Aside0.mk (HE.out.trans HREC1.out), Aside0.mk ⟨HD5.out, HRW1.out, HF5.out⟩⟩, by have := HQ.out; simp [intOf]; omega⟩
      · have HREC1 : Aside0 (D.lay S.reg b cs = PW) := Aside0.mk (by rw [HE.out, HREC.out, if_neg (by rw [he]; decide)])
        have HE2 := Aside0.mk he
        rw [he] at HWC
        clear he HRW HREC HWE
        refine wpAnyH_take (i := 0) (oi := { dst := some 19, op := Op.move (Operand.tmp 0), type := 27, pos := "stream.go:95", after := #[], guard := none }) (v := ?v0) rfl (by kernel_rfl) (by kernel_rfl) (by kernel_rfl) (fun _ _ _ h => h) (Or.inl ⟨by rfl, ?y0⟩) (by assumption) ?_
        case y0 => (intro w hSw; (try dsimp only at hSw); go_simp; try with_reducible rfl)
        (try simp only [Act.put, List.setIfInBounds_toArray, List.set_cons_zero, List.set_cons_succ])
        refine wpAnyH_take (i := 1) (oi := { dst := some 20, op := Op.nilCheck (Operand.tmp 19), type := 0, pos := "stream.go:95", after := #[{ on := 0, ground := Ground.data }], guard := none }) (v := ?v1) rfl (by kernel_rfl) (by kernel_rfl) (by kernel_rfl) (fun _ _ _ h => h) (Or.inl ⟨by rfl, ?y1⟩) (by assumption) ?_
        case y1 => (intro w hSw; (try dsimp only at hSw); go_simp; try with_reducible rfl)
        (try simp only [Act.put, List.setIfInBounds_toArray, List.set_cons_zero, List.set_cons_succ])
        refine wpAnyH_take (i := 2) (oi := { dst := some 21, op := Op.fieldAddr 64 (Operand.tmp 20) 0, type := 0, pos := "stream.go:95", after := #[{ on := 1, ground := Ground.data }], guard := none }) (v := ?v2) rfl (by kernel_rfl) (by kernel_rfl) (by kernel_rfl) (fun _ _ _ h => h) (Or.inl ⟨by rfl, ?y2⟩) (by assumption) ?_
        case y2 => (intro w hSw; (try dsimp only at hSw); go_simp; try with_reducible rfl)
        (try simp only [Act.put, List.setIfInBounds_toArray, List.set_cons_zero, List.set_cons_succ])
        refine wpAnyH_take (i := 3) (oi := { dst := some 22, op := Op.load 25 (Operand.tmp 21), type := 25, pos := "stream.go:95", after := #[{ on := 2, ground := Ground.data }], guard := none }) (v := ?v3) rfl (by kernel_rfl) (by kernel_rfl) (by kernel_rfl) (fun _ _ _ h => h) (Or.inl ⟨by rfl, ?y3⟩) (by assumption) ?_
        case y3 => (intro w hSw; (try dsimp only at hSw); go_simp; try with_reducible rfl)
        (try simp only [Act.put, List.setIfInBounds_toArray, List.set_cons_zero, List.set_cons_succ])
        refine wpAnyH_take (i := 4) (oi := { dst := some 23, op := Op.move (Operand.tmp 0), type := 27, pos := "stream.go:95", after := #[], guard := none }) (v := ?v4) rfl (by kernel_rfl) (by kernel_rfl) (by kernel_rfl) (fun _ _ _ h => h) (Or.inl ⟨by rfl, ?y4⟩) (by assumption) ?_
        case y4 => (intro w hSw; (try dsimp only at hSw); go_simp; try with_reducible rfl)
        (try simp only [Act.put, List.setIfInBounds_toArray, List.set_cons_zero, List.set_cons_succ])
        refine wpAnyH_take (i := 5) (oi := { dst := some 24, op := Op.nilCheck (Operand.tmp 23), type := 0, pos := "stream.go:95", after := #[{ on := 4, ground := Ground.data }], guard := none }) (v := ?v5) rfl (by kernel_rfl) (by kernel_rfl) (by kernel_rfl) (fun _ _ _ h => h) (Or.inl ⟨by rfl, ?y5⟩) (by assumption) ?_
        case y5 => (intro w hSw; (try dsimp only at hSw); go_simp; try with_reducible rfl)
        (try simp only [Act.put, List.setIfInBounds_toArray, List.set_cons_zero, List.set_cons_succ])
        refine wpAnyH_take (i := 6) (oi := { dst := some 25, op := Op.fieldAddr 64 (Operand.tmp 24) 1, type := 0, pos := "stream.go:95", after := #[{ on := 5, ground := Ground.data }], guard := none }) (v := ?v6) rfl (by kernel_rfl) (by kernel_rfl) (by kernel_rfl) (fun _ _ _ h => h) (Or.inl ⟨by rfl, ?y6⟩) (by assumption) ?_
        case y6 => (intro w hSw; (try dsimp only at hSw); go_simp; try with_reducible rfl)
        (try simp only [Act.put, List.setIfInBounds_toArray, List.set_cons_zero, List.set_cons_succ])
        refine wpAnyH_take (i := 7) (oi := { dst := some 26, op := Op.load 3 (Operand.tmp 25), type := 3, pos := "stream.go:95", after := #[{ on := 6, ground := Ground.data }], guard := none }) (v := ?v7) rfl (by kernel_rfl) (by kernel_rfl) (by kernel_rfl) (fun _ _ _ h => h) (Or.inl ⟨by rfl, ?y7⟩) (by assumption) ?_
        case y7 => (intro w hSw; (try dsimp only at hSw); go_simp; try with_reducible rfl)
        (try simp only [Act.put, List.setIfInBounds_toArray, List.set_cons_zero, List.set_cons_succ])
        refine wpAnyH_take (i := 8) (oi := { dst := some 27, op := Op.move (Operand.tmp 1), type := 3, pos := "stream.go:95", after := #[], guard := none }) (v := ?v8) rfl (by kernel_rfl) (by kernel_rfl) (by kernel_rfl) (fun _ _ _ h => h) (Or.inl ⟨by rfl, ?y8⟩) (by assumption) ?_
        case y8 => (intro w hSw; (try dsimp only at hSw); go_simp; try with_reducible rfl)
        (try simp only [Act.put, List.setIfInBounds_toArray, List.set_cons_zero, List.set_cons_succ])
        refine wpAnyH_take (i := 9) (oi := { dst := some 28, op := Op.move (Operand.tmp 0), type := 27, pos := "stream.go:95", after := #[], guard := none }) (v := ?v9) rfl (by kernel_rfl) (by kernel_rfl) (by kernel_rfl) (fun _ _ _ h => h) (Or.inl ⟨by rfl, ?y9⟩) (by assumption) ?_
        case y9 => (intro w hSw; (try dsimp only at hSw); go_simp; try with_reducible rfl)
        (try simp only [Act.put, List.setIfInBounds_toArray, List.set_cons_zero, List.set_cons_succ])
        refine wpAnyH_take (i := 10) (oi := { dst := some 29, op := Op.nilCheck (Operand.tmp 28), type := 0, pos := "stream.go:95", after := #[{ on := 9, ground := Ground.data }], guard := none }) (v := ?v10) rfl (by kernel_rfl) (by kernel_rfl) (by kernel_rfl) (fun _ _ _ h => h) (Or.inl ⟨by rfl, ?y10⟩) (by assumption) ?_
        case y10 => (intro w hSw; (try dsimp only at hSw); go_simp; try with_reducible rfl)
        (try simp only [Act.put, List.setIfInBounds_toArray, List.set_cons_zero, List.set_cons_succ])
        refine wpAnyH_take (i := 11) (oi := { dst := some 30, op := Op.fieldAddr 64 (Operand.tmp 29) 2, type := 0, pos := "stream.go:95", after := #[{ on := 10, ground := Ground.data }], guard := none }) (v := ?v11) rfl (by kernel_rfl) (by kernel_rfl) (by kernel_rfl) (fun _ _ _ h => h) (Or.inl ⟨by rfl, ?y11⟩) (by assumption) ?_
        case y11 => (intro w hSw; (try dsimp only at hSw); go_simp; try with_reducible rfl)
        (try simp only [Act.put, List.setIfInBounds_toArray, List.set_cons_zero, List.set_cons_succ])
        refine wpAnyH_take (i := 12) (oi := { dst := some 31, op := Op.load 3 (Operand.tmp 30), type := 3, pos := "stream.go:95", after := #[{ on := 11, ground := Ground.data }], guard := none }) (v := ?v12) rfl (by kernel_rfl) (by kernel_rfl) (by kernel_rfl) (fun _ _ _ h => h) (Or.inl ⟨by rfl, ?y12⟩) (by assumption) ?_
        case y12 => (intro w hSw; (try dsimp only at hSw); go_simp; try with_reducible rfl)
        (try simp only [Act.put, List.setIfInBounds_toArray, List.set_cons_zero, List.set_cons_succ])
        refine wpAnyH_take (i := 13) (oi := { dst := some 32, op := Op.binOp BinOp.mul 3 (Operand.tmp 27) (Operand.tmp 31) 3, type := 3, pos := "stream.go:95", after := #[{ on := 8, ground := Ground.data }, { on := 12, ground := Ground.data }], guard := none }) (v := ?v13) rfl (by kernel_rfl) (by kernel_rfl) (by kernel_rfl) (fun _ _ _ h => h) (Or.inl ⟨by rfl, ?y13⟩) (by assumption) ?_
        case y13 => (intro w hSw; (try dsimp only at hSw); go_simp; try with_reducible rfl)
        (try simp only [Act.put, List.setIfInBounds_toArray, List.set_cons_zero, List.set_cons_succ])
        refine wpAnyH_take (i := 14) (oi := { dst := some 33, op := Op.binOp BinOp.add 3 (Operand.const (Value.int IntKind.i64 1)) (Operand.tmp 32) 3, type := 3, pos := "stream.go:95", after := #[{ on := 13, ground := Ground.data }], guard := none }) (v := ?v14) rfl (by kernel_rfl) (by kernel_rfl) (by kernel_rfl) (fun _ _ _ h => h) (Or.inl ⟨by rfl, ?y14⟩) (by assumption) ?_
        case y14 => (intro w hSw; (try dsimp only at hSw); go_simp; try with_reducible rfl)
        (try simp only [Act.put, List.setIfInBounds_toArray, List.set_cons_zero, List.set_cons_succ])
        refine wpAnyH_take (i := 15) (oi := { dst := some 34, op := Op.move (Operand.tmp 2), type := 3, pos := "stream.go:95", after := #[], guard := none }) (v := ?v15) rfl (by kernel_rfl) (by kernel_rfl) (by kernel_rfl) (fun _ _ _ h => h) (Or.inl ⟨by rfl, ?y15⟩) (by assumption) ?_
        case y15 => (intro w hSw; (try dsimp only at hSw); go_simp; try with_reducible rfl)
        (try simp only [Act.put, List.setIfInBounds_toArray, List.set_cons_zero, List.set_cons_succ])
        refine wpAnyH_take (i := 16) (oi := { dst := some 35, op := Op.binOp BinOp.add 3 (Operand.tmp 33) (Operand.tmp 34) 3, type := 3, pos := "stream.go:95", after := #[{ on := 14, ground := Ground.data }, { on := 15, ground := Ground.data }], guard := none }) (v := ?v16) rfl (by kernel_rfl) (by kernel_rfl) (by kernel_rfl) (fun _ _ _ h => h) (Or.inl ⟨by rfl, ?y16⟩) (by assumption) ?_
        case y16 => (intro w hSw; (try dsimp only at hSw); go_simp; try with_reducible rfl)
        (try simp only [Act.put, List.setIfInBounds_toArray, List.set_cons_zero, List.set_cons_succ])
        refine wpAnyH_take (i := 17) (oi := { dst := some 36, op := Op.move (Operand.tmp 9), type := 3, pos := "stream.go:95", after := #[], guard := none }) (v := ?v17) rfl (by kernel_rfl) (by kernel_rfl) (by kernel_rfl) (fun _ _ _ h => h) (Or.inl ⟨by rfl, ?y17⟩) (by assumption) ?_
        case y17 => (intro w hSw; (try dsimp only at hSw); go_simp; try with_reducible rfl)
        (try simp only [Act.put, List.setIfInBounds_toArray, List.set_cons_zero, List.set_cons_succ])
        refine wpAnyH_take (i := 18) (oi := { dst := some 37, op := Op.binOp BinOp.add 3 (Operand.tmp 35) (Operand.tmp 36) 3, type := 3, pos := "stream.go:95", after := #[{ on := 16, ground := Ground.data }, { on := 17, ground := Ground.data }], guard := none }) (v := ?v18) rfl (by kernel_rfl) (by kernel_rfl) (by kernel_rfl) (fun _ _ _ h => h) (Or.inl ⟨by rfl, ?y18⟩) (by assumption) ?_
        case y18 => (intro w hSw; (try dsimp only at hSw); go_simp; try with_reducible rfl)
        (try simp only [Act.put, List.setIfInBounds_toArray, List.set_cons_zero, List.set_cons_succ])
        refine wpAnyH_take (i := 19) (oi := { dst := some 38, op := Op.move (Operand.tmp 10), type := 9, pos := "stream.go:95", after := #[], guard := none }) (v := ?v19) rfl (by kernel_rfl) (by kernel_rfl) (by kernel_rfl) (fun _ _ _ h => h) (Or.inl ⟨by rfl, ?y19⟩) (by assumption) ?_
        case y19 => (intro w hSw; (try dsimp only at hSw); go_simp; try with_reducible rfl)
        (try simp only [Act.put, List.setIfInBounds_toArray, List.set_cons_zero, List.set_cons_succ])
        refine wpAnyH_ready (rs := [20]) (by kernel_rfl) (by simp) ?_
        refine AllReadyH.cons (o := { dst := some 39, op := Op.call { callee := Callee.value (Operand.func 45), args := #[Operand.tmp 22, Operand.tmp 26, Operand.tmp 37, Operand.tmp 38], argTypes := #[25, 3, 3, 9] }, type := 36, pos := "stream.go:95", after := #[{ on := 3, ground := Ground.data }, { on := 7, ground := Ground.data }, { on := 18, ground := Ground.data }, { on := 19, ground := Ground.data }], guard := none }) rfl (fun K hK => ?_) AllReadyH.nil
        go_simp
        go_at_call 45
        go_loud (refine (HWC.out _ HI4.out HN4.out).mono ?_; rintro e w5 ⟨rfl, hd5, hf5⟩)
        have HD5 := Aside0.mk hd5
        have HF5 := Aside0.mk (HF4.out.trans hf5)
        clear hd5 hf5
        refine hK.out _ _ (HCK.out _ (HF5.out.keep sb HLT.out HSF.out)) (fun hHeld2 => ?_)
        clear hK K hHeld
        have hHeld := hHeld2
        clear hHeld2
        (try simp only [Act.put, List.setIfInBounds_toArray, List.set_cons_zero, List.set_cons_succ])
        refine wpAnyH_ready (rs := [21]) (by kernel_rfl) (by simp) ?_
        refine AllReadyH.cons (o := { dst := some 11, op := Op.assign (Operand.tmp 39), type := 36, pos := "stream.go:95", after := #[{ on := 20, ground := Ground.data }, { on := 20, ground := Ground.chain }, { on := 0, ground := Ground.phase }, { on := 1, ground := Ground.phase }, { on := 2, ground := Ground.phase }, { on := 3, ground := Ground.phase }, { on := 4, ground := Ground.phase }, { on := 5, ground := Ground.phase }, { on := 6, ground := Ground.phase }, { on := 7, ground := Ground.phase }, { on := 8, ground := Ground.phase }, { on := 9, ground := Ground.phase }, { on := 10, ground := Ground.phase }, { on := 11, ground := Ground.phase }, { on := 12, ground := Ground.phase }, { on := 13, ground := Ground.phase }, { on := 14, ground := Ground.phase }, { on := 15, ground := Ground.phase }, { on := 16, ground := Ground.phase }, { on := 17, ground := Ground.phase }, { on := 18, ground := Ground.phase }, { on := 19, ground := Ground.phase }, { on := 20, ground := Ground.phase }], guard := none }) rfl (fun K hK => ?_) AllReadyH.nil
        go_simp
        refine hK.out _ _ (HCK.out _ (HF5.out.keep sb HLT.out HSF.out)) (fun hHeld2 => ?_)
        clear hK K hHeld
        have hHeld := hHeld2
        clear hHeld2
        (try simp only [Act.put, List.setIfInBounds_toArray, List.set_cons_zero, List.set_cons_succ])
        refine wpAnyH_done (by kernel_rfl) ?_ _
        clear hHeld
        go_wp2
        go_ret
        exact ⟨by rw [HREC1.out, HE2.out]; rfl, by rw [HREC1.out]; exact HD5.out, HF5.out⟩
    · have hlt : decide (q < (cs.length : Int)) = false := decide_eq_false (by rw [HQ.out]; omega)
      have HFL : Aside0 (D.lay S.reg b cs = E.flush S.reg) := Aside0.mk (by
        rw [HE.out, List.drop_eq_nil_of_le (by omega)]
        rfl)
      have hbb := HLB.out
      obtain ⟨R, hR, hRL, hRq⟩ := HR.out.2.1.reg
      obtain ⟨sr, hsr⟩ : ∃ s : Int, s = (S.reg : Int) := ⟨_, rfl⟩
      have HWC := Aside0.mk (fun w (h1 : IsDisk N w K E) (h2 : N ≤ w.heap.size) => flush_calls N w K E h1 HR.out.2.1.ok h2 sr S.reg hsr R hR HR.out.2.1.t0 HR.out.2.1.t1)
      have HI4 := Aside0.mk (HR.out.1.below (below_drew1 (Below.refl wr.heap.size wr)))
      have HN4 : Aside0 (N ≤ wr.drew.heap.size) := Aside0.mk (Nat.le_trans hbb.2.2.2 HR.out.2.2.size)
      have HF4 := Aside0.mk (HR.out.2.2.step (below_drew1 (Below.refl wr.heap.size wr)) hbb.2.2.2)
      have hck : ∀ w : World, w.heap[sb]? = W.heap[sb]? → w.cell? ⟨sb, 0, none⟩ = some (.pointer (some ⟨K.db, 0, none⟩)) ∧ w.cell? ⟨sb, 1, none⟩ = some (.int .i64 sr) := fun w h => by
        obtain ⟨a0, a1, a2, _⟩ := IsStr.at (show IsStr w sb K.db S by unfold IsStr; rw [h]; exact HS.out)
        rw [← hsr] at a1
        exact ⟨a0, a1⟩
      have HCK := Aside0.mk hck
      have HLT := Aside0.mk (blk_lt HS.out)
      have hk4 := hck wr.drew (HF4.out.keep sb HLT.out HSF.out)
      generalize E.flush S.reg = PW at *
      clear hck hR hRL hRq hbb hsk hsr
      go_upto_region 8 with (fail)
      refine wp_region_held_drew (S := fun w => w.cell? ⟨sb, 0, none⟩ = some (.pointer (some ⟨K.db, 0, none⟩)) ∧ w.cell? ⟨sb, 1, none⟩ = some (.int .i64 sr)) (by kernel_rfl) hk4 (fun hHeld => ?_)
      clear hk4
      generalize wr.drew = w4 at *
      refine wpAnyH_take (i := 0) (oi := { dst := some 44, op := Op.move (Operand.tmp 0), type := 27, pos := "stream.go:99", after := #[], guard := none }) (v := ?vb0) rfl (by kernel_rfl) (by kernel_rfl) (by kernel_rfl) (fun _ _ _ h => h) (Or.inl ⟨by rfl, ?yb0⟩) (by assumption) ?_
      case yb0 => (intro w hSw; (try dsimp only at hSw); go_simp; try with_reducible rfl)
      (try simp only [Act.put, List.setIfInBounds_toArray, List.set_cons_zero, List.set_cons_succ])
      refine wpAnyH_take (i := 1) (oi := { dst := some 45, op := Op.nilCheck (Operand.tmp 44), type := 0, pos := "stream.go:99", after := #[{ on := 0, ground := Ground.data }], guard := none }) (v := ?vb1) rfl (by kernel_rfl) (by kernel_rfl) (by kernel_rfl) (fun _ _ _ h => h) (Or.inl ⟨by rfl, ?yb1⟩) (by assumption) ?_
      case yb1 => (intro w hSw; (try dsimp only at hSw); go_simp; try with_reducible rfl)
      (try simp only [Act.put, List.setIfInBounds_toArray, List.set_cons_zero, List.set_cons_succ])
      refine wpAnyH_take (i := 2) (oi := { dst := some 46, op := Op.fieldAddr 64 (Operand.tmp 45) 0, type := 0, pos := "stream.go:99", after := #[{ on := 1, ground := Ground.data }], guard := none }) (v := ?vb2) rfl (by kernel_rfl) (by kernel_rfl) (by kernel_rfl) (fun _ _ _ h => h) (Or.inl ⟨by rfl, ?yb2⟩) (by assumption) ?_
      case yb2 => (intro w hSw; (try dsimp only at hSw); go_simp; try with_reducible rfl)
      (try simp only [Act.put, List.setIfInBounds_toArray, List.set_cons_zero, List.set_cons_succ])
      refine wpAnyH_take (i := 3) (oi := { dst := some 47, op := Op.load 25 (Operand.tmp 46), type := 25, pos := "stream.go:99", after := #[{ on := 2, ground := Ground.data }], guard := none }) (v := ?vb3) rfl (by kernel_rfl) (by kernel_rfl) (by kernel_rfl) (fun _ _ _ h => h) (Or.inl ⟨by rfl, ?yb3⟩) (by assumption) ?_
      case yb3 => (intro w hSw; (try dsimp only at hSw); go_simp; try with_reducible rfl)
      (try simp only [Act.put, List.setIfInBounds_toArray, List.set_cons_zero, List.set_cons_succ])
      refine wpAnyH_take (i := 4) (oi := { dst := some 48, op := Op.move (Operand.tmp 0), type := 27, pos := "stream.go:99", after := #[], guard := none }) (v := ?vb4) rfl (by kernel_rfl) (by kernel_rfl) (by kernel_rfl) (fun _ _ _ h => h) (Or.inl ⟨by rfl, ?yb4⟩) (by assumption) ?_
      case yb4 => (intro w hSw; (try dsimp only at hSw); go_simp; try with_reducible rfl)
      (try simp only [Act.put, List.setIfInBounds_toArray, List.set_cons_zero, List.set_cons_succ])
      refine wpAnyH_take (i := 5) (oi := { dst := some 49, op := Op.nilCheck (Operand.tmp 48), type := 0, pos := "stream.go:99", after := #[{ on := 4, ground := Ground.data }], guard := none }) (v := ?vb5) rfl (by kernel_rfl) (by kernel_rfl) (by kernel_rfl) (fun _ _ _ h => h) (Or.inl ⟨by rfl, ?yb5⟩) (by assumption) ?_
      case yb5 => (intro w hSw; (try dsimp only at hSw); go_simp; try with_reducible rfl)
      (try simp only [Act.put, List.setIfInBounds_toArray, List.set_cons_zero, List.set_cons_succ])
      refine wpAnyH_take (i := 6) (oi := { dst := some 50, op := Op.fieldAddr 64 (Operand.tmp 49) 1, type := 0, pos := "stream.go:99", after := #[{ on := 5, ground := Ground.data }], guard := none }) (v := ?vb6) rfl (by kernel_rfl) (by kernel_rfl) (by kernel_rfl) (fun _ _ _ h => h) (Or.inl ⟨by rfl, ?yb6⟩) (by assumption) ?_
      case yb6 => (intro w hSw; (try dsimp only at hSw); go_simp; try with_reducible rfl)
      (try simp only [Act.put, List.setIfInBounds_toArray, List.set_cons_zero, List.set_cons_succ])
      refine wpAnyH_take (i := 7) (oi := { dst := some 51, op := Op.load 3 (Operand.tmp 50), type := 3, pos := "stream.go:99", after := #[{ on := 6, ground := Ground.data }], guard := none }) (v := ?vb7) rfl (by kernel_rfl) (by kernel_rfl) (by kernel_rfl) (fun _ _ _ h => h) (Or.inl ⟨by rfl, ?yb7⟩) (by assumption) ?_
      case yb7 => (intro w hSw; (try dsimp only at hSw); go_simp; try with_reducible rfl)
      (try simp only [Act.put, List.setIfInBounds_toArray, List.set_cons_zero, List.set_cons_succ])
      refine wpAnyH_ready (rs := [8]) (by kernel_rfl) (by simp) ?_
      refine AllReadyH.cons (o := { dst := some 52, op := Op.call { callee := Callee.value (Operand.func 46), args := #[Operand.tmp 47, Operand.tmp 51], argTypes := #[25, 3] }, type := 36, pos := "stream.go:99", after := #[{ on := 3, ground := Ground.data }, { on := 7, ground := Ground.data }], guard := none }) rfl (fun K hK => ?_) AllReadyH.nil
      go_simp
      go_at_call 46
      go_loud (refine (HWC.out _ HI4.out HN4.out).mono ?_; rintro e w5 ⟨rfl, hd5, hf5⟩)
      have HD5 := Aside0.mk hd5
      have HF5 := Aside0.mk (HF4.out.trans hf5)
      clear hd5 hf5
      refine hK.out _ _ (HCK.out _ (HF5.out.keep sb HLT.out HSF.out)) (fun hHeld2 => ?_)
      clear hK K hHeld
      have hHeld := hHeld2
      clear hHeld2
      (try simp only [Act.put, List.setIfInBounds_toArray, List.set_cons_zero, List.set_cons_succ])
      refine wpAnyH_ready (rs := [9]) (by kernel_rfl) (by simp) ?_
      refine AllReadyH.cons (o := { dst := some 8, op := Op.assign (Operand.tmp 52), type := 36, pos := "stream.go:99", after := #[{ on := 8, ground := Ground.data }, { on := 8, ground := Ground.chain }, { on := 0, ground := Ground.phase }, { on := 1, ground := Ground.phase }, { on := 2, ground := Ground.phase }, { on := 3, ground := Ground.phase }, { on := 4, ground := Ground.phase }, { on := 5, ground := Ground.phase }, { on := 6, ground := Ground.phase }, { on := 7, ground := Ground.phase }, { on := 8, ground := Ground.phase }], guard := none }) rfl (fun K hK => ?_) AllReadyH.nil
      go_simp
      refine hK.out _ _ (HCK.out _ (HF5.out.keep sb HLT.out HSF.out)) (fun hHeld2 => ?_)
      clear hK K hHeld
      have hHeld := hHeld2
      clear hHeld2
      (try simp only [Act.put, List.setIfInBounds_toArray, List.set_cons_zero, List.set_cons_succ])
      refine wpAnyH_done (by kernel_rfl) ?_ _
      clear hHeld
      go_wp2
      go_ret
      exact ⟨by rw [HFL.out]; rfl, by rw [HFL.out]; exact HD5.out, HF5.out⟩
end Go.Proofs.YtldkgfhngonnfaaDoor.S
namespace Go.Proofs.YtldkgfhngonnfaaDoor.S
open Go.RowKit Go.Proofs.YtldkgfhngonnfaaDoor.PTopStreams Go.Proofs.YtldkgfhngonnfaaDoorW.PrintWords Go.Proofs.YtldkgfhngonnfaaDoorW.PrintLast Go.Proofs.YtldkgfhngonnfaaDoorW.PrintMore
set_option linter.unusedVariables false
set_option linter.unusedSimpArgs false
/-- The stream is broken. -/
def Str.brk (S : Str) : Str := ⟨S.reg, S.size, S.gen, S.half, S.data, true⟩
set_option maxHeartbeats 1000000 in
set_option maxRecDepth 100000 in
theorem failed_calls (w : World) (sb db : Nat) (S : Str) (h : IsStr w sb db S) (hb : S.broken = false) : Calls Tryd.prog 32 #[.pointer (some ⟨sb, 0, none⟩), .int .i64 11] w fun e w' => e = .returned (.int .i64 11) ∧ IsStr w' sb db S.brk ∧ w.grownBy w' (some sb) ∧ w' = w.setCell ⟨sb, 6, none⟩ (.bool true) := by
  have hu := Tryd.underlying64
  obtain ⟨_, _, _, _, _, _, h6⟩ := h.at
  rw [hb] at h6
  have hz := blk_frozen h 6
  have HP : Aside0 (IsStr (w.setCell ⟨sb, 6, none⟩ (.bool true)) sb db S.brk) := Aside0.mk (blk_put (cs := S.cells db) h 6 _ rfl)
  have HG : Aside0 (w.grownBy (w.setCell ⟨sb, 6, none⟩ (.bool true)) (some sb)) := Aside0.mk (grown_setCell _ _ _ _)
  clear h
  go_enter Tryd.func32, Tryd.ntmps32
  go_wp2
  go_ret
  exact ⟨rfl, HP.out, HG.out, rfl⟩
end Go.Proofs.YtldkgfhngonnfaaDoor.S
namespace Go.Proofs.YtldkgfhngonnfaaDoor.S
open Go.RowKit Go.Proofs.YtldkgfhngonnfaaDoor.PTopStreams Go.Proofs.YtldkgfhngonnfaaDoorW.PrintWords Go.Proofs.YtldkgfhngonnfaaDoorW.PrintLast Go.Proofs.YtldkgfhngonnfaaDoorW.PrintMore
set_option linter.unusedVariables false
set_option linter.unusedSimpArgs false
/-- A cell of a stream is written: the disk stands. -/
theorem IsDisk.set64 {N : Nat} {w : World} {K : Ad} {D : Dsk} (h : IsDisk N w K D) {sb : Nat} {cs : Array Value} (hb : w.heap[sb]? = some (.cells cs 64 (0, 0))) (j : Nat) (v : Value) : IsDisk N (w.setCell ⟨sb, j, none⟩ v) K D := by
  obtain ⟨cr, kv, m1, m2⟩ := h.main
  obtain ⟨rs, r1, r2⟩ := h.row
  obtain ⟨qs, q1, q2, q3⟩ := h.regs
  refine ⟨h.ndb, h.nd1, h.nd2, ⟨cr, kv, blk_far (p := ⟨sb, j, none⟩) m1 (blk_ne m1 hb (by decide)) v, Kd.R_set m2 hb (by rw [show (Kd.int .u64).E = [] from rfl]; simp) j v⟩, ⟨rs, blk_far (p := ⟨sb, j, none⟩) r1 (blk_ne r1 hb (by decide)) v, r2⟩, h.len, h.short, ⟨qs, q1, fun i x R q a b c => ?_, q3⟩⟩
  obtain ⟨h0, cl, h1, h2, h3⟩ := q2 i x R q a b c
  exact ⟨h0, cl, blk_far (p := ⟨sb, j, none⟩) h1 (blk_ne h1 hb (by decide)) v, Kd.R_set h2 hb (by rw [show Kd.string.E = [] from rfl]; simp) j v, Kd.R_set h3 hb (by rw [show KW.E = [] from rfl]; simp) j v⟩
/-- What a call on a stream leaves as it was. -/
structure Fs (K : Ad) (sb N : Nat) (W w : World) : Prop where
  below : Below N W w
  size : W.heap.size ≤ w.heap.size
  keep : ∀ k, k < W.heap.size → Free K W k → k ≠ sb → w.heap[k]? = W.heap[k]?
theorem Fs.of_fd {K : Ad} {sb N : Nat} {W w : World} (h : Fd K N W w) : Fs K sb N W w := ⟨h.below, h.size, fun k hk hf _ => h.keep k hk hf⟩
theorem Fs.trans {K : Ad} {sb N : Nat} {W w1 w2 : World} (h : Fs K sb N W w1) (h2 : Fs K sb N w1 w2) : Fs K sb N W w2 :=
  ⟨h.below.trans h2.below, Nat.le_trans h.size h2.size, fun k hk hf hn => by
    have e := h.keep k hk hf hn
    rw [h2.keep k (Nat.lt_of_lt_of_le hk h.size) (hf.step e) hn, e]⟩
theorem Fs.grown {K : Ad} {sb N : Nat} {W w : World} (hg : W.grownBy w (some sb)) (hb : N ≤ sb) (hN : N ≤ W.heap.size) : Fs K sb N W w :=
  ⟨(Below.refl N W).grown hg hN (fun k e => by injection e with e; omega), hg.size, fun k hk _ hn => hg.block k hk (fun e => hn (by injection e))⟩
set_option maxHeartbeats 1000000 in
set_option maxRecDepth 100000 in
theorem fput_empty (W : World) : Calls Tryd.prog 29 #[.string ⟨#[]⟩] W fun e w' => e = .returned (.tuple #[.string ⟨#[]⟩, .int .i64 2]) ∧ W = w' := by
  go_enter Tryd.func29, Tryd.ntmps29
  go_wp2
  go_ret2
  exact ⟨rfl, rfl⟩
set_option maxHeartbeats 1000000 in
set_option maxRecDepth 100000 in
theorem append_empty (W : World) (sb db : Nat) (S : Str) (h : IsStr W sb db S) (hb : S.broken = false) : Calls Tryd.prog 12 #[.pointer (some ⟨sb, 0, none⟩), .string ⟨#[]⟩] W fun e w' => e = .returned (.int .i64 2) ∧ W = w' := by
  have HM := Aside0.mk (may_calls W sb db S h hb)
  have HP := Aside0.mk (fput_empty W)
  clear h
  go_enter Tryd.func12, Tryd.ntmps12
  go_wp2_with (first | (go_at_call 28; go_loud (refine HM.out.mono ?_; rintro e w1 ⟨rfl, rfl⟩)) | (go_at_call 29; go_loud (refine HP.out.mono ?_; rintro e w1 ⟨rfl, rfl⟩)))
  go_ret
  exact ⟨rfl, rfl⟩
set_option maxHeartbeats 1000000 in
set_option maxRecDepth 100000 in
theorem append_full (W : World) (sb db : Nat) (S : Str) (h : IsStr W sb db S) (hb : S.broken = false) (b : ByteArray) (h1 : 1 ≤ b.size) (h2 : b.size ≤ 4096) (hs : S.size ≤ 5000) (hd : S.data.size < 1000000) (hf : (S.size : Int) * 55 - 1 - (S.data.size : Int) < ((frm b).size : Int)) :
    Calls Tryd.prog 12 #[.pointer (some ⟨sb, 0, none⟩), .string b] W fun e w' => e = .returned (.int .i64 12) ∧ Below W.heap.size W w' := by
  have HM := Aside0.mk (may_calls W sb db S h hb)
  have HP := Aside0.mk (fput_calls b h1 h2 W)
  have HL := Aside0.mk (fun w (h : IsStr w sb db S) => left_calls w sb db S h hs hd)
  have HI := Aside0.mk h
  generalize frm b = f at *
  obtain ⟨l, hl⟩ : ∃ l : Int, (S.size : Int) * 55 - 1 - (S.data.size : Int) = l := ⟨_, rfl⟩
  rw [hl] at hf HL
  have hc : decide (l < (f.size : Int)) = true := decide_eq_true hf
  clear h hl hf
  go_enter Tryd.func12, Tryd.ntmps12
  go_wp2_with (first | (go_at_call 28; go_loud (refine HM.out.mono ?_; rintro e w1 ⟨rfl, rfl⟩)) | (go_at_call 29; go_loud (refine HP.out.mono ?_; rintro e w1 ⟨rfl, hb⟩; have HB1 := Aside0.mk hb; have HI1 := Aside0.mk (HI.out.below hb); clear hb)) | (go_at_call 13; go_loud (refine (HL.out _ HI1.out).mono ?_; rintro e w2 ⟨rfl, hb⟩; have HB2 := Aside0.mk (below_step HB1.out hb); clear hb)))
  go_ret
  exact ⟨rfl, HB2.out⟩
end Go.Proofs.YtldkgfhngonnfaaDoor.S
namespace Go.Proofs.YtldkgfhngonnfaaDoor.S
open Go.RowKit Go.Proofs.YtldkgfhngonnfaaDoor.PTopStreams Go.Proofs.YtldkgfhngonnfaaDoorW.PrintWords Go.Proofs.YtldkgfhngonnfaaDoorW.PrintLast Go.Proofs.YtldkgfhngonnfaaDoorW.PrintMore
set_option linter.unusedVariables false
set_option linter.unusedSimpArgs false
/-- A row of texts that is one's own is read whatever happens elsewhere. -/
theorem F_own {w : World} {base : Nat} {A : Option Addr} {c : Nat} {xs : List ByteArray} (h : Kd.R Kd.string 9 w base (fun _ => True) (.slice A xs.length c) xs) :
    Kd.F Kd.string w (fun k => base ≤ k ∧ k < w.heap.size ∧ ∃ cells, w.heap[k]? = some (.cells cells 9 (0, 0))) A xs.length xs := by
  have hb := Kd.R_bound h
  intro W' hW
  have h2 := Kd.R_step hb (fun k hk hlt => hW k ⟨hk.2.1, hk.2.2.1, by
    obtain ⟨q, hq, cells, hc⟩ := hk.2.2.2
    have : q = 9 := by
      rw [show Kd.string.E = [] from rfl] at hq
      simpa using hq
    exact ⟨cells, this ▸ hc⟩⟩ hlt)
  obtain ⟨A', c', e, _, hC⟩ := Kd.R_reads h2
  injection e with e1 e2 e3
  subst e1
  exact hC
/-- A block of texts that came later is none of the disk's. -/
theorem free_own {K : Ad} {N : Nat} {W w : World} {D : Dsk} (h : IsDisk N W K D) (hb : Below W.heap.size W w) {k : Nat} (hk : W.heap.size ≤ k ∧ k < w.heap.size ∧ ∃ cells, w.heap[k]? = some (.cells cells 9 (0, 0))) : Free K w k := by
  obtain ⟨h1, _, cells, hc⟩ := hk
  obtain ⟨cr, kv, m1, _⟩ := h.main
  obtain ⟨qs, q1, q2, _⟩ := h.regs
  refine ⟨⟨?_, fun x hx => ?_⟩, fun cs fr e => ?_⟩
  · have := blk_lt m1; omega
  · obtain ⟨i, hi, rfl⟩ := List.getElem_of_mem hx
    have hR := q2 i _ _ _ (List.getElem?_eq_getElem hi) (List.getElem?_eq_getElem (by rw [h.len]; exact hi)) (List.getElem?_eq_getElem (by rw [q1]; exact hi))
    obtain ⟨_, cl, k1, k2, _⟩ := hR
    have a : K.ps[i].1 < W.heap.size := blk_lt k1
    have b : K.ps[i].2 < W.heap.size := Kd.R_lt k2 _ rfl
    exact ⟨by omega, by omega⟩
  · rw [hc] at e
    injection e with e
    injection e with _ e _
    cases e
/-- What Append comes to: the disk, the error. -/
def Str.app (S : Str) (D : Dsk) (f : ByteArray) : Dsk × Int :=
  D.lay S.reg (1 + S.half * S.size + S.data.size / 55) (cellsOf S.gen (S.data.size / 55) (chunks ((S.data ++ f).extract (S.data.size / 55 * 55) (S.data ++ f).size)))
def Str.more (S : Str) (f : ByteArray) : Str := ⟨S.reg, S.size, S.gen, S.half, S.data ++ f, S.broken⟩
theorem chunks_len : ∀ (n : Nat) (d : ByteArray), d.size = n → (chunks d).length = d.size / 55 + 1 := by
  intro n
  induction n using Nat.strongRecOn with
  | _ n ih =>
    intro d hd
    by_cases h : d.size < 55
    · rw [chunks_short h]; simp; omega
    · rw [chunks_long h, List.length_cons, ih (d.extract 55 d.size).size (by rw [extract_size]; omega) _ rfl, extract_size]
      omega
theorem cellsOf_size (g i : Nat) (L : List ByteArray) (h : ∀ c ∈ L, c.size ≤ 55) : ∀ x ∈ cellsOf g i L, x.size = 64 := by
  intro x hx
  unfold cellsOf at hx
  obtain ⟨j, hj, rfl⟩ := List.mem_mapIdx.1 hx
  exact cellB_size _ _ _ (h _ (List.getElem_mem _))
theorem chunks_size : ∀ (n : Nat) (d : ByteArray), d.size = n → ∀ c ∈ chunks d, c.size ≤ 55 := by
  intro n
  induction n using Nat.strongRecOn with
  | _ n ih =>
    intro d hd c hc
    by_cases h : d.size < 55
    · rw [chunks_short h] at hc
      simp at hc; subst hc; omega
    · rw [chunks_long h] at hc
      rcases List.mem_cons.1 hc with rfl | hc
      · rw [ByteArray.size_extract]; omega
      · exact ih _ (by rw [extract_size]; omega) _ rfl c hc
theorem lay_err (n : Nat) : ∀ (cs : List ByteArray) (D : Dsk) (s : Nat), (D.lay n s cs).2 = 0 ∨ (D.lay n s cs).2 = 11
  | [], D, s => by
    show (D.flush n).2 = 0 ∨ (D.flush n).2 = 11
    unfold Dsk.flush
    split
    · exact .inr rfl
    · split
      · exact .inr rfl
      · exact .inl rfl
  | c :: cs, D, s => by
    show (if (D.write n (s : Int) c).2 = 0 then Dsk.lay (D.write n (s : Int) c).1 n (s + 1) cs else D.write n (s : Int) c).2 = 0 ∨ _ = _
    simp only [Dsk.lay]
    split
    · exact lay_err n cs _ _
    · exact write_err D n s c
set_option maxHeartbeats 2000000 in
set_option maxRecDepth 100000 in
theorem append_calls (N : Nat) (W : World) (K : Ad) (D : Dsk) (hD : IsDisk N W K D) (hN : N ≤ W.heap.size) (sb : Nat) (S : Str) (hS : IsStr W sb K.db S) (hSN : N ≤ sb) (hSf : Free K W sb) (L : Nat) (hr : Rdy D S.reg L 0) (hb : S.broken = false) (hsz : S.size ≤ 1000) (hh : S.half ≤ 1) (hL : 1 + 2 * S.size ≤ L) (hL9 : L ≤ 5000) (hg1 : 1 ≤ S.gen) (hg2 : S.gen < 281474976710656)
    (b : ByteArray) (h1 : 1 ≤ b.size) (h2 : b.size ≤ 4096) (hfit : S.data.size + (frm b).size + 1 ≤ S.size * 55) :
    Calls Tryd.prog 12 #[.pointer (some ⟨sb, 0, none⟩), .string b] W fun e w' => e = .returned (.int .i64 (S.app D (frm b)).2) ∧ IsDisk N w' K (S.app D (frm b)).1 ∧ IsStr w' sb K.db (if (S.app D (frm b)).2 = 0 then S.more (frm b) else S.brk) ∧ Fs K sb N W w' := by
  have hu := Tryd.underlying64
  have hu9 := Tryd.underlying9
  have HM := Aside0.mk (may_calls W sb K.db S hS hb)
  have HP := Aside0.mk (fput_calls b h1 h2 W)
  have HLF := Aside0.mk (fun w (h : IsStr w sb K.db S) => left_calls w sb K.db S h (by omega) (by omega))
  have HI := Aside0.mk hS
  obtain ⟨f, hf⟩ : ∃ f, f = frm b := ⟨_, rfl⟩
  rw [← hf] at hfit HP ⊢
  obtain ⟨all, hall⟩ : ∃ x, S.data ++ f = x := ⟨_, rfl⟩
  obtain ⟨last, hlast⟩ : ∃ n, n = S.data.size / 55 := ⟨_, rfl⟩
  have hasz : all.size = S.data.size + f.size := by rw [← hall, ByteArray.size_append]
  obtain ⟨tail, htail⟩ : ∃ x, all.extract (last * 55) all.size = x := ⟨_, rfl⟩
  have htsz : tail.size = all.size - last * 55 := by rw [← htail, extract_size]
  obtain ⟨cs, hcs⟩ : ∃ x, x = cellsOf S.gen last (chunks tail) := ⟨_, rfl⟩
  have hcl : cs.length = tail.size / 55 + 1 := by rw [hcs, cellsOf_len, chunks_len _ tail rfl]
  have h64 : ∀ x ∈ cs, x.size = 64 := by rw [hcs]; exact cellsOf_size _ _ _ (chunks_size _ tail rfl)
  have happ : S.app D f = D.lay S.reg (1 + S.half * S.size + last) cs := by unfold Str.app; rw [hall, ← hlast, htail, ← hcs]
  have hmore : S.more f = ⟨S.reg, S.size, S.gen, S.half, all, S.broken⟩ := by unfold Str.more; rw [hall]
  have hroom : 1 + S.half * S.size + last + cs.length ≤ L := by
    have : S.half * S.size ≤ S.size := by
      rcases (show S.half = 0 ∨ S.half = 1 by omega) with e | e <;> rw [e] <;> omega
    omega
  have HRM := Aside0.mk hroom
  have H64 := Aside0.mk h64
  have HAP := Aside0.mk happ
  have HMO := Aside0.mk hmore
  have hper := lay_err S.reg cs D (1 + S.half * S.size + last)
  rw [happ, hmore]
  obtain ⟨lst, hls⟩ : ∃ x : Int, x = (last : Int) := ⟨_, rfl⟩
  obtain ⟨gi, hgi⟩ : ∃ x : Int, x = (S.gen : Int) := ⟨_, rfl⟩
  obtain ⟨hfi, hhf⟩ : ∃ x : Int, x = (S.half : Int) := ⟨_, rfl⟩
  have hz5 : S.data.size + f.size ≤ 55000 := by omega
  have hz : ¬ 9223372036854775807 < S.data.size + f.size := Nat.not_lt.2 (Nat.le_trans hz5 (by decide))
  have HZ := Aside0.mk hz
  clear hz
  have HSP := Aside0.mk (fun w => split_calls S.gen last tail gi lst hgi hls hg1 hg2 (by omega) (by omega) w)
  rw [← hcs] at HSP
  have HLY := Aside0.mk (fun (w : World) (D1 : IsDisk N w K D) (n1 : N ≤ w.heap.size) (s1 : IsStr w sb K.db S) (f1 : Free K w sb) (A : Option Addr) (c : Nat) (ok : Nat → Prop) (k1 : Kd.F Kd.string w ok A cs.length cs) (k2 : ∀ k, ok k → Free K w k) => lay_calls N w K D D1 n1 sb S s1 f1 L hr S.half last hfi lst hhf hls hh (by omega) A c cs ok k1 k2 h64 hroom hL9)
  have hq1 : decide ((S.size : Int) * 55 - 1 - (S.data.size : Int) < (f.size : Int)) = false := decide_eq_false (by omega)
  have hq3 : (S.data.size : Int) / 55 = lst := by rw [hls, hlast]; exact (Int.natCast_ediv S.data.size 55).symm
  have hl0 : 0 ≤ lst := by omega
  have hl9 : lst ≤ 5000 := by omega
  obtain ⟨l55, hl55⟩ : ∃ x : Int, lst * 55 = x := ⟨_, rfl⟩
  have hw55 : IntKind.i64.wrap l55 = l55 := by rw [IntKind.wrap_i64]; omega
  have ht0 : 0 ≤ l55 := by omega
  have ht1 : l55 ≤ (all.size : Int) := by omega
  rw [show last * 55 = l55.toNat by omega] at htail
  have hq2 : wrap64 ((S.data.size : Int) / 55) = lst := by rw [hq3]; exact wrap64_in (by omega) (by omega)
  have HBR := Aside0.mk hb
  have HGI := Aside0.mk hgi
  have HHF := Aside0.mk hhf
  have HD := Aside0.mk hD
  have HF := Aside0.mk hSf
  have HN := Aside0.mk (show N ≤ W.heap.size ∧ N ≤ sb from ⟨hN, hSN⟩)
  obtain ⟨x0, x1, x2, x3, x4, x5, x6⟩ := hS.at
  rw [← hgi] at x3
  rw [← hhf] at x4
  generalize D.lay S.reg (1 + S.half * S.size + last) cs = PW at *
  clear hS hD hSf hN hSN hr hb hsz hL hL9 hg1 hg2 h1 h2 hfit hasz htsz hcs hcl h64 happ hmore hroom hgi hhf hls hlast hf hh x0 x1 x2 x6
  clear x3 x4 x5
  obtain ⟨ST, hST⟩ : ∃ s : Str, s = (if PW.2 = 0 then (⟨S.reg, S.size, S.gen, S.half, all, S.broken⟩ : Str) else S.brk) := ⟨_, rfl⟩
  rw [← hST]
  have HST := Aside0.mk hST
  clear hST
  have hz := HZ.out
  go_enter Tryd.func12, Tryd.ntmps12
  go_upto_region 9 with (first | (go_at_call 28; go_loud (refine HM.out.mono ?_; rintro e w1 ⟨rfl, rfl⟩)) | (go_at_call 29; go_loud (refine HP.out.mono ?_; rintro e w2 ⟨rfl, hb⟩; have HB2 := Aside0.mk hb; have HI2 := Aside0.mk (HI.out.below hb); clear hb)) | (go_at_call 13; go_loud (refine (HLF.out _ HI2.out).mono ?_; rintro e w3 ⟨rfl, hb⟩; have HB3 := Aside0.mk (below_step HB2.out hb); have HI3 := Aside0.mk (HI2.out.below hb); clear hb)))
  obtain ⟨_, _, _, x3, x4, x5, _⟩ := HI3.out.at
  rw [← HGI.out] at x3
  rw [← HHF.out] at x4
  go_upto_region 11 with (fail)
  have HI4 := Aside0.mk (HI3.out.below (below_drew1 (Below.refl w3.heap.size w3)))
  have HB4 := Aside0.mk (below_step HB3.out (below_drew1 (Below.refl w3.heap.size w3)))
  refine wp_region_held_drew (S := fun w => w.cell? ⟨sb, 3, none⟩ = some (.int .i64 gi)) (by kernel_rfl) x3 (fun hHeld => ?_)
  clear x3 x4 x5
  generalize w3.drew = w4 at *
  refine wpAnyH_take (i := 0) (oi := { dst := some 46, op := Op.move (Operand.tmp 0), type := 27, pos := "stream.go:164", after := #[], guard := none }) (v := ?v0) rfl (by kernel_rfl) (by kernel_rfl) (by kernel_rfl) (fun _ _ _ h => h) (Or.inl ⟨by rfl, ?y0⟩) (by assumption) ?_
  case y0 => (intro w hSw; (try dsimp only at hSw); go_simp; try with_reducible rfl)
  (try simp only [Act.put, List.setIfInBounds_toArray, List.set_cons_zero, List.set_cons_succ])
  refine wpAnyH_take (i := 1) (oi := { dst := some 47, op := Op.nilCheck (Operand.tmp 46), type := 0, pos := "stream.go:164", after := #[{ on := 0, ground := Ground.data }], guard := none }) (v := ?v1) rfl (by kernel_rfl) (by kernel_rfl) (by kernel_rfl) (fun _ _ _ h => h) (Or.inl ⟨by rfl, ?y1⟩) (by assumption) ?_
  case y1 => (intro w hSw; (try dsimp only at hSw); go_simp; try with_reducible rfl)
  (try simp only [Act.put, List.setIfInBounds_toArray, List.set_cons_zero, List.set_cons_succ])
  refine wpAnyH_take (i := 2) (oi := { dst := some 48, op := Op.fieldAddr 64 (Operand.tmp 47) 3, type := 0, pos := "stream.go:164", after := #[{ on := 1, ground := Ground.data }], guard := none }) (v := ?v2) rfl (by kernel_rfl) (by kernel_rfl) (by kernel_rfl) (fun _ _ _ h => h) (Or.inl ⟨by rfl, ?y2⟩) (by assumption) ?_
  case y2 => (intro w hSw; (try dsimp only at hSw); go_simp; try with_reducible rfl)
  (try simp only [Act.put, List.setIfInBounds_toArray, List.set_cons_zero, List.set_cons_succ])
  refine wpAnyH_take (i := 3) (oi := { dst := some 49, op := Op.load 2 (Operand.tmp 48), type := 2, pos := "stream.go:164", after := #[{ on := 2, ground := Ground.data }], guard := none }) (v := ?v3) rfl (by kernel_rfl) (by kernel_rfl) (by kernel_rfl) (fun _ _ _ h => h) (Or.inl ⟨by rfl, ?y3⟩) (by assumption) ?_
  case y3 => (intro w hSw; (try dsimp only at hSw); go_simp; try with_reducible rfl)
  (try simp only [Act.put, List.setIfInBounds_toArray, List.set_cons_zero, List.set_cons_succ])
  refine wpAnyH_take (i := 4) (oi := { dst := some 50, op := Op.move (Operand.tmp 8), type := 3, pos := "stream.go:164", after := #[], guard := none }) (v := ?v4) rfl (by kernel_rfl) (by kernel_rfl) (by kernel_rfl) (fun _ _ _ h => h) (Or.inl ⟨by rfl, ?y4⟩) (by assumption) ?_
  case y4 => (intro w hSw; (try dsimp only at hSw); go_simp; try with_reducible rfl)
  (try simp only [Act.put, List.setIfInBounds_toArray, List.set_cons_zero, List.set_cons_succ])
  refine wpAnyH_take (i := 5) (oi := { dst := some 51, op := Op.move (Operand.tmp 9), type := 9, pos := "stream.go:164", after := #[], guard := none }) (v := ?v5) rfl (by kernel_rfl) (by kernel_rfl) (by kernel_rfl) (fun _ _ _ h => h) (Or.inl ⟨by rfl, ?y5⟩) (by assumption) ?_
  case y5 => (intro w hSw; (try dsimp only at hSw); go_simp; try with_reducible rfl)
  (try simp only [Act.put, List.setIfInBounds_toArray, List.set_cons_zero, List.set_cons_succ])
  refine wpAnyH_take (i := 6) (oi := { dst := some 52, op := Op.move (Operand.tmp 8), type := 3, pos := "stream.go:164", after := #[], guard := none }) (v := ?v6) rfl (by kernel_rfl) (by kernel_rfl) (by kernel_rfl) (fun _ _ _ h => h) (Or.inl ⟨by rfl, ?y6⟩) (by assumption) ?_
  case y6 => (intro w hSw; (try dsimp only at hSw); go_simp; try with_reducible rfl)
  (try simp only [Act.put, List.setIfInBounds_toArray, List.set_cons_zero, List.set_cons_succ])
  refine wpAnyH_take (i := 7) (oi := { dst := some 53, op := Op.binOp BinOp.mul 3 (Operand.tmp 52) (Operand.const (Value.int IntKind.i64 55)) 3, type := 3, pos := "stream.go:164", after := #[{ on := 6, ground := Ground.data }], guard := none }) (v := ?v7) rfl (by kernel_rfl) (by kernel_rfl) (by kernel_rfl) (fun _ _ _ h => h) (Or.inl ⟨by rfl, ?y7⟩) (by assumption) ?_
  case y7 => (intro w hSw; (try dsimp only at hSw); go_simp; try with_reducible rfl)
  (try simp only [Act.put, List.setIfInBounds_toArray, List.set_cons_zero, List.set_cons_succ])
  refine wpAnyH_take (i := 8) (oi := { dst := some 54, op := Op.slice 9 (Operand.tmp 51) (some (Operand.tmp 53)) none none, type := 9, pos := "stream.go:164", after := #[{ on := 5, ground := Ground.data }, { on := 7, ground := Ground.data }], guard := none }) (v := ?v8) rfl (by kernel_rfl) (by kernel_rfl) (by kernel_rfl) (fun _ _ _ h => h) (Or.inl ⟨by rfl, ?y8⟩) (by assumption) ?_
  case y8 => (intro w hSw; (try dsimp only at hSw); go_simp; try with_reducible rfl)
  (try simp only [Act.put, List.setIfInBounds_toArray, List.set_cons_zero, List.set_cons_succ])
  refine wpAnyH_ready (rs := [9]) (by kernel_rfl) (by simp) ?_
  refine AllReadyH.cons (o := { dst := some 55, op := Op.call { callee := Callee.value (Operand.func 30), args := #[Operand.tmp 49, Operand.tmp 50, Operand.tmp 54], argTypes := #[2, 3, 9] }, type := 61, pos := "stream.go:164", after := #[{ on := 3, ground := Ground.data }, { on := 4, ground := Ground.data }, { on := 8, ground := Ground.data }], guard := none }) rfl (fun KK hK => ?_) AllReadyH.nil
  go_simp
  go_at_call 30
  go_loud (refine (HSP.out _).mono ?_; rintro e w5 ⟨v, rfl, hr5, hb5⟩)
  have HI5 := Aside0.mk (HI4.out.below hb5)
  have HB5 := Aside0.mk (below_step HB4.out hb5)
  have HR5 := Aside0.mk hr5
  clear hb5 hr5
  have k5 : w5.cell? ⟨sb, 3, none⟩ = some (.int .i64 gi) := by rw [HGI.out]; exact HI5.out.at.2.2.2.1
  have x4 : w5.cell? ⟨sb, 4, none⟩ = some (.int .i64 hfi) := by rw [HHF.out]; exact HI5.out.at.2.2.2.2.1
  obtain ⟨A5, c5, rfl⟩ := Kd.R_slice HR5.out
  have hfree5 : Free K w5 sb := HF.out.step (HB5.out.block sb (blk_lt HI.out))
  have hn5 : N ≤ w5.heap.size := Nat.le_trans HN.out.1 HB5.out.size
  have HL5 := Aside0.mk (HLY.out w5 (HD.out.below HB5.out) hn5 HI5.out hfree5 A5 c5 _ (F_own HR5.out) (fun k hk => free_own HD.out HB5.out ⟨Nat.le_trans HB4.out.size hk.1, hk.2⟩))
  have H6 : Aside0 (∀ w6, Fd K N w5 w6 → IsStr w6 sb K.db S ∧ N ≤ w6.heap.size ∧ Fs K sb N W w6) := Aside0.mk (fun w6 h6 => ⟨by
    unfold IsStr
    rw [h6.keep sb (blk_lt HI5.out) hfree5]
    exact HI5.out, Nat.le_trans hn5 h6.size, Fs.of_fd ((Fd.of_below HB5.out HN.out.1).trans h6)⟩)
  refine hK.out _ _ k5 (fun hHeld2 => ?_)
  clear hK KK hHeld
  have hHeld := hHeld2
  clear hHeld2
  (try simp only [Act.put, List.setIfInBounds_toArray, List.set_cons_zero, List.set_cons_succ])
  refine wpAnyH_ready (rs := [10]) (by kernel_rfl) (by simp) ?_
  refine AllReadyH.cons (o := { dst := some 45, op := Op.move (Operand.tmp 55), type := 61, pos := "stream.go:164", after := #[{ on := 9, ground := Ground.data }], guard := none }) rfl (fun KK hK => ?_) AllReadyH.nil
  go_simp
  refine hK.out _ _ k5 (fun hHeld2 => ?_)
  clear hK KK hHeld
  have hHeld := hHeld2
  clear hHeld2
  (try simp only [Act.put, List.setIfInBounds_toArray, List.set_cons_zero, List.set_cons_succ])
  refine wpAnyH_take (i := 11) (oi := { dst := some 56, op := Op.extract (Operand.tmp 45) 0, type := 29, pos := "stream.go:164", after := #[{ on := 10, ground := Ground.data }], guard := none }) (v := ?v11) rfl (by kernel_rfl) (by kernel_rfl) (by kernel_rfl) (fun _ _ _ h => h) (Or.inl ⟨by rfl, ?y11⟩) (by assumption) ?_
  case y11 => (intro w hSw; (try dsimp only at hSw); go_simp; try with_reducible rfl)
  (try simp only [Act.put, List.setIfInBounds_toArray, List.set_cons_zero, List.set_cons_succ])
  refine wpAnyH_take (i := 12) (oi := { dst := some 57, op := Op.extract (Operand.tmp 45) 1, type := 36, pos := "stream.go:164", after := #[{ on := 10, ground := Ground.data }, { on := 13, ground := Ground.gcOnly Departure.lateStores }], guard := none }) (v := ?v12) rfl (by kernel_rfl) (by kernel_rfl) (by kernel_rfl) (fun _ _ _ h => h) (Or.inl ⟨by rfl, ?y12⟩) (by assumption) ?_
  case y12 => (intro w hSw; (try dsimp only at hSw); go_simp; try with_reducible rfl)
  (try simp only [Act.put, List.setIfInBounds_toArray, List.set_cons_zero, List.set_cons_succ])
  refine wpAnyH_ready (rs := [13]) (by kernel_rfl) (by simp) ?_
  refine AllReadyH.cons (o := { dst := some 10, op := Op.assign (Operand.tmp 56), type := 29, pos := "stream.go:164", after := #[{ on := 11, ground := Ground.data }, { on := 9, ground := Ground.chain }, { on := 0, ground := Ground.phase }, { on := 1, ground := Ground.phase }, { on := 2, ground := Ground.phase }, { on := 3, ground := Ground.phase }, { on := 4, ground := Ground.phase }, { on := 5, ground := Ground.phase }, { on := 6, ground := Ground.phase }, { on := 7, ground := Ground.phase }, { on := 8, ground := Ground.phase }, { on := 9, ground := Ground.phase }, { on := 10, ground := Ground.phase }, { on := 11, ground := Ground.phase }, { on := 12, ground := Ground.textOnly Departure.lateStores }], guard := none }) rfl (fun KK hK => ?_) AllReadyH.nil
  go_simp
  refine hK.out _ _ k5 (fun hHeld2 => ?_)
  clear hK KK hHeld
  have hHeld := hHeld2
  clear hHeld2
  (try simp only [Act.put, List.setIfInBounds_toArray, List.set_cons_zero, List.set_cons_succ])
  refine wpAnyH_ready (rs := [14]) (by kernel_rfl) (by simp) ?_
  refine AllReadyH.cons (o := { dst := some 11, op := Op.assign (Operand.tmp 57), type := 36, pos := "stream.go:164", after := #[{ on := 12, ground := Ground.data }, { on := 13, ground := Ground.chain }, { on := 0, ground := Ground.phase }, { on := 1, ground := Ground.phase }, { on := 2, ground := Ground.phase }, { on := 3, ground := Ground.phase }, { on := 4, ground := Ground.phase }, { on := 5, ground := Ground.phase }, { on := 6, ground := Ground.phase }, { on := 7, ground := Ground.phase }, { on := 8, ground := Ground.phase }, { on := 9, ground := Ground.phase }, { on := 10, ground := Ground.phase }, { on := 11, ground := Ground.phase }, { on := 12, ground := Ground.phase }, { on := 13, ground := Ground.phase }], guard := none }) rfl (fun KK hK => ?_) AllReadyH.nil
  go_simp
  refine hK.out _ _ k5 (fun hHeld2 => ?_)
  clear hK KK hHeld
  have hHeld := hHeld2
  clear hHeld2
  (try simp only [Act.put, List.setIfInBounds_toArray, List.set_cons_zero, List.set_cons_succ])
  refine wpAnyH_done (by kernel_rfl) ?_ _
  clear hHeld k5 hfree5 hn5 HLY HSP HLF HM HP HI2 HI3 HI4 HB2 HB3 HB4
  rcases hper with he | he
  · rw [he] at HL5
    have HEE := Aside0.mk he
    clear he
    go_wp2_with (first | (go_at_call 31; go_loud (refine HL5.out.mono ?_; rintro e w6 ⟨rfl, hd6, hf6⟩; obtain ⟨i6, n6, s6⟩ := H6.out w6 hf6; have HI6 := Aside0.mk i6; have HS6 := Aside0.mk s6; have HD6 := Aside0.mk hd6; have y5 := i6.at.2.2.2.2.2.1; have z5 := blk_frozen i6 5; clear hd6 hf6 i6 s6)))
    go_ret
    exact ⟨by first | rfl | (rw [HEE.out]; rfl), HD6.out.set64 HI6.out 5 _, by rw [HST.out, if_pos HEE.out]; exact blk_put (cs := S.cells K.db) HI6.out 5 _ rfl, HS6.out.trans (Fs.grown (grown_setCell _ _ _ _) HN.out.2 n6)⟩
  · rw [he] at HL5
    have HEE := Aside0.mk he
    clear he
    go_wp2_with (first | (go_at_call 31; go_loud (refine HL5.out.mono ?_; rintro e w6 ⟨rfl, hd6, hf6⟩; obtain ⟨i6, n6, s6⟩ := H6.out w6 hf6; have HI6 := Aside0.mk i6; have HS6 := Aside0.mk s6; have HD6 := Aside0.mk hd6; have HFA := Aside0.mk (failed_calls w6 sb K.db S i6 HBR.out); clear hd6 hf6 i6 s6)) | (go_at_call 32; go_loud (refine HFA.out.mono ?_; rintro e w7 ⟨rfl, i7, g7, rfl⟩; have HI7 := Aside0.mk i7; have HG7 := Aside0.mk g7; clear i7 g7)))
    go_ret
    exact ⟨by first | rfl | (rw [HEE.out]; rfl), HD6.out.set64 HI6.out 6 _, by rw [HST.out, if_neg (by rw [HEE.out]; decide)]; exact HI7.out, HS6.out.trans (Fs.grown HG7.out HN.out.2 n6)⟩
end Go.Proofs.YtldkgfhngonnfaaDoor.S
