/- area.Make. area.Parse. area.Parse, walked. area.Newest. stream.head, stream.parse. area.Split. The stream's small functions. stream.read. -/
import Derived.Test.YtldkgfhngonnfaaDoorMB
import Derived.Lib.BufferWrite
namespace Go.Proofs.YtldkgfhngonnfaaDoor.S
open Go.RowKit Go.Proofs.YtldkgfhngonnfaaDoor.PTopStreams Go.Proofs.YtldkgfhngonnfaaDoorW.PrintWords Go.Proofs.YtldkgfhngonnfaaDoorW.PrintLast Go.Proofs.YtldkgfhngonnfaaDoorW.PrintMore
set_option linter.unusedVariables false
set_option linter.unusedSimpArgs false
theorem copy_hrun2 {P : Program} {a : Act} {o : Oper} {W w1 : World} (t1 t2 : TypeId) (s x : Operand) (ho : o.op = .call { callee := .builtin .copy, args := #[s, x], argTypes := #[t1, t2] }) {v vx r : Value} (hs : a.eval s = v) (hx : a.eval x = vx)
    (hr : (Builtin.copy_ #[t1, t2] o.type #[v, vx]).run P W = .ok r w1) : (execOp a.eval o).run P W = .ok (.value r) w1 := by
  unfold execOp
  simp only [ho, resolve, invoke, builtin, Sem.run_bind, Sem.run_pure, Result.andThen_ok, List.map_toArray, List.map_cons, List.map_nil, hs, hx, hr]
/-- The bytes of a text, as numbers. -/
def numsB (s : ByteArray) : List Int := s.data.toList.map fun b => (b.toNat : Int)
theorem numsB_back (s : ByteArray) : strOfNums (numsB s) = s := by
  unfold strOfNums numsB
  rw [List.map_map]
  have : ((fun n : Int => UInt8.ofNat n.toNat) ∘ fun b : UInt8 => (b.toNat : Int)) = id := by funext b; simp
  rw [this, List.map_id, Array.toArray_toList]
theorem numsB_len (s : ByteArray) : (numsB s).length = s.size := by unfold numsB; rw [List.length_map, Array.length_toList]; rfl
theorem zerosL (n : Nat) : (zeros n).data.toList = List.replicate n 0 := by
  unfold zeros; rfl
def cellH (g i : Nat) (d : ByteArray) : ByteArray := putB 6 g ++ putB 2 i ++ putB 1 d.size ++ d
/-- The sector of a cell. -/
def cellB (g i : Nat) (d : ByteArray) : ByteArray := cellH g i d ++ zeros (55 - d.size)
theorem cellH_size (g i : Nat) (d : ByteArray) : (cellH g i d).size = 9 + d.size := by
  unfold cellH
  rw [ByteArray.size_append, ByteArray.size_append, ByteArray.size_append, putB_size, putB_size, putB_size]
/-- A text is copied into 64 noughts: what is read. -/
theorem row64 (w w1 : World) (g : Nat) (t : TypeId) (h : ByteArray) (hs : h.size ≤ 64) (hb : w1.heap[g]? = some (.cells ((List.replicate 64 (Value.int .u8 0)).take 0 ++ Lib.byteCells h.data.toList ++ (List.replicate 64 (Value.int .u8 0)).drop (0 + h.size)).toArray t (0, 0))) :
    (convert 90 9 (.slice (some ⟨g, 0, none⟩) 64 64)).run Tryd.prog w1 = .ok (.string (h ++ zeros (64 - h.size))) w1 := by
  have e : ((List.replicate 64 (Value.int .u8 0)).take 0 ++ Lib.byteCells h.data.toList ++ (List.replicate 64 (Value.int .u8 0)).drop (0 + h.size)) = (numsB (h ++ zeros (64 - h.size))).map (Value.int .u8) := by
    unfold numsB Lib.byteCells
    rw [ByteArray.data_append, Array.toList_append, zerosL, List.map_append, List.map_append, List.map_map, List.map_replicate, List.map_replicate, List.drop_replicate]
    simp
  rw [e] at hb
  have hz : (zeros (64 - h.size)).size = 64 - h.size := by
    show (zeros (64 - h.size)).data.size = _
    rw [← Array.length_toList, zerosL, List.length_replicate]
  have hl : (numsB (h ++ zeros (64 - h.size))).length = 64 := by rw [numsB_len, ByteArray.size_append, hz]; omega
  have := string_of_reads (P := Tryd.prog) (w := w1) (c := 64) Tryd.underlying90 Tryd.underlying5 Tryd.underlying9 (A := some ⟨g, 0, none⟩) (n := 64) (xs := numsB (h ++ zeros (64 - h.size))) ⟨hl, by decide, fun _ => ⟨_, rfl, fun j hj => by
    rw [add_at, blk_cell hb j]
    rw [List.getElem?_toArray, List.getElem?_map, List.getElem?_eq_getElem (by omega), List.getD_eq_getElem?_getD, List.getElem?_eq_getElem (by omega)]
    rfl⟩⟩
  rw [numsB_back] at this
  exact this
set_option maxHeartbeats 1000000 in
set_option maxRecDepth 100000 in
theorem make_calls (g i : Nat) (d : ByteArray) (gi ii : Int) (hgi : gi = (g : Int)) (hii : ii = (i : Int)) (hg1 : 1 ≤ g) (hg2 : g < 281474976710656) (hi : i ≤ 65535) (hd : d.size ≤ 55) (W : World) : Calls Tryd.prog 50 #[.agg #[.int .i64 gi, .int .i64 ii, .string d]] W fun e w' => e = .returned (.tuple #[.string (cellB g i d), .int .i64 0]) ∧ Below W.heap.size W w' := by
  have hu94 := Tryd.underlying94
  have hu122 := Tryd.underlying122
  have HG : Aside0 (area_good.f gi ii = some true) := Aside0.mk (by
    unfold area_good.f
    rw [if_pos (by omega), if_pos (by omega), if_pos (by omega), decide_eq_true (by omega)])
  have h55 : decide ((55 : Int) < (d.size : Int)) = false := decide_eq_false (by omega)
  have hp6 : Aside0 (words_Put.f 10 6 gi = some (putB 6 g)) := Aside0.mk (by rw [hgi]; exact put6 g)
  have hp2 : Aside0 (words_Put.f 10 2 ii = some (putB 2 i)) := Aside0.mk (by rw [hii]; exact put2 i)
  have hp1 : Aside0 (words_Put.f 10 1 (d.size : Int) = some (putB 1 d.size)) := Aside0.mk (put1 d.size)
  have hz1 : ¬ 9223372036854775807 < (putB 6 g).size + (putB 2 i).size := by rw [putB_size, putB_size]; omega
  have hz2 : ¬ 9223372036854775807 < (putB 6 g).size + (putB 2 i).size + (putB 1 d.size).size := by rw [putB_size, putB_size, putB_size]; omega
  have hz3 : ¬ 9223372036854775807 < (putB 6 g).size + (putB 2 i).size + (putB 1 d.size).size + d.size := by rw [putB_size, putB_size, putB_size]; omega
  have hsz := cellH_size g i d
  have HCB : Aside0 (cellH g i d ++ zeros (64 - (cellH g i d).size) = cellB g i d) := Aside0.mk (by unfold cellB; rw [hsz, show 64 - (9 + d.size) = 55 - d.size by omega])
  have HH : Aside0 (cellH g i d = putB 6 g ++ putB 2 i ++ putB 1 d.size ++ d) := Aside0.mk rfl
  have HSZ : Aside0 ((cellH g i d).size ≤ 64) := Aside0.mk (by omega)
  generalize cellB g i d = cB at *
  generalize cellH g i d = cH at *
  generalize putB 6 g = b6 at *
  generalize putB 2 i = b2 at *
  generalize putB 1 d.size = b1 at *
  have hg0 : 0 ≤ gi := by omega
  have hg9 : gi < 281474976710656 := by omega
  have hi0 : 0 ≤ ii := by omega
  have hi9 : ii ≤ 65535 := by omega
  have HB0 := Aside0.mk (below_alloc (Below.refl W.heap.size W) (.cells #[.int .i64 gi, .int .i64 ii, .string d] 94))
  have HX := Aside0.mk (blk_new W (.cells #[.int .i64 gi, .int .i64 ii, .string d] 94))
  have x0 : (W.alloc (.cells #[.int .i64 gi, .int .i64 ii, .string d] 94)).cell? ⟨W.heap.size, 0, none⟩ = some (.int .i64 gi) := (blk_cell HX.out 0).trans rfl
  have x1 : (W.alloc (.cells #[.int .i64 gi, .int .i64 ii, .string d] 94)).cell? ⟨W.heap.size, 1, none⟩ = some (.int .i64 ii) := (blk_cell HX.out 1).trans rfl
  have x2 : (W.alloc (.cells #[.int .i64 gi, .int .i64 ii, .string d] 94)).cell? ⟨W.heap.size, 2, none⟩ = some (.string d) := (blk_cell HX.out 2).trans rfl
  have hw6 : IntKind.u64.wrap gi = gi := by rw [IntKind.wrap_u64]; omega
  have hw2 : IntKind.u64.wrap ii = ii := by rw [IntKind.wrap_u64]; omega
  have hw1 : IntKind.u64.wrap (d.size : Int) = (d.size : Int) := by rw [IntKind.wrap_u64]; omega
  clear hgi hii hg1 hg2 hi hd hsz
  go_enter Tryd.func50, Tryd.ntmps50
  go_upto_region 1 with (fail)
  have hs0 := HB0.out.size
  generalize W.alloc (.cells #[.int .i64 gi, .int .i64 ii, .string d] 94) = w0 at *
  go_upto_region 5 with (first | (go_at_call 49; go_loud (refine (area_good.calls _ _ _ _ HG.out).mono ?_; rintro e w2 ⟨rfl, hb⟩; have HX2 := Aside0.mk (blk_below HX.out hb.below); have HB2 := Aside0.mk (below_step HB0.out hb.below); have y0 : w2.cell? ⟨W.heap.size, 0, none⟩ = some (.int .i64 gi) := (blk_cell HX2.out 0).trans rfl; have y1 : w2.cell? ⟨W.heap.size, 1, none⟩ = some (.int .i64 ii) := (blk_cell HX2.out 1).trans rfl; have y2 : w2.cell? ⟨W.heap.size, 2, none⟩ = some (.string d) := (blk_cell HX2.out 2).trans rfl; clear x0 x1 x2 hb HX HG)))
  have hb3 := below_alloc (Below.refl w2.heap.size w2) (.cells #[.int .u8 0, .int .u8 0, .int .u8 0, .int .u8 0, .int .u8 0, .int .u8 0, .int .u8 0, .int .u8 0, .int .u8 0, .int .u8 0, .int .u8 0, .int .u8 0, .int .u8 0, .int .u8 0, .int .u8 0, .int .u8 0, .int .u8 0, .int .u8 0, .int .u8 0, .int .u8 0, .int .u8 0, .int .u8 0, .int .u8 0, .int .u8 0, .int .u8 0, .int .u8 0, .int .u8 0, .int .u8 0, .int .u8 0, .int .u8 0, .int .u8 0, .int .u8 0, .int .u8 0, .int .u8 0, .int .u8 0, .int .u8 0, .int .u8 0, .int .u8 0, .int .u8 0, .int .u8 0, .int .u8 0, .int .u8 0, .int .u8 0, .int .u8 0, .int .u8 0, .int .u8 0, .int .u8 0, .int .u8 0, .int .u8 0, .int .u8 0, .int .u8 0, .int .u8 0, .int .u8 0, .int .u8 0, .int .u8 0, .int .u8 0, .int .u8 0, .int .u8 0, .int .u8 0, .int .u8 0, .int .u8 0, .int .u8 0, .int .u8 0, .int .u8 0] 122)
  have HB3 := Aside0.mk (below_step HB2.out hb3)
  have HX3 := Aside0.mk (blk_below HX2.out hb3)
  have HZ3 := Aside0.mk (blk_new w2 (.cells #[.int .u8 0, .int .u8 0, .int .u8 0, .int .u8 0, .int .u8 0, .int .u8 0, .int .u8 0, .int .u8 0, .int .u8 0, .int .u8 0, .int .u8 0, .int .u8 0, .int .u8 0, .int .u8 0, .int .u8 0, .int .u8 0, .int .u8 0, .int .u8 0, .int .u8 0, .int .u8 0, .int .u8 0, .int .u8 0, .int .u8 0, .int .u8 0, .int .u8 0, .int .u8 0, .int .u8 0, .int .u8 0, .int .u8 0, .int .u8 0, .int .u8 0, .int .u8 0, .int .u8 0, .int .u8 0, .int .u8 0, .int .u8 0, .int .u8 0, .int .u8 0, .int .u8 0, .int .u8 0, .int .u8 0, .int .u8 0, .int .u8 0, .int .u8 0, .int .u8 0, .int .u8 0, .int .u8 0, .int .u8 0, .int .u8 0, .int .u8 0, .int .u8 0, .int .u8 0, .int .u8 0, .int .u8 0, .int .u8 0, .int .u8 0, .int .u8 0, .int .u8 0, .int .u8 0, .int .u8 0, .int .u8 0, .int .u8 0, .int .u8 0, .int .u8 0] 122))
  have hs2 := blk_lt HX2.out
  clear y0 y1 y2 hb3 HX2
  clear HB2
  go_upto_region 6 with (fail)
  generalize w2.alloc (.cells #[.int .u8 0, .int .u8 0, .int .u8 0, .int .u8 0, .int .u8 0, .int .u8 0, .int .u8 0, .int .u8 0, .int .u8 0, .int .u8 0, .int .u8 0, .int .u8 0, .int .u8 0, .int .u8 0, .int .u8 0, .int .u8 0, .int .u8 0, .int .u8 0, .int .u8 0, .int .u8 0, .int .u8 0, .int .u8 0, .int .u8 0, .int .u8 0, .int .u8 0, .int .u8 0, .int .u8 0, .int .u8 0, .int .u8 0, .int .u8 0, .int .u8 0, .int .u8 0, .int .u8 0, .int .u8 0, .int .u8 0, .int .u8 0, .int .u8 0, .int .u8 0, .int .u8 0, .int .u8 0, .int .u8 0, .int .u8 0, .int .u8 0, .int .u8 0, .int .u8 0, .int .u8 0, .int .u8 0, .int .u8 0, .int .u8 0, .int .u8 0, .int .u8 0, .int .u8 0, .int .u8 0, .int .u8 0, .int .u8 0, .int .u8 0, .int .u8 0, .int .u8 0, .int .u8 0, .int .u8 0, .int .u8 0, .int .u8 0, .int .u8 0, .int .u8 0] 122) = w3 at *
  generalize w2.heap.size = ab at *
  have HZ4 : Aside0 (w3.drew.heap[ab]? = some (.cells (List.replicate 64 (Value.int .u8 0)).toArray 122 (0, 0))) := Aside0.mk HZ3.out
  have HB4 := Aside0.mk (below_drew1 HB3.out)
  have HX4 : Aside0 (w3.drew.heap[W.heap.size]? = some (.cells #[.int .i64 gi, .int .i64 ii, .string d] 94 (0, 0))) := Aside0.mk HX3.out
  have hab : ab < w3.drew.heap.size := blk_lt HZ4.out
  clear HZ3 HB3 HX3
  have hS : ∀ w : World, w.heap[W.heap.size]? = some (.cells #[.int .i64 gi, .int .i64 ii, .string d] 94 (0, 0)) → w.cell? ⟨W.heap.size, 0, none⟩ = some (.int .i64 gi) ∧ w.cell? ⟨W.heap.size, 1, none⟩ = some (.int .i64 ii) ∧ w.cell? ⟨W.heap.size, 2, none⟩ = some (.string d) := fun w h => ⟨(blk_cell h 0).trans rfl, (blk_cell h 1).trans rfl, (blk_cell h 2).trans rfl⟩
  have HS := Aside0.mk hS
  clear hS
  refine wp_region_held_drew (S := fun w => w.cell? ⟨W.heap.size, 0, none⟩ = some (.int .i64 gi) ∧ w.cell? ⟨W.heap.size, 1, none⟩ = some (.int .i64 ii) ∧ w.cell? ⟨W.heap.size, 2, none⟩ = some (.string d)) (by kernel_rfl) (HS.out _ HX4.out) (fun hHeld => ?_)
  generalize w3.drew = w4 at *
  refine wpAnyH_take (i := 0) (oi := { dst := some 17, op := Op.slice 122 (Operand.tmp 4) none none none, type := 90, pos := "area.go:40", after := #[], guard := none }) (v := ?v0) rfl (by kernel_rfl) (by kernel_rfl) (by kernel_rfl) (fun _ _ _ h => h) (Or.inl ⟨by rfl, ?y0⟩) (by assumption) ?_
  case y0 => (intro w hSw; (try dsimp only at hSw); go_simp; try with_reducible rfl)
  (try simp only [Act.put, List.setIfInBounds_toArray, List.set_cons_zero, List.set_cons_succ])
  refine wpAnyH_take (i := 1) (oi := { dst := some 18, op := Op.fieldAddr 94 (Operand.tmp 1) 0, type := 0, pos := "area.go:40", after := #[], guard := none }) (v := ?v1) rfl (by kernel_rfl) (by kernel_rfl) (by kernel_rfl) (fun _ _ _ h => h) (Or.inl ⟨by rfl, ?y1⟩) (by assumption) ?_
  case y1 => (intro w hSw; (try dsimp only at hSw); go_simp; try with_reducible rfl)
  (try simp only [Act.put, List.setIfInBounds_toArray, List.set_cons_zero, List.set_cons_succ])
  refine wpAnyH_take (i := 2) (oi := { dst := some 19, op := Op.load 2 (Operand.tmp 18), type := 2, pos := "area.go:40", after := #[{ on := 1, ground := Ground.data }], guard := none }) (v := ?v2) rfl (by kernel_rfl) (by kernel_rfl) (by kernel_rfl) (fun _ _ _ h => h) (Or.inl ⟨by rfl, ?y2⟩) (by assumption) ?_
  case y2 => (intro w hSw; (try dsimp only at hSw); go_simp; try with_reducible rfl)
  (try simp only [Act.put, List.setIfInBounds_toArray, List.set_cons_zero, List.set_cons_succ])
  refine wpAnyH_take (i := 3) (oi := { dst := some 20, op := Op.convert 2 32 (Operand.tmp 19), type := 32, pos := "area.go:40", after := #[{ on := 2, ground := Ground.data }], guard := none }) (v := ?v3) rfl (by kernel_rfl) (by kernel_rfl) (by kernel_rfl) (fun _ _ _ h => h) (Or.inl ⟨by rfl, ?y3⟩) (by assumption) ?_
  case y3 => (intro w hSw; (try dsimp only at hSw); go_simp; try with_reducible rfl)
  (try simp only [Act.put, List.setIfInBounds_toArray, List.set_cons_zero, List.set_cons_succ])
  refine wpAnyH_take (i := 5) (oi := { dst := some 22, op := Op.fieldAddr 94 (Operand.tmp 1) 1, type := 0, pos := "area.go:40", after := #[], guard := none }) (v := ?v5) rfl (by kernel_rfl) (by kernel_rfl) (by kernel_rfl) (fun _ _ _ h => h) (Or.inl ⟨by rfl, ?y5⟩) (by assumption) ?_
  case y5 => (intro w hSw; (try dsimp only at hSw); go_simp; try with_reducible rfl)
  (try simp only [Act.put, List.setIfInBounds_toArray, List.set_cons_zero, List.set_cons_succ])
  refine wpAnyH_take (i := 6) (oi := { dst := some 23, op := Op.load 3 (Operand.tmp 22), type := 3, pos := "area.go:40", after := #[{ on := 5, ground := Ground.data }], guard := none }) (v := ?v6) rfl (by kernel_rfl) (by kernel_rfl) (by kernel_rfl) (fun _ _ _ h => h) (Or.inl ⟨by rfl, ?y6⟩) (by assumption) ?_
  case y6 => (intro w hSw; (try dsimp only at hSw); go_simp; try with_reducible rfl)
  (try simp only [Act.put, List.setIfInBounds_toArray, List.set_cons_zero, List.set_cons_succ])
  refine wpAnyH_take (i := 7) (oi := { dst := some 24, op := Op.convert 3 32 (Operand.tmp 23), type := 32, pos := "area.go:40", after := #[{ on := 6, ground := Ground.data }], guard := none }) (v := ?v7) rfl (by kernel_rfl) (by kernel_rfl) (by kernel_rfl) (fun _ _ _ h => h) (Or.inl ⟨by rfl, ?y7⟩) (by assumption) ?_
  case y7 => (intro w hSw; (try dsimp only at hSw); go_simp; try with_reducible rfl)
  (try simp only [Act.put, List.setIfInBounds_toArray, List.set_cons_zero, List.set_cons_succ])
  refine wpAnyH_take (i := 10) (oi := { dst := some 27, op := Op.fieldAddr 94 (Operand.tmp 1) 2, type := 0, pos := "area.go:40", after := #[], guard := none }) (v := ?v10) rfl (by kernel_rfl) (by kernel_rfl) (by kernel_rfl) (fun _ _ _ h => h) (Or.inl ⟨by rfl, ?y10⟩) (by assumption) ?_
  case y10 => (intro w hSw; (try dsimp only at hSw); go_simp; try with_reducible rfl)
  (try simp only [Act.put, List.setIfInBounds_toArray, List.set_cons_zero, List.set_cons_succ])
  refine wpAnyH_take (i := 11) (oi := { dst := some 28, op := Op.load 9 (Operand.tmp 27), type := 9, pos := "area.go:40", after := #[{ on := 10, ground := Ground.data }], guard := none }) (v := ?v11) rfl (by kernel_rfl) (by kernel_rfl) (by kernel_rfl) (fun _ _ _ h => h) (Or.inl ⟨by rfl, ?y11⟩) (by assumption) ?_
  case y11 => (intro w hSw; (try dsimp only at hSw); go_simp; try with_reducible rfl)
  (try simp only [Act.put, List.setIfInBounds_toArray, List.set_cons_zero, List.set_cons_succ])
  refine wpAnyH_take (i := 12) (oi := { dst := some 29, op := Op.call { callee := Callee.builtin Builtin.len, args := #[Operand.tmp 28], argTypes := #[9] }, type := 3, pos := "area.go:40", after := #[{ on := 11, ground := Ground.data }], guard := none }) (v := ?v12) rfl (by kernel_rfl) (by kernel_rfl) (by kernel_rfl) (fun _ _ _ h => h) (Or.inl ⟨by rfl, ?y12⟩) (by assumption) ?_
  case y12 => (intro w hSw; (try dsimp only at hSw); go_simp; try with_reducible rfl)
  (try simp only [Act.put, List.setIfInBounds_toArray, List.set_cons_zero, List.set_cons_succ])
  refine wpAnyH_take (i := 13) (oi := { dst := some 30, op := Op.convert 3 32 (Operand.tmp 29), type := 32, pos := "area.go:40", after := #[{ on := 12, ground := Ground.data }], guard := none }) (v := ?v13) rfl (by kernel_rfl) (by kernel_rfl) (by kernel_rfl) (fun _ _ _ h => h) (Or.inl ⟨by rfl, ?y13⟩) (by assumption) ?_
  case y13 => (intro w hSw; (try dsimp only at hSw); go_simp; try with_reducible rfl)
  (try simp only [Act.put, List.setIfInBounds_toArray, List.set_cons_zero, List.set_cons_succ])
  refine wpAnyH_take (i := 16) (oi := { dst := some 33, op := Op.fieldAddr 94 (Operand.tmp 1) 2, type := 0, pos := "area.go:40", after := #[], guard := none }) (v := ?v16) rfl (by kernel_rfl) (by kernel_rfl) (by kernel_rfl) (fun _ _ _ h => h) (Or.inl ⟨by rfl, ?y16⟩) (by assumption) ?_
  case y16 => (intro w hSw; (try dsimp only at hSw); go_simp; try with_reducible rfl)
  (try simp only [Act.put, List.setIfInBounds_toArray, List.set_cons_zero, List.set_cons_succ])
  refine wpAnyH_take (i := 17) (oi := { dst := some 34, op := Op.load 9 (Operand.tmp 33), type := 9, pos := "area.go:40", after := #[{ on := 16, ground := Ground.data }], guard := none }) (v := ?v17) rfl (by kernel_rfl) (by kernel_rfl) (by kernel_rfl) (fun _ _ _ h => h) (Or.inl ⟨by rfl, ?y17⟩) (by assumption) ?_
  case y17 => (intro w hSw; (try dsimp only at hSw); go_simp; try with_reducible rfl)
  (try simp only [Act.put, List.setIfInBounds_toArray, List.set_cons_zero, List.set_cons_succ])
  refine wpAnyH_ready (rs := [4]) (by kernel_rfl) (by simp) ?_
  refine AllReadyH.cons (o := { dst := some 21, op := Op.call { callee := Callee.value (Operand.func 47), args := #[Operand.const (Value.int IntKind.i64 6), Operand.tmp 20], argTypes := #[3, 32] }, type := 9, pos := "area.go:40", after := #[{ on := 3, ground := Ground.data }], guard := none }) rfl (fun K hK => ?_) AllReadyH.nil
  go_simp
  (go_at_call 47; go_loud (refine (words_Put.calls 10 _ _ _ _ hp6.out).mono ?_; rintro e w5 ⟨rfl, hb⟩))
  have HB5 := Aside0.mk (below_step HB4.out hb)
  have HX5 := Aside0.mk (blk_below HX4.out hb)
  have HZ5 := Aside0.mk (blk_below HZ4.out hb)
  clear hb
  refine hK.out _ _ (HS.out _ HX5.out) (fun hHeld2 => ?_)
  clear hK K hHeld
  have hHeld := hHeld2
  clear hHeld2
  (try simp only [Act.put, List.setIfInBounds_toArray, List.set_cons_zero, List.set_cons_succ])
  refine wpAnyH_ready (rs := [8]) (by kernel_rfl) (by simp) ?_
  refine AllReadyH.cons (o := { dst := some 25, op := Op.call { callee := Callee.value (Operand.func 47), args := #[Operand.const (Value.int IntKind.i64 2), Operand.tmp 24], argTypes := #[3, 32] }, type := 9, pos := "area.go:40", after := #[{ on := 7, ground := Ground.data }, { on := 4, ground := Ground.chain }], guard := none }) rfl (fun K hK => ?_) AllReadyH.nil
  go_simp
  (go_at_call 47; go_loud (refine (words_Put.calls 10 _ _ _ _ hp2.out).mono ?_; rintro e w6 ⟨rfl, hb⟩))
  have HB6 := Aside0.mk (below_step HB5.out hb)
  have HX6 := Aside0.mk (blk_below HX5.out hb)
  have HZ6 := Aside0.mk (blk_below HZ5.out hb)
  clear hb
  refine hK.out _ _ (HS.out _ HX6.out) (fun hHeld2 => ?_)
  clear hK K hHeld
  have hHeld := hHeld2
  clear hHeld2
  (try simp only [Act.put, List.setIfInBounds_toArray, List.set_cons_zero, List.set_cons_succ])
  refine wpAnyH_take (i := 9) (oi := { dst := some 26, op := Op.binOp BinOp.add 9 (Operand.tmp 21) (Operand.tmp 25) 9, type := 9, pos := "area.go:40", after := #[{ on := 4, ground := Ground.data }, { on := 8, ground := Ground.data }], guard := none }) (v := ?v9) rfl (by kernel_rfl) (by kernel_rfl) (by kernel_rfl) (fun _ _ _ h => h) (Or.inl ⟨by rfl, ?y9⟩) (by assumption) ?_
  case y9 => (intro w hSw; (try dsimp only at hSw); go_simp; try with_reducible rfl)
  (try simp only [Act.put, List.setIfInBounds_toArray, List.set_cons_zero, List.set_cons_succ])
  refine wpAnyH_ready (rs := [14]) (by kernel_rfl) (by simp) ?_
  refine AllReadyH.cons (o := { dst := some 31, op := Op.call { callee := Callee.value (Operand.func 47), args := #[Operand.const (Value.int IntKind.i64 1), Operand.tmp 30], argTypes := #[3, 32] }, type := 9, pos := "area.go:40", after := #[{ on := 13, ground := Ground.data }, { on := 8, ground := Ground.chain }], guard := none }) rfl (fun K hK => ?_) AllReadyH.nil
  go_simp
  (go_at_call 47; go_loud (refine (words_Put.calls 10 _ _ _ _ hp1.out).mono ?_; rintro e w7 ⟨rfl, hb⟩))
  have HB7 := Aside0.mk (below_step HB6.out hb)
  have HX7 := Aside0.mk (blk_below HX6.out hb)
  have HZ7 := Aside0.mk (blk_below HZ6.out hb)
  clear hb
  refine hK.out _ _ (HS.out _ HX7.out) (fun hHeld2 => ?_)
  clear hK K hHeld
  have hHeld := hHeld2
  clear hHeld2
  (try simp only [Act.put, List.setIfInBounds_toArray, List.set_cons_zero, List.set_cons_succ])
  refine wpAnyH_take (i := 15) (oi := { dst := some 32, op := Op.binOp BinOp.add 9 (Operand.tmp 26) (Operand.tmp 31) 9, type := 9, pos := "area.go:40", after := #[{ on := 9, ground := Ground.data }, { on := 14, ground := Ground.data }], guard := none }) (v := ?v15) rfl (by kernel_rfl) (by kernel_rfl) (by kernel_rfl) (fun _ _ _ h => h) (Or.inl ⟨by rfl, ?y15⟩) (by assumption) ?_
  case y15 => (intro w hSw; (try dsimp only at hSw); go_simp; try with_reducible rfl)
  (try simp only [Act.put, List.setIfInBounds_toArray, List.set_cons_zero, List.set_cons_succ])
  refine wpAnyH_take (i := 18) (oi := { dst := some 35, op := Op.binOp BinOp.add 9 (Operand.tmp 32) (Operand.tmp 34) 9, type := 9, pos := "area.go:40", after := #[{ on := 15, ground := Ground.data }, { on := 17, ground := Ground.data }], guard := none }) (v := ?v18) rfl (by kernel_rfl) (by kernel_rfl) (by kernel_rfl) (fun _ _ _ h => h) (Or.inl ⟨by rfl, ?y18⟩) (by assumption) ?_
  case y18 => (intro w hSw; (try dsimp only at hSw); go_simp; try with_reducible rfl)
  (try simp only [Act.put, List.setIfInBounds_toArray, List.set_cons_zero, List.set_cons_succ])
  rw [← HH.out]
  have HCP := Aside0.mk (Lib.run_copy_row_string (P := Tryd.prog) w7 90 9 3 5 ab 0 64 64 cH _ 122 Tryd.underlying90 (by kernel_rfl) HZ7.out HSZ.out (by have := HSZ.out; simp; omega))
  rw [List.toList_toArray] at HCP
  have hcv := row64 w7 (w7.setRow ab ((List.replicate 64 (Value.int .u8 0)).take 0 ++ Lib.byteCells cH.data.toList ++ (List.replicate 64 (Value.int .u8 0)).drop (0 + cH.size)).toArray) ab 122 cH HSZ.out (setRow_heap w7 ab _ _ 122 (0, 0) HZ7.out)
  rw [HCB.out] at hcv
  have HB8 : Aside0 (Below W.heap.size W (w7.setRow ab ((List.replicate 64 (Value.int .u8 0)).take 0 ++ Lib.byteCells cH.data.toList ++ (List.replicate 64 (Value.int .u8 0)).drop (0 + cH.size)).toArray)) := Aside0.mk (HB7.out.trans ⟨rfl, rfl, rfl, by simp, fun k hk => setRow_other _ _ _ _ (by omega)⟩)
  have HX8 : Aside0 ((w7.setRow ab ((List.replicate 64 (Value.int .u8 0)).take 0 ++ Lib.byteCells cH.data.toList ++ (List.replicate 64 (Value.int .u8 0)).drop (0 + cH.size)).toArray).heap[W.heap.size]? = some (.cells #[.int .i64 gi, .int .i64 ii, .string d] 94 (0, 0))) := Aside0.mk (by rw [setRow_other _ _ _ _ (by omega)]; exact HX7.out)
  generalize hw8 : w7.setRow ab ((List.replicate 64 (Value.int .u8 0)).take 0 ++ Lib.byteCells cH.data.toList ++ (List.replicate 64 (Value.int .u8 0)).drop (0 + cH.size)).toArray = w8 at *
  clear hw8 HZ7 HX7 HB7 HZ6 HX6 HB6 HZ5 HX5 HB5 HZ4 HX4 HB4
  refine wpAnyH_ready (rs := [19]) (by kernel_rfl) (by simp) ?_
  refine AllReadyH.cons (o := { dst := some 36, op := Op.call { callee := Callee.builtin Builtin.copy, args := #[Operand.tmp 17, Operand.tmp 35], argTypes := #[90, 9] }, type := 3, pos := "area.go:40", after := #[{ on := 0, ground := Ground.data }, { on := 18, ground := Ground.data }, { on := 14, ground := Ground.chain }], guard := none }) rfl (fun K hK => ?_) AllReadyH.nil
  refine event_step rfl (copy_hrun2 90 9 (.tmp 17) (.tmp 35) rfl rfl rfl HCP.out) ?_
  refine hK.out _ _ (HS.out _ HX8.out) (fun hHeld2 => ?_)
  clear hK K hHeld
  have hHeld := hHeld2
  clear hHeld2
  (try simp only [Act.put, List.setIfInBounds_toArray, List.set_cons_zero, List.set_cons_succ])
  refine wpAnyH_done (by kernel_rfl) ?_ _
  clear hHeld
  go_wp2
  go_ret2
  exact ⟨rfl, HB8.out⟩
end Go.Proofs.YtldkgfhngonnfaaDoor.S
namespace Go.Proofs.YtldkgfhngonnfaaDoor.S
open Go.RowKit Go.Proofs.YtldkgfhngonnfaaDoor.PTopStreams Go.Proofs.YtldkgfhngonnfaaDoorW.PrintWords Go.Proofs.YtldkgfhngonnfaaDoorW.PrintLast Go.Proofs.YtldkgfhngonnfaaDoorW.PrintMore
set_option linter.unusedVariables false
set_option linter.unusedSimpArgs false
theorem zeros_size (n : Nat) : (zeros n).size = n := by
  show (zeros n).data.size = _
  rw [← Array.length_toList, zerosL, List.length_replicate]
theorem cellB_size (g i : Nat) (d : ByteArray) (hd : d.size ≤ 55) : (cellB g i d).size = 64 := by
  unfold cellB
  rw [ByteArray.size_append, cellH_size, zeros_size]; omega
theorem extract_right (a b : ByteArray) (i j : Nat) (hj : i ≤ j) : (a ++ b).extract (a.size + i) (a.size + j) = b.extract i j := by
  rw [ByteArray.extract_append]
  have e : a.extract (a.size + i) (a.size + j) = ByteArray.empty := by
    apply ByteArray.ext
    rw [ByteArray.data_extract]
    apply Array.eq_empty_of_size_eq_zero
    rw [Array.size_extract]
    have : a.data.size = a.size := rfl
    omega
  rw [e, Nat.add_sub_cancel_left, Nat.add_sub_cancel_left, ByteArray.empty_append]
theorem extract_all (a : ByteArray) : a.extract 0 a.size = a := by
  apply ByteArray.ext
  rw [ByteArray.data_extract]
  exact Array.extract_size
theorem cellB_eq (g i : Nat) (d : ByteArray) : cellB g i d = putB 6 g ++ (putB 2 i ++ (putB 1 d.size ++ (d ++ zeros (55 - d.size)))) := by
  unfold cellB cellH
  simp only [ByteArray.append_assoc]
theorem cellB_gen (g i : Nat) (d : ByteArray) (hg : g < 281474976710656) : getN (cellB g i d) 0 6 = g := by
  rw [cellB_eq, getN_left _ _ 0 6 (by rw [putB_size]; omega), get_put 6 g hg]
theorem cellB_index (g i : Nat) (d : ByteArray) (hi : i ≤ 65535) : getN (cellB g i d) 6 2 = i := by
  have h := getN_right (putB 6 g) (putB 2 i ++ (putB 1 d.size ++ (d ++ zeros (55 - d.size)))) 0 2
  rw [putB_size] at h
  rw [cellB_eq, h, getN_left _ _ 0 2 (by rw [putB_size]; omega), get_put 2 i (by omega)]
theorem cellB_len (g i : Nat) (d : ByteArray) (hd : d.size ≤ 55) : bt (cellB g i d) 8 = (d.size : Int) := by
  have h := by1_right (putB 6 g) (putB 2 i ++ (putB 1 d.size ++ (d ++ zeros (55 - d.size)))) 2
  have h2 := by1_right (putB 2 i) (putB 1 d.size ++ (d ++ zeros (55 - d.size))) 0
  have h3 := by1_left (putB 1 d.size) (d ++ zeros (55 - d.size)) 0 (by rw [putB_size]; omega)
  rw [putB_size] at h h2
  have e : bt (cellB g i d) 8 = ((by1 (cellB g i d) 8 : Nat) : Int) := bt_by1 _ 8
  rw [e, cellB_eq]
  rw [show (8 : Nat) = 6 + 2 from rfl, h, show (2 : Nat) = 2 + 0 from rfl, h2, h3, by1_put 1 d.size 0 (by omega)]
  simp; omega
theorem cellB_data (g i : Nat) (d : ByteArray) : (cellB g i d).extract 9 (9 + d.size) = d := by
  have e : cellB g i d = (putB 6 g ++ putB 2 i ++ putB 1 d.size) ++ (d ++ zeros (55 - d.size)) := by
    unfold cellB cellH; simp only [ByteArray.append_assoc]
  have hs : (putB 6 g ++ putB 2 i ++ putB 1 d.size).size = 9 := by rw [ByteArray.size_append, ByteArray.size_append, putB_size, putB_size, putB_size]
  have h := extract_right (putB 6 g ++ putB 2 i ++ putB 1 d.size) (d ++ zeros (55 - d.size)) 0 d.size (by omega)
  rw [hs, Nat.add_zero] at h
  rw [e, h, ByteArray.extract_append, extract_all, Nat.zero_sub, Nat.sub_self]
  have e2 : (zeros (55 - d.size)).extract 0 0 = ByteArray.empty := by
    apply ByteArray.ext
    rw [ByteArray.data_extract]
    apply Array.eq_empty_of_size_eq_zero
    rw [Array.size_extract]; omega
  rw [e2, ByteArray.append_empty]
theorem cellB_rest (g i : Nat) (d : ByteArray) (hd : d.size ≤ 55) : (cellB g i d).extract (9 + d.size) 64 = zeros (55 - d.size) := by
  have h := extract_right (cellH g i d) (zeros (55 - d.size)) 0 (55 - d.size) (by omega)
  rw [cellH_size, Nat.add_zero] at h
  have e : 9 + d.size + (55 - d.size) = 64 := by omega
  rw [e] at h
  unfold cellB
  rw [h]
  have := extract_all (zeros (55 - d.size))
  rw [zeros_size] at this
  exact this
theorem zeros_get (n i : Nat) : ∀ w, getN (zeros n) i w = 0
  | 0 => rfl
  | w + 1 => by
    simp only [getN]
    rw [zeros_get n i w, by1_eq, zerosL]
    by_cases h : i + w < n
    · simp [List.getD_eq_getElem?_getD, h]
    · simp [List.getD_eq_getElem?_getD, List.getElem?_eq_none (show (List.replicate n (0 : UInt8)).length ≤ i + w by simp; omega)]
theorem trim_zeros (n : Nat) (W : World) (hn : n ≤ 100) : Calls Tryd.prog 58 #[.string (zeros n), .string ⟨#[0]⟩] W fun e w' => e = .returned (.string ⟨#[]⟩) ∧ Below W.heap.size W w' := by
  refine (Tryd.strings_Trim_one (zeros n) 0 (by decide) W (by rw [zeros_size]; omega)).mono ?_
  rintro e w' ⟨rfl, h⟩
  refine ⟨?_, ?_⟩
  · have : Lib.trimB (zeros n).data.toList 0 = [] := by
      rw [zerosL]
      unfold Lib.trimB Lib.trimLeftB Lib.trimRightB
      have h : ∀ k, (List.replicate k (0 : UInt8)).dropWhile (· == 0) = [] := fun k => by
        induction k with
        | zero => rfl
        | succ k ih => rw [List.replicate_succ, List.dropWhile_cons_of_pos (by rfl), ih]
      rw [List.reverse_replicate, h, List.reverse_nil]
      rfl
    rw [this]
  · rcases h with rfl | rfl
    · exact Below.refl _ _
    · exact below_drew1 (Below.refl _ _)
end Go.Proofs.YtldkgfhngonnfaaDoor.S
namespace Go.Proofs.YtldkgfhngonnfaaDoor.S
open Go.RowKit Go.Proofs.YtldkgfhngonnfaaDoor.PTopStreams Go.Proofs.YtldkgfhngonnfaaDoorW.PrintWords Go.Proofs.YtldkgfhngonnfaaDoorW.PrintLast Go.Proofs.YtldkgfhngonnfaaDoorW.PrintMore
set_option linter.unusedVariables false
set_option linter.unusedSimpArgs false
theorem results_cell_row_tmp {fn : Func} {p u : Tmp} {ty : TypeId} (h : fn.results = #[.cell p ty, .tmp u]) (tmps : Array Value) (P : Program) (w : World) (g : Nat) (cs : Array Value)
    (hp : tmps.getD p undef = .pointer (some ⟨g, 0, none⟩)) (hl : (loadVar ty ⟨g, 0, none⟩).run P w = .ok (.agg cs) w) :
    (results fn tmps).run P w = .ok (.tuple #[.agg cs, tmps.getD u undef]) w := by
  have hp' : tmps[p]?.getD undef = .pointer (some ⟨g, 0, none⟩) := by simpa using hp
  simp [results, h, hp', asAddr, hl]
set_option maxHeartbeats 1000000 in
set_option maxRecDepth 100000 in
theorem parse_some (g i : Nat) (d : ByteArray) (hg1 : 1 ≤ g) (hg2 : g < 281474976710656) (hi : i ≤ 65535) (hd : d.size ≤ 55) (W : World) : Calls Tryd.prog 41 #[.string (cellB g i d)] W fun e w' => e = .returned (.tuple #[.agg #[.int .i64 (g : Int), .int .i64 (i : Int), .string d], .bool true]) ∧ Below W.heap.size W w' := by
  have hu94 := Tryd.underlying94
  have hu9 := Tryd.underlying9
  have hs := cellB_size g i d hd
  have hg6 : words_Get.f 12 (cellB g i d) 0 6 = some ((g : Int), 6, 0) := by
    have := get_eq (cellB g i d) 0 6 (by decide) (by decide) (by omega) (by omega)
    rw [cellB_gen g i d hg2] at this
    exact this
  have hg8 : words_Get.f 12 (cellB g i d) 6 2 = some ((i : Int), 8, 0) := by
    have := get_eq (cellB g i d) 6 2 (by decide) (by decide) (by omega) (by omega)
    rw [cellB_index g i d hi] at this
    exact this
  have hl := cellB_len g i d hd
  have h1 := cellB_data g i d
  have h2 := cellB_rest g i d hd
  have HT := Aside0.mk (fun w => trim_zeros (55 - d.size) w (by omega))
  obtain ⟨n, hn⟩ : ∃ n : Int, n = (d.size : Int) := ⟨_, rfl⟩
  obtain ⟨n9, hn9⟩ : ∃ x : Int, 9 + n = x := ⟨_, rfl⟩
  obtain ⟨gi, hgi⟩ : ∃ x : Int, x = (g : Int) := ⟨_, rfl⟩
  obtain ⟨ii, hii⟩ : ∃ x : Int, x = (i : Int) := ⟨_, rfl⟩
  have hsz : ((cellB g i d).size : Int) = 64 := by rw [hs]; rfl
  rw [show 9 + d.size = n9.toNat by omega] at h1 h2
  rw [← hn] at hl
  rw [← hgi] at hg6
  rw [← hii] at hg8
  rw [← hgi, ← hii]
  generalize zeros (55 - d.size) = tz at *
  generalize cellB g i d = s at *
  have hg0 : (gi == 0) = false := by rw [beq_eq_false_iff_ne]; omega
  have hga : 0 ≤ gi := by omega
  have hgb : gi < 281474976710656 := by omega
  have hia : 0 ≤ ii := by omega
  have hib : ii ≤ 65535 := by omega
  have hn0 : 0 ≤ n := by omega
  have hn1 : decide ((55 : Int) < n) = false := decide_eq_false (by omega)
  have hn2 : n ≤ 55 := by omega
  have h90 : 9 ≤ n9 := by omega
  have h91 : n9 ≤ 64 := by omega
  have h92 : 0 ≤ n9 := by omega
  have h93 : n9 ≤ (s.size : Int) := by omega
  have hwg : IntKind.i64.wrap gi = gi := by rw [IntKind.wrap_i64]; omega
  have hwi : IntKind.i64.wrap ii = ii := by rw [IntKind.wrap_i64]; omega
  have hwn : IntKind.i64.wrap n = n := by rw [IntKind.wrap_i64]; omega
  have HB0 := Aside0.mk (below_alloc (Below.refl W.heap.size W) (.cells #[.int .i64 0, .int .i64 0, .string ⟨#[]⟩] 94))
  have HX := Aside0.mk (blk_new W (.cells #[.int .i64 0, .int .i64 0, .string ⟨#[]⟩] 94))
  clear hgi hii hg1 hg2 hi hd hn
  have h8 : 8 < s.size := by omega
  have hb8 : ∀ h : 8 < s.size, ((s[8]'h).toNat : Int) = n := fun h => (bt_at s 8 h).trans hl
  have hw64 : wrap64 n = n := wrap64_in (by omega) (by omega)
  go_enter Tryd.func41, Tryd.ntmps41
  go_upto_region 1 with (fail)
  generalize W.alloc (.cells #[.int .i64 0, .int .i64 0, .string ⟨#[]⟩] 94) = w0 at *
  go_upto_region 5 with (first | (go_at_call 38; go_loud (refine (words_Get.calls 12 _ _ _ _ _ _ _ (by with_reducible exact hg6)).mono ?_; rintro e w2 ⟨rfl, hd1⟩)) | (go_at_call 38; go_loud (refine (words_Get.calls 12 _ _ _ _ _ _ _ (by with_reducible exact hg8)).mono ?_; rintro e w3 ⟨rfl, hd2⟩)))
  go_upto_region 6 with (fail)

  have hd3 := Aside0.mk (below_step HB0.out (below_step hd1.below hd2.below))
  have HX3 := Aside0.mk (blk_below (blk_below HX.out hd1.below) hd2.below)
  have hz3 := blk_frozen HX3.out
  have hlt3 := blk_lt HX3.out
  clear hd1 hd2 HX HB0 h8 hb8
  go_wp2_with (first | (go_at_call 58; go_loud (refine (HT.out _).mono ?_; rintro e w4 ⟨rfl, hb⟩; have HB4 := Aside0.mk (below_step hd3.out hb); have HX4 := Aside0.mk (blk_below HX3.out hb); have hz4 := blk_frozen HX4.out; have hlt4 := blk_lt HX4.out; have c0 : w4.cell? ⟨W.heap.size, 0, none⟩ = some (.int .i64 0) := (blk_cell HX4.out 0).trans rfl; have c1 : w4.cell? ⟨W.heap.size, 1, none⟩ = some (.int .i64 0) := (blk_cell HX4.out 1).trans rfl; have c2 : w4.cell? ⟨W.heap.size, 2, none⟩ = some (.string ⟨#[]⟩) := (blk_cell HX4.out 2).trans rfl; clear hb hz3 hlt3)))
  have hk : (((w4.setCell ⟨W.heap.size, 0, none⟩ (.int .i64 gi)).setCell ⟨W.heap.size, 1, none⟩ (.int .i64 ii)).setCell ⟨W.heap.size, 2, none⟩ (.string d)).heap[W.heap.size]? = some (.cells #[.int .i64 gi, .int .i64 ii, .string d] 94 (0, 0)) := blk_put (cs := #[.int .i64 gi, .int .i64 ii, .string ⟨#[]⟩]) (blk_put (cs := #[.int .i64 gi, .int .i64 0, .string ⟨#[]⟩]) (blk_put (cs := #[.int .i64 0, .int .i64 0, .string ⟨#[]⟩]) HX4.out 0 _ rfl) 1 _ rfl) 2 _ rfl
  (try simp only [Exit.inBlock, Exit.then])
  refine bodyPost_ret (results_cell_row_tmp rfl _ _ _ W.heap.size #[.int .i64 gi, .int .i64 ii, .string d] rfl (run_loadVar_row _ W.heap.size 94 94 _ (0, 0) _ hk Tryd.underlying94 rfl (by kernel_rfl))) rfl ?_
  exact ⟨rfl, below_set (below_set (below_set HB4.out (Nat.le_refl _)) (Nat.le_refl _)) (Nat.le_refl _)⟩
set_option maxHeartbeats 1000000 in
set_option maxRecDepth 100000 in
theorem parse_none (W : World) : Calls Tryd.prog 41 #[.string (zeros 64)] W fun e w' => e = .returned (.tuple #[.agg #[.int .i64 0, .int .i64 0, .string ⟨#[]⟩], .bool false]) ∧ Below W.heap.size W w' := by
  have hu94 := Tryd.underlying94
  have hu9 := Tryd.underlying9
  have hs := zeros_size 64
  have hg6 : words_Get.f 12 (zeros 64) 0 6 = some (0, 6, 0) := by
    have := get_eq (zeros 64) 0 6 (by decide) (by decide) (by omega) (by omega)
    rw [zeros_get] at this
    exact this
  have hg8 : words_Get.f 12 (zeros 64) 6 2 = some (0, 8, 0) := by
    have := get_eq (zeros 64) 6 2 (by decide) (by decide) (by omega) (by omega)
    rw [zeros_get] at this
    exact this
  have hsz : ((zeros 64).size : Int) = 64 := by rw [hs]; rfl
  have hl : ∀ h : 8 < (zeros 64).size, (((zeros 64)[8]'h).toNat : Int) = 0 := fun h => by
    have e := bt_at (zeros 64) 8 h
    have e2 : bt (zeros 64) 8 = ((by1 (zeros 64) 8 : Nat) : Int) := bt_by1 _ 8
    rw [by1_eq, zerosL] at e2
    exact e.trans (e2.trans rfl)
  have h8 : 8 < (zeros 64).size := by omega
  generalize zeros 64 = s at *
  have HB0 := Aside0.mk (below_alloc (Below.refl W.heap.size W) (.cells #[.int .i64 0, .int .i64 0, .string ⟨#[]⟩] 94))
  have HX := Aside0.mk (blk_new W (.cells #[.int .i64 0, .int .i64 0, .string ⟨#[]⟩] 94))
  go_enter Tryd.func41, Tryd.ntmps41
  go_upto_region 1 with (fail)
  generalize W.alloc (.cells #[.int .i64 0, .int .i64 0, .string ⟨#[]⟩] 94) = w0 at *
  go_upto_region 5 with (first | (go_at_call 38; go_loud (refine (words_Get.calls 12 _ _ _ _ _ _ _ (by with_reducible exact hg6)).mono ?_; rintro e w2 ⟨rfl, hd1⟩)) | (go_at_call 38; go_loud (refine (words_Get.calls 12 _ _ _ _ _ _ _ (by with_reducible exact hg8)).mono ?_; rintro e w3 ⟨rfl, hd2⟩)))
  have hd3 := Aside0.mk (below_step HB0.out (below_step hd1.below hd2.below))
  have HX4 := Aside0.mk (blk_below (blk_below HX.out hd1.below) hd2.below)
  have hz3 := blk_frozen HX4.out
  have hlt3 := blk_lt HX4.out
  have c0 : w3.cell? ⟨W.heap.size, 0, none⟩ = some (.int .i64 0) := (blk_cell HX4.out 0).trans rfl
  have c1 : w3.cell? ⟨W.heap.size, 1, none⟩ = some (.int .i64 0) := (blk_cell HX4.out 1).trans rfl
  have c2 : w3.cell? ⟨W.heap.size, 2, none⟩ = some (.string ⟨#[]⟩) := (blk_cell HX4.out 2).trans rfl
  clear hd1 hd2 HX HB0
  go_wp2
  have hk : (((w3.setCell ⟨W.heap.size, 0, none⟩ (.int .i64 0)).setCell ⟨W.heap.size, 1, none⟩ (.int .i64 0)).setCell ⟨W.heap.size, 2, none⟩ (.string ⟨#[]⟩)).heap[W.heap.size]? = some (.cells #[.int .i64 0, .int .i64 0, .string ⟨#[]⟩] 94 (0, 0)) := blk_put (cs := #[.int .i64 0, .int .i64 0, .string ⟨#[]⟩]) (blk_put (cs := #[.int .i64 0, .int .i64 0, .string ⟨#[]⟩]) (blk_put (cs := #[.int .i64 0, .int .i64 0, .string ⟨#[]⟩]) HX4.out 0 _ rfl) 1 _ rfl) 2 _ rfl
  (try simp only [Exit.inBlock, Exit.then])
  refine bodyPost_ret (results_cell_row_tmp rfl _ _ _ W.heap.size #[.int .i64 0, .int .i64 0, .string ⟨#[]⟩] rfl (run_loadVar_row _ W.heap.size 94 94 _ (0, 0) _ hk Tryd.underlying94 rfl (by kernel_rfl))) rfl ?_
  exact ⟨rfl, below_set (below_set (below_set hd3.out (Nat.le_refl _)) (Nat.le_refl _)) (Nat.le_refl _)⟩
end Go.Proofs.YtldkgfhngonnfaaDoor.S
namespace Go.Proofs.YtldkgfhngonnfaaDoor.S
open Go.RowKit Go.Proofs.YtldkgfhngonnfaaDoor.PTopStreams Go.Proofs.YtldkgfhngonnfaaDoorW.PrintWords Go.Proofs.YtldkgfhngonnfaaDoorW.PrintLast Go.Proofs.YtldkgfhngonnfaaDoorW.PrintMore
set_option linter.unusedVariables false
set_option linter.unusedSimpArgs false
/-- What a sector of a half may be: noughts, or a cell. -/
abbrev Sec := Option (Nat × Nat × ByteArray)
def secB : Sec → ByteArray
  | none => zeros 64
  | some (g, i, d) => cellB g i d
def SecOk : Sec → Prop
  | none => True
  | some (g, i, d) => 1 ≤ g ∧ g < 281474976710656 ∧ i ≤ 65535 ∧ d.size ≤ 55
def Sec.gen (x : Sec) : Nat := match x with | none => 0 | some (g, _, _) => g
def Sec.idx (x : Sec) : Nat := match x with | none => 0 | some (_, i, _) => i
def Sec.data (x : Sec) : ByteArray := match x with | none => ⟨#[]⟩ | some (_, _, d) => d
theorem parse_calls (x : Sec) (hx : SecOk x) (W : World) : Calls Tryd.prog 41 #[.string (secB x)] W fun e w' => e = .returned (.tuple #[.agg #[.int .i64 (Sec.gen x : Int), .int .i64 (Sec.idx x : Int), .string (Sec.data x)], .bool x.isSome]) ∧ Below W.heap.size W w' := by
  match x, hx with
  | none, _ => exact parse_none W
  | some (g, i, d), hx => exact parse_some g i d hx.1 hx.2.1 hx.2.2.1 hx.2.2.2 W
/-- The greatest generation. -/
def newest (cs : List Sec) : Nat := cs.foldl (fun m c => max m (Sec.gen c)) 0
theorem newest_succ (cs : List Sec) (i : Nat) (x : Sec) (h : cs[i]? = some x) : newest (cs.take (i + 1)) = max (newest (cs.take i)) (Sec.gen x) := by
  unfold newest
  rw [List.take_add_one, h, Option.toList_some, List.foldl_append]
  rfl
theorem gen_lt (x : Sec) (hx : SecOk x) : Sec.gen x < 281474976710656 := by
  match x, hx with
  | none, _ => decide
  | some (g, i, d), hx => exact hx.2.1
theorem newest_lt (cs : List Sec) (h : ∀ x ∈ cs, SecOk x) : newest cs < 281474976710656 := by
  unfold newest
  have : ∀ (l : List Sec) (m : Nat), (∀ x ∈ l, SecOk x) → m < 281474976710656 → l.foldl (fun m c => max m (Sec.gen c)) m < 281474976710656 := by
    intro l
    induction l with
    | nil => intro m _ hm; exact hm
    | cons a l ih =>
      intro m hl hm
      have := gen_lt a (hl a (by simp))
      exact ih _ (fun x hx => hl x (by simp [hx])) (by show max m (Sec.gen a) < _; omega)
  exact this cs 0 h (by decide)
set_option maxHeartbeats 1000000 in
set_option maxRecDepth 100000 in
theorem newest_calls (cs : List Sec) (hcs : ∀ x ∈ cs, SecOk x) (hl : cs.length < 1000000) (A : Option Addr) (c : Nat) (W : World) (hA : Kd.C Kd.string W A cs.length (cs.map secB)) : Calls Tryd.prog 26 #[.slice A cs.length c] W fun e w' => e = .returned (.int .i64 (newest cs : Int)) ∧ Below W.heap.size W w' := by
  have hu94 := Tryd.underlying94
  have hu9 := Tryd.underlying9
  have HC := Aside0.mk hA
  have HB0 := Aside0.mk (Below.refl W.heap.size W)
  have HK := Aside0.mk hcs
  clear hA hcs
  go_enter Tryd.func26, Tryd.ntmps26
  go_wp2
  go_loopw [3, 10] (fun v3 v10 wr => ∃ (m p : Int) (i : Nat), v3 = .int .i64 m ∧ v10 = .int .i64 p ∧ Aside0 (m = (newest (cs.take i) : Int)) ∧ Aside0 (p = (i : Int)) ∧ i ≤ cs.length ∧ Aside0 (Below W.heap.size W wr)) (fun _ v10 _ => cs.length - (intOf v10).toNat)
  case atStart => exact ⟨0, 0, 0, rfl, rfl, Aside0.mk rfl, Aside0.mk rfl, Nat.zero_le _, HB0⟩
  case round =>
    clear HB0
    obtain ⟨m, p, i, rfl, rfl, HM, HP, hi, HB⟩ := hrel
    by_cases hin : i < cs.length
    · have hlt : decide (p < (cs.length : Int)) = true := decide_eq_true (by rw [HP.out]; omega)
      have hp0 : 0 ≤ p := by rw [HP.out]; omega
      have hp1 : p < (cs.length : Int) := by rw [HP.out]; omega
      obtain ⟨x, hx⟩ : ∃ x, cs[i]? = some x := ⟨_, List.getElem?_eq_getElem hin⟩
      have hok := HK.out x (List.mem_of_getElem? hx)
      have hpi : p.toNat = i := by rw [HP.out]; rfl
      have hgl := gen_lt x hok
      have HPC := Aside0.mk (fun w => parse_calls x hok w)
      have HN : Aside0 ((newest (cs.take (i + 1)) : Int) = max m (Sec.gen x : Int)) := Aside0.mk (by rw [newest_succ cs i x hx, HM.out]; omega)
      have hm0 : 0 ≤ m := by rw [HM.out]; omega
      have HT := Aside0.mk (show x.isSome = true ∨ Sec.gen x = 0 from by cases x <;> simp [Sec.gen])
      obtain ⟨ad, hA, hcell⟩ := Kd.at_string (Kd.C_below HC.out HB.out) p hp0 hp1
      have hrd : rdOf ByteArray.empty (cs.map secB) p = secB x := by unfold rdOf; rw [hpi]; simp [List.getD_eq_getElem?_getD, hx]
      rw [hrd] at hcell
      subst hA
      clear hrd hpi hx hok
      generalize secB x = s at *
      obtain ⟨gx, hgx⟩ : ∃ y : Int, y = (Sec.gen x : Int) := ⟨_, rfl⟩
      rw [← hgx] at HPC HN
      generalize (Sec.idx x : Int) = ix at *
      generalize Sec.data x = dx at *
      obtain ⟨m2, hm2⟩ : ∃ y : Int, max m gx = y := ⟨_, rfl⟩
      rw [hm2] at HN
      cases hsome : x.isSome
      · have hmm : m2 = m := by
          rcases HT.out with h | h
          · rw [hsome] at h; cases h
          · omega
        rw [hsome] at HPC
        rw [hmm] at HN
        have hB := HB
        clear hsome hmm hm2 hgx HT hgl
        go_wp2_with (first | (go_at_call 41; go_loud (refine (HPC.out _).mono ?_; rintro e w2 ⟨rfl, hb⟩; have HB2 := Aside0.mk (below_step HB.out hb); have HB3 := Aside0.mk (below_step HB2.out (below_alloc (Below.refl w2.heap.size w2) (.cells #[.int .i64 gx, .int .i64 ix, .string dx] 94))); clear hb hcell)))
        exact ⟨⟨m, p + 1, i + 1, rfl, rfl, Aside0.mk HN.out.symm, Aside0.mk (by have := HP.out; omega), by omega, HB3⟩, by have := HP.out; simp [intOf]; omega⟩
      · rw [hsome] at HPC
        clear hsome hgx HT hgl
        go_wp2_with (first | (go_at_call 41; go_loud (refine (HPC.out _).mono ?_; rintro e w2 ⟨rfl, hb⟩; have HB2 := Aside0.mk (below_step HB.out hb); have HB3 := Aside0.mk (below_step HB2.out (below_alloc (Below.refl w2.heap.size w2) (.cells #[.int .i64 gx, .int .i64 ix, .string dx] 94))); clear hb hcell)))
        exact ⟨⟨m2, p + 1, i + 1, rfl, rfl, Aside0.mk HN.out.symm, Aside0.mk (by have := HP.out; omega), by omega, HB3⟩, by have := HP.out; simp [intOf]; omega⟩
    · have hlt : decide (p < (cs.length : Int)) = false := decide_eq_false (by rw [HP.out]; omega)
      have HE : Aside0 (m = (newest cs : Int)) := Aside0.mk (by
        obtain rfl : i = cs.length := by omega
        rw [HM.out, List.take_length])
      go_wp2
      go_ret
      exact ⟨by rw [← HE.out]; rfl, HB.out⟩
end Go.Proofs.YtldkgfhngonnfaaDoor.S
namespace Go.Proofs.YtldkgfhngonnfaaDoor.S
open Go.RowKit Go.Proofs.YtldkgfhngonnfaaDoor.PTopStreams Go.Proofs.YtldkgfhngonnfaaDoorW.PrintWords Go.Proofs.YtldkgfhngonnfaaDoorW.PrintLast Go.Proofs.YtldkgfhngonnfaaDoorW.PrintMore
set_option linter.unusedVariables false
set_option linter.unusedSimpArgs false
def magicB : ByteArray := ⟨#[80, 82, 69, 67, 73, 78, 67, 84]⟩
/-- The sector that tells a generation and a half. -/
def headB (g h : Nat) : ByteArray := magicB ++ putB 6 g ++ putB 1 h ++ zeros 49
set_option maxHeartbeats 1000000 in
set_option maxRecDepth 100000 in
theorem head_calls (g h : Nat) (gi hi : Int) (hgi : gi = (g : Int)) (hhi : hi = (h : Int)) (hg : g < 281474976710656) (hh : h < 256) (W : World) : Calls Tryd.prog 39 #[.int .i64 gi, .int .i64 hi] W fun e w' => e = .returned (.string (headB g h)) ∧ Below W.heap.size W w' := by
  have hu9 := Tryd.underlying9
  have hp6 : Aside0 (words_Put.f 10 6 gi = some (putB 6 g)) := Aside0.mk (by rw [hgi]; exact put6 g)
  have hp1 : Aside0 (words_Put.f 10 1 hi = some (putB 1 h)) := Aside0.mk (by rw [hhi]; exact put1 h)
  have HR : Aside0 (∀ w, Calls Tryd.prog 36 #[.string ⟨#[0]⟩, .int .i64 49] w fun e w' => e = .returned (.string (zeros 49)) ∧ Below w.heap.size w w') := Aside0.mk (fun w => (Tryd.strings_Repeat_main ⟨#[0]⟩ 49 w (by decide) (by decide) (by decide) (by decide)).mono (by
    rintro e w' ⟨rfl, hb⟩
    exact ⟨rfl, hb⟩))
  have s6 := putB_size 6 g
  have s1 := putB_size 1 h
  have HE : Aside0 (magicB ++ putB 6 g ++ putB 1 h ++ zeros 49 = headB g h) := Aside0.mk rfl
  have hz49 := zeros_size 49
  generalize putB 6 g = b6 at *
  generalize putB 1 h = b1 at *
  generalize zeros 49 = z at *
  have HB0 := Aside0.mk (Below.refl W.heap.size W)
  have hw6 : IntKind.u64.wrap gi = gi := by rw [IntKind.wrap_u64]; omega
  have hw1 : IntKind.u64.wrap hi = hi := by rw [IntKind.wrap_u64]; omega
  have hg0 : 0 ≤ gi := by omega
  have hg9 : gi < 281474976710656 := by omega
  have hh0 : 0 ≤ hi := by omega
  have hh9 : hi < 256 := by omega
  clear hgi hhi hg hh
  go_enter Tryd.func39, Tryd.ntmps39
  go_wp2_with (first | (go_at_call 47; go_loud (refine (words_Put.calls 10 _ _ _ _ (by with_reducible exact hp6.out)).mono ?_; rintro e w2 ⟨rfl, hb⟩; have HB2 := Aside0.mk (below_step HB0.out hb); clear hb)) | (go_at_call 47; go_loud (refine (words_Put.calls 10 _ _ _ _ (by with_reducible exact hp1.out)).mono ?_; rintro e w3 ⟨rfl, hb⟩; have HB3 := Aside0.mk (below_step HB2.out hb); clear hb)) | (go_at_call 36; go_loud (refine (HR.out _).mono ?_; rintro e w4 ⟨rfl, hb⟩; have HB4 := Aside0.mk (below_step HB3.out hb); clear hb)))
  go_ret
  exact ⟨by rw [← HE.out]; rfl, HB4.out⟩
theorem headB_eq (g h : Nat) : headB g h = magicB ++ (putB 6 g ++ (putB 1 h ++ zeros 49)) := by
  unfold headB
  simp only [ByteArray.append_assoc]
theorem headB_size (g h : Nat) : (headB g h).size = 64 := by
  unfold headB
  rw [ByteArray.size_append, ByteArray.size_append, ByteArray.size_append, putB_size, putB_size, zeros_size]
  rfl
theorem headB_gen (g h : Nat) (hg : g < 281474976710656) : getN (headB g h) 8 6 = g := by
  have e := getN_right magicB (putB 6 g ++ (putB 1 h ++ zeros 49)) 0 6
  rw [show magicB.size + 0 = 8 from rfl] at e
  rw [headB_eq, e, getN_left _ _ 0 6 (by rw [putB_size]; omega), get_put 6 g hg]
theorem headB_half (g h : Nat) (hh : h < 256) : getN (headB g h) 14 1 = h := by
  have e := getN_right magicB (putB 6 g ++ (putB 1 h ++ zeros 49)) 6 1
  have e2 := getN_right (putB 6 g) (putB 1 h ++ zeros 49) 0 1
  rw [putB_size] at e2
  rw [show magicB.size + 6 = 14 from rfl] at e
  rw [headB_eq, e, e2, getN_left _ _ 0 1 (by rw [putB_size]; omega), get_put 1 h (by omega)]
set_option maxHeartbeats 1000000 in
set_option maxRecDepth 100000 in
theorem hparse_some (g h : Nat) (hg1 : 1 ≤ g) (hg : g < 281474976710656) (hh : h ≤ 1) (W : World) : Calls Tryd.prog 22 #[.string (headB g h)] W fun e w' => e = .returned (.tuple #[.int .i64 (g : Int), .int .i64 (h : Int), .bool true]) ∧ Below W.heap.size W w' := by
  have hu9 := Tryd.underlying9
  have hs := headB_size g h
  obtain ⟨gi, hgi⟩ : ∃ x : Int, x = (g : Int) := ⟨_, rfl⟩
  obtain ⟨hi, hhi⟩ : ∃ x : Int, x = (h : Int) := ⟨_, rfl⟩
  have hg6 : words_Get.f 12 (headB g h) 8 6 = some (gi, 14, 0) := by
    have := get_eq (headB g h) 8 6 (by decide) (by decide) (by omega) (by omega)
    rw [headB_gen g h hg] at this
    rw [hgi]; exact this
  have hg1' : words_Get.f 12 (headB g h) 14 1 = some (hi, 15, 0) := by
    have := get_eq (headB g h) 14 1 (by decide) (by decide) (by omega) (by omega)
    rw [headB_half g h (by omega)] at this
    rw [hhi]; exact this
  have HH := Aside0.mk (fun w => head_calls g h gi hi hgi hhi hg (by omega) w)
  rw [← hgi, ← hhi]
  generalize headB g h = s at *
  have hg0 : (gi == 0) = false := by rw [beq_eq_false_iff_ne]; omega
  have hga : 0 ≤ gi := by omega
  have hgb : gi < 281474976710656 := by omega
  have hha : 0 ≤ hi := by omega
  have hhb : hi ≤ 1 := by omega
  have hhc : decide ((1 : Int) < hi) = false := decide_eq_false (by omega)
  have hwg : IntKind.i64.wrap gi = gi := by rw [IntKind.wrap_i64]; omega
  have hwh : IntKind.i64.wrap hi = hi := by rw [IntKind.wrap_i64]; omega
  have hw64 : wrap64 gi = gi := wrap64_in (by omega) (by omega)
  have hw65 : wrap64 hi = hi := wrap64_in (by omega) (by omega)
  have HB0 := Aside0.mk (Below.refl W.heap.size W)
  clear hgi hhi hg1 hg hh
  go_enter Tryd.func22, Tryd.ntmps22
  go_wp2_with (first | (go_at_call 38; go_loud (refine (words_Get.calls 12 _ _ _ _ _ _ _ (by with_reducible exact hg6)).mono ?_; rintro e w2 ⟨rfl, hd1⟩; have HB2 := Aside0.mk (below_step HB0.out hd1.below))) | (go_at_call 38; go_loud (refine (words_Get.calls 12 _ _ _ _ _ _ _ (by with_reducible exact hg1')).mono ?_; rintro e w3 ⟨rfl, hd2⟩; have HB3 := Aside0.mk (below_step HB2.out hd2.below))) | (go_at_call 39; go_loud (refine (HH.out _).mono ?_; rintro e w4 ⟨rfl, hb⟩; have HB4 := Aside0.mk (below_step HB3.out hb); clear hb)))
  go_ret3
  exact ⟨rfl, HB4.out⟩
set_option maxHeartbeats 1000000 in
set_option maxRecDepth 100000 in
theorem hparse_none (W : World) : Calls Tryd.prog 22 #[.string (zeros 64)] W fun e w' => e = .returned (.tuple #[.int .i64 0, .int .i64 0, .bool false]) ∧ Below W.heap.size W w' := by
  have hu9 := Tryd.underlying9
  have hs := zeros_size 64
  have hg6 : words_Get.f 12 (zeros 64) 8 6 = some (0, 14, 0) := by
    have := get_eq (zeros 64) 8 6 (by decide) (by decide) (by omega) (by omega)
    rw [zeros_get] at this
    exact this
  have hg1' : words_Get.f 12 (zeros 64) 14 1 = some (0, 15, 0) := by
    have := get_eq (zeros 64) 14 1 (by decide) (by decide) (by omega) (by omega)
    rw [zeros_get] at this
    exact this
  generalize zeros 64 = s at *
  have HB0 := Aside0.mk (Below.refl W.heap.size W)
  go_enter Tryd.func22, Tryd.ntmps22
  go_wp2_with (first | (go_at_call 38; go_loud (refine (words_Get.calls 12 _ _ _ _ _ _ _ (by with_reducible exact hg6)).mono ?_; rintro e w2 ⟨rfl, hd1⟩; have HB2 := Aside0.mk (below_step HB0.out hd1.below))) | (go_at_call 38; go_loud (refine (words_Get.calls 12 _ _ _ _ _ _ _ (by with_reducible exact hg1')).mono ?_; rintro e w3 ⟨rfl, hd2⟩; have HB3 := Aside0.mk (below_step HB2.out hd2.below))))
  go_ret3
  exact ⟨rfl, HB3.out⟩
end Go.Proofs.YtldkgfhngonnfaaDoor.S
namespace Go.Proofs.YtldkgfhngonnfaaDoor.S
open Go.RowKit Go.Proofs.YtldkgfhngonnfaaDoor.PTopStreams Go.Proofs.YtldkgfhngonnfaaDoorW.PrintWords Go.Proofs.YtldkgfhngonnfaaDoorW.PrintLast Go.Proofs.YtldkgfhngonnfaaDoorW.PrintMore
set_option linter.unusedVariables false
set_option linter.unusedSimpArgs false
/-- Data in pieces of 55 bytes; the last one is shorter. -/
def chunksF : Nat → ByteArray → List ByteArray
  | 0, _ => []
  | k + 1, d => if d.size < 55 then [d] else d.extract 0 55 :: chunksF k (d.extract 55 d.size)
theorem extract_size (d : ByteArray) (i : Nat) : (d.extract i d.size).size = d.size - i := by rw [ByteArray.size_extract, Nat.min_self]
theorem chunksF_fuel : ∀ (k k' : Nat) (d : ByteArray), d.size < k → d.size < k' → chunksF k d = chunksF k' d
  | 0, _, d, h, _ => by omega
  | _, 0, d, _, h => by omega
  | k + 1, k' + 1, d, h, h' => by
    simp only [chunksF]
    by_cases hd : d.size < 55
    · rw [if_pos hd, if_pos hd]
    · rw [if_neg hd, if_neg hd, chunksF_fuel k k' _ (by rw [extract_size]; omega) (by rw [extract_size]; omega)]
def chunks (d : ByteArray) : List ByteArray := chunksF (d.size + 1) d
theorem chunks_short {d : ByteArray} (h : d.size < 55) : chunks d = [d] := by unfold chunks; simp only [chunksF]; rw [if_pos h]
theorem chunks_long {d : ByteArray} (h : ¬ d.size < 55) : chunks d = d.extract 0 55 :: chunks (d.extract 55 d.size) := by
  have e : chunksF ((d.extract 55 d.size).size + 1) (d.extract 55 d.size) = chunksF d.size (d.extract 55 d.size) := chunksF_fuel _ _ _ (Nat.lt_succ_self _) (by rw [extract_size]; omega)
  unfold chunks
  rw [e]
  show (if d.size < 55 then [d] else d.extract 0 55 :: chunksF d.size (d.extract 55 d.size)) = _
  rw [if_neg h]
/-- The sectors of pieces, from an index on. -/
def cellsOf (g i : Nat) (L : List ByteArray) : List ByteArray := L.mapIdx fun j c => cellB g (i + j) c
theorem cellsOf_more (g i : Nat) (L : List ByteArray) (c : ByteArray) : cellsOf g i (L ++ [c]) = cellsOf g i L ++ [cellB g (i + L.length) c] := by
  unfold cellsOf
  rw [List.mapIdx_concat]
theorem cellsOf_len (g i : Nat) (L : List ByteArray) : (cellsOf g i L).length = L.length := by unfold cellsOf; simp
def strLen : Value → Nat
  | .string s => s.size
  | _ => 0
def boolN : Value → Nat
  | .bool true => 0
  | _ => 1
/-- Where Split stands. -/
def SplitSt (D data : ByteArray) (last : Bool) (done : List ByteArray) : Prop :=
  (last = false ∧ chunks D = done ++ chunks data ∧ done.length * 55 + data.size = D.size) ∨ (last = true ∧ chunks D = done)
theorem SplitSt.next {D data : ByteArray} {done : List ByteArray} (h : SplitSt D data false done) :
    SplitSt D (data.extract (min 55 data.size) data.size) (decide (data.size < 55)) (done ++ [data.extract 0 (min 55 data.size)]) := by
  rcases h with ⟨_, h1, h2⟩ | ⟨h, _⟩
  · by_cases hd : data.size < 55
    · have e : min 55 data.size = data.size := by omega
      rw [e, extract_all, decide_eq_true hd]
      refine .inr ⟨rfl, ?_⟩
      rw [h1, chunks_short hd]
    · have e : min 55 data.size = 55 := by omega
      rw [e, decide_eq_false hd]
      refine .inl ⟨rfl, ?_, ?_⟩
      · rw [h1, chunks_long hd, List.append_assoc, List.singleton_append]
      · rw [extract_size, List.length_append, List.length_singleton]
        omega
  · cases h
set_option maxHeartbeats 2000000 in
set_option maxRecDepth 100000 in
theorem split_calls (g i : Nat) (D : ByteArray) (gi ii : Int) (hgi : gi = (g : Int)) (hii : ii = (i : Int)) (hg1 : 1 ≤ g) (hg2 : g < 281474976710656) (hi : i + D.size / 55 ≤ 65535) (hD : D.size < 1000000) (W : World) :
    Calls Tryd.prog 30 #[.int .i64 gi, .int .i64 ii, .string D] W fun e w' => ∃ v, e = .returned (.tuple #[v, .int .i64 0]) ∧ Kd.R Kd.string 9 w' W.heap.size (fun _ => True) v (cellsOf g i (chunks D)) ∧ Below W.heap.size W w' := by
  have hu9 := Tryd.underlying9
  have hu94 := Tryd.underlying94
  have HG : Aside0 (area_good.f gi ii = some true) := Aside0.mk (by
    unfold area_good.f
    rw [if_pos (by omega), if_pos (by omega), if_pos (by omega), decide_eq_true (by omega)])
  have hq1 : decide ((65535 : Int) - ii < (D.size : Int) / 55) = false := decide_eq_false (by omega)
  have hq2 : (D.size : Int).tdiv 55 = (D.size : Int) / 55 := Int.tdiv_eq_ediv_of_nonneg (by omega)
  have hq0 : wrap64 ((D.size : Int) / 55) = (D.size : Int) / 55 := wrap64_in (by omega) (by omega)
  have hi0 : 0 ≤ ii := by omega
  have hi9 : ii ≤ 65535 := by omega
  have HI := Aside0.mk hii
  have HGI := Aside0.mk hgi
  have HL := Aside0.mk (show 1 ≤ g ∧ g < 281474976710656 ∧ i + D.size / 55 ≤ 65535 ∧ D.size < 1000000 from ⟨hg1, hg2, hi, hD⟩)
  have HST : Aside0 (SplitSt D D false []) := Aside0.mk (.inl ⟨rfl, by simp, by simp⟩)
  have HB0 := Aside0.mk (Below.refl W.heap.size W)
  clear hgi hii hg1 hg2 hi hD
  go_enter Tryd.func30, Tryd.ntmps30
  go_wp2_with (first | (go_at_call 49; go_loud (refine (area_good.calls _ _ _ _ HG.out).mono ?_; rintro e w2 ⟨rfl, hb⟩; have HB2 := Aside0.mk (below_step HB0.out hb.below); clear hb)))
  simp only [hq0]
  have HR0 := Aside0.mk (Kd.R_nil Kd.string 9 w2 W.heap.size (fun _ => True))
  go_loopw [1, 2, 8, 9] (fun v1 v2 v8 v9 wr => ∃ (p : Int) (data : ByteArray) (last : Bool) (done : List ByteArray), v1 = .int .i64 p ∧ v2 = .string data ∧ v9 = .bool last ∧ Aside0 (p = ((i + done.length : Nat) : Int)) ∧ Aside0 (SplitSt D data last done) ∧ Aside0 (Kd.R Kd.string 9 wr W.heap.size (fun _ => True) v8 (cellsOf g i done)) ∧ Aside0 (Below W.heap.size W wr)) (fun _ v2 _ v9 _ => boolN v9 * (strLen v2 + 1))
  case atStart => exact ⟨ii, D, false, [], rfl, rfl, rfl, Aside0.mk (by rw [HI.out]; simp), HST, HR0, HB2⟩
  case round =>
    clear HR0 HB0 HB2 HST hi0 hi9
    obtain ⟨p, data, last, done, rfl, rfl, rfl, HP, HS, HR, HB⟩ := hrel
    obtain ⟨A, c, rfl⟩ := Kd.R_slice HR.out
    cases last
    · have hdn : done.length * 55 + data.size = D.size := by
        rcases HS.out with ⟨_, _, h⟩ | ⟨h, _⟩
        · exact h
        · cases h
      have HN := Aside0.mk (SplitSt.next HS.out)
      have hll := HL.out
      have hpv := HP.out
      obtain ⟨mi, hmi⟩ : ∃ x : Int, min (55 : Int) (data.size : Int) = x := ⟨_, rfl⟩
      have hmn : min 55 data.size = mi.toNat := by omega
      rw [hmn] at HN
      obtain ⟨ch, hch⟩ : ∃ x, data.extract 0 mi.toNat = x := ⟨_, rfl⟩
      obtain ⟨rest, hrest⟩ : ∃ x, data.extract mi.toNat data.size = x := ⟨_, rfl⟩
      rw [hch, hrest] at HN
      have hcs : ch.size ≤ 55 := by rw [← hch, ByteArray.size_extract]; omega
      have hrs : rest.size = data.size - mi.toNat := by rw [← hrest, extract_size]
      obtain ⟨lb, hlb0⟩ : ∃ b, decide (data.size < 55) = b := ⟨_, rfl⟩
      have hlb : decide (mi < 55) = lb := by rw [← hlb0]; exact decide_eq_decide.2 (by omega)
      rw [hlb0] at HN
      have m0 : 0 ≤ mi := by omega
      have m1 : mi ≤ (data.size : Int) := by omega
      have m2 : mi ≤ 55 := by omega
      have HM := Aside0.mk (fun w => make_calls g (i + done.length) ch gi p HGI.out HP.out hll.1 hll.2.1 (by omega) hcs w)
      obtain ⟨sec, hsec⟩ : ∃ x, x = cellB g (i + done.length) ch := ⟨_, rfl⟩
      rw [← hsec] at HM
      have HE : Aside0 (cellsOf g i (done ++ [ch]) = cellsOf g i done ++ [sec]) := Aside0.mk (by rw [cellsOf_more, hsec])
      have HME : Aside0 (boolN (.bool lb) * (rest.size + 1) < data.size + 1) := Aside0.mk (by
        rw [← hlb0, hrs]
        by_cases h : data.size < 55
        · rw [decide_eq_true h]; simp [boolN]
        · rw [decide_eq_false h]; simp [boolN]; omega)
      have HW1 : Aside0 (p + 1 = ((i + (done ++ [ch]).length : Nat) : Int)) := Aside0.mk (by simp; omega)
      have HLN : Aside0 (((cellsOf g i done).length + 1) * 16 ≤ 140737488355328) := Aside0.mk (by rw [cellsOf_len]; omega)
      have hp0 : 0 ≤ p := by omega
      have hp1 : p ≤ 65535 := by omega
      have hlen := cellsOf_len g i done
      have HLL := Aside0.mk hlen
      generalize cellsOf g i done = outs at *
      clear hll hpv hmn hcs hrs hlb0 hsec hdn HS HL HG HP hlen
      go_upto_region 12 with (first | (go_at_call 50; go_loud (refine (HM.out _).mono ?_; rintro e w2 ⟨rfl, hb⟩; have HR2 := Aside0.mk (Kd.R_below HR.out hb); have HB2 := Aside0.mk (below_step HB.out hb); clear hb)))
      have HR3 := Aside0.mk (Kd.R_drew HR2.out)
      have HB3 := Aside0.mk (below_drew1 HB2.out)
      clear HR HB HR2 HB2
      refine wp_region_held_drew (S := fun _ => True) (by kernel_rfl) trivial (fun hHeld => ?_)
      generalize w2.drew = w3 at *
      have hN3 := HB3.out.size
      refine wpAnyH_take (i := 0) (oi := { dst := some 44, op := Op.move (Operand.tmp 8), type := 29, pos := "area.go:71", after := #[], guard := none }) (v := ?v0) rfl (by kernel_rfl) (by kernel_rfl) (by kernel_rfl) (fun _ _ _ h => h) (Or.inl ⟨by rfl, ?y0⟩) (by assumption) ?_
      case y0 => (intro w hSw; (try dsimp only at hSw); go_simp; try with_reducible rfl)
      (try simp only [Act.put, List.setIfInBounds_toArray, List.set_cons_zero, List.set_cons_succ])
      refine wpAnyH_take (i := 1) (oi := { dst := some 45, op := Op.move (Operand.tmp 11), type := 9, pos := "area.go:71", after := #[], guard := none }) (v := ?v1) rfl (by kernel_rfl) (by kernel_rfl) (by kernel_rfl) (fun _ _ _ h => h) (Or.inl ⟨by rfl, ?y1⟩) (by assumption) ?_
      case y1 => (intro w hSw; (try dsimp only at hSw); go_simp; try with_reducible rfl)
      (try simp only [Act.put, List.setIfInBounds_toArray, List.set_cons_zero, List.set_cons_succ])
      refine wpAnyH_take (i := 4) (oi := { dst := some 48, op := Op.move (Operand.tmp 2), type := 9, pos := "area.go:71", after := #[], guard := none }) (v := ?v4) rfl (by kernel_rfl) (by kernel_rfl) (by kernel_rfl) (fun _ _ _ h => h) (Or.inl ⟨by rfl, ?y4⟩) (by assumption) ?_
      case y4 => (intro w hSw; (try dsimp only at hSw); go_simp; try with_reducible rfl)
      (try simp only [Act.put, List.setIfInBounds_toArray, List.set_cons_zero, List.set_cons_succ])
      refine wpAnyH_take (i := 5) (oi := { dst := some 49, op := Op.move (Operand.tmp 10), type := 3, pos := "area.go:71", after := #[], guard := none }) (v := ?v5) rfl (by kernel_rfl) (by kernel_rfl) (by kernel_rfl) (fun _ _ _ h => h) (Or.inl ⟨by rfl, ?y5⟩) (by assumption) ?_
      case y5 => (intro w hSw; (try dsimp only at hSw); go_simp; try with_reducible rfl)
      (try simp only [Act.put, List.setIfInBounds_toArray, List.set_cons_zero, List.set_cons_succ])
      refine wpAnyH_take (i := 6) (oi := { dst := some 50, op := Op.slice 9 (Operand.tmp 48) (some (Operand.tmp 49)) none none, type := 9, pos := "area.go:71", after := #[{ on := 4, ground := Ground.data }, { on := 5, ground := Ground.data }], guard := none }) (v := ?v6) rfl (by kernel_rfl) (by kernel_rfl) (by kernel_rfl) (fun _ _ _ h => h) (Or.inl ⟨by rfl, ?y6⟩) (by assumption) ?_
      case y6 => (intro w hSw; (try dsimp only at hSw); go_simp; try with_reducible rfl)
      (try simp only [Act.put, List.setIfInBounds_toArray, List.set_cons_zero, List.set_cons_succ])
      refine wpAnyH_ready (rs := [2]) (by kernel_rfl) (by simp) ?_
      refine AllReadyH.cons (o := { dst := some 46, op := Op.buildSlice 29 1 #[(0, Operand.tmp 45)], type := 29, pos := "area.go:71", after := #[{ on := 1, ground := Ground.data }], guard := none }) rfl (fun K hK => ?_) AllReadyH.nil
      go_simp
      refine hK.out _ _ trivial (fun hHeld2 => ?_)
      clear hK K hHeld
      have hHeld := hHeld2
      clear hHeld2
      (try simp only [Act.put, List.setIfInBounds_toArray, List.set_cons_zero, List.set_cons_succ])
      refine wpAnyH_ready (rs := [3]) (by kernel_rfl) (by simp) ?_
      refine AllReadyH.cons (o := { dst := some 47, op := Op.call { callee := Callee.builtin Builtin.append, args := #[Operand.tmp 44, Operand.tmp 46], argTypes := #[29, 29] }, type := 29, pos := "area.go:71", after := #[{ on := 0, ground := Ground.data }, { on := 2, ground := Ground.data }], guard := none }) rfl (fun K hK => ?_) AllReadyH.nil
      refine Kd.R_append_step Kd.string (w0 := W) W.heap.size rfl (.tmp 44) (.tmp 46) 29 9 (.string ⟨#[]⟩) 16 rfl Tryd.underlying29 info9 rfl (by decide) (by decide) (.slice A outs.length c) outs sec [.string sec] (fun _ => True) (fun _ => False) rfl rfl rfl (fun _ h => h.elim) (fun _ _ => trivial) HR3.out HB3.out hN3 HLN.out ?_
      intro v7 w7 hR7 hB7 _ _
      have HR7 := Aside0.mk hR7
      have HB7 := Aside0.mk hB7
      rw [← HE.out] at HR7
      clear hR7 hB7
      refine hK.out _ _ trivial (fun hHeld2 => ?_)
      clear hK K hHeld
      have hHeld := hHeld2
      clear hHeld2
      (try simp only [Act.put, List.setIfInBounds_toArray, List.set_cons_zero, List.set_cons_succ])
      refine wpAnyH_ready (rs := [7]) (by kernel_rfl) (by simp) ?_
      refine AllReadyH.cons (o := { dst := some 8, op := Op.assign (Operand.tmp 47), type := 29, pos := "area.go:71", after := #[{ on := 3, ground := Ground.data }, { on := 3, ground := Ground.chain }, { on := 0, ground := Ground.phase }, { on := 1, ground := Ground.phase }, { on := 2, ground := Ground.phase }, { on := 3, ground := Ground.phase }, { on := 4, ground := Ground.textOnly Departure.lateStores }, { on := 5, ground := Ground.textOnly Departure.lateStores }, { on := 6, ground := Ground.textOnly Departure.lateStoresUnsure }], guard := none }) rfl (fun K hK => ?_) AllReadyH.nil
      go_simp
      refine hK.out _ _ trivial (fun hHeld2 => ?_)
      clear hK K hHeld
      have hHeld := hHeld2
      clear hHeld2
      (try simp only [Act.put, List.setIfInBounds_toArray, List.set_cons_zero, List.set_cons_succ])
      refine wpAnyH_ready (rs := [8]) (by kernel_rfl) (by simp) ?_
      refine AllReadyH.cons (o := { dst := some 2, op := Op.assign (Operand.tmp 50), type := 9, pos := "area.go:71", after := #[{ on := 6, ground := Ground.data }, { on := 7, ground := Ground.chain }, { on := 0, ground := Ground.phase }, { on := 1, ground := Ground.phase }, { on := 2, ground := Ground.phase }, { on := 3, ground := Ground.phase }, { on := 4, ground := Ground.phase }, { on := 5, ground := Ground.phase }, { on := 6, ground := Ground.phase }, { on := 7, ground := Ground.phase }], guard := none }) rfl (fun K hK => ?_) AllReadyH.nil
      go_simp
      refine hK.out _ _ trivial (fun hHeld2 => ?_)
      clear hK K hHeld
      have hHeld := hHeld2
      clear hHeld2
      (try simp only [Act.put, List.setIfInBounds_toArray, List.set_cons_zero, List.set_cons_succ])
      refine wpAnyH_done (by kernel_rfl) ?_ _
      clear hHeld
      go_wp2
      go_roundw
      case rel => exact ⟨p + 1, rest, lb, done ++ [ch], rfl, rfl, rfl, HW1, HN, HR7, HB7⟩
      case measure => exact (by have := HME.out; simp [boolN, strLen] at *; omega)
    · have HC : Aside0 (chunks D = done) := Aside0.mk (by
        rcases HS.out with ⟨h, _, _⟩ | ⟨_, h⟩
        · cases h
        · exact h)
      go_wp2
      go_ret2
      exact ⟨_, rfl, by rw [HC.out]; exact HR.out, HB.out⟩
end Go.Proofs.YtldkgfhngonnfaaDoor.S
namespace Go.Proofs.YtldkgfhngonnfaaDoor.S
open Go.RowKit Go.Proofs.YtldkgfhngonnfaaDoor.PTopStreams Go.Proofs.YtldkgfhngonnfaaDoorW.PrintWords Go.Proofs.YtldkgfhngonnfaaDoorW.PrintLast Go.Proofs.YtldkgfhngonnfaaDoorW.PrintMore
set_option linter.unusedVariables false
set_option linter.unusedSimpArgs false
/-- A stream. -/
structure Str where
  reg : Nat
  size : Nat
  gen : Nat
  half : Nat
  data : ByteArray
  broken : Bool
def Str.cells (S : Str) (db : Nat) : Array Value := #[.pointer (some ⟨db, 0, none⟩), .int .i64 (S.reg : Int), .int .i64 (S.size : Int), .int .i64 (S.gen : Int), .int .i64 (S.half : Int), .string S.data, .bool S.broken]
def IsStr (w : World) (sb db : Nat) (S : Str) : Prop := w.heap[sb]? = some (.cells (S.cells db) 64 (0, 0))
theorem IsStr.at {w : World} {sb db : Nat} {S : Str} (h : IsStr w sb db S) :
    w.cell? ⟨sb, 0, none⟩ = some (.pointer (some ⟨db, 0, none⟩)) ∧ w.cell? ⟨sb, 1, none⟩ = some (.int .i64 (S.reg : Int)) ∧ w.cell? ⟨sb, 2, none⟩ = some (.int .i64 (S.size : Int)) ∧ w.cell? ⟨sb, 3, none⟩ = some (.int .i64 (S.gen : Int)) ∧ w.cell? ⟨sb, 4, none⟩ = some (.int .i64 (S.half : Int)) ∧ w.cell? ⟨sb, 5, none⟩ = some (.string S.data) ∧ w.cell? ⟨sb, 6, none⟩ = some (.bool S.broken) :=
  ⟨(blk_cell h 0).trans rfl, (blk_cell h 1).trans rfl, (blk_cell h 2).trans rfl, (blk_cell h 3).trans rfl, (blk_cell h 4).trans rfl, (blk_cell h 5).trans rfl, (blk_cell h 6).trans rfl⟩
theorem IsStr.below {w w' : World} {sb db : Nat} {S : Str} (h : IsStr w sb db S) (hb : Below w.heap.size w w') : IsStr w' sb db S := blk_below h hb
set_option maxHeartbeats 1000000 in
set_option maxRecDepth 100000 in
theorem cap_calls (w : World) (sb db : Nat) (S : Str) (h : IsStr w sb db S) (hs : S.size ≤ 5000) : Calls Tryd.prog 33 #[.pointer (some ⟨sb, 0, none⟩)] w fun e w' => e = .returned (.int .i64 ((S.size : Int) * 55 - 1)) ∧ w = w' := by
  have hu := Tryd.underlying64
  obtain ⟨_, _, h2, _⟩ := h.at
  generalize hz : (S.size : Int) = z at *
  have z0 : 0 ≤ z := by omega
  have z1 : z ≤ 5000 := by omega
  clear h
  go_enter Tryd.func33, Tryd.ntmps33
  go_wp2
  go_ret
  exact ⟨rfl, rfl⟩
set_option maxHeartbeats 1000000 in
set_option maxRecDepth 100000 in
theorem may_calls (w : World) (sb db : Nat) (S : Str) (h : IsStr w sb db S) (hb : S.broken = false) : Calls Tryd.prog 28 #[.pointer (some ⟨sb, 0, none⟩)] w fun e w' => e = .returned (.int .i64 0) ∧ w = w' := by
  have hu := Tryd.underlying64
  obtain ⟨_, _, _, _, _, _, h6⟩ := h.at
  rw [hb] at h6
  clear h
  go_enter Tryd.func28, Tryd.ntmps28
  go_wp2
  go_ret
  exact ⟨rfl, rfl⟩
set_option maxHeartbeats 1000000 in
set_option maxRecDepth 100000 in
theorem from_calls (w : World) (sb db : Nat) (S : Str) (h : IsStr w sb db S) (hs : S.size ≤ 5000) (hh : S.half ≤ 1) : Calls Tryd.prog 23 #[.pointer (some ⟨sb, 0, none⟩)] w fun e w' => e = .returned (.int .i64 (1 + (S.half : Int) * (S.size : Int))) ∧ Below w.heap.size w w' := by
  have hu := Tryd.underlying64
  obtain ⟨_, _, h2, _, h4, _⟩ := h.at
  obtain ⟨m, hm⟩ : ∃ m : Int, (S.half : Int) * (S.size : Int) = m := ⟨_, rfl⟩
  have hm0 : 0 ≤ m ∧ m ≤ 5000 := by
    rcases (show S.half = 0 ∨ S.half = 1 by omega) with e | e
    · rw [e] at hm; simp at hm; omega
    · rw [e] at hm; simp at hm; omega
  obtain ⟨hm0, hm1⟩ := hm0
  have hmw : IntKind.i64.wrap ((S.half : Int) * (S.size : Int)) = m := by rw [hm, IntKind.wrap_i64]; omega
  have hmw2 : wrap64 ((S.half : Int) * (S.size : Int)) = m := by rw [hm]; exact wrap64_in (by omega) (by omega)
  have hwm : IntKind.i64.wrap m = m := by rw [IntKind.wrap_i64]; omega
  have hwn : IntKind.i64.wrap (1 + m) = 1 + m := by rw [IntKind.wrap_i64]; omega
  rw [hm]
  generalize (S.size : Int) = z at *
  generalize (S.half : Int) = y at *
  clear h hmw hmw2
  go_enter Tryd.func23, Tryd.ntmps23
  go_wp2
  refine wp_region_held_drew (S := fun w => w.cell? ⟨sb, 2, none⟩ = some (.int .i64 z) ∧ w.cell? ⟨sb, 4, none⟩ = some (.int .i64 y)) (by kernel_rfl) ⟨h2, h4⟩ (fun hHeld => ?_)
  have HB := Aside0.mk (below_drew1 (Below.refl w.heap.size w))
  generalize w.drew = w1 at *
  refine wpAnyH_take (i := 0) (oi := { dst := some 3, op := Op.move (Operand.tmp 0), type := 27, pos := "stream.go:90", after := #[], guard := none }) (v := ?v0) rfl (by kernel_rfl) (by kernel_rfl) (by kernel_rfl) (fun _ _ _ h => h) (Or.inl ⟨by rfl, ?y0⟩) (by assumption) ?_
  case y0 => (intro w hSw; (try dsimp only at hSw); go_simp; try with_reducible rfl)
  (try simp only [Act.put, List.setIfInBounds_toArray, List.set_cons_zero, List.set_cons_succ])
  refine wpAnyH_take (i := 1) (oi := { dst := some 4, op := Op.nilCheck (Operand.tmp 3), type := 0, pos := "stream.go:90", after := #[{ on := 0, ground := Ground.data }], guard := none }) (v := ?v1) rfl (by kernel_rfl) (by kernel_rfl) (by kernel_rfl) (fun _ _ _ h => h) (Or.inl ⟨by rfl, ?y1⟩) (by assumption) ?_
  case y1 => (intro w hSw; (try dsimp only at hSw); go_simp; try with_reducible rfl)
  (try simp only [Act.put, List.setIfInBounds_toArray, List.set_cons_zero, List.set_cons_succ])
  refine wpAnyH_take (i := 2) (oi := { dst := some 5, op := Op.fieldAddr 64 (Operand.tmp 4) 4, type := 0, pos := "stream.go:90", after := #[{ on := 1, ground := Ground.data }], guard := none }) (v := ?v2) rfl (by kernel_rfl) (by kernel_rfl) (by kernel_rfl) (fun _ _ _ h => h) (Or.inl ⟨by rfl, ?y2⟩) (by assumption) ?_
  case y2 => (intro w hSw; (try dsimp only at hSw); go_simp; try with_reducible rfl)
  (try simp only [Act.put, List.setIfInBounds_toArray, List.set_cons_zero, List.set_cons_succ])
  refine wpAnyH_take (i := 3) (oi := { dst := some 6, op := Op.load 3 (Operand.tmp 5), type := 3, pos := "stream.go:90", after := #[{ on := 2, ground := Ground.data }], guard := none }) (v := ?v3) rfl (by kernel_rfl) (by kernel_rfl) (by kernel_rfl) (fun _ _ _ h => h) (Or.inl ⟨by rfl, ?y3⟩) (by assumption) ?_
  case y3 => (intro w hSw; (try dsimp only at hSw); go_simp; try with_reducible rfl)
  (try simp only [Act.put, List.setIfInBounds_toArray, List.set_cons_zero, List.set_cons_succ])
  refine wpAnyH_take (i := 4) (oi := { dst := some 7, op := Op.move (Operand.tmp 0), type := 27, pos := "stream.go:90", after := #[], guard := none }) (v := ?v4) rfl (by kernel_rfl) (by kernel_rfl) (by kernel_rfl) (fun _ _ _ h => h) (Or.inl ⟨by rfl, ?y4⟩) (by assumption) ?_
  case y4 => (intro w hSw; (try dsimp only at hSw); go_simp; try with_reducible rfl)
  (try simp only [Act.put, List.setIfInBounds_toArray, List.set_cons_zero, List.set_cons_succ])
  refine wpAnyH_take (i := 5) (oi := { dst := some 8, op := Op.nilCheck (Operand.tmp 7), type := 0, pos := "stream.go:90", after := #[{ on := 4, ground := Ground.data }], guard := none }) (v := ?v5) rfl (by kernel_rfl) (by kernel_rfl) (by kernel_rfl) (fun _ _ _ h => h) (Or.inl ⟨by rfl, ?y5⟩) (by assumption) ?_
  case y5 => (intro w hSw; (try dsimp only at hSw); go_simp; try with_reducible rfl)
  (try simp only [Act.put, List.setIfInBounds_toArray, List.set_cons_zero, List.set_cons_succ])
  refine wpAnyH_take (i := 6) (oi := { dst := some 9, op := Op.fieldAddr 64 (Operand.tmp 8) 2, type := 0, pos := "stream.go:90", after := #[{ on := 5, ground := Ground.data }], guard := none }) (v := ?v6) rfl (by kernel_rfl) (by kernel_rfl) (by kernel_rfl) (fun _ _ _ h => h) (Or.inl ⟨by rfl, ?y6⟩) (by assumption) ?_
  case y6 => (intro w hSw; (try dsimp only at hSw); go_simp; try with_reducible rfl)
  (try simp only [Act.put, List.setIfInBounds_toArray, List.set_cons_zero, List.set_cons_succ])
  refine wpAnyH_take (i := 7) (oi := { dst := some 10, op := Op.load 3 (Operand.tmp 9), type := 3, pos := "stream.go:90", after := #[{ on := 6, ground := Ground.data }], guard := none }) (v := ?v7) rfl (by kernel_rfl) (by kernel_rfl) (by kernel_rfl) (fun _ _ _ h => h) (Or.inl ⟨by rfl, ?y7⟩) (by assumption) ?_
  case y7 => (intro w hSw; (try dsimp only at hSw); go_simp; try with_reducible rfl)
  (try simp only [Act.put, List.setIfInBounds_toArray, List.set_cons_zero, List.set_cons_succ])
  refine wpAnyH_take (i := 8) (oi := { dst := some 11, op := Op.binOp BinOp.mul 3 (Operand.tmp 6) (Operand.tmp 10) 3, type := 3, pos := "stream.go:90", after := #[{ on := 3, ground := Ground.data }, { on := 7, ground := Ground.data }], guard := none }) (v := ?v8) rfl (by kernel_rfl) (by kernel_rfl) (by kernel_rfl) (fun _ _ _ h => h) (Or.inl ⟨by rfl, ?y8⟩) (by assumption) ?_
  case y8 => (intro w hSw; (try dsimp only at hSw); go_simp; try with_reducible rfl)
  (try simp only [Act.put, List.setIfInBounds_toArray, List.set_cons_zero, List.set_cons_succ])
  refine wpAnyH_take (i := 9) (oi := { dst := some 12, op := Op.binOp BinOp.add 3 (Operand.const (Value.int IntKind.i64 1)) (Operand.tmp 11) 3, type := 3, pos := "stream.go:90", after := #[{ on := 8, ground := Ground.data }], guard := none }) (v := ?v9) rfl (by kernel_rfl) (by kernel_rfl) (by kernel_rfl) (fun _ _ _ h => h) (Or.inl ⟨by rfl, ?y9⟩) (by assumption) ?_
  case y9 => (intro w hSw; (try dsimp only at hSw); go_simp; try with_reducible rfl)
  (try simp only [Act.put, List.setIfInBounds_toArray, List.set_cons_zero, List.set_cons_succ])
  refine wpAnyH_ready (rs := [10]) (by kernel_rfl) (by simp) ?_
  refine AllReadyH.cons (o := { dst := some 2, op := Op.assign (Operand.tmp 12), type := 3, pos := "stream.go:90", after := #[{ on := 9, ground := Ground.data }, { on := 0, ground := Ground.phase }, { on := 1, ground := Ground.phase }, { on := 2, ground := Ground.phase }, { on := 3, ground := Ground.phase }, { on := 4, ground := Ground.phase }, { on := 5, ground := Ground.phase }, { on := 6, ground := Ground.phase }, { on := 7, ground := Ground.phase }, { on := 8, ground := Ground.phase }, { on := 9, ground := Ground.phase }], guard := none }) rfl (fun K hK => ?_) AllReadyH.nil
  go_simp
  refine hK.out _ _ hHeld (fun hHeld2 => ?_)
  clear hK K hHeld
  have hHeld := hHeld2
  clear hHeld2
  (try simp only [Act.put, List.setIfInBounds_toArray, List.set_cons_zero, List.set_cons_succ])
  refine wpAnyH_done (by kernel_rfl) ?_ _
  clear hHeld
  go_wp2
  go_ret
  exact ⟨rfl, HB.out⟩
set_option maxHeartbeats 1000000 in
set_option maxRecDepth 100000 in
theorem left_calls (w : World) (sb db : Nat) (S : Str) (h : IsStr w sb db S) (hs : S.size ≤ 5000) (hd : S.data.size < 1000000) : Calls Tryd.prog 13 #[.pointer (some ⟨sb, 0, none⟩)] w fun e w' => e = .returned (.int .i64 ((S.size : Int) * 55 - 1 - (S.data.size : Int))) ∧ Below w.heap.size w w' := by
  have hu := Tryd.underlying64
  obtain ⟨_, _, _, _, _, h5, _⟩ := h.at
  have hwl : IntKind.i64.wrap ((S.size : Int) * 55 - 1 - (S.data.size : Int)) = (S.size : Int) * 55 - 1 - (S.data.size : Int) := by rw [IntKind.wrap_i64]; omega
  have HC := Aside0.mk (fun w h => cap_calls w sb db S h hs)
  go_enter Tryd.func13, Tryd.ntmps13
  go_upto_region 3 with (fail)
  have HI := Aside0.mk (show IsStr w.drew sb db S from h)
  refine wp_region_held_drew (S := fun w => w.cell? ⟨sb, 5, none⟩ = some (.string S.data)) (by kernel_rfl) h5 (fun hHeld => ?_)
  have HB := Aside0.mk (below_drew1 (Below.refl w.heap.size w))
  clear h h5
  generalize w.drew = w1 at *
  refine wpAnyH_take (i := 0) (oi := { dst := some 5, op := Op.move (Operand.tmp 0), type := 27, pos := "stream.go:179", after := #[], guard := none }) (v := ?v0) rfl (by kernel_rfl) (by kernel_rfl) (by kernel_rfl) (fun _ _ _ h => h) (Or.inl ⟨by rfl, ?y0⟩) (by assumption) ?_
  case y0 => (intro w hSw; (try dsimp only at hSw); go_simp; try with_reducible rfl)
  (try simp only [Act.put, List.setIfInBounds_toArray, List.set_cons_zero, List.set_cons_succ])
  refine wpAnyH_take (i := 2) (oi := { dst := some 7, op := Op.move (Operand.tmp 0), type := 27, pos := "stream.go:179", after := #[], guard := none }) (v := ?v2) rfl (by kernel_rfl) (by kernel_rfl) (by kernel_rfl) (fun _ _ _ h => h) (Or.inl ⟨by rfl, ?y2⟩) (by assumption) ?_
  case y2 => (intro w hSw; (try dsimp only at hSw); go_simp; try with_reducible rfl)
  (try simp only [Act.put, List.setIfInBounds_toArray, List.set_cons_zero, List.set_cons_succ])
  refine wpAnyH_take (i := 3) (oi := { dst := some 8, op := Op.nilCheck (Operand.tmp 7), type := 0, pos := "stream.go:179", after := #[{ on := 2, ground := Ground.data }], guard := none }) (v := ?v3) rfl (by kernel_rfl) (by kernel_rfl) (by kernel_rfl) (fun _ _ _ h => h) (Or.inl ⟨by rfl, ?y3⟩) (by assumption) ?_
  case y3 => (intro w hSw; (try dsimp only at hSw); go_simp; try with_reducible rfl)
  (try simp only [Act.put, List.setIfInBounds_toArray, List.set_cons_zero, List.set_cons_succ])
  refine wpAnyH_take (i := 4) (oi := { dst := some 9, op := Op.fieldAddr 64 (Operand.tmp 8) 5, type := 0, pos := "stream.go:179", after := #[{ on := 3, ground := Ground.data }], guard := none }) (v := ?v4) rfl (by kernel_rfl) (by kernel_rfl) (by kernel_rfl) (fun _ _ _ h => h) (Or.inl ⟨by rfl, ?y4⟩) (by assumption) ?_
  case y4 => (intro w hSw; (try dsimp only at hSw); go_simp; try with_reducible rfl)
  (try simp only [Act.put, List.setIfInBounds_toArray, List.set_cons_zero, List.set_cons_succ])
  refine wpAnyH_take (i := 5) (oi := { dst := some 10, op := Op.load 9 (Operand.tmp 9), type := 9, pos := "stream.go:179", after := #[{ on := 4, ground := Ground.data }], guard := none }) (v := ?v5) rfl (by kernel_rfl) (by kernel_rfl) (by kernel_rfl) (fun _ _ _ h => h) (Or.inl ⟨by rfl, ?y5⟩) (by assumption) ?_
  case y5 => (intro w hSw; (try dsimp only at hSw); go_simp; try with_reducible rfl)
  (try simp only [Act.put, List.setIfInBounds_toArray, List.set_cons_zero, List.set_cons_succ])
  refine wpAnyH_take (i := 6) (oi := { dst := some 11, op := Op.call { callee := Callee.builtin Builtin.len, args := #[Operand.tmp 10], argTypes := #[9] }, type := 3, pos := "stream.go:179", after := #[{ on := 5, ground := Ground.data }], guard := none }) (v := ?v6) rfl (by kernel_rfl) (by kernel_rfl) (by kernel_rfl) (fun _ _ _ h => h) (Or.inl ⟨by rfl, ?y6⟩) (by assumption) ?_
  case y6 => (intro w hSw; (try dsimp only at hSw); go_simp; try with_reducible rfl)
  (try simp only [Act.put, List.setIfInBounds_toArray, List.set_cons_zero, List.set_cons_succ])
  refine wpAnyH_ready (rs := [1]) (by kernel_rfl) (by simp) ?_
  refine AllReadyH.cons (o := { dst := some 6, op := Op.call { callee := Callee.value (Operand.func 33), args := #[Operand.tmp 5], argTypes := #[27] }, type := 3, pos := "stream.go:179", after := #[{ on := 0, ground := Ground.data }], guard := none }) rfl (fun K hK => ?_) AllReadyH.nil
  go_simp
  go_at_call 33
  go_loud (refine (HC.out _ HI.out).mono ?_; rintro e w2 ⟨rfl, rfl⟩)
  refine hK.out _ _ hHeld (fun hHeld2 => ?_)
  clear hK K hHeld
  have hHeld := hHeld2
  clear hHeld2
  (try simp only [Act.put, List.setIfInBounds_toArray, List.set_cons_zero, List.set_cons_succ])
  refine wpAnyH_take (i := 7) (oi := { dst := some 12, op := Op.binOp BinOp.sub 3 (Operand.tmp 6) (Operand.tmp 11) 3, type := 3, pos := "stream.go:179", after := #[{ on := 1, ground := Ground.data }, { on := 6, ground := Ground.data }], guard := none }) (v := ?v7) rfl (by kernel_rfl) (by kernel_rfl) (by kernel_rfl) (fun _ _ _ h => h) (Or.inl ⟨by rfl, ?y7⟩) (by assumption) ?_
  case y7 => (intro w hSw; (try dsimp only at hSw); go_simp; try with_reducible rfl)
  (try simp only [Act.put, List.setIfInBounds_toArray, List.set_cons_zero, List.set_cons_succ])
  refine wpAnyH_ready (rs := [8]) (by kernel_rfl) (by simp) ?_
  refine AllReadyH.cons (o := { dst := some 2, op := Op.assign (Operand.tmp 12), type := 3, pos := "stream.go:179", after := #[{ on := 7, ground := Ground.data }, { on := 1, ground := Ground.chain }, { on := 0, ground := Ground.phase }, { on := 1, ground := Ground.phase }, { on := 2, ground := Ground.phase }, { on := 3, ground := Ground.phase }, { on := 4, ground := Ground.phase }, { on := 5, ground := Ground.phase }, { on := 6, ground := Ground.phase }, { on := 7, ground := Ground.phase }], guard := none }) rfl (fun K hK => ?_) AllReadyH.nil
  go_simp
  refine hK.out _ _ hHeld (fun hHeld2 => ?_)
  clear hK K hHeld
  have hHeld := hHeld2
  clear hHeld2
  (try simp only [Act.put, List.setIfInBounds_toArray, List.set_cons_zero, List.set_cons_succ])
  refine wpAnyH_done (by kernel_rfl) ?_ _
  clear hHeld
  go_wp2
  go_ret
  exact ⟨rfl, HB.out⟩
end Go.Proofs.YtldkgfhngonnfaaDoor.S
namespace Go.Proofs.YtldkgfhngonnfaaDoor.S
open Go.RowKit Go.Proofs.YtldkgfhngonnfaaDoor.PTopStreams Go.Proofs.YtldkgfhngonnfaaDoorW.PrintWords Go.Proofs.YtldkgfhngonnfaaDoorW.PrintLast Go.Proofs.YtldkgfhngonnfaaDoorW.PrintMore
set_option linter.unusedVariables false
set_option linter.unusedSimpArgs false
set_option maxHeartbeats 1000000 in
set_option maxRecDepth 100000 in
theorem sread_calls (N : Nat) (W : World) (K : Ad) (D : Dsk) (h : IsDisk N W K D) (p : Int) (n : Nat) (hp : p = (n : Int)) (R : Reg) (hR : D.regs[n]? = some R) (hq : R.queue = []) (hoff : D.off = false) (hl : R.lasts.length ≤ 5000) :
    Calls Tryd.prog 21 #[.pointer (some ⟨K.db, 0, none⟩), .int .i64 p] W fun e w' => ∃ v, e = .returned (.tuple #[v, .int .i64 0]) ∧ Kd.R Kd.string 9 w' W.heap.size (fun _ => True) v R.lasts ∧ Below W.heap.size W w' := by
  have HS := Aside0.mk (sectors_calls N W K D h p n hp R hR)
  have HD := Aside0.mk h
  have HR0 := Aside0.mk (Kd.R_nil Kd.string 9 W W.heap.size (fun _ => True))
  have HB0 := Aside0.mk (Below.refl W.heap.size W)
  have HX := Aside0.mk (show p = (n : Int) ∧ D.regs[n]? = some R ∧ R.queue = [] ∧ D.off = false ∧ R.lasts.length ≤ 5000 from ⟨hp, hR, hq, hoff, hl⟩)
  clear h hp hR hq hoff hl
  go_enter Tryd.func21, Tryd.ntmps21
  go_wp2_with (first | (go_at_call 20; go_loud (refine HS.out.mono ?_; rintro e w1 ⟨rfl, rfl⟩)))
  go_loopw [6, 13] (fun v6 v13 wr => ∃ (q : Int) (j : Nat), v13 = .int .i64 q ∧ Aside0 (q = (j : Int)) ∧ j ≤ R.lasts.length ∧ Aside0 (Kd.R Kd.string 9 wr W.heap.size (fun _ => True) v6 (R.lasts.take j)) ∧ Aside0 (Below W.heap.size W wr)) (fun _ v13 _ => R.lasts.length - (intOf v13).toNat)
  case atStart => exact ⟨0, 0, rfl, Aside0.mk rfl, Nat.zero_le _, HR0, HB0⟩
  case round =>
    clear HR0 HB0
    obtain ⟨q, j, rfl, HQ, hj, HR, HB⟩ := hrel
    obtain ⟨A, c, rfl⟩ := Kd.R_slice HR.out
    by_cases hin : j < R.lasts.length
    · have hlt : decide (q < (R.lasts.length : Int)) = true := decide_eq_true (by rw [HQ.out]; omega)
      have hq0 : 0 ≤ q := by rw [HQ.out]; omega
      have hq1 : q < (R.lasts.length : Int) := by rw [HQ.out]; omega
      have hq9 : (R.lasts.length : Int) ≤ 5000 := by have := HX.out.2.2.2.2; omega
      have HRC : Aside0 (Calls Tryd.prog 37 #[.pointer (some ⟨K.db, 0, none⟩), .int .i64 p, .int .i64 q] wr fun e w' => e = .returned (.tuple #[.string (R.at j), .int .i64 0]) ∧ wr = w') := Aside0.mk (by
        have := read_calls N wr K D (HD.out.below HB.out) p n HX.out.1 R HX.out.2.1 HX.out.2.2.1 q j HQ.out hin
        rw [HX.out.2.2.2.1] at this
        exact this)
      have HT : Aside0 (R.lasts.take (j + 1) = R.lasts.take j ++ [R.at j]) := Aside0.mk (by
        rw [List.take_add_one, List.getElem?_eq_getElem hin, Option.toList_some]
        congr 2
        unfold Reg.at
        simp [List.getD_eq_getElem?_getD, hin])
      have HLN : Aside0 (((R.lasts.take j).length + 1) * 16 ≤ 140737488355328) := Aside0.mk (by rw [List.length_take]; omega)
      have hN := HB.out.size
      generalize R.lasts.take j = outs at *
      generalize R.at j = txt at *
      go_wp2_with (first | (go_at_call 37; go_loud (refine HRC.out.mono ?_; rintro e w2 ⟨rfl, rfl⟩)) | ((with_reducible refine gate_dst (N := 29) rfl ?_); go_loud (refine Kd.R_append Kd.string (w0 := W) (W := wr) W.heap.size rfl (.tmp 26) (.tmp 28) 29 9 (.string ⟨#[]⟩) 16 rfl Tryd.underlying29 info9 rfl (by decide) (by decide) (.slice A outs.length c) outs txt [.string txt] (fun _ => True) (fun _ => False) (by first | rfl | (go_simp; done)) (by first | rfl | (go_simp; done)) rfl (fun _ h => h.elim) (fun _ _ => trivial) HR.out HB.out hN HLN.out ?_; intro v1 w1 hq1 hb1 hg1 hat1; have HR3 := Aside0.mk hq1; have HB3 := Aside0.mk hb1; rw [← HT.out] at HR3; clear hq1 hb1 hg1 hat1)))
      exact ⟨⟨q + 1, j + 1, rfl, Aside0.mk (by have := HQ.out; omega), by omega, HR3, HB3⟩, by have := HQ.out; simp [intOf]; omega⟩
    · have hlt : decide (q < (R.lasts.length : Int)) = false := decide_eq_false (by rw [HQ.out]; omega)
      have HR9 : Aside0 (Kd.R Kd.string 9 wr W.heap.size (fun _ => True) (.slice A (R.lasts.take j).length c) R.lasts) := Aside0.mk (by
        have h := HR.out
        have e : R.lasts.take j = R.lasts := List.take_of_length_le (by omega)
        simp only [e] at h ⊢
        exact h)
      go_wp2
      go_ret2
      exact ⟨_, rfl, HR9.out, HB.out⟩
end Go.Proofs.YtldkgfhngonnfaaDoor.S
