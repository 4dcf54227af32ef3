/- run.Begin of a flow made for the law. Run.step, its closure of function 19. Run.step, its closure of function 22. Run.step, its closure of function 24. Run.settled, its closure of function 19. Run.settled, its closure of function 24. Run.Answer, Run.Finish, Run.Lease. -/
import Derived.Test.YtiipbibbppgbgaaMB
namespace Go.Proofs.Ytiipbibbppgbgaa.T
open Go.RowKit Go.Proofs.Ytiipbibbppgbgaa.PTopFates Go.Proofs.YtiipbibbppgbgaaW.PrintWords Go.Proofs.YtiipbibbppgbgaaW.PrintLast Go.Proofs.YtiipbibbppgbgaaW.PrintMore
set_option linter.unusedVariables false
set_option linter.unusedSimpArgs false

/-- What a flow made for the law meets. -/
structure FlowOk (ns : List S43) (D : Nat → List Nat) : Prop where
  names : Names ns
  one : 1 ≤ ns.length
  len : ns.length ≤ 12
  deps : Deps ns D
  nodup : ∀ i, i < ns.length → (D i).Nodup
  good : ∀ i, i < ns.length → GoodN (ns.getD i z43)
theorem FlowOk.d12 {ns : List S43} {D : Nat → List Nat} (h : FlowOk ns D) : ∀ x ∈ ns, x.f1.length ≤ 12 := fun x hx => by
  obtain ⟨i, hi, rfl⟩ := List.getElem_of_mem hx
  have := (h.good i hi).1
  rwa [List.getD_eq_getElem?_getD, List.getElem?_eq_getElem hi] at this
theorem stL_zero (ns : List S43) : stL ns (fun _ => 0) (fun _ => 0) = List.replicate ns.length z53 := by
  apply List.ext_getElem
  · simp [stL]
  · intro j h1 h2
    simp [stL, mkS, z53]
/-- The nodes that came to a phase. -/
def came (n : Nat) (P0 P : Nat → Int) (p : Int) : List Int := ((List.range n).filter fun i => !(P i == P0 i) && P i == p).map fun i => ((i : Nat) : Int)
theorem cameL_came (E : Env) (P0 T0 P : Nat → Int) (p : Int) (h : E.fr = stL E.ns P0 T0) : cameL E P p E.ns.length = came E.ns.length P0 P p := by
  unfold cameL came
  congr 1
  apply List.filter_congr
  intro i hi
  rw [List.mem_range] at hi
  rw [h, stL_get E.ns P0 T0 i hi]
  rfl
/-- A run's rows, read only: what they lead to lies in okF, okS. -/
def IsRun (w : World) (okF okS : Nat → Prop) (ns : List S43) (P T : Nat → Int) (A : Option Addr) (c : Nat) (B : Option Addr) (cb : Nat) : Prop :=
  Kd.F k43 w okF A ns.length ns ∧ ns.length ≤ c ∧ Kd.F k53 w okS B ns.length (stL ns P T) ∧ ns.length ≤ cb
/-- A list of numbers, read only. -/
def IsList (w : World) (ok : Nat → Prop) (X : Option Addr) (cX : Nat) (L : List Int) : Prop := Kd.F (Kd.int .i64) w ok X L.length L ∧ L.length ≤ cX
/-- A run, and what has become of its nodes: a Change. -/
def IsChg (W w : World) (okF : Nat → Prop) (ns : List S43) (D : Nat → List Nat) (P0 P1 T : Nat → Int) (i0 i1 i2 : Int) (t : ByteArray) (v : Value) : Prop :=
  ∃ (P : Nat → Int) (A : Option Addr) (c : Nat) (B : Option Addr) (cb : Nat) (AR : Option Addr) (cR : Nat) (AC : Option Addr) (cC : Nat),
    v = .agg #[.int .i64 i0, .int .i64 i1, .int .i64 i2, .string t, .slice A ns.length c, .slice B ns.length cb, .slice AR (came ns.length P0 P 1).length cR, .slice AC (came ns.length P0 P 3).length cC] ∧
    Mid ns D P1 P ∧ (∀ i, i < ns.length → Still D P i) ∧ IsRun w (fun k => okF k ∨ W.heap.size ≤ k) (fun k => W.heap.size ≤ k) ns P T A c B cb ∧
    IsList w (fun k => W.heap.size ≤ k) AR cR (came ns.length P0 P 1) ∧ IsList w (fun k => W.heap.size ≤ k) AC cC (came ns.length P0 P 3)
set_option maxHeartbeats 8000000 in
set_option maxRecDepth 100000 in
theorem begin_calls (i0 i1 i2 : Int) (t : ByteArray) (A : Option Addr) (c : Nat) (ns : List S43) (D : Nat → List Nat) (okF : Nat → Prop) (W : World) (hA : Kd.F k43 W okF A ns.length ns) (hc : ns.length ≤ c) (ht : Letters t) (hf : FlowOk ns D) :
    Calls Try.prog 5 #[.int .i64 i0, .agg #[.string t, .slice A ns.length c], .agg #[.int .i64 i1, .int .i64 i2], .int .i64 0] W fun e W' => ∃ v, e = .returned (.tuple #[v, .int .i64 0]) ∧ IsChg W W' okF ns D (fun _ => 0) (fun _ => 0) (fun _ => 0) i0 i1 i2 t v ∧ Below W.heap.size W W' := by
  have hu33 := Try.underlying33
  have hu27 := Try.underlying27
  have hu30 := Try.underlying30
  have hl := hf.len
  have h1 := hf.one
  obtain ⟨hb, hk1, hk2, hk3⟩ := allocs3 W (.cells #[.string t, .slice A ns.length c] 27) (.cells #[.int .i64 i1, .int .i64 i2] 30) (.cells chZ 35)
  have HA := Aside0.mk hA
  have HF := Aside0.mk hf
  have HT := Aside0.mk ht
  have HC := Aside0.mk hc
  have HB := Aside0.mk hb
  have HK1 := Aside0.mk hk1
  have HK2 := Aside0.mk hk2
  have HK3 := Aside0.mk hk3
  have hs : (((W.alloc (.cells #[.string t, .slice A ns.length c] 27)).alloc (.cells #[.int .i64 i1, .int .i64 i2] 30)).alloc (.cells chZ 35)).heap.size = W.heap.size + 3 := by simp
  clear hA hf ht hc hb hk1 hk2 hk3
  go_enter Try.func5, Try.ntmps5
  go_upto_region 1 with (fail)
  generalize ((W.alloc (.cells #[.string t, .slice A ns.length c] 27)).alloc (.cells #[.int .i64 i1, .int .i64 i2] 30)).alloc (.cells chZ 35) = w1 at *
  have hx0 : w1.cell? ⟨W.heap.size, 0, none⟩ = some (.string t) := (blk_cell HK1.out 0).trans rfl
  have hx1 : w1.cell? ⟨W.heap.size, 1, none⟩ = some (.slice A ns.length c) := (blk_cell HK1.out 1).trans rfl
  have HCK := Aside0.mk (graph_calls t A c ns D w1 (Kd.F_now (Kd.F_below HA.out HB.out)) HT.out HF.out.names h1 hl HF.out.deps HF.out.nodup HF.out.good)
  go_upto_region 4 with (first | (go_at_call 13; go_loud (refine HCK.out.mono ?_; rintro e w2 ⟨rfl, hb⟩; have HB2 := Aside0.mk (below_step HB.out hb); have HK1 := Aside0.mk (blk_below HK1.out hb); have HK2 := Aside0.mk (blk_below HK2.out hb); have HK3 := Aside0.mk (blk_below HK3.out hb); have hs2 := hb.size; clear hb)))
  clear hx0 hx1 HCK HB
  have hx0 : w2.cell? ⟨W.heap.size, 0, none⟩ = some (.string t) := (blk_cell HK1.out 0).trans rfl
  have hx1 : w2.cell? ⟨W.heap.size, 1, none⟩ = some (.slice A ns.length c) := (blk_cell HK1.out 1).trans rfl
  have hy0 : w2.cell? ⟨W.heap.size + 1, 0, none⟩ = some (.int .i64 i1) := (blk_cell HK2.out 0).trans rfl
  have hy1 : w2.cell? ⟨W.heap.size + 1, 1, none⟩ = some (.int .i64 i2) := (blk_cell HK2.out 1).trans rfl
  have HCC := Aside0.mk (clone14_calls i0 i1 i2 t A c ns none 0 [] _ w2 (Kd.F_below (Kd.F_bound HA.out) HB2.out) (Kd.C_nil k53 w2) hl (by simp) HF.out.d12)
  go_upto_region 5 with (first | (go_at_call 14; go_loud (refine HCC.out.mono ?_; rintro e w3 ⟨A', c', B0, cb0, rfl, hN, hR, hb⟩; have HN := Aside0.mk (Kd.N_F hN); have HNC := Aside0.mk (Kd.N_reads' hN); have HB3 := Aside0.mk (below_step HB2.out hb); have HK1 := Aside0.mk (blk_below HK1.out hb); have HK2 := Aside0.mk (blk_below HK2.out hb); have HK3 := Aside0.mk (blk_below HK3.out hb); have hs3 := hb.size; clear hN hR hb)))
  have hb4 := below_alloc (Below.refl w3.heap.size w3) (.cells #[.int .i64 i0, .int .i64 i1, .int .i64 i2, .string t, .slice A' ns.length c', .slice B0 0 cb0] 33)
  have HKB := Aside0.mk (blk_new w3 (.cells #[.int .i64 i0, .int .i64 i1, .int .i64 i2, .string t, .slice A' ns.length c', .slice B0 0 cb0] 33))
  have HB4 := Aside0.mk (below_step HB3.out hb4)
  have HK14 := Aside0.mk (blk_below HK1.out hb4)
  have HK34 := Aside0.mk (blk_below HK3.out hb4)
  have HN4 := Aside0.mk (Kd.F_old HN.out hb4)
  have hs4 := hb4.size
  have hgb : W.heap.size + 3 ≤ w3.heap.size := by omega
  have hs4' : w3.heap.size < (w3.alloc (.cells #[.int .i64 i0, .int .i64 i1, .int .i64 i2, .string t, .slice A' ns.length c', .slice B0 0 cb0] 33)).heap.size := by simp
  clear hb4 hx0 hx1 hy0 hy1 HCC HN HK1 HK2 HK3
  generalize w3.alloc (.cells #[.int .i64 i0, .int .i64 i1, .int .i64 i2, .string t, .slice A' ns.length c', .slice B0 0 cb0] 33) = w4 at *
  have hx1 : w4.cell? ⟨W.heap.size, 1, none⟩ = some (.slice A ns.length c) := (blk_cell HK14.out 1).trans rfl
  have HBr := Aside0.mk (Below.refl w4.heap.size w4)
  go_upto_region 6 with (first
    | ((with_reducible refine gate_dst (N := 29) rfl ?_); go_loud (refine Kd.R_lit k53 w4.heap.size 53 rfl rfl (xs := [z53]) (inner := [.int .i64 0, .int .i64 0, .int .i64 0, .int .i64 0]) (ok := fun _ => True) (okp := fun _ => True) (by first | (go_simp; done) | (go_simp; rfl)) (Reps.snoc (ps := []) (cs := []) (Reps.none _ _) (k53_mkM _ _ _ z53) rfl) (fun _ h => h) trivial HBr.out (Nat.le_refl _) (by decide) ?_; intro v1 w5 ho hb hg hnew; obtain ⟨A5, c5, rfl⟩ := Kd.R_slice ho; have HO := Aside0.mk ho; have HB5 := Aside0.mk hb; have hx1 := pw_cell_below hb hx1; clear ho hb hg hnew))
    | (go_at_call 15; go_loud (have hRC := (Kd.R_reads' HO.out).2.2; have hcl := repeat_calls A5 c5 ns.length w5 hRC h1 hl; refine hcl.mono ?_; rintro e w6 ⟨A6, c6, rfl, hr6, hb⟩; have HR6 := Aside0.mk hr6; have HB6 := Aside0.mk hb; have HKB6 := Aside0.mk (blk_below (blk_below HKB.out HB5.out) hb); have hx5 : w6.cell? ⟨w3.heap.size, 5, none⟩ = some (.slice B0 0 cb0) := (blk_cell HKB6.out 5).trans rfl; have hf5 := blk_frozen HKB6.out 5; clear hcl hRC hr6 hb)))
  have hv6 := Kd.R_form HR6.out (by rw [List.length_replicate]; omega)
  obtain ⟨g, cb, he, hg1, hg2, hgc⟩ := hv6
  rw [List.length_replicate] at he
  injection he with ha hl_ hcc
  clear hl_
  subst ha; subst hcc
  have hsz5 := HB5.out.size
  have HKB7 := Aside0.mk (blk_put (cs' := #[.int .i64 i0, .int .i64 i1, .int .i64 i2, .string t, .slice A' ns.length c', .slice (some ⟨g, 0, none⟩) ns.length c6]) HKB6.out 5 (.slice (some ⟨g, 0, none⟩) ns.length c6) rfl)
  have HR7 := Aside0.mk (Kd.R_set HR6.out HKB6.out hE53_33 5 (.slice (some ⟨g, 0, none⟩) ns.length c6))
  have HN7 := Aside0.mk (Kd.F_far (p := ⟨w3.heap.size, 5, none⟩) (Kd.F_below (Kd.F_below HN4.out HB5.out) HB6.out) (fun k hk => (by show k ≠ w3.heap.size; have := hk.2; omega)) (.slice (some ⟨g, 0, none⟩) ns.length c6))
  have HK37 := Aside0.mk (blk_far (p := ⟨w3.heap.size, 5, none⟩) (blk_below (blk_below HK34.out HB5.out) HB6.out) (by show W.heap.size + 2 ≠ w3.heap.size; omega) (.slice (some ⟨g, 0, none⟩) ns.length c6))
  have HB7 : Aside0 (Below W.heap.size W (w6.setCell ⟨w3.heap.size, 5, none⟩ (.slice (some ⟨g, 0, none⟩) ns.length c6))) := Aside0.mk (below_set (below_step (below_step HB4.out HB5.out) HB6.out) (by show W.heap.size ≤ w3.heap.size; omega))
  have hsz7 : (w6.setCell ⟨w3.heap.size, 5, none⟩ (.slice (some ⟨g, 0, none⟩) ns.length c6)).heap.size = w6.heap.size := World.size_setCell _ _ _
  have hg3 : w3.heap.size < g := by omega
  clear HR6 HN4 HK34 HK14 HKB HKB6 hx1 hx5 hf5 HO hgc
  generalize w6.setCell ⟨w3.heap.size, 5, none⟩ (.slice (some ⟨g, 0, none⟩) ns.length c6) = w7 at *
  have K0 : w7.drew.cell? ⟨w3.heap.size, 0, none⟩ = some (.int .i64 i0) ∧ w7.drew.cell? ⟨w3.heap.size, 1, none⟩ = some (.int .i64 i1) ∧ w7.drew.cell? ⟨w3.heap.size, 2, none⟩ = some (.int .i64 i2) ∧ w7.drew.cell? ⟨w3.heap.size, 3, none⟩ = some (.string t) ∧ w7.drew.cell? ⟨w3.heap.size, 4, none⟩ = some (.slice A' ns.length c') ∧ w7.drew.cell? ⟨w3.heap.size, 5, none⟩ = some (.slice (some ⟨g, 0, none⟩) ns.length c6) :=
    ⟨(blk_cell HKB7.out 0).trans rfl, (blk_cell HKB7.out 1).trans rfl, (blk_cell HKB7.out 2).trans rfl, (blk_cell HKB7.out 3).trans rfl, (blk_cell HKB7.out 4).trans rfl, (blk_cell HKB7.out 5).trans rfl⟩
  refine wp_region_held_drew (S := fun w => w.cell? ⟨w3.heap.size, 0, none⟩ = some (.int .i64 i0) ∧ w.cell? ⟨w3.heap.size, 1, none⟩ = some (.int .i64 i1) ∧ w.cell? ⟨w3.heap.size, 2, none⟩ = some (.int .i64 i2) ∧ w.cell? ⟨w3.heap.size, 3, none⟩ = some (.string t) ∧ w.cell? ⟨w3.heap.size, 4, none⟩ = some (.slice A' ns.length c') ∧ w.cell? ⟨w3.heap.size, 5, none⟩ = some (.slice (some ⟨g, 0, none⟩) ns.length c6)) (by kernel_rfl) K0 (fun hHeld => ?_)
  have hdr : Below w7.heap.size w7 w7.drew := below_drew1 (Below.refl _ _)
  have HKB8 := Aside0.mk (blk_below HKB7.out hdr)
  have HR8 := Aside0.mk (Kd.R_below HR7.out hdr)
  have HN8 := Aside0.mk (Kd.F_below HN7.out hdr)
  have HK38 := Aside0.mk (blk_below HK37.out hdr)
  have HB8 := Aside0.mk (below_step HB7.out hdr)
  have hsz8 : w7.drew.heap.size = w6.heap.size := hsz7
  clear K0 hdr HKB7 HR7 HN7 HK37 HB7 hsz7
  generalize w7.drew = w8 at *
  have hRC8 := (Kd.R_reads' HR8.out).2.2
  rw [List.length_replicate] at hRC8
  have hnc6 := (Kd.R_reads' HR8.out).2.1
  have HC9 := Aside0.mk (clone17_calls (some ⟨g, 0, none⟩) c6 (List.replicate ns.length z53) w8 (by rw [List.length_replicate]; exact hRC8) (by rw [List.length_replicate]; omega))
  rw [List.length_replicate] at HC9
  clear hRC8
  refine wpAnyH_take (i := 0) (oi := { dst := some 35, op := Op.load 33 (Operand.tmp 12), type := 33, pos := "run.go:105", after := #[], guard := none }) (v := ?v0) rfl (by kernel_rfl) (by kernel_rfl) (by kernel_rfl) (fun _ _ _ h => h) (Or.inl ⟨by rfl, ?y0⟩) (by assumption) ?_
  case y0 => (intro w hSw; (try dsimp only at hSw); go_simp; try with_reducible rfl)
  (try simp only [Act.put, List.setIfInBounds_toArray, List.set_cons_zero, List.set_cons_succ])
  refine wpAnyH_take (i := 1) (oi := { dst := some 36, op := Op.move (Operand.tmp 3), type := 2, pos := "run.go:105", after := #[], guard := none }) (v := ?v1) rfl (by kernel_rfl) (by kernel_rfl) (by kernel_rfl) (fun _ _ _ h => h) (Or.inl ⟨by rfl, ?y1⟩) (by assumption) ?_
  case y1 => (intro w hSw; (try dsimp only at hSw); go_simp; try with_reducible rfl)
  (try simp only [Act.put, List.setIfInBounds_toArray, List.set_cons_zero, List.set_cons_succ])
  refine wpAnyH_take (i := 2) (oi := { dst := some 37, op := Op.fieldAddr 33 (Operand.tmp 12) 3, type := 0, pos := "run.go:105", after := #[], guard := none }) (v := ?v2) rfl (by kernel_rfl) (by kernel_rfl) (by kernel_rfl) (fun _ _ _ h => h) (Or.inl ⟨by rfl, ?y2⟩) (by assumption) ?_
  case y2 => (intro w hSw; (try dsimp only at hSw); go_simp; try with_reducible rfl)
  (try simp only [Act.put, List.setIfInBounds_toArray, List.set_cons_zero, List.set_cons_succ])
  refine wpAnyH_take (i := 3) (oi := { dst := some 38, op := Op.load 31 (Operand.tmp 37), type := 31, pos := "run.go:105", after := #[{ on := 2, ground := Ground.data }], guard := none }) (v := ?v3) rfl (by kernel_rfl) (by kernel_rfl) (by kernel_rfl) (fun _ _ _ h => h) (Or.inl ⟨by rfl, ?y3⟩) (by assumption) ?_
  case y3 => (intro w hSw; (try dsimp only at hSw); go_simp; try with_reducible rfl)
  (try simp only [Act.put, List.setIfInBounds_toArray, List.set_cons_zero, List.set_cons_succ])
  refine wpAnyH_ready (rs := [4]) (by kernel_rfl) (by simp) ?_
  refine AllReadyH.cons (o := { dst := some 39, op := Op.call { callee := Callee.value (Operand.func 17), args := #[Operand.tmp 38], argTypes := #[31] }, type := 31, pos := "run.go:105", after := #[{ on := 3, ground := Ground.data }], guard := none }) rfl (fun K hK => ?_) AllReadyH.nil
  (first | (go_at_call 17; go_loud (refine HC9.out.mono ?_; rintro e w9 ⟨A9, c9, rfl, hq9, hb9⟩)) | (go_simp; (go_at_call 17; go_loud (refine HC9.out.mono ?_; rintro e w9 ⟨A9, c9, rfl, hq9, hb9⟩))))
  have HR9 := Aside0.mk hq9
  have HB9 := Aside0.mk hb9
  have HKB9 := Aside0.mk (blk_below HKB8.out hb9)
  have K9 : w9.cell? ⟨w3.heap.size, 0, none⟩ = some (.int .i64 i0) ∧ w9.cell? ⟨w3.heap.size, 1, none⟩ = some (.int .i64 i1) ∧ w9.cell? ⟨w3.heap.size, 2, none⟩ = some (.int .i64 i2) ∧ w9.cell? ⟨w3.heap.size, 3, none⟩ = some (.string t) ∧ w9.cell? ⟨w3.heap.size, 4, none⟩ = some (.slice A' ns.length c') ∧ w9.cell? ⟨w3.heap.size, 5, none⟩ = some (.slice (some ⟨g, 0, none⟩) ns.length c6) :=
    ⟨(blk_cell HKB9.out 0).trans rfl, (blk_cell HKB9.out 1).trans rfl, (blk_cell HKB9.out 2).trans rfl, (blk_cell HKB9.out 3).trans rfl, (blk_cell HKB9.out 4).trans rfl, (blk_cell HKB9.out 5).trans rfl⟩
  clear hq9 hb9
  refine hK.out _ _ K9 (fun hHeld2 => ?_)
  clear hK K hHeld
  have hHeld := hHeld2
  clear hHeld2
  (try simp only [Act.put, List.setIfInBounds_toArray, List.set_cons_zero, List.set_cons_succ])
  have hgN : W.heap.size + 3 ≤ g := by omega
  have hw9 := HB9.out.size
  have hE : EnvOk (⟨W.heap.size + 3, i0, i1, i2, t, A', c', g, c6, ns, fun k => ((okF k ∧ k < W.heap.size) ∨ W.heap.size + 3 ≤ k) ∧ k ≠ g, fun k => w8.heap.size ≤ k, A9, c9, List.replicate ns.length z53, w9⟩ : Env) := ⟨fun k hk => hk.2, fun k hk => by (show k ≠ g); have : w8.heap.size ≤ k := hk; omega, by (show W.heap.size + 3 ≤ w9.heap.size); have := HB8.out.size; omega⟩
  have hNF : Kd.F k43 w9 (fun k => ((okF k ∧ k < W.heap.size) ∨ W.heap.size + 3 ≤ k) ∧ k ≠ g) A' ns.length ns := Kd.F_mono (Kd.F_below HN8.out HB9.out) (fun k hk => by
    obtain ⟨⟨h2, _⟩, h3⟩ := hk
    refine ⟨?_, by omega⟩
    rcases h2 with h2 | h2
    · exact .inl h2
    · exact .inr (by omega))
  have hRN := Kd.R_lower (Kd.R_below HR8.out HB9.out) (base' := W.heap.size + 3) (by omega)
  rw [← stL_zero] at hRN
  have hFG := Kd.R_F (Kd.R_mono (Kd.R_bound HR9.out) (ok' := fun k => w8.heap.size ≤ k) (fun k hk => hk.2.1))
  have hr9 := Kd.R_reads' HR9.out
  have hcA := HNC.out.2.1
  have HSC := Aside0.mk (settle_calls (⟨W.heap.size + 3, i0, i1, i2, t, A', c', g, c6, ns, fun k => ((okF k ∧ k < W.heap.size) ∨ W.heap.size + 3 ≤ k) ∧ k ≠ g, fun k => w8.heap.size ≤ k, A9, c9, List.replicate ns.length z53, w9⟩ : Env) hE D (fun _ => 0) (fun _ => 0) h1 hl HF.out.names HF.out.deps HF.out.good hcA (by rw [List.length_replicate]) (by rw [List.length_replicate]; exact hr9.2.1) hNF (by rw [List.length_replicate]; exact hFG) hRN)
  simp only [List.length_replicate] at HSC
  have HCA := Aside0.mk hcA
  have HN6 := Aside0.mk hnc6
  clear hE hNF hRN hFG hr9 hcA hnc6
  refine wpAnyH_ready (rs := [5]) (by kernel_rfl) (by simp) ?_
  refine AllReadyH.cons (o := { dst := some 40, op := Op.call { callee := Callee.value (Operand.func 16), args := #[Operand.tmp 35, Operand.tmp 36, Operand.tmp 39], argTypes := #[33, 2, 31] }, type := 35, pos := "run.go:105", after := #[{ on := 0, ground := Ground.data }, { on := 1, ground := Ground.data }, { on := 4, ground := Ground.data }, { on := 4, ground := Ground.chain }], guard := none }) rfl (fun K hK => ?_) AllReadyH.nil
  (first | (go_at_call 16; go_loud (refine HSC.out.mono ?_; rintro e w10 ⟨P, AR, cR, AC, cC, rfl, q1, q2, q3, q4, q5, q6, q7, q8⟩)) | (go_simp; (go_at_call 16; go_loud (refine HSC.out.mono ?_; rintro e w10 ⟨P, AR, cR, AC, cC, rfl, q1, q2, q3, q4, q5, q6, q7, q8⟩))))
  have hc1 : cameL (⟨W.heap.size + 3, i0, i1, i2, t, A', c', g, c6, ns, fun k => ((okF k ∧ k < W.heap.size) ∨ W.heap.size + 3 ≤ k) ∧ k ≠ g, fun k => w8.heap.size ≤ k, A9, c9, List.replicate ns.length z53, w9⟩ : Env) P 1 ns.length = came ns.length (fun _ => 0) P 1 := cameL_came (⟨W.heap.size + 3, i0, i1, i2, t, A', c', g, c6, ns, fun k => ((okF k ∧ k < W.heap.size) ∨ W.heap.size + 3 ≤ k) ∧ k ≠ g, fun k => w8.heap.size ≤ k, A9, c9, List.replicate ns.length z53, w9⟩ : Env) (fun _ => 0) (fun _ => 0) P 1 (stL_zero ns).symm
  have hc3 : cameL (⟨W.heap.size + 3, i0, i1, i2, t, A', c', g, c6, ns, fun k => ((okF k ∧ k < W.heap.size) ∨ W.heap.size + 3 ≤ k) ∧ k ≠ g, fun k => w8.heap.size ≤ k, A9, c9, List.replicate ns.length z53, w9⟩ : Env) P 3 ns.length = came ns.length (fun _ => 0) P 3 := cameL_came (⟨W.heap.size + 3, i0, i1, i2, t, A', c', g, c6, ns, fun k => ((okF k ∧ k < W.heap.size) ∨ W.heap.size + 3 ≤ k) ∧ k ≠ g, fun k => w8.heap.size ≤ k, A9, c9, List.replicate ns.length z53, w9⟩ : Env) (fun _ => 0) (fun _ => 0) P 3 (stL_zero ns).symm
  rw [hc1] at q6
  rw [hc3] at q7
  rw [hc1, hc3]
  clear hc1 hc3 HSC q4
  have hsz10 : w9.heap.size ≤ w10.heap.size := q8.2.1
  have hk9 := blk_below (blk_below HK38.out HB9.out) (Below.refl _ _)
  have HK310 : Aside0 (w10.heap[W.heap.size + 2]? = some (.cells chZ 35 (0, 0))) := Aside0.mk ((q8.2.2 (W.heap.size + 2) (blk_lt hk9) (by omega)).trans hk9)
  have HKB10 : Aside0 (w10.heap[w3.heap.size]? = some (.cells #[.int .i64 i0, .int .i64 i1, .int .i64 i2, .string t, .slice A' ns.length c', .slice (some ⟨g, 0, none⟩) ns.length c6] 33 (0, 0))) := Aside0.mk ((q8.2.2 w3.heap.size (blk_lt HKB9.out) (by omega)).trans HKB9.out)
  have hBW : Below W.heap.size W w10 := (below_step HB8.out HB9.out).trans (q8.1.mono (by omega))
  have HBW := Aside0.mk hBW
  have HF10 := Aside0.mk q3
  have HS10 := Aside0.mk (Kd.R_F (Kd.R_mono (Kd.R_bound q5) (ok' := fun k => W.heap.size + 3 ≤ k) (fun k hk => hk.2.1)))
  have HLR := Aside0.mk (And.intro (Kd.Q_F (Kd.Q_mono (Kd.Q_bound q6) (ok' := fun k => W.heap.size + 3 ≤ k) (fun k hk => by have := hk.2.1; omega))) (Kd.Q_reads' q6).2.1)
  have HLC := Aside0.mk (And.intro (Kd.Q_F (Kd.Q_mono (Kd.Q_bound q7) (ok' := fun k => W.heap.size + 3 ≤ k) (fun k hk => by have := hk.2.1; omega))) (Kd.Q_reads' q7).2.1)
  have HM := Aside0.mk q1
  have HST := Aside0.mk q2
  have K10 : w10.cell? ⟨w3.heap.size, 0, none⟩ = some (.int .i64 i0) ∧ w10.cell? ⟨w3.heap.size, 1, none⟩ = some (.int .i64 i1) ∧ w10.cell? ⟨w3.heap.size, 2, none⟩ = some (.int .i64 i2) ∧ w10.cell? ⟨w3.heap.size, 3, none⟩ = some (.string t) ∧ w10.cell? ⟨w3.heap.size, 4, none⟩ = some (.slice A' ns.length c') ∧ w10.cell? ⟨w3.heap.size, 5, none⟩ = some (.slice (some ⟨g, 0, none⟩) ns.length c6) :=
    ⟨(blk_cell HKB10.out 0).trans rfl, (blk_cell HKB10.out 1).trans rfl, (blk_cell HKB10.out 2).trans rfl, (blk_cell HKB10.out 3).trans rfl, (blk_cell HKB10.out 4).trans rfl, (blk_cell HKB10.out 5).trans rfl⟩
  clear q1 q2 q3 q5 q6 q7 q8 hk9 hBW K9
  refine hK.out _ _ K10 (fun hHeld2 => ?_)
  clear hK K hHeld
  have hHeld := hHeld2
  clear hHeld2
  (try simp only [Act.put, List.setIfInBounds_toArray, List.set_cons_zero, List.set_cons_succ])
  refine wpAnyH_ready (rs := [6]) (by kernel_rfl) (by simp) ?_
  refine AllReadyH.cons (o := { dst := none, op := Op.store 35 (Operand.tmp 8) (Operand.tmp 40), type := 0, pos := "run.go:105", after := #[{ on := 5, ground := Ground.data }, { on := 5, ground := Ground.chain }, { on := 0, ground := Ground.phase }, { on := 1, ground := Ground.phase }, { on := 2, ground := Ground.phase }, { on := 3, ground := Ground.phase }, { on := 4, ground := Ground.phase }, { on := 5, ground := Ground.phase }], guard := none }) rfl (fun K hK => ?_) AllReadyH.nil
  have hz0 : w10.cell? ⟨W.heap.size + 2, 0, none⟩ = some (.int .i64 0) := (blk_cell HK310.out 0).trans rfl
  have hf0 := blk_frozen HK310.out 0
  have hz1 : w10.cell? ⟨W.heap.size + 2, 1, none⟩ = some (.int .i64 0) := (blk_cell HK310.out 1).trans rfl
  have hf1 := blk_frozen HK310.out 1
  have hz2 : w10.cell? ⟨W.heap.size + 2, 2, none⟩ = some (.int .i64 0) := (blk_cell HK310.out 2).trans rfl
  have hf2 := blk_frozen HK310.out 2
  have hz3 : w10.cell? ⟨W.heap.size + 2, 3, none⟩ = some (.string (⟨#[]⟩ : ByteArray)) := (blk_cell HK310.out 3).trans rfl
  have hf3 := blk_frozen HK310.out 3
  have hz4 : w10.cell? ⟨W.heap.size + 2, 4, none⟩ = some (.slice none 0 0) := (blk_cell HK310.out 4).trans rfl
  have hf4 := blk_frozen HK310.out 4
  have hz5 : w10.cell? ⟨W.heap.size + 2, 5, none⟩ = some (.slice none 0 0) := (blk_cell HK310.out 5).trans rfl
  have hf5 := blk_frozen HK310.out 5
  have hz6 : w10.cell? ⟨W.heap.size + 2, 6, none⟩ = some (.slice none 0 0) := (blk_cell HK310.out 6).trans rfl
  have hf6 := blk_frozen HK310.out 6
  have hz7 : w10.cell? ⟨W.heap.size + 2, 7, none⟩ = some (.slice none 0 0) := (blk_cell HK310.out 7).trans rfl
  have hf7 := blk_frozen HK310.out 7
  refine store_step (w1 := ((((((((w10.setCell ⟨W.heap.size + 2, 0, none⟩ (.int .i64 i0)).setCell ⟨W.heap.size + 2, 1, none⟩ (.int .i64 i1)).setCell ⟨W.heap.size + 2, 2, none⟩ (.int .i64 i2)).setCell ⟨W.heap.size + 2, 3, none⟩ (.string t)).setCell ⟨W.heap.size + 2, 4, none⟩ (.slice A' ns.length c')).setCell ⟨W.heap.size + 2, 5, none⟩ (.slice (some ⟨g, 0, none⟩) ns.length c6)).setCell ⟨W.heap.size + 2, 6, none⟩ (.slice AR (came ns.length (fun _ => 0) P 1).length cR)).setCell ⟨W.heap.size + 2, 7, none⟩ (.slice AC (came ns.length (fun _ => 0) P 3).length cC))) rfl rfl (by first | (go_simp; done) | (go_simp; rfl)) ?_
  have hg8 := setCells_grown w10 (W.heap.size + 2) [.int .i64 i0, .int .i64 i1, .int .i64 i2, .string t, .slice A' ns.length c', .slice (some ⟨g, 0, none⟩) ns.length c6, .slice AR (came ns.length (fun _ => 0) P 1).length cR, .slice AC (came ns.length (fun _ => 0) P 3).length cC]
  have hk8 := setCells_full HK310.out [.int .i64 i0, .int .i64 i1, .int .i64 i2, .string t, .slice A' ns.length c', .slice (some ⟨g, 0, none⟩) ns.length c6, .slice AR (came ns.length (fun _ => 0) P 1).length cR, .slice AC (came ns.length (fun _ => 0) P 3).length cC] rfl
  simp only [World.setCells, Nat.zero_add, Nat.reduceAdd] at hg8 hk8
  have HG8 := Aside0.mk hg8
  have HK8 := Aside0.mk hk8
  have HKB11 := Aside0.mk (blk_grown HKB10.out hg8 (fun e => by injection e with e; omega))
  clear hg8 hk8 hz0 hz1 hz2 hz3 hz4 hz5 hz6 hz7 hf0 hf1 hf2 hf3 hf4 hf5 hf6 hf7
  generalize ((((((((w10.setCell ⟨W.heap.size + 2, 0, none⟩ (.int .i64 i0)).setCell ⟨W.heap.size + 2, 1, none⟩ (.int .i64 i1)).setCell ⟨W.heap.size + 2, 2, none⟩ (.int .i64 i2)).setCell ⟨W.heap.size + 2, 3, none⟩ (.string t)).setCell ⟨W.heap.size + 2, 4, none⟩ (.slice A' ns.length c')).setCell ⟨W.heap.size + 2, 5, none⟩ (.slice (some ⟨g, 0, none⟩) ns.length c6)).setCell ⟨W.heap.size + 2, 6, none⟩ (.slice AR (came ns.length (fun _ => 0) P 1).length cR)).setCell ⟨W.heap.size + 2, 7, none⟩ (.slice AC (came ns.length (fun _ => 0) P 3).length cC)) = w11 at *
  have K11 : w11.cell? ⟨w3.heap.size, 0, none⟩ = some (.int .i64 i0) ∧ w11.cell? ⟨w3.heap.size, 1, none⟩ = some (.int .i64 i1) ∧ w11.cell? ⟨w3.heap.size, 2, none⟩ = some (.int .i64 i2) ∧ w11.cell? ⟨w3.heap.size, 3, none⟩ = some (.string t) ∧ w11.cell? ⟨w3.heap.size, 4, none⟩ = some (.slice A' ns.length c') ∧ w11.cell? ⟨w3.heap.size, 5, none⟩ = some (.slice (some ⟨g, 0, none⟩) ns.length c6) :=
    ⟨(blk_cell HKB11.out 0).trans rfl, (blk_cell HKB11.out 1).trans rfl, (blk_cell HKB11.out 2).trans rfl, (blk_cell HKB11.out 3).trans rfl, (blk_cell HKB11.out 4).trans rfl, (blk_cell HKB11.out 5).trans rfl⟩
  refine hK.out _ _ K11 (fun hHeld2 => ?_)
  clear hK K hHeld
  have hHeld := hHeld2
  clear hHeld2
  (try simp only [Act.put, List.setIfInBounds_toArray, List.set_cons_zero, List.set_cons_succ])
  refine wpAnyH_ready (rs := [7]) (by kernel_rfl) (by simp) ?_
  refine AllReadyH.cons (o := { dst := some 9, op := Op.assign (Operand.const (Value.int IntKind.i64 0)), type := 36, pos := "run.go:105", after := #[{ on := 6, ground := Ground.chain }, { on := 0, ground := Ground.phase }, { on := 1, ground := Ground.phase }, { on := 2, ground := Ground.phase }, { on := 3, ground := Ground.phase }, { on := 4, ground := Ground.phase }, { on := 5, ground := Ground.phase }, { on := 6, ground := Ground.phase }], guard := none }) rfl (fun K hK => ?_) AllReadyH.nil
  go_simp
  refine hK.out _ _ hHeld (fun hHeld2 => ?_)
  clear hK K hHeld
  have hHeld := hHeld2
  clear hHeld2
  (try simp only [Act.put, List.setIfInBounds_toArray, List.set_cons_zero, List.set_cons_succ])
  refine wpAnyH_done (by kernel_rfl) ?_ _
  clear hHeld K10 K11
  go_wp2
  refine bodyPost_ret (results_ct rfl _ _ (W.heap.size + 2) 35 #[.int .i64 i0, .int .i64 i1, .int .i64 i2, .string t, .slice A' ns.length c', .slice (some ⟨g, 0, none⟩) ns.length c6, .slice AR (came ns.length (fun _ => 0) P 1).length cR, .slice AC (came ns.length (fun _ => 0) P 3).length cC] (0, 0) _ rfl HK8.out Try.underlying35 rfl (by kernel_rfl)) rfl ?_
  have hne : ∀ k, W.heap.size + 3 ≤ k → some k ≠ some (W.heap.size + 2) := fun k hk e => by injection e with e; omega
  refine ⟨_, rfl, ⟨P, A', c', some ⟨g, 0, none⟩, c6, AR, cR, AC, cC, rfl, HM.out, HST.out, ⟨?_, HCA.out, ?_, ?_⟩, ⟨?_, HLR.out.2⟩, ⟨?_, HLC.out.2⟩⟩, ?_⟩
  · refine Kd.F_mono (Kd.F_grown HF10.out HG8.out (fun k hk e => ?_)) (fun k hk => ?_)
    · rcases hk.1 with h | h
      · injection e with e; have := h.2; omega
      · exact hne k h e
    · rcases hk.1 with h | h
      · exact .inl h.1
      · exact .inr (by omega)
  · exact Kd.F_mono (Kd.F_grown HS10.out HG8.out hne) (fun k hk => by have : W.heap.size + 3 ≤ k := hk; (show W.heap.size ≤ k); omega)
  · exact HN6.out
  · exact Kd.F_mono (Kd.F_grown HLR.out.1 HG8.out hne) (fun k hk => by have : W.heap.size + 3 ≤ k := hk; (show W.heap.size ≤ k); omega)
  · exact Kd.F_mono (Kd.F_grown HLC.out.1 HG8.out hne) (fun k hk => by have : W.heap.size + 3 ≤ k := hk; (show W.heap.size ≤ k); omega)
  · exact HBW.out.grown HG8.out HBW.out.size (fun k e => by injection e with e; omega)
end Go.Proofs.Ytiipbibbppgbgaa.T
namespace Go.Proofs.Ytiipbibbppgbgaa.T
open Go.RowKit Go.Proofs.Ytiipbibbppgbgaa.PTopFates Go.Proofs.YtiipbibbppgbgaaW.PrintWords Go.Proofs.YtiipbibbppgbgaaW.PrintLast Go.Proofs.YtiipbibbppgbgaaW.PrintMore
set_option linter.unusedVariables false
set_option linter.unusedSimpArgs false

set_option maxHeartbeats 8000000 in
set_option maxRecDepth 100000 in
theorem step19_calls (i0 i1 i2 : Int) (t : ByteArray) (A : Option Addr) (c : Nat) (B : Option Addr) (cb : Nat) (ns : List S43) (D : Nat → List Nat) (P T : Nat → Int) (okF okS : Nat → Prop) (k : Nat) (q : Int) (nb ob : Nat) (ok : Bool) (p2 : Int) (W : World) (hr : IsRun W okF okS ns P T A c B cb) (hf : FlowOk ns D) (hq : q = (k : Int)) (hk : k < ns.length) (hnb : W.heap[nb]? = some (.cells #[.int .i64 0] 2 (0, 0))) (hob : W.heap[ob]? = some (.cells #[.bool ok] 4 (0, 0))) (hP : P k = 3) (hp2 : p2 = if ok then 4 else 5) :
    Calls Try.prog 21 #[.agg #[.int .i64 i0, .int .i64 i1, .int .i64 i2, .string t, .slice A ns.length c, .slice B ns.length cb], .int .i64 q, .func (.func 19) #[] #[.pointer (some ⟨nb, 0, none⟩), .pointer (some ⟨ob, 0, none⟩)]] W fun e W' => ∃ A' c' g cb', e = .returned (.tuple #[.agg #[.int .i64 i0, .int .i64 i1, .int .i64 i2, .string t, .slice A' ns.length c', .slice (some ⟨g, 0, none⟩) ns.length cb'], .int .i64 0]) ∧
      Kd.F k43 W' (fun j => (okF j ∨ W.heap.size ≤ j) ∧ j ≠ g) A' ns.length ns ∧ ns.length ≤ c' ∧ Kd.R k53 53 W' W.heap.size (fun _ => True) (.slice (some ⟨g, 0, none⟩) ns.length cb') (stL ns (upd P k p2) (upd T k (T k))) ∧ Below W.heap.size W W' := by
  have hu33 := Try.underlying33
  have hu27 := Try.underlying27
  have hu53 := Try.underlying53
  have hu43 := Try.underlying43
  have hl := hf.len
  have h1 := hf.one
  obtain ⟨hrA, hrc, hrB, hrcb⟩ := hr
  have hq0 : 0 ≤ q := by omega
  have hq1 : q < (ns.length : Int) := by omega
  have hqk : q.toNat = k := by rw [hq]; rfl
  obtain ⟨adA, A1, c1, eA, ha0, ha1, ha2, ha3, ha4, ha5, hl1, hC1⟩ := at_T43 (Kd.F_now hrA) q hq0 hq1
  obtain ⟨adB, eB, hb0, hb1, hb2, hb3⟩ := at_T53 (Kd.F_now hrB) q hq0 hq1
  subst eA; subst eB
  have hst : rd_T53 (stL ns P T) q = mkS (P k) (T k) (ns.getD k z43).f3 := by unfold rd_T53; rw [hqk]; exact stL_get ns P T k hk
  have hnd : rd_T43 ns q = ns.getD k z43 := by unfold rd_T43; rw [hqk]
  rw [hst, hP] at hb0 hb1 hb2 hb3
  rw [hnd] at ha0 ha1 ha2 ha3 ha4 ha5 hl1 hC1
  obtain ⟨gd1, gd2, gd3, hx2, hx3, gd6⟩ := hf.good k hk
  have hset := stL_set2 ns P T k p2 (T k) hk
  have HNB := Aside0.mk hnb
  have HOB := Aside0.mk hob
  have hcon : ∀ w, Below W.heap.size W w → Calls Try.prog 19 #[encS (mkS 3 (T k) (ns.getD k z43).f3), .agg #[.string (ns.getD k z43).f0, .slice A1 (ns.getD k z43).f1.length c1, .int .i64 (ns.getD k z43).f2, .int .i64 (ns.getD k z43).f3, .int .i64 (ns.getD k z43).f4, .string (ns.getD k z43).f5], .pointer (some ⟨nb, 0, none⟩), .pointer (some ⟨ob, 0, none⟩)] w fun e w' => e = .returned (.tuple #[encS (mkS p2 (T k) (ns.getD k z43).f3), .int .i64 0]) ∧ Below w.heap.size w w' := by
    intro w hw
    generalize ns.getD k z43 = X at *
    rw [hp2]
    exact answer1_calls (T k) X.f3 X A1 c1 nb ob ok w (blk_below HNB.out hw) (blk_below HOB.out hw) hx2 hx3
  obtain ⟨SN, hSN⟩ : ∃ SN, SN = mkS p2 (T k) (ns.getD k z43).f3 := ⟨_, rfl⟩
  obtain ⟨SO, hSO⟩ : ∃ SO, SO = mkS 3 (T k) (ns.getD k z43).f3 := ⟨_, rfl⟩
  rw [← hSO] at hb0 hb1 hb2 hb3 hcon
  rw [← hSN] at hcon hset
  have hon3 : SN.f3 = 0 := by rw [hSN]; rfl
  have hoo3 : SO.f3 = 0 := by rw [hSO]; rfl
  generalize ns.getD k z43 = X at *
  obtain ⟨f0, f1, f2, f3, f4, f5⟩ := X
  obtain ⟨V0, V1, V2, V3⟩ := SN
  obtain ⟨Q0, Q1, Q2, Q3⟩ := SO
  simp only at hon3 hoo3
  subst hon3; subst hoo3
  have HCON : Aside0 (∀ w, Below W.heap.size W w → Calls Try.prog 19 #[.agg #[.int .i64 Q0, .int .i64 Q1, .int .i64 Q2, .int .i64 0], .agg #[.string f0, .slice A1 f1.length c1, .int .i64 f2, .int .i64 f3, .int .i64 f4, .string f5], .pointer (some ⟨nb, 0, none⟩), .pointer (some ⟨ob, 0, none⟩)] w fun e w' => e = .returned (.tuple #[.agg #[.int .i64 V0, .int .i64 V1, .int .i64 V2, .int .i64 0], .int .i64 0]) ∧ Below w.heap.size w w') := Aside0.mk hcon
  have HSET := Aside0.mk hset
  have HRA := Aside0.mk hrA
  have HRB := Aside0.mk hrB
  have HF := Aside0.mk hf
  have HQK := Aside0.mk hqk
  have HQ := Aside0.mk hq
  obtain ⟨hb, hk1, hk2⟩ := allocs2 W (.cells #[.int .i64 i0, .int .i64 i1, .int .i64 i2, .string t, .slice (some adA) ns.length c, .slice (some adB) ns.length cb] 33) (.cells runZ 33)
  have K1 : ((W.alloc (.cells #[.int .i64 i0, .int .i64 i1, .int .i64 i2, .string t, .slice (some adA) ns.length c, .slice (some adB) ns.length cb] 33)).alloc (.cells runZ 33)).cell? ⟨W.heap.size, 4, none⟩ = some (.slice (some adA) ns.length c) ∧ ((W.alloc (.cells #[.int .i64 i0, .int .i64 i1, .int .i64 i2, .string t, .slice (some adA) ns.length c, .slice (some adB) ns.length cb] 33)).alloc (.cells runZ 33)).cell? ⟨W.heap.size, 5, none⟩ = some (.slice (some adB) ns.length cb) ∧ ((W.alloc (.cells #[.int .i64 i0, .int .i64 i1, .int .i64 i2, .string t, .slice (some adA) ns.length c, .slice (some adB) ns.length cb] 33)).alloc (.cells runZ 33)).cell? (adB.add (q.toNat * 4)) = some (.int .i64 Q0) ∧ ((W.alloc (.cells #[.int .i64 i0, .int .i64 i1, .int .i64 i2, .string t, .slice (some adA) ns.length c, .slice (some adB) ns.length cb] 33)).alloc (.cells runZ 33)).cell? ⟨(adB.add (q.toNat * 4)).block, (adB.add (q.toNat * 4)).off + 1, none⟩ = some (.int .i64 Q1) ∧ ((W.alloc (.cells #[.int .i64 i0, .int .i64 i1, .int .i64 i2, .string t, .slice (some adA) ns.length c, .slice (some adB) ns.length cb] 33)).alloc (.cells runZ 33)).cell? ⟨(adB.add (q.toNat * 4)).block, (adB.add (q.toNat * 4)).off + 2, none⟩ = some (.int .i64 Q2) ∧ ((W.alloc (.cells #[.int .i64 i0, .int .i64 i1, .int .i64 i2, .string t, .slice (some adA) ns.length c, .slice (some adB) ns.length cb] 33)).alloc (.cells runZ 33)).cell? ⟨(adB.add (q.toNat * 4)).block, (adB.add (q.toNat * 4)).off + 3, none⟩ = some (.int .i64 0) ∧ ((W.alloc (.cells #[.int .i64 i0, .int .i64 i1, .int .i64 i2, .string t, .slice (some adA) ns.length c, .slice (some adB) ns.length cb] 33)).alloc (.cells runZ 33)).cell? (adA.add (q.toNat * 6)) = some (.string f0) ∧ ((W.alloc (.cells #[.int .i64 i0, .int .i64 i1, .int .i64 i2, .string t, .slice (some adA) ns.length c, .slice (some adB) ns.length cb] 33)).alloc (.cells runZ 33)).cell? ⟨(adA.add (q.toNat * 6)).block, (adA.add (q.toNat * 6)).off + 1, none⟩ = some (.slice A1 f1.length c1) ∧ ((W.alloc (.cells #[.int .i64 i0, .int .i64 i1, .int .i64 i2, .string t, .slice (some adA) ns.length c, .slice (some adB) ns.length cb] 33)).alloc (.cells runZ 33)).cell? ⟨(adA.add (q.toNat * 6)).block, (adA.add (q.toNat * 6)).off + 2, none⟩ = some (.int .i64 f2) ∧ ((W.alloc (.cells #[.int .i64 i0, .int .i64 i1, .int .i64 i2, .string t, .slice (some adA) ns.length c, .slice (some adB) ns.length cb] 33)).alloc (.cells runZ 33)).cell? ⟨(adA.add (q.toNat * 6)).block, (adA.add (q.toNat * 6)).off + 3, none⟩ = some (.int .i64 f3) ∧ ((W.alloc (.cells #[.int .i64 i0, .int .i64 i1, .int .i64 i2, .string t, .slice (some adA) ns.length c, .slice (some adB) ns.length cb] 33)).alloc (.cells runZ 33)).cell? ⟨(adA.add (q.toNat * 6)).block, (adA.add (q.toNat * 6)).off + 4, none⟩ = some (.int .i64 f4) ∧ ((W.alloc (.cells #[.int .i64 i0, .int .i64 i1, .int .i64 i2, .string t, .slice (some adA) ns.length c, .slice (some adB) ns.length cb] 33)).alloc (.cells runZ 33)).cell? ⟨(adA.add (q.toNat * 6)).block, (adA.add (q.toNat * 6)).off + 5, none⟩ = some (.string f5) := ⟨(blk_cell hk1 4).trans rfl, (blk_cell hk1 5).trans rfl, pw_cell_below hb hb0, pw_cell_below hb hb1, pw_cell_below hb hb2, pw_cell_below hb hb3, pw_cell_below hb ha0, pw_cell_below hb ha1, pw_cell_below hb ha2, pw_cell_below hb ha3, pw_cell_below hb ha4, pw_cell_below hb ha5⟩
  have HK1 := Aside0.mk K1
  have HB := Aside0.mk hb
  have HK := Aside0.mk hk1
  have HZ := Aside0.mk hk2
  have hc1 : decide (q < 0) = false := decide_eq_false (by omega)
  have hc2 : decide (q ≥ (ns.length : Int)) = false := decide_eq_false (by omega)
  have hc3 : decide ((ns.length : Int) ≤ q) = false := decide_eq_false (by omega)
  have hs : ((W.alloc (.cells #[.int .i64 i0, .int .i64 i1, .int .i64 i2, .string t, .slice (some adA) ns.length c, .slice (some adB) ns.length cb] 33)).alloc (.cells runZ 33)).heap.size = W.heap.size + 2 := by simp
  have hw5 : ((W.alloc (.cells #[.int .i64 i0, .int .i64 i1, .int .i64 i2, .string t, .slice (some adA) ns.length c, .slice (some adB) ns.length cb] 33)).alloc (.cells runZ 33)).cell? ⟨W.heap.size, 5, none⟩ = some (.slice (some adB) ns.length cb) := (blk_cell hk1 5).trans rfl
  clear hrA hrB ha0 ha1 ha2 ha3 ha4 ha5 hb0 hb1 hb2 hb3 hst hnd hcon hset hP hl1 hC1 hf hqk hq hSN hSO gd1 gd2 gd3 gd6 hx2 hx3 hb hk1 hk2 K1 hnb hob hp2
  go_enter Try.func21, Try.ntmps21
  go_upto_region 3 with (fail)
  generalize (W.alloc (.cells #[.int .i64 i0, .int .i64 i1, .int .i64 i2, .string t, .slice (some adA) ns.length c, .slice (some adB) ns.length cb] 33)).alloc (.cells runZ 33) = w1 at *
  clear hw5
  have hdr : Below w1.heap.size w1 w1.drew := below_drew1 (Below.refl _ _)
  have K0 : w1.drew.cell? ⟨W.heap.size, 4, none⟩ = some (.slice (some adA) ns.length c) ∧ w1.drew.cell? ⟨W.heap.size, 5, none⟩ = some (.slice (some adB) ns.length cb) ∧ w1.drew.cell? (adB.add (q.toNat * 4)) = some (.int .i64 Q0) ∧ w1.drew.cell? ⟨(adB.add (q.toNat * 4)).block, (adB.add (q.toNat * 4)).off + 1, none⟩ = some (.int .i64 Q1) ∧ w1.drew.cell? ⟨(adB.add (q.toNat * 4)).block, (adB.add (q.toNat * 4)).off + 2, none⟩ = some (.int .i64 Q2) ∧ w1.drew.cell? ⟨(adB.add (q.toNat * 4)).block, (adB.add (q.toNat * 4)).off + 3, none⟩ = some (.int .i64 0) ∧ w1.drew.cell? (adA.add (q.toNat * 6)) = some (.string f0) ∧ w1.drew.cell? ⟨(adA.add (q.toNat * 6)).block, (adA.add (q.toNat * 6)).off + 1, none⟩ = some (.slice A1 f1.length c1) ∧ w1.drew.cell? ⟨(adA.add (q.toNat * 6)).block, (adA.add (q.toNat * 6)).off + 2, none⟩ = some (.int .i64 f2) ∧ w1.drew.cell? ⟨(adA.add (q.toNat * 6)).block, (adA.add (q.toNat * 6)).off + 3, none⟩ = some (.int .i64 f3) ∧ w1.drew.cell? ⟨(adA.add (q.toNat * 6)).block, (adA.add (q.toNat * 6)).off + 4, none⟩ = some (.int .i64 f4) ∧ w1.drew.cell? ⟨(adA.add (q.toNat * 6)).block, (adA.add (q.toNat * 6)).off + 5, none⟩ = some (.string f5) := HK1.out
  refine wp_region_held_drew (S := fun w => w.cell? ⟨W.heap.size, 4, none⟩ = some (.slice (some adA) ns.length c) ∧ w.cell? ⟨W.heap.size, 5, none⟩ = some (.slice (some adB) ns.length cb) ∧ w.cell? (adB.add (q.toNat * 4)) = some (.int .i64 Q0) ∧ w.cell? ⟨(adB.add (q.toNat * 4)).block, (adB.add (q.toNat * 4)).off + 1, none⟩ = some (.int .i64 Q1) ∧ w.cell? ⟨(adB.add (q.toNat * 4)).block, (adB.add (q.toNat * 4)).off + 2, none⟩ = some (.int .i64 Q2) ∧ w.cell? ⟨(adB.add (q.toNat * 4)).block, (adB.add (q.toNat * 4)).off + 3, none⟩ = some (.int .i64 0) ∧ w.cell? (adA.add (q.toNat * 6)) = some (.string f0) ∧ w.cell? ⟨(adA.add (q.toNat * 6)).block, (adA.add (q.toNat * 6)).off + 1, none⟩ = some (.slice A1 f1.length c1) ∧ w.cell? ⟨(adA.add (q.toNat * 6)).block, (adA.add (q.toNat * 6)).off + 2, none⟩ = some (.int .i64 f2) ∧ w.cell? ⟨(adA.add (q.toNat * 6)).block, (adA.add (q.toNat * 6)).off + 3, none⟩ = some (.int .i64 f3) ∧ w.cell? ⟨(adA.add (q.toNat * 6)).block, (adA.add (q.toNat * 6)).off + 4, none⟩ = some (.int .i64 f4) ∧ w.cell? ⟨(adA.add (q.toNat * 6)).block, (adA.add (q.toNat * 6)).off + 5, none⟩ = some (.string f5)) (by kernel_rfl) K0 (fun hHeld => ?_)
  have HKd := Aside0.mk (blk_below HK.out hdr)
  have HZd := Aside0.mk (blk_below HZ.out hdr)
  have HBd := Aside0.mk (below_step HB.out hdr)
  have hsd : w1.drew.heap.size = W.heap.size + 2 := hs
  clear hdr K0 HK1 HK HZ HB
  generalize w1.drew = wd at *
  refine wpAnyH_take (i := 0) (oi := { dst := some 22, op := Op.move (Operand.tmp 2), type := 67, pos := "run.go:127", after := #[], guard := none }) (v := ?v0) rfl (by kernel_rfl) (by kernel_rfl) (by kernel_rfl) (fun _ _ _ h => h) (Or.inl ⟨by rfl, ?y0⟩) (by assumption) ?_
  case y0 => (intro w hSw; (try dsimp only at hSw); go_simp; try with_reducible rfl)
  (try simp only [Act.put, List.setIfInBounds_toArray, List.set_cons_zero, List.set_cons_succ])
  refine wpAnyH_take (i := 1) (oi := { dst := some 23, op := Op.fieldAddr 33 (Operand.tmp 3) 3, type := 0, pos := "run.go:127", after := #[], guard := none }) (v := ?v1) rfl (by kernel_rfl) (by kernel_rfl) (by kernel_rfl) (fun _ _ _ h => h) (Or.inl ⟨by rfl, ?y1⟩) (by assumption) ?_
  case y1 => (intro w hSw; (try dsimp only at hSw); go_simp; try with_reducible rfl)
  (try simp only [Act.put, List.setIfInBounds_toArray, List.set_cons_zero, List.set_cons_succ])
  refine wpAnyH_take (i := 2) (oi := { dst := some 24, op := Op.load 31 (Operand.tmp 23), type := 31, pos := "run.go:127", after := #[{ on := 1, ground := Ground.data }], guard := none }) (v := ?v2) rfl (by kernel_rfl) (by kernel_rfl) (by kernel_rfl) (fun _ _ _ h => h) (Or.inl ⟨by rfl, ?y2⟩) (by assumption) ?_
  case y2 => (intro w hSw; (try dsimp only at hSw); go_simp; try with_reducible rfl)
  (try simp only [Act.put, List.setIfInBounds_toArray, List.set_cons_zero, List.set_cons_succ])
  refine wpAnyH_take (i := 3) (oi := { dst := some 25, op := Op.move (Operand.tmp 1), type := 3, pos := "run.go:127", after := #[], guard := none }) (v := ?v3) rfl (by kernel_rfl) (by kernel_rfl) (by kernel_rfl) (fun _ _ _ h => h) (Or.inl ⟨by rfl, ?y3⟩) (by assumption) ?_
  case y3 => (intro w hSw; (try dsimp only at hSw); go_simp; try with_reducible rfl)
  (try simp only [Act.put, List.setIfInBounds_toArray, List.set_cons_zero, List.set_cons_succ])
  refine wpAnyH_take (i := 4) (oi := { dst := some 26, op := Op.indexAddr 31 (Operand.tmp 24) (Operand.tmp 25), type := 0, pos := "run.go:127", after := #[{ on := 2, ground := Ground.data }, { on := 3, ground := Ground.data }], guard := none }) (v := ?v4) rfl (by kernel_rfl) (by kernel_rfl) (by kernel_rfl) (fun _ _ _ h => h) (Or.inl ⟨by rfl, ?y4⟩) (by assumption) ?_
  case y4 => (intro w hSw; (try dsimp only at hSw); go_simp; try with_reducible rfl)
  (try simp only [Act.put, List.setIfInBounds_toArray, List.set_cons_zero, List.set_cons_succ])
  refine wpAnyH_take (i := 5) (oi := { dst := some 27, op := Op.load 53 (Operand.tmp 26), type := 53, pos := "run.go:127", after := #[{ on := 4, ground := Ground.data }], guard := none }) (v := ?v5) rfl (by kernel_rfl) (by kernel_rfl) (by kernel_rfl) (fun _ _ _ h => h) (Or.inl ⟨by rfl, ?y5⟩) (by assumption) ?_
  case y5 => (intro w hSw; (try dsimp only at hSw); go_simp; try with_reducible rfl)
  (try simp only [Act.put, List.setIfInBounds_toArray, List.set_cons_zero, List.set_cons_succ])
  refine wpAnyH_take (i := 6) (oi := { dst := some 28, op := Op.fieldAddr 33 (Operand.tmp 3) 2, type := 0, pos := "run.go:127", after := #[], guard := none }) (v := ?v6) rfl (by kernel_rfl) (by kernel_rfl) (by kernel_rfl) (fun _ _ _ h => h) (Or.inl ⟨by rfl, ?y6⟩) (by assumption) ?_
  case y6 => (intro w hSw; (try dsimp only at hSw); go_simp; try with_reducible rfl)
  (try simp only [Act.put, List.setIfInBounds_toArray, List.set_cons_zero, List.set_cons_succ])
  refine wpAnyH_take (i := 7) (oi := { dst := some 29, op := Op.fieldAddr 27 (Operand.tmp 28) 1, type := 0, pos := "run.go:127", after := #[{ on := 6, ground := Ground.data }], guard := none }) (v := ?v7) rfl (by kernel_rfl) (by kernel_rfl) (by kernel_rfl) (fun _ _ _ h => h) (Or.inl ⟨by rfl, ?y7⟩) (by assumption) ?_
  case y7 => (intro w hSw; (try dsimp only at hSw); go_simp; try with_reducible rfl)
  (try simp only [Act.put, List.setIfInBounds_toArray, List.set_cons_zero, List.set_cons_succ])
  refine wpAnyH_take (i := 8) (oi := { dst := some 30, op := Op.load 25 (Operand.tmp 29), type := 25, pos := "run.go:127", after := #[{ on := 7, ground := Ground.data }], guard := none }) (v := ?v8) rfl (by kernel_rfl) (by kernel_rfl) (by kernel_rfl) (fun _ _ _ h => h) (Or.inl ⟨by rfl, ?y8⟩) (by assumption) ?_
  case y8 => (intro w hSw; (try dsimp only at hSw); go_simp; try with_reducible rfl)
  (try simp only [Act.put, List.setIfInBounds_toArray, List.set_cons_zero, List.set_cons_succ])
  refine wpAnyH_take (i := 9) (oi := { dst := some 31, op := Op.move (Operand.tmp 1), type := 3, pos := "run.go:127", after := #[], guard := none }) (v := ?v9) rfl (by kernel_rfl) (by kernel_rfl) (by kernel_rfl) (fun _ _ _ h => h) (Or.inl ⟨by rfl, ?y9⟩) (by assumption) ?_
  case y9 => (intro w hSw; (try dsimp only at hSw); go_simp; try with_reducible rfl)
  (try simp only [Act.put, List.setIfInBounds_toArray, List.set_cons_zero, List.set_cons_succ])
  refine wpAnyH_take (i := 10) (oi := { dst := some 32, op := Op.indexAddr 25 (Operand.tmp 30) (Operand.tmp 31), type := 0, pos := "run.go:127", after := #[{ on := 8, ground := Ground.data }, { on := 9, ground := Ground.data }], guard := none }) (v := ?v10) rfl (by kernel_rfl) (by kernel_rfl) (by kernel_rfl) (fun _ _ _ h => h) (Or.inl ⟨by rfl, ?y10⟩) (by assumption) ?_
  case y10 => (intro w hSw; (try dsimp only at hSw); go_simp; try with_reducible rfl)
  (try simp only [Act.put, List.setIfInBounds_toArray, List.set_cons_zero, List.set_cons_succ])
  refine wpAnyH_take (i := 11) (oi := { dst := some 33, op := Op.load 43 (Operand.tmp 32), type := 43, pos := "run.go:127", after := #[{ on := 10, ground := Ground.data }], guard := none }) (v := ?v11) rfl (by kernel_rfl) (by kernel_rfl) (by kernel_rfl) (fun _ _ _ h => h) (Or.inl ⟨by rfl, ?y11⟩) (by assumption) ?_
  case y11 => (intro w hSw; (try dsimp only at hSw); go_simp; try with_reducible rfl)
  (try simp only [Act.put, List.setIfInBounds_toArray, List.set_cons_zero, List.set_cons_succ])
  have K0d := hHeld
  have hsd2 : W.heap.size + 2 ≤ wd.heap.size := Nat.le_of_eq hsd.symm
  clear hsd
  refine wpAnyH_ready (rs := [12, 16]) (by kernel_rfl) (by simp) ?_
  refine AllReadyH.cons (o := { dst := some 34, op := Op.call { callee := Callee.value (Operand.tmp 22), args := #[Operand.tmp 27, Operand.tmp 33], argTypes := #[53, 43] }, type := 65, pos := "run.go:127", after := #[{ on := 0, ground := Ground.data }, { on := 5, ground := Ground.data }, { on := 11, ground := Ground.data }], guard := none }) rfl (fun K hK => ?_) (AllReadyH.cons (o := { dst := some 8, op := Op.alloc 53, type := 0, pos := "run.go:127", after := #[], guard := none }) rfl (fun K hK => ?_) AllReadyH.nil)
  · (first | (go_at_call 19; go_loud (refine (HCON.out _ HBd.out).mono ?_; rintro e w5 ⟨rfl, hb5⟩)) | (go_simp; (go_at_call 19; go_loud (refine (HCON.out _ HBd.out).mono ?_; rintro e w5 ⟨rfl, hb5⟩))))
    have HBw5 := Aside0.mk (below_step HBd.out hb5)
    have HK5 := Aside0.mk (blk_below HKd.out hb5)
    have HZ5 := Aside0.mk (blk_below HZd.out hb5)
    have hs5 := hb5.size
    have K5 : w5.cell? ⟨W.heap.size, 4, none⟩ = some (.slice (some adA) ns.length c) ∧ w5.cell? ⟨W.heap.size, 5, none⟩ = some (.slice (some adB) ns.length cb) ∧ w5.cell? (adB.add (q.toNat * 4)) = some (.int .i64 Q0) ∧ w5.cell? ⟨(adB.add (q.toNat * 4)).block, (adB.add (q.toNat * 4)).off + 1, none⟩ = some (.int .i64 Q1) ∧ w5.cell? ⟨(adB.add (q.toNat * 4)).block, (adB.add (q.toNat * 4)).off + 2, none⟩ = some (.int .i64 Q2) ∧ w5.cell? ⟨(adB.add (q.toNat * 4)).block, (adB.add (q.toNat * 4)).off + 3, none⟩ = some (.int .i64 0) ∧ w5.cell? (adA.add (q.toNat * 6)) = some (.string f0) ∧ w5.cell? ⟨(adA.add (q.toNat * 6)).block, (adA.add (q.toNat * 6)).off + 1, none⟩ = some (.slice A1 f1.length c1) ∧ w5.cell? ⟨(adA.add (q.toNat * 6)).block, (adA.add (q.toNat * 6)).off + 2, none⟩ = some (.int .i64 f2) ∧ w5.cell? ⟨(adA.add (q.toNat * 6)).block, (adA.add (q.toNat * 6)).off + 3, none⟩ = some (.int .i64 f3) ∧ w5.cell? ⟨(adA.add (q.toNat * 6)).block, (adA.add (q.toNat * 6)).off + 4, none⟩ = some (.int .i64 f4) ∧ w5.cell? ⟨(adA.add (q.toNat * 6)).block, (adA.add (q.toNat * 6)).off + 5, none⟩ = some (.string f5) := ⟨pw_cell_below hb5 hHeld.1, pw_cell_below hb5 hHeld.2.1, pw_cell_below hb5 hHeld.2.2.1, pw_cell_below hb5 hHeld.2.2.2.1, pw_cell_below hb5 hHeld.2.2.2.2.1, pw_cell_below hb5 hHeld.2.2.2.2.2.1, pw_cell_below hb5 hHeld.2.2.2.2.2.2.1, pw_cell_below hb5 hHeld.2.2.2.2.2.2.2.1, pw_cell_below hb5 hHeld.2.2.2.2.2.2.2.2.1, pw_cell_below hb5 hHeld.2.2.2.2.2.2.2.2.2.1, pw_cell_below hb5 hHeld.2.2.2.2.2.2.2.2.2.2.1, pw_cell_below hb5 hHeld.2.2.2.2.2.2.2.2.2.2.2⟩
    clear hb5
    refine hK.out _ _ K5 (fun hHeld2 => ?_)
    clear hK K hHeld
    have hHeld := hHeld2
    clear hHeld2
    (try simp only [Act.put, List.setIfInBounds_toArray, List.set_cons_zero, List.set_cons_succ])
    refine wpAnyH_take (i := 13) (oi := { dst := some 21, op := Op.move (Operand.tmp 34), type := 65, pos := "run.go:127", after := #[{ on := 12, ground := Ground.data }], guard := none }) (v := ?v13) rfl (by kernel_rfl) (by kernel_rfl) (by kernel_rfl) (fun _ _ _ h => h) (Or.inl ⟨by rfl, ?y13⟩) (by assumption) ?_
    case y13 => (intro w hSw; (try dsimp only at hSw); go_simp; try with_reducible rfl)
    (try simp only [Act.put, List.setIfInBounds_toArray, List.set_cons_zero, List.set_cons_succ])
    refine wpAnyH_take (i := 14) (oi := { dst := some 35, op := Op.extract (Operand.tmp 21) 0, type := 53, pos := "run.go:127", after := #[{ on := 13, ground := Ground.data }], guard := none }) (v := ?v14) rfl (by kernel_rfl) (by kernel_rfl) (by kernel_rfl) (fun _ _ _ h => h) (Or.inl ⟨by rfl, ?y14⟩) (by assumption) ?_
    case y14 => (intro w hSw; (try dsimp only at hSw); go_simp; try with_reducible rfl)
    (try simp only [Act.put, List.setIfInBounds_toArray, List.set_cons_zero, List.set_cons_succ])
    refine wpAnyH_take (i := 15) (oi := { dst := some 36, op := Op.extract (Operand.tmp 21) 1, type := 36, pos := "run.go:127", after := #[{ on := 13, ground := Ground.data }, { on := 17, ground := Ground.gcOnly Departure.lateStores }], guard := none }) (v := ?v15) rfl (by kernel_rfl) (by kernel_rfl) (by kernel_rfl) (fun _ _ _ h => h) (Or.inl ⟨by rfl, ?y15⟩) (by assumption) ?_
    case y15 => (intro w hSw; (try dsimp only at hSw); go_simp; try with_reducible rfl)
    (try simp only [Act.put, List.setIfInBounds_toArray, List.set_cons_zero, List.set_cons_succ])
    have hba := below_alloc (Below.refl w5.heap.size w5) (.cells #[.int .i64 0, .int .i64 0, .int .i64 0, .int .i64 0] 53)
    have K5a : (w5.alloc (.cells #[.int .i64 0, .int .i64 0, .int .i64 0, .int .i64 0] 53)).cell? ⟨W.heap.size, 4, none⟩ = some (.slice (some adA) ns.length c) ∧ (w5.alloc (.cells #[.int .i64 0, .int .i64 0, .int .i64 0, .int .i64 0] 53)).cell? ⟨W.heap.size, 5, none⟩ = some (.slice (some adB) ns.length cb) ∧ (w5.alloc (.cells #[.int .i64 0, .int .i64 0, .int .i64 0, .int .i64 0] 53)).cell? (adB.add (q.toNat * 4)) = some (.int .i64 Q0) ∧ (w5.alloc (.cells #[.int .i64 0, .int .i64 0, .int .i64 0, .int .i64 0] 53)).cell? ⟨(adB.add (q.toNat * 4)).block, (adB.add (q.toNat * 4)).off + 1, none⟩ = some (.int .i64 Q1) ∧ (w5.alloc (.cells #[.int .i64 0, .int .i64 0, .int .i64 0, .int .i64 0] 53)).cell? ⟨(adB.add (q.toNat * 4)).block, (adB.add (q.toNat * 4)).off + 2, none⟩ = some (.int .i64 Q2) ∧ (w5.alloc (.cells #[.int .i64 0, .int .i64 0, .int .i64 0, .int .i64 0] 53)).cell? ⟨(adB.add (q.toNat * 4)).block, (adB.add (q.toNat * 4)).off + 3, none⟩ = some (.int .i64 0) ∧ (w5.alloc (.cells #[.int .i64 0, .int .i64 0, .int .i64 0, .int .i64 0] 53)).cell? (adA.add (q.toNat * 6)) = some (.string f0) ∧ (w5.alloc (.cells #[.int .i64 0, .int .i64 0, .int .i64 0, .int .i64 0] 53)).cell? ⟨(adA.add (q.toNat * 6)).block, (adA.add (q.toNat * 6)).off + 1, none⟩ = some (.slice A1 f1.length c1) ∧ (w5.alloc (.cells #[.int .i64 0, .int .i64 0, .int .i64 0, .int .i64 0] 53)).cell? ⟨(adA.add (q.toNat * 6)).block, (adA.add (q.toNat * 6)).off + 2, none⟩ = some (.int .i64 f2) ∧ (w5.alloc (.cells #[.int .i64 0, .int .i64 0, .int .i64 0, .int .i64 0] 53)).cell? ⟨(adA.add (q.toNat * 6)).block, (adA.add (q.toNat * 6)).off + 3, none⟩ = some (.int .i64 f3) ∧ (w5.alloc (.cells #[.int .i64 0, .int .i64 0, .int .i64 0, .int .i64 0] 53)).cell? ⟨(adA.add (q.toNat * 6)).block, (adA.add (q.toNat * 6)).off + 4, none⟩ = some (.int .i64 f4) ∧ (w5.alloc (.cells #[.int .i64 0, .int .i64 0, .int .i64 0, .int .i64 0] 53)).cell? ⟨(adA.add (q.toNat * 6)).block, (adA.add (q.toNat * 6)).off + 5, none⟩ = some (.string f5) := ⟨pw_cell_below hba hHeld.1, pw_cell_below hba hHeld.2.1, pw_cell_below hba hHeld.2.2.1, pw_cell_below hba hHeld.2.2.2.1, pw_cell_below hba hHeld.2.2.2.2.1, pw_cell_below hba hHeld.2.2.2.2.2.1, pw_cell_below hba hHeld.2.2.2.2.2.2.1, pw_cell_below hba hHeld.2.2.2.2.2.2.2.1, pw_cell_below hba hHeld.2.2.2.2.2.2.2.2.1, pw_cell_below hba hHeld.2.2.2.2.2.2.2.2.2.1, pw_cell_below hba hHeld.2.2.2.2.2.2.2.2.2.2.1, pw_cell_below hba hHeld.2.2.2.2.2.2.2.2.2.2.2⟩
    have hbA : (adA.add (q.toNat * 6)).block < w5.heap.size := World.block_lt_of_cell? w5 _ hHeld.2.2.2.2.2.2.1
    have hbB : (adB.add (q.toNat * 4)).block < w5.heap.size := World.block_lt_of_cell? w5 _ hHeld.2.2.1
    refine wpAnyH_ready (rs := [16]) (by kernel_rfl) (by simp) ?_
    refine AllReadyH.cons (o := { dst := some 8, op := Op.alloc 53, type := 0, pos := "run.go:127", after := #[], guard := none }) rfl (fun K hK => ?_) AllReadyH.nil
    go_simp
    refine hK.out _ _ K5a (fun hHeld2 => ?_)
    clear hK K hHeld
    have hHeld := hHeld2
    clear hHeld2
    (try simp only [Act.put, List.setIfInBounds_toArray, List.set_cons_zero, List.set_cons_succ])
    have HXw := Aside0.mk (blk_new w5 (.cells #[.int .i64 0, .int .i64 0, .int .i64 0, .int .i64 0] 53))
    have HBw := Aside0.mk (below_step HBw5.out hba)
    have HKw := Aside0.mk (blk_below HK5.out hba)
    have HZw := Aside0.mk (blk_below HZ5.out hba)
    have hsw : W.heap.size + 2 ≤ w5.heap.size := by omega
    have hswa := hba.size
    clear hba K5 K5a HBw5 HK5 HZ5 HKd HZd HBd
    generalize w5.alloc (.cells #[.int .i64 0, .int .i64 0, .int .i64 0, .int .i64 0] 53) = ww at *
    generalize hgbE : w5.heap.size = gb at *
    refine wpAnyH_ready (rs := [17]) (by kernel_rfl) (by simp) ?_
    refine AllReadyH.cons (o := { dst := none, op := Op.store 53 (Operand.tmp 8) (Operand.tmp 35), type := 0, pos := "run.go:127", after := #[{ on := 16, ground := Ground.data }, { on := 14, ground := Ground.data }, { on := 12, ground := Ground.chain }, { on := 0, ground := Ground.phase }, { on := 1, ground := Ground.phase }, { on := 2, ground := Ground.phase }, { on := 3, ground := Ground.phase }, { on := 4, ground := Ground.phase }, { on := 5, ground := Ground.phase }, { on := 6, ground := Ground.phase }, { on := 7, ground := Ground.phase }, { on := 8, ground := Ground.phase }, { on := 9, ground := Ground.phase }, { on := 10, ground := Ground.phase }, { on := 11, ground := Ground.phase }, { on := 12, ground := Ground.phase }, { on := 13, ground := Ground.phase }, { on := 14, ground := Ground.phase }, { on := 15, ground := Ground.textOnly Departure.lateStores }, { on := 16, ground := Ground.phase }], guard := none }) rfl (fun K hK => ?_) AllReadyH.nil
    have hz0 : ww.cell? ⟨gb, 0, none⟩ = some (.int .i64 0) := (blk_cell HXw.out 0).trans rfl
    have hzf0 := blk_frozen HXw.out 0
    have hz1 : ww.cell? ⟨gb, 1, none⟩ = some (.int .i64 0) := (blk_cell HXw.out 1).trans rfl
    have hzf1 := blk_frozen HXw.out 1
    have hz2 : ww.cell? ⟨gb, 2, none⟩ = some (.int .i64 0) := (blk_cell HXw.out 2).trans rfl
    have hzf2 := blk_frozen HXw.out 2
    have hz3 : ww.cell? ⟨gb, 3, none⟩ = some (.int .i64 0) := (blk_cell HXw.out 3).trans rfl
    have hzf3 := blk_frozen HXw.out 3
    refine store_step (w1 := ((((ww.setCell ⟨gb, 0, none⟩ (.int .i64 V0)).setCell ⟨gb, 1, none⟩ (.int .i64 V1)).setCell ⟨gb, 2, none⟩ (.int .i64 V2)).setCell ⟨gb, 3, none⟩ (.int .i64 0))) rfl rfl (by first | (go_simp; done) | (go_simp; rfl)) ?_
    have hg6 := setCells_grown ww (gb) [.int .i64 V0, .int .i64 V1, .int .i64 V2, .int .i64 0]
    have hk6 := setCells_full HXw.out [.int .i64 V0, .int .i64 V1, .int .i64 V2, .int .i64 0] rfl
    simp only [World.setCells, Nat.zero_add, Nat.reduceAdd] at hg6 hk6
    have HX6 := Aside0.mk hk6
    have HB6 := Aside0.mk (HBw.out.grown hg6 HBw.out.size (fun j e => by injection e with e; omega))
    have HK6 := Aside0.mk (blk_grown HKw.out hg6 (fun e => by injection e with e; omega))
    have HZ6 := Aside0.mk (blk_grown HZw.out hg6 (fun e => by injection e with e; omega))
    have hs6 : W.heap.size + 2 ≤ ((((ww.setCell ⟨gb, 0, none⟩ (.int .i64 V0)).setCell ⟨gb, 1, none⟩ (.int .i64 V1)).setCell ⟨gb, 2, none⟩ (.int .i64 V2)).setCell ⟨gb, 3, none⟩ (.int .i64 0)).heap.size := Nat.le_trans hsw (Nat.le_trans hswa hg6.size)
    have hcell : ∀ (a : Addr) (v : Value), ww.cell? a = some v → a.block < gb → ((((ww.setCell ⟨gb, 0, none⟩ (.int .i64 V0)).setCell ⟨gb, 1, none⟩ (.int .i64 V1)).setCell ⟨gb, 2, none⟩ (.int .i64 V2)).setCell ⟨gb, 3, none⟩ (.int .i64 0)).cell? a = some v := fun a v h hne => hg6.cell h (fun e => by injection e with e; omega)
    have K6 : ((((ww.setCell ⟨gb, 0, none⟩ (.int .i64 V0)).setCell ⟨gb, 1, none⟩ (.int .i64 V1)).setCell ⟨gb, 2, none⟩ (.int .i64 V2)).setCell ⟨gb, 3, none⟩ (.int .i64 0)).cell? ⟨W.heap.size, 4, none⟩ = some (.slice (some adA) ns.length c) ∧ ((((ww.setCell ⟨gb, 0, none⟩ (.int .i64 V0)).setCell ⟨gb, 1, none⟩ (.int .i64 V1)).setCell ⟨gb, 2, none⟩ (.int .i64 V2)).setCell ⟨gb, 3, none⟩ (.int .i64 0)).cell? ⟨W.heap.size, 5, none⟩ = some (.slice (some adB) ns.length cb) ∧ ((((ww.setCell ⟨gb, 0, none⟩ (.int .i64 V0)).setCell ⟨gb, 1, none⟩ (.int .i64 V1)).setCell ⟨gb, 2, none⟩ (.int .i64 V2)).setCell ⟨gb, 3, none⟩ (.int .i64 0)).cell? (adB.add (q.toNat * 4)) = some (.int .i64 Q0) ∧ ((((ww.setCell ⟨gb, 0, none⟩ (.int .i64 V0)).setCell ⟨gb, 1, none⟩ (.int .i64 V1)).setCell ⟨gb, 2, none⟩ (.int .i64 V2)).setCell ⟨gb, 3, none⟩ (.int .i64 0)).cell? ⟨(adB.add (q.toNat * 4)).block, (adB.add (q.toNat * 4)).off + 1, none⟩ = some (.int .i64 Q1) ∧ ((((ww.setCell ⟨gb, 0, none⟩ (.int .i64 V0)).setCell ⟨gb, 1, none⟩ (.int .i64 V1)).setCell ⟨gb, 2, none⟩ (.int .i64 V2)).setCell ⟨gb, 3, none⟩ (.int .i64 0)).cell? ⟨(adB.add (q.toNat * 4)).block, (adB.add (q.toNat * 4)).off + 2, none⟩ = some (.int .i64 Q2) ∧ ((((ww.setCell ⟨gb, 0, none⟩ (.int .i64 V0)).setCell ⟨gb, 1, none⟩ (.int .i64 V1)).setCell ⟨gb, 2, none⟩ (.int .i64 V2)).setCell ⟨gb, 3, none⟩ (.int .i64 0)).cell? ⟨(adB.add (q.toNat * 4)).block, (adB.add (q.toNat * 4)).off + 3, none⟩ = some (.int .i64 0) ∧ ((((ww.setCell ⟨gb, 0, none⟩ (.int .i64 V0)).setCell ⟨gb, 1, none⟩ (.int .i64 V1)).setCell ⟨gb, 2, none⟩ (.int .i64 V2)).setCell ⟨gb, 3, none⟩ (.int .i64 0)).cell? (adA.add (q.toNat * 6)) = some (.string f0) ∧ ((((ww.setCell ⟨gb, 0, none⟩ (.int .i64 V0)).setCell ⟨gb, 1, none⟩ (.int .i64 V1)).setCell ⟨gb, 2, none⟩ (.int .i64 V2)).setCell ⟨gb, 3, none⟩ (.int .i64 0)).cell? ⟨(adA.add (q.toNat * 6)).block, (adA.add (q.toNat * 6)).off + 1, none⟩ = some (.slice A1 f1.length c1) ∧ ((((ww.setCell ⟨gb, 0, none⟩ (.int .i64 V0)).setCell ⟨gb, 1, none⟩ (.int .i64 V1)).setCell ⟨gb, 2, none⟩ (.int .i64 V2)).setCell ⟨gb, 3, none⟩ (.int .i64 0)).cell? ⟨(adA.add (q.toNat * 6)).block, (adA.add (q.toNat * 6)).off + 2, none⟩ = some (.int .i64 f2) ∧ ((((ww.setCell ⟨gb, 0, none⟩ (.int .i64 V0)).setCell ⟨gb, 1, none⟩ (.int .i64 V1)).setCell ⟨gb, 2, none⟩ (.int .i64 V2)).setCell ⟨gb, 3, none⟩ (.int .i64 0)).cell? ⟨(adA.add (q.toNat * 6)).block, (adA.add (q.toNat * 6)).off + 3, none⟩ = some (.int .i64 f3) ∧ ((((ww.setCell ⟨gb, 0, none⟩ (.int .i64 V0)).setCell ⟨gb, 1, none⟩ (.int .i64 V1)).setCell ⟨gb, 2, none⟩ (.int .i64 V2)).setCell ⟨gb, 3, none⟩ (.int .i64 0)).cell? ⟨(adA.add (q.toNat * 6)).block, (adA.add (q.toNat * 6)).off + 4, none⟩ = some (.int .i64 f4) ∧ ((((ww.setCell ⟨gb, 0, none⟩ (.int .i64 V0)).setCell ⟨gb, 1, none⟩ (.int .i64 V1)).setCell ⟨gb, 2, none⟩ (.int .i64 V2)).setCell ⟨gb, 3, none⟩ (.int .i64 0)).cell? ⟨(adA.add (q.toNat * 6)).block, (adA.add (q.toNat * 6)).off + 5, none⟩ = some (.string f5) := ⟨hcell _ _ hHeld.1 (by show W.heap.size < gb; omega), hcell _ _ hHeld.2.1 (by show W.heap.size < gb; omega), hcell _ _ hHeld.2.2.1 hbB, hcell _ _ hHeld.2.2.2.1 hbB, hcell _ _ hHeld.2.2.2.2.1 hbB, hcell _ _ hHeld.2.2.2.2.2.1 hbB, hcell _ _ hHeld.2.2.2.2.2.2.1 hbA, hcell _ _ hHeld.2.2.2.2.2.2.2.1 hbA, hcell _ _ hHeld.2.2.2.2.2.2.2.2.1 hbA, hcell _ _ hHeld.2.2.2.2.2.2.2.2.2.1 hbA, hcell _ _ hHeld.2.2.2.2.2.2.2.2.2.2.1 hbA, hcell _ _ hHeld.2.2.2.2.2.2.2.2.2.2.2 hbA⟩
    clear hcell hg6 hk6 hz0 hz1 hz2 hz3 hzf0 hzf1 hzf2 hzf3
    generalize ((((ww.setCell ⟨gb, 0, none⟩ (.int .i64 V0)).setCell ⟨gb, 1, none⟩ (.int .i64 V1)).setCell ⟨gb, 2, none⟩ (.int .i64 V2)).setCell ⟨gb, 3, none⟩ (.int .i64 0)) = w6 at *
    refine hK.out _ _ K6 (fun hHeld2 => ?_)
    clear hK K hHeld
    have hHeld := hHeld2
    clear hHeld2
    (try simp only [Act.put, List.setIfInBounds_toArray, List.set_cons_zero, List.set_cons_succ])
    refine wpAnyH_ready (rs := [18]) (by kernel_rfl) (by simp) ?_
    refine AllReadyH.cons (o := { dst := some 9, op := Op.assign (Operand.tmp 36), type := 36, pos := "run.go:127", after := #[{ on := 15, ground := Ground.data }, { on := 17, ground := Ground.chain }, { on := 0, ground := Ground.phase }, { on := 1, ground := Ground.phase }, { on := 2, ground := Ground.phase }, { on := 3, ground := Ground.phase }, { on := 4, ground := Ground.phase }, { on := 5, ground := Ground.phase }, { on := 6, ground := Ground.phase }, { on := 7, ground := Ground.phase }, { on := 8, ground := Ground.phase }, { on := 9, ground := Ground.phase }, { on := 10, ground := Ground.phase }, { on := 11, ground := Ground.phase }, { on := 12, ground := Ground.phase }, { on := 13, ground := Ground.phase }, { on := 14, ground := Ground.phase }, { on := 15, ground := Ground.phase }, { on := 16, ground := Ground.phase }, { on := 17, ground := Ground.phase }], guard := none }) rfl (fun K hK => ?_) AllReadyH.nil
    go_simp
    refine hK.out _ _ hHeld (fun hHeld2 => ?_)
    clear hK K hHeld
    have hHeld := hHeld2
    clear hHeld2
    (try simp only [Act.put, List.setIfInBounds_toArray, List.set_cons_zero, List.set_cons_succ])
    refine wpAnyH_done (by kernel_rfl) ?_ _
    clear hHeld K6
    have hx0 : w6.cell? ⟨W.heap.size, 0, none⟩ = some (.int .i64 i0) := (blk_cell HK6.out 0).trans rfl
    have hx1 : w6.cell? ⟨W.heap.size, 1, none⟩ = some (.int .i64 i1) := (blk_cell HK6.out 1).trans rfl
    have hx2 : w6.cell? ⟨W.heap.size, 2, none⟩ = some (.int .i64 i2) := (blk_cell HK6.out 2).trans rfl
    have hx3 : w6.cell? ⟨W.heap.size, 3, none⟩ = some (.string t) := (blk_cell HK6.out 3).trans rfl
    have hx4 : w6.cell? ⟨W.heap.size, 4, none⟩ = some (.slice (some adA) ns.length c) := (blk_cell HK6.out 4).trans rfl
    have hx5 : w6.cell? ⟨W.heap.size, 5, none⟩ = some (.slice (some adB) ns.length cb) := (blk_cell HK6.out 5).trans rfl
    have hF6 := Kd.F_below (Kd.F_bound HRA.out) HB6.out
    have hcl := clone14_calls i0 i1 i2 t (some adA) c ns (some adB) cb (stL ns P T) _ w6 hF6 (by rw [stL_len]; exact Kd.F_now (Kd.F_below HRB.out HB6.out)) hl (by rw [stL_len]; exact hl) HF.out.d12
    rw [stL_len] at hcl
    have HCL := Aside0.mk hcl
    clear hcl hF6
    go_upto_region 7 with (first | (go_at_call 14; go_loud (refine HCL.out.mono ?_; rintro e w7 ⟨A', c', B', cb', rfl, hN, hR, hb⟩; have HN7 := Aside0.mk hN; have HR7 := Aside0.mk hR; have HB7 := Aside0.mk hb; clear hN hR hb)))
    clear hx0 hx1 hx2 hx3 hx4 hx5
    obtain ⟨g, cap, he, hg1, hg2, gcs, hgc⟩ := Kd.R_form HR7.out (by rw [stL_len]; omega)
    rw [stL_len] at he
    injection he with ha hl_ hcc
    clear hl_
    subst ha; subst hcc
    have hb8 := below_alloc (Below.refl w7.heap.size w7) (.cells #[.int .i64 i0, .int .i64 i1, .int .i64 i2, .string t, .slice A' ns.length c', .slice (some ⟨g, 0, none⟩) ns.length cb'] 33)
    have HT8 := Aside0.mk (blk_new w7 (.cells #[.int .i64 i0, .int .i64 i1, .int .i64 i2, .string t, .slice A' ns.length c', .slice (some ⟨g, 0, none⟩) ns.length cb'] 33))
    have HN8 := Aside0.mk (Kd.N_below HN7.out hb8)
    have HR8 := Aside0.mk (Kd.R_lower (Kd.R_below HR7.out hb8) (base' := W.heap.size) (by omega))
    have HX8 := Aside0.mk (blk_below (blk_below HX6.out HB7.out) hb8)
    have HZ8 := Aside0.mk (blk_below (blk_below HZ6.out HB7.out) hb8)
    have HB8 := Aside0.mk (below_step (below_step HB6.out HB7.out) hb8)
    have HGC := Aside0.mk (blk_below hgc hb8)
    have hs8 := HB7.out.size
    clear hb8 HN7 HR7 HX6 HZ6 HK6 hgc
    generalize w7.alloc (.cells #[.int .i64 i0, .int .i64 i1, .int .i64 i2, .string t, .slice A' ns.length c', .slice (some ⟨g, 0, none⟩) ns.length cb'] 33) = w8 at *
    have hy0 : w8.cell? ⟨gb, 0, none⟩ = some (.int .i64 V0) := (blk_cell HX8.out 0).trans rfl
    have hy1 : w8.cell? ⟨gb, 1, none⟩ = some (.int .i64 V1) := (blk_cell HX8.out 1).trans rfl
    have hy2 : w8.cell? ⟨gb, 2, none⟩ = some (.int .i64 V2) := (blk_cell HX8.out 2).trans rfl
    have hy3 : w8.cell? ⟨gb, 3, none⟩ = some (.int .i64 0) := (blk_cell HX8.out 3).trans rfl
    have hv5 : w8.cell? ⟨w7.heap.size, 5, none⟩ = some (.slice (some ⟨g, 0, none⟩) ns.length cb') := (blk_cell HT8.out 5).trans rfl
    obtain ⟨cs, hcl, hM, hcc, hfr⟩ := Kd.R_elem HR8.out z53 q hq0 hq1
    have HCS := Aside0.mk (And.intro hcl hcc)
    clear hcl hM hcc hfr
    go_wp2_with (first | ((with_reducible refine gate_store (t := 53) (p := 47) rfl ?_); go_loud (refine Kd.R_store k53 (w0 := W) W.heap.size rfl rfl 53 (.tmp 47) (.tmp 46) rfl 53 q 0 (stL ns P T) ⟨V0, V1, V2, 0⟩ (.agg #[.int .i64 V0, .int .i64 V1, .int .i64 V2, .int .i64 0]) [.int .i64 V0, .int .i64 V1, .int .i64 V2, .int .i64 0] cs (fun _ => True) (fun _ => False) rfl rfl rfl rfl (by kernel_rfl) (by intro u hu; simp at hu; rcases hu with rfl | rfl | rfl | rfl <;> rfl) HR8.out hq0 hq1 HCS.out.1 HCS.out.2 (by show 0 + 4 ≤ 4; omega) ?pM (fun _ h => h.elim) HB8.out ?_; (case pM => (have hd4 : List.drop (0 + 4) cs = [] := List.drop_eq_nil_of_le (by rw [HCS.out.1]; exact Nat.le_refl _); simp only [List.take_zero, List.nil_append, List.length_cons, List.length_nil, hd4, List.append_nil]; exact k53_mkM _ _ _ _)); intro w9 hr9 hb9 hg9; have HG9 := Aside0.mk hg9; have HR9 := Aside0.mk hr9; have HB9 := Aside0.mk hb9; have HT9 := Aside0.mk (blk_grown HT8.out hg9 (fun e => blk_ne HT8.out HGC.out (by decide) (by injection e))); have HZ9 := Aside0.mk (blk_grown HZ8.out hg9 (fun e => blk_ne HZ8.out HGC.out (by decide) (by injection e))); clear hr9 hb9 hg9; have hw0 : w9.cell? ⟨w7.heap.size, 0, none⟩ = some (.int .i64 i0) := (blk_cell HT9.out 0).trans rfl; have hw1 : w9.cell? ⟨w7.heap.size, 1, none⟩ = some (.int .i64 i1) := (blk_cell HT9.out 1).trans rfl; have hw2 : w9.cell? ⟨w7.heap.size, 2, none⟩ = some (.int .i64 i2) := (blk_cell HT9.out 2).trans rfl; have hw3 : w9.cell? ⟨w7.heap.size, 3, none⟩ = some (.string t) := (blk_cell HT9.out 3).trans rfl; have hw4 : w9.cell? ⟨w7.heap.size, 4, none⟩ = some (.slice A' ns.length c') := (blk_cell HT9.out 4).trans rfl; have hw5 : w9.cell? ⟨w7.heap.size, 5, none⟩ = some (.slice (some ⟨g, 0, none⟩) ns.length cb') := (blk_cell HT9.out 5).trans rfl; have hzz0 : w9.cell? ⟨W.heap.size + 1, 0, none⟩ = some (.int .i64 0) := (blk_cell HZ9.out 0).trans rfl; have hzzf0 := blk_frozen HZ9.out 0; have hzz1 : w9.cell? ⟨W.heap.size + 1, 1, none⟩ = some (.int .i64 0) := (blk_cell HZ9.out 1).trans rfl; have hzzf1 := blk_frozen HZ9.out 1; have hzz2 : w9.cell? ⟨W.heap.size + 1, 2, none⟩ = some (.int .i64 0) := (blk_cell HZ9.out 2).trans rfl; have hzzf2 := blk_frozen HZ9.out 2; have hzz3 : w9.cell? ⟨W.heap.size + 1, 3, none⟩ = some (.string (⟨#[]⟩ : ByteArray)) := (blk_cell HZ9.out 3).trans rfl; have hzzf3 := blk_frozen HZ9.out 3; have hzz4 : w9.cell? ⟨W.heap.size + 1, 4, none⟩ = some (.slice none 0 0) := (blk_cell HZ9.out 4).trans rfl; have hzzf4 := blk_frozen HZ9.out 4; have hzz5 : w9.cell? ⟨W.heap.size + 1, 5, none⟩ = some (.slice none 0 0) := (blk_cell HZ9.out 5).trans rfl; have hzzf5 := blk_frozen HZ9.out 5;  skip)))
    have hg10 := setCells_grown w9 (W.heap.size + 1) [.int .i64 i0, .int .i64 i1, .int .i64 i2, .string t, .slice A' ns.length c', .slice (some ⟨g, 0, none⟩) ns.length cb']
    have hk10 := setCells_full HZ9.out [.int .i64 i0, .int .i64 i1, .int .i64 i2, .string t, .slice A' ns.length c', .slice (some ⟨g, 0, none⟩) ns.length cb'] rfl
    simp only [World.setCells, Nat.zero_add, Nat.reduceAdd] at hg10 hk10
    refine bodyPost_ret (results_ct rfl _ _ (W.heap.size + 1) 33 #[.int .i64 i0, .int .i64 i1, .int .i64 i2, .string t, .slice A' ns.length c', .slice (some ⟨g, 0, none⟩) ns.length cb'] (0, 0) _ rfl hk10 Try.underlying33 rfl (by kernel_rfl)) rfl ?_
    have hr10 := Kd.R_mono (Kd.R_grown (Kd.R_types HR9.out HZ9.out hE53_33) hg10 (fun j hj e => hj.2 (by injection e))) (ok' := fun _ => True) (fun _ _ => trivial)
    rw [HQK.out, HSET.out] at hr10
    have hF8 := Kd.F_bound (Kd.N_F HN8.out)
    have hF9 := Kd.F_grown (Kd.N_F HN8.out) HG9.out (fun j hj e => hj.2 e)
    refine ⟨A', c', g, cb', rfl, ?_, (Kd.N_reads' HN8.out).2.1, hr10, HB9.out.grown hg10 HB9.out.size (fun j e => by injection e with e; omega)⟩
    refine Kd.F_mono (Kd.F_grown hF9 hg10 (fun j hj e => ?_)) (fun j hj => ⟨?_, fun e => hj.2 (by rw [e]; rfl)⟩)
    · injection e with e; rcases hj.1 with h | h
      · have := h.2; omega
      · omega
    · rcases hj.1 with h | h
      · exact .inl h.1
      · exact .inr (by omega)
  · have hba := below_alloc (Below.refl wd.heap.size wd) (.cells #[.int .i64 0, .int .i64 0, .int .i64 0, .int .i64 0] 53)
    have Ka : (wd.alloc (.cells #[.int .i64 0, .int .i64 0, .int .i64 0, .int .i64 0] 53)).cell? ⟨W.heap.size, 4, none⟩ = some (.slice (some adA) ns.length c) ∧ (wd.alloc (.cells #[.int .i64 0, .int .i64 0, .int .i64 0, .int .i64 0] 53)).cell? ⟨W.heap.size, 5, none⟩ = some (.slice (some adB) ns.length cb) ∧ (wd.alloc (.cells #[.int .i64 0, .int .i64 0, .int .i64 0, .int .i64 0] 53)).cell? (adB.add (q.toNat * 4)) = some (.int .i64 Q0) ∧ (wd.alloc (.cells #[.int .i64 0, .int .i64 0, .int .i64 0, .int .i64 0] 53)).cell? ⟨(adB.add (q.toNat * 4)).block, (adB.add (q.toNat * 4)).off + 1, none⟩ = some (.int .i64 Q1) ∧ (wd.alloc (.cells #[.int .i64 0, .int .i64 0, .int .i64 0, .int .i64 0] 53)).cell? ⟨(adB.add (q.toNat * 4)).block, (adB.add (q.toNat * 4)).off + 2, none⟩ = some (.int .i64 Q2) ∧ (wd.alloc (.cells #[.int .i64 0, .int .i64 0, .int .i64 0, .int .i64 0] 53)).cell? ⟨(adB.add (q.toNat * 4)).block, (adB.add (q.toNat * 4)).off + 3, none⟩ = some (.int .i64 0) ∧ (wd.alloc (.cells #[.int .i64 0, .int .i64 0, .int .i64 0, .int .i64 0] 53)).cell? (adA.add (q.toNat * 6)) = some (.string f0) ∧ (wd.alloc (.cells #[.int .i64 0, .int .i64 0, .int .i64 0, .int .i64 0] 53)).cell? ⟨(adA.add (q.toNat * 6)).block, (adA.add (q.toNat * 6)).off + 1, none⟩ = some (.slice A1 f1.length c1) ∧ (wd.alloc (.cells #[.int .i64 0, .int .i64 0, .int .i64 0, .int .i64 0] 53)).cell? ⟨(adA.add (q.toNat * 6)).block, (adA.add (q.toNat * 6)).off + 2, none⟩ = some (.int .i64 f2) ∧ (wd.alloc (.cells #[.int .i64 0, .int .i64 0, .int .i64 0, .int .i64 0] 53)).cell? ⟨(adA.add (q.toNat * 6)).block, (adA.add (q.toNat * 6)).off + 3, none⟩ = some (.int .i64 f3) ∧ (wd.alloc (.cells #[.int .i64 0, .int .i64 0, .int .i64 0, .int .i64 0] 53)).cell? ⟨(adA.add (q.toNat * 6)).block, (adA.add (q.toNat * 6)).off + 4, none⟩ = some (.int .i64 f4) ∧ (wd.alloc (.cells #[.int .i64 0, .int .i64 0, .int .i64 0, .int .i64 0] 53)).cell? ⟨(adA.add (q.toNat * 6)).block, (adA.add (q.toNat * 6)).off + 5, none⟩ = some (.string f5) := ⟨pw_cell_below hba hHeld.1, pw_cell_below hba hHeld.2.1, pw_cell_below hba hHeld.2.2.1, pw_cell_below hba hHeld.2.2.2.1, pw_cell_below hba hHeld.2.2.2.2.1, pw_cell_below hba hHeld.2.2.2.2.2.1, pw_cell_below hba hHeld.2.2.2.2.2.2.1, pw_cell_below hba hHeld.2.2.2.2.2.2.2.1, pw_cell_below hba hHeld.2.2.2.2.2.2.2.2.1, pw_cell_below hba hHeld.2.2.2.2.2.2.2.2.2.1, pw_cell_below hba hHeld.2.2.2.2.2.2.2.2.2.2.1, pw_cell_below hba hHeld.2.2.2.2.2.2.2.2.2.2.2⟩
    go_simp
    refine hK.out _ _ Ka (fun hHeld2 => ?_)
    clear hK K hHeld
    have hHeld := hHeld2
    clear hHeld2
    (try simp only [Act.put, List.setIfInBounds_toArray, List.set_cons_zero, List.set_cons_succ])
    have HXa := Aside0.mk (blk_new wd (.cells #[.int .i64 0, .int .i64 0, .int .i64 0, .int .i64 0] 53))
    have HBa := Aside0.mk (below_step HBd.out hba)
    have HKa := Aside0.mk (blk_below HKd.out hba)
    have HZa := Aside0.mk (blk_below HZd.out hba)
    have hbA : (adA.add (q.toNat * 6)).block < wd.heap.size := World.block_lt_of_cell? wd _ K0d.2.2.2.2.2.2.1
    have hbB : (adB.add (q.toNat * 4)).block < wd.heap.size := World.block_lt_of_cell? wd _ K0d.2.2.1
    have hsa : wd.heap.size < (wd.alloc (.cells #[.int .i64 0, .int .i64 0, .int .i64 0, .int .i64 0] 53)).heap.size := by simp
    clear hba Ka HKd HZd HBd
    generalize wd.alloc (.cells #[.int .i64 0, .int .i64 0, .int .i64 0, .int .i64 0] 53) = wa at *
    generalize hgbE : wd.heap.size = gb at *
    refine wpAnyH_ready (rs := [12]) (by kernel_rfl) (by simp) ?_
    refine AllReadyH.cons (o := { dst := some 34, op := Op.call { callee := Callee.value (Operand.tmp 22), args := #[Operand.tmp 27, Operand.tmp 33], argTypes := #[53, 43] }, type := 65, pos := "run.go:127", after := #[{ on := 0, ground := Ground.data }, { on := 5, ground := Ground.data }, { on := 11, ground := Ground.data }], guard := none }) rfl (fun K hK => ?_) AllReadyH.nil
    (first | (go_at_call 19; go_loud (refine (HCON.out _ HBa.out).mono ?_; rintro e w5 ⟨rfl, hb5⟩)) | (go_simp; (go_at_call 19; go_loud (refine (HCON.out _ HBa.out).mono ?_; rintro e w5 ⟨rfl, hb5⟩))))
    have HBw := Aside0.mk (below_step HBa.out hb5)
    have HKw := Aside0.mk (blk_below HKa.out hb5)
    have HZw := Aside0.mk (blk_below HZa.out hb5)
    have HXw := Aside0.mk (blk_below HXa.out hb5)
    have hsw : W.heap.size + 2 ≤ gb := by omega
    have hswa : gb ≤ w5.heap.size := by have := hb5.size; omega
    have K5 : w5.cell? ⟨W.heap.size, 4, none⟩ = some (.slice (some adA) ns.length c) ∧ w5.cell? ⟨W.heap.size, 5, none⟩ = some (.slice (some adB) ns.length cb) ∧ w5.cell? (adB.add (q.toNat * 4)) = some (.int .i64 Q0) ∧ w5.cell? ⟨(adB.add (q.toNat * 4)).block, (adB.add (q.toNat * 4)).off + 1, none⟩ = some (.int .i64 Q1) ∧ w5.cell? ⟨(adB.add (q.toNat * 4)).block, (adB.add (q.toNat * 4)).off + 2, none⟩ = some (.int .i64 Q2) ∧ w5.cell? ⟨(adB.add (q.toNat * 4)).block, (adB.add (q.toNat * 4)).off + 3, none⟩ = some (.int .i64 0) ∧ w5.cell? (adA.add (q.toNat * 6)) = some (.string f0) ∧ w5.cell? ⟨(adA.add (q.toNat * 6)).block, (adA.add (q.toNat * 6)).off + 1, none⟩ = some (.slice A1 f1.length c1) ∧ w5.cell? ⟨(adA.add (q.toNat * 6)).block, (adA.add (q.toNat * 6)).off + 2, none⟩ = some (.int .i64 f2) ∧ w5.cell? ⟨(adA.add (q.toNat * 6)).block, (adA.add (q.toNat * 6)).off + 3, none⟩ = some (.int .i64 f3) ∧ w5.cell? ⟨(adA.add (q.toNat * 6)).block, (adA.add (q.toNat * 6)).off + 4, none⟩ = some (.int .i64 f4) ∧ w5.cell? ⟨(adA.add (q.toNat * 6)).block, (adA.add (q.toNat * 6)).off + 5, none⟩ = some (.string f5) := ⟨pw_cell_below hb5 hHeld.1, pw_cell_below hb5 hHeld.2.1, pw_cell_below hb5 hHeld.2.2.1, pw_cell_below hb5 hHeld.2.2.2.1, pw_cell_below hb5 hHeld.2.2.2.2.1, pw_cell_below hb5 hHeld.2.2.2.2.2.1, pw_cell_below hb5 hHeld.2.2.2.2.2.2.1, pw_cell_below hb5 hHeld.2.2.2.2.2.2.2.1, pw_cell_below hb5 hHeld.2.2.2.2.2.2.2.2.1, pw_cell_below hb5 hHeld.2.2.2.2.2.2.2.2.2.1, pw_cell_below hb5 hHeld.2.2.2.2.2.2.2.2.2.2.1, pw_cell_below hb5 hHeld.2.2.2.2.2.2.2.2.2.2.2⟩
    clear hb5
    refine hK.out _ _ K5 (fun hHeld2 => ?_)
    clear hK K hHeld
    have hHeld := hHeld2
    clear hHeld2
    (try simp only [Act.put, List.setIfInBounds_toArray, List.set_cons_zero, List.set_cons_succ])
    refine wpAnyH_take (i := 13) (oi := { dst := some 21, op := Op.move (Operand.tmp 34), type := 65, pos := "run.go:127", after := #[{ on := 12, ground := Ground.data }], guard := none }) (v := ?v13) rfl (by kernel_rfl) (by kernel_rfl) (by kernel_rfl) (fun _ _ _ h => h) (Or.inl ⟨by rfl, ?y13⟩) (by assumption) ?_
    case y13 => (intro w hSw; (try dsimp only at hSw); go_simp; try with_reducible rfl)
    (try simp only [Act.put, List.setIfInBounds_toArray, List.set_cons_zero, List.set_cons_succ])
    refine wpAnyH_take (i := 14) (oi := { dst := some 35, op := Op.extract (Operand.tmp 21) 0, type := 53, pos := "run.go:127", after := #[{ on := 13, ground := Ground.data }], guard := none }) (v := ?v14) rfl (by kernel_rfl) (by kernel_rfl) (by kernel_rfl) (fun _ _ _ h => h) (Or.inl ⟨by rfl, ?y14⟩) (by assumption) ?_
    case y14 => (intro w hSw; (try dsimp only at hSw); go_simp; try with_reducible rfl)
    (try simp only [Act.put, List.setIfInBounds_toArray, List.set_cons_zero, List.set_cons_succ])
    refine wpAnyH_take (i := 15) (oi := { dst := some 36, op := Op.extract (Operand.tmp 21) 1, type := 36, pos := "run.go:127", after := #[{ on := 13, ground := Ground.data }, { on := 17, ground := Ground.gcOnly Departure.lateStores }], guard := none }) (v := ?v15) rfl (by kernel_rfl) (by kernel_rfl) (by kernel_rfl) (fun _ _ _ h => h) (Or.inl ⟨by rfl, ?y15⟩) (by assumption) ?_
    case y15 => (intro w hSw; (try dsimp only at hSw); go_simp; try with_reducible rfl)
    (try simp only [Act.put, List.setIfInBounds_toArray, List.set_cons_zero, List.set_cons_succ])
    clear K5 K0d
    refine wpAnyH_ready (rs := [17]) (by kernel_rfl) (by simp) ?_
    refine AllReadyH.cons (o := { dst := none, op := Op.store 53 (Operand.tmp 8) (Operand.tmp 35), type := 0, pos := "run.go:127", after := #[{ on := 16, ground := Ground.data }, { on := 14, ground := Ground.data }, { on := 12, ground := Ground.chain }, { on := 0, ground := Ground.phase }, { on := 1, ground := Ground.phase }, { on := 2, ground := Ground.phase }, { on := 3, ground := Ground.phase }, { on := 4, ground := Ground.phase }, { on := 5, ground := Ground.phase }, { on := 6, ground := Ground.phase }, { on := 7, ground := Ground.phase }, { on := 8, ground := Ground.phase }, { on := 9, ground := Ground.phase }, { on := 10, ground := Ground.phase }, { on := 11, ground := Ground.phase }, { on := 12, ground := Ground.phase }, { on := 13, ground := Ground.phase }, { on := 14, ground := Ground.phase }, { on := 15, ground := Ground.textOnly Departure.lateStores }, { on := 16, ground := Ground.phase }], guard := none }) rfl (fun K hK => ?_) AllReadyH.nil
    have hz0 : w5.cell? ⟨gb, 0, none⟩ = some (.int .i64 0) := (blk_cell HXw.out 0).trans rfl
    have hzf0 := blk_frozen HXw.out 0
    have hz1 : w5.cell? ⟨gb, 1, none⟩ = some (.int .i64 0) := (blk_cell HXw.out 1).trans rfl
    have hzf1 := blk_frozen HXw.out 1
    have hz2 : w5.cell? ⟨gb, 2, none⟩ = some (.int .i64 0) := (blk_cell HXw.out 2).trans rfl
    have hzf2 := blk_frozen HXw.out 2
    have hz3 : w5.cell? ⟨gb, 3, none⟩ = some (.int .i64 0) := (blk_cell HXw.out 3).trans rfl
    have hzf3 := blk_frozen HXw.out 3
    refine store_step (w1 := ((((w5.setCell ⟨gb, 0, none⟩ (.int .i64 V0)).setCell ⟨gb, 1, none⟩ (.int .i64 V1)).setCell ⟨gb, 2, none⟩ (.int .i64 V2)).setCell ⟨gb, 3, none⟩ (.int .i64 0))) rfl rfl (by first | (go_simp; done) | (go_simp; rfl)) ?_
    have hg6 := setCells_grown w5 (gb) [.int .i64 V0, .int .i64 V1, .int .i64 V2, .int .i64 0]
    have hk6 := setCells_full HXw.out [.int .i64 V0, .int .i64 V1, .int .i64 V2, .int .i64 0] rfl
    simp only [World.setCells, Nat.zero_add, Nat.reduceAdd] at hg6 hk6
    have HX6 := Aside0.mk hk6
    have HB6 := Aside0.mk (HBw.out.grown hg6 HBw.out.size (fun j e => by injection e with e; omega))
    have HK6 := Aside0.mk (blk_grown HKw.out hg6 (fun e => by injection e with e; omega))
    have HZ6 := Aside0.mk (blk_grown HZw.out hg6 (fun e => by injection e with e; omega))
    have hs6 : W.heap.size + 2 ≤ ((((w5.setCell ⟨gb, 0, none⟩ (.int .i64 V0)).setCell ⟨gb, 1, none⟩ (.int .i64 V1)).setCell ⟨gb, 2, none⟩ (.int .i64 V2)).setCell ⟨gb, 3, none⟩ (.int .i64 0)).heap.size := Nat.le_trans hsw (Nat.le_trans hswa hg6.size)
    have hcell : ∀ (a : Addr) (v : Value), w5.cell? a = some v → a.block < gb → ((((w5.setCell ⟨gb, 0, none⟩ (.int .i64 V0)).setCell ⟨gb, 1, none⟩ (.int .i64 V1)).setCell ⟨gb, 2, none⟩ (.int .i64 V2)).setCell ⟨gb, 3, none⟩ (.int .i64 0)).cell? a = some v := fun a v h hne => hg6.cell h (fun e => by injection e with e; omega)
    have K6 : ((((w5.setCell ⟨gb, 0, none⟩ (.int .i64 V0)).setCell ⟨gb, 1, none⟩ (.int .i64 V1)).setCell ⟨gb, 2, none⟩ (.int .i64 V2)).setCell ⟨gb, 3, none⟩ (.int .i64 0)).cell? ⟨W.heap.size, 4, none⟩ = some (.slice (some adA) ns.length c) ∧ ((((w5.setCell ⟨gb, 0, none⟩ (.int .i64 V0)).setCell ⟨gb, 1, none⟩ (.int .i64 V1)).setCell ⟨gb, 2, none⟩ (.int .i64 V2)).setCell ⟨gb, 3, none⟩ (.int .i64 0)).cell? ⟨W.heap.size, 5, none⟩ = some (.slice (some adB) ns.length cb) ∧ ((((w5.setCell ⟨gb, 0, none⟩ (.int .i64 V0)).setCell ⟨gb, 1, none⟩ (.int .i64 V1)).setCell ⟨gb, 2, none⟩ (.int .i64 V2)).setCell ⟨gb, 3, none⟩ (.int .i64 0)).cell? (adB.add (q.toNat * 4)) = some (.int .i64 Q0) ∧ ((((w5.setCell ⟨gb, 0, none⟩ (.int .i64 V0)).setCell ⟨gb, 1, none⟩ (.int .i64 V1)).setCell ⟨gb, 2, none⟩ (.int .i64 V2)).setCell ⟨gb, 3, none⟩ (.int .i64 0)).cell? ⟨(adB.add (q.toNat * 4)).block, (adB.add (q.toNat * 4)).off + 1, none⟩ = some (.int .i64 Q1) ∧ ((((w5.setCell ⟨gb, 0, none⟩ (.int .i64 V0)).setCell ⟨gb, 1, none⟩ (.int .i64 V1)).setCell ⟨gb, 2, none⟩ (.int .i64 V2)).setCell ⟨gb, 3, none⟩ (.int .i64 0)).cell? ⟨(adB.add (q.toNat * 4)).block, (adB.add (q.toNat * 4)).off + 2, none⟩ = some (.int .i64 Q2) ∧ ((((w5.setCell ⟨gb, 0, none⟩ (.int .i64 V0)).setCell ⟨gb, 1, none⟩ (.int .i64 V1)).setCell ⟨gb, 2, none⟩ (.int .i64 V2)).setCell ⟨gb, 3, none⟩ (.int .i64 0)).cell? ⟨(adB.add (q.toNat * 4)).block, (adB.add (q.toNat * 4)).off + 3, none⟩ = some (.int .i64 0) ∧ ((((w5.setCell ⟨gb, 0, none⟩ (.int .i64 V0)).setCell ⟨gb, 1, none⟩ (.int .i64 V1)).setCell ⟨gb, 2, none⟩ (.int .i64 V2)).setCell ⟨gb, 3, none⟩ (.int .i64 0)).cell? (adA.add (q.toNat * 6)) = some (.string f0) ∧ ((((w5.setCell ⟨gb, 0, none⟩ (.int .i64 V0)).setCell ⟨gb, 1, none⟩ (.int .i64 V1)).setCell ⟨gb, 2, none⟩ (.int .i64 V2)).setCell ⟨gb, 3, none⟩ (.int .i64 0)).cell? ⟨(adA.add (q.toNat * 6)).block, (adA.add (q.toNat * 6)).off + 1, none⟩ = some (.slice A1 f1.length c1) ∧ ((((w5.setCell ⟨gb, 0, none⟩ (.int .i64 V0)).setCell ⟨gb, 1, none⟩ (.int .i64 V1)).setCell ⟨gb, 2, none⟩ (.int .i64 V2)).setCell ⟨gb, 3, none⟩ (.int .i64 0)).cell? ⟨(adA.add (q.toNat * 6)).block, (adA.add (q.toNat * 6)).off + 2, none⟩ = some (.int .i64 f2) ∧ ((((w5.setCell ⟨gb, 0, none⟩ (.int .i64 V0)).setCell ⟨gb, 1, none⟩ (.int .i64 V1)).setCell ⟨gb, 2, none⟩ (.int .i64 V2)).setCell ⟨gb, 3, none⟩ (.int .i64 0)).cell? ⟨(adA.add (q.toNat * 6)).block, (adA.add (q.toNat * 6)).off + 3, none⟩ = some (.int .i64 f3) ∧ ((((w5.setCell ⟨gb, 0, none⟩ (.int .i64 V0)).setCell ⟨gb, 1, none⟩ (.int .i64 V1)).setCell ⟨gb, 2, none⟩ (.int .i64 V2)).setCell ⟨gb, 3, none⟩ (.int .i64 0)).cell? ⟨(adA.add (q.toNat * 6)).block, (adA.add (q.toNat * 6)).off + 4, none⟩ = some (.int .i64 f4) ∧ ((((w5.setCell ⟨gb, 0, none⟩ (.int .i64 V0)).setCell ⟨gb, 1, none⟩ (.int .i64 V1)).setCell ⟨gb, 2, none⟩ (.int .i64 V2)).setCell ⟨gb, 3, none⟩ (.int .i64 0)).cell? ⟨(adA.add (q.toNat * 6)).block, (adA.add (q.toNat * 6)).off + 5, none⟩ = some (.string f5) := ⟨hcell _ _ hHeld.1 (by show W.heap.size < gb; omega), hcell _ _ hHeld.2.1 (by show W.heap.size < gb; omega), hcell _ _ hHeld.2.2.1 hbB, hcell _ _ hHeld.2.2.2.1 hbB, hcell _ _ hHeld.2.2.2.2.1 hbB, hcell _ _ hHeld.2.2.2.2.2.1 hbB, hcell _ _ hHeld.2.2.2.2.2.2.1 hbA, hcell _ _ hHeld.2.2.2.2.2.2.2.1 hbA, hcell _ _ hHeld.2.2.2.2.2.2.2.2.1 hbA, hcell _ _ hHeld.2.2.2.2.2.2.2.2.2.1 hbA, hcell _ _ hHeld.2.2.2.2.2.2.2.2.2.2.1 hbA, hcell _ _ hHeld.2.2.2.2.2.2.2.2.2.2.2 hbA⟩
    clear hcell hg6 hk6 hz0 hz1 hz2 hz3 hzf0 hzf1 hzf2 hzf3
    generalize ((((w5.setCell ⟨gb, 0, none⟩ (.int .i64 V0)).setCell ⟨gb, 1, none⟩ (.int .i64 V1)).setCell ⟨gb, 2, none⟩ (.int .i64 V2)).setCell ⟨gb, 3, none⟩ (.int .i64 0)) = w6 at *
    refine hK.out _ _ K6 (fun hHeld2 => ?_)
    clear hK K hHeld
    have hHeld := hHeld2
    clear hHeld2
    (try simp only [Act.put, List.setIfInBounds_toArray, List.set_cons_zero, List.set_cons_succ])
    refine wpAnyH_ready (rs := [18]) (by kernel_rfl) (by simp) ?_
    refine AllReadyH.cons (o := { dst := some 9, op := Op.assign (Operand.tmp 36), type := 36, pos := "run.go:127", after := #[{ on := 15, ground := Ground.data }, { on := 17, ground := Ground.chain }, { on := 0, ground := Ground.phase }, { on := 1, ground := Ground.phase }, { on := 2, ground := Ground.phase }, { on := 3, ground := Ground.phase }, { on := 4, ground := Ground.phase }, { on := 5, ground := Ground.phase }, { on := 6, ground := Ground.phase }, { on := 7, ground := Ground.phase }, { on := 8, ground := Ground.phase }, { on := 9, ground := Ground.phase }, { on := 10, ground := Ground.phase }, { on := 11, ground := Ground.phase }, { on := 12, ground := Ground.phase }, { on := 13, ground := Ground.phase }, { on := 14, ground := Ground.phase }, { on := 15, ground := Ground.phase }, { on := 16, ground := Ground.phase }, { on := 17, ground := Ground.phase }], guard := none }) rfl (fun K hK => ?_) AllReadyH.nil
    go_simp
    refine hK.out _ _ hHeld (fun hHeld2 => ?_)
    clear hK K hHeld
    have hHeld := hHeld2
    clear hHeld2
    (try simp only [Act.put, List.setIfInBounds_toArray, List.set_cons_zero, List.set_cons_succ])
    refine wpAnyH_done (by kernel_rfl) ?_ _
    clear hHeld K6
    have hx0 : w6.cell? ⟨W.heap.size, 0, none⟩ = some (.int .i64 i0) := (blk_cell HK6.out 0).trans rfl
    have hx1 : w6.cell? ⟨W.heap.size, 1, none⟩ = some (.int .i64 i1) := (blk_cell HK6.out 1).trans rfl
    have hx2 : w6.cell? ⟨W.heap.size, 2, none⟩ = some (.int .i64 i2) := (blk_cell HK6.out 2).trans rfl
    have hx3 : w6.cell? ⟨W.heap.size, 3, none⟩ = some (.string t) := (blk_cell HK6.out 3).trans rfl
    have hx4 : w6.cell? ⟨W.heap.size, 4, none⟩ = some (.slice (some adA) ns.length c) := (blk_cell HK6.out 4).trans rfl
    have hx5 : w6.cell? ⟨W.heap.size, 5, none⟩ = some (.slice (some adB) ns.length cb) := (blk_cell HK6.out 5).trans rfl
    have hF6 := Kd.F_below (Kd.F_bound HRA.out) HB6.out
    have hcl := clone14_calls i0 i1 i2 t (some adA) c ns (some adB) cb (stL ns P T) _ w6 hF6 (by rw [stL_len]; exact Kd.F_now (Kd.F_below HRB.out HB6.out)) hl (by rw [stL_len]; exact hl) HF.out.d12
    rw [stL_len] at hcl
    have HCL := Aside0.mk hcl
    clear hcl hF6
    go_upto_region 7 with (first | (go_at_call 14; go_loud (refine HCL.out.mono ?_; rintro e w7 ⟨A', c', B', cb', rfl, hN, hR, hb⟩; have HN7 := Aside0.mk hN; have HR7 := Aside0.mk hR; have HB7 := Aside0.mk hb; clear hN hR hb)))
    clear hx0 hx1 hx2 hx3 hx4 hx5
    obtain ⟨g, cap, he, hg1, hg2, gcs, hgc⟩ := Kd.R_form HR7.out (by rw [stL_len]; omega)
    rw [stL_len] at he
    injection he with ha hl_ hcc
    clear hl_
    subst ha; subst hcc
    have hb8 := below_alloc (Below.refl w7.heap.size w7) (.cells #[.int .i64 i0, .int .i64 i1, .int .i64 i2, .string t, .slice A' ns.length c', .slice (some ⟨g, 0, none⟩) ns.length cb'] 33)
    have HT8 := Aside0.mk (blk_new w7 (.cells #[.int .i64 i0, .int .i64 i1, .int .i64 i2, .string t, .slice A' ns.length c', .slice (some ⟨g, 0, none⟩) ns.length cb'] 33))
    have HN8 := Aside0.mk (Kd.N_below HN7.out hb8)
    have HR8 := Aside0.mk (Kd.R_lower (Kd.R_below HR7.out hb8) (base' := W.heap.size) (by omega))
    have HX8 := Aside0.mk (blk_below (blk_below HX6.out HB7.out) hb8)
    have HZ8 := Aside0.mk (blk_below (blk_below HZ6.out HB7.out) hb8)
    have HB8 := Aside0.mk (below_step (below_step HB6.out HB7.out) hb8)
    have HGC := Aside0.mk (blk_below hgc hb8)
    have hs8 := HB7.out.size
    clear hb8 HN7 HR7 HX6 HZ6 HK6 hgc
    generalize w7.alloc (.cells #[.int .i64 i0, .int .i64 i1, .int .i64 i2, .string t, .slice A' ns.length c', .slice (some ⟨g, 0, none⟩) ns.length cb'] 33) = w8 at *
    have hy0 : w8.cell? ⟨gb, 0, none⟩ = some (.int .i64 V0) := (blk_cell HX8.out 0).trans rfl
    have hy1 : w8.cell? ⟨gb, 1, none⟩ = some (.int .i64 V1) := (blk_cell HX8.out 1).trans rfl
    have hy2 : w8.cell? ⟨gb, 2, none⟩ = some (.int .i64 V2) := (blk_cell HX8.out 2).trans rfl
    have hy3 : w8.cell? ⟨gb, 3, none⟩ = some (.int .i64 0) := (blk_cell HX8.out 3).trans rfl
    have hv5 : w8.cell? ⟨w7.heap.size, 5, none⟩ = some (.slice (some ⟨g, 0, none⟩) ns.length cb') := (blk_cell HT8.out 5).trans rfl
    obtain ⟨cs, hcl, hM, hcc, hfr⟩ := Kd.R_elem HR8.out z53 q hq0 hq1
    have HCS := Aside0.mk (And.intro hcl hcc)
    clear hcl hM hcc hfr
    go_wp2_with (first | ((with_reducible refine gate_store (t := 53) (p := 47) rfl ?_); go_loud (refine Kd.R_store k53 (w0 := W) W.heap.size rfl rfl 53 (.tmp 47) (.tmp 46) rfl 53 q 0 (stL ns P T) ⟨V0, V1, V2, 0⟩ (.agg #[.int .i64 V0, .int .i64 V1, .int .i64 V2, .int .i64 0]) [.int .i64 V0, .int .i64 V1, .int .i64 V2, .int .i64 0] cs (fun _ => True) (fun _ => False) rfl rfl rfl rfl (by kernel_rfl) (by intro u hu; simp at hu; rcases hu with rfl | rfl | rfl | rfl <;> rfl) HR8.out hq0 hq1 HCS.out.1 HCS.out.2 (by show 0 + 4 ≤ 4; omega) ?pM (fun _ h => h.elim) HB8.out ?_; (case pM => (have hd4 : List.drop (0 + 4) cs = [] := List.drop_eq_nil_of_le (by rw [HCS.out.1]; exact Nat.le_refl _); simp only [List.take_zero, List.nil_append, List.length_cons, List.length_nil, hd4, List.append_nil]; exact k53_mkM _ _ _ _)); intro w9 hr9 hb9 hg9; have HG9 := Aside0.mk hg9; have HR9 := Aside0.mk hr9; have HB9 := Aside0.mk hb9; have HT9 := Aside0.mk (blk_grown HT8.out hg9 (fun e => blk_ne HT8.out HGC.out (by decide) (by injection e))); have HZ9 := Aside0.mk (blk_grown HZ8.out hg9 (fun e => blk_ne HZ8.out HGC.out (by decide) (by injection e))); clear hr9 hb9 hg9; have hw0 : w9.cell? ⟨w7.heap.size, 0, none⟩ = some (.int .i64 i0) := (blk_cell HT9.out 0).trans rfl; have hw1 : w9.cell? ⟨w7.heap.size, 1, none⟩ = some (.int .i64 i1) := (blk_cell HT9.out 1).trans rfl; have hw2 : w9.cell? ⟨w7.heap.size, 2, none⟩ = some (.int .i64 i2) := (blk_cell HT9.out 2).trans rfl; have hw3 : w9.cell? ⟨w7.heap.size, 3, none⟩ = some (.string t) := (blk_cell HT9.out 3).trans rfl; have hw4 : w9.cell? ⟨w7.heap.size, 4, none⟩ = some (.slice A' ns.length c') := (blk_cell HT9.out 4).trans rfl; have hw5 : w9.cell? ⟨w7.heap.size, 5, none⟩ = some (.slice (some ⟨g, 0, none⟩) ns.length cb') := (blk_cell HT9.out 5).trans rfl; have hzz0 : w9.cell? ⟨W.heap.size + 1, 0, none⟩ = some (.int .i64 0) := (blk_cell HZ9.out 0).trans rfl; have hzzf0 := blk_frozen HZ9.out 0; have hzz1 : w9.cell? ⟨W.heap.size + 1, 1, none⟩ = some (.int .i64 0) := (blk_cell HZ9.out 1).trans rfl; have hzzf1 := blk_frozen HZ9.out 1; have hzz2 : w9.cell? ⟨W.heap.size + 1, 2, none⟩ = some (.int .i64 0) := (blk_cell HZ9.out 2).trans rfl; have hzzf2 := blk_frozen HZ9.out 2; have hzz3 : w9.cell? ⟨W.heap.size + 1, 3, none⟩ = some (.string (⟨#[]⟩ : ByteArray)) := (blk_cell HZ9.out 3).trans rfl; have hzzf3 := blk_frozen HZ9.out 3; have hzz4 : w9.cell? ⟨W.heap.size + 1, 4, none⟩ = some (.slice none 0 0) := (blk_cell HZ9.out 4).trans rfl; have hzzf4 := blk_frozen HZ9.out 4; have hzz5 : w9.cell? ⟨W.heap.size + 1, 5, none⟩ = some (.slice none 0 0) := (blk_cell HZ9.out 5).trans rfl; have hzzf5 := blk_frozen HZ9.out 5;  skip)))
    have hg10 := setCells_grown w9 (W.heap.size + 1) [.int .i64 i0, .int .i64 i1, .int .i64 i2, .string t, .slice A' ns.length c', .slice (some ⟨g, 0, none⟩) ns.length cb']
    have hk10 := setCells_full HZ9.out [.int .i64 i0, .int .i64 i1, .int .i64 i2, .string t, .slice A' ns.length c', .slice (some ⟨g, 0, none⟩) ns.length cb'] rfl
    simp only [World.setCells, Nat.zero_add, Nat.reduceAdd] at hg10 hk10
    refine bodyPost_ret (results_ct rfl _ _ (W.heap.size + 1) 33 #[.int .i64 i0, .int .i64 i1, .int .i64 i2, .string t, .slice A' ns.length c', .slice (some ⟨g, 0, none⟩) ns.length cb'] (0, 0) _ rfl hk10 Try.underlying33 rfl (by kernel_rfl)) rfl ?_
    have hr10 := Kd.R_mono (Kd.R_grown (Kd.R_types HR9.out HZ9.out hE53_33) hg10 (fun j hj e => hj.2 (by injection e))) (ok' := fun _ => True) (fun _ _ => trivial)
    rw [HQK.out, HSET.out] at hr10
    have hF8 := Kd.F_bound (Kd.N_F HN8.out)
    have hF9 := Kd.F_grown (Kd.N_F HN8.out) HG9.out (fun j hj e => hj.2 e)
    refine ⟨A', c', g, cb', rfl, ?_, (Kd.N_reads' HN8.out).2.1, hr10, HB9.out.grown hg10 HB9.out.size (fun j e => by injection e with e; omega)⟩
    refine Kd.F_mono (Kd.F_grown hF9 hg10 (fun j hj e => ?_)) (fun j hj => ⟨?_, fun e => hj.2 (by rw [e]; rfl)⟩)
    · injection e with e; rcases hj.1 with h | h
      · have := h.2; omega
      · omega
    · rcases hj.1 with h | h
      · exact .inl h.1
      · exact .inr (by omega)
end Go.Proofs.Ytiipbibbppgbgaa.T
namespace Go.Proofs.Ytiipbibbppgbgaa.T
open Go.RowKit Go.Proofs.Ytiipbibbppgbgaa.PTopFates Go.Proofs.YtiipbibbppgbgaaW.PrintWords Go.Proofs.YtiipbibbppgbgaaW.PrintLast Go.Proofs.YtiipbibbppgbgaaW.PrintMore
set_option linter.unusedVariables false
set_option linter.unusedSimpArgs false

set_option maxHeartbeats 8000000 in
set_option maxRecDepth 100000 in
theorem step22_calls (i0 i1 i2 : Int) (t : ByteArray) (A : Option Addr) (c : Nat) (B : Option Addr) (cb : Nat) (ns : List S43) (D : Nat → List Nat) (P T : Nat → Int) (okF okS : Nat → Prop) (k : Nat) (q : Int) (nb : Nat) (W : World) (hr : IsRun W okF okS ns P T A c B cb) (hf : FlowOk ns D) (hq : q = (k : Int)) (hk : k < ns.length) (hnb : W.heap[nb]? = some (.cells #[.int .i64 0] 2 (0, 0))) (hP : P k = 1) (hT0 : 0 ≤ T k) (hT1 : T k < 100) :
    Calls Try.prog 21 #[.agg #[.int .i64 i0, .int .i64 i1, .int .i64 i2, .string t, .slice A ns.length c, .slice B ns.length cb], .int .i64 q, .func (.func 22) #[] #[.pointer (some ⟨nb, 0, none⟩)]] W fun e W' => ∃ A' c' g cb', e = .returned (.tuple #[.agg #[.int .i64 i0, .int .i64 i1, .int .i64 i2, .string t, .slice A' ns.length c', .slice (some ⟨g, 0, none⟩) ns.length cb'], .int .i64 0]) ∧
      Kd.F k43 W' (fun j => (okF j ∨ W.heap.size ≤ j) ∧ j ≠ g) A' ns.length ns ∧ ns.length ≤ c' ∧ Kd.R k53 53 W' W.heap.size (fun _ => True) (.slice (some ⟨g, 0, none⟩) ns.length cb') (stL ns (upd P k 2) (upd T k (T k + 1))) ∧ Below W.heap.size W W' := by
  have hu33 := Try.underlying33
  have hu27 := Try.underlying27
  have hu53 := Try.underlying53
  have hu43 := Try.underlying43
  have hl := hf.len
  have h1 := hf.one
  obtain ⟨hrA, hrc, hrB, hrcb⟩ := hr
  have hq0 : 0 ≤ q := by omega
  have hq1 : q < (ns.length : Int) := by omega
  have hqk : q.toNat = k := by rw [hq]; rfl
  obtain ⟨adA, A1, c1, eA, ha0, ha1, ha2, ha3, ha4, ha5, hl1, hC1⟩ := at_T43 (Kd.F_now hrA) q hq0 hq1
  obtain ⟨adB, eB, hb0, hb1, hb2, hb3⟩ := at_T53 (Kd.F_now hrB) q hq0 hq1
  subst eA; subst eB
  have hst : rd_T53 (stL ns P T) q = mkS (P k) (T k) (ns.getD k z43).f3 := by unfold rd_T53; rw [hqk]; exact stL_get ns P T k hk
  have hnd : rd_T43 ns q = ns.getD k z43 := by unfold rd_T43; rw [hqk]
  rw [hst, hP] at hb0 hb1 hb2 hb3
  rw [hnd] at ha0 ha1 ha2 ha3 ha4 ha5 hl1 hC1
  obtain ⟨gd1, gd2, gd3, hx2, hx3, gd6⟩ := hf.good k hk
  have hset := stL_set2 ns P T k 2 (T k + 1) hk
  have HNB := Aside0.mk hnb
  have HT0 := Aside0.mk hT0
  have HT1 := Aside0.mk hT1
  have hcon : ∀ w, Below W.heap.size W w → Calls Try.prog 22 #[encS (mkS 1 (T k) (ns.getD k z43).f3), .agg #[.string (ns.getD k z43).f0, .slice A1 (ns.getD k z43).f1.length c1, .int .i64 (ns.getD k z43).f2, .int .i64 (ns.getD k z43).f3, .int .i64 (ns.getD k z43).f4, .string (ns.getD k z43).f5], .pointer (some ⟨nb, 0, none⟩)] w fun e w' => e = .returned (.tuple #[encS (mkS 2 (T k + 1) (ns.getD k z43).f3), .int .i64 0]) ∧ Below w.heap.size w w' := by
    intro w hw
    generalize ns.getD k z43 = X at *
    exact lease1_calls (T k) X.f3 X A1 c1 nb w (blk_below HNB.out hw) HT0.out HT1.out rfl hx2 hx3
  obtain ⟨SN, hSN⟩ : ∃ SN, SN = mkS 2 (T k + 1) (ns.getD k z43).f3 := ⟨_, rfl⟩
  obtain ⟨SO, hSO⟩ : ∃ SO, SO = mkS 1 (T k) (ns.getD k z43).f3 := ⟨_, rfl⟩
  rw [← hSO] at hb0 hb1 hb2 hb3 hcon
  rw [← hSN] at hcon hset
  have hon3 : SN.f3 = 0 := by rw [hSN]; rfl
  have hoo3 : SO.f3 = 0 := by rw [hSO]; rfl
  generalize ns.getD k z43 = X at *
  obtain ⟨f0, f1, f2, f3, f4, f5⟩ := X
  obtain ⟨V0, V1, V2, V3⟩ := SN
  obtain ⟨Q0, Q1, Q2, Q3⟩ := SO
  simp only at hon3 hoo3
  subst hon3; subst hoo3
  have HCON : Aside0 (∀ w, Below W.heap.size W w → Calls Try.prog 22 #[.agg #[.int .i64 Q0, .int .i64 Q1, .int .i64 Q2, .int .i64 0], .agg #[.string f0, .slice A1 f1.length c1, .int .i64 f2, .int .i64 f3, .int .i64 f4, .string f5], .pointer (some ⟨nb, 0, none⟩)] w fun e w' => e = .returned (.tuple #[.agg #[.int .i64 V0, .int .i64 V1, .int .i64 V2, .int .i64 0], .int .i64 0]) ∧ Below w.heap.size w w') := Aside0.mk hcon
  have HSET := Aside0.mk hset
  have HRA := Aside0.mk hrA
  have HRB := Aside0.mk hrB
  have HF := Aside0.mk hf
  have HQK := Aside0.mk hqk
  have HQ := Aside0.mk hq
  obtain ⟨hb, hk1, hk2⟩ := allocs2 W (.cells #[.int .i64 i0, .int .i64 i1, .int .i64 i2, .string t, .slice (some adA) ns.length c, .slice (some adB) ns.length cb] 33) (.cells runZ 33)
  have K1 : ((W.alloc (.cells #[.int .i64 i0, .int .i64 i1, .int .i64 i2, .string t, .slice (some adA) ns.length c, .slice (some adB) ns.length cb] 33)).alloc (.cells runZ 33)).cell? ⟨W.heap.size, 4, none⟩ = some (.slice (some adA) ns.length c) ∧ ((W.alloc (.cells #[.int .i64 i0, .int .i64 i1, .int .i64 i2, .string t, .slice (some adA) ns.length c, .slice (some adB) ns.length cb] 33)).alloc (.cells runZ 33)).cell? ⟨W.heap.size, 5, none⟩ = some (.slice (some adB) ns.length cb) ∧ ((W.alloc (.cells #[.int .i64 i0, .int .i64 i1, .int .i64 i2, .string t, .slice (some adA) ns.length c, .slice (some adB) ns.length cb] 33)).alloc (.cells runZ 33)).cell? (adB.add (q.toNat * 4)) = some (.int .i64 Q0) ∧ ((W.alloc (.cells #[.int .i64 i0, .int .i64 i1, .int .i64 i2, .string t, .slice (some adA) ns.length c, .slice (some adB) ns.length cb] 33)).alloc (.cells runZ 33)).cell? ⟨(adB.add (q.toNat * 4)).block, (adB.add (q.toNat * 4)).off + 1, none⟩ = some (.int .i64 Q1) ∧ ((W.alloc (.cells #[.int .i64 i0, .int .i64 i1, .int .i64 i2, .string t, .slice (some adA) ns.length c, .slice (some adB) ns.length cb] 33)).alloc (.cells runZ 33)).cell? ⟨(adB.add (q.toNat * 4)).block, (adB.add (q.toNat * 4)).off + 2, none⟩ = some (.int .i64 Q2) ∧ ((W.alloc (.cells #[.int .i64 i0, .int .i64 i1, .int .i64 i2, .string t, .slice (some adA) ns.length c, .slice (some adB) ns.length cb] 33)).alloc (.cells runZ 33)).cell? ⟨(adB.add (q.toNat * 4)).block, (adB.add (q.toNat * 4)).off + 3, none⟩ = some (.int .i64 0) ∧ ((W.alloc (.cells #[.int .i64 i0, .int .i64 i1, .int .i64 i2, .string t, .slice (some adA) ns.length c, .slice (some adB) ns.length cb] 33)).alloc (.cells runZ 33)).cell? (adA.add (q.toNat * 6)) = some (.string f0) ∧ ((W.alloc (.cells #[.int .i64 i0, .int .i64 i1, .int .i64 i2, .string t, .slice (some adA) ns.length c, .slice (some adB) ns.length cb] 33)).alloc (.cells runZ 33)).cell? ⟨(adA.add (q.toNat * 6)).block, (adA.add (q.toNat * 6)).off + 1, none⟩ = some (.slice A1 f1.length c1) ∧ ((W.alloc (.cells #[.int .i64 i0, .int .i64 i1, .int .i64 i2, .string t, .slice (some adA) ns.length c, .slice (some adB) ns.length cb] 33)).alloc (.cells runZ 33)).cell? ⟨(adA.add (q.toNat * 6)).block, (adA.add (q.toNat * 6)).off + 2, none⟩ = some (.int .i64 f2) ∧ ((W.alloc (.cells #[.int .i64 i0, .int .i64 i1, .int .i64 i2, .string t, .slice (some adA) ns.length c, .slice (some adB) ns.length cb] 33)).alloc (.cells runZ 33)).cell? ⟨(adA.add (q.toNat * 6)).block, (adA.add (q.toNat * 6)).off + 3, none⟩ = some (.int .i64 f3) ∧ ((W.alloc (.cells #[.int .i64 i0, .int .i64 i1, .int .i64 i2, .string t, .slice (some adA) ns.length c, .slice (some adB) ns.length cb] 33)).alloc (.cells runZ 33)).cell? ⟨(adA.add (q.toNat * 6)).block, (adA.add (q.toNat * 6)).off + 4, none⟩ = some (.int .i64 f4) ∧ ((W.alloc (.cells #[.int .i64 i0, .int .i64 i1, .int .i64 i2, .string t, .slice (some adA) ns.length c, .slice (some adB) ns.length cb] 33)).alloc (.cells runZ 33)).cell? ⟨(adA.add (q.toNat * 6)).block, (adA.add (q.toNat * 6)).off + 5, none⟩ = some (.string f5) := ⟨(blk_cell hk1 4).trans rfl, (blk_cell hk1 5).trans rfl, pw_cell_below hb hb0, pw_cell_below hb hb1, pw_cell_below hb hb2, pw_cell_below hb hb3, pw_cell_below hb ha0, pw_cell_below hb ha1, pw_cell_below hb ha2, pw_cell_below hb ha3, pw_cell_below hb ha4, pw_cell_below hb ha5⟩
  have HK1 := Aside0.mk K1
  have HB := Aside0.mk hb
  have HK := Aside0.mk hk1
  have HZ := Aside0.mk hk2
  have hc1 : decide (q < 0) = false := decide_eq_false (by omega)
  have hc2 : decide (q ≥ (ns.length : Int)) = false := decide_eq_false (by omega)
  have hc3 : decide ((ns.length : Int) ≤ q) = false := decide_eq_false (by omega)
  have hs : ((W.alloc (.cells #[.int .i64 i0, .int .i64 i1, .int .i64 i2, .string t, .slice (some adA) ns.length c, .slice (some adB) ns.length cb] 33)).alloc (.cells runZ 33)).heap.size = W.heap.size + 2 := by simp
  have hw5 : ((W.alloc (.cells #[.int .i64 i0, .int .i64 i1, .int .i64 i2, .string t, .slice (some adA) ns.length c, .slice (some adB) ns.length cb] 33)).alloc (.cells runZ 33)).cell? ⟨W.heap.size, 5, none⟩ = some (.slice (some adB) ns.length cb) := (blk_cell hk1 5).trans rfl
  clear hrA hrB ha0 ha1 ha2 ha3 ha4 ha5 hb0 hb1 hb2 hb3 hst hnd hcon hset hP hl1 hC1 hf hqk hq hSN hSO gd1 gd2 gd3 gd6 hx2 hx3 hb hk1 hk2 K1 hnb hT0 hT1
  go_enter Try.func21, Try.ntmps21
  go_upto_region 3 with (fail)
  generalize (W.alloc (.cells #[.int .i64 i0, .int .i64 i1, .int .i64 i2, .string t, .slice (some adA) ns.length c, .slice (some adB) ns.length cb] 33)).alloc (.cells runZ 33) = w1 at *
  clear hw5
  have hdr : Below w1.heap.size w1 w1.drew := below_drew1 (Below.refl _ _)
  have K0 : w1.drew.cell? ⟨W.heap.size, 4, none⟩ = some (.slice (some adA) ns.length c) ∧ w1.drew.cell? ⟨W.heap.size, 5, none⟩ = some (.slice (some adB) ns.length cb) ∧ w1.drew.cell? (adB.add (q.toNat * 4)) = some (.int .i64 Q0) ∧ w1.drew.cell? ⟨(adB.add (q.toNat * 4)).block, (adB.add (q.toNat * 4)).off + 1, none⟩ = some (.int .i64 Q1) ∧ w1.drew.cell? ⟨(adB.add (q.toNat * 4)).block, (adB.add (q.toNat * 4)).off + 2, none⟩ = some (.int .i64 Q2) ∧ w1.drew.cell? ⟨(adB.add (q.toNat * 4)).block, (adB.add (q.toNat * 4)).off + 3, none⟩ = some (.int .i64 0) ∧ w1.drew.cell? (adA.add (q.toNat * 6)) = some (.string f0) ∧ w1.drew.cell? ⟨(adA.add (q.toNat * 6)).block, (adA.add (q.toNat * 6)).off + 1, none⟩ = some (.slice A1 f1.length c1) ∧ w1.drew.cell? ⟨(adA.add (q.toNat * 6)).block, (adA.add (q.toNat * 6)).off + 2, none⟩ = some (.int .i64 f2) ∧ w1.drew.cell? ⟨(adA.add (q.toNat * 6)).block, (adA.add (q.toNat * 6)).off + 3, none⟩ = some (.int .i64 f3) ∧ w1.drew.cell? ⟨(adA.add (q.toNat * 6)).block, (adA.add (q.toNat * 6)).off + 4, none⟩ = some (.int .i64 f4) ∧ w1.drew.cell? ⟨(adA.add (q.toNat * 6)).block, (adA.add (q.toNat * 6)).off + 5, none⟩ = some (.string f5) := HK1.out
  refine wp_region_held_drew (S := fun w => w.cell? ⟨W.heap.size, 4, none⟩ = some (.slice (some adA) ns.length c) ∧ w.cell? ⟨W.heap.size, 5, none⟩ = some (.slice (some adB) ns.length cb) ∧ w.cell? (adB.add (q.toNat * 4)) = some (.int .i64 Q0) ∧ w.cell? ⟨(adB.add (q.toNat * 4)).block, (adB.add (q.toNat * 4)).off + 1, none⟩ = some (.int .i64 Q1) ∧ w.cell? ⟨(adB.add (q.toNat * 4)).block, (adB.add (q.toNat * 4)).off + 2, none⟩ = some (.int .i64 Q2) ∧ w.cell? ⟨(adB.add (q.toNat * 4)).block, (adB.add (q.toNat * 4)).off + 3, none⟩ = some (.int .i64 0) ∧ w.cell? (adA.add (q.toNat * 6)) = some (.string f0) ∧ w.cell? ⟨(adA.add (q.toNat * 6)).block, (adA.add (q.toNat * 6)).off + 1, none⟩ = some (.slice A1 f1.length c1) ∧ w.cell? ⟨(adA.add (q.toNat * 6)).block, (adA.add (q.toNat * 6)).off + 2, none⟩ = some (.int .i64 f2) ∧ w.cell? ⟨(adA.add (q.toNat * 6)).block, (adA.add (q.toNat * 6)).off + 3, none⟩ = some (.int .i64 f3) ∧ w.cell? ⟨(adA.add (q.toNat * 6)).block, (adA.add (q.toNat * 6)).off + 4, none⟩ = some (.int .i64 f4) ∧ w.cell? ⟨(adA.add (q.toNat * 6)).block, (adA.add (q.toNat * 6)).off + 5, none⟩ = some (.string f5)) (by kernel_rfl) K0 (fun hHeld => ?_)
  have HKd := Aside0.mk (blk_below HK.out hdr)
  have HZd := Aside0.mk (blk_below HZ.out hdr)
  have HBd := Aside0.mk (below_step HB.out hdr)
  have hsd : w1.drew.heap.size = W.heap.size + 2 := hs
  clear hdr K0 HK1 HK HZ HB
  generalize w1.drew = wd at *
  refine wpAnyH_take (i := 0) (oi := { dst := some 22, op := Op.move (Operand.tmp 2), type := 67, pos := "run.go:127", after := #[], guard := none }) (v := ?v0) rfl (by kernel_rfl) (by kernel_rfl) (by kernel_rfl) (fun _ _ _ h => h) (Or.inl ⟨by rfl, ?y0⟩) (by assumption) ?_
  case y0 => (intro w hSw; (try dsimp only at hSw); go_simp; try with_reducible rfl)
  (try simp only [Act.put, List.setIfInBounds_toArray, List.set_cons_zero, List.set_cons_succ])
  refine wpAnyH_take (i := 1) (oi := { dst := some 23, op := Op.fieldAddr 33 (Operand.tmp 3) 3, type := 0, pos := "run.go:127", after := #[], guard := none }) (v := ?v1) rfl (by kernel_rfl) (by kernel_rfl) (by kernel_rfl) (fun _ _ _ h => h) (Or.inl ⟨by rfl, ?y1⟩) (by assumption) ?_
  case y1 => (intro w hSw; (try dsimp only at hSw); go_simp; try with_reducible rfl)
  (try simp only [Act.put, List.setIfInBounds_toArray, List.set_cons_zero, List.set_cons_succ])
  refine wpAnyH_take (i := 2) (oi := { dst := some 24, op := Op.load 31 (Operand.tmp 23), type := 31, pos := "run.go:127", after := #[{ on := 1, ground := Ground.data }], guard := none }) (v := ?v2) rfl (by kernel_rfl) (by kernel_rfl) (by kernel_rfl) (fun _ _ _ h => h) (Or.inl ⟨by rfl, ?y2⟩) (by assumption) ?_
  case y2 => (intro w hSw; (try dsimp only at hSw); go_simp; try with_reducible rfl)
  (try simp only [Act.put, List.setIfInBounds_toArray, List.set_cons_zero, List.set_cons_succ])
  refine wpAnyH_take (i := 3) (oi := { dst := some 25, op := Op.move (Operand.tmp 1), type := 3, pos := "run.go:127", after := #[], guard := none }) (v := ?v3) rfl (by kernel_rfl) (by kernel_rfl) (by kernel_rfl) (fun _ _ _ h => h) (Or.inl ⟨by rfl, ?y3⟩) (by assumption) ?_
  case y3 => (intro w hSw; (try dsimp only at hSw); go_simp; try with_reducible rfl)
  (try simp only [Act.put, List.setIfInBounds_toArray, List.set_cons_zero, List.set_cons_succ])
  refine wpAnyH_take (i := 4) (oi := { dst := some 26, op := Op.indexAddr 31 (Operand.tmp 24) (Operand.tmp 25), type := 0, pos := "run.go:127", after := #[{ on := 2, ground := Ground.data }, { on := 3, ground := Ground.data }], guard := none }) (v := ?v4) rfl (by kernel_rfl) (by kernel_rfl) (by kernel_rfl) (fun _ _ _ h => h) (Or.inl ⟨by rfl, ?y4⟩) (by assumption) ?_
  case y4 => (intro w hSw; (try dsimp only at hSw); go_simp; try with_reducible rfl)
  (try simp only [Act.put, List.setIfInBounds_toArray, List.set_cons_zero, List.set_cons_succ])
  refine wpAnyH_take (i := 5) (oi := { dst := some 27, op := Op.load 53 (Operand.tmp 26), type := 53, pos := "run.go:127", after := #[{ on := 4, ground := Ground.data }], guard := none }) (v := ?v5) rfl (by kernel_rfl) (by kernel_rfl) (by kernel_rfl) (fun _ _ _ h => h) (Or.inl ⟨by rfl, ?y5⟩) (by assumption) ?_
  case y5 => (intro w hSw; (try dsimp only at hSw); go_simp; try with_reducible rfl)
  (try simp only [Act.put, List.setIfInBounds_toArray, List.set_cons_zero, List.set_cons_succ])
  refine wpAnyH_take (i := 6) (oi := { dst := some 28, op := Op.fieldAddr 33 (Operand.tmp 3) 2, type := 0, pos := "run.go:127", after := #[], guard := none }) (v := ?v6) rfl (by kernel_rfl) (by kernel_rfl) (by kernel_rfl) (fun _ _ _ h => h) (Or.inl ⟨by rfl, ?y6⟩) (by assumption) ?_
  case y6 => (intro w hSw; (try dsimp only at hSw); go_simp; try with_reducible rfl)
  (try simp only [Act.put, List.setIfInBounds_toArray, List.set_cons_zero, List.set_cons_succ])
  refine wpAnyH_take (i := 7) (oi := { dst := some 29, op := Op.fieldAddr 27 (Operand.tmp 28) 1, type := 0, pos := "run.go:127", after := #[{ on := 6, ground := Ground.data }], guard := none }) (v := ?v7) rfl (by kernel_rfl) (by kernel_rfl) (by kernel_rfl) (fun _ _ _ h => h) (Or.inl ⟨by rfl, ?y7⟩) (by assumption) ?_
  case y7 => (intro w hSw; (try dsimp only at hSw); go_simp; try with_reducible rfl)
  (try simp only [Act.put, List.setIfInBounds_toArray, List.set_cons_zero, List.set_cons_succ])
  refine wpAnyH_take (i := 8) (oi := { dst := some 30, op := Op.load 25 (Operand.tmp 29), type := 25, pos := "run.go:127", after := #[{ on := 7, ground := Ground.data }], guard := none }) (v := ?v8) rfl (by kernel_rfl) (by kernel_rfl) (by kernel_rfl) (fun _ _ _ h => h) (Or.inl ⟨by rfl, ?y8⟩) (by assumption) ?_
  case y8 => (intro w hSw; (try dsimp only at hSw); go_simp; try with_reducible rfl)
  (try simp only [Act.put, List.setIfInBounds_toArray, List.set_cons_zero, List.set_cons_succ])
  refine wpAnyH_take (i := 9) (oi := { dst := some 31, op := Op.move (Operand.tmp 1), type := 3, pos := "run.go:127", after := #[], guard := none }) (v := ?v9) rfl (by kernel_rfl) (by kernel_rfl) (by kernel_rfl) (fun _ _ _ h => h) (Or.inl ⟨by rfl, ?y9⟩) (by assumption) ?_
  case y9 => (intro w hSw; (try dsimp only at hSw); go_simp; try with_reducible rfl)
  (try simp only [Act.put, List.setIfInBounds_toArray, List.set_cons_zero, List.set_cons_succ])
  refine wpAnyH_take (i := 10) (oi := { dst := some 32, op := Op.indexAddr 25 (Operand.tmp 30) (Operand.tmp 31), type := 0, pos := "run.go:127", after := #[{ on := 8, ground := Ground.data }, { on := 9, ground := Ground.data }], guard := none }) (v := ?v10) rfl (by kernel_rfl) (by kernel_rfl) (by kernel_rfl) (fun _ _ _ h => h) (Or.inl ⟨by rfl, ?y10⟩) (by assumption) ?_
  case y10 => (intro w hSw; (try dsimp only at hSw); go_simp; try with_reducible rfl)
  (try simp only [Act.put, List.setIfInBounds_toArray, List.set_cons_zero, List.set_cons_succ])
  refine wpAnyH_take (i := 11) (oi := { dst := some 33, op := Op.load 43 (Operand.tmp 32), type := 43, pos := "run.go:127", after := #[{ on := 10, ground := Ground.data }], guard := none }) (v := ?v11) rfl (by kernel_rfl) (by kernel_rfl) (by kernel_rfl) (fun _ _ _ h => h) (Or.inl ⟨by rfl, ?y11⟩) (by assumption) ?_
  case y11 => (intro w hSw; (try dsimp only at hSw); go_simp; try with_reducible rfl)
  (try simp only [Act.put, List.setIfInBounds_toArray, List.set_cons_zero, List.set_cons_succ])
  have K0d := hHeld
  have hsd2 : W.heap.size + 2 ≤ wd.heap.size := Nat.le_of_eq hsd.symm
  clear hsd
  refine wpAnyH_ready (rs := [12, 16]) (by kernel_rfl) (by simp) ?_
  refine AllReadyH.cons (o := { dst := some 34, op := Op.call { callee := Callee.value (Operand.tmp 22), args := #[Operand.tmp 27, Operand.tmp 33], argTypes := #[53, 43] }, type := 65, pos := "run.go:127", after := #[{ on := 0, ground := Ground.data }, { on := 5, ground := Ground.data }, { on := 11, ground := Ground.data }], guard := none }) rfl (fun K hK => ?_) (AllReadyH.cons (o := { dst := some 8, op := Op.alloc 53, type := 0, pos := "run.go:127", after := #[], guard := none }) rfl (fun K hK => ?_) AllReadyH.nil)
  · (first | (go_at_call 22; go_loud (refine (HCON.out _ HBd.out).mono ?_; rintro e w5 ⟨rfl, hb5⟩)) | (go_simp; (go_at_call 22; go_loud (refine (HCON.out _ HBd.out).mono ?_; rintro e w5 ⟨rfl, hb5⟩))))
    have HBw5 := Aside0.mk (below_step HBd.out hb5)
    have HK5 := Aside0.mk (blk_below HKd.out hb5)
    have HZ5 := Aside0.mk (blk_below HZd.out hb5)
    have hs5 := hb5.size
    have K5 : w5.cell? ⟨W.heap.size, 4, none⟩ = some (.slice (some adA) ns.length c) ∧ w5.cell? ⟨W.heap.size, 5, none⟩ = some (.slice (some adB) ns.length cb) ∧ w5.cell? (adB.add (q.toNat * 4)) = some (.int .i64 Q0) ∧ w5.cell? ⟨(adB.add (q.toNat * 4)).block, (adB.add (q.toNat * 4)).off + 1, none⟩ = some (.int .i64 Q1) ∧ w5.cell? ⟨(adB.add (q.toNat * 4)).block, (adB.add (q.toNat * 4)).off + 2, none⟩ = some (.int .i64 Q2) ∧ w5.cell? ⟨(adB.add (q.toNat * 4)).block, (adB.add (q.toNat * 4)).off + 3, none⟩ = some (.int .i64 0) ∧ w5.cell? (adA.add (q.toNat * 6)) = some (.string f0) ∧ w5.cell? ⟨(adA.add (q.toNat * 6)).block, (adA.add (q.toNat * 6)).off + 1, none⟩ = some (.slice A1 f1.length c1) ∧ w5.cell? ⟨(adA.add (q.toNat * 6)).block, (adA.add (q.toNat * 6)).off + 2, none⟩ = some (.int .i64 f2) ∧ w5.cell? ⟨(adA.add (q.toNat * 6)).block, (adA.add (q.toNat * 6)).off + 3, none⟩ = some (.int .i64 f3) ∧ w5.cell? ⟨(adA.add (q.toNat * 6)).block, (adA.add (q.toNat * 6)).off + 4, none⟩ = some (.int .i64 f4) ∧ w5.cell? ⟨(adA.add (q.toNat * 6)).block, (adA.add (q.toNat * 6)).off + 5, none⟩ = some (.string f5) := ⟨pw_cell_below hb5 hHeld.1, pw_cell_below hb5 hHeld.2.1, pw_cell_below hb5 hHeld.2.2.1, pw_cell_below hb5 hHeld.2.2.2.1, pw_cell_below hb5 hHeld.2.2.2.2.1, pw_cell_below hb5 hHeld.2.2.2.2.2.1, pw_cell_below hb5 hHeld.2.2.2.2.2.2.1, pw_cell_below hb5 hHeld.2.2.2.2.2.2.2.1, pw_cell_below hb5 hHeld.2.2.2.2.2.2.2.2.1, pw_cell_below hb5 hHeld.2.2.2.2.2.2.2.2.2.1, pw_cell_below hb5 hHeld.2.2.2.2.2.2.2.2.2.2.1, pw_cell_below hb5 hHeld.2.2.2.2.2.2.2.2.2.2.2⟩
    clear hb5
    refine hK.out _ _ K5 (fun hHeld2 => ?_)
    clear hK K hHeld
    have hHeld := hHeld2
    clear hHeld2
    (try simp only [Act.put, List.setIfInBounds_toArray, List.set_cons_zero, List.set_cons_succ])
    refine wpAnyH_take (i := 13) (oi := { dst := some 21, op := Op.move (Operand.tmp 34), type := 65, pos := "run.go:127", after := #[{ on := 12, ground := Ground.data }], guard := none }) (v := ?v13) rfl (by kernel_rfl) (by kernel_rfl) (by kernel_rfl) (fun _ _ _ h => h) (Or.inl ⟨by rfl, ?y13⟩) (by assumption) ?_
    case y13 => (intro w hSw; (try dsimp only at hSw); go_simp; try with_reducible rfl)
    (try simp only [Act.put, List.setIfInBounds_toArray, List.set_cons_zero, List.set_cons_succ])
    refine wpAnyH_take (i := 14) (oi := { dst := some 35, op := Op.extract (Operand.tmp 21) 0, type := 53, pos := "run.go:127", after := #[{ on := 13, ground := Ground.data }], guard := none }) (v := ?v14) rfl (by kernel_rfl) (by kernel_rfl) (by kernel_rfl) (fun _ _ _ h => h) (Or.inl ⟨by rfl, ?y14⟩) (by assumption) ?_
    case y14 => (intro w hSw; (try dsimp only at hSw); go_simp; try with_reducible rfl)
    (try simp only [Act.put, List.setIfInBounds_toArray, List.set_cons_zero, List.set_cons_succ])
    refine wpAnyH_take (i := 15) (oi := { dst := some 36, op := Op.extract (Operand.tmp 21) 1, type := 36, pos := "run.go:127", after := #[{ on := 13, ground := Ground.data }, { on := 17, ground := Ground.gcOnly Departure.lateStores }], guard := none }) (v := ?v15) rfl (by kernel_rfl) (by kernel_rfl) (by kernel_rfl) (fun _ _ _ h => h) (Or.inl ⟨by rfl, ?y15⟩) (by assumption) ?_
    case y15 => (intro w hSw; (try dsimp only at hSw); go_simp; try with_reducible rfl)
    (try simp only [Act.put, List.setIfInBounds_toArray, List.set_cons_zero, List.set_cons_succ])
    have hba := below_alloc (Below.refl w5.heap.size w5) (.cells #[.int .i64 0, .int .i64 0, .int .i64 0, .int .i64 0] 53)
    have K5a : (w5.alloc (.cells #[.int .i64 0, .int .i64 0, .int .i64 0, .int .i64 0] 53)).cell? ⟨W.heap.size, 4, none⟩ = some (.slice (some adA) ns.length c) ∧ (w5.alloc (.cells #[.int .i64 0, .int .i64 0, .int .i64 0, .int .i64 0] 53)).cell? ⟨W.heap.size, 5, none⟩ = some (.slice (some adB) ns.length cb) ∧ (w5.alloc (.cells #[.int .i64 0, .int .i64 0, .int .i64 0, .int .i64 0] 53)).cell? (adB.add (q.toNat * 4)) = some (.int .i64 Q0) ∧ (w5.alloc (.cells #[.int .i64 0, .int .i64 0, .int .i64 0, .int .i64 0] 53)).cell? ⟨(adB.add (q.toNat * 4)).block, (adB.add (q.toNat * 4)).off + 1, none⟩ = some (.int .i64 Q1) ∧ (w5.alloc (.cells #[.int .i64 0, .int .i64 0, .int .i64 0, .int .i64 0] 53)).cell? ⟨(adB.add (q.toNat * 4)).block, (adB.add (q.toNat * 4)).off + 2, none⟩ = some (.int .i64 Q2) ∧ (w5.alloc (.cells #[.int .i64 0, .int .i64 0, .int .i64 0, .int .i64 0] 53)).cell? ⟨(adB.add (q.toNat * 4)).block, (adB.add (q.toNat * 4)).off + 3, none⟩ = some (.int .i64 0) ∧ (w5.alloc (.cells #[.int .i64 0, .int .i64 0, .int .i64 0, .int .i64 0] 53)).cell? (adA.add (q.toNat * 6)) = some (.string f0) ∧ (w5.alloc (.cells #[.int .i64 0, .int .i64 0, .int .i64 0, .int .i64 0] 53)).cell? ⟨(adA.add (q.toNat * 6)).block, (adA.add (q.toNat * 6)).off + 1, none⟩ = some (.slice A1 f1.length c1) ∧ (w5.alloc (.cells #[.int .i64 0, .int .i64 0, .int .i64 0, .int .i64 0] 53)).cell? ⟨(adA.add (q.toNat * 6)).block, (adA.add (q.toNat * 6)).off + 2, none⟩ = some (.int .i64 f2) ∧ (w5.alloc (.cells #[.int .i64 0, .int .i64 0, .int .i64 0, .int .i64 0] 53)).cell? ⟨(adA.add (q.toNat * 6)).block, (adA.add (q.toNat * 6)).off + 3, none⟩ = some (.int .i64 f3) ∧ (w5.alloc (.cells #[.int .i64 0, .int .i64 0, .int .i64 0, .int .i64 0] 53)).cell? ⟨(adA.add (q.toNat * 6)).block, (adA.add (q.toNat * 6)).off + 4, none⟩ = some (.int .i64 f4) ∧ (w5.alloc (.cells #[.int .i64 0, .int .i64 0, .int .i64 0, .int .i64 0] 53)).cell? ⟨(adA.add (q.toNat * 6)).block, (adA.add (q.toNat * 6)).off + 5, none⟩ = some (.string f5) := ⟨pw_cell_below hba hHeld.1, pw_cell_below hba hHeld.2.1, pw_cell_below hba hHeld.2.2.1, pw_cell_below hba hHeld.2.2.2.1, pw_cell_below hba hHeld.2.2.2.2.1, pw_cell_below hba hHeld.2.2.2.2.2.1, pw_cell_below hba hHeld.2.2.2.2.2.2.1, pw_cell_below hba hHeld.2.2.2.2.2.2.2.1, pw_cell_below hba hHeld.2.2.2.2.2.2.2.2.1, pw_cell_below hba hHeld.2.2.2.2.2.2.2.2.2.1, pw_cell_below hba hHeld.2.2.2.2.2.2.2.2.2.2.1, pw_cell_below hba hHeld.2.2.2.2.2.2.2.2.2.2.2⟩
    have hbA : (adA.add (q.toNat * 6)).block < w5.heap.size := World.block_lt_of_cell? w5 _ hHeld.2.2.2.2.2.2.1
    have hbB : (adB.add (q.toNat * 4)).block < w5.heap.size := World.block_lt_of_cell? w5 _ hHeld.2.2.1
    refine wpAnyH_ready (rs := [16]) (by kernel_rfl) (by simp) ?_
    refine AllReadyH.cons (o := { dst := some 8, op := Op.alloc 53, type := 0, pos := "run.go:127", after := #[], guard := none }) rfl (fun K hK => ?_) AllReadyH.nil
    go_simp
    refine hK.out _ _ K5a (fun hHeld2 => ?_)
    clear hK K hHeld
    have hHeld := hHeld2
    clear hHeld2
    (try simp only [Act.put, List.setIfInBounds_toArray, List.set_cons_zero, List.set_cons_succ])
    have HXw := Aside0.mk (blk_new w5 (.cells #[.int .i64 0, .int .i64 0, .int .i64 0, .int .i64 0] 53))
    have HBw := Aside0.mk (below_step HBw5.out hba)
    have HKw := Aside0.mk (blk_below HK5.out hba)
    have HZw := Aside0.mk (blk_below HZ5.out hba)
    have hsw : W.heap.size + 2 ≤ w5.heap.size := by omega
    have hswa := hba.size
    clear hba K5 K5a HBw5 HK5 HZ5 HKd HZd HBd
    generalize w5.alloc (.cells #[.int .i64 0, .int .i64 0, .int .i64 0, .int .i64 0] 53) = ww at *
    generalize hgbE : w5.heap.size = gb at *
    refine wpAnyH_ready (rs := [17]) (by kernel_rfl) (by simp) ?_
    refine AllReadyH.cons (o := { dst := none, op := Op.store 53 (Operand.tmp 8) (Operand.tmp 35), type := 0, pos := "run.go:127", after := #[{ on := 16, ground := Ground.data }, { on := 14, ground := Ground.data }, { on := 12, ground := Ground.chain }, { on := 0, ground := Ground.phase }, { on := 1, ground := Ground.phase }, { on := 2, ground := Ground.phase }, { on := 3, ground := Ground.phase }, { on := 4, ground := Ground.phase }, { on := 5, ground := Ground.phase }, { on := 6, ground := Ground.phase }, { on := 7, ground := Ground.phase }, { on := 8, ground := Ground.phase }, { on := 9, ground := Ground.phase }, { on := 10, ground := Ground.phase }, { on := 11, ground := Ground.phase }, { on := 12, ground := Ground.phase }, { on := 13, ground := Ground.phase }, { on := 14, ground := Ground.phase }, { on := 15, ground := Ground.textOnly Departure.lateStores }, { on := 16, ground := Ground.phase }], guard := none }) rfl (fun K hK => ?_) AllReadyH.nil
    have hz0 : ww.cell? ⟨gb, 0, none⟩ = some (.int .i64 0) := (blk_cell HXw.out 0).trans rfl
    have hzf0 := blk_frozen HXw.out 0
    have hz1 : ww.cell? ⟨gb, 1, none⟩ = some (.int .i64 0) := (blk_cell HXw.out 1).trans rfl
    have hzf1 := blk_frozen HXw.out 1
    have hz2 : ww.cell? ⟨gb, 2, none⟩ = some (.int .i64 0) := (blk_cell HXw.out 2).trans rfl
    have hzf2 := blk_frozen HXw.out 2
    have hz3 : ww.cell? ⟨gb, 3, none⟩ = some (.int .i64 0) := (blk_cell HXw.out 3).trans rfl
    have hzf3 := blk_frozen HXw.out 3
    refine store_step (w1 := ((((ww.setCell ⟨gb, 0, none⟩ (.int .i64 V0)).setCell ⟨gb, 1, none⟩ (.int .i64 V1)).setCell ⟨gb, 2, none⟩ (.int .i64 V2)).setCell ⟨gb, 3, none⟩ (.int .i64 0))) rfl rfl (by first | (go_simp; done) | (go_simp; rfl)) ?_
    have hg6 := setCells_grown ww (gb) [.int .i64 V0, .int .i64 V1, .int .i64 V2, .int .i64 0]
    have hk6 := setCells_full HXw.out [.int .i64 V0, .int .i64 V1, .int .i64 V2, .int .i64 0] rfl
    simp only [World.setCells, Nat.zero_add, Nat.reduceAdd] at hg6 hk6
    have HX6 := Aside0.mk hk6
    have HB6 := Aside0.mk (HBw.out.grown hg6 HBw.out.size (fun j e => by injection e with e; omega))
    have HK6 := Aside0.mk (blk_grown HKw.out hg6 (fun e => by injection e with e; omega))
    have HZ6 := Aside0.mk (blk_grown HZw.out hg6 (fun e => by injection e with e; omega))
    have hs6 : W.heap.size + 2 ≤ ((((ww.setCell ⟨gb, 0, none⟩ (.int .i64 V0)).setCell ⟨gb, 1, none⟩ (.int .i64 V1)).setCell ⟨gb, 2, none⟩ (.int .i64 V2)).setCell ⟨gb, 3, none⟩ (.int .i64 0)).heap.size := Nat.le_trans hsw (Nat.le_trans hswa hg6.size)
    have hcell : ∀ (a : Addr) (v : Value), ww.cell? a = some v → a.block < gb → ((((ww.setCell ⟨gb, 0, none⟩ (.int .i64 V0)).setCell ⟨gb, 1, none⟩ (.int .i64 V1)).setCell ⟨gb, 2, none⟩ (.int .i64 V2)).setCell ⟨gb, 3, none⟩ (.int .i64 0)).cell? a = some v := fun a v h hne => hg6.cell h (fun e => by injection e with e; omega)
    have K6 : ((((ww.setCell ⟨gb, 0, none⟩ (.int .i64 V0)).setCell ⟨gb, 1, none⟩ (.int .i64 V1)).setCell ⟨gb, 2, none⟩ (.int .i64 V2)).setCell ⟨gb, 3, none⟩ (.int .i64 0)).cell? ⟨W.heap.size, 4, none⟩ = some (.slice (some adA) ns.length c) ∧ ((((ww.setCell ⟨gb, 0, none⟩ (.int .i64 V0)).setCell ⟨gb, 1, none⟩ (.int .i64 V1)).setCell ⟨gb, 2, none⟩ (.int .i64 V2)).setCell ⟨gb, 3, none⟩ (.int .i64 0)).cell? ⟨W.heap.size, 5, none⟩ = some (.slice (some adB) ns.length cb) ∧ ((((ww.setCell ⟨gb, 0, none⟩ (.int .i64 V0)).setCell ⟨gb, 1, none⟩ (.int .i64 V1)).setCell ⟨gb, 2, none⟩ (.int .i64 V2)).setCell ⟨gb, 3, none⟩ (.int .i64 0)).cell? (adB.add (q.toNat * 4)) = some (.int .i64 Q0) ∧ ((((ww.setCell ⟨gb, 0, none⟩ (.int .i64 V0)).setCell ⟨gb, 1, none⟩ (.int .i64 V1)).setCell ⟨gb, 2, none⟩ (.int .i64 V2)).setCell ⟨gb, 3, none⟩ (.int .i64 0)).cell? ⟨(adB.add (q.toNat * 4)).block, (adB.add (q.toNat * 4)).off + 1, none⟩ = some (.int .i64 Q1) ∧ ((((ww.setCell ⟨gb, 0, none⟩ (.int .i64 V0)).setCell ⟨gb, 1, none⟩ (.int .i64 V1)).setCell ⟨gb, 2, none⟩ (.int .i64 V2)).setCell ⟨gb, 3, none⟩ (.int .i64 0)).cell? ⟨(adB.add (q.toNat * 4)).block, (adB.add (q.toNat * 4)).off + 2, none⟩ = some (.int .i64 Q2) ∧ ((((ww.setCell ⟨gb, 0, none⟩ (.int .i64 V0)).setCell ⟨gb, 1, none⟩ (.int .i64 V1)).setCell ⟨gb, 2, none⟩ (.int .i64 V2)).setCell ⟨gb, 3, none⟩ (.int .i64 0)).cell? ⟨(adB.add (q.toNat * 4)).block, (adB.add (q.toNat * 4)).off + 3, none⟩ = some (.int .i64 0) ∧ ((((ww.setCell ⟨gb, 0, none⟩ (.int .i64 V0)).setCell ⟨gb, 1, none⟩ (.int .i64 V1)).setCell ⟨gb, 2, none⟩ (.int .i64 V2)).setCell ⟨gb, 3, none⟩ (.int .i64 0)).cell? (adA.add (q.toNat * 6)) = some (.string f0) ∧ ((((ww.setCell ⟨gb, 0, none⟩ (.int .i64 V0)).setCell ⟨gb, 1, none⟩ (.int .i64 V1)).setCell ⟨gb, 2, none⟩ (.int .i64 V2)).setCell ⟨gb, 3, none⟩ (.int .i64 0)).cell? ⟨(adA.add (q.toNat * 6)).block, (adA.add (q.toNat * 6)).off + 1, none⟩ = some (.slice A1 f1.length c1) ∧ ((((ww.setCell ⟨gb, 0, none⟩ (.int .i64 V0)).setCell ⟨gb, 1, none⟩ (.int .i64 V1)).setCell ⟨gb, 2, none⟩ (.int .i64 V2)).setCell ⟨gb, 3, none⟩ (.int .i64 0)).cell? ⟨(adA.add (q.toNat * 6)).block, (adA.add (q.toNat * 6)).off + 2, none⟩ = some (.int .i64 f2) ∧ ((((ww.setCell ⟨gb, 0, none⟩ (.int .i64 V0)).setCell ⟨gb, 1, none⟩ (.int .i64 V1)).setCell ⟨gb, 2, none⟩ (.int .i64 V2)).setCell ⟨gb, 3, none⟩ (.int .i64 0)).cell? ⟨(adA.add (q.toNat * 6)).block, (adA.add (q.toNat * 6)).off + 3, none⟩ = some (.int .i64 f3) ∧ ((((ww.setCell ⟨gb, 0, none⟩ (.int .i64 V0)).setCell ⟨gb, 1, none⟩ (.int .i64 V1)).setCell ⟨gb, 2, none⟩ (.int .i64 V2)).setCell ⟨gb, 3, none⟩ (.int .i64 0)).cell? ⟨(adA.add (q.toNat * 6)).block, (adA.add (q.toNat * 6)).off + 4, none⟩ = some (.int .i64 f4) ∧ ((((ww.setCell ⟨gb, 0, none⟩ (.int .i64 V0)).setCell ⟨gb, 1, none⟩ (.int .i64 V1)).setCell ⟨gb, 2, none⟩ (.int .i64 V2)).setCell ⟨gb, 3, none⟩ (.int .i64 0)).cell? ⟨(adA.add (q.toNat * 6)).block, (adA.add (q.toNat * 6)).off + 5, none⟩ = some (.string f5) := ⟨hcell _ _ hHeld.1 (by show W.heap.size < gb; omega), hcell _ _ hHeld.2.1 (by show W.heap.size < gb; omega), hcell _ _ hHeld.2.2.1 hbB, hcell _ _ hHeld.2.2.2.1 hbB, hcell _ _ hHeld.2.2.2.2.1 hbB, hcell _ _ hHeld.2.2.2.2.2.1 hbB, hcell _ _ hHeld.2.2.2.2.2.2.1 hbA, hcell _ _ hHeld.2.2.2.2.2.2.2.1 hbA, hcell _ _ hHeld.2.2.2.2.2.2.2.2.1 hbA, hcell _ _ hHeld.2.2.2.2.2.2.2.2.2.1 hbA, hcell _ _ hHeld.2.2.2.2.2.2.2.2.2.2.1 hbA, hcell _ _ hHeld.2.2.2.2.2.2.2.2.2.2.2 hbA⟩
    clear hcell hg6 hk6 hz0 hz1 hz2 hz3 hzf0 hzf1 hzf2 hzf3
    generalize ((((ww.setCell ⟨gb, 0, none⟩ (.int .i64 V0)).setCell ⟨gb, 1, none⟩ (.int .i64 V1)).setCell ⟨gb, 2, none⟩ (.int .i64 V2)).setCell ⟨gb, 3, none⟩ (.int .i64 0)) = w6 at *
    refine hK.out _ _ K6 (fun hHeld2 => ?_)
    clear hK K hHeld
    have hHeld := hHeld2
    clear hHeld2
    (try simp only [Act.put, List.setIfInBounds_toArray, List.set_cons_zero, List.set_cons_succ])
    refine wpAnyH_ready (rs := [18]) (by kernel_rfl) (by simp) ?_
    refine AllReadyH.cons (o := { dst := some 9, op := Op.assign (Operand.tmp 36), type := 36, pos := "run.go:127", after := #[{ on := 15, ground := Ground.data }, { on := 17, ground := Ground.chain }, { on := 0, ground := Ground.phase }, { on := 1, ground := Ground.phase }, { on := 2, ground := Ground.phase }, { on := 3, ground := Ground.phase }, { on := 4, ground := Ground.phase }, { on := 5, ground := Ground.phase }, { on := 6, ground := Ground.phase }, { on := 7, ground := Ground.phase }, { on := 8, ground := Ground.phase }, { on := 9, ground := Ground.phase }, { on := 10, ground := Ground.phase }, { on := 11, ground := Ground.phase }, { on := 12, ground := Ground.phase }, { on := 13, ground := Ground.phase }, { on := 14, ground := Ground.phase }, { on := 15, ground := Ground.phase }, { on := 16, ground := Ground.phase }, { on := 17, ground := Ground.phase }], guard := none }) rfl (fun K hK => ?_) AllReadyH.nil
    go_simp
    refine hK.out _ _ hHeld (fun hHeld2 => ?_)
    clear hK K hHeld
    have hHeld := hHeld2
    clear hHeld2
    (try simp only [Act.put, List.setIfInBounds_toArray, List.set_cons_zero, List.set_cons_succ])
    refine wpAnyH_done (by kernel_rfl) ?_ _
    clear hHeld K6
    have hx0 : w6.cell? ⟨W.heap.size, 0, none⟩ = some (.int .i64 i0) := (blk_cell HK6.out 0).trans rfl
    have hx1 : w6.cell? ⟨W.heap.size, 1, none⟩ = some (.int .i64 i1) := (blk_cell HK6.out 1).trans rfl
    have hx2 : w6.cell? ⟨W.heap.size, 2, none⟩ = some (.int .i64 i2) := (blk_cell HK6.out 2).trans rfl
    have hx3 : w6.cell? ⟨W.heap.size, 3, none⟩ = some (.string t) := (blk_cell HK6.out 3).trans rfl
    have hx4 : w6.cell? ⟨W.heap.size, 4, none⟩ = some (.slice (some adA) ns.length c) := (blk_cell HK6.out 4).trans rfl
    have hx5 : w6.cell? ⟨W.heap.size, 5, none⟩ = some (.slice (some adB) ns.length cb) := (blk_cell HK6.out 5).trans rfl
    have hF6 := Kd.F_below (Kd.F_bound HRA.out) HB6.out
    have hcl := clone14_calls i0 i1 i2 t (some adA) c ns (some adB) cb (stL ns P T) _ w6 hF6 (by rw [stL_len]; exact Kd.F_now (Kd.F_below HRB.out HB6.out)) hl (by rw [stL_len]; exact hl) HF.out.d12
    rw [stL_len] at hcl
    have HCL := Aside0.mk hcl
    clear hcl hF6
    go_upto_region 7 with (first | (go_at_call 14; go_loud (refine HCL.out.mono ?_; rintro e w7 ⟨A', c', B', cb', rfl, hN, hR, hb⟩; have HN7 := Aside0.mk hN; have HR7 := Aside0.mk hR; have HB7 := Aside0.mk hb; clear hN hR hb)))
    clear hx0 hx1 hx2 hx3 hx4 hx5
    obtain ⟨g, cap, he, hg1, hg2, gcs, hgc⟩ := Kd.R_form HR7.out (by rw [stL_len]; omega)
    rw [stL_len] at he
    injection he with ha hl_ hcc
    clear hl_
    subst ha; subst hcc
    have hb8 := below_alloc (Below.refl w7.heap.size w7) (.cells #[.int .i64 i0, .int .i64 i1, .int .i64 i2, .string t, .slice A' ns.length c', .slice (some ⟨g, 0, none⟩) ns.length cb'] 33)
    have HT8 := Aside0.mk (blk_new w7 (.cells #[.int .i64 i0, .int .i64 i1, .int .i64 i2, .string t, .slice A' ns.length c', .slice (some ⟨g, 0, none⟩) ns.length cb'] 33))
    have HN8 := Aside0.mk (Kd.N_below HN7.out hb8)
    have HR8 := Aside0.mk (Kd.R_lower (Kd.R_below HR7.out hb8) (base' := W.heap.size) (by omega))
    have HX8 := Aside0.mk (blk_below (blk_below HX6.out HB7.out) hb8)
    have HZ8 := Aside0.mk (blk_below (blk_below HZ6.out HB7.out) hb8)
    have HB8 := Aside0.mk (below_step (below_step HB6.out HB7.out) hb8)
    have HGC := Aside0.mk (blk_below hgc hb8)
    have hs8 := HB7.out.size
    clear hb8 HN7 HR7 HX6 HZ6 HK6 hgc
    generalize w7.alloc (.cells #[.int .i64 i0, .int .i64 i1, .int .i64 i2, .string t, .slice A' ns.length c', .slice (some ⟨g, 0, none⟩) ns.length cb'] 33) = w8 at *
    have hy0 : w8.cell? ⟨gb, 0, none⟩ = some (.int .i64 V0) := (blk_cell HX8.out 0).trans rfl
    have hy1 : w8.cell? ⟨gb, 1, none⟩ = some (.int .i64 V1) := (blk_cell HX8.out 1).trans rfl
    have hy2 : w8.cell? ⟨gb, 2, none⟩ = some (.int .i64 V2) := (blk_cell HX8.out 2).trans rfl
    have hy3 : w8.cell? ⟨gb, 3, none⟩ = some (.int .i64 0) := (blk_cell HX8.out 3).trans rfl
    have hv5 : w8.cell? ⟨w7.heap.size, 5, none⟩ = some (.slice (some ⟨g, 0, none⟩) ns.length cb') := (blk_cell HT8.out 5).trans rfl
    obtain ⟨cs, hcl, hM, hcc, hfr⟩ := Kd.R_elem HR8.out z53 q hq0 hq1
    have HCS := Aside0.mk (And.intro hcl hcc)
    clear hcl hM hcc hfr
    go_wp2_with (first | ((with_reducible refine gate_store (t := 53) (p := 47) rfl ?_); go_loud (refine Kd.R_store k53 (w0 := W) W.heap.size rfl rfl 53 (.tmp 47) (.tmp 46) rfl 53 q 0 (stL ns P T) ⟨V0, V1, V2, 0⟩ (.agg #[.int .i64 V0, .int .i64 V1, .int .i64 V2, .int .i64 0]) [.int .i64 V0, .int .i64 V1, .int .i64 V2, .int .i64 0] cs (fun _ => True) (fun _ => False) rfl rfl rfl rfl (by kernel_rfl) (by intro u hu; simp at hu; rcases hu with rfl | rfl | rfl | rfl <;> rfl) HR8.out hq0 hq1 HCS.out.1 HCS.out.2 (by show 0 + 4 ≤ 4; omega) ?pM (fun _ h => h.elim) HB8.out ?_; (case pM => (have hd4 : List.drop (0 + 4) cs = [] := List.drop_eq_nil_of_le (by rw [HCS.out.1]; exact Nat.le_refl _); simp only [List.take_zero, List.nil_append, List.length_cons, List.length_nil, hd4, List.append_nil]; exact k53_mkM _ _ _ _)); intro w9 hr9 hb9 hg9; have HG9 := Aside0.mk hg9; have HR9 := Aside0.mk hr9; have HB9 := Aside0.mk hb9; have HT9 := Aside0.mk (blk_grown HT8.out hg9 (fun e => blk_ne HT8.out HGC.out (by decide) (by injection e))); have HZ9 := Aside0.mk (blk_grown HZ8.out hg9 (fun e => blk_ne HZ8.out HGC.out (by decide) (by injection e))); clear hr9 hb9 hg9; have hw0 : w9.cell? ⟨w7.heap.size, 0, none⟩ = some (.int .i64 i0) := (blk_cell HT9.out 0).trans rfl; have hw1 : w9.cell? ⟨w7.heap.size, 1, none⟩ = some (.int .i64 i1) := (blk_cell HT9.out 1).trans rfl; have hw2 : w9.cell? ⟨w7.heap.size, 2, none⟩ = some (.int .i64 i2) := (blk_cell HT9.out 2).trans rfl; have hw3 : w9.cell? ⟨w7.heap.size, 3, none⟩ = some (.string t) := (blk_cell HT9.out 3).trans rfl; have hw4 : w9.cell? ⟨w7.heap.size, 4, none⟩ = some (.slice A' ns.length c') := (blk_cell HT9.out 4).trans rfl; have hw5 : w9.cell? ⟨w7.heap.size, 5, none⟩ = some (.slice (some ⟨g, 0, none⟩) ns.length cb') := (blk_cell HT9.out 5).trans rfl; have hzz0 : w9.cell? ⟨W.heap.size + 1, 0, none⟩ = some (.int .i64 0) := (blk_cell HZ9.out 0).trans rfl; have hzzf0 := blk_frozen HZ9.out 0; have hzz1 : w9.cell? ⟨W.heap.size + 1, 1, none⟩ = some (.int .i64 0) := (blk_cell HZ9.out 1).trans rfl; have hzzf1 := blk_frozen HZ9.out 1; have hzz2 : w9.cell? ⟨W.heap.size + 1, 2, none⟩ = some (.int .i64 0) := (blk_cell HZ9.out 2).trans rfl; have hzzf2 := blk_frozen HZ9.out 2; have hzz3 : w9.cell? ⟨W.heap.size + 1, 3, none⟩ = some (.string (⟨#[]⟩ : ByteArray)) := (blk_cell HZ9.out 3).trans rfl; have hzzf3 := blk_frozen HZ9.out 3; have hzz4 : w9.cell? ⟨W.heap.size + 1, 4, none⟩ = some (.slice none 0 0) := (blk_cell HZ9.out 4).trans rfl; have hzzf4 := blk_frozen HZ9.out 4; have hzz5 : w9.cell? ⟨W.heap.size + 1, 5, none⟩ = some (.slice none 0 0) := (blk_cell HZ9.out 5).trans rfl; have hzzf5 := blk_frozen HZ9.out 5;  skip)))
    have hg10 := setCells_grown w9 (W.heap.size + 1) [.int .i64 i0, .int .i64 i1, .int .i64 i2, .string t, .slice A' ns.length c', .slice (some ⟨g, 0, none⟩) ns.length cb']
    have hk10 := setCells_full HZ9.out [.int .i64 i0, .int .i64 i1, .int .i64 i2, .string t, .slice A' ns.length c', .slice (some ⟨g, 0, none⟩) ns.length cb'] rfl
    simp only [World.setCells, Nat.zero_add, Nat.reduceAdd] at hg10 hk10
    refine bodyPost_ret (results_ct rfl _ _ (W.heap.size + 1) 33 #[.int .i64 i0, .int .i64 i1, .int .i64 i2, .string t, .slice A' ns.length c', .slice (some ⟨g, 0, none⟩) ns.length cb'] (0, 0) _ rfl hk10 Try.underlying33 rfl (by kernel_rfl)) rfl ?_
    have hr10 := Kd.R_mono (Kd.R_grown (Kd.R_types HR9.out HZ9.out hE53_33) hg10 (fun j hj e => hj.2 (by injection e))) (ok' := fun _ => True) (fun _ _ => trivial)
    rw [HQK.out, HSET.out] at hr10
    have hF8 := Kd.F_bound (Kd.N_F HN8.out)
    have hF9 := Kd.F_grown (Kd.N_F HN8.out) HG9.out (fun j hj e => hj.2 e)
    refine ⟨A', c', g, cb', rfl, ?_, (Kd.N_reads' HN8.out).2.1, hr10, HB9.out.grown hg10 HB9.out.size (fun j e => by injection e with e; omega)⟩
    refine Kd.F_mono (Kd.F_grown hF9 hg10 (fun j hj e => ?_)) (fun j hj => ⟨?_, fun e => hj.2 (by rw [e]; rfl)⟩)
    · injection e with e; rcases hj.1 with h | h
      · have := h.2; omega
      · omega
    · rcases hj.1 with h | h
      · exact .inl h.1
      · exact .inr (by omega)
  · have hba := below_alloc (Below.refl wd.heap.size wd) (.cells #[.int .i64 0, .int .i64 0, .int .i64 0, .int .i64 0] 53)
    have Ka : (wd.alloc (.cells #[.int .i64 0, .int .i64 0, .int .i64 0, .int .i64 0] 53)).cell? ⟨W.heap.size, 4, none⟩ = some (.slice (some adA) ns.length c) ∧ (wd.alloc (.cells #[.int .i64 0, .int .i64 0, .int .i64 0, .int .i64 0] 53)).cell? ⟨W.heap.size, 5, none⟩ = some (.slice (some adB) ns.length cb) ∧ (wd.alloc (.cells #[.int .i64 0, .int .i64 0, .int .i64 0, .int .i64 0] 53)).cell? (adB.add (q.toNat * 4)) = some (.int .i64 Q0) ∧ (wd.alloc (.cells #[.int .i64 0, .int .i64 0, .int .i64 0, .int .i64 0] 53)).cell? ⟨(adB.add (q.toNat * 4)).block, (adB.add (q.toNat * 4)).off + 1, none⟩ = some (.int .i64 Q1) ∧ (wd.alloc (.cells #[.int .i64 0, .int .i64 0, .int .i64 0, .int .i64 0] 53)).cell? ⟨(adB.add (q.toNat * 4)).block, (adB.add (q.toNat * 4)).off + 2, none⟩ = some (.int .i64 Q2) ∧ (wd.alloc (.cells #[.int .i64 0, .int .i64 0, .int .i64 0, .int .i64 0] 53)).cell? ⟨(adB.add (q.toNat * 4)).block, (adB.add (q.toNat * 4)).off + 3, none⟩ = some (.int .i64 0) ∧ (wd.alloc (.cells #[.int .i64 0, .int .i64 0, .int .i64 0, .int .i64 0] 53)).cell? (adA.add (q.toNat * 6)) = some (.string f0) ∧ (wd.alloc (.cells #[.int .i64 0, .int .i64 0, .int .i64 0, .int .i64 0] 53)).cell? ⟨(adA.add (q.toNat * 6)).block, (adA.add (q.toNat * 6)).off + 1, none⟩ = some (.slice A1 f1.length c1) ∧ (wd.alloc (.cells #[.int .i64 0, .int .i64 0, .int .i64 0, .int .i64 0] 53)).cell? ⟨(adA.add (q.toNat * 6)).block, (adA.add (q.toNat * 6)).off + 2, none⟩ = some (.int .i64 f2) ∧ (wd.alloc (.cells #[.int .i64 0, .int .i64 0, .int .i64 0, .int .i64 0] 53)).cell? ⟨(adA.add (q.toNat * 6)).block, (adA.add (q.toNat * 6)).off + 3, none⟩ = some (.int .i64 f3) ∧ (wd.alloc (.cells #[.int .i64 0, .int .i64 0, .int .i64 0, .int .i64 0] 53)).cell? ⟨(adA.add (q.toNat * 6)).block, (adA.add (q.toNat * 6)).off + 4, none⟩ = some (.int .i64 f4) ∧ (wd.alloc (.cells #[.int .i64 0, .int .i64 0, .int .i64 0, .int .i64 0] 53)).cell? ⟨(adA.add (q.toNat * 6)).block, (adA.add (q.toNat * 6)).off + 5, none⟩ = some (.string f5) := ⟨pw_cell_below hba hHeld.1, pw_cell_below hba hHeld.2.1, pw_cell_below hba hHeld.2.2.1, pw_cell_below hba hHeld.2.2.2.1, pw_cell_below hba hHeld.2.2.2.2.1, pw_cell_below hba hHeld.2.2.2.2.2.1, pw_cell_below hba hHeld.2.2.2.2.2.2.1, pw_cell_below hba hHeld.2.2.2.2.2.2.2.1, pw_cell_below hba hHeld.2.2.2.2.2.2.2.2.1, pw_cell_below hba hHeld.2.2.2.2.2.2.2.2.2.1, pw_cell_below hba hHeld.2.2.2.2.2.2.2.2.2.2.1, pw_cell_below hba hHeld.2.2.2.2.2.2.2.2.2.2.2⟩
    go_simp
    refine hK.out _ _ Ka (fun hHeld2 => ?_)
    clear hK K hHeld
    have hHeld := hHeld2
    clear hHeld2
    (try simp only [Act.put, List.setIfInBounds_toArray, List.set_cons_zero, List.set_cons_succ])
    have HXa := Aside0.mk (blk_new wd (.cells #[.int .i64 0, .int .i64 0, .int .i64 0, .int .i64 0] 53))
    have HBa := Aside0.mk (below_step HBd.out hba)
    have HKa := Aside0.mk (blk_below HKd.out hba)
    have HZa := Aside0.mk (blk_below HZd.out hba)
    have hbA : (adA.add (q.toNat * 6)).block < wd.heap.size := World.block_lt_of_cell? wd _ K0d.2.2.2.2.2.2.1
    have hbB : (adB.add (q.toNat * 4)).block < wd.heap.size := World.block_lt_of_cell? wd _ K0d.2.2.1
    have hsa : wd.heap.size < (wd.alloc (.cells #[.int .i64 0, .int .i64 0, .int .i64 0, .int .i64 0] 53)).heap.size := by simp
    clear hba Ka HKd HZd HBd
    generalize wd.alloc (.cells #[.int .i64 0, .int .i64 0, .int .i64 0, .int .i64 0] 53) = wa at *
    generalize hgbE : wd.heap.size = gb at *
    refine wpAnyH_ready (rs := [12]) (by kernel_rfl) (by simp) ?_
    refine AllReadyH.cons (o := { dst := some 34, op := Op.call { callee := Callee.value (Operand.tmp 22), args := #[Operand.tmp 27, Operand.tmp 33], argTypes := #[53, 43] }, type := 65, pos := "run.go:127", after := #[{ on := 0, ground := Ground.data }, { on := 5, ground := Ground.data }, { on := 11, ground := Ground.data }], guard := none }) rfl (fun K hK => ?_) AllReadyH.nil
    (first | (go_at_call 22; go_loud (refine (HCON.out _ HBa.out).mono ?_; rintro e w5 ⟨rfl, hb5⟩)) | (go_simp; (go_at_call 22; go_loud (refine (HCON.out _ HBa.out).mono ?_; rintro e w5 ⟨rfl, hb5⟩))))
    have HBw := Aside0.mk (below_step HBa.out hb5)
    have HKw := Aside0.mk (blk_below HKa.out hb5)
    have HZw := Aside0.mk (blk_below HZa.out hb5)
    have HXw := Aside0.mk (blk_below HXa.out hb5)
    have hsw : W.heap.size + 2 ≤ gb := by omega
    have hswa : gb ≤ w5.heap.size := by have := hb5.size; omega
    have K5 : w5.cell? ⟨W.heap.size, 4, none⟩ = some (.slice (some adA) ns.length c) ∧ w5.cell? ⟨W.heap.size, 5, none⟩ = some (.slice (some adB) ns.length cb) ∧ w5.cell? (adB.add (q.toNat * 4)) = some (.int .i64 Q0) ∧ w5.cell? ⟨(adB.add (q.toNat * 4)).block, (adB.add (q.toNat * 4)).off + 1, none⟩ = some (.int .i64 Q1) ∧ w5.cell? ⟨(adB.add (q.toNat * 4)).block, (adB.add (q.toNat * 4)).off + 2, none⟩ = some (.int .i64 Q2) ∧ w5.cell? ⟨(adB.add (q.toNat * 4)).block, (adB.add (q.toNat * 4)).off + 3, none⟩ = some (.int .i64 0) ∧ w5.cell? (adA.add (q.toNat * 6)) = some (.string f0) ∧ w5.cell? ⟨(adA.add (q.toNat * 6)).block, (adA.add (q.toNat * 6)).off + 1, none⟩ = some (.slice A1 f1.length c1) ∧ w5.cell? ⟨(adA.add (q.toNat * 6)).block, (adA.add (q.toNat * 6)).off + 2, none⟩ = some (.int .i64 f2) ∧ w5.cell? ⟨(adA.add (q.toNat * 6)).block, (adA.add (q.toNat * 6)).off + 3, none⟩ = some (.int .i64 f3) ∧ w5.cell? ⟨(adA.add (q.toNat * 6)).block, (adA.add (q.toNat * 6)).off + 4, none⟩ = some (.int .i64 f4) ∧ w5.cell? ⟨(adA.add (q.toNat * 6)).block, (adA.add (q.toNat * 6)).off + 5, none⟩ = some (.string f5) := ⟨pw_cell_below hb5 hHeld.1, pw_cell_below hb5 hHeld.2.1, pw_cell_below hb5 hHeld.2.2.1, pw_cell_below hb5 hHeld.2.2.2.1, pw_cell_below hb5 hHeld.2.2.2.2.1, pw_cell_below hb5 hHeld.2.2.2.2.2.1, pw_cell_below hb5 hHeld.2.2.2.2.2.2.1, pw_cell_below hb5 hHeld.2.2.2.2.2.2.2.1, pw_cell_below hb5 hHeld.2.2.2.2.2.2.2.2.1, pw_cell_below hb5 hHeld.2.2.2.2.2.2.2.2.2.1, pw_cell_below hb5 hHeld.2.2.2.2.2.2.2.2.2.2.1, pw_cell_below hb5 hHeld.2.2.2.2.2.2.2.2.2.2.2⟩
    clear hb5
    refine hK.out _ _ K5 (fun hHeld2 => ?_)
    clear hK K hHeld
    have hHeld := hHeld2
    clear hHeld2
    (try simp only [Act.put, List.setIfInBounds_toArray, List.set_cons_zero, List.set_cons_succ])
    refine wpAnyH_take (i := 13) (oi := { dst := some 21, op := Op.move (Operand.tmp 34), type := 65, pos := "run.go:127", after := #[{ on := 12, ground := Ground.data }], guard := none }) (v := ?v13) rfl (by kernel_rfl) (by kernel_rfl) (by kernel_rfl) (fun _ _ _ h => h) (Or.inl ⟨by rfl, ?y13⟩) (by assumption) ?_
    case y13 => (intro w hSw; (try dsimp only at hSw); go_simp; try with_reducible rfl)
    (try simp only [Act.put, List.setIfInBounds_toArray, List.set_cons_zero, List.set_cons_succ])
    refine wpAnyH_take (i := 14) (oi := { dst := some 35, op := Op.extract (Operand.tmp 21) 0, type := 53, pos := "run.go:127", after := #[{ on := 13, ground := Ground.data }], guard := none }) (v := ?v14) rfl (by kernel_rfl) (by kernel_rfl) (by kernel_rfl) (fun _ _ _ h => h) (Or.inl ⟨by rfl, ?y14⟩) (by assumption) ?_
    case y14 => (intro w hSw; (try dsimp only at hSw); go_simp; try with_reducible rfl)
    (try simp only [Act.put, List.setIfInBounds_toArray, List.set_cons_zero, List.set_cons_succ])
    refine wpAnyH_take (i := 15) (oi := { dst := some 36, op := Op.extract (Operand.tmp 21) 1, type := 36, pos := "run.go:127", after := #[{ on := 13, ground := Ground.data }, { on := 17, ground := Ground.gcOnly Departure.lateStores }], guard := none }) (v := ?v15) rfl (by kernel_rfl) (by kernel_rfl) (by kernel_rfl) (fun _ _ _ h => h) (Or.inl ⟨by rfl, ?y15⟩) (by assumption) ?_
    case y15 => (intro w hSw; (try dsimp only at hSw); go_simp; try with_reducible rfl)
    (try simp only [Act.put, List.setIfInBounds_toArray, List.set_cons_zero, List.set_cons_succ])
    clear K5 K0d
    refine wpAnyH_ready (rs := [17]) (by kernel_rfl) (by simp) ?_
    refine AllReadyH.cons (o := { dst := none, op := Op.store 53 (Operand.tmp 8) (Operand.tmp 35), type := 0, pos := "run.go:127", after := #[{ on := 16, ground := Ground.data }, { on := 14, ground := Ground.data }, { on := 12, ground := Ground.chain }, { on := 0, ground := Ground.phase }, { on := 1, ground := Ground.phase }, { on := 2, ground := Ground.phase }, { on := 3, ground := Ground.phase }, { on := 4, ground := Ground.phase }, { on := 5, ground := Ground.phase }, { on := 6, ground := Ground.phase }, { on := 7, ground := Ground.phase }, { on := 8, ground := Ground.phase }, { on := 9, ground := Ground.phase }, { on := 10, ground := Ground.phase }, { on := 11, ground := Ground.phase }, { on := 12, ground := Ground.phase }, { on := 13, ground := Ground.phase }, { on := 14, ground := Ground.phase }, { on := 15, ground := Ground.textOnly Departure.lateStores }, { on := 16, ground := Ground.phase }], guard := none }) rfl (fun K hK => ?_) AllReadyH.nil
    have hz0 : w5.cell? ⟨gb, 0, none⟩ = some (.int .i64 0) := (blk_cell HXw.out 0).trans rfl
    have hzf0 := blk_frozen HXw.out 0
    have hz1 : w5.cell? ⟨gb, 1, none⟩ = some (.int .i64 0) := (blk_cell HXw.out 1).trans rfl
    have hzf1 := blk_frozen HXw.out 1
    have hz2 : w5.cell? ⟨gb, 2, none⟩ = some (.int .i64 0) := (blk_cell HXw.out 2).trans rfl
    have hzf2 := blk_frozen HXw.out 2
    have hz3 : w5.cell? ⟨gb, 3, none⟩ = some (.int .i64 0) := (blk_cell HXw.out 3).trans rfl
    have hzf3 := blk_frozen HXw.out 3
    refine store_step (w1 := ((((w5.setCell ⟨gb, 0, none⟩ (.int .i64 V0)).setCell ⟨gb, 1, none⟩ (.int .i64 V1)).setCell ⟨gb, 2, none⟩ (.int .i64 V2)).setCell ⟨gb, 3, none⟩ (.int .i64 0))) rfl rfl (by first | (go_simp; done) | (go_simp; rfl)) ?_
    have hg6 := setCells_grown w5 (gb) [.int .i64 V0, .int .i64 V1, .int .i64 V2, .int .i64 0]
    have hk6 := setCells_full HXw.out [.int .i64 V0, .int .i64 V1, .int .i64 V2, .int .i64 0] rfl
    simp only [World.setCells, Nat.zero_add, Nat.reduceAdd] at hg6 hk6
    have HX6 := Aside0.mk hk6
    have HB6 := Aside0.mk (HBw.out.grown hg6 HBw.out.size (fun j e => by injection e with e; omega))
    have HK6 := Aside0.mk (blk_grown HKw.out hg6 (fun e => by injection e with e; omega))
    have HZ6 := Aside0.mk (blk_grown HZw.out hg6 (fun e => by injection e with e; omega))
    have hs6 : W.heap.size + 2 ≤ ((((w5.setCell ⟨gb, 0, none⟩ (.int .i64 V0)).setCell ⟨gb, 1, none⟩ (.int .i64 V1)).setCell ⟨gb, 2, none⟩ (.int .i64 V2)).setCell ⟨gb, 3, none⟩ (.int .i64 0)).heap.size := Nat.le_trans hsw (Nat.le_trans hswa hg6.size)
    have hcell : ∀ (a : Addr) (v : Value), w5.cell? a = some v → a.block < gb → ((((w5.setCell ⟨gb, 0, none⟩ (.int .i64 V0)).setCell ⟨gb, 1, none⟩ (.int .i64 V1)).setCell ⟨gb, 2, none⟩ (.int .i64 V2)).setCell ⟨gb, 3, none⟩ (.int .i64 0)).cell? a = some v := fun a v h hne => hg6.cell h (fun e => by injection e with e; omega)
    have K6 : ((((w5.setCell ⟨gb, 0, none⟩ (.int .i64 V0)).setCell ⟨gb, 1, none⟩ (.int .i64 V1)).setCell ⟨gb, 2, none⟩ (.int .i64 V2)).setCell ⟨gb, 3, none⟩ (.int .i64 0)).cell? ⟨W.heap.size, 4, none⟩ = some (.slice (some adA) ns.length c) ∧ ((((w5.setCell ⟨gb, 0, none⟩ (.int .i64 V0)).setCell ⟨gb, 1, none⟩ (.int .i64 V1)).setCell ⟨gb, 2, none⟩ (.int .i64 V2)).setCell ⟨gb, 3, none⟩ (.int .i64 0)).cell? ⟨W.heap.size, 5, none⟩ = some (.slice (some adB) ns.length cb) ∧ ((((w5.setCell ⟨gb, 0, none⟩ (.int .i64 V0)).setCell ⟨gb, 1, none⟩ (.int .i64 V1)).setCell ⟨gb, 2, none⟩ (.int .i64 V2)).setCell ⟨gb, 3, none⟩ (.int .i64 0)).cell? (adB.add (q.toNat * 4)) = some (.int .i64 Q0) ∧ ((((w5.setCell ⟨gb, 0, none⟩ (.int .i64 V0)).setCell ⟨gb, 1, none⟩ (.int .i64 V1)).setCell ⟨gb, 2, none⟩ (.int .i64 V2)).setCell ⟨gb, 3, none⟩ (.int .i64 0)).cell? ⟨(adB.add (q.toNat * 4)).block, (adB.add (q.toNat * 4)).off + 1, none⟩ = some (.int .i64 Q1) ∧ ((((w5.setCell ⟨gb, 0, none⟩ (.int .i64 V0)).setCell ⟨gb, 1, none⟩ (.int .i64 V1)).setCell ⟨gb, 2, none⟩ (.int .i64 V2)).setCell ⟨gb, 3, none⟩ (.int .i64 0)).cell? ⟨(adB.add (q.toNat * 4)).block, (adB.add (q.toNat * 4)).off + 2, none⟩ = some (.int .i64 Q2) ∧ ((((w5.setCell ⟨gb, 0, none⟩ (.int .i64 V0)).setCell ⟨gb, 1, none⟩ (.int .i64 V1)).setCell ⟨gb, 2, none⟩ (.int .i64 V2)).setCell ⟨gb, 3, none⟩ (.int .i64 0)).cell? ⟨(adB.add (q.toNat * 4)).block, (adB.add (q.toNat * 4)).off + 3, none⟩ = some (.int .i64 0) ∧ ((((w5.setCell ⟨gb, 0, none⟩ (.int .i64 V0)).setCell ⟨gb, 1, none⟩ (.int .i64 V1)).setCell ⟨gb, 2, none⟩ (.int .i64 V2)).setCell ⟨gb, 3, none⟩ (.int .i64 0)).cell? (adA.add (q.toNat * 6)) = some (.string f0) ∧ ((((w5.setCell ⟨gb, 0, none⟩ (.int .i64 V0)).setCell ⟨gb, 1, none⟩ (.int .i64 V1)).setCell ⟨gb, 2, none⟩ (.int .i64 V2)).setCell ⟨gb, 3, none⟩ (.int .i64 0)).cell? ⟨(adA.add (q.toNat * 6)).block, (adA.add (q.toNat * 6)).off + 1, none⟩ = some (.slice A1 f1.length c1) ∧ ((((w5.setCell ⟨gb, 0, none⟩ (.int .i64 V0)).setCell ⟨gb, 1, none⟩ (.int .i64 V1)).setCell ⟨gb, 2, none⟩ (.int .i64 V2)).setCell ⟨gb, 3, none⟩ (.int .i64 0)).cell? ⟨(adA.add (q.toNat * 6)).block, (adA.add (q.toNat * 6)).off + 2, none⟩ = some (.int .i64 f2) ∧ ((((w5.setCell ⟨gb, 0, none⟩ (.int .i64 V0)).setCell ⟨gb, 1, none⟩ (.int .i64 V1)).setCell ⟨gb, 2, none⟩ (.int .i64 V2)).setCell ⟨gb, 3, none⟩ (.int .i64 0)).cell? ⟨(adA.add (q.toNat * 6)).block, (adA.add (q.toNat * 6)).off + 3, none⟩ = some (.int .i64 f3) ∧ ((((w5.setCell ⟨gb, 0, none⟩ (.int .i64 V0)).setCell ⟨gb, 1, none⟩ (.int .i64 V1)).setCell ⟨gb, 2, none⟩ (.int .i64 V2)).setCell ⟨gb, 3, none⟩ (.int .i64 0)).cell? ⟨(adA.add (q.toNat * 6)).block, (adA.add (q.toNat * 6)).off + 4, none⟩ = some (.int .i64 f4) ∧ ((((w5.setCell ⟨gb, 0, none⟩ (.int .i64 V0)).setCell ⟨gb, 1, none⟩ (.int .i64 V1)).setCell ⟨gb, 2, none⟩ (.int .i64 V2)).setCell ⟨gb, 3, none⟩ (.int .i64 0)).cell? ⟨(adA.add (q.toNat * 6)).block, (adA.add (q.toNat * 6)).off + 5, none⟩ = some (.string f5) := ⟨hcell _ _ hHeld.1 (by show W.heap.size < gb; omega), hcell _ _ hHeld.2.1 (by show W.heap.size < gb; omega), hcell _ _ hHeld.2.2.1 hbB, hcell _ _ hHeld.2.2.2.1 hbB, hcell _ _ hHeld.2.2.2.2.1 hbB, hcell _ _ hHeld.2.2.2.2.2.1 hbB, hcell _ _ hHeld.2.2.2.2.2.2.1 hbA, hcell _ _ hHeld.2.2.2.2.2.2.2.1 hbA, hcell _ _ hHeld.2.2.2.2.2.2.2.2.1 hbA, hcell _ _ hHeld.2.2.2.2.2.2.2.2.2.1 hbA, hcell _ _ hHeld.2.2.2.2.2.2.2.2.2.2.1 hbA, hcell _ _ hHeld.2.2.2.2.2.2.2.2.2.2.2 hbA⟩
    clear hcell hg6 hk6 hz0 hz1 hz2 hz3 hzf0 hzf1 hzf2 hzf3
    generalize ((((w5.setCell ⟨gb, 0, none⟩ (.int .i64 V0)).setCell ⟨gb, 1, none⟩ (.int .i64 V1)).setCell ⟨gb, 2, none⟩ (.int .i64 V2)).setCell ⟨gb, 3, none⟩ (.int .i64 0)) = w6 at *
    refine hK.out _ _ K6 (fun hHeld2 => ?_)
    clear hK K hHeld
    have hHeld := hHeld2
    clear hHeld2
    (try simp only [Act.put, List.setIfInBounds_toArray, List.set_cons_zero, List.set_cons_succ])
    refine wpAnyH_ready (rs := [18]) (by kernel_rfl) (by simp) ?_
    refine AllReadyH.cons (o := { dst := some 9, op := Op.assign (Operand.tmp 36), type := 36, pos := "run.go:127", after := #[{ on := 15, ground := Ground.data }, { on := 17, ground := Ground.chain }, { on := 0, ground := Ground.phase }, { on := 1, ground := Ground.phase }, { on := 2, ground := Ground.phase }, { on := 3, ground := Ground.phase }, { on := 4, ground := Ground.phase }, { on := 5, ground := Ground.phase }, { on := 6, ground := Ground.phase }, { on := 7, ground := Ground.phase }, { on := 8, ground := Ground.phase }, { on := 9, ground := Ground.phase }, { on := 10, ground := Ground.phase }, { on := 11, ground := Ground.phase }, { on := 12, ground := Ground.phase }, { on := 13, ground := Ground.phase }, { on := 14, ground := Ground.phase }, { on := 15, ground := Ground.phase }, { on := 16, ground := Ground.phase }, { on := 17, ground := Ground.phase }], guard := none }) rfl (fun K hK => ?_) AllReadyH.nil
    go_simp
    refine hK.out _ _ hHeld (fun hHeld2 => ?_)
    clear hK K hHeld
    have hHeld := hHeld2
    clear hHeld2
    (try simp only [Act.put, List.setIfInBounds_toArray, List.set_cons_zero, List.set_cons_succ])
    refine wpAnyH_done (by kernel_rfl) ?_ _
    clear hHeld K6
    have hx0 : w6.cell? ⟨W.heap.size, 0, none⟩ = some (.int .i64 i0) := (blk_cell HK6.out 0).trans rfl
    have hx1 : w6.cell? ⟨W.heap.size, 1, none⟩ = some (.int .i64 i1) := (blk_cell HK6.out 1).trans rfl
    have hx2 : w6.cell? ⟨W.heap.size, 2, none⟩ = some (.int .i64 i2) := (blk_cell HK6.out 2).trans rfl
    have hx3 : w6.cell? ⟨W.heap.size, 3, none⟩ = some (.string t) := (blk_cell HK6.out 3).trans rfl
    have hx4 : w6.cell? ⟨W.heap.size, 4, none⟩ = some (.slice (some adA) ns.length c) := (blk_cell HK6.out 4).trans rfl
    have hx5 : w6.cell? ⟨W.heap.size, 5, none⟩ = some (.slice (some adB) ns.length cb) := (blk_cell HK6.out 5).trans rfl
    have hF6 := Kd.F_below (Kd.F_bound HRA.out) HB6.out
    have hcl := clone14_calls i0 i1 i2 t (some adA) c ns (some adB) cb (stL ns P T) _ w6 hF6 (by rw [stL_len]; exact Kd.F_now (Kd.F_below HRB.out HB6.out)) hl (by rw [stL_len]; exact hl) HF.out.d12
    rw [stL_len] at hcl
    have HCL := Aside0.mk hcl
    clear hcl hF6
    go_upto_region 7 with (first | (go_at_call 14; go_loud (refine HCL.out.mono ?_; rintro e w7 ⟨A', c', B', cb', rfl, hN, hR, hb⟩; have HN7 := Aside0.mk hN; have HR7 := Aside0.mk hR; have HB7 := Aside0.mk hb; clear hN hR hb)))
    clear hx0 hx1 hx2 hx3 hx4 hx5
    obtain ⟨g, cap, he, hg1, hg2, gcs, hgc⟩ := Kd.R_form HR7.out (by rw [stL_len]; omega)
    rw [stL_len] at he
    injection he with ha hl_ hcc
    clear hl_
    subst ha; subst hcc
    have hb8 := below_alloc (Below.refl w7.heap.size w7) (.cells #[.int .i64 i0, .int .i64 i1, .int .i64 i2, .string t, .slice A' ns.length c', .slice (some ⟨g, 0, none⟩) ns.length cb'] 33)
    have HT8 := Aside0.mk (blk_new w7 (.cells #[.int .i64 i0, .int .i64 i1, .int .i64 i2, .string t, .slice A' ns.length c', .slice (some ⟨g, 0, none⟩) ns.length cb'] 33))
    have HN8 := Aside0.mk (Kd.N_below HN7.out hb8)
    have HR8 := Aside0.mk (Kd.R_lower (Kd.R_below HR7.out hb8) (base' := W.heap.size) (by omega))
    have HX8 := Aside0.mk (blk_below (blk_below HX6.out HB7.out) hb8)
    have HZ8 := Aside0.mk (blk_below (blk_below HZ6.out HB7.out) hb8)
    have HB8 := Aside0.mk (below_step (below_step HB6.out HB7.out) hb8)
    have HGC := Aside0.mk (blk_below hgc hb8)
    have hs8 := HB7.out.size
    clear hb8 HN7 HR7 HX6 HZ6 HK6 hgc
    generalize w7.alloc (.cells #[.int .i64 i0, .int .i64 i1, .int .i64 i2, .string t, .slice A' ns.length c', .slice (some ⟨g, 0, none⟩) ns.length cb'] 33) = w8 at *
    have hy0 : w8.cell? ⟨gb, 0, none⟩ = some (.int .i64 V0) := (blk_cell HX8.out 0).trans rfl
    have hy1 : w8.cell? ⟨gb, 1, none⟩ = some (.int .i64 V1) := (blk_cell HX8.out 1).trans rfl
    have hy2 : w8.cell? ⟨gb, 2, none⟩ = some (.int .i64 V2) := (blk_cell HX8.out 2).trans rfl
    have hy3 : w8.cell? ⟨gb, 3, none⟩ = some (.int .i64 0) := (blk_cell HX8.out 3).trans rfl
    have hv5 : w8.cell? ⟨w7.heap.size, 5, none⟩ = some (.slice (some ⟨g, 0, none⟩) ns.length cb') := (blk_cell HT8.out 5).trans rfl
    obtain ⟨cs, hcl, hM, hcc, hfr⟩ := Kd.R_elem HR8.out z53 q hq0 hq1
    have HCS := Aside0.mk (And.intro hcl hcc)
    clear hcl hM hcc hfr
    go_wp2_with (first | ((with_reducible refine gate_store (t := 53) (p := 47) rfl ?_); go_loud (refine Kd.R_store k53 (w0 := W) W.heap.size rfl rfl 53 (.tmp 47) (.tmp 46) rfl 53 q 0 (stL ns P T) ⟨V0, V1, V2, 0⟩ (.agg #[.int .i64 V0, .int .i64 V1, .int .i64 V2, .int .i64 0]) [.int .i64 V0, .int .i64 V1, .int .i64 V2, .int .i64 0] cs (fun _ => True) (fun _ => False) rfl rfl rfl rfl (by kernel_rfl) (by intro u hu; simp at hu; rcases hu with rfl | rfl | rfl | rfl <;> rfl) HR8.out hq0 hq1 HCS.out.1 HCS.out.2 (by show 0 + 4 ≤ 4; omega) ?pM (fun _ h => h.elim) HB8.out ?_; (case pM => (have hd4 : List.drop (0 + 4) cs = [] := List.drop_eq_nil_of_le (by rw [HCS.out.1]; exact Nat.le_refl _); simp only [List.take_zero, List.nil_append, List.length_cons, List.length_nil, hd4, List.append_nil]; exact k53_mkM _ _ _ _)); intro w9 hr9 hb9 hg9; have HG9 := Aside0.mk hg9; have HR9 := Aside0.mk hr9; have HB9 := Aside0.mk hb9; have HT9 := Aside0.mk (blk_grown HT8.out hg9 (fun e => blk_ne HT8.out HGC.out (by decide) (by injection e))); have HZ9 := Aside0.mk (blk_grown HZ8.out hg9 (fun e => blk_ne HZ8.out HGC.out (by decide) (by injection e))); clear hr9 hb9 hg9; have hw0 : w9.cell? ⟨w7.heap.size, 0, none⟩ = some (.int .i64 i0) := (blk_cell HT9.out 0).trans rfl; have hw1 : w9.cell? ⟨w7.heap.size, 1, none⟩ = some (.int .i64 i1) := (blk_cell HT9.out 1).trans rfl; have hw2 : w9.cell? ⟨w7.heap.size, 2, none⟩ = some (.int .i64 i2) := (blk_cell HT9.out 2).trans rfl; have hw3 : w9.cell? ⟨w7.heap.size, 3, none⟩ = some (.string t) := (blk_cell HT9.out 3).trans rfl; have hw4 : w9.cell? ⟨w7.heap.size, 4, none⟩ = some (.slice A' ns.length c') := (blk_cell HT9.out 4).trans rfl; have hw5 : w9.cell? ⟨w7.heap.size, 5, none⟩ = some (.slice (some ⟨g, 0, none⟩) ns.length cb') := (blk_cell HT9.out 5).trans rfl; have hzz0 : w9.cell? ⟨W.heap.size + 1, 0, none⟩ = some (.int .i64 0) := (blk_cell HZ9.out 0).trans rfl; have hzzf0 := blk_frozen HZ9.out 0; have hzz1 : w9.cell? ⟨W.heap.size + 1, 1, none⟩ = some (.int .i64 0) := (blk_cell HZ9.out 1).trans rfl; have hzzf1 := blk_frozen HZ9.out 1; have hzz2 : w9.cell? ⟨W.heap.size + 1, 2, none⟩ = some (.int .i64 0) := (blk_cell HZ9.out 2).trans rfl; have hzzf2 := blk_frozen HZ9.out 2; have hzz3 : w9.cell? ⟨W.heap.size + 1, 3, none⟩ = some (.string (⟨#[]⟩ : ByteArray)) := (blk_cell HZ9.out 3).trans rfl; have hzzf3 := blk_frozen HZ9.out 3; have hzz4 : w9.cell? ⟨W.heap.size + 1, 4, none⟩ = some (.slice none 0 0) := (blk_cell HZ9.out 4).trans rfl; have hzzf4 := blk_frozen HZ9.out 4; have hzz5 : w9.cell? ⟨W.heap.size + 1, 5, none⟩ = some (.slice none 0 0) := (blk_cell HZ9.out 5).trans rfl; have hzzf5 := blk_frozen HZ9.out 5;  skip)))
    have hg10 := setCells_grown w9 (W.heap.size + 1) [.int .i64 i0, .int .i64 i1, .int .i64 i2, .string t, .slice A' ns.length c', .slice (some ⟨g, 0, none⟩) ns.length cb']
    have hk10 := setCells_full HZ9.out [.int .i64 i0, .int .i64 i1, .int .i64 i2, .string t, .slice A' ns.length c', .slice (some ⟨g, 0, none⟩) ns.length cb'] rfl
    simp only [World.setCells, Nat.zero_add, Nat.reduceAdd] at hg10 hk10
    refine bodyPost_ret (results_ct rfl _ _ (W.heap.size + 1) 33 #[.int .i64 i0, .int .i64 i1, .int .i64 i2, .string t, .slice A' ns.length c', .slice (some ⟨g, 0, none⟩) ns.length cb'] (0, 0) _ rfl hk10 Try.underlying33 rfl (by kernel_rfl)) rfl ?_
    have hr10 := Kd.R_mono (Kd.R_grown (Kd.R_types HR9.out HZ9.out hE53_33) hg10 (fun j hj e => hj.2 (by injection e))) (ok' := fun _ => True) (fun _ _ => trivial)
    rw [HQK.out, HSET.out] at hr10
    have hF8 := Kd.F_bound (Kd.N_F HN8.out)
    have hF9 := Kd.F_grown (Kd.N_F HN8.out) HG9.out (fun j hj e => hj.2 e)
    refine ⟨A', c', g, cb', rfl, ?_, (Kd.N_reads' HN8.out).2.1, hr10, HB9.out.grown hg10 HB9.out.size (fun j e => by injection e with e; omega)⟩
    refine Kd.F_mono (Kd.F_grown hF9 hg10 (fun j hj e => ?_)) (fun j hj => ⟨?_, fun e => hj.2 (by rw [e]; rfl)⟩)
    · injection e with e; rcases hj.1 with h | h
      · have := h.2; omega
      · omega
    · rcases hj.1 with h | h
      · exact .inl h.1
      · exact .inr (by omega)
end Go.Proofs.Ytiipbibbppgbgaa.T
namespace Go.Proofs.Ytiipbibbppgbgaa.T
open Go.RowKit Go.Proofs.Ytiipbibbppgbgaa.PTopFates Go.Proofs.YtiipbibbppgbgaaW.PrintWords Go.Proofs.YtiipbibbppgbgaaW.PrintLast Go.Proofs.YtiipbibbppgbgaaW.PrintMore
set_option linter.unusedVariables false
set_option linter.unusedSimpArgs false

set_option maxHeartbeats 8000000 in
set_option maxRecDepth 100000 in
theorem step24_calls (i0 i1 i2 : Int) (t : ByteArray) (A : Option Addr) (c : Nat) (B : Option Addr) (cb : Nat) (ns : List S43) (D : Nat → List Nat) (P T : Nat → Int) (okF okS : Nat → Prop) (k : Nat) (q : Int) (nb tb ob : Nat) (ok : Bool) (p2 : Int) (W : World) (hr : IsRun W okF okS ns P T A c B cb) (hf : FlowOk ns D) (hq : q = (k : Int)) (hk : k < ns.length) (hnb : W.heap[nb]? = some (.cells #[.int .i64 0] 2 (0, 0))) (htb : W.heap[tb]? = some (.cells #[.int .i64 (T k)] 3 (0, 0))) (hob : W.heap[ob]? = some (.cells #[.bool ok] 4 (0, 0))) (hP : P k = 2) (hp2 : p2 = if ok then 4 else if T k < (ns.getD k z43).f2 then 1 else 5) :
    Calls Try.prog 21 #[.agg #[.int .i64 i0, .int .i64 i1, .int .i64 i2, .string t, .slice A ns.length c, .slice B ns.length cb], .int .i64 q, .func (.func 24) #[] #[.pointer (some ⟨nb, 0, none⟩), .pointer (some ⟨tb, 0, none⟩), .pointer (some ⟨ob, 0, none⟩)]] W fun e W' => ∃ A' c' g cb', e = .returned (.tuple #[.agg #[.int .i64 i0, .int .i64 i1, .int .i64 i2, .string t, .slice A' ns.length c', .slice (some ⟨g, 0, none⟩) ns.length cb'], .int .i64 0]) ∧
      Kd.F k43 W' (fun j => (okF j ∨ W.heap.size ≤ j) ∧ j ≠ g) A' ns.length ns ∧ ns.length ≤ c' ∧ Kd.R k53 53 W' W.heap.size (fun _ => True) (.slice (some ⟨g, 0, none⟩) ns.length cb') (stL ns (upd P k p2) (upd T k (T k))) ∧ Below W.heap.size W W' := by
  have hu33 := Try.underlying33
  have hu27 := Try.underlying27
  have hu53 := Try.underlying53
  have hu43 := Try.underlying43
  have hl := hf.len
  have h1 := hf.one
  obtain ⟨hrA, hrc, hrB, hrcb⟩ := hr
  have hq0 : 0 ≤ q := by omega
  have hq1 : q < (ns.length : Int) := by omega
  have hqk : q.toNat = k := by rw [hq]; rfl
  obtain ⟨adA, A1, c1, eA, ha0, ha1, ha2, ha3, ha4, ha5, hl1, hC1⟩ := at_T43 (Kd.F_now hrA) q hq0 hq1
  obtain ⟨adB, eB, hb0, hb1, hb2, hb3⟩ := at_T53 (Kd.F_now hrB) q hq0 hq1
  subst eA; subst eB
  have hst : rd_T53 (stL ns P T) q = mkS (P k) (T k) (ns.getD k z43).f3 := by unfold rd_T53; rw [hqk]; exact stL_get ns P T k hk
  have hnd : rd_T43 ns q = ns.getD k z43 := by unfold rd_T43; rw [hqk]
  rw [hst, hP] at hb0 hb1 hb2 hb3
  rw [hnd] at ha0 ha1 ha2 ha3 ha4 ha5 hl1 hC1
  obtain ⟨gd1, gd2, gd3, hx2, hx3, gd6⟩ := hf.good k hk
  have hset := stL_set2 ns P T k p2 (T k) hk
  have HNB := Aside0.mk hnb
  have HTB := Aside0.mk htb
  have HOB := Aside0.mk hob
  have hcon : ∀ w, Below W.heap.size W w → Calls Try.prog 24 #[encS (mkS 2 (T k) (ns.getD k z43).f3), .agg #[.string (ns.getD k z43).f0, .slice A1 (ns.getD k z43).f1.length c1, .int .i64 (ns.getD k z43).f2, .int .i64 (ns.getD k z43).f3, .int .i64 (ns.getD k z43).f4, .string (ns.getD k z43).f5], .pointer (some ⟨nb, 0, none⟩), .pointer (some ⟨tb, 0, none⟩), .pointer (some ⟨ob, 0, none⟩)] w fun e w' => e = .returned (.tuple #[encS (mkS p2 (T k) (ns.getD k z43).f3), .int .i64 0]) ∧ Below w.heap.size w w' := by
    intro w hw
    generalize ns.getD k z43 = X at *
    rw [hp2]
    exact finish1_calls (T k) X.f3 X A1 c1 nb tb ob ok X.f2 w (blk_below HNB.out hw) (blk_below HTB.out hw) (blk_below HOB.out hw) rfl hx2 hx3
  obtain ⟨SN, hSN⟩ : ∃ SN, SN = mkS p2 (T k) (ns.getD k z43).f3 := ⟨_, rfl⟩
  obtain ⟨SO, hSO⟩ : ∃ SO, SO = mkS 2 (T k) (ns.getD k z43).f3 := ⟨_, rfl⟩
  rw [← hSO] at hb0 hb1 hb2 hb3 hcon
  rw [← hSN] at hcon hset
  have hon3 : SN.f3 = 0 := by rw [hSN]; rfl
  have hoo3 : SO.f3 = 0 := by rw [hSO]; rfl
  generalize ns.getD k z43 = X at *
  obtain ⟨f0, f1, f2, f3, f4, f5⟩ := X
  obtain ⟨V0, V1, V2, V3⟩ := SN
  obtain ⟨Q0, Q1, Q2, Q3⟩ := SO
  simp only at hon3 hoo3
  subst hon3; subst hoo3
  have HCON : Aside0 (∀ w, Below W.heap.size W w → Calls Try.prog 24 #[.agg #[.int .i64 Q0, .int .i64 Q1, .int .i64 Q2, .int .i64 0], .agg #[.string f0, .slice A1 f1.length c1, .int .i64 f2, .int .i64 f3, .int .i64 f4, .string f5], .pointer (some ⟨nb, 0, none⟩), .pointer (some ⟨tb, 0, none⟩), .pointer (some ⟨ob, 0, none⟩)] w fun e w' => e = .returned (.tuple #[.agg #[.int .i64 V0, .int .i64 V1, .int .i64 V2, .int .i64 0], .int .i64 0]) ∧ Below w.heap.size w w') := Aside0.mk hcon
  have HSET := Aside0.mk hset
  have HRA := Aside0.mk hrA
  have HRB := Aside0.mk hrB
  have HF := Aside0.mk hf
  have HQK := Aside0.mk hqk
  have HQ := Aside0.mk hq
  obtain ⟨hb, hk1, hk2⟩ := allocs2 W (.cells #[.int .i64 i0, .int .i64 i1, .int .i64 i2, .string t, .slice (some adA) ns.length c, .slice (some adB) ns.length cb] 33) (.cells runZ 33)
  have K1 : ((W.alloc (.cells #[.int .i64 i0, .int .i64 i1, .int .i64 i2, .string t, .slice (some adA) ns.length c, .slice (some adB) ns.length cb] 33)).alloc (.cells runZ 33)).cell? ⟨W.heap.size, 4, none⟩ = some (.slice (some adA) ns.length c) ∧ ((W.alloc (.cells #[.int .i64 i0, .int .i64 i1, .int .i64 i2, .string t, .slice (some adA) ns.length c, .slice (some adB) ns.length cb] 33)).alloc (.cells runZ 33)).cell? ⟨W.heap.size, 5, none⟩ = some (.slice (some adB) ns.length cb) ∧ ((W.alloc (.cells #[.int .i64 i0, .int .i64 i1, .int .i64 i2, .string t, .slice (some adA) ns.length c, .slice (some adB) ns.length cb] 33)).alloc (.cells runZ 33)).cell? (adB.add (q.toNat * 4)) = some (.int .i64 Q0) ∧ ((W.alloc (.cells #[.int .i64 i0, .int .i64 i1, .int .i64 i2, .string t, .slice (some adA) ns.length c, .slice (some adB) ns.length cb] 33)).alloc (.cells runZ 33)).cell? ⟨(adB.add (q.toNat * 4)).block, (adB.add (q.toNat * 4)).off + 1, none⟩ = some (.int .i64 Q1) ∧ ((W.alloc (.cells #[.int .i64 i0, .int .i64 i1, .int .i64 i2, .string t, .slice (some adA) ns.length c, .slice (some adB) ns.length cb] 33)).alloc (.cells runZ 33)).cell? ⟨(adB.add (q.toNat * 4)).block, (adB.add (q.toNat * 4)).off + 2, none⟩ = some (.int .i64 Q2) ∧ ((W.alloc (.cells #[.int .i64 i0, .int .i64 i1, .int .i64 i2, .string t, .slice (some adA) ns.length c, .slice (some adB) ns.length cb] 33)).alloc (.cells runZ 33)).cell? ⟨(adB.add (q.toNat * 4)).block, (adB.add (q.toNat * 4)).off + 3, none⟩ = some (.int .i64 0) ∧ ((W.alloc (.cells #[.int .i64 i0, .int .i64 i1, .int .i64 i2, .string t, .slice (some adA) ns.length c, .slice (some adB) ns.length cb] 33)).alloc (.cells runZ 33)).cell? (adA.add (q.toNat * 6)) = some (.string f0) ∧ ((W.alloc (.cells #[.int .i64 i0, .int .i64 i1, .int .i64 i2, .string t, .slice (some adA) ns.length c, .slice (some adB) ns.length cb] 33)).alloc (.cells runZ 33)).cell? ⟨(adA.add (q.toNat * 6)).block, (adA.add (q.toNat * 6)).off + 1, none⟩ = some (.slice A1 f1.length c1) ∧ ((W.alloc (.cells #[.int .i64 i0, .int .i64 i1, .int .i64 i2, .string t, .slice (some adA) ns.length c, .slice (some adB) ns.length cb] 33)).alloc (.cells runZ 33)).cell? ⟨(adA.add (q.toNat * 6)).block, (adA.add (q.toNat * 6)).off + 2, none⟩ = some (.int .i64 f2) ∧ ((W.alloc (.cells #[.int .i64 i0, .int .i64 i1, .int .i64 i2, .string t, .slice (some adA) ns.length c, .slice (some adB) ns.length cb] 33)).alloc (.cells runZ 33)).cell? ⟨(adA.add (q.toNat * 6)).block, (adA.add (q.toNat * 6)).off + 3, none⟩ = some (.int .i64 f3) ∧ ((W.alloc (.cells #[.int .i64 i0, .int .i64 i1, .int .i64 i2, .string t, .slice (some adA) ns.length c, .slice (some adB) ns.length cb] 33)).alloc (.cells runZ 33)).cell? ⟨(adA.add (q.toNat * 6)).block, (adA.add (q.toNat * 6)).off + 4, none⟩ = some (.int .i64 f4) ∧ ((W.alloc (.cells #[.int .i64 i0, .int .i64 i1, .int .i64 i2, .string t, .slice (some adA) ns.length c, .slice (some adB) ns.length cb] 33)).alloc (.cells runZ 33)).cell? ⟨(adA.add (q.toNat * 6)).block, (adA.add (q.toNat * 6)).off + 5, none⟩ = some (.string f5) := ⟨(blk_cell hk1 4).trans rfl, (blk_cell hk1 5).trans rfl, pw_cell_below hb hb0, pw_cell_below hb hb1, pw_cell_below hb hb2, pw_cell_below hb hb3, pw_cell_below hb ha0, pw_cell_below hb ha1, pw_cell_below hb ha2, pw_cell_below hb ha3, pw_cell_below hb ha4, pw_cell_below hb ha5⟩
  have HK1 := Aside0.mk K1
  have HB := Aside0.mk hb
  have HK := Aside0.mk hk1
  have HZ := Aside0.mk hk2
  have hc1 : decide (q < 0) = false := decide_eq_false (by omega)
  have hc2 : decide (q ≥ (ns.length : Int)) = false := decide_eq_false (by omega)
  have hc3 : decide ((ns.length : Int) ≤ q) = false := decide_eq_false (by omega)
  have hs : ((W.alloc (.cells #[.int .i64 i0, .int .i64 i1, .int .i64 i2, .string t, .slice (some adA) ns.length c, .slice (some adB) ns.length cb] 33)).alloc (.cells runZ 33)).heap.size = W.heap.size + 2 := by simp
  have hw5 : ((W.alloc (.cells #[.int .i64 i0, .int .i64 i1, .int .i64 i2, .string t, .slice (some adA) ns.length c, .slice (some adB) ns.length cb] 33)).alloc (.cells runZ 33)).cell? ⟨W.heap.size, 5, none⟩ = some (.slice (some adB) ns.length cb) := (blk_cell hk1 5).trans rfl
  clear hrA hrB ha0 ha1 ha2 ha3 ha4 ha5 hb0 hb1 hb2 hb3 hst hnd hcon hset hP hl1 hC1 hf hqk hq hSN hSO gd1 gd2 gd3 gd6 hx2 hx3 hb hk1 hk2 K1 hnb htb hob hp2
  go_enter Try.func21, Try.ntmps21
  go_upto_region 3 with (fail)
  generalize (W.alloc (.cells #[.int .i64 i0, .int .i64 i1, .int .i64 i2, .string t, .slice (some adA) ns.length c, .slice (some adB) ns.length cb] 33)).alloc (.cells runZ 33) = w1 at *
  clear hw5
  have hdr : Below w1.heap.size w1 w1.drew := below_drew1 (Below.refl _ _)
  have K0 : w1.drew.cell? ⟨W.heap.size, 4, none⟩ = some (.slice (some adA) ns.length c) ∧ w1.drew.cell? ⟨W.heap.size, 5, none⟩ = some (.slice (some adB) ns.length cb) ∧ w1.drew.cell? (adB.add (q.toNat * 4)) = some (.int .i64 Q0) ∧ w1.drew.cell? ⟨(adB.add (q.toNat * 4)).block, (adB.add (q.toNat * 4)).off + 1, none⟩ = some (.int .i64 Q1) ∧ w1.drew.cell? ⟨(adB.add (q.toNat * 4)).block, (adB.add (q.toNat * 4)).off + 2, none⟩ = some (.int .i64 Q2) ∧ w1.drew.cell? ⟨(adB.add (q.toNat * 4)).block, (adB.add (q.toNat * 4)).off + 3, none⟩ = some (.int .i64 0) ∧ w1.drew.cell? (adA.add (q.toNat * 6)) = some (.string f0) ∧ w1.drew.cell? ⟨(adA.add (q.toNat * 6)).block, (adA.add (q.toNat * 6)).off + 1, none⟩ = some (.slice A1 f1.length c1) ∧ w1.drew.cell? ⟨(adA.add (q.toNat * 6)).block, (adA.add (q.toNat * 6)).off + 2, none⟩ = some (.int .i64 f2) ∧ w1.drew.cell? ⟨(adA.add (q.toNat * 6)).block, (adA.add (q.toNat * 6)).off + 3, none⟩ = some (.int .i64 f3) ∧ w1.drew.cell? ⟨(adA.add (q.toNat * 6)).block, (adA.add (q.toNat * 6)).off + 4, none⟩ = some (.int .i64 f4) ∧ w1.drew.cell? ⟨(adA.add (q.toNat * 6)).block, (adA.add (q.toNat * 6)).off + 5, none⟩ = some (.string f5) := HK1.out
  refine wp_region_held_drew (S := fun w => w.cell? ⟨W.heap.size, 4, none⟩ = some (.slice (some adA) ns.length c) ∧ w.cell? ⟨W.heap.size, 5, none⟩ = some (.slice (some adB) ns.length cb) ∧ w.cell? (adB.add (q.toNat * 4)) = some (.int .i64 Q0) ∧ w.cell? ⟨(adB.add (q.toNat * 4)).block, (adB.add (q.toNat * 4)).off + 1, none⟩ = some (.int .i64 Q1) ∧ w.cell? ⟨(adB.add (q.toNat * 4)).block, (adB.add (q.toNat * 4)).off + 2, none⟩ = some (.int .i64 Q2) ∧ w.cell? ⟨(adB.add (q.toNat * 4)).block, (adB.add (q.toNat * 4)).off + 3, none⟩ = some (.int .i64 0) ∧ w.cell? (adA.add (q.toNat * 6)) = some (.string f0) ∧ w.cell? ⟨(adA.add (q.toNat * 6)).block, (adA.add (q.toNat * 6)).off + 1, none⟩ = some (.slice A1 f1.length c1) ∧ w.cell? ⟨(adA.add (q.toNat * 6)).block, (adA.add (q.toNat * 6)).off + 2, none⟩ = some (.int .i64 f2) ∧ w.cell? ⟨(adA.add (q.toNat * 6)).block, (adA.add (q.toNat * 6)).off + 3, none⟩ = some (.int .i64 f3) ∧ w.cell? ⟨(adA.add (q.toNat * 6)).block, (adA.add (q.toNat * 6)).off + 4, none⟩ = some (.int .i64 f4) ∧ w.cell? ⟨(adA.add (q.toNat * 6)).block, (adA.add (q.toNat * 6)).off + 5, none⟩ = some (.string f5)) (by kernel_rfl) K0 (fun hHeld => ?_)
  have HKd := Aside0.mk (blk_below HK.out hdr)
  have HZd := Aside0.mk (blk_below HZ.out hdr)
  have HBd := Aside0.mk (below_step HB.out hdr)
  have hsd : w1.drew.heap.size = W.heap.size + 2 := hs
  clear hdr K0 HK1 HK HZ HB
  generalize w1.drew = wd at *
  refine wpAnyH_take (i := 0) (oi := { dst := some 22, op := Op.move (Operand.tmp 2), type := 67, pos := "run.go:127", after := #[], guard := none }) (v := ?v0) rfl (by kernel_rfl) (by kernel_rfl) (by kernel_rfl) (fun _ _ _ h => h) (Or.inl ⟨by rfl, ?y0⟩) (by assumption) ?_
  case y0 => (intro w hSw; (try dsimp only at hSw); go_simp; try with_reducible rfl)
  (try simp only [Act.put, List.setIfInBounds_toArray, List.set_cons_zero, List.set_cons_succ])
  refine wpAnyH_take (i := 1) (oi := { dst := some 23, op := Op.fieldAddr 33 (Operand.tmp 3) 3, type := 0, pos := "run.go:127", after := #[], guard := none }) (v := ?v1) rfl (by kernel_rfl) (by kernel_rfl) (by kernel_rfl) (fun _ _ _ h => h) (Or.inl ⟨by rfl, ?y1⟩) (by assumption) ?_
  case y1 => (intro w hSw; (try dsimp only at hSw); go_simp; try with_reducible rfl)
  (try simp only [Act.put, List.setIfInBounds_toArray, List.set_cons_zero, List.set_cons_succ])
  refine wpAnyH_take (i := 2) (oi := { dst := some 24, op := Op.load 31 (Operand.tmp 23), type := 31, pos := "run.go:127", after := #[{ on := 1, ground := Ground.data }], guard := none }) (v := ?v2) rfl (by kernel_rfl) (by kernel_rfl) (by kernel_rfl) (fun _ _ _ h => h) (Or.inl ⟨by rfl, ?y2⟩) (by assumption) ?_
  case y2 => (intro w hSw; (try dsimp only at hSw); go_simp; try with_reducible rfl)
  (try simp only [Act.put, List.setIfInBounds_toArray, List.set_cons_zero, List.set_cons_succ])
  refine wpAnyH_take (i := 3) (oi := { dst := some 25, op := Op.move (Operand.tmp 1), type := 3, pos := "run.go:127", after := #[], guard := none }) (v := ?v3) rfl (by kernel_rfl) (by kernel_rfl) (by kernel_rfl) (fun _ _ _ h => h) (Or.inl ⟨by rfl, ?y3⟩) (by assumption) ?_
  case y3 => (intro w hSw; (try dsimp only at hSw); go_simp; try with_reducible rfl)
  (try simp only [Act.put, List.setIfInBounds_toArray, List.set_cons_zero, List.set_cons_succ])
  refine wpAnyH_take (i := 4) (oi := { dst := some 26, op := Op.indexAddr 31 (Operand.tmp 24) (Operand.tmp 25), type := 0, pos := "run.go:127", after := #[{ on := 2, ground := Ground.data }, { on := 3, ground := Ground.data }], guard := none }) (v := ?v4) rfl (by kernel_rfl) (by kernel_rfl) (by kernel_rfl) (fun _ _ _ h => h) (Or.inl ⟨by rfl, ?y4⟩) (by assumption) ?_
  case y4 => (intro w hSw; (try dsimp only at hSw); go_simp; try with_reducible rfl)
  (try simp only [Act.put, List.setIfInBounds_toArray, List.set_cons_zero, List.set_cons_succ])
  refine wpAnyH_take (i := 5) (oi := { dst := some 27, op := Op.load 53 (Operand.tmp 26), type := 53, pos := "run.go:127", after := #[{ on := 4, ground := Ground.data }], guard := none }) (v := ?v5) rfl (by kernel_rfl) (by kernel_rfl) (by kernel_rfl) (fun _ _ _ h => h) (Or.inl ⟨by rfl, ?y5⟩) (by assumption) ?_
  case y5 => (intro w hSw; (try dsimp only at hSw); go_simp; try with_reducible rfl)
  (try simp only [Act.put, List.setIfInBounds_toArray, List.set_cons_zero, List.set_cons_succ])
  refine wpAnyH_take (i := 6) (oi := { dst := some 28, op := Op.fieldAddr 33 (Operand.tmp 3) 2, type := 0, pos := "run.go:127", after := #[], guard := none }) (v := ?v6) rfl (by kernel_rfl) (by kernel_rfl) (by kernel_rfl) (fun _ _ _ h => h) (Or.inl ⟨by rfl, ?y6⟩) (by assumption) ?_
  case y6 => (intro w hSw; (try dsimp only at hSw); go_simp; try with_reducible rfl)
  (try simp only [Act.put, List.setIfInBounds_toArray, List.set_cons_zero, List.set_cons_succ])
  refine wpAnyH_take (i := 7) (oi := { dst := some 29, op := Op.fieldAddr 27 (Operand.tmp 28) 1, type := 0, pos := "run.go:127", after := #[{ on := 6, ground := Ground.data }], guard := none }) (v := ?v7) rfl (by kernel_rfl) (by kernel_rfl) (by kernel_rfl) (fun _ _ _ h => h) (Or.inl ⟨by rfl, ?y7⟩) (by assumption) ?_
  case y7 => (intro w hSw; (try dsimp only at hSw); go_simp; try with_reducible rfl)
  (try simp only [Act.put, List.setIfInBounds_toArray, List.set_cons_zero, List.set_cons_succ])
  refine wpAnyH_take (i := 8) (oi := { dst := some 30, op := Op.load 25 (Operand.tmp 29), type := 25, pos := "run.go:127", after := #[{ on := 7, ground := Ground.data }], guard := none }) (v := ?v8) rfl (by kernel_rfl) (by kernel_rfl) (by kernel_rfl) (fun _ _ _ h => h) (Or.inl ⟨by rfl, ?y8⟩) (by assumption) ?_
  case y8 => (intro w hSw; (try dsimp only at hSw); go_simp; try with_reducible rfl)
  (try simp only [Act.put, List.setIfInBounds_toArray, List.set_cons_zero, List.set_cons_succ])
  refine wpAnyH_take (i := 9) (oi := { dst := some 31, op := Op.move (Operand.tmp 1), type := 3, pos := "run.go:127", after := #[], guard := none }) (v := ?v9) rfl (by kernel_rfl) (by kernel_rfl) (by kernel_rfl) (fun _ _ _ h => h) (Or.inl ⟨by rfl, ?y9⟩) (by assumption) ?_
  case y9 => (intro w hSw; (try dsimp only at hSw); go_simp; try with_reducible rfl)
  (try simp only [Act.put, List.setIfInBounds_toArray, List.set_cons_zero, List.set_cons_succ])
  refine wpAnyH_take (i := 10) (oi := { dst := some 32, op := Op.indexAddr 25 (Operand.tmp 30) (Operand.tmp 31), type := 0, pos := "run.go:127", after := #[{ on := 8, ground := Ground.data }, { on := 9, ground := Ground.data }], guard := none }) (v := ?v10) rfl (by kernel_rfl) (by kernel_rfl) (by kernel_rfl) (fun _ _ _ h => h) (Or.inl ⟨by rfl, ?y10⟩) (by assumption) ?_
  case y10 => (intro w hSw; (try dsimp only at hSw); go_simp; try with_reducible rfl)
  (try simp only [Act.put, List.setIfInBounds_toArray, List.set_cons_zero, List.set_cons_succ])
  refine wpAnyH_take (i := 11) (oi := { dst := some 33, op := Op.load 43 (Operand.tmp 32), type := 43, pos := "run.go:127", after := #[{ on := 10, ground := Ground.data }], guard := none }) (v := ?v11) rfl (by kernel_rfl) (by kernel_rfl) (by kernel_rfl) (fun _ _ _ h => h) (Or.inl ⟨by rfl, ?y11⟩) (by assumption) ?_
  case y11 => (intro w hSw; (try dsimp only at hSw); go_simp; try with_reducible rfl)
  (try simp only [Act.put, List.setIfInBounds_toArray, List.set_cons_zero, List.set_cons_succ])
  have K0d := hHeld
  have hsd2 : W.heap.size + 2 ≤ wd.heap.size := Nat.le_of_eq hsd.symm
  clear hsd
  refine wpAnyH_ready (rs := [12, 16]) (by kernel_rfl) (by simp) ?_
  refine AllReadyH.cons (o := { dst := some 34, op := Op.call { callee := Callee.value (Operand.tmp 22), args := #[Operand.tmp 27, Operand.tmp 33], argTypes := #[53, 43] }, type := 65, pos := "run.go:127", after := #[{ on := 0, ground := Ground.data }, { on := 5, ground := Ground.data }, { on := 11, ground := Ground.data }], guard := none }) rfl (fun K hK => ?_) (AllReadyH.cons (o := { dst := some 8, op := Op.alloc 53, type := 0, pos := "run.go:127", after := #[], guard := none }) rfl (fun K hK => ?_) AllReadyH.nil)
  · (first | (go_at_call 24; go_loud (refine (HCON.out _ HBd.out).mono ?_; rintro e w5 ⟨rfl, hb5⟩)) | (go_simp; (go_at_call 24; go_loud (refine (HCON.out _ HBd.out).mono ?_; rintro e w5 ⟨rfl, hb5⟩))))
    have HBw5 := Aside0.mk (below_step HBd.out hb5)
    have HK5 := Aside0.mk (blk_below HKd.out hb5)
    have HZ5 := Aside0.mk (blk_below HZd.out hb5)
    have hs5 := hb5.size
    have K5 : w5.cell? ⟨W.heap.size, 4, none⟩ = some (.slice (some adA) ns.length c) ∧ w5.cell? ⟨W.heap.size, 5, none⟩ = some (.slice (some adB) ns.length cb) ∧ w5.cell? (adB.add (q.toNat * 4)) = some (.int .i64 Q0) ∧ w5.cell? ⟨(adB.add (q.toNat * 4)).block, (adB.add (q.toNat * 4)).off + 1, none⟩ = some (.int .i64 Q1) ∧ w5.cell? ⟨(adB.add (q.toNat * 4)).block, (adB.add (q.toNat * 4)).off + 2, none⟩ = some (.int .i64 Q2) ∧ w5.cell? ⟨(adB.add (q.toNat * 4)).block, (adB.add (q.toNat * 4)).off + 3, none⟩ = some (.int .i64 0) ∧ w5.cell? (adA.add (q.toNat * 6)) = some (.string f0) ∧ w5.cell? ⟨(adA.add (q.toNat * 6)).block, (adA.add (q.toNat * 6)).off + 1, none⟩ = some (.slice A1 f1.length c1) ∧ w5.cell? ⟨(adA.add (q.toNat * 6)).block, (adA.add (q.toNat * 6)).off + 2, none⟩ = some (.int .i64 f2) ∧ w5.cell? ⟨(adA.add (q.toNat * 6)).block, (adA.add (q.toNat * 6)).off + 3, none⟩ = some (.int .i64 f3) ∧ w5.cell? ⟨(adA.add (q.toNat * 6)).block, (adA.add (q.toNat * 6)).off + 4, none⟩ = some (.int .i64 f4) ∧ w5.cell? ⟨(adA.add (q.toNat * 6)).block, (adA.add (q.toNat * 6)).off + 5, none⟩ = some (.string f5) := ⟨pw_cell_below hb5 hHeld.1, pw_cell_below hb5 hHeld.2.1, pw_cell_below hb5 hHeld.2.2.1, pw_cell_below hb5 hHeld.2.2.2.1, pw_cell_below hb5 hHeld.2.2.2.2.1, pw_cell_below hb5 hHeld.2.2.2.2.2.1, pw_cell_below hb5 hHeld.2.2.2.2.2.2.1, pw_cell_below hb5 hHeld.2.2.2.2.2.2.2.1, pw_cell_below hb5 hHeld.2.2.2.2.2.2.2.2.1, pw_cell_below hb5 hHeld.2.2.2.2.2.2.2.2.2.1, pw_cell_below hb5 hHeld.2.2.2.2.2.2.2.2.2.2.1, pw_cell_below hb5 hHeld.2.2.2.2.2.2.2.2.2.2.2⟩
    clear hb5
    refine hK.out _ _ K5 (fun hHeld2 => ?_)
    clear hK K hHeld
    have hHeld := hHeld2
    clear hHeld2
    (try simp only [Act.put, List.setIfInBounds_toArray, List.set_cons_zero, List.set_cons_succ])
    refine wpAnyH_take (i := 13) (oi := { dst := some 21, op := Op.move (Operand.tmp 34), type := 65, pos := "run.go:127", after := #[{ on := 12, ground := Ground.data }], guard := none }) (v := ?v13) rfl (by kernel_rfl) (by kernel_rfl) (by kernel_rfl) (fun _ _ _ h => h) (Or.inl ⟨by rfl, ?y13⟩) (by assumption) ?_
    case y13 => (intro w hSw; (try dsimp only at hSw); go_simp; try with_reducible rfl)
    (try simp only [Act.put, List.setIfInBounds_toArray, List.set_cons_zero, List.set_cons_succ])
    refine wpAnyH_take (i := 14) (oi := { dst := some 35, op := Op.extract (Operand.tmp 21) 0, type := 53, pos := "run.go:127", after := #[{ on := 13, ground := Ground.data }], guard := none }) (v := ?v14) rfl (by kernel_rfl) (by kernel_rfl) (by kernel_rfl) (fun _ _ _ h => h) (Or.inl ⟨by rfl, ?y14⟩) (by assumption) ?_
    case y14 => (intro w hSw; (try dsimp only at hSw); go_simp; try with_reducible rfl)
    (try simp only [Act.put, List.setIfInBounds_toArray, List.set_cons_zero, List.set_cons_succ])
    refine wpAnyH_take (i := 15) (oi := { dst := some 36, op := Op.extract (Operand.tmp 21) 1, type := 36, pos := "run.go:127", after := #[{ on := 13, ground := Ground.data }, { on := 17, ground := Ground.gcOnly Departure.lateStores }], guard := none }) (v := ?v15) rfl (by kernel_rfl) (by kernel_rfl) (by kernel_rfl) (fun _ _ _ h => h) (Or.inl ⟨by rfl, ?y15⟩) (by assumption) ?_
    case y15 => (intro w hSw; (try dsimp only at hSw); go_simp; try with_reducible rfl)
    (try simp only [Act.put, List.setIfInBounds_toArray, List.set_cons_zero, List.set_cons_succ])
    have hba := below_alloc (Below.refl w5.heap.size w5) (.cells #[.int .i64 0, .int .i64 0, .int .i64 0, .int .i64 0] 53)
    have K5a : (w5.alloc (.cells #[.int .i64 0, .int .i64 0, .int .i64 0, .int .i64 0] 53)).cell? ⟨W.heap.size, 4, none⟩ = some (.slice (some adA) ns.length c) ∧ (w5.alloc (.cells #[.int .i64 0, .int .i64 0, .int .i64 0, .int .i64 0] 53)).cell? ⟨W.heap.size, 5, none⟩ = some (.slice (some adB) ns.length cb) ∧ (w5.alloc (.cells #[.int .i64 0, .int .i64 0, .int .i64 0, .int .i64 0] 53)).cell? (adB.add (q.toNat * 4)) = some (.int .i64 Q0) ∧ (w5.alloc (.cells #[.int .i64 0, .int .i64 0, .int .i64 0, .int .i64 0] 53)).cell? ⟨(adB.add (q.toNat * 4)).block, (adB.add (q.toNat * 4)).off + 1, none⟩ = some (.int .i64 Q1) ∧ (w5.alloc (.cells #[.int .i64 0, .int .i64 0, .int .i64 0, .int .i64 0] 53)).cell? ⟨(adB.add (q.toNat * 4)).block, (adB.add (q.toNat * 4)).off + 2, none⟩ = some (.int .i64 Q2) ∧ (w5.alloc (.cells #[.int .i64 0, .int .i64 0, .int .i64 0, .int .i64 0] 53)).cell? ⟨(adB.add (q.toNat * 4)).block, (adB.add (q.toNat * 4)).off + 3, none⟩ = some (.int .i64 0) ∧ (w5.alloc (.cells #[.int .i64 0, .int .i64 0, .int .i64 0, .int .i64 0] 53)).cell? (adA.add (q.toNat * 6)) = some (.string f0) ∧ (w5.alloc (.cells #[.int .i64 0, .int .i64 0, .int .i64 0, .int .i64 0] 53)).cell? ⟨(adA.add (q.toNat * 6)).block, (adA.add (q.toNat * 6)).off + 1, none⟩ = some (.slice A1 f1.length c1) ∧ (w5.alloc (.cells #[.int .i64 0, .int .i64 0, .int .i64 0, .int .i64 0] 53)).cell? ⟨(adA.add (q.toNat * 6)).block, (adA.add (q.toNat * 6)).off + 2, none⟩ = some (.int .i64 f2) ∧ (w5.alloc (.cells #[.int .i64 0, .int .i64 0, .int .i64 0, .int .i64 0] 53)).cell? ⟨(adA.add (q.toNat * 6)).block, (adA.add (q.toNat * 6)).off + 3, none⟩ = some (.int .i64 f3) ∧ (w5.alloc (.cells #[.int .i64 0, .int .i64 0, .int .i64 0, .int .i64 0] 53)).cell? ⟨(adA.add (q.toNat * 6)).block, (adA.add (q.toNat * 6)).off + 4, none⟩ = some (.int .i64 f4) ∧ (w5.alloc (.cells #[.int .i64 0, .int .i64 0, .int .i64 0, .int .i64 0] 53)).cell? ⟨(adA.add (q.toNat * 6)).block, (adA.add (q.toNat * 6)).off + 5, none⟩ = some (.string f5) := ⟨pw_cell_below hba hHeld.1, pw_cell_below hba hHeld.2.1, pw_cell_below hba hHeld.2.2.1, pw_cell_below hba hHeld.2.2.2.1, pw_cell_below hba hHeld.2.2.2.2.1, pw_cell_below hba hHeld.2.2.2.2.2.1, pw_cell_below hba hHeld.2.2.2.2.2.2.1, pw_cell_below hba hHeld.2.2.2.2.2.2.2.1, pw_cell_below hba hHeld.2.2.2.2.2.2.2.2.1, pw_cell_below hba hHeld.2.2.2.2.2.2.2.2.2.1, pw_cell_below hba hHeld.2.2.2.2.2.2.2.2.2.2.1, pw_cell_below hba hHeld.2.2.2.2.2.2.2.2.2.2.2⟩
    have hbA : (adA.add (q.toNat * 6)).block < w5.heap.size := World.block_lt_of_cell? w5 _ hHeld.2.2.2.2.2.2.1
    have hbB : (adB.add (q.toNat * 4)).block < w5.heap.size := World.block_lt_of_cell? w5 _ hHeld.2.2.1
    refine wpAnyH_ready (rs := [16]) (by kernel_rfl) (by simp) ?_
    refine AllReadyH.cons (o := { dst := some 8, op := Op.alloc 53, type := 0, pos := "run.go:127", after := #[], guard := none }) rfl (fun K hK => ?_) AllReadyH.nil
    go_simp
    refine hK.out _ _ K5a (fun hHeld2 => ?_)
    clear hK K hHeld
    have hHeld := hHeld2
    clear hHeld2
    (try simp only [Act.put, List.setIfInBounds_toArray, List.set_cons_zero, List.set_cons_succ])
    have HXw := Aside0.mk (blk_new w5 (.cells #[.int .i64 0, .int .i64 0, .int .i64 0, .int .i64 0] 53))
    have HBw := Aside0.mk (below_step HBw5.out hba)
    have HKw := Aside0.mk (blk_below HK5.out hba)
    have HZw := Aside0.mk (blk_below HZ5.out hba)
    have hsw : W.heap.size + 2 ≤ w5.heap.size := by omega
    have hswa := hba.size
    clear hba K5 K5a HBw5 HK5 HZ5 HKd HZd HBd
    generalize w5.alloc (.cells #[.int .i64 0, .int .i64 0, .int .i64 0, .int .i64 0] 53) = ww at *
    generalize hgbE : w5.heap.size = gb at *
    refine wpAnyH_ready (rs := [17]) (by kernel_rfl) (by simp) ?_
    refine AllReadyH.cons (o := { dst := none, op := Op.store 53 (Operand.tmp 8) (Operand.tmp 35), type := 0, pos := "run.go:127", after := #[{ on := 16, ground := Ground.data }, { on := 14, ground := Ground.data }, { on := 12, ground := Ground.chain }, { on := 0, ground := Ground.phase }, { on := 1, ground := Ground.phase }, { on := 2, ground := Ground.phase }, { on := 3, ground := Ground.phase }, { on := 4, ground := Ground.phase }, { on := 5, ground := Ground.phase }, { on := 6, ground := Ground.phase }, { on := 7, ground := Ground.phase }, { on := 8, ground := Ground.phase }, { on := 9, ground := Ground.phase }, { on := 10, ground := Ground.phase }, { on := 11, ground := Ground.phase }, { on := 12, ground := Ground.phase }, { on := 13, ground := Ground.phase }, { on := 14, ground := Ground.phase }, { on := 15, ground := Ground.textOnly Departure.lateStores }, { on := 16, ground := Ground.phase }], guard := none }) rfl (fun K hK => ?_) AllReadyH.nil
    have hz0 : ww.cell? ⟨gb, 0, none⟩ = some (.int .i64 0) := (blk_cell HXw.out 0).trans rfl
    have hzf0 := blk_frozen HXw.out 0
    have hz1 : ww.cell? ⟨gb, 1, none⟩ = some (.int .i64 0) := (blk_cell HXw.out 1).trans rfl
    have hzf1 := blk_frozen HXw.out 1
    have hz2 : ww.cell? ⟨gb, 2, none⟩ = some (.int .i64 0) := (blk_cell HXw.out 2).trans rfl
    have hzf2 := blk_frozen HXw.out 2
    have hz3 : ww.cell? ⟨gb, 3, none⟩ = some (.int .i64 0) := (blk_cell HXw.out 3).trans rfl
    have hzf3 := blk_frozen HXw.out 3
    refine store_step (w1 := ((((ww.setCell ⟨gb, 0, none⟩ (.int .i64 V0)).setCell ⟨gb, 1, none⟩ (.int .i64 V1)).setCell ⟨gb, 2, none⟩ (.int .i64 V2)).setCell ⟨gb, 3, none⟩ (.int .i64 0))) rfl rfl (by first | (go_simp; done) | (go_simp; rfl)) ?_
    have hg6 := setCells_grown ww (gb) [.int .i64 V0, .int .i64 V1, .int .i64 V2, .int .i64 0]
    have hk6 := setCells_full HXw.out [.int .i64 V0, .int .i64 V1, .int .i64 V2, .int .i64 0] rfl
    simp only [World.setCells, Nat.zero_add, Nat.reduceAdd] at hg6 hk6
    have HX6 := Aside0.mk hk6
    have HB6 := Aside0.mk (HBw.out.grown hg6 HBw.out.size (fun j e => by injection e with e; omega))
    have HK6 := Aside0.mk (blk_grown HKw.out hg6 (fun e => by injection e with e; omega))
    have HZ6 := Aside0.mk (blk_grown HZw.out hg6 (fun e => by injection e with e; omega))
    have hs6 : W.heap.size + 2 ≤ ((((ww.setCell ⟨gb, 0, none⟩ (.int .i64 V0)).setCell ⟨gb, 1, none⟩ (.int .i64 V1)).setCell ⟨gb, 2, none⟩ (.int .i64 V2)).setCell ⟨gb, 3, none⟩ (.int .i64 0)).heap.size := Nat.le_trans hsw (Nat.le_trans hswa hg6.size)
    have hcell : ∀ (a : Addr) (v : Value), ww.cell? a = some v → a.block < gb → ((((ww.setCell ⟨gb, 0, none⟩ (.int .i64 V0)).setCell ⟨gb, 1, none⟩ (.int .i64 V1)).setCell ⟨gb, 2, none⟩ (.int .i64 V2)).setCell ⟨gb, 3, none⟩ (.int .i64 0)).cell? a = some v := fun a v h hne => hg6.cell h (fun e => by injection e with e; omega)
    have K6 : ((((ww.setCell ⟨gb, 0, none⟩ (.int .i64 V0)).setCell ⟨gb, 1, none⟩ (.int .i64 V1)).setCell ⟨gb, 2, none⟩ (.int .i64 V2)).setCell ⟨gb, 3, none⟩ (.int .i64 0)).cell? ⟨W.heap.size, 4, none⟩ = some (.slice (some adA) ns.length c) ∧ ((((ww.setCell ⟨gb, 0, none⟩ (.int .i64 V0)).setCell ⟨gb, 1, none⟩ (.int .i64 V1)).setCell ⟨gb, 2, none⟩ (.int .i64 V2)).setCell ⟨gb, 3, none⟩ (.int .i64 0)).cell? ⟨W.heap.size, 5, none⟩ = some (.slice (some adB) ns.length cb) ∧ ((((ww.setCell ⟨gb, 0, none⟩ (.int .i64 V0)).setCell ⟨gb, 1, none⟩ (.int .i64 V1)).setCell ⟨gb, 2, none⟩ (.int .i64 V2)).setCell ⟨gb, 3, none⟩ (.int .i64 0)).cell? (adB.add (q.toNat * 4)) = some (.int .i64 Q0) ∧ ((((ww.setCell ⟨gb, 0, none⟩ (.int .i64 V0)).setCell ⟨gb, 1, none⟩ (.int .i64 V1)).setCell ⟨gb, 2, none⟩ (.int .i64 V2)).setCell ⟨gb, 3, none⟩ (.int .i64 0)).cell? ⟨(adB.add (q.toNat * 4)).block, (adB.add (q.toNat * 4)).off + 1, none⟩ = some (.int .i64 Q1) ∧ ((((ww.setCell ⟨gb, 0, none⟩ (.int .i64 V0)).setCell ⟨gb, 1, none⟩ (.int .i64 V1)).setCell ⟨gb, 2, none⟩ (.int .i64 V2)).setCell ⟨gb, 3, none⟩ (.int .i64 0)).cell? ⟨(adB.add (q.toNat * 4)).block, (adB.add (q.toNat * 4)).off + 2, none⟩ = some (.int .i64 Q2) ∧ ((((ww.setCell ⟨gb, 0, none⟩ (.int .i64 V0)).setCell ⟨gb, 1, none⟩ (.int .i64 V1)).setCell ⟨gb, 2, none⟩ (.int .i64 V2)).setCell ⟨gb, 3, none⟩ (.int .i64 0)).cell? ⟨(adB.add (q.toNat * 4)).block, (adB.add (q.toNat * 4)).off + 3, none⟩ = some (.int .i64 0) ∧ ((((ww.setCell ⟨gb, 0, none⟩ (.int .i64 V0)).setCell ⟨gb, 1, none⟩ (.int .i64 V1)).setCell ⟨gb, 2, none⟩ (.int .i64 V2)).setCell ⟨gb, 3, none⟩ (.int .i64 0)).cell? (adA.add (q.toNat * 6)) = some (.string f0) ∧ ((((ww.setCell ⟨gb, 0, none⟩ (.int .i64 V0)).setCell ⟨gb, 1, none⟩ (.int .i64 V1)).setCell ⟨gb, 2, none⟩ (.int .i64 V2)).setCell ⟨gb, 3, none⟩ (.int .i64 0)).cell? ⟨(adA.add (q.toNat * 6)).block, (adA.add (q.toNat * 6)).off + 1, none⟩ = some (.slice A1 f1.length c1) ∧ ((((ww.setCell ⟨gb, 0, none⟩ (.int .i64 V0)).setCell ⟨gb, 1, none⟩ (.int .i64 V1)).setCell ⟨gb, 2, none⟩ (.int .i64 V2)).setCell ⟨gb, 3, none⟩ (.int .i64 0)).cell? ⟨(adA.add (q.toNat * 6)).block, (adA.add (q.toNat * 6)).off + 2, none⟩ = some (.int .i64 f2) ∧ ((((ww.setCell ⟨gb, 0, none⟩ (.int .i64 V0)).setCell ⟨gb, 1, none⟩ (.int .i64 V1)).setCell ⟨gb, 2, none⟩ (.int .i64 V2)).setCell ⟨gb, 3, none⟩ (.int .i64 0)).cell? ⟨(adA.add (q.toNat * 6)).block, (adA.add (q.toNat * 6)).off + 3, none⟩ = some (.int .i64 f3) ∧ ((((ww.setCell ⟨gb, 0, none⟩ (.int .i64 V0)).setCell ⟨gb, 1, none⟩ (.int .i64 V1)).setCell ⟨gb, 2, none⟩ (.int .i64 V2)).setCell ⟨gb, 3, none⟩ (.int .i64 0)).cell? ⟨(adA.add (q.toNat * 6)).block, (adA.add (q.toNat * 6)).off + 4, none⟩ = some (.int .i64 f4) ∧ ((((ww.setCell ⟨gb, 0, none⟩ (.int .i64 V0)).setCell ⟨gb, 1, none⟩ (.int .i64 V1)).setCell ⟨gb, 2, none⟩ (.int .i64 V2)).setCell ⟨gb, 3, none⟩ (.int .i64 0)).cell? ⟨(adA.add (q.toNat * 6)).block, (adA.add (q.toNat * 6)).off + 5, none⟩ = some (.string f5) := ⟨hcell _ _ hHeld.1 (by show W.heap.size < gb; omega), hcell _ _ hHeld.2.1 (by show W.heap.size < gb; omega), hcell _ _ hHeld.2.2.1 hbB, hcell _ _ hHeld.2.2.2.1 hbB, hcell _ _ hHeld.2.2.2.2.1 hbB, hcell _ _ hHeld.2.2.2.2.2.1 hbB, hcell _ _ hHeld.2.2.2.2.2.2.1 hbA, hcell _ _ hHeld.2.2.2.2.2.2.2.1 hbA, hcell _ _ hHeld.2.2.2.2.2.2.2.2.1 hbA, hcell _ _ hHeld.2.2.2.2.2.2.2.2.2.1 hbA, hcell _ _ hHeld.2.2.2.2.2.2.2.2.2.2.1 hbA, hcell _ _ hHeld.2.2.2.2.2.2.2.2.2.2.2 hbA⟩
    clear hcell hg6 hk6 hz0 hz1 hz2 hz3 hzf0 hzf1 hzf2 hzf3
    generalize ((((ww.setCell ⟨gb, 0, none⟩ (.int .i64 V0)).setCell ⟨gb, 1, none⟩ (.int .i64 V1)).setCell ⟨gb, 2, none⟩ (.int .i64 V2)).setCell ⟨gb, 3, none⟩ (.int .i64 0)) = w6 at *
    refine hK.out _ _ K6 (fun hHeld2 => ?_)
    clear hK K hHeld
    have hHeld := hHeld2
    clear hHeld2
    (try simp only [Act.put, List.setIfInBounds_toArray, List.set_cons_zero, List.set_cons_succ])
    refine wpAnyH_ready (rs := [18]) (by kernel_rfl) (by simp) ?_
    refine AllReadyH.cons (o := { dst := some 9, op := Op.assign (Operand.tmp 36), type := 36, pos := "run.go:127", after := #[{ on := 15, ground := Ground.data }, { on := 17, ground := Ground.chain }, { on := 0, ground := Ground.phase }, { on := 1, ground := Ground.phase }, { on := 2, ground := Ground.phase }, { on := 3, ground := Ground.phase }, { on := 4, ground := Ground.phase }, { on := 5, ground := Ground.phase }, { on := 6, ground := Ground.phase }, { on := 7, ground := Ground.phase }, { on := 8, ground := Ground.phase }, { on := 9, ground := Ground.phase }, { on := 10, ground := Ground.phase }, { on := 11, ground := Ground.phase }, { on := 12, ground := Ground.phase }, { on := 13, ground := Ground.phase }, { on := 14, ground := Ground.phase }, { on := 15, ground := Ground.phase }, { on := 16, ground := Ground.phase }, { on := 17, ground := Ground.phase }], guard := none }) rfl (fun K hK => ?_) AllReadyH.nil
    go_simp
    refine hK.out _ _ hHeld (fun hHeld2 => ?_)
    clear hK K hHeld
    have hHeld := hHeld2
    clear hHeld2
    (try simp only [Act.put, List.setIfInBounds_toArray, List.set_cons_zero, List.set_cons_succ])
    refine wpAnyH_done (by kernel_rfl) ?_ _
    clear hHeld K6
    have hx0 : w6.cell? ⟨W.heap.size, 0, none⟩ = some (.int .i64 i0) := (blk_cell HK6.out 0).trans rfl
    have hx1 : w6.cell? ⟨W.heap.size, 1, none⟩ = some (.int .i64 i1) := (blk_cell HK6.out 1).trans rfl
    have hx2 : w6.cell? ⟨W.heap.size, 2, none⟩ = some (.int .i64 i2) := (blk_cell HK6.out 2).trans rfl
    have hx3 : w6.cell? ⟨W.heap.size, 3, none⟩ = some (.string t) := (blk_cell HK6.out 3).trans rfl
    have hx4 : w6.cell? ⟨W.heap.size, 4, none⟩ = some (.slice (some adA) ns.length c) := (blk_cell HK6.out 4).trans rfl
    have hx5 : w6.cell? ⟨W.heap.size, 5, none⟩ = some (.slice (some adB) ns.length cb) := (blk_cell HK6.out 5).trans rfl
    have hF6 := Kd.F_below (Kd.F_bound HRA.out) HB6.out
    have hcl := clone14_calls i0 i1 i2 t (some adA) c ns (some adB) cb (stL ns P T) _ w6 hF6 (by rw [stL_len]; exact Kd.F_now (Kd.F_below HRB.out HB6.out)) hl (by rw [stL_len]; exact hl) HF.out.d12
    rw [stL_len] at hcl
    have HCL := Aside0.mk hcl
    clear hcl hF6
    go_upto_region 7 with (first | (go_at_call 14; go_loud (refine HCL.out.mono ?_; rintro e w7 ⟨A', c', B', cb', rfl, hN, hR, hb⟩; have HN7 := Aside0.mk hN; have HR7 := Aside0.mk hR; have HB7 := Aside0.mk hb; clear hN hR hb)))
    clear hx0 hx1 hx2 hx3 hx4 hx5
    obtain ⟨g, cap, he, hg1, hg2, gcs, hgc⟩ := Kd.R_form HR7.out (by rw [stL_len]; omega)
    rw [stL_len] at he
    injection he with ha hl_ hcc
    clear hl_
    subst ha; subst hcc
    have hb8 := below_alloc (Below.refl w7.heap.size w7) (.cells #[.int .i64 i0, .int .i64 i1, .int .i64 i2, .string t, .slice A' ns.length c', .slice (some ⟨g, 0, none⟩) ns.length cb'] 33)
    have HT8 := Aside0.mk (blk_new w7 (.cells #[.int .i64 i0, .int .i64 i1, .int .i64 i2, .string t, .slice A' ns.length c', .slice (some ⟨g, 0, none⟩) ns.length cb'] 33))
    have HN8 := Aside0.mk (Kd.N_below HN7.out hb8)
    have HR8 := Aside0.mk (Kd.R_lower (Kd.R_below HR7.out hb8) (base' := W.heap.size) (by omega))
    have HX8 := Aside0.mk (blk_below (blk_below HX6.out HB7.out) hb8)
    have HZ8 := Aside0.mk (blk_below (blk_below HZ6.out HB7.out) hb8)
    have HB8 := Aside0.mk (below_step (below_step HB6.out HB7.out) hb8)
    have HGC := Aside0.mk (blk_below hgc hb8)
    have hs8 := HB7.out.size
    clear hb8 HN7 HR7 HX6 HZ6 HK6 hgc
    generalize w7.alloc (.cells #[.int .i64 i0, .int .i64 i1, .int .i64 i2, .string t, .slice A' ns.length c', .slice (some ⟨g, 0, none⟩) ns.length cb'] 33) = w8 at *
    have hy0 : w8.cell? ⟨gb, 0, none⟩ = some (.int .i64 V0) := (blk_cell HX8.out 0).trans rfl
    have hy1 : w8.cell? ⟨gb, 1, none⟩ = some (.int .i64 V1) := (blk_cell HX8.out 1).trans rfl
    have hy2 : w8.cell? ⟨gb, 2, none⟩ = some (.int .i64 V2) := (blk_cell HX8.out 2).trans rfl
    have hy3 : w8.cell? ⟨gb, 3, none⟩ = some (.int .i64 0) := (blk_cell HX8.out 3).trans rfl
    have hv5 : w8.cell? ⟨w7.heap.size, 5, none⟩ = some (.slice (some ⟨g, 0, none⟩) ns.length cb') := (blk_cell HT8.out 5).trans rfl
    obtain ⟨cs, hcl, hM, hcc, hfr⟩ := Kd.R_elem HR8.out z53 q hq0 hq1
    have HCS := Aside0.mk (And.intro hcl hcc)
    clear hcl hM hcc hfr
    go_wp2_with (first | ((with_reducible refine gate_store (t := 53) (p := 47) rfl ?_); go_loud (refine Kd.R_store k53 (w0 := W) W.heap.size rfl rfl 53 (.tmp 47) (.tmp 46) rfl 53 q 0 (stL ns P T) ⟨V0, V1, V2, 0⟩ (.agg #[.int .i64 V0, .int .i64 V1, .int .i64 V2, .int .i64 0]) [.int .i64 V0, .int .i64 V1, .int .i64 V2, .int .i64 0] cs (fun _ => True) (fun _ => False) rfl rfl rfl rfl (by kernel_rfl) (by intro u hu; simp at hu; rcases hu with rfl | rfl | rfl | rfl <;> rfl) HR8.out hq0 hq1 HCS.out.1 HCS.out.2 (by show 0 + 4 ≤ 4; omega) ?pM (fun _ h => h.elim) HB8.out ?_; (case pM => (have hd4 : List.drop (0 + 4) cs = [] := List.drop_eq_nil_of_le (by rw [HCS.out.1]; exact Nat.le_refl _); simp only [List.take_zero, List.nil_append, List.length_cons, List.length_nil, hd4, List.append_nil]; exact k53_mkM _ _ _ _)); intro w9 hr9 hb9 hg9; have HG9 := Aside0.mk hg9; have HR9 := Aside0.mk hr9; have HB9 := Aside0.mk hb9; have HT9 := Aside0.mk (blk_grown HT8.out hg9 (fun e => blk_ne HT8.out HGC.out (by decide) (by injection e))); have HZ9 := Aside0.mk (blk_grown HZ8.out hg9 (fun e => blk_ne HZ8.out HGC.out (by decide) (by injection e))); clear hr9 hb9 hg9; have hw0 : w9.cell? ⟨w7.heap.size, 0, none⟩ = some (.int .i64 i0) := (blk_cell HT9.out 0).trans rfl; have hw1 : w9.cell? ⟨w7.heap.size, 1, none⟩ = some (.int .i64 i1) := (blk_cell HT9.out 1).trans rfl; have hw2 : w9.cell? ⟨w7.heap.size, 2, none⟩ = some (.int .i64 i2) := (blk_cell HT9.out 2).trans rfl; have hw3 : w9.cell? ⟨w7.heap.size, 3, none⟩ = some (.string t) := (blk_cell HT9.out 3).trans rfl; have hw4 : w9.cell? ⟨w7.heap.size, 4, none⟩ = some (.slice A' ns.length c') := (blk_cell HT9.out 4).trans rfl; have hw5 : w9.cell? ⟨w7.heap.size, 5, none⟩ = some (.slice (some ⟨g, 0, none⟩) ns.length cb') := (blk_cell HT9.out 5).trans rfl; have hzz0 : w9.cell? ⟨W.heap.size + 1, 0, none⟩ = some (.int .i64 0) := (blk_cell HZ9.out 0).trans rfl; have hzzf0 := blk_frozen HZ9.out 0; have hzz1 : w9.cell? ⟨W.heap.size + 1, 1, none⟩ = some (.int .i64 0) := (blk_cell HZ9.out 1).trans rfl; have hzzf1 := blk_frozen HZ9.out 1; have hzz2 : w9.cell? ⟨W.heap.size + 1, 2, none⟩ = some (.int .i64 0) := (blk_cell HZ9.out 2).trans rfl; have hzzf2 := blk_frozen HZ9.out 2; have hzz3 : w9.cell? ⟨W.heap.size + 1, 3, none⟩ = some (.string (⟨#[]⟩ : ByteArray)) := (blk_cell HZ9.out 3).trans rfl; have hzzf3 := blk_frozen HZ9.out 3; have hzz4 : w9.cell? ⟨W.heap.size + 1, 4, none⟩ = some (.slice none 0 0) := (blk_cell HZ9.out 4).trans rfl; have hzzf4 := blk_frozen HZ9.out 4; have hzz5 : w9.cell? ⟨W.heap.size + 1, 5, none⟩ = some (.slice none 0 0) := (blk_cell HZ9.out 5).trans rfl; have hzzf5 := blk_frozen HZ9.out 5;  skip)))
    have hg10 := setCells_grown w9 (W.heap.size + 1) [.int .i64 i0, .int .i64 i1, .int .i64 i2, .string t, .slice A' ns.length c', .slice (some ⟨g, 0, none⟩) ns.length cb']
    have hk10 := setCells_full HZ9.out [.int .i64 i0, .int .i64 i1, .int .i64 i2, .string t, .slice A' ns.length c', .slice (some ⟨g, 0, none⟩) ns.length cb'] rfl
    simp only [World.setCells, Nat.zero_add, Nat.reduceAdd] at hg10 hk10
    refine bodyPost_ret (results_ct rfl _ _ (W.heap.size + 1) 33 #[.int .i64 i0, .int .i64 i1, .int .i64 i2, .string t, .slice A' ns.length c', .slice (some ⟨g, 0, none⟩) ns.length cb'] (0, 0) _ rfl hk10 Try.underlying33 rfl (by kernel_rfl)) rfl ?_
    have hr10 := Kd.R_mono (Kd.R_grown (Kd.R_types HR9.out HZ9.out hE53_33) hg10 (fun j hj e => hj.2 (by injection e))) (ok' := fun _ => True) (fun _ _ => trivial)
    rw [HQK.out, HSET.out] at hr10
    have hF8 := Kd.F_bound (Kd.N_F HN8.out)
    have hF9 := Kd.F_grown (Kd.N_F HN8.out) HG9.out (fun j hj e => hj.2 e)
    refine ⟨A', c', g, cb', rfl, ?_, (Kd.N_reads' HN8.out).2.1, hr10, HB9.out.grown hg10 HB9.out.size (fun j e => by injection e with e; omega)⟩
    refine Kd.F_mono (Kd.F_grown hF9 hg10 (fun j hj e => ?_)) (fun j hj => ⟨?_, fun e => hj.2 (by rw [e]; rfl)⟩)
    · injection e with e; rcases hj.1 with h | h
      · have := h.2; omega
      · omega
    · rcases hj.1 with h | h
      · exact .inl h.1
      · exact .inr (by omega)
  · have hba := below_alloc (Below.refl wd.heap.size wd) (.cells #[.int .i64 0, .int .i64 0, .int .i64 0, .int .i64 0] 53)
    have Ka : (wd.alloc (.cells #[.int .i64 0, .int .i64 0, .int .i64 0, .int .i64 0] 53)).cell? ⟨W.heap.size, 4, none⟩ = some (.slice (some adA) ns.length c) ∧ (wd.alloc (.cells #[.int .i64 0, .int .i64 0, .int .i64 0, .int .i64 0] 53)).cell? ⟨W.heap.size, 5, none⟩ = some (.slice (some adB) ns.length cb) ∧ (wd.alloc (.cells #[.int .i64 0, .int .i64 0, .int .i64 0, .int .i64 0] 53)).cell? (adB.add (q.toNat * 4)) = some (.int .i64 Q0) ∧ (wd.alloc (.cells #[.int .i64 0, .int .i64 0, .int .i64 0, .int .i64 0] 53)).cell? ⟨(adB.add (q.toNat * 4)).block, (adB.add (q.toNat * 4)).off + 1, none⟩ = some (.int .i64 Q1) ∧ (wd.alloc (.cells #[.int .i64 0, .int .i64 0, .int .i64 0, .int .i64 0] 53)).cell? ⟨(adB.add (q.toNat * 4)).block, (adB.add (q.toNat * 4)).off + 2, none⟩ = some (.int .i64 Q2) ∧ (wd.alloc (.cells #[.int .i64 0, .int .i64 0, .int .i64 0, .int .i64 0] 53)).cell? ⟨(adB.add (q.toNat * 4)).block, (adB.add (q.toNat * 4)).off + 3, none⟩ = some (.int .i64 0) ∧ (wd.alloc (.cells #[.int .i64 0, .int .i64 0, .int .i64 0, .int .i64 0] 53)).cell? (adA.add (q.toNat * 6)) = some (.string f0) ∧ (wd.alloc (.cells #[.int .i64 0, .int .i64 0, .int .i64 0, .int .i64 0] 53)).cell? ⟨(adA.add (q.toNat * 6)).block, (adA.add (q.toNat * 6)).off + 1, none⟩ = some (.slice A1 f1.length c1) ∧ (wd.alloc (.cells #[.int .i64 0, .int .i64 0, .int .i64 0, .int .i64 0] 53)).cell? ⟨(adA.add (q.toNat * 6)).block, (adA.add (q.toNat * 6)).off + 2, none⟩ = some (.int .i64 f2) ∧ (wd.alloc (.cells #[.int .i64 0, .int .i64 0, .int .i64 0, .int .i64 0] 53)).cell? ⟨(adA.add (q.toNat * 6)).block, (adA.add (q.toNat * 6)).off + 3, none⟩ = some (.int .i64 f3) ∧ (wd.alloc (.cells #[.int .i64 0, .int .i64 0, .int .i64 0, .int .i64 0] 53)).cell? ⟨(adA.add (q.toNat * 6)).block, (adA.add (q.toNat * 6)).off + 4, none⟩ = some (.int .i64 f4) ∧ (wd.alloc (.cells #[.int .i64 0, .int .i64 0, .int .i64 0, .int .i64 0] 53)).cell? ⟨(adA.add (q.toNat * 6)).block, (adA.add (q.toNat * 6)).off + 5, none⟩ = some (.string f5) := ⟨pw_cell_below hba hHeld.1, pw_cell_below hba hHeld.2.1, pw_cell_below hba hHeld.2.2.1, pw_cell_below hba hHeld.2.2.2.1, pw_cell_below hba hHeld.2.2.2.2.1, pw_cell_below hba hHeld.2.2.2.2.2.1, pw_cell_below hba hHeld.2.2.2.2.2.2.1, pw_cell_below hba hHeld.2.2.2.2.2.2.2.1, pw_cell_below hba hHeld.2.2.2.2.2.2.2.2.1, pw_cell_below hba hHeld.2.2.2.2.2.2.2.2.2.1, pw_cell_below hba hHeld.2.2.2.2.2.2.2.2.2.2.1, pw_cell_below hba hHeld.2.2.2.2.2.2.2.2.2.2.2⟩
    go_simp
    refine hK.out _ _ Ka (fun hHeld2 => ?_)
    clear hK K hHeld
    have hHeld := hHeld2
    clear hHeld2
    (try simp only [Act.put, List.setIfInBounds_toArray, List.set_cons_zero, List.set_cons_succ])
    have HXa := Aside0.mk (blk_new wd (.cells #[.int .i64 0, .int .i64 0, .int .i64 0, .int .i64 0] 53))
    have HBa := Aside0.mk (below_step HBd.out hba)
    have HKa := Aside0.mk (blk_below HKd.out hba)
    have HZa := Aside0.mk (blk_below HZd.out hba)
    have hbA : (adA.add (q.toNat * 6)).block < wd.heap.size := World.block_lt_of_cell? wd _ K0d.2.2.2.2.2.2.1
    have hbB : (adB.add (q.toNat * 4)).block < wd.heap.size := World.block_lt_of_cell? wd _ K0d.2.2.1
    have hsa : wd.heap.size < (wd.alloc (.cells #[.int .i64 0, .int .i64 0, .int .i64 0, .int .i64 0] 53)).heap.size := by simp
    clear hba Ka HKd HZd HBd
    generalize wd.alloc (.cells #[.int .i64 0, .int .i64 0, .int .i64 0, .int .i64 0] 53) = wa at *
    generalize hgbE : wd.heap.size = gb at *
    refine wpAnyH_ready (rs := [12]) (by kernel_rfl) (by simp) ?_
    refine AllReadyH.cons (o := { dst := some 34, op := Op.call { callee := Callee.value (Operand.tmp 22), args := #[Operand.tmp 27, Operand.tmp 33], argTypes := #[53, 43] }, type := 65, pos := "run.go:127", after := #[{ on := 0, ground := Ground.data }, { on := 5, ground := Ground.data }, { on := 11, ground := Ground.data }], guard := none }) rfl (fun K hK => ?_) AllReadyH.nil
    (first | (go_at_call 24; go_loud (refine (HCON.out _ HBa.out).mono ?_; rintro e w5 ⟨rfl, hb5⟩)) | (go_simp; (go_at_call 24; go_loud (refine (HCON.out _ HBa.out).mono ?_; rintro e w5 ⟨rfl, hb5⟩))))
    have HBw := Aside0.mk (below_step HBa.out hb5)
    have HKw := Aside0.mk (blk_below HKa.out hb5)
    have HZw := Aside0.mk (blk_below HZa.out hb5)
    have HXw := Aside0.mk (blk_below HXa.out hb5)
    have hsw : W.heap.size + 2 ≤ gb := by omega
    have hswa : gb ≤ w5.heap.size := by have := hb5.size; omega
    have K5 : w5.cell? ⟨W.heap.size, 4, none⟩ = some (.slice (some adA) ns.length c) ∧ w5.cell? ⟨W.heap.size, 5, none⟩ = some (.slice (some adB) ns.length cb) ∧ w5.cell? (adB.add (q.toNat * 4)) = some (.int .i64 Q0) ∧ w5.cell? ⟨(adB.add (q.toNat * 4)).block, (adB.add (q.toNat * 4)).off + 1, none⟩ = some (.int .i64 Q1) ∧ w5.cell? ⟨(adB.add (q.toNat * 4)).block, (adB.add (q.toNat * 4)).off + 2, none⟩ = some (.int .i64 Q2) ∧ w5.cell? ⟨(adB.add (q.toNat * 4)).block, (adB.add (q.toNat * 4)).off + 3, none⟩ = some (.int .i64 0) ∧ w5.cell? (adA.add (q.toNat * 6)) = some (.string f0) ∧ w5.cell? ⟨(adA.add (q.toNat * 6)).block, (adA.add (q.toNat * 6)).off + 1, none⟩ = some (.slice A1 f1.length c1) ∧ w5.cell? ⟨(adA.add (q.toNat * 6)).block, (adA.add (q.toNat * 6)).off + 2, none⟩ = some (.int .i64 f2) ∧ w5.cell? ⟨(adA.add (q.toNat * 6)).block, (adA.add (q.toNat * 6)).off + 3, none⟩ = some (.int .i64 f3) ∧ w5.cell? ⟨(adA.add (q.toNat * 6)).block, (adA.add (q.toNat * 6)).off + 4, none⟩ = some (.int .i64 f4) ∧ w5.cell? ⟨(adA.add (q.toNat * 6)).block, (adA.add (q.toNat * 6)).off + 5, none⟩ = some (.string f5) := ⟨pw_cell_below hb5 hHeld.1, pw_cell_below hb5 hHeld.2.1, pw_cell_below hb5 hHeld.2.2.1, pw_cell_below hb5 hHeld.2.2.2.1, pw_cell_below hb5 hHeld.2.2.2.2.1, pw_cell_below hb5 hHeld.2.2.2.2.2.1, pw_cell_below hb5 hHeld.2.2.2.2.2.2.1, pw_cell_below hb5 hHeld.2.2.2.2.2.2.2.1, pw_cell_below hb5 hHeld.2.2.2.2.2.2.2.2.1, pw_cell_below hb5 hHeld.2.2.2.2.2.2.2.2.2.1, pw_cell_below hb5 hHeld.2.2.2.2.2.2.2.2.2.2.1, pw_cell_below hb5 hHeld.2.2.2.2.2.2.2.2.2.2.2⟩
    clear hb5
    refine hK.out _ _ K5 (fun hHeld2 => ?_)
    clear hK K hHeld
    have hHeld := hHeld2
    clear hHeld2
    (try simp only [Act.put, List.setIfInBounds_toArray, List.set_cons_zero, List.set_cons_succ])
    refine wpAnyH_take (i := 13) (oi := { dst := some 21, op := Op.move (Operand.tmp 34), type := 65, pos := "run.go:127", after := #[{ on := 12, ground := Ground.data }], guard := none }) (v := ?v13) rfl (by kernel_rfl) (by kernel_rfl) (by kernel_rfl) (fun _ _ _ h => h) (Or.inl ⟨by rfl, ?y13⟩) (by assumption) ?_
    case y13 => (intro w hSw; (try dsimp only at hSw); go_simp; try with_reducible rfl)
    (try simp only [Act.put, List.setIfInBounds_toArray, List.set_cons_zero, List.set_cons_succ])
    refine wpAnyH_take (i := 14) (oi := { dst := some 35, op := Op.extract (Operand.tmp 21) 0, type := 53, pos := "run.go:127", after := #[{ on := 13, ground := Ground.data }], guard := none }) (v := ?v14) rfl (by kernel_rfl) (by kernel_rfl) (by kernel_rfl) (fun _ _ _ h => h) (Or.inl ⟨by rfl, ?y14⟩) (by assumption) ?_
    case y14 => (intro w hSw; (try dsimp only at hSw); go_simp; try with_reducible rfl)
    (try simp only [Act.put, List.setIfInBounds_toArray, List.set_cons_zero, List.set_cons_succ])
    refine wpAnyH_take (i := 15) (oi := { dst := some 36, op := Op.extract (Operand.tmp 21) 1, type := 36, pos := "run.go:127", after := #[{ on := 13, ground := Ground.data }, { on := 17, ground := Ground.gcOnly Departure.lateStores }], guard := none }) (v := ?v15) rfl (by kernel_rfl) (by kernel_rfl) (by kernel_rfl) (fun _ _ _ h => h) (Or.inl ⟨by rfl, ?y15⟩) (by assumption) ?_
    case y15 => (intro w hSw; (try dsimp only at hSw); go_simp; try with_reducible rfl)
    (try simp only [Act.put, List.setIfInBounds_toArray, List.set_cons_zero, List.set_cons_succ])
    clear K5 K0d
    refine wpAnyH_ready (rs := [17]) (by kernel_rfl) (by simp) ?_
    refine AllReadyH.cons (o := { dst := none, op := Op.store 53 (Operand.tmp 8) (Operand.tmp 35), type := 0, pos := "run.go:127", after := #[{ on := 16, ground := Ground.data }, { on := 14, ground := Ground.data }, { on := 12, ground := Ground.chain }, { on := 0, ground := Ground.phase }, { on := 1, ground := Ground.phase }, { on := 2, ground := Ground.phase }, { on := 3, ground := Ground.phase }, { on := 4, ground := Ground.phase }, { on := 5, ground := Ground.phase }, { on := 6, ground := Ground.phase }, { on := 7, ground := Ground.phase }, { on := 8, ground := Ground.phase }, { on := 9, ground := Ground.phase }, { on := 10, ground := Ground.phase }, { on := 11, ground := Ground.phase }, { on := 12, ground := Ground.phase }, { on := 13, ground := Ground.phase }, { on := 14, ground := Ground.phase }, { on := 15, ground := Ground.textOnly Departure.lateStores }, { on := 16, ground := Ground.phase }], guard := none }) rfl (fun K hK => ?_) AllReadyH.nil
    have hz0 : w5.cell? ⟨gb, 0, none⟩ = some (.int .i64 0) := (blk_cell HXw.out 0).trans rfl
    have hzf0 := blk_frozen HXw.out 0
    have hz1 : w5.cell? ⟨gb, 1, none⟩ = some (.int .i64 0) := (blk_cell HXw.out 1).trans rfl
    have hzf1 := blk_frozen HXw.out 1
    have hz2 : w5.cell? ⟨gb, 2, none⟩ = some (.int .i64 0) := (blk_cell HXw.out 2).trans rfl
    have hzf2 := blk_frozen HXw.out 2
    have hz3 : w5.cell? ⟨gb, 3, none⟩ = some (.int .i64 0) := (blk_cell HXw.out 3).trans rfl
    have hzf3 := blk_frozen HXw.out 3
    refine store_step (w1 := ((((w5.setCell ⟨gb, 0, none⟩ (.int .i64 V0)).setCell ⟨gb, 1, none⟩ (.int .i64 V1)).setCell ⟨gb, 2, none⟩ (.int .i64 V2)).setCell ⟨gb, 3, none⟩ (.int .i64 0))) rfl rfl (by first | (go_simp; done) | (go_simp; rfl)) ?_
    have hg6 := setCells_grown w5 (gb) [.int .i64 V0, .int .i64 V1, .int .i64 V2, .int .i64 0]
    have hk6 := setCells_full HXw.out [.int .i64 V0, .int .i64 V1, .int .i64 V2, .int .i64 0] rfl
    simp only [World.setCells, Nat.zero_add, Nat.reduceAdd] at hg6 hk6
    have HX6 := Aside0.mk hk6
    have HB6 := Aside0.mk (HBw.out.grown hg6 HBw.out.size (fun j e => by injection e with e; omega))
    have HK6 := Aside0.mk (blk_grown HKw.out hg6 (fun e => by injection e with e; omega))
    have HZ6 := Aside0.mk (blk_grown HZw.out hg6 (fun e => by injection e with e; omega))
    have hs6 : W.heap.size + 2 ≤ ((((w5.setCell ⟨gb, 0, none⟩ (.int .i64 V0)).setCell ⟨gb, 1, none⟩ (.int .i64 V1)).setCell ⟨gb, 2, none⟩ (.int .i64 V2)).setCell ⟨gb, 3, none⟩ (.int .i64 0)).heap.size := Nat.le_trans hsw (Nat.le_trans hswa hg6.size)
    have hcell : ∀ (a : Addr) (v : Value), w5.cell? a = some v → a.block < gb → ((((w5.setCell ⟨gb, 0, none⟩ (.int .i64 V0)).setCell ⟨gb, 1, none⟩ (.int .i64 V1)).setCell ⟨gb, 2, none⟩ (.int .i64 V2)).setCell ⟨gb, 3, none⟩ (.int .i64 0)).cell? a = some v := fun a v h hne => hg6.cell h (fun e => by injection e with e; omega)
    have K6 : ((((w5.setCell ⟨gb, 0, none⟩ (.int .i64 V0)).setCell ⟨gb, 1, none⟩ (.int .i64 V1)).setCell ⟨gb, 2, none⟩ (.int .i64 V2)).setCell ⟨gb, 3, none⟩ (.int .i64 0)).cell? ⟨W.heap.size, 4, none⟩ = some (.slice (some adA) ns.length c) ∧ ((((w5.setCell ⟨gb, 0, none⟩ (.int .i64 V0)).setCell ⟨gb, 1, none⟩ (.int .i64 V1)).setCell ⟨gb, 2, none⟩ (.int .i64 V2)).setCell ⟨gb, 3, none⟩ (.int .i64 0)).cell? ⟨W.heap.size, 5, none⟩ = some (.slice (some adB) ns.length cb) ∧ ((((w5.setCell ⟨gb, 0, none⟩ (.int .i64 V0)).setCell ⟨gb, 1, none⟩ (.int .i64 V1)).setCell ⟨gb, 2, none⟩ (.int .i64 V2)).setCell ⟨gb, 3, none⟩ (.int .i64 0)).cell? (adB.add (q.toNat * 4)) = some (.int .i64 Q0) ∧ ((((w5.setCell ⟨gb, 0, none⟩ (.int .i64 V0)).setCell ⟨gb, 1, none⟩ (.int .i64 V1)).setCell ⟨gb, 2, none⟩ (.int .i64 V2)).setCell ⟨gb, 3, none⟩ (.int .i64 0)).cell? ⟨(adB.add (q.toNat * 4)).block, (adB.add (q.toNat * 4)).off + 1, none⟩ = some (.int .i64 Q1) ∧ ((((w5.setCell ⟨gb, 0, none⟩ (.int .i64 V0)).setCell ⟨gb, 1, none⟩ (.int .i64 V1)).setCell ⟨gb, 2, none⟩ (.int .i64 V2)).setCell ⟨gb, 3, none⟩ (.int .i64 0)).cell? ⟨(adB.add (q.toNat * 4)).block, (adB.add (q.toNat * 4)).off + 2, none⟩ = some (.int .i64 Q2) ∧ ((((w5.setCell ⟨gb, 0, none⟩ (.int .i64 V0)).setCell ⟨gb, 1, none⟩ (.int .i64 V1)).setCell ⟨gb, 2, none⟩ (.int .i64 V2)).setCell ⟨gb, 3, none⟩ (.int .i64 0)).cell? ⟨(adB.add (q.toNat * 4)).block, (adB.add (q.toNat * 4)).off + 3, none⟩ = some (.int .i64 0) ∧ ((((w5.setCell ⟨gb, 0, none⟩ (.int .i64 V0)).setCell ⟨gb, 1, none⟩ (.int .i64 V1)).setCell ⟨gb, 2, none⟩ (.int .i64 V2)).setCell ⟨gb, 3, none⟩ (.int .i64 0)).cell? (adA.add (q.toNat * 6)) = some (.string f0) ∧ ((((w5.setCell ⟨gb, 0, none⟩ (.int .i64 V0)).setCell ⟨gb, 1, none⟩ (.int .i64 V1)).setCell ⟨gb, 2, none⟩ (.int .i64 V2)).setCell ⟨gb, 3, none⟩ (.int .i64 0)).cell? ⟨(adA.add (q.toNat * 6)).block, (adA.add (q.toNat * 6)).off + 1, none⟩ = some (.slice A1 f1.length c1) ∧ ((((w5.setCell ⟨gb, 0, none⟩ (.int .i64 V0)).setCell ⟨gb, 1, none⟩ (.int .i64 V1)).setCell ⟨gb, 2, none⟩ (.int .i64 V2)).setCell ⟨gb, 3, none⟩ (.int .i64 0)).cell? ⟨(adA.add (q.toNat * 6)).block, (adA.add (q.toNat * 6)).off + 2, none⟩ = some (.int .i64 f2) ∧ ((((w5.setCell ⟨gb, 0, none⟩ (.int .i64 V0)).setCell ⟨gb, 1, none⟩ (.int .i64 V1)).setCell ⟨gb, 2, none⟩ (.int .i64 V2)).setCell ⟨gb, 3, none⟩ (.int .i64 0)).cell? ⟨(adA.add (q.toNat * 6)).block, (adA.add (q.toNat * 6)).off + 3, none⟩ = some (.int .i64 f3) ∧ ((((w5.setCell ⟨gb, 0, none⟩ (.int .i64 V0)).setCell ⟨gb, 1, none⟩ (.int .i64 V1)).setCell ⟨gb, 2, none⟩ (.int .i64 V2)).setCell ⟨gb, 3, none⟩ (.int .i64 0)).cell? ⟨(adA.add (q.toNat * 6)).block, (adA.add (q.toNat * 6)).off + 4, none⟩ = some (.int .i64 f4) ∧ ((((w5.setCell ⟨gb, 0, none⟩ (.int .i64 V0)).setCell ⟨gb, 1, none⟩ (.int .i64 V1)).setCell ⟨gb, 2, none⟩ (.int .i64 V2)).setCell ⟨gb, 3, none⟩ (.int .i64 0)).cell? ⟨(adA.add (q.toNat * 6)).block, (adA.add (q.toNat * 6)).off + 5, none⟩ = some (.string f5) := ⟨hcell _ _ hHeld.1 (by show W.heap.size < gb; omega), hcell _ _ hHeld.2.1 (by show W.heap.size < gb; omega), hcell _ _ hHeld.2.2.1 hbB, hcell _ _ hHeld.2.2.2.1 hbB, hcell _ _ hHeld.2.2.2.2.1 hbB, hcell _ _ hHeld.2.2.2.2.2.1 hbB, hcell _ _ hHeld.2.2.2.2.2.2.1 hbA, hcell _ _ hHeld.2.2.2.2.2.2.2.1 hbA, hcell _ _ hHeld.2.2.2.2.2.2.2.2.1 hbA, hcell _ _ hHeld.2.2.2.2.2.2.2.2.2.1 hbA, hcell _ _ hHeld.2.2.2.2.2.2.2.2.2.2.1 hbA, hcell _ _ hHeld.2.2.2.2.2.2.2.2.2.2.2 hbA⟩
    clear hcell hg6 hk6 hz0 hz1 hz2 hz3 hzf0 hzf1 hzf2 hzf3
    generalize ((((w5.setCell ⟨gb, 0, none⟩ (.int .i64 V0)).setCell ⟨gb, 1, none⟩ (.int .i64 V1)).setCell ⟨gb, 2, none⟩ (.int .i64 V2)).setCell ⟨gb, 3, none⟩ (.int .i64 0)) = w6 at *
    refine hK.out _ _ K6 (fun hHeld2 => ?_)
    clear hK K hHeld
    have hHeld := hHeld2
    clear hHeld2
    (try simp only [Act.put, List.setIfInBounds_toArray, List.set_cons_zero, List.set_cons_succ])
    refine wpAnyH_ready (rs := [18]) (by kernel_rfl) (by simp) ?_
    refine AllReadyH.cons (o := { dst := some 9, op := Op.assign (Operand.tmp 36), type := 36, pos := "run.go:127", after := #[{ on := 15, ground := Ground.data }, { on := 17, ground := Ground.chain }, { on := 0, ground := Ground.phase }, { on := 1, ground := Ground.phase }, { on := 2, ground := Ground.phase }, { on := 3, ground := Ground.phase }, { on := 4, ground := Ground.phase }, { on := 5, ground := Ground.phase }, { on := 6, ground := Ground.phase }, { on := 7, ground := Ground.phase }, { on := 8, ground := Ground.phase }, { on := 9, ground := Ground.phase }, { on := 10, ground := Ground.phase }, { on := 11, ground := Ground.phase }, { on := 12, ground := Ground.phase }, { on := 13, ground := Ground.phase }, { on := 14, ground := Ground.phase }, { on := 15, ground := Ground.phase }, { on := 16, ground := Ground.phase }, { on := 17, ground := Ground.phase }], guard := none }) rfl (fun K hK => ?_) AllReadyH.nil
    go_simp
    refine hK.out _ _ hHeld (fun hHeld2 => ?_)
    clear hK K hHeld
    have hHeld := hHeld2
    clear hHeld2
    (try simp only [Act.put, List.setIfInBounds_toArray, List.set_cons_zero, List.set_cons_succ])
    refine wpAnyH_done (by kernel_rfl) ?_ _
    clear hHeld K6
    have hx0 : w6.cell? ⟨W.heap.size, 0, none⟩ = some (.int .i64 i0) := (blk_cell HK6.out 0).trans rfl
    have hx1 : w6.cell? ⟨W.heap.size, 1, none⟩ = some (.int .i64 i1) := (blk_cell HK6.out 1).trans rfl
    have hx2 : w6.cell? ⟨W.heap.size, 2, none⟩ = some (.int .i64 i2) := (blk_cell HK6.out 2).trans rfl
    have hx3 : w6.cell? ⟨W.heap.size, 3, none⟩ = some (.string t) := (blk_cell HK6.out 3).trans rfl
    have hx4 : w6.cell? ⟨W.heap.size, 4, none⟩ = some (.slice (some adA) ns.length c) := (blk_cell HK6.out 4).trans rfl
    have hx5 : w6.cell? ⟨W.heap.size, 5, none⟩ = some (.slice (some adB) ns.length cb) := (blk_cell HK6.out 5).trans rfl
    have hF6 := Kd.F_below (Kd.F_bound HRA.out) HB6.out
    have hcl := clone14_calls i0 i1 i2 t (some adA) c ns (some adB) cb (stL ns P T) _ w6 hF6 (by rw [stL_len]; exact Kd.F_now (Kd.F_below HRB.out HB6.out)) hl (by rw [stL_len]; exact hl) HF.out.d12
    rw [stL_len] at hcl
    have HCL := Aside0.mk hcl
    clear hcl hF6
    go_upto_region 7 with (first | (go_at_call 14; go_loud (refine HCL.out.mono ?_; rintro e w7 ⟨A', c', B', cb', rfl, hN, hR, hb⟩; have HN7 := Aside0.mk hN; have HR7 := Aside0.mk hR; have HB7 := Aside0.mk hb; clear hN hR hb)))
    clear hx0 hx1 hx2 hx3 hx4 hx5
    obtain ⟨g, cap, he, hg1, hg2, gcs, hgc⟩ := Kd.R_form HR7.out (by rw [stL_len]; omega)
    rw [stL_len] at he
    injection he with ha hl_ hcc
    clear hl_
    subst ha; subst hcc
    have hb8 := below_alloc (Below.refl w7.heap.size w7) (.cells #[.int .i64 i0, .int .i64 i1, .int .i64 i2, .string t, .slice A' ns.length c', .slice (some ⟨g, 0, none⟩) ns.length cb'] 33)
    have HT8 := Aside0.mk (blk_new w7 (.cells #[.int .i64 i0, .int .i64 i1, .int .i64 i2, .string t, .slice A' ns.length c', .slice (some ⟨g, 0, none⟩) ns.length cb'] 33))
    have HN8 := Aside0.mk (Kd.N_below HN7.out hb8)
    have HR8 := Aside0.mk (Kd.R_lower (Kd.R_below HR7.out hb8) (base' := W.heap.size) (by omega))
    have HX8 := Aside0.mk (blk_below (blk_below HX6.out HB7.out) hb8)
    have HZ8 := Aside0.mk (blk_below (blk_below HZ6.out HB7.out) hb8)
    have HB8 := Aside0.mk (below_step (below_step HB6.out HB7.out) hb8)
    have HGC := Aside0.mk (blk_below hgc hb8)
    have hs8 := HB7.out.size
    clear hb8 HN7 HR7 HX6 HZ6 HK6 hgc
    generalize w7.alloc (.cells #[.int .i64 i0, .int .i64 i1, .int .i64 i2, .string t, .slice A' ns.length c', .slice (some ⟨g, 0, none⟩) ns.length cb'] 33) = w8 at *
    have hy0 : w8.cell? ⟨gb, 0, none⟩ = some (.int .i64 V0) := (blk_cell HX8.out 0).trans rfl
    have hy1 : w8.cell? ⟨gb, 1, none⟩ = some (.int .i64 V1) := (blk_cell HX8.out 1).trans rfl
    have hy2 : w8.cell? ⟨gb, 2, none⟩ = some (.int .i64 V2) := (blk_cell HX8.out 2).trans rfl
    have hy3 : w8.cell? ⟨gb, 3, none⟩ = some (.int .i64 0) := (blk_cell HX8.out 3).trans rfl
    have hv5 : w8.cell? ⟨w7.heap.size, 5, none⟩ = some (.slice (some ⟨g, 0, none⟩) ns.length cb') := (blk_cell HT8.out 5).trans rfl
    obtain ⟨cs, hcl, hM, hcc, hfr⟩ := Kd.R_elem HR8.out z53 q hq0 hq1
    have HCS := Aside0.mk (And.intro hcl hcc)
    clear hcl hM hcc hfr
    go_wp2_with (first | ((with_reducible refine gate_store (t := 53) (p := 47) rfl ?_); go_loud (refine Kd.R_store k53 (w0 := W) W.heap.size rfl rfl 53 (.tmp 47) (.tmp 46) rfl 53 q 0 (stL ns P T) ⟨V0, V1, V2, 0⟩ (.agg #[.int .i64 V0, .int .i64 V1, .int .i64 V2, .int .i64 0]) [.int .i64 V0, .int .i64 V1, .int .i64 V2, .int .i64 0] cs (fun _ => True) (fun _ => False) rfl rfl rfl rfl (by kernel_rfl) (by intro u hu; simp at hu; rcases hu with rfl | rfl | rfl | rfl <;> rfl) HR8.out hq0 hq1 HCS.out.1 HCS.out.2 (by show 0 + 4 ≤ 4; omega) ?pM (fun _ h => h.elim) HB8.out ?_; (case pM => (have hd4 : List.drop (0 + 4) cs = [] := List.drop_eq_nil_of_le (by rw [HCS.out.1]; exact Nat.le_refl _); simp only [List.take_zero, List.nil_append, List.length_cons, List.length_nil, hd4, List.append_nil]; exact k53_mkM _ _ _ _)); intro w9 hr9 hb9 hg9; have HG9 := Aside0.mk hg9; have HR9 := Aside0.mk hr9; have HB9 := Aside0.mk hb9; have HT9 := Aside0.mk (blk_grown HT8.out hg9 (fun e => blk_ne HT8.out HGC.out (by decide) (by injection e))); have HZ9 := Aside0.mk (blk_grown HZ8.out hg9 (fun e => blk_ne HZ8.out HGC.out (by decide) (by injection e))); clear hr9 hb9 hg9; have hw0 : w9.cell? ⟨w7.heap.size, 0, none⟩ = some (.int .i64 i0) := (blk_cell HT9.out 0).trans rfl; have hw1 : w9.cell? ⟨w7.heap.size, 1, none⟩ = some (.int .i64 i1) := (blk_cell HT9.out 1).trans rfl; have hw2 : w9.cell? ⟨w7.heap.size, 2, none⟩ = some (.int .i64 i2) := (blk_cell HT9.out 2).trans rfl; have hw3 : w9.cell? ⟨w7.heap.size, 3, none⟩ = some (.string t) := (blk_cell HT9.out 3).trans rfl; have hw4 : w9.cell? ⟨w7.heap.size, 4, none⟩ = some (.slice A' ns.length c') := (blk_cell HT9.out 4).trans rfl; have hw5 : w9.cell? ⟨w7.heap.size, 5, none⟩ = some (.slice (some ⟨g, 0, none⟩) ns.length cb') := (blk_cell HT9.out 5).trans rfl; have hzz0 : w9.cell? ⟨W.heap.size + 1, 0, none⟩ = some (.int .i64 0) := (blk_cell HZ9.out 0).trans rfl; have hzzf0 := blk_frozen HZ9.out 0; have hzz1 : w9.cell? ⟨W.heap.size + 1, 1, none⟩ = some (.int .i64 0) := (blk_cell HZ9.out 1).trans rfl; have hzzf1 := blk_frozen HZ9.out 1; have hzz2 : w9.cell? ⟨W.heap.size + 1, 2, none⟩ = some (.int .i64 0) := (blk_cell HZ9.out 2).trans rfl; have hzzf2 := blk_frozen HZ9.out 2; have hzz3 : w9.cell? ⟨W.heap.size + 1, 3, none⟩ = some (.string (⟨#[]⟩ : ByteArray)) := (blk_cell HZ9.out 3).trans rfl; have hzzf3 := blk_frozen HZ9.out 3; have hzz4 : w9.cell? ⟨W.heap.size + 1, 4, none⟩ = some (.slice none 0 0) := (blk_cell HZ9.out 4).trans rfl; have hzzf4 := blk_frozen HZ9.out 4; have hzz5 : w9.cell? ⟨W.heap.size + 1, 5, none⟩ = some (.slice none 0 0) := (blk_cell HZ9.out 5).trans rfl; have hzzf5 := blk_frozen HZ9.out 5;  skip)))
    have hg10 := setCells_grown w9 (W.heap.size + 1) [.int .i64 i0, .int .i64 i1, .int .i64 i2, .string t, .slice A' ns.length c', .slice (some ⟨g, 0, none⟩) ns.length cb']
    have hk10 := setCells_full HZ9.out [.int .i64 i0, .int .i64 i1, .int .i64 i2, .string t, .slice A' ns.length c', .slice (some ⟨g, 0, none⟩) ns.length cb'] rfl
    simp only [World.setCells, Nat.zero_add, Nat.reduceAdd] at hg10 hk10
    refine bodyPost_ret (results_ct rfl _ _ (W.heap.size + 1) 33 #[.int .i64 i0, .int .i64 i1, .int .i64 i2, .string t, .slice A' ns.length c', .slice (some ⟨g, 0, none⟩) ns.length cb'] (0, 0) _ rfl hk10 Try.underlying33 rfl (by kernel_rfl)) rfl ?_
    have hr10 := Kd.R_mono (Kd.R_grown (Kd.R_types HR9.out HZ9.out hE53_33) hg10 (fun j hj e => hj.2 (by injection e))) (ok' := fun _ => True) (fun _ _ => trivial)
    rw [HQK.out, HSET.out] at hr10
    have hF8 := Kd.F_bound (Kd.N_F HN8.out)
    have hF9 := Kd.F_grown (Kd.N_F HN8.out) HG9.out (fun j hj e => hj.2 e)
    refine ⟨A', c', g, cb', rfl, ?_, (Kd.N_reads' HN8.out).2.1, hr10, HB9.out.grown hg10 HB9.out.size (fun j e => by injection e with e; omega)⟩
    refine Kd.F_mono (Kd.F_grown hF9 hg10 (fun j hj e => ?_)) (fun j hj => ⟨?_, fun e => hj.2 (by rw [e]; rfl)⟩)
    · injection e with e; rcases hj.1 with h | h
      · have := h.2; omega
      · omega
    · rcases hj.1 with h | h
      · exact .inl h.1
      · exact .inr (by omega)
end Go.Proofs.Ytiipbibbppgbgaa.T
namespace Go.Proofs.Ytiipbibbppgbgaa.T
open Go.RowKit Go.Proofs.Ytiipbibbppgbgaa.PTopFates Go.Proofs.YtiipbibbppgbgaaW.PrintWords Go.Proofs.YtiipbibbppgbgaaW.PrintLast Go.Proofs.YtiipbibbppgbgaaW.PrintMore
set_option linter.unusedVariables false
set_option linter.unusedSimpArgs false

theorem upd_self19 (T : Nat → Int) (k : Nat) : upd T k (T k) = T := by
  funext j
  unfold upd
  split
  · rename_i h; rw [h]
  · rfl
set_option maxHeartbeats 8000000 in
set_option maxRecDepth 100000 in
theorem settled19_calls (i0 i1 i2 : Int) (t : ByteArray) (A : Option Addr) (c : Nat) (B : Option Addr) (cb : Nat) (ns : List S43) (D : Nat → List Nat) (P T : Nat → Int) (okF okS : Nat → Prop) (k : Nat) (q : Int) (nb ob : Nat) (ok : Bool) (p2 : Int) (W : World) (hr : IsRun W okF okS ns P T A c B cb) (hf : FlowOk ns D) (hq : q = (k : Int)) (hk : k < ns.length) (hnb : W.heap[nb]? = some (.cells #[.int .i64 0] 2 (0, 0))) (hob : W.heap[ob]? = some (.cells #[.bool ok] 4 (0, 0))) (hP : P k = 3) (hp2 : p2 = if ok then 4 else 5) :
    Calls Try.prog 18 #[.agg #[.int .i64 i0, .int .i64 i1, .int .i64 i2, .string t, .slice A ns.length c, .slice B ns.length cb], .int .i64 q, .int .i64 0, .func (.func 19) #[] #[.pointer (some ⟨nb, 0, none⟩), .pointer (some ⟨ob, 0, none⟩)]] W fun e W' => ∃ v, e = .returned (.tuple #[v, .int .i64 0]) ∧ IsChg W W' okF ns D P (upd P k p2) T i0 i1 i2 t v ∧ Below W.heap.size W W' := by
  have hu33 := Try.underlying33
  have hl := hf.len
  have h1 := hf.one
  obtain ⟨hrA, hrc, hrB, hrcb⟩ := hr
  obtain ⟨hb, hk1, hk2⟩ := allocs2 W (.cells #[.int .i64 i0, .int .i64 i1, .int .i64 i2, .string t, .slice A ns.length c, .slice B ns.length cb] 33) (.cells chZ 35)
  have hs : ((W.alloc (.cells #[.int .i64 i0, .int .i64 i1, .int .i64 i2, .string t, .slice A ns.length c, .slice B ns.length cb] 33)).alloc (.cells chZ 35)).heap.size = W.heap.size + 2 := by simp
  have HB := Aside0.mk hb
  have HA1 := Aside0.mk (Kd.F_below (Kd.F_bound hrA) hb)
  have HB1 := Aside0.mk (Kd.F_below (Kd.F_bound hrB) hb)
  have HK := Aside0.mk hk1
  have HZ := Aside0.mk hk2
  have HF := Aside0.mk hf
  have HCB := Aside0.mk hrcb
  have hcl := step19_calls i0 i1 i2 t A c B cb ns D P T _ _ k q nb ob ok p2 _ ⟨HA1.out, hrc, HB1.out, hrcb⟩ hf hq hk (blk_below hnb HB.out) (blk_below hob HB.out) hP hp2
  have HCL := Aside0.mk hcl
  clear hrA hrB hrc hrcb hb hk1 hk2 hf hcl hq hnb hob hP hp2
  go_enter Try.func18, Try.ntmps18
  go_upto_region 1 with (fail)
  generalize (W.alloc (.cells #[.int .i64 i0, .int .i64 i1, .int .i64 i2, .string t, .slice A ns.length c, .slice B ns.length cb] 33)).alloc (.cells chZ 35) = w1 at *
  have hx0 : w1.cell? ⟨W.heap.size, 0, none⟩ = some (.int .i64 i0) := (blk_cell HK.out 0).trans rfl
  have hx1 : w1.cell? ⟨W.heap.size, 1, none⟩ = some (.int .i64 i1) := (blk_cell HK.out 1).trans rfl
  have hx2 : w1.cell? ⟨W.heap.size, 2, none⟩ = some (.int .i64 i2) := (blk_cell HK.out 2).trans rfl
  have hx3 : w1.cell? ⟨W.heap.size, 3, none⟩ = some (.string t) := (blk_cell HK.out 3).trans rfl
  have hx4 : w1.cell? ⟨W.heap.size, 4, none⟩ = some (.slice A ns.length c) := (blk_cell HK.out 4).trans rfl
  have hx5 : w1.cell? ⟨W.heap.size, 5, none⟩ = some (.slice B ns.length cb) := (blk_cell HK.out 5).trans rfl
  go_upto_region 4 with (first | (go_at_call 21; go_loud (refine HCL.out.mono ?_; rintro e w2 ⟨A', c', g, cb', rfl, q1, q2, q3, q4⟩; have HF2 := Aside0.mk q1; have HC2 := Aside0.mk q2; have HR2 := Aside0.mk q3; have HB2 := Aside0.mk q4; clear q1 q2 q3 q4)))
  clear hx0 hx1 hx2 hx3 hx4 hx5 HCL
  have hgb := Kd.R_base HR2.out g rfl
  have hgl := Kd.R_lt HR2.out g rfl
  have hb3 := below_alloc (Below.refl w2.heap.size w2) (.cells #[.int .i64 i0, .int .i64 i1, .int .i64 i2, .string t, .slice A' ns.length c', .slice (some ⟨g, 0, none⟩) ns.length cb'] 33)
  have HT3 := Aside0.mk (blk_new w2 (.cells #[.int .i64 i0, .int .i64 i1, .int .i64 i2, .string t, .slice A' ns.length c', .slice (some ⟨g, 0, none⟩) ns.length cb'] 33))
  have HK3 := Aside0.mk (blk_below (blk_below HK.out HB2.out) hb3)
  have HZ3 := Aside0.mk (blk_below (blk_below HZ.out HB2.out) hb3)
  have HB3 := Aside0.mk (below_step (below_step HB.out HB2.out) hb3)
  have HF3 := Aside0.mk (Kd.F_below HF2.out hb3)
  have HR3 := Aside0.mk (Kd.R_below HR2.out hb3)
  have HG3 := Aside0.mk (Kd.F_below (Kd.F_below HB1.out HB2.out) hb3)
  have hs2 := HB2.out.size
  clear hb3 HK HZ HF2 HR2
  generalize w2.alloc (.cells #[.int .i64 i0, .int .i64 i1, .int .i64 i2, .string t, .slice A' ns.length c', .slice (some ⟨g, 0, none⟩) ns.length cb'] 33) = w3 at *
  have hE : EnvOk (⟨W.heap.size + 2, i0, i1, i2, t, A', c', g, cb', ns, fun j => ((okF j ∧ j < W.heap.size) ∨ W.heap.size + 2 ≤ j) ∧ j ≠ g, fun j => okS j ∧ j < W.heap.size, B, cb, stL ns P T, w3⟩ : Env) := ⟨fun j hj => hj.2, fun j hj => by (show j ≠ g); have := hj.2; omega, by (show W.heap.size + 2 ≤ w3.heap.size); have := HB3.out.size; have := blk_lt HT3.out; omega⟩
  have HSC := Aside0.mk (settle_calls (⟨W.heap.size + 2, i0, i1, i2, t, A', c', g, cb', ns, fun j => ((okF j ∧ j < W.heap.size) ∨ W.heap.size + 2 ≤ j) ∧ j ≠ g, fun j => okS j ∧ j < W.heap.size, B, cb, stL ns P T, w3⟩ : Env) hE D (upd P k p2) T h1 hl HF.out.names HF.out.deps HF.out.good HC2.out (stL_len _ _ _) (by (show (stL ns P T).length ≤ cb); rw [stL_len]; exact HCB.out) (Kd.F_mono HF3.out (fun j hj => by
    refine ⟨?_, hj.2⟩
    rcases hj.1 with h | h
    · exact .inl h
    · exact .inr (by omega))) (by (show Kd.F k53 w3 (fun j => okS j ∧ j < W.heap.size) B (stL ns P T).length (stL ns P T)); rw [stL_len]; exact HG3.out) (by have h := HR3.out; rw [upd_self19] at h; exact Kd.R_lower h (by (show W.heap.size + 2 ≤ _); omega)))
  simp only [stL_len] at HSC
  clear hE
  have hr4 : w3.cell? ⟨W.heap.size, 5, none⟩ = some (.slice B ns.length cb) := (blk_cell HK3.out 5).trans rfl
  have hy0 : w3.cell? ⟨w2.heap.size, 0, none⟩ = some (.int .i64 i0) := (blk_cell HT3.out 0).trans rfl
  have hy1 : w3.cell? ⟨w2.heap.size, 1, none⟩ = some (.int .i64 i1) := (blk_cell HT3.out 1).trans rfl
  have hy2 : w3.cell? ⟨w2.heap.size, 2, none⟩ = some (.int .i64 i2) := (blk_cell HT3.out 2).trans rfl
  have hy3 : w3.cell? ⟨w2.heap.size, 3, none⟩ = some (.string t) := (blk_cell HT3.out 3).trans rfl
  have hy4 : w3.cell? ⟨w2.heap.size, 4, none⟩ = some (.slice A' ns.length c') := (blk_cell HT3.out 4).trans rfl
  have hy5 : w3.cell? ⟨w2.heap.size, 5, none⟩ = some (.slice (some ⟨g, 0, none⟩) ns.length cb') := (blk_cell HT3.out 5).trans rfl
  go_wp2_with (first | (go_at_call 16; go_loud (refine HSC.out.mono ?_; rintro e w10 ⟨P2, AR, cR, AC, cC, rfl, q1, q2, q3, q4, q5, q6, q7, q8⟩; have hc1 : cameL (⟨W.heap.size + 2, i0, i1, i2, t, A', c', g, cb', ns, fun j => ((okF j ∧ j < W.heap.size) ∨ W.heap.size + 2 ≤ j) ∧ j ≠ g, fun j => okS j ∧ j < W.heap.size, B, cb, stL ns P T, w3⟩ : Env) P2 1 ns.length = came ns.length P P2 1 := cameL_came (⟨W.heap.size + 2, i0, i1, i2, t, A', c', g, cb', ns, fun j => ((okF j ∧ j < W.heap.size) ∨ W.heap.size + 2 ≤ j) ∧ j ≠ g, fun j => okS j ∧ j < W.heap.size, B, cb, stL ns P T, w3⟩ : Env) P T P2 1 rfl; have hc3 : cameL (⟨W.heap.size + 2, i0, i1, i2, t, A', c', g, cb', ns, fun j => ((okF j ∧ j < W.heap.size) ∨ W.heap.size + 2 ≤ j) ∧ j ≠ g, fun j => okS j ∧ j < W.heap.size, B, cb, stL ns P T, w3⟩ : Env) P2 3 ns.length = came ns.length P P2 3 := cameL_came (⟨W.heap.size + 2, i0, i1, i2, t, A', c', g, cb', ns, fun j => ((okF j ∧ j < W.heap.size) ∨ W.heap.size + 2 ≤ j) ∧ j ≠ g, fun j => okS j ∧ j < W.heap.size, B, cb, stL ns P T, w3⟩ : Env) P T P2 3 rfl; rw [hc1] at q6; rw [hc3] at q7; rw [hc1, hc3]; have hsz10 : w3.heap.size ≤ w10.heap.size := q8.2.1; have HZ10 : Aside0 (w10.heap[W.heap.size + 1]? = some (.cells chZ 35 (0, 0))) := Aside0.mk ((q8.2.2 (W.heap.size + 1) (blk_lt HZ3.out) (by omega)).trans HZ3.out); have HBW : Aside0 (Below W.heap.size W w10) := Aside0.mk (HB3.out.trans (q8.1.mono (by (show W.heap.size ≤ W.heap.size + 2); omega))); have HF10 := Aside0.mk q3; have HS10 := Aside0.mk (Kd.R_F (Kd.R_mono (Kd.R_bound q5) (ok' := fun j => W.heap.size + 2 ≤ j) (fun j hj => hj.2.1))); have HN10 := Aside0.mk (Kd.R_reads' q5).2.1; have HLR := Aside0.mk (And.intro (Kd.Q_F (Kd.Q_mono (Kd.Q_bound q6) (ok' := fun j => W.heap.size + 2 ≤ j) (fun j hj => by have h9 : w3.heap.size ≤ j := hj.2.1; have h8 := blk_lt HT3.out; omega))) (Kd.Q_reads' q6).2.1); have HLC := Aside0.mk (And.intro (Kd.Q_F (Kd.Q_mono (Kd.Q_bound q7) (ok' := fun j => W.heap.size + 2 ≤ j) (fun j hj => by have h9 : w3.heap.size ≤ j := hj.2.1; have h8 := blk_lt HT3.out; omega))) (Kd.Q_reads' q7).2.1); have HM := Aside0.mk q1; have HST := Aside0.mk q2; have hz0 : w10.cell? ⟨W.heap.size + 1, 0, none⟩ = some (.int .i64 0) := (blk_cell HZ10.out 0).trans rfl; have hzf0 := blk_frozen HZ10.out 0; have hz1 : w10.cell? ⟨W.heap.size + 1, 1, none⟩ = some (.int .i64 0) := (blk_cell HZ10.out 1).trans rfl; have hzf1 := blk_frozen HZ10.out 1; have hz2 : w10.cell? ⟨W.heap.size + 1, 2, none⟩ = some (.int .i64 0) := (blk_cell HZ10.out 2).trans rfl; have hzf2 := blk_frozen HZ10.out 2; have hz3 : w10.cell? ⟨W.heap.size + 1, 3, none⟩ = some (.string (⟨#[]⟩ : ByteArray)) := (blk_cell HZ10.out 3).trans rfl; have hzf3 := blk_frozen HZ10.out 3; have hz4 : w10.cell? ⟨W.heap.size + 1, 4, none⟩ = some (.slice none 0 0) := (blk_cell HZ10.out 4).trans rfl; have hzf4 := blk_frozen HZ10.out 4; have hz5 : w10.cell? ⟨W.heap.size + 1, 5, none⟩ = some (.slice none 0 0) := (blk_cell HZ10.out 5).trans rfl; have hzf5 := blk_frozen HZ10.out 5; have hz6 : w10.cell? ⟨W.heap.size + 1, 6, none⟩ = some (.slice none 0 0) := (blk_cell HZ10.out 6).trans rfl; have hzf6 := blk_frozen HZ10.out 6; have hz7 : w10.cell? ⟨W.heap.size + 1, 7, none⟩ = some (.slice none 0 0) := (blk_cell HZ10.out 7).trans rfl; have hzf7 := blk_frozen HZ10.out 7;  clear q1 q2 q3 q4 q5 q6 q7 q8 hc1 hc3)))
  have hg8 := setCells_grown w10 (W.heap.size + 1) [.int .i64 i0, .int .i64 i1, .int .i64 i2, .string t, .slice A' ns.length c', .slice (some ⟨g, 0, none⟩) ns.length cb', .slice AR (came ns.length P P2 1).length cR, .slice AC (came ns.length P P2 3).length cC]
  have hk8 := setCells_full HZ10.out [.int .i64 i0, .int .i64 i1, .int .i64 i2, .string t, .slice A' ns.length c', .slice (some ⟨g, 0, none⟩) ns.length cb', .slice AR (came ns.length P P2 1).length cR, .slice AC (came ns.length P P2 3).length cC] rfl
  simp only [World.setCells, Nat.zero_add, Nat.reduceAdd] at hg8 hk8
  refine bodyPost_ret (results_ct rfl _ _ (W.heap.size + 1) 35 #[.int .i64 i0, .int .i64 i1, .int .i64 i2, .string t, .slice A' ns.length c', .slice (some ⟨g, 0, none⟩) ns.length cb', .slice AR (came ns.length P P2 1).length cR, .slice AC (came ns.length P P2 3).length cC] (0, 0) _ rfl hk8 Try.underlying35 rfl (by kernel_rfl)) rfl ?_
  have hne : ∀ j, W.heap.size + 2 ≤ j → some j ≠ some (W.heap.size + 1) := fun j hj e => by injection e with e; omega
  refine ⟨_, rfl, ⟨P2, A', c', some ⟨g, 0, none⟩, cb', AR, cR, AC, cC, rfl, HM.out, HST.out, ⟨?_, HC2.out, ?_, HN10.out⟩, ⟨?_, HLR.out.2⟩, ⟨?_, HLC.out.2⟩⟩, ?_⟩
  · refine Kd.F_mono (Kd.F_grown HF10.out hg8 (fun j hj e => ?_)) (fun j hj => ?_)
    · rcases hj.1 with h | h
      · injection e with e; have := h.2; omega
      · exact hne j h e
    · rcases hj.1 with h | h
      · exact .inl h.1
      · exact .inr (by omega)
  · exact Kd.F_mono (Kd.F_grown HS10.out hg8 hne) (fun j hj => by have h9 : W.heap.size + 2 ≤ j := hj; (show W.heap.size ≤ j); omega)
  · exact Kd.F_mono (Kd.F_grown HLR.out.1 hg8 hne) (fun j hj => by have h9 : W.heap.size + 2 ≤ j := hj; (show W.heap.size ≤ j); omega)
  · exact Kd.F_mono (Kd.F_grown HLC.out.1 hg8 hne) (fun j hj => by have h9 : W.heap.size + 2 ≤ j := hj; (show W.heap.size ≤ j); omega)
  · exact HBW.out.grown hg8 HBW.out.size (fun j e => by injection e with e; omega)
end Go.Proofs.Ytiipbibbppgbgaa.T
namespace Go.Proofs.Ytiipbibbppgbgaa.T
open Go.RowKit Go.Proofs.Ytiipbibbppgbgaa.PTopFates Go.Proofs.YtiipbibbppgbgaaW.PrintWords Go.Proofs.YtiipbibbppgbgaaW.PrintLast Go.Proofs.YtiipbibbppgbgaaW.PrintMore
set_option linter.unusedVariables false
set_option linter.unusedSimpArgs false

theorem upd_self24 (T : Nat → Int) (k : Nat) : upd T k (T k) = T := by
  funext j
  unfold upd
  split
  · rename_i h; rw [h]
  · rfl
set_option maxHeartbeats 8000000 in
set_option maxRecDepth 100000 in
theorem settled24_calls (i0 i1 i2 : Int) (t : ByteArray) (A : Option Addr) (c : Nat) (B : Option Addr) (cb : Nat) (ns : List S43) (D : Nat → List Nat) (P T : Nat → Int) (okF okS : Nat → Prop) (k : Nat) (q : Int) (nb tb ob : Nat) (ok : Bool) (p2 : Int) (W : World) (hr : IsRun W okF okS ns P T A c B cb) (hf : FlowOk ns D) (hq : q = (k : Int)) (hk : k < ns.length) (hnb : W.heap[nb]? = some (.cells #[.int .i64 0] 2 (0, 0))) (htb : W.heap[tb]? = some (.cells #[.int .i64 (T k)] 3 (0, 0))) (hob : W.heap[ob]? = some (.cells #[.bool ok] 4 (0, 0))) (hP : P k = 2) (hp2 : p2 = if ok then 4 else if T k < (ns.getD k z43).f2 then 1 else 5) :
    Calls Try.prog 18 #[.agg #[.int .i64 i0, .int .i64 i1, .int .i64 i2, .string t, .slice A ns.length c, .slice B ns.length cb], .int .i64 q, .int .i64 0, .func (.func 24) #[] #[.pointer (some ⟨nb, 0, none⟩), .pointer (some ⟨tb, 0, none⟩), .pointer (some ⟨ob, 0, none⟩)]] W fun e W' => ∃ v, e = .returned (.tuple #[v, .int .i64 0]) ∧ IsChg W W' okF ns D P (upd P k p2) T i0 i1 i2 t v ∧ Below W.heap.size W W' := by
  have hu33 := Try.underlying33
  have hl := hf.len
  have h1 := hf.one
  obtain ⟨hrA, hrc, hrB, hrcb⟩ := hr
  obtain ⟨hb, hk1, hk2⟩ := allocs2 W (.cells #[.int .i64 i0, .int .i64 i1, .int .i64 i2, .string t, .slice A ns.length c, .slice B ns.length cb] 33) (.cells chZ 35)
  have hs : ((W.alloc (.cells #[.int .i64 i0, .int .i64 i1, .int .i64 i2, .string t, .slice A ns.length c, .slice B ns.length cb] 33)).alloc (.cells chZ 35)).heap.size = W.heap.size + 2 := by simp
  have HB := Aside0.mk hb
  have HA1 := Aside0.mk (Kd.F_below (Kd.F_bound hrA) hb)
  have HB1 := Aside0.mk (Kd.F_below (Kd.F_bound hrB) hb)
  have HK := Aside0.mk hk1
  have HZ := Aside0.mk hk2
  have HF := Aside0.mk hf
  have HCB := Aside0.mk hrcb
  have hcl := step24_calls i0 i1 i2 t A c B cb ns D P T _ _ k q nb tb ob ok p2 _ ⟨HA1.out, hrc, HB1.out, hrcb⟩ hf hq hk (blk_below hnb HB.out) (blk_below htb HB.out) (blk_below hob HB.out) hP hp2
  have HCL := Aside0.mk hcl
  clear hrA hrB hrc hrcb hb hk1 hk2 hf hcl hq hnb htb hob hP hp2
  go_enter Try.func18, Try.ntmps18
  go_upto_region 1 with (fail)
  generalize (W.alloc (.cells #[.int .i64 i0, .int .i64 i1, .int .i64 i2, .string t, .slice A ns.length c, .slice B ns.length cb] 33)).alloc (.cells chZ 35) = w1 at *
  have hx0 : w1.cell? ⟨W.heap.size, 0, none⟩ = some (.int .i64 i0) := (blk_cell HK.out 0).trans rfl
  have hx1 : w1.cell? ⟨W.heap.size, 1, none⟩ = some (.int .i64 i1) := (blk_cell HK.out 1).trans rfl
  have hx2 : w1.cell? ⟨W.heap.size, 2, none⟩ = some (.int .i64 i2) := (blk_cell HK.out 2).trans rfl
  have hx3 : w1.cell? ⟨W.heap.size, 3, none⟩ = some (.string t) := (blk_cell HK.out 3).trans rfl
  have hx4 : w1.cell? ⟨W.heap.size, 4, none⟩ = some (.slice A ns.length c) := (blk_cell HK.out 4).trans rfl
  have hx5 : w1.cell? ⟨W.heap.size, 5, none⟩ = some (.slice B ns.length cb) := (blk_cell HK.out 5).trans rfl
  go_upto_region 4 with (first | (go_at_call 21; go_loud (refine HCL.out.mono ?_; rintro e w2 ⟨A', c', g, cb', rfl, q1, q2, q3, q4⟩; have HF2 := Aside0.mk q1; have HC2 := Aside0.mk q2; have HR2 := Aside0.mk q3; have HB2 := Aside0.mk q4; clear q1 q2 q3 q4)))
  clear hx0 hx1 hx2 hx3 hx4 hx5 HCL
  have hgb := Kd.R_base HR2.out g rfl
  have hgl := Kd.R_lt HR2.out g rfl
  have hb3 := below_alloc (Below.refl w2.heap.size w2) (.cells #[.int .i64 i0, .int .i64 i1, .int .i64 i2, .string t, .slice A' ns.length c', .slice (some ⟨g, 0, none⟩) ns.length cb'] 33)
  have HT3 := Aside0.mk (blk_new w2 (.cells #[.int .i64 i0, .int .i64 i1, .int .i64 i2, .string t, .slice A' ns.length c', .slice (some ⟨g, 0, none⟩) ns.length cb'] 33))
  have HK3 := Aside0.mk (blk_below (blk_below HK.out HB2.out) hb3)
  have HZ3 := Aside0.mk (blk_below (blk_below HZ.out HB2.out) hb3)
  have HB3 := Aside0.mk (below_step (below_step HB.out HB2.out) hb3)
  have HF3 := Aside0.mk (Kd.F_below HF2.out hb3)
  have HR3 := Aside0.mk (Kd.R_below HR2.out hb3)
  have HG3 := Aside0.mk (Kd.F_below (Kd.F_below HB1.out HB2.out) hb3)
  have hs2 := HB2.out.size
  clear hb3 HK HZ HF2 HR2
  generalize w2.alloc (.cells #[.int .i64 i0, .int .i64 i1, .int .i64 i2, .string t, .slice A' ns.length c', .slice (some ⟨g, 0, none⟩) ns.length cb'] 33) = w3 at *
  have hE : EnvOk (⟨W.heap.size + 2, i0, i1, i2, t, A', c', g, cb', ns, fun j => ((okF j ∧ j < W.heap.size) ∨ W.heap.size + 2 ≤ j) ∧ j ≠ g, fun j => okS j ∧ j < W.heap.size, B, cb, stL ns P T, w3⟩ : Env) := ⟨fun j hj => hj.2, fun j hj => by (show j ≠ g); have := hj.2; omega, by (show W.heap.size + 2 ≤ w3.heap.size); have := HB3.out.size; have := blk_lt HT3.out; omega⟩
  have HSC := Aside0.mk (settle_calls (⟨W.heap.size + 2, i0, i1, i2, t, A', c', g, cb', ns, fun j => ((okF j ∧ j < W.heap.size) ∨ W.heap.size + 2 ≤ j) ∧ j ≠ g, fun j => okS j ∧ j < W.heap.size, B, cb, stL ns P T, w3⟩ : Env) hE D (upd P k p2) T h1 hl HF.out.names HF.out.deps HF.out.good HC2.out (stL_len _ _ _) (by (show (stL ns P T).length ≤ cb); rw [stL_len]; exact HCB.out) (Kd.F_mono HF3.out (fun j hj => by
    refine ⟨?_, hj.2⟩
    rcases hj.1 with h | h
    · exact .inl h
    · exact .inr (by omega))) (by (show Kd.F k53 w3 (fun j => okS j ∧ j < W.heap.size) B (stL ns P T).length (stL ns P T)); rw [stL_len]; exact HG3.out) (by have h := HR3.out; rw [upd_self24] at h; exact Kd.R_lower h (by (show W.heap.size + 2 ≤ _); omega)))
  simp only [stL_len] at HSC
  clear hE
  have hr4 : w3.cell? ⟨W.heap.size, 5, none⟩ = some (.slice B ns.length cb) := (blk_cell HK3.out 5).trans rfl
  have hy0 : w3.cell? ⟨w2.heap.size, 0, none⟩ = some (.int .i64 i0) := (blk_cell HT3.out 0).trans rfl
  have hy1 : w3.cell? ⟨w2.heap.size, 1, none⟩ = some (.int .i64 i1) := (blk_cell HT3.out 1).trans rfl
  have hy2 : w3.cell? ⟨w2.heap.size, 2, none⟩ = some (.int .i64 i2) := (blk_cell HT3.out 2).trans rfl
  have hy3 : w3.cell? ⟨w2.heap.size, 3, none⟩ = some (.string t) := (blk_cell HT3.out 3).trans rfl
  have hy4 : w3.cell? ⟨w2.heap.size, 4, none⟩ = some (.slice A' ns.length c') := (blk_cell HT3.out 4).trans rfl
  have hy5 : w3.cell? ⟨w2.heap.size, 5, none⟩ = some (.slice (some ⟨g, 0, none⟩) ns.length cb') := (blk_cell HT3.out 5).trans rfl
  go_wp2_with (first | (go_at_call 16; go_loud (refine HSC.out.mono ?_; rintro e w10 ⟨P2, AR, cR, AC, cC, rfl, q1, q2, q3, q4, q5, q6, q7, q8⟩; have hc1 : cameL (⟨W.heap.size + 2, i0, i1, i2, t, A', c', g, cb', ns, fun j => ((okF j ∧ j < W.heap.size) ∨ W.heap.size + 2 ≤ j) ∧ j ≠ g, fun j => okS j ∧ j < W.heap.size, B, cb, stL ns P T, w3⟩ : Env) P2 1 ns.length = came ns.length P P2 1 := cameL_came (⟨W.heap.size + 2, i0, i1, i2, t, A', c', g, cb', ns, fun j => ((okF j ∧ j < W.heap.size) ∨ W.heap.size + 2 ≤ j) ∧ j ≠ g, fun j => okS j ∧ j < W.heap.size, B, cb, stL ns P T, w3⟩ : Env) P T P2 1 rfl; have hc3 : cameL (⟨W.heap.size + 2, i0, i1, i2, t, A', c', g, cb', ns, fun j => ((okF j ∧ j < W.heap.size) ∨ W.heap.size + 2 ≤ j) ∧ j ≠ g, fun j => okS j ∧ j < W.heap.size, B, cb, stL ns P T, w3⟩ : Env) P2 3 ns.length = came ns.length P P2 3 := cameL_came (⟨W.heap.size + 2, i0, i1, i2, t, A', c', g, cb', ns, fun j => ((okF j ∧ j < W.heap.size) ∨ W.heap.size + 2 ≤ j) ∧ j ≠ g, fun j => okS j ∧ j < W.heap.size, B, cb, stL ns P T, w3⟩ : Env) P T P2 3 rfl; rw [hc1] at q6; rw [hc3] at q7; rw [hc1, hc3]; have hsz10 : w3.heap.size ≤ w10.heap.size := q8.2.1; have HZ10 : Aside0 (w10.heap[W.heap.size + 1]? = some (.cells chZ 35 (0, 0))) := Aside0.mk ((q8.2.2 (W.heap.size + 1) (blk_lt HZ3.out) (by omega)).trans HZ3.out); have HBW : Aside0 (Below W.heap.size W w10) := Aside0.mk (HB3.out.trans (q8.1.mono (by (show W.heap.size ≤ W.heap.size + 2); omega))); have HF10 := Aside0.mk q3; have HS10 := Aside0.mk (Kd.R_F (Kd.R_mono (Kd.R_bound q5) (ok' := fun j => W.heap.size + 2 ≤ j) (fun j hj => hj.2.1))); have HN10 := Aside0.mk (Kd.R_reads' q5).2.1; have HLR := Aside0.mk (And.intro (Kd.Q_F (Kd.Q_mono (Kd.Q_bound q6) (ok' := fun j => W.heap.size + 2 ≤ j) (fun j hj => by have h9 : w3.heap.size ≤ j := hj.2.1; have h8 := blk_lt HT3.out; omega))) (Kd.Q_reads' q6).2.1); have HLC := Aside0.mk (And.intro (Kd.Q_F (Kd.Q_mono (Kd.Q_bound q7) (ok' := fun j => W.heap.size + 2 ≤ j) (fun j hj => by have h9 : w3.heap.size ≤ j := hj.2.1; have h8 := blk_lt HT3.out; omega))) (Kd.Q_reads' q7).2.1); have HM := Aside0.mk q1; have HST := Aside0.mk q2; have hz0 : w10.cell? ⟨W.heap.size + 1, 0, none⟩ = some (.int .i64 0) := (blk_cell HZ10.out 0).trans rfl; have hzf0 := blk_frozen HZ10.out 0; have hz1 : w10.cell? ⟨W.heap.size + 1, 1, none⟩ = some (.int .i64 0) := (blk_cell HZ10.out 1).trans rfl; have hzf1 := blk_frozen HZ10.out 1; have hz2 : w10.cell? ⟨W.heap.size + 1, 2, none⟩ = some (.int .i64 0) := (blk_cell HZ10.out 2).trans rfl; have hzf2 := blk_frozen HZ10.out 2; have hz3 : w10.cell? ⟨W.heap.size + 1, 3, none⟩ = some (.string (⟨#[]⟩ : ByteArray)) := (blk_cell HZ10.out 3).trans rfl; have hzf3 := blk_frozen HZ10.out 3; have hz4 : w10.cell? ⟨W.heap.size + 1, 4, none⟩ = some (.slice none 0 0) := (blk_cell HZ10.out 4).trans rfl; have hzf4 := blk_frozen HZ10.out 4; have hz5 : w10.cell? ⟨W.heap.size + 1, 5, none⟩ = some (.slice none 0 0) := (blk_cell HZ10.out 5).trans rfl; have hzf5 := blk_frozen HZ10.out 5; have hz6 : w10.cell? ⟨W.heap.size + 1, 6, none⟩ = some (.slice none 0 0) := (blk_cell HZ10.out 6).trans rfl; have hzf6 := blk_frozen HZ10.out 6; have hz7 : w10.cell? ⟨W.heap.size + 1, 7, none⟩ = some (.slice none 0 0) := (blk_cell HZ10.out 7).trans rfl; have hzf7 := blk_frozen HZ10.out 7;  clear q1 q2 q3 q4 q5 q6 q7 q8 hc1 hc3)))
  have hg8 := setCells_grown w10 (W.heap.size + 1) [.int .i64 i0, .int .i64 i1, .int .i64 i2, .string t, .slice A' ns.length c', .slice (some ⟨g, 0, none⟩) ns.length cb', .slice AR (came ns.length P P2 1).length cR, .slice AC (came ns.length P P2 3).length cC]
  have hk8 := setCells_full HZ10.out [.int .i64 i0, .int .i64 i1, .int .i64 i2, .string t, .slice A' ns.length c', .slice (some ⟨g, 0, none⟩) ns.length cb', .slice AR (came ns.length P P2 1).length cR, .slice AC (came ns.length P P2 3).length cC] rfl
  simp only [World.setCells, Nat.zero_add, Nat.reduceAdd] at hg8 hk8
  refine bodyPost_ret (results_ct rfl _ _ (W.heap.size + 1) 35 #[.int .i64 i0, .int .i64 i1, .int .i64 i2, .string t, .slice A' ns.length c', .slice (some ⟨g, 0, none⟩) ns.length cb', .slice AR (came ns.length P P2 1).length cR, .slice AC (came ns.length P P2 3).length cC] (0, 0) _ rfl hk8 Try.underlying35 rfl (by kernel_rfl)) rfl ?_
  have hne : ∀ j, W.heap.size + 2 ≤ j → some j ≠ some (W.heap.size + 1) := fun j hj e => by injection e with e; omega
  refine ⟨_, rfl, ⟨P2, A', c', some ⟨g, 0, none⟩, cb', AR, cR, AC, cC, rfl, HM.out, HST.out, ⟨?_, HC2.out, ?_, HN10.out⟩, ⟨?_, HLR.out.2⟩, ⟨?_, HLC.out.2⟩⟩, ?_⟩
  · refine Kd.F_mono (Kd.F_grown HF10.out hg8 (fun j hj e => ?_)) (fun j hj => ?_)
    · rcases hj.1 with h | h
      · injection e with e; have := h.2; omega
      · exact hne j h e
    · rcases hj.1 with h | h
      · exact .inl h.1
      · exact .inr (by omega)
  · exact Kd.F_mono (Kd.F_grown HS10.out hg8 hne) (fun j hj => by have h9 : W.heap.size + 2 ≤ j := hj; (show W.heap.size ≤ j); omega)
  · exact Kd.F_mono (Kd.F_grown HLR.out.1 hg8 hne) (fun j hj => by have h9 : W.heap.size + 2 ≤ j := hj; (show W.heap.size ≤ j); omega)
  · exact Kd.F_mono (Kd.F_grown HLC.out.1 hg8 hne) (fun j hj => by have h9 : W.heap.size + 2 ≤ j := hj; (show W.heap.size ≤ j); omega)
  · exact HBW.out.grown hg8 HBW.out.size (fun j e => by injection e with e; omega)
end Go.Proofs.Ytiipbibbppgbgaa.T
namespace Go.Proofs.Ytiipbibbppgbgaa.T
open Go.RowKit Go.Proofs.Ytiipbibbppgbgaa.PTopFates Go.Proofs.YtiipbibbppgbgaaW.PrintWords Go.Proofs.YtiipbibbppgbgaaW.PrintLast Go.Proofs.YtiipbibbppgbgaaW.PrintMore
set_option linter.unusedVariables false
set_option linter.unusedSimpArgs false

theorem IsChg.put {W W1 w w' : World} {okF okF' : Nat → Prop} {ns : List S43} {D : Nat → List Nat} {P0 P1 T : Nat → Int} {i0 i1 i2 : Int} {t : ByteArray} {v : Value} {b : Nat}
    (h : IsChg W1 w okF' ns D P0 P1 T i0 i1 i2 t v) (hg : w.grownBy w' (some b)) (hb : b < W1.heap.size) (hF : ∀ k, okF' k → okF k ∧ k ≠ b) (hW : W.heap.size ≤ W1.heap.size) : IsChg W w' okF ns D P0 P1 T i0 i1 i2 t v := by
  obtain ⟨P, A, c, B, cb, AR, cR, AC, cC, hv, h1, h2, ⟨h3, h4, h5, h6⟩, ⟨h7, h8⟩, ⟨h9, h10⟩⟩ := h
  have hne : ∀ k, W1.heap.size ≤ k → some k ≠ some b := fun k hk e => by injection e with e; omega
  refine ⟨P, A, c, B, cb, AR, cR, AC, cC, hv, h1, h2, ⟨?_, h4, ?_, h6⟩, ⟨?_, h8⟩, ⟨?_, h10⟩⟩
  · refine Kd.F_mono (Kd.F_grown h3 hg (fun k hk e => ?_)) (fun k hk => ?_)
    · rcases hk with hk | hk
      · exact (hF k hk).2 (by injection e)
      · exact hne k hk e
    · rcases hk with hk | hk
      · exact .inl (hF k hk).1
      · exact .inr (Nat.le_trans hW hk)
  · exact Kd.F_mono (Kd.F_grown h5 hg hne) (fun k hk => Nat.le_trans hW hk)
  · exact Kd.F_mono (Kd.F_grown h7 hg hne) (fun k hk => Nat.le_trans hW hk)
  · exact Kd.F_mono (Kd.F_grown h9 hg hne) (fun k hk => Nat.le_trans hW hk)
theorem allocs4 (w : World) (a b c d : Obj) : Below w.heap.size w ((((w.alloc a).alloc b).alloc c).alloc d) ∧ ((((w.alloc a).alloc b).alloc c).alloc d).heap[w.heap.size]? = some a ∧ ((((w.alloc a).alloc b).alloc c).alloc d).heap[w.heap.size + 1]? = some b ∧ ((((w.alloc a).alloc b).alloc c).alloc d).heap[w.heap.size + 2]? = some c ∧ ((((w.alloc a).alloc b).alloc c).alloc d).heap[w.heap.size + 3]? = some d := by
  obtain ⟨h1, h2, h3, h4⟩ := allocs3 w a b c
  have hs : (((w.alloc a).alloc b).alloc c).heap.size = w.heap.size + 3 := by simp
  have k := blk_new (((w.alloc a).alloc b).alloc c) d
  rw [hs] at k
  exact ⟨below_alloc h1 _, blk_alloc h2 _, blk_alloc h3 _, blk_alloc h4 _, k⟩
theorem allocs5 (w : World) (a b c d e : Obj) : Below w.heap.size w (((((w.alloc a).alloc b).alloc c).alloc d).alloc e) ∧ (((((w.alloc a).alloc b).alloc c).alloc d).alloc e).heap[w.heap.size]? = some a ∧ (((((w.alloc a).alloc b).alloc c).alloc d).alloc e).heap[w.heap.size + 1]? = some b ∧ (((((w.alloc a).alloc b).alloc c).alloc d).alloc e).heap[w.heap.size + 2]? = some c ∧ (((((w.alloc a).alloc b).alloc c).alloc d).alloc e).heap[w.heap.size + 3]? = some d ∧ (((((w.alloc a).alloc b).alloc c).alloc d).alloc e).heap[w.heap.size + 4]? = some e := by
  obtain ⟨h1, h2, h3, h4, h5⟩ := allocs4 w a b c d
  have hs : ((((w.alloc a).alloc b).alloc c).alloc d).heap.size = w.heap.size + 4 := by simp
  have k := blk_new ((((w.alloc a).alloc b).alloc c).alloc d) e
  rw [hs] at k
  exact ⟨below_alloc h1 _, blk_alloc h2 _, blk_alloc h3 _, blk_alloc h4 _, blk_alloc h5 _, k⟩
set_option maxHeartbeats 8000000 in
set_option maxRecDepth 100000 in
theorem answer_calls (i0 i1 i2 : Int) (t : ByteArray) (A : Option Addr) (c : Nat) (B : Option Addr) (cb : Nat) (ns : List S43) (D : Nat → List Nat) (P T : Nat → Int) (okF okS : Nat → Prop) (k : Nat) (q : Int) (ok : Bool) (p2 : Int) (W : World) (hr : IsRun W okF okS ns P T A c B cb) (hf : FlowOk ns D) (hq : q = (k : Int)) (hk : k < ns.length) (hP : P k = 3) (hp2 : p2 = if ok then 4 else 5) :
    Calls Try.prog 8 #[.agg #[.int .i64 i0, .int .i64 i1, .int .i64 i2, .string t, .slice A ns.length c, .slice B ns.length cb], .int .i64 q, .int .i64 0, .bool ok] W fun e W' => ∃ v, e = .returned (.tuple #[v, .int .i64 0]) ∧ IsChg W W' okF ns D P (upd P k p2) T i0 i1 i2 t v ∧ Below W.heap.size W W' := by
  have hu33 := Try.underlying33
  obtain ⟨hrA, hrc, hrB, hrcb⟩ := hr
  obtain ⟨hb, hk1, hk2, hk3, hk4⟩ := allocs4 W (.cells #[.int .i64 i0, .int .i64 i1, .int .i64 i2, .string t, .slice A ns.length c, .slice B ns.length cb] 33) (.cells #[.int .i64 0] 2) (.cells #[.bool ok] 4) (.cells chZ 35)
  have hs : ((((W.alloc (.cells #[.int .i64 i0, .int .i64 i1, .int .i64 i2, .string t, .slice A ns.length c, .slice B ns.length cb] 33)).alloc (.cells #[.int .i64 0] 2)).alloc (.cells #[.bool ok] 4)).alloc (.cells chZ 35)).heap.size = W.heap.size + 4 := by simp
  have HB := Aside0.mk hb
  have HA1 := Aside0.mk (Kd.F_below (Kd.F_bound hrA) hb)
  have HB1 := Aside0.mk (Kd.F_below (Kd.F_bound hrB) hb)
  have HK := Aside0.mk hk1
  have HZ := Aside0.mk hk4
  have HCL := Aside0.mk (settled19_calls i0 i1 i2 t A c B cb ns D P T _ _ k q (W.heap.size + 1) (W.heap.size + 2) ok p2 _ ⟨HA1.out, hrc, HB1.out, hrcb⟩ hf hq hk hk2 hk3 hP hp2)
  have hnow : ((((W.alloc (.cells #[.int .i64 i0, .int .i64 i1, .int .i64 i2, .string t, .slice A ns.length c, .slice B ns.length cb] 33)).alloc (.cells #[.int .i64 0] 2)).alloc (.cells #[.bool ok] 4)).alloc (.cells chZ 35)).cell? ⟨W.heap.size + 1, 0, none⟩ = some (.int .i64 0) := (blk_cell hk2 0).trans rfl
  clear hrA hrB hrc hrcb hb hk1 hk2 hk3 hk4 hf hq hP hp2
  go_enter Try.func8, Try.ntmps8
  go_upto_region 1 with (fail)
  generalize ((((W.alloc (.cells #[.int .i64 i0, .int .i64 i1, .int .i64 i2, .string t, .slice A ns.length c, .slice B ns.length cb] 33)).alloc (.cells #[.int .i64 0] 2)).alloc (.cells #[.bool ok] 4)).alloc (.cells chZ 35)) = w1 at *
  have hx0 : w1.cell? ⟨W.heap.size, 0, none⟩ = some (.int .i64 i0) := (blk_cell HK.out 0).trans rfl
  have hx1 : w1.cell? ⟨W.heap.size, 1, none⟩ = some (.int .i64 i1) := (blk_cell HK.out 1).trans rfl
  have hx2 : w1.cell? ⟨W.heap.size, 2, none⟩ = some (.int .i64 i2) := (blk_cell HK.out 2).trans rfl
  have hx3 : w1.cell? ⟨W.heap.size, 3, none⟩ = some (.string t) := (blk_cell HK.out 3).trans rfl
  have hx4 : w1.cell? ⟨W.heap.size, 4, none⟩ = some (.slice A ns.length c) := (blk_cell HK.out 4).trans rfl
  have hx5 : w1.cell? ⟨W.heap.size, 5, none⟩ = some (.slice B ns.length cb) := (blk_cell HK.out 5).trans rfl
  go_wp2_with (first | (go_at_call 18; go_loud (refine HCL.out.mono ?_; rintro e w2 ⟨v, rfl, hch, hb⟩; have HCH := Aside0.mk hch; have HB2 := Aside0.mk (below_step HB.out hb); have HZ2 := Aside0.mk (blk_below HZ.out hb); obtain ⟨P2, A2, c2, B2, cb2, AR, cR, AC, cC, rfl, hrest⟩ := hch; have hz0 : w2.cell? ⟨W.heap.size + 3, 0, none⟩ = some (.int .i64 0) := (blk_cell HZ2.out 0).trans rfl; have hzf0 := blk_frozen HZ2.out 0; have hz1 : w2.cell? ⟨W.heap.size + 3, 1, none⟩ = some (.int .i64 0) := (blk_cell HZ2.out 1).trans rfl; have hzf1 := blk_frozen HZ2.out 1; have hz2 : w2.cell? ⟨W.heap.size + 3, 2, none⟩ = some (.int .i64 0) := (blk_cell HZ2.out 2).trans rfl; have hzf2 := blk_frozen HZ2.out 2; have hz3 : w2.cell? ⟨W.heap.size + 3, 3, none⟩ = some (.string (⟨#[]⟩ : ByteArray)) := (blk_cell HZ2.out 3).trans rfl; have hzf3 := blk_frozen HZ2.out 3; have hz4 : w2.cell? ⟨W.heap.size + 3, 4, none⟩ = some (.slice none 0 0) := (blk_cell HZ2.out 4).trans rfl; have hzf4 := blk_frozen HZ2.out 4; have hz5 : w2.cell? ⟨W.heap.size + 3, 5, none⟩ = some (.slice none 0 0) := (blk_cell HZ2.out 5).trans rfl; have hzf5 := blk_frozen HZ2.out 5; have hz6 : w2.cell? ⟨W.heap.size + 3, 6, none⟩ = some (.slice none 0 0) := (blk_cell HZ2.out 6).trans rfl; have hzf6 := blk_frozen HZ2.out 6; have hz7 : w2.cell? ⟨W.heap.size + 3, 7, none⟩ = some (.slice none 0 0) := (blk_cell HZ2.out 7).trans rfl; have hzf7 := blk_frozen HZ2.out 7;  clear hb hrest)))
  have hg8 := setCells_grown w2 (W.heap.size + 3) (#[.int .i64 i0, .int .i64 i1, .int .i64 i2, .string t, .slice A2 ns.length c2, .slice B2 ns.length cb2, .slice AR (came ns.length P P2 1).length cR, .slice AC (came ns.length P P2 3).length cC] : Array Value).toList
  have hk8 := setCells_full HZ2.out (#[.int .i64 i0, .int .i64 i1, .int .i64 i2, .string t, .slice A2 ns.length c2, .slice B2 ns.length cb2, .slice AR (came ns.length P P2 1).length cR, .slice AC (came ns.length P P2 3).length cC] : Array Value).toList rfl
  simp only [World.setCells, Nat.zero_add, Nat.reduceAdd] at hg8 hk8
  refine bodyPost_ret (results_ct rfl _ _ (W.heap.size + 3) 35 #[.int .i64 i0, .int .i64 i1, .int .i64 i2, .string t, .slice A2 ns.length c2, .slice B2 ns.length cb2, .slice AR (came ns.length P P2 1).length cR, .slice AC (came ns.length P P2 3).length cC] (0, 0) _ rfl hk8 Try.underlying35 rfl (by kernel_rfl)) rfl ?_
  exact ⟨_, rfl, HCH.out.put hg8 (by omega) (fun j hj => ⟨hj.1, by have := hj.2; omega⟩) (by omega), HB2.out.grown hg8 HB2.out.size (fun j e => by injection e with e; omega)⟩
set_option maxHeartbeats 8000000 in
set_option maxRecDepth 100000 in
theorem finish_calls (i0 i1 i2 : Int) (t : ByteArray) (A : Option Addr) (c : Nat) (B : Option Addr) (cb : Nat) (ns : List S43) (D : Nat → List Nat) (P T : Nat → Int) (okF okS : Nat → Prop) (k : Nat) (q : Int) (tr : Int) (ok : Bool) (p2 : Int) (W : World) (hr : IsRun W okF okS ns P T A c B cb) (hf : FlowOk ns D) (hq : q = (k : Int)) (hk : k < ns.length) (hP : P k = 2) (htr : tr = T k) (hp2 : p2 = if ok then 4 else if T k < (ns.getD k z43).f2 then 1 else 5) :
    Calls Try.prog 10 #[.agg #[.int .i64 i0, .int .i64 i1, .int .i64 i2, .string t, .slice A ns.length c, .slice B ns.length cb], .int .i64 q, .int .i64 0, .int .i64 tr, .bool ok] W fun e W' => ∃ v, e = .returned (.tuple #[v, .int .i64 0]) ∧ IsChg W W' okF ns D P (upd P k p2) T i0 i1 i2 t v ∧ Below W.heap.size W W' := by
  have hu33 := Try.underlying33
  obtain ⟨hrA, hrc, hrB, hrcb⟩ := hr
  obtain ⟨hb, hk1, hk2, hk3, hk4, hk5⟩ := allocs5 W (.cells #[.int .i64 i0, .int .i64 i1, .int .i64 i2, .string t, .slice A ns.length c, .slice B ns.length cb] 33) (.cells #[.int .i64 0] 2) (.cells #[.int .i64 tr] 3) (.cells #[.bool ok] 4) (.cells chZ 35)
  have hs : (((((W.alloc (.cells #[.int .i64 i0, .int .i64 i1, .int .i64 i2, .string t, .slice A ns.length c, .slice B ns.length cb] 33)).alloc (.cells #[.int .i64 0] 2)).alloc (.cells #[.int .i64 tr] 3)).alloc (.cells #[.bool ok] 4)).alloc (.cells chZ 35)).heap.size = W.heap.size + 5 := by simp
  have HB := Aside0.mk hb
  have HA1 := Aside0.mk (Kd.F_below (Kd.F_bound hrA) hb)
  have HB1 := Aside0.mk (Kd.F_below (Kd.F_bound hrB) hb)
  have HK := Aside0.mk hk1
  have HZ := Aside0.mk hk5
  have HCL := Aside0.mk (settled24_calls i0 i1 i2 t A c B cb ns D P T _ _ k q (W.heap.size + 1) (W.heap.size + 2) (W.heap.size + 3) ok p2 _ ⟨HA1.out, hrc, HB1.out, hrcb⟩ hf hq hk hk2 (by rw [← htr]; exact hk3) hk4 hP hp2)
  have hnow : (((((W.alloc (.cells #[.int .i64 i0, .int .i64 i1, .int .i64 i2, .string t, .slice A ns.length c, .slice B ns.length cb] 33)).alloc (.cells #[.int .i64 0] 2)).alloc (.cells #[.int .i64 tr] 3)).alloc (.cells #[.bool ok] 4)).alloc (.cells chZ 35)).cell? ⟨W.heap.size + 1, 0, none⟩ = some (.int .i64 0) := (blk_cell hk2 0).trans rfl
  clear hrA hrB hrc hrcb hb hk1 hk2 hk3 hk4 hk5 hf hq hP hp2 htr
  go_enter Try.func10, Try.ntmps10
  go_upto_region 1 with (fail)
  generalize (((((W.alloc (.cells #[.int .i64 i0, .int .i64 i1, .int .i64 i2, .string t, .slice A ns.length c, .slice B ns.length cb] 33)).alloc (.cells #[.int .i64 0] 2)).alloc (.cells #[.int .i64 tr] 3)).alloc (.cells #[.bool ok] 4)).alloc (.cells chZ 35)) = w1 at *
  have hx0 : w1.cell? ⟨W.heap.size, 0, none⟩ = some (.int .i64 i0) := (blk_cell HK.out 0).trans rfl
  have hx1 : w1.cell? ⟨W.heap.size, 1, none⟩ = some (.int .i64 i1) := (blk_cell HK.out 1).trans rfl
  have hx2 : w1.cell? ⟨W.heap.size, 2, none⟩ = some (.int .i64 i2) := (blk_cell HK.out 2).trans rfl
  have hx3 : w1.cell? ⟨W.heap.size, 3, none⟩ = some (.string t) := (blk_cell HK.out 3).trans rfl
  have hx4 : w1.cell? ⟨W.heap.size, 4, none⟩ = some (.slice A ns.length c) := (blk_cell HK.out 4).trans rfl
  have hx5 : w1.cell? ⟨W.heap.size, 5, none⟩ = some (.slice B ns.length cb) := (blk_cell HK.out 5).trans rfl
  go_wp2_with (first | (go_at_call 18; go_loud (refine HCL.out.mono ?_; rintro e w2 ⟨v, rfl, hch, hb⟩; have HCH := Aside0.mk hch; have HB2 := Aside0.mk (below_step HB.out hb); have HZ2 := Aside0.mk (blk_below HZ.out hb); obtain ⟨P2, A2, c2, B2, cb2, AR, cR, AC, cC, rfl, hrest⟩ := hch; have hz0 : w2.cell? ⟨W.heap.size + 4, 0, none⟩ = some (.int .i64 0) := (blk_cell HZ2.out 0).trans rfl; have hzf0 := blk_frozen HZ2.out 0; have hz1 : w2.cell? ⟨W.heap.size + 4, 1, none⟩ = some (.int .i64 0) := (blk_cell HZ2.out 1).trans rfl; have hzf1 := blk_frozen HZ2.out 1; have hz2 : w2.cell? ⟨W.heap.size + 4, 2, none⟩ = some (.int .i64 0) := (blk_cell HZ2.out 2).trans rfl; have hzf2 := blk_frozen HZ2.out 2; have hz3 : w2.cell? ⟨W.heap.size + 4, 3, none⟩ = some (.string (⟨#[]⟩ : ByteArray)) := (blk_cell HZ2.out 3).trans rfl; have hzf3 := blk_frozen HZ2.out 3; have hz4 : w2.cell? ⟨W.heap.size + 4, 4, none⟩ = some (.slice none 0 0) := (blk_cell HZ2.out 4).trans rfl; have hzf4 := blk_frozen HZ2.out 4; have hz5 : w2.cell? ⟨W.heap.size + 4, 5, none⟩ = some (.slice none 0 0) := (blk_cell HZ2.out 5).trans rfl; have hzf5 := blk_frozen HZ2.out 5; have hz6 : w2.cell? ⟨W.heap.size + 4, 6, none⟩ = some (.slice none 0 0) := (blk_cell HZ2.out 6).trans rfl; have hzf6 := blk_frozen HZ2.out 6; have hz7 : w2.cell? ⟨W.heap.size + 4, 7, none⟩ = some (.slice none 0 0) := (blk_cell HZ2.out 7).trans rfl; have hzf7 := blk_frozen HZ2.out 7;  clear hb hrest)))
  have hg8 := setCells_grown w2 (W.heap.size + 4) (#[.int .i64 i0, .int .i64 i1, .int .i64 i2, .string t, .slice A2 ns.length c2, .slice B2 ns.length cb2, .slice AR (came ns.length P P2 1).length cR, .slice AC (came ns.length P P2 3).length cC] : Array Value).toList
  have hk8 := setCells_full HZ2.out (#[.int .i64 i0, .int .i64 i1, .int .i64 i2, .string t, .slice A2 ns.length c2, .slice B2 ns.length cb2, .slice AR (came ns.length P P2 1).length cR, .slice AC (came ns.length P P2 3).length cC] : Array Value).toList rfl
  simp only [World.setCells, Nat.zero_add, Nat.reduceAdd] at hg8 hk8
  refine bodyPost_ret (results_ct rfl _ _ (W.heap.size + 4) 35 #[.int .i64 i0, .int .i64 i1, .int .i64 i2, .string t, .slice A2 ns.length c2, .slice B2 ns.length cb2, .slice AR (came ns.length P P2 1).length cR, .slice AC (came ns.length P P2 3).length cC] (0, 0) _ rfl hk8 Try.underlying35 rfl (by kernel_rfl)) rfl ?_
  exact ⟨_, rfl, HCH.out.put hg8 (by omega) (fun j hj => ⟨hj.1, by have := hj.2; omega⟩) (by omega), HB2.out.grown hg8 HB2.out.size (fun j e => by injection e with e; omega)⟩
set_option maxHeartbeats 8000000 in
set_option maxRecDepth 100000 in
theorem lease_calls (i0 i1 i2 : Int) (t : ByteArray) (A : Option Addr) (c : Nat) (B : Option Addr) (cb : Nat) (ns : List S43) (D : Nat → List Nat) (P T : Nat → Int) (okF okS : Nat → Prop) (k : Nat) (q : Int) (W : World) (hr : IsRun W okF okS ns P T A c B cb) (hf : FlowOk ns D) (hq : q = (k : Int)) (hk : k < ns.length) (hP : P k = 1) (hT0 : 0 ≤ T k) (hT1 : T k < 100) :
    Calls Try.prog 9 #[.agg #[.int .i64 i0, .int .i64 i1, .int .i64 i2, .string t, .slice A ns.length c, .slice B ns.length cb], .int .i64 q, .int .i64 0] W fun e W' => ∃ A2 c2 B2 cb2, e = .returned (.tuple #[.agg #[.int .i64 i0, .int .i64 i1, .int .i64 i2, .string t, .slice A2 ns.length c2, .slice B2 ns.length cb2], .int .i64 0]) ∧ IsRun W' (fun j => okF j ∨ W.heap.size ≤ j) (fun j => W.heap.size ≤ j) ns (upd P k 2) (upd T k (T k + 1)) A2 c2 B2 cb2 ∧ Below W.heap.size W W' := by
  have hu33 := Try.underlying33
  obtain ⟨hrA, hrc, hrB, hrcb⟩ := hr
  obtain ⟨hb, hk1, hk2, hk3⟩ := allocs3 W (.cells #[.int .i64 i0, .int .i64 i1, .int .i64 i2, .string t, .slice A ns.length c, .slice B ns.length cb] 33) (.cells #[.int .i64 0] 2) (.cells runZ 33)
  have hs : (((W.alloc (.cells #[.int .i64 i0, .int .i64 i1, .int .i64 i2, .string t, .slice A ns.length c, .slice B ns.length cb] 33)).alloc (.cells #[.int .i64 0] 2)).alloc (.cells runZ 33)).heap.size = W.heap.size + 3 := by simp
  have HB := Aside0.mk hb
  have HA1 := Aside0.mk (Kd.F_below (Kd.F_bound hrA) hb)
  have HB1 := Aside0.mk (Kd.F_below (Kd.F_bound hrB) hb)
  have HK := Aside0.mk hk1
  have HZ := Aside0.mk hk3
  have HCL := Aside0.mk (step22_calls i0 i1 i2 t A c B cb ns D P T _ _ k q (W.heap.size + 1) _ ⟨HA1.out, hrc, HB1.out, hrcb⟩ hf hq hk hk2 hP hT0 hT1)
  clear hrA hrB hrc hrcb hb hk1 hk2 hk3 hf hq hP hT0 hT1
  go_enter Try.func9, Try.ntmps9
  go_upto_region 1 with (fail)
  generalize (((W.alloc (.cells #[.int .i64 i0, .int .i64 i1, .int .i64 i2, .string t, .slice A ns.length c, .slice B ns.length cb] 33)).alloc (.cells #[.int .i64 0] 2)).alloc (.cells runZ 33)) = w1 at *
  have hx0 : w1.cell? ⟨W.heap.size, 0, none⟩ = some (.int .i64 i0) := (blk_cell HK.out 0).trans rfl
  have hx1 : w1.cell? ⟨W.heap.size, 1, none⟩ = some (.int .i64 i1) := (blk_cell HK.out 1).trans rfl
  have hx2 : w1.cell? ⟨W.heap.size, 2, none⟩ = some (.int .i64 i2) := (blk_cell HK.out 2).trans rfl
  have hx3 : w1.cell? ⟨W.heap.size, 3, none⟩ = some (.string t) := (blk_cell HK.out 3).trans rfl
  have hx4 : w1.cell? ⟨W.heap.size, 4, none⟩ = some (.slice A ns.length c) := (blk_cell HK.out 4).trans rfl
  have hx5 : w1.cell? ⟨W.heap.size, 5, none⟩ = some (.slice B ns.length cb) := (blk_cell HK.out 5).trans rfl
  go_wp2_with (first | (go_at_call 21; go_loud (refine HCL.out.mono ?_; rintro e w2 ⟨A2, c2, g, cb2, rfl, q1, q2, q3, q4⟩; have HF2 := Aside0.mk q1; have HC2 := Aside0.mk q2; have HR2 := Aside0.mk q3; have HB2 := Aside0.mk (below_step HB.out q4); have HZ2 := Aside0.mk (blk_below HZ.out q4); have hz0 : w2.cell? ⟨W.heap.size + 2, 0, none⟩ = some (.int .i64 0) := (blk_cell HZ2.out 0).trans rfl; have hzf0 := blk_frozen HZ2.out 0; have hz1 : w2.cell? ⟨W.heap.size + 2, 1, none⟩ = some (.int .i64 0) := (blk_cell HZ2.out 1).trans rfl; have hzf1 := blk_frozen HZ2.out 1; have hz2 : w2.cell? ⟨W.heap.size + 2, 2, none⟩ = some (.int .i64 0) := (blk_cell HZ2.out 2).trans rfl; have hzf2 := blk_frozen HZ2.out 2; have hz3 : w2.cell? ⟨W.heap.size + 2, 3, none⟩ = some (.string (⟨#[]⟩ : ByteArray)) := (blk_cell HZ2.out 3).trans rfl; have hzf3 := blk_frozen HZ2.out 3; have hz4 : w2.cell? ⟨W.heap.size + 2, 4, none⟩ = some (.slice none 0 0) := (blk_cell HZ2.out 4).trans rfl; have hzf4 := blk_frozen HZ2.out 4; have hz5 : w2.cell? ⟨W.heap.size + 2, 5, none⟩ = some (.slice none 0 0) := (blk_cell HZ2.out 5).trans rfl; have hzf5 := blk_frozen HZ2.out 5;  clear q1 q2 q3 q4)))
  have hg8 := setCells_grown w2 (W.heap.size + 2) (#[.int .i64 i0, .int .i64 i1, .int .i64 i2, .string t, .slice A2 ns.length c2, .slice (some ⟨g, 0, none⟩) ns.length cb2] : Array Value).toList
  have hk8 := setCells_full HZ2.out (#[.int .i64 i0, .int .i64 i1, .int .i64 i2, .string t, .slice A2 ns.length c2, .slice (some ⟨g, 0, none⟩) ns.length cb2] : Array Value).toList rfl
  simp only [World.setCells, Nat.zero_add, Nat.reduceAdd] at hg8 hk8
  refine bodyPost_ret (results_ct rfl _ _ (W.heap.size + 2) 33 #[.int .i64 i0, .int .i64 i1, .int .i64 i2, .string t, .slice A2 ns.length c2, .slice (some ⟨g, 0, none⟩) ns.length cb2] (0, 0) _ rfl hk8 Try.underlying33 rfl (by kernel_rfl)) rfl ?_
  have hr9 := Kd.R_reads' HR2.out
  refine ⟨A2, c2, some ⟨g, 0, none⟩, cb2, rfl, ⟨?_, HC2.out, ?_, hr9.2.1⟩, HB2.out.grown hg8 HB2.out.size (fun j e => by injection e with e; omega)⟩
  · refine Kd.F_mono (Kd.F_grown HF2.out hg8 (fun j hj e => ?_)) (fun j hj => ?_)
    · injection e with e
      rcases hj.1 with h | h
      · have := h.2; omega
      · omega
    · rcases hj.1 with h | h
      · exact .inl h.1
      · exact .inr (by omega)
  · exact Kd.F_mono (Kd.F_grown (Kd.R_F (Kd.R_mono (Kd.R_bound HR2.out) (ok' := fun j => w1.heap.size ≤ j) (fun j hj => hj.2.1))) hg8 (fun j hj e => by injection e with e; have h9 : w1.heap.size ≤ j := hj; omega)) (fun j hj => by have h9 : w1.heap.size ≤ j := hj; (show W.heap.size ≤ j); omega)
end Go.Proofs.Ytiipbibbppgbgaa.T
