/- The law's walk: the flow, its run, the loop of picks, the look at its end. -/
import Derived.Test.YtiipbibbppgbgaaMD
import Derived.IntWalk
import Derived.Deep.QuietTactic
import Derived.BigQuiet
namespace Go.Proofs.Ytiipbibbppgbgaa.T
open Go.RowKit Go.Proofs.Ytiipbibbppgbgaa.PTopFates Go.Proofs.YtiipbibbppgbgaaW.PrintWords Go.Proofs.YtiipbibbppgbgaaW.PrintLast Go.Proofs.YtiipbibbppgbgaaW.PrintMore
set_option linter.unusedVariables false
attribute [local go_sem] max2_int min2_int
set_option linter.unusedSimpArgs false

set_option maxHeartbeats 16000000 in
set_option maxRecDepth 100000 in
theorem topFates_walk (AL : Option Addr) (cL : Nat) (l : List S50) (AW : Option Addr) (cW : Nat) (well : List Bool) (AP : Option Addr) (cP : Nat) (picks : List Int) (W : World) (hl : Kd.C k50 W AL l.length l) (hcl : l.length ≤ cL) (hw : Kd.C Kd.bool W AW well.length well) (hp : Kd.C (Kd.int .i64) W AP picks.length picks) :
    Calls Try.prog 3 #[.slice AL l.length cL, .slice AW well.length cW, .slice AP picks.length cP] W fun e W' => e = .returned (.bool true) ∧ Below W.heap.size W W' := by
  have hu33 := Try.underlying33
  have hu35 := Try.underlying35
  have hu27 := Try.underlying27
  have hu43 := Try.underlying43
  have hu53 := Try.underlying53
  have hu50 := Try.underlying50
  obtain ⟨K, hK⟩ := flow_spec (⟨#[102]⟩ : ByteArray) l 1 ⟨#[103]⟩
  have hb1 := below_alloc (Below.refl W.heap.size W) (.cells #[.slice AW well.length cW] 23)
  have HK1 := Aside0.mk (blk_new W (.cells #[.slice AW well.length cW] 23))
  have HB1 := Aside0.mk hb1
  have HFC := Aside0.mk (precincttop_flow.calls K (⟨#[102]⟩ : ByteArray) AL cL l 1 ⟨#[103]⟩ _ _ (W.alloc (.cells #[.slice AW well.length cW] 23)) (Kd.C_below hl hb1) hcl hK)
  have HFO := Aside0.mk (flow_ok l)
  have HNL : Aside0 ((l ≠ [] → (flowL 1 ⟨#[103]⟩ l).length ≤ l.length) ∧ (l = [] → (flowL 1 ⟨#[103]⟩ l).length = 1)) := Aside0.mk ⟨fun h => by rw [flowL_len _ _ l h]; omega, fun h => by rw [h, flowL_nil]; rfl⟩
  have HLc := Aside0.mk hl
  have HWc := Aside0.mk hw
  have HPc := Aside0.mk hp
  have hs1 : (W.alloc (.cells #[.slice AW well.length cW] 23)).heap.size = W.heap.size + 1 := by simp
  clear hK hb1 hl hcl hw hp
  generalize flowL 1 ⟨#[103]⟩ l = ns at *
  have hnl : ns.length ≤ 12 := HFO.out.len
  have hn1 : 1 ≤ ns.length := HFO.out.one
  go_enter Try.func3, Try.ntmps3
  go_upto_region 1 with (fail)
  generalize W.alloc (.cells #[.slice AW well.length cW] 23) = w1 at *
  go_upto_region 2 with (first | (go_at_call 4; go_loud (refine HFC.out.mono ?_; rintro e w2 ⟨v1, rfl, hS, hb⟩; obtain ⟨A1, c1, rfl⟩ := Kd.R_slice (Kd.S_R hS); have HS := Aside0.mk hS; have HB2 := Aside0.mk (below_step HB1.out hb); have HK2 := Aside0.mk (blk_below HK1.out hb); have hs2 := hb.size; clear hS hb)))
  have hb3 := below_alloc (Below.refl w2.heap.size w2) (.cells #[.string (⟨#[102]⟩ : ByteArray), .slice A1 ns.length c1] 27)
  have HK7 := Aside0.mk (blk_new w2 (.cells #[.string (⟨#[102]⟩ : ByteArray), .slice A1 ns.length c1] 27))
  have HB3 := Aside0.mk (below_step HB2.out hb3)
  have HK3 := Aside0.mk (blk_below HK2.out hb3)
  have HF3 := Aside0.mk (Kd.F_below (Kd.F_bound (Kd.S_F HS.out)) hb3)
  have HC1 := Aside0.mk (Kd.R_reads' (Kd.S_R HS.out)).2.1
  have hs3 := hb3.size
  clear hb3 HS HK1 HK2
  generalize w2.alloc (.cells #[.string (⟨#[102]⟩ : ByteArray), .slice A1 ns.length c1] 27) = w3 at *
  have hx0 : w3.cell? ⟨w2.heap.size, 0, none⟩ = some (.string (⟨#[102]⟩ : ByteArray)) := (blk_cell HK7.out 0).trans rfl
  have hx1 : w3.cell? ⟨w2.heap.size, 1, none⟩ = some (.slice A1 ns.length c1) := (blk_cell HK7.out 1).trans rfl
  have HBC := Aside0.mk (begin_calls 1 (-1) 0 (⟨#[102]⟩ : ByteArray) A1 c1 ns (depsL l) _ w3 HF3.out HC1.out letters_f HFO.out)
  go_upto_region 3 with (first | (go_at_call 5; go_loud (refine HBC.out.mono ?_; rintro e w4 ⟨v, rfl, ⟨P, A, c, B, cb, AR, cR, AC, cC, rfl, hM, hSt, hRun, hLR, hLC⟩, hb⟩; have HM := Aside0.mk hM; have HST := Aside0.mk hSt; have HRUN := Aside0.mk hRun; have HLR := Aside0.mk hLR; have HLC := Aside0.mk hLC; have HB4 := Aside0.mk (below_step HB3.out hb); have HK74 := Aside0.mk (blk_below HK7.out hb); have HK4 := Aside0.mk (blk_below HK3.out hb); have HF4 := Aside0.mk (Kd.F_below HF3.out hb); have hs4 := hb.size; clear hM hSt hRun hLR hLC hb)))
  have hb5 := below_alloc (Below.refl w4.heap.size w4) (.cells #[.int .i64 1, .int .i64 (-1), .int .i64 0, .string (⟨#[102]⟩ : ByteArray), .slice A ns.length c, .slice B ns.length cb, .slice AR (came ns.length (fun _ => 0) P 1).length cR, .slice AC (came ns.length (fun _ => 0) P 3).length cC] 35)
  have HK8 := Aside0.mk (blk_new w4 (.cells #[.int .i64 1, .int .i64 (-1), .int .i64 0, .string (⟨#[102]⟩ : ByteArray), .slice A ns.length c, .slice B ns.length cb, .slice AR (came ns.length (fun _ => 0) P 1).length cR, .slice AC (came ns.length (fun _ => 0) P 3).length cC] 35))
  have HB5 := Aside0.mk (below_step HB4.out hb5)
  have HK75 := Aside0.mk (blk_below HK74.out hb5)
  have HK5 := Aside0.mk (blk_below HK4.out hb5)
  have HF5 := Aside0.mk (Kd.F_below HF4.out hb5)
  have HRUN5 := Aside0.mk (HRUN.out.bound.step (fun k hk hlt => hb5.block k hlt) (fun k hk hlt => hb5.block k hlt))
  have HLR5 := Aside0.mk (And.intro (Kd.F_below (Kd.F_bound HLR.out.1) hb5) HLR.out.2)
  have HLC5 := Aside0.mk (And.intro (Kd.F_below (Kd.F_bound HLC.out.1) hb5) HLC.out.2)
  have hs5 := hb5.size
  clear hb5 hx0 hx1 HRUN HLR HLC HK7 HK74 HK3 HK4 HF3 HF4 HBC HFC
  generalize w4.alloc (.cells #[.int .i64 1, .int .i64 (-1), .int .i64 0, .string (⟨#[102]⟩ : ByteArray), .slice A ns.length c, .slice B ns.length cb, .slice AR (came ns.length (fun _ => 0) P 1).length cR, .slice AC (came ns.length (fun _ => 0) P 3).length cC] 35) = w5 at *
  have HRC := Aside0.mk (runs_calls w5)
  go_upto_region 6 with (first | (go_at_call 6; go_loud (refine HRC.out.mono ?_; rintro e w6 ⟨rfl, hb⟩; have HB6 := Aside0.mk (below_step HB5.out hb); have HB56 := Aside0.mk hb; clear hb)))
  have hx1 : w6.cell? ⟨w2.heap.size, 1, none⟩ = some (.slice A1 ns.length c1) := (blk_cell (blk_below HK75.out HB56.out) 1).trans rfl
  go_upto_region 7 with (first | ((with_reducible refine gate_dst (N := 44) rfl ?_); go_loud (refine Kd.R_make (Kd.int .i64) (w0 := w6) w6.heap.size 3 rfl rfl 24 (.tmp 43) (.tmp 43) rfl (ns.length : Int) (by first | (go_simp; done) | (go_simp; rfl)) (by first | (go_simp; done) | (go_simp; rfl)) Try.underlying24 (.int .i64 0) 8 info3 rfl (by decide) (by decide) 0 (ok := fun _ => True) (okp := fun _ => True) rfl (fun _ h => h) trivial (by omega) (by omega) (Below.refl _ _) (Nat.le_refl _) ?_; intro v11 w7 hr hb hg hat; have HR7 := Aside0.mk hr; have HB67 := Aside0.mk hb; clear hr hb hg hat hx1)))
  obtain ⟨g11, c11, he, hg11, hg11', hgc⟩ := Kd.R_form HR7.out (by rw [List.length_replicate]; omega)
  rw [List.length_replicate, Int.toNat_natCast] at he
  subst he
  have HR7' := Aside0.mk (show Kd.R (Kd.int .i64) 3 w7 W.heap.size (fun _ => True) (.slice (some ⟨g11, 0, none⟩) ns.length c11) (tkL ns.length (fun _ => 0)) by
    have := Kd.R_lower HR7.out (base' := W.heap.size) HB6.out.size
    rwa [Int.toNat_natCast, ← tkL_zero] at this)
  clear HR7 hgc
  have hs56 := HB56.out.size
  have hs67 := HB67.out.size
  have hdr : Below w7.heap.size w7 w7.drew := below_drew1 (Below.refl _ _)
  have HB58 := Aside0.mk (below_step (below_step HB56.out HB67.out) hdr)
  have HR8 := Aside0.mk (Kd.R_below HR7'.out hdr)
  have HB8 := Aside0.mk (below_step HB5.out HB58.out)
  have HK88 := Aside0.mk (blk_below HK8.out HB58.out)
  have hs8 : w7.drew.heap.size = w7.heap.size := rfl
  have K0 : w7.drew.cell? ⟨w4.heap.size, 6, none⟩ = some (.slice AR (came ns.length (fun _ => 0) P 1).length cR) ∧ w7.drew.cell? ⟨w4.heap.size, 7, none⟩ = some (.slice AC (came ns.length (fun _ => 0) P 3).length cC) := ⟨(blk_cell HK88.out 6).trans rfl, (blk_cell HK88.out 7).trans rfl⟩
  refine wp_region_held_drew (S := fun w => w.cell? ⟨w4.heap.size, 6, none⟩ = some (.slice AR (came ns.length (fun _ => 0) P 1).length cR) ∧ w.cell? ⟨w4.heap.size, 7, none⟩ = some (.slice AC (came ns.length (fun _ => 0) P 3).length cC)) (by kernel_rfl) K0 (fun hHeld => ?_)
  clear K0 hdr HR7'
  generalize w7.drew = w8 at *
  refine wpAnyH_take (i := 0) (oi := { dst := some 45, op := Op.fieldAddr 35 (Operand.tmp 8) 1, type := 0, pos := "top15.go:57", after := #[], guard := none }) (v := ?v0) rfl (by kernel_rfl) (by kernel_rfl) (by kernel_rfl) (fun _ _ _ h => h) (Or.inl ⟨by rfl, ?y0⟩) (by assumption) ?_
  case y0 => (intro w hSw; (try dsimp only at hSw); go_simp; try with_reducible rfl)
  (try simp only [Act.put, List.setIfInBounds_toArray, List.set_cons_zero, List.set_cons_succ])
  refine wpAnyH_take (i := 1) (oi := { dst := some 46, op := Op.load 24 (Operand.tmp 45), type := 24, pos := "top15.go:57", after := #[{ on := 0, ground := Ground.data }], guard := none }) (v := ?v1) rfl (by kernel_rfl) (by kernel_rfl) (by kernel_rfl) (fun _ _ _ h => h) (Or.inl ⟨by rfl, ?y1⟩) (by assumption) ?_
  case y1 => (intro w hSw; (try dsimp only at hSw); go_simp; try with_reducible rfl)
  (try simp only [Act.put, List.setIfInBounds_toArray, List.set_cons_zero, List.set_cons_succ])
  refine wpAnyH_take (i := 3) (oi := { dst := some 48, op := Op.fieldAddr 35 (Operand.tmp 8) 2, type := 0, pos := "top15.go:57", after := #[], guard := none }) (v := ?v3) rfl (by kernel_rfl) (by kernel_rfl) (by kernel_rfl) (fun _ _ _ h => h) (Or.inl ⟨by rfl, ?y3⟩) (by assumption) ?_
  case y3 => (intro w hSw; (try dsimp only at hSw); go_simp; try with_reducible rfl)
  (try simp only [Act.put, List.setIfInBounds_toArray, List.set_cons_zero, List.set_cons_succ])
  refine wpAnyH_take (i := 4) (oi := { dst := some 49, op := Op.load 24 (Operand.tmp 48), type := 24, pos := "top15.go:57", after := #[{ on := 3, ground := Ground.data }], guard := none }) (v := ?v4) rfl (by kernel_rfl) (by kernel_rfl) (by kernel_rfl) (fun _ _ _ h => h) (Or.inl ⟨by rfl, ?y4⟩) (by assumption) ?_
  case y4 => (intro w hSw; (try dsimp only at hSw); go_simp; try with_reducible rfl)
  (try simp only [Act.put, List.setIfInBounds_toArray, List.set_cons_zero, List.set_cons_succ])
  have hl1 : (came ns.length (fun _ => 0) P 1).length ≤ 12 := Nat.le_trans (came_len _ _ _ _) hnl
  have hl3 : (came ns.length (fun _ => 0) P 3).length ≤ 12 := Nat.le_trans (came_len _ _ _ _) hnl
  have HCR := Aside0.mk (Kd.F_now (Kd.F_below HLR5.out.1 HB58.out))
  refine wpAnyH_ready (rs := [2]) (by kernel_rfl) (by simp) ?_
  refine AllReadyH.cons (o := { dst := some 47, op := Op.call { callee := Callee.builtin Builtin.append, args := #[Operand.const (Value.slice none 0 0), Operand.tmp 46], argTypes := #[24, 24] }, type := 24, pos := "top15.go:57", after := #[{ on := 1, ground := Ground.data }], guard := none }) rfl (fun K hK => ?_) AllReadyH.nil
  obtain ⟨v47, w9, hrun9, ho9, hg9, hat9⟩ := OpenRow.append cR 24 (OpenRow.nil w8 W.heap.size) HCR.out (by simp) (by omega) HB8.out.size
  refine event_step (v := v47) (w1 := w9) rfl (append_hrun (.const (.slice none 0 0)) (.tmp 46) rfl (by first | (go_simp; done) | (go_simp; rfl)) (by first | (go_simp; done) | (go_simp; rfl)) hrun9) ?_
  have HB89 := Aside0.mk (show Below w8.heap.size w8 w9 from (Below.refl _ _).grown hg9 (Nat.le_refl _) (fun k e => by simp [Value.ownBlock] at e))
  have HK9 := Aside0.mk (blk_below HK88.out HB89.out)
  have HO9 := Aside0.mk ho9
  have HA9 := Aside0.mk (show ∀ k, v47.ownBlock = some k → w8.heap.size ≤ k from fun k e => by
    rcases hat9 with h | ⟨b, h, hb⟩
    · rw [h] at e; simp [Value.ownBlock] at e
    · rw [h] at e; injection e with e; omega)
  have K9 : w9.cell? ⟨w4.heap.size, 6, none⟩ = some (.slice AR (came ns.length (fun _ => 0) P 1).length cR) ∧ w9.cell? ⟨w4.heap.size, 7, none⟩ = some (.slice AC (came ns.length (fun _ => 0) P 3).length cC) := ⟨(blk_cell HK9.out 6).trans rfl, (blk_cell HK9.out 7).trans rfl⟩
  clear hrun9 ho9 hg9 hat9
  refine hK.out _ _ K9 (fun hHeld2 => ?_)
  clear hK K hHeld
  have hHeld := hHeld2
  clear hHeld2
  (try simp only [Act.put, List.setIfInBounds_toArray, List.set_cons_zero, List.set_cons_succ])
  have HCC := Aside0.mk (Kd.F_now (Kd.F_below HLC5.out.1 (below_step HB58.out HB89.out)))
  have hs9 := HB89.out.size
  refine wpAnyH_ready (rs := [5]) (by kernel_rfl) (by simp) ?_
  refine AllReadyH.cons (o := { dst := some 50, op := Op.call { callee := Callee.builtin Builtin.append, args := #[Operand.tmp 47, Operand.tmp 49], argTypes := #[24, 24] }, type := 24, pos := "top15.go:57", after := #[{ on := 2, ground := Ground.data }, { on := 4, ground := Ground.data }, { on := 2, ground := Ground.chain }], guard := none }) rfl (fun K hK => ?_) AllReadyH.nil
  obtain ⟨v50, w10, hrun10, ho10, hg10, hat10⟩ := OpenRow.append cC 24 HO9.out HCC.out (by simp; omega) (by omega) (by have := HB8.out.size; omega)
  refine event_step (v := v50) (w1 := w10) rfl (append_hrun (.tmp 47) (.tmp 49) rfl (by first | (go_simp; done) | (go_simp; rfl)) (by first | (go_simp; done) | (go_simp; rfl)) hrun10) ?_
  rw [List.nil_append] at ho10
  have HB810 := Aside0.mk (show Below w8.heap.size w8 w10 from HB89.out.grown hg10 hs9 (fun k e => HA9.out k e))
  have HK10 := Aside0.mk (blk_below HK88.out HB810.out)
  have HO10 := Aside0.mk ho10
  have HA10 := Aside0.mk (show ∀ k, v50.ownBlock = some k → w8.heap.size ≤ k from fun k e => by
    rcases hat10 with h | ⟨b, h, hb⟩
    · rw [h] at e; exact HA9.out k e
    · rw [h] at e; injection e with e; omega)
  have K10 : w10.cell? ⟨w4.heap.size, 6, none⟩ = some (.slice AR (came ns.length (fun _ => 0) P 1).length cR) ∧ w10.cell? ⟨w4.heap.size, 7, none⟩ = some (.slice AC (came ns.length (fun _ => 0) P 3).length cC) := ⟨(blk_cell HK10.out 6).trans rfl, (blk_cell HK10.out 7).trans rfl⟩
  clear hrun10 ho10 hg10 hat10
  refine hK.out _ _ K10 (fun hHeld2 => ?_)
  clear hK K hHeld
  have hHeld := hHeld2
  clear hHeld2
  (try simp only [Act.put, List.setIfInBounds_toArray, List.set_cons_zero, List.set_cons_succ])
  refine wpAnyH_ready (rs := [6]) (by kernel_rfl) (by simp) ?_
  refine AllReadyH.cons (o := { dst := some 12, op := Op.assign (Operand.tmp 50), type := 24, pos := "top15.go:57", after := #[{ on := 5, ground := Ground.data }, { on := 5, ground := Ground.chain }, { on := 0, ground := Ground.phase }, { on := 1, ground := Ground.phase }, { on := 2, ground := Ground.phase }, { on := 3, ground := Ground.phase }, { on := 4, ground := Ground.phase }, { on := 5, ground := Ground.phase }], guard := none }) rfl (fun K hK => ?_) AllReadyH.nil
  go_simp
  refine hK.out _ _ hHeld (fun hHeld2 => ?_)
  clear hK K hHeld
  have hHeld := hHeld2
  clear hHeld2
  (try simp only [Act.put, List.setIfInBounds_toArray, List.set_cons_zero, List.set_cons_succ])
  refine wpAnyH_done (by kernel_rfl) ?_ _
  clear hHeld K9 K10
  have HB510 := Aside0.mk (below_step HB58.out HB810.out)
  have HTS : Aside0 (TS ⟨W, well, AW, cW, ns, A1, c1, w2.heap.size, w4.heap.size, g11, c11⟩ w10 P (fun _ => 0) (fun _ => 0) (came ns.length (fun _ => 0) P 1 ++ came ns.length (fun _ => 0) P 3) v50) := Aside0.mk (by
    have hlt : ∀ k, k < w4.heap.size → Cx.ok ⟨W, well, AW, cW, ns, A1, c1, w2.heap.size, w4.heap.size, g11, c11⟩ v50 k := fun k hk => ⟨by (show k ≠ w4.heap.size); omega, by (show k ≠ g11); omega, fun e => by have := HA10.out k e.symm; omega⟩
    refine ⟨below_step HB8.out HB810.out, blk_below HK5.out HB510.out, blk_below HK75.out HB510.out, Kd.F_mono (Kd.F_below HF5.out HB510.out) (fun k hk => hlt k (by have := hk.2; omega)), Kd.R_below HR8.out HB810.out, ⟨A, c, B, cb, _, _, blk_below HK8.out HB510.out, ?_⟩, HO10.out, fun k e => by (have := HA10.out k e); (show k ≠ g11); omega, by (show W.heap.size ≤ w4.heap.size); omega⟩
    exact (HRUN5.out.step (fun k _ h => HB510.out.block k h) (fun k _ h => HB510.out.block k h)).mono (fun k hk => hlt k hk.2) (fun k hk => hlt k hk.2))
  have HI := Aside0.mk (Inv.init (goodB well) HFO.out HM.out HST.out)
  have hb7 : W.heap.size < w2.heap.size + 1 := by omega
  clear HB510 HO10 HA10 HR8 HB8 HB810 HK10 HK9 HA9 HO9 HB89 HCC HCR HK88 HB58 HB67 HB56 HB6 HRC HLC5 HLR5 HRUN5 HF5 HK5 HK75 HB5 HK8 HB4 HST HM HB3 HC1 HB2 HB1 hs1 hs2 hs3 hs4 hs56 hs67 hs8 hs9 hg11 hg11' hl1 hl3
  clear hs5
  generalize came ns.length (fun _ => 0) P 1 ++ came ns.length (fun _ => 0) P 3 = op0 at *
  generalize w2.heap.size = b7 at *
  generalize w4.heap.size = b8 at *
  go_wp2
  go_loopw [12, 13] (fun v12 v13 wr => ∃ (P : Nat → Int) (T : Nat → Int) (tk : Nat → Int) (op : List Int) (p : Int), v13 = .int .i64 p ∧ Aside0 (p = total tk ns.length) ∧ Aside0 (TS ⟨W, well, AW, cW, ns, A1, c1, b7, b8, g11, c11⟩ wr P T tk op v12) ∧ Aside0 (Inv ns (depsL l) (goodB well) P T tk op)) (fun _ v13 _ => 500 - (intOf v13).toNat)
  case atStart => exact ⟨P, fun _ => 0, fun _ => 0, op0, 0, rfl, Aside0.mk (total_zero _).symm, HTS, HI⟩
  case round =>
    clear HTS HI
    obtain ⟨P1, T, tk, op, p, rfl, HP, HTS, HI⟩ := hrel
    obtain ⟨A0, c0, hv, hlc, hC, hA⟩ := HTS.out.open_
    subst hv
    have HC := Aside0.mk hC
    have htot := total_le tk ns.length (fun i hi => HI.out.tk_rng HFO.out i hi)
    have hp0 : 0 ≤ p := by rw [HP.out]; exact htot.1
    have hp1 : p ≤ 48 := by rw [HP.out]; omega
    have hopl : op.length ≤ 12 := Nat.le_trans HI.out.op_len hnl
    clear htot hA hC
    by_cases hop : op = []
    · subst hop
      obtain ⟨w0, rfl⟩ : ∃ w0 : World, w0 = wr := ⟨_, rfl⟩
      have g1 : decide ((([] : List Int).length : Int) > 0) = false := by decide
      have HF := Aside0.mk (HI.out.final HFO.out)
      have HAD := Aside0.mk (HI.out.allDone HFO.out)
      have HOV := Aside0.mk (HI.out.end_ HFO.out)
      have hx1 : w0.cell? ⟨b7, 1, none⟩ = some (.slice A1 ns.length c1) := (blk_cell HTS.out.b7 1).trans rfl
      have hwr : W.heap.size ≤ w0.heap.size := HTS.out.below.size
      clear HI HP HC
      go_upto_region 30 with (first | ((with_reducible refine gate_dst (N := 144) rfl ?_); go_loud (refine Kd.R_make Kd.bool (w0 := w0) w0.heap.size 4 rfl rfl 23 (.tmp 143) (.tmp 143) rfl (ns.length : Int) (by first | (go_simp; done) | (go_simp; rfl)) (by first | (go_simp; done) | (go_simp; rfl)) Try.underlying23 (.bool false) 1 info4 rfl (by decide) (by decide) false (ok := fun _ => True) (okp := fun _ => True) rfl (fun _ h => h) trivial (by omega) (by omega) (Below.refl _ _) (Nat.le_refl _) ?_; intro v19 we hr hb hg hat; have HR := Aside0.mk hr; have HBE := Aside0.mk hb; clear hr hb hg hat hx1)))
      obtain ⟨g19, c19, he, hg19, hg19', hgc⟩ := Kd.R_form HR.out (by rw [List.length_replicate]; omega)
      rw [List.length_replicate, Int.toNat_natCast] at he
      subst he
      have HR0 := Aside0.mk (show Kd.R Kd.bool 4 we w0.heap.size (fun _ => True) (.slice (some ⟨g19, 0, none⟩) ns.length c19) (dnL (depsL l) (goodB well) ns.length 0) by
        have := HR.out
        rwa [Int.toNat_natCast, ← dnL_zero (depsL l) (goodB well)] at this)
      clear HR hgc hg19'
      have hx1 : we.cell? ⟨b7, 1, none⟩ = some (.slice A1 ns.length c1) := (blk_cell (HTS.out.step HBE.out).b7 1).trans rfl
      go_wp2
      clear hx1
      go_loopw [18, 148] (fun v18 v148 wo => ∃ (aB : Bool) (p2 : Int) (i : Nat), v18 = .bool aB ∧ v148 = .int .i64 p2 ∧ Aside0 (p2 = (i : Int)) ∧ i ≤ ns.length ∧ Aside0 (aB = (List.range i).all (dn (depsL l) (goodB well) ns.length)) ∧ Aside0 (Kd.R Kd.bool 4 wo w0.heap.size (fun _ => True) (.slice (some ⟨g19, 0, none⟩) ns.length c19) (dnL (depsL l) (goodB well) ns.length i)) ∧ Aside0 (Below w0.heap.size w0 wo)) (fun _ v148 _ => ns.length - (intOf v148).toNat)
      case atStart => exact ⟨true, 0, 0, rfl, rfl, Aside0.mk rfl, by omega, Aside0.mk rfl, HR0, HBE⟩
      case round =>
        clear HR0 HBE
        obtain ⟨aB, p2, i, rfl, rfl, HP2, hi, HAB, HR1, HB1⟩ := hrel
        have HTi := Aside0.mk (HTS.out.step HB1.out)
        by_cases hin : i < ns.length
        · have hlt : decide (p2 < (ns.length : Int)) = true := decide_eq_true (by rw [HP2.out]; omega)
          have hp20 : 0 ≤ p2 := by rw [HP2.out]; omega
          have hp21 : p2 < (ns.length : Int) := by rw [HP2.out]; omega
          have HP3 : Aside0 (p2 + 1 = ((i + 1 : Nat) : Int)) := Aside0.mk (by rw [HP2.out]; omega)
          obtain ⟨adn, An, cn, n0, n1, n2, n3, n4, n5, en, hn2, k0, k1, k2, k3, k4, k5⟩ := HTi.out.nodeL p2 i HP2.out hin
          obtain rfl : A1 = some adn := en
          have HN2 : Aside0 (n2 = tries ns i) := Aside0.mk hn2
          clear hn2
          have hb1 := below_alloc (Below.refl wr.heap.size wr) (.cells #[.string n0, .slice An n1 cn, .int .i64 n2, .int .i64 n3, .int .i64 n4, .string n5] 43)
          have HX1 := Aside0.mk (blk_new wr (.cells #[.string n0, .slice An n1 cn, .int .i64 n2, .int .i64 n3, .int .i64 n4, .string n5] 43))
          have HB2 := Aside0.mk (below_step HB1.out hb1)
          have HR2 := Aside0.mk (Kd.R_below HR1.out hb1)
          have hgx := HB1.out.size
          have hw0 := HTS.out.below.size
          go_upto_region 33 with (fail)
          clear hb1 k0 k1 k2 k3 k4 k5
          generalize wr.alloc (.cells #[.string n0, .slice An n1 cn, .int .i64 n2, .int .i64 n3, .int .i64 n4, .string n5] 43) = w1 at *
          generalize wr.heap.size = gx at *
          have HT1 := Aside0.mk (HTS.out.step HB2.out)
          obtain ⟨m, hm⟩ : ∃ m, m = (l.getD i z50).f0 := ⟨_, rfl⟩
          have HM := Aside0.mk hm
          clear hm HTi HR1 HB1
          go_wp2
          go_loop [22, 154] (fun v22 v154 => ∃ (rB : Bool) (q : Int) (k : Nat), v22 = .bool rB ∧ v154 = .int .i64 q ∧ Aside0 (q = (k : Int)) ∧ k ≤ i ∧ Aside0 (rB = rdK m (dn (depsL l) (goodB well) ns.length) k)) (fun _ v154 => i - (intOf v154).toNat)
          case atStart => exact ⟨true, 0, 0, rfl, rfl, Aside0.mk rfl, by omega, Aside0.mk rfl⟩
          case round =>
            obtain ⟨rB, q, k, rfl, rfl, HQ, hk, HRB⟩ := hrel
            by_cases hki : k < i
            · have hlt2 : decide (q < p2) = true := decide_eq_true (by rw [HQ.out, HP2.out]; omega)
              have hq0 : 0 ≤ q := by rw [HQ.out]; omega
              have hq1 : q < (ns.length : Int) := by rw [HQ.out]; omega
              have hq32 : q ≤ 32 := by omega
              have HQ1 : Aside0 (q + 1 = ((k + 1 : Nat) : Int)) := Aside0.mk (by rw [HQ.out]; omega)
              have hil : i < l.length := by
                have h1 := HNL.out
                by_cases hl : l = []
                · have := h1.2 hl; omega
                · have := h1.1 hl; omega
              obtain ⟨adl, el, kl0, _⟩ := at_T50 (Kd.C_below HLc.out HT1.out.below) p2 hp20 (by rw [HP2.out]; omega)
              have e50 : rd_T50 l p2 = l.getD i z50 := by unfold rd_T50; rw [HP2.out]; rfl
              rw [e50, ← HM.out] at kl0
              subst el
              have hll : decide ((l.length : Int) > 0) = true := decide_eq_true (by omega)
              have hll2 : decide (0 < l.length) = true := decide_eq_true (by omega)
              have hll3 : 0 < l.length := by omega
              have hpl : p2 < (l.length : Int) := by rw [HP2.out]; omega
              have hd := (Kd.R_celln (d := false) HR2.out q hq0 hq1).1
              rw [dnL_rd _ _ _ _ k (by omega) q HQ.out, decide_eq_true hki, Bool.true_and] at hd
              have HSC := Aside0.mk (rdK_succ m (dn (depsL l) (goodB well) ns.length) k)
              have hsh := shr_small (k := .u32) (x := m) (y := q) (j := shr .u32 m q) rfl (by show q ≤ 32; omega)
              have hsh2 : m / 2 ^ min q.toNat 32 = shr .u32 m q := rfl
              have hsq : shr .u32 m q = shr .u32 m (k : Int) := by rw [HQ.out]
              rw [hsq] at hsh hsh2
              clear hsq e50 hil
              generalize hdk : dn (depsL l) (goodB well) ns.length k = dk at hd
              have HDK := Aside0.mk hdk
              clear hdk
              have hdep : depB m k = decide (Go.bits .and .u32 (shr .u32 m (k : Int)) 1 = 1) := rfl
              generalize shr .u32 m (k : Int) = js at *
              by_cases hb : Go.bits .and .u32 js 1 = 1
              · have hb0 : (Go.bits .and .u32 js 1 == 1) = true := beq_iff_eq.mpr hb
                have hb1 : (Go.bits .and .u32 js 1 != 1) = false := bne_eq_false_iff_eq.mpr hb
                have HDP : Aside0 (depB m k = true) := Aside0.mk (by rw [hdep]; exact decide_eq_true hb)
                clear hdep hb
                cases rB
                · go_wp2
                  go_round
                  case rel => exact ⟨false, q + 1, k + 1, rfl, rfl, HQ1, by omega, Aside0.mk (by rw [HSC.out, ← HRB.out]; rfl)⟩
                  case measure => have := HQ.out; simp [intOf]; omega
                · go_wp2
                  go_round
                  case rel => exact ⟨dk, q + 1, k + 1, rfl, rfl, HQ1, by omega, Aside0.mk (by rw [HSC.out, ← HRB.out, HDP.out, HDK.out]; rfl)⟩
                  case measure => have := HQ.out; simp [intOf]; omega
              · have hb0 : (Go.bits .and .u32 js 1 == 1) = false := beq_eq_false_iff_ne.mpr hb
                have hb1 : (Go.bits .and .u32 js 1 != 1) = true := bne_iff_ne.mpr hb
                have HDP : Aside0 (depB m k = false) := Aside0.mk (by rw [hdep]; exact decide_eq_false hb)
                clear hdep hb
                go_wp2
                go_round
                case rel => exact ⟨rB, q + 1, k + 1, rfl, rfl, HQ1, by omega, Aside0.mk (by rw [HSC.out, ← HRB.out, HDP.out]; simp)⟩
                case measure => have := HQ.out; simp [intOf]; omega
            · have hlt2 : decide (q < p2) = false := decide_eq_false (by rw [HQ.out, HP2.out]; omega)
              obtain rfl : i = k := by omega
              have HRD : Aside0 (rB = rdy (depsL l) (goodB well) ns.length i) := Aside0.mk (by rw [HRB.out, HM.out]; rfl)
              have HDN : Aside0 (dn (depsL l) (goodB well) ns.length i = (rB && goodB well i)) := Aside0.mk (by rw [dn_eq _ _ _ _ hin (HFO.out.deps i hin).2.1, HRD.out])
              obtain ⟨dB, hdB⟩ : ∃ dB, dB = dn (depsL l) (goodB well) ns.length i := ⟨_, rfl⟩
              have HDB := Aside0.mk hdB
              clear hdB hki HRB hk HQ
              have hgx2 : gx < w1.heap.size := blk_lt HX1.out
              have HFI := Aside0.mk (HF.out i hin)
              go_upto_region 40 with (fail)
              go_cut [] (fun wc => Aside0 (Kd.R Kd.bool 4 wc w0.heap.size (fun _ => True) (.slice (some ⟨g19, 0, none⟩) ns.length c19) (dnL (depsL l) (goodB well) ns.length (i + 1))) ∧ Aside0 (Below w0.heap.size w0 wc) ∧ Aside0 (wc.heap[gx]? = some (.cells #[.string n0, .slice An n1 cn, .int .i64 n2, .int .i64 n3, .int .i64 n4, .string n5] 43 (0, 0))))
              case first =>
                have hne : gx ≠ g19 := fun e => by
                  obtain ⟨g', cap, he, _, _, cs, hcs⟩ := Kd.R_form HR2.out (by rw [dnL_len]; omega)
                  injection he with he
                  injection he with he
                  injection he with he
                  subst he
                  exact blk_ne HX1.out hcs (by decide) e
                have HNE := Aside0.mk hne
                clear hne
                cases rB
                · have hdF : dB = false := by rw [HDB.out, HDN.out]; rfl
                  obtain ⟨hc, hf⟩ := dn_cell HR2.out p2 i HP2.out hin
                  obtain ⟨hs1, hs2⟩ := dn_store HR2.out p2 HP2.out hin false (hdF.symm.trans HDB.out)
                  have HS1 := Aside0.mk hs1
                  have HS2 := Aside0.mk hs2
                  clear hs1 hs2 hdF
                  go_wp2
                  go_meet
                  case rel => exact ⟨HS1, Aside0.mk (HB2.out.grown HS2.out HB2.out.size (fun j e => by injection e with e; omega)), Aside0.mk (blk_grown HX1.out HS2.out (fun e => HNE.out (by injection e)))⟩
                · have HDG : Aside0 (goodB well i = dB) := Aside0.mk (by rw [HDB.out, HDN.out]; simp)
                  have HG := Aside0.mk (good_calls p2 i W.heap.size AW cW well w1 HP2.out HT1.out.b4 (Kd.C_below HWc.out HT1.out.below))
                  rw [HDG.out] at HG
                  go_wp2_with (first | (go_at_call 7; go_loud (refine HG.out.mono ?_; rintro e w5 ⟨rfl, hb⟩; have HB5 := Aside0.mk hb; have HR5 := Aside0.mk (Kd.R_below HR2.out hb); have HX5 := Aside0.mk (blk_below HX1.out hb); clear hb; obtain ⟨hc, hf⟩ := dn_cell HR5.out p2 i HP2.out hin; obtain ⟨hs1, hs2⟩ := dn_store HR5.out p2 HP2.out hin dB HDB.out; have HS1 := Aside0.mk hs1; have HS2 := Aside0.mk hs2; clear hs1 hs2)))
                  go_meet
                  case rel => exact ⟨HS1, Aside0.mk ((below_step HB2.out HB5.out).grown HS2.out (below_step HB2.out HB5.out).size (fun j e => by injection e with e; omega)), Aside0.mk (blk_grown HX5.out HS2.out (fun e => HNE.out (by injection e)))⟩
              case rest =>
                obtain ⟨HR3, HB3, HX3⟩ := hcut
                have hcd := (dn_cell HR3.out p2 i HP2.out hin).1
                rw [decide_eq_true (Nat.lt_succ_self i), Bool.true_and, ← HDB.out] at hcd
                clear HR2 HB2 HX1 HT1 hgx2
                go_upto_region 41 with (fail)
                go_cut [18] (fun v18 wd => v18 = .bool (aB && dB) ∧ wc = wd)
                case first =>
                  cases aB
                  · go_wp2
                    go_meet
                    case rel => exact ⟨rfl, rfl⟩
                  · go_wp2
                    go_meet
                    case rel => exact ⟨rfl, rfl⟩
                case rest =>
                  obtain ⟨rfl, rfl⟩ := hcut
                  obtain ⟨aC, haC⟩ : ∃ aC, aC = (aB && dB) := ⟨_, rfl⟩
                  rw [← haC]
                  have HAC := Aside0.mk haC
                  clear haC
                  have HFT : Aside0 ((dB = true → P1 i = 4 ∧ tk i = 1) ∧ (dB = false → rB = true → P1 i = 5 ∧ tk i = n2) ∧ (dB = false → rB = false → P1 i = 6 ∧ tk i = 0)) := Aside0.mk (by
                    have h1 := HFI.out
                    unfold fate times at h1
                    rw [← HDB.out, ← HRD.out, ← HN2.out] at h1
                    refine ⟨fun h => ?_, fun h h' => ?_, fun h h' => ?_⟩
                    · rw [h] at h1; exact h1
                    · rw [h, h'] at h1; exact h1
                    · rw [h, h'] at h1; exact h1)
                  go_upto_block 6 with (fail)
                  go_cut [24, 25] (fun v24 v25 wd => v24 = .int .i64 (P1 i) ∧ v25 = .int .i64 (tk i) ∧ Aside0 (Below wc.heap.size wc wd))
                  case first =>
                    have HBR := Aside0.mk (Below.refl wc.heap.size wc)
                    cases dB
                    · cases rB
                      · obtain ⟨e1, e2⟩ := HFT.out.2.2 rfl rfl
                        have E1 := Aside0.mk e1
                        have E2 := Aside0.mk e2
                        clear e1 e2
                        go_wp2
                        go_meet
                        case rel => exact ⟨by rw [E1.out], by rw [E2.out], HBR⟩
                      · obtain ⟨e1, e2⟩ := HFT.out.2.1 rfl rfl
                        have E1 := Aside0.mk e1
                        have E2 := Aside0.mk e2
                        clear e1 e2
                        go_upto_region 46 with (fail)
                        have hz2 : wc.cell? ⟨gx, 2, none⟩ = some (.int .i64 n2) := (blk_cell HX3.out 2).trans rfl
                        go_quiet (fail)
                        go_wp2
                        go_meet
                        case rel => exact ⟨by rw [E1.out], by rw [E2.out], Aside0.mk (by repeat (first | exact HBR.out | exact Below.refl _ _ | refine below_drew1 ?_ | refine pw_below_drewN ?_ _))⟩
                    · obtain ⟨e1, e2⟩ := HFT.out.1 rfl
                      have E1 := Aside0.mk e1
                      have E2 := Aside0.mk e2
                      clear e1 e2
                      go_wp2
                      go_meet
                      case rel => exact ⟨by rw [E1.out], by rw [E2.out], HBR⟩
                  case rest =>
                    obtain ⟨rfl, rfl, HB4⟩ := hcut
                    have HBd := Aside0.mk (below_step HB3.out HB4.out)
                    have HTd := Aside0.mk (HTS.out.step HBd.out)
                    obtain ⟨Bb, cb5, hB5, hph⟩ := HTd.out.phase p2 i HP2.out hin
                    have htc := (HTd.out.cell p2 i HP2.out hin).1
                    have hRd := Aside0.mk (Kd.R_below HR3.out HB4.out)
                    clear HFT HFI hcd
                    generalize P1 i = ph at *
                    generalize tk i = tt at *
                    have hpe : (ph != ph) = false := by simp
                    have hte : (tt != tt) = false := by simp
                    go_wp2
                    go_roundw
                    case rel => exact ⟨aC, p2 + 1, i + 1, rfl, rfl, HP3, by omega, Aside0.mk (by rw [all_succ, ← HAB.out, HAC.out, HDB.out]), hRd, HBd⟩
                    case measure => have := HP2.out; simp [intOf]; omega
        · have hlt : decide (p2 < (ns.length : Int)) = false := decide_eq_false (by rw [HP2.out]; omega)
          obtain rfl : i = ns.length := by omega
          have hal : aB = allD ns.length P1 := HAB.out.trans HAD.out.symm
          have HAL := Aside0.mk hal
          obtain ⟨Ar, cr, Br, cbr, vr, vc, hkr, hrun⟩ := HTi.out.run
          have HKR := Aside0.mk hkr
          have HRN := Aside0.mk hrun
          have HBW := HTi.out.below
          have HBW := Aside0.mk HBW
          have HSO := Aside0.mk (status_over 1 (-1) 0 (⟨#[102]⟩ : ByteArray) ns P1 T hnl HOV.out)
          have HST : Aside0 (∀ r, statV ns.length P1 = r → ∀ w5, Below wr.heap.size wr w5 → Calls Try.prog 11 #[.agg #[.int .i64 1, .int .i64 (-1), .int .i64 0, .string (⟨#[102]⟩ : ByteArray), .slice Ar ns.length cr, .slice Br ns.length cbr]] w5 fun e W' => e = .returned (.int .i64 r) ∧ Below w5.heap.size w5 W') := Aside0.mk (fun r hr w5 hb => by
            have h1 := HSO.out
            rw [hr] at h1
            exact status_calls 1 (-1) 0 r (⟨#[102]⟩ : ByteArray) Ar cr Br cbr ns P1 T _ _ w5 (HRN.out.step (fun k _ h => hb.block k h) (fun k _ h => hb.block k h)) h1)
          have hx0 : wr.cell? ⟨b8, 0, none⟩ = some (.int .i64 1) := (blk_cell hkr 0).trans rfl
          have hx1 : wr.cell? ⟨b8, 1, none⟩ = some (.int .i64 (-1)) := (blk_cell hkr 1).trans rfl
          have hx2 : wr.cell? ⟨b8, 2, none⟩ = some (.int .i64 0) := (blk_cell hkr 2).trans rfl
          have hx3 : wr.cell? ⟨b8, 3, none⟩ = some (.string (⟨#[102]⟩ : ByteArray)) := (blk_cell hkr 3).trans rfl
          have hx4 : wr.cell? ⟨b8, 4, none⟩ = some (.slice Ar ns.length cr) := (blk_cell hkr 4).trans rfl
          have hx5 : wr.cell? ⟨b8, 5, none⟩ = some (.slice Br ns.length cbr) := (blk_cell hkr 5).trans rfl
          clear hkr hrun hal
          cases aB
          · have HS : Aside0 (statV ns.length P1 = 2) := Aside0.mk (by unfold statV; rw [← HAL.out]; rfl)
            go_wp2_with fail
            refine (HST.out 2 HS.out wr (Below.refl _ _)).mono ?_
            rintro e w5 ⟨rfl, hb⟩
            have HB5 := Aside0.mk hb
            have hy0 : w5.cell? ⟨b8, 0, none⟩ = some (.int .i64 1) := (blk_cell (blk_below HKR.out hb) 0).trans rfl
            have hy1 : w5.cell? ⟨b8, 1, none⟩ = some (.int .i64 (-1)) := (blk_cell (blk_below HKR.out hb) 1).trans rfl
            have hy2 : w5.cell? ⟨b8, 2, none⟩ = some (.int .i64 0) := (blk_cell (blk_below HKR.out hb) 2).trans rfl
            have hy3 : w5.cell? ⟨b8, 3, none⟩ = some (.string (⟨#[102]⟩ : ByteArray)) := (blk_cell (blk_below HKR.out hb) 3).trans rfl
            have hy4 : w5.cell? ⟨b8, 4, none⟩ = some (.slice Ar ns.length cr) := (blk_cell (blk_below HKR.out hb) 4).trans rfl
            have hy5 : w5.cell? ⟨b8, 5, none⟩ = some (.slice Br ns.length cbr) := (blk_cell (blk_below HKR.out hb) 5).trans rfl
            clear hb
            go_wp2_with fail
            refine (HST.out 2 HS.out w5 HB5.out).mono ?_
            rintro e w6 ⟨rfl, hb⟩
            have HB6 := Aside0.mk (below_step (below_step HBW.out HB5.out) hb)
            clear hb
            go_wp2
            go_ret
            exact ⟨rfl, HB6.out⟩
          · have HS : Aside0 (statV ns.length P1 = 1) := Aside0.mk (by unfold statV; rw [← HAL.out]; rfl)
            go_wp2_with fail
            refine (HST.out 1 HS.out wr (Below.refl _ _)).mono ?_
            rintro e w5 ⟨rfl, hb⟩
            have HB5 := Aside0.mk hb
            have hy0 : w5.cell? ⟨b8, 0, none⟩ = some (.int .i64 1) := (blk_cell (blk_below HKR.out hb) 0).trans rfl
            have hy1 : w5.cell? ⟨b8, 1, none⟩ = some (.int .i64 (-1)) := (blk_cell (blk_below HKR.out hb) 1).trans rfl
            have hy2 : w5.cell? ⟨b8, 2, none⟩ = some (.int .i64 0) := (blk_cell (blk_below HKR.out hb) 2).trans rfl
            have hy3 : w5.cell? ⟨b8, 3, none⟩ = some (.string (⟨#[102]⟩ : ByteArray)) := (blk_cell (blk_below HKR.out hb) 3).trans rfl
            have hy4 : w5.cell? ⟨b8, 4, none⟩ = some (.slice Ar ns.length cr) := (blk_cell (blk_below HKR.out hb) 4).trans rfl
            have hy5 : w5.cell? ⟨b8, 5, none⟩ = some (.slice Br ns.length cbr) := (blk_cell (blk_below HKR.out hb) 5).trans rfl
            clear hb
            go_wp2_with fail
            refine (HST.out 1 HS.out w5 HB5.out).mono ?_
            rintro e w6 ⟨rfl, hb⟩
            have HB6 := Aside0.mk (below_step (below_step HBW.out HB5.out) hb)
            clear hb
            go_wp2
            go_ret
            exact ⟨rfl, HB6.out⟩
    · have hpos : 0 < op.length := List.length_pos_iff.2 hop
      have g1 : decide ((op.length : Int) > 0) = true := decide_eq_true (by omega)
      have g2 : decide (0 < op.length) = true := decide_eq_true hpos
      have g3 : decide (p < 500) = true := decide_eq_true (by omega)
      clear hop
      go_upto_if 63 with (fail)
      go_cut [14] (fun v14 wc => ∃ (q : Int) (m : Nat), v14 = .int .i64 q ∧ Aside0 (q = (m : Int)) ∧ m < op.length ∧ wr = wc)
      case first =>
        by_cases hpk : p < (picks.length : Int)
        · have g5 : decide (p < (picks.length : Int)) = true := decide_eq_true hpk
          obtain ⟨ad, e, hx⟩ := Kd.at_int (Kd.C_below HPc.out HTS.out.below) p hp0 hpk
          subst e
          generalize rd picks p = x at hx
          have hmx : (if (0 : Int) < x then x else 0) = mx 0 x := by unfold mx; split <;> first | rfl | omega
          have hm0 : 0 ≤ mx 0 x := by unfold mx; split <;> omega
          generalize mx 0 x = y at *
          have ht : y.tmod (op.length : Int) = y % (op.length : Int) := Int.tmod_eq_emod_of_nonneg hm0
          have hr := mod_rng y (op.length : Int) (by omega)
          have HQ : Aside0 (y % (op.length : Int) = ((y % (op.length : Int)).toNat : Int)) := Aside0.mk (by omega)
          have hql : (y % (op.length : Int)).toNat < op.length := by omega
          go_wp2
          go_meet
          case rel => exact ⟨_, _, rfl, HQ, hql, rfl⟩
        · have g5 : decide (p < (picks.length : Int)) = false := decide_eq_false hpk
          go_wp2
          go_meet
          case rel => exact ⟨0, 0, rfl, Aside0.mk rfl, hpos, rfl⟩
      case rest =>
        obtain ⟨q, m, rfl, HQ, hm, rfl⟩ := hcut
        obtain ⟨adq, eq, hxq⟩ := open_at HC.out q m HQ.out hm
        subst eq
        obtain ⟨i, hi, hmi, hPi⟩ := (HI.out.mem (op[m]'hm)).1 (List.getElem_mem hm)
        have hq0 : 0 ≤ q := by rw [HQ.out]; omega
        have hq1 : q < (op.length : Int) := by rw [HQ.out]; omega
        have hq2 : q ≤ (c0 : Int) := by omega
        have hq3 : q + 1 ≤ (op.length : Int) := by omega
        have hq4 : 0 ≤ q + 1 := by omega
        have hw1 : IntKind.i64.wrap (q + 1) = q + 1 := IntWalk.i64_in _ (by omega)
        have HPI := Aside0.mk hPi
        obtain ⟨z, hz⟩ : ∃ z : Int, z = op[m]'hm := ⟨_, rfl⟩
        rw [← hz] at hxq hmi
        have HZM := Aside0.mk hz.symm
        have HZ := Aside0.mk hmi
        have hz0 : 0 ≤ z := by rw [hmi]; omega
        have hz1 : z < (ns.length : Int) := by rw [hmi]; omega
        clear hz hmi hPi
        go_upto_region 15 with (fail)
        clear hxq
        have hdr : Below wr.heap.size wr wr.drew := below_drew1 (Below.refl _ _)
        have HT1 := Aside0.mk (HTS.out.step hdr)
        have hhs : W.heap.size ≤ wr.drew.heap.size := HT1.out.below.size
        refine wp_region_held_drew (S := fun _ => True) (by kernel_rfl) trivial (fun hHeld => ?_)
        clear hdr HTS HC
        generalize wr.drew = w1 at *
        have hsl := cut_tail (some adq) op.length c0 (q + 1) hq4 hq3
        obtain ⟨A83, hA83⟩ : ∃ A83, (if c0 = (q + 1).toNat then some adq else (some adq).map fun x => x.add (q + 1).toNat) = A83 := ⟨_, rfl⟩
        rw [hA83] at hsl
        have HA83 := Aside0.mk hA83
        clear hA83
        refine wpAnyH_take (i := 0) (oi := { dst := some 76, op := Op.move (Operand.tmp 12), type := 24, pos := "top15.go:64", after := #[], guard := none }) (v := ?vb0) rfl (by kernel_rfl) (by kernel_rfl) (by kernel_rfl) (fun _ _ _ h => h) (Or.inl ⟨by rfl, ?yb0⟩) (by assumption) ?_
        case yb0 => (intro w hSw; (try dsimp only at hSw); go_simp; try with_reducible rfl)
        (try simp only [Act.put, List.setIfInBounds_toArray, List.set_cons_zero, List.set_cons_succ])
        refine wpAnyH_take (i := 1) (oi := { dst := some 77, op := Op.move (Operand.tmp 14), type := 3, pos := "top15.go:64", after := #[], guard := none }) (v := ?vb1) rfl (by kernel_rfl) (by kernel_rfl) (by kernel_rfl) (fun _ _ _ h => h) (Or.inl ⟨by rfl, ?yb1⟩) (by assumption) ?_
        case yb1 => (intro w hSw; (try dsimp only at hSw); go_simp; try with_reducible rfl)
        (try simp only [Act.put, List.setIfInBounds_toArray, List.set_cons_zero, List.set_cons_succ])
        refine wpAnyH_take (i := 2) (oi := { dst := some 78, op := Op.move (Operand.tmp 14), type := 3, pos := "top15.go:64", after := #[], guard := none }) (v := ?vb2) rfl (by kernel_rfl) (by kernel_rfl) (by kernel_rfl) (fun _ _ _ h => h) (Or.inl ⟨by rfl, ?yb2⟩) (by assumption) ?_
        case yb2 => (intro w hSw; (try dsimp only at hSw); go_simp; try with_reducible rfl)
        (try simp only [Act.put, List.setIfInBounds_toArray, List.set_cons_zero, List.set_cons_succ])
        refine wpAnyH_take (i := 3) (oi := { dst := some 79, op := Op.slice 24 (Operand.tmp 76) none (some (Operand.tmp 77)) (some (Operand.tmp 78)), type := 24, pos := "top15.go:64", after := #[{ on := 0, ground := Ground.data }, { on := 1, ground := Ground.data }, { on := 2, ground := Ground.data }], guard := none }) (v := ?vb3) rfl (by kernel_rfl) (by kernel_rfl) (by kernel_rfl) (fun _ _ _ h => h) (Or.inl ⟨by rfl, ?yb3⟩) (by assumption) ?_
        case yb3 => (intro w hSw; (try dsimp only at hSw); go_simp; try with_reducible rfl)
        (try simp only [Act.put, List.setIfInBounds_toArray, List.set_cons_zero, List.set_cons_succ])
        refine wpAnyH_take (i := 4) (oi := { dst := some 80, op := Op.move (Operand.tmp 12), type := 24, pos := "top15.go:64", after := #[], guard := none }) (v := ?vb4) rfl (by kernel_rfl) (by kernel_rfl) (by kernel_rfl) (fun _ _ _ h => h) (Or.inl ⟨by rfl, ?yb4⟩) (by assumption) ?_
        case yb4 => (intro w hSw; (try dsimp only at hSw); go_simp; try with_reducible rfl)
        (try simp only [Act.put, List.setIfInBounds_toArray, List.set_cons_zero, List.set_cons_succ])
        refine wpAnyH_take (i := 5) (oi := { dst := some 81, op := Op.move (Operand.tmp 14), type := 3, pos := "top15.go:64", after := #[], guard := none }) (v := ?vb5) rfl (by kernel_rfl) (by kernel_rfl) (by kernel_rfl) (fun _ _ _ h => h) (Or.inl ⟨by rfl, ?yb5⟩) (by assumption) ?_
        case yb5 => (intro w hSw; (try dsimp only at hSw); go_simp; try with_reducible rfl)
        (try simp only [Act.put, List.setIfInBounds_toArray, List.set_cons_zero, List.set_cons_succ])
        refine wpAnyH_take (i := 6) (oi := { dst := some 82, op := Op.binOp BinOp.add 3 (Operand.tmp 81) (Operand.const (Value.int IntKind.i64 1)) 3, type := 3, pos := "top15.go:64", after := #[{ on := 5, ground := Ground.data }], guard := none }) (v := ?vb6) rfl (by kernel_rfl) (by kernel_rfl) (by kernel_rfl) (fun _ _ _ h => h) (Or.inl ⟨by rfl, ?yb6⟩) (by assumption) ?_
        case yb6 => (intro w hSw; (try dsimp only at hSw); go_simp; try with_reducible rfl)
        (try simp only [Act.put, List.setIfInBounds_toArray, List.set_cons_zero, List.set_cons_succ])
        refine wpAnyH_take (i := 7) (oi := { dst := some 83, op := Op.slice 24 (Operand.tmp 80) (some (Operand.tmp 82)) none none, type := 24, pos := "top15.go:64", after := #[{ on := 4, ground := Ground.data }, { on := 6, ground := Ground.data }], guard := none }) (v := ?vb7) rfl (by kernel_rfl) (by kernel_rfl) (by kernel_rfl) (fun _ _ _ h => h) (Or.inl ⟨by rfl, ?yb7⟩) (by assumption) ?_
        case yb7 => (intro w hSw; (try dsimp only at hSw); go_simp; try with_reducible rfl)
        (try simp only [Act.put, List.setIfInBounds_toArray, List.set_cons_zero, List.set_cons_succ])
        obtain ⟨A0', c0', e, h2, hC, hA⟩ := HT1.out.open_
        injection e with e1 e2 e3
        subst e1; subst e3
        have hcutO := OpenRow.cut HT1.out.open_ (m := q.toNat) (by omega)
        have htail := open_tail hC h2 (q + 1).toNat (by omega)
        rw [HA83.out] at htail
        clear hA e2 hsl
        refine wpAnyH_ready (rs := [8]) (by kernel_rfl) (by simp) ?_
        refine AllReadyH.cons (o := { dst := some 84, op := Op.call { callee := Callee.builtin Builtin.append, args := #[Operand.tmp 79, Operand.tmp 83], argTypes := #[24, 24] }, type := 24, pos := "top15.go:64", after := #[{ on := 3, ground := Ground.data }, { on := 7, ground := Ground.data }], guard := none }) rfl (fun K hK => ?_) AllReadyH.nil
        obtain ⟨v84, w2, hrun, ho, hg, hat⟩ := OpenRow.append' (c0 - (q + 1).toNat) (op.length - (q + 1).toNat) 24 (by rw [List.length_drop]) hcutO htail (by rw [List.length_take]; omega) (by rw [List.length_drop]; omega) hhs
        refine event_step (v := v84) (w1 := w2) rfl (append_hrun (.tmp 79) (.tmp 83) rfl (by first | (go_simp; done) | (go_simp; rfl)) (by first | (go_simp; done) | (go_simp; rfl)) hrun) ?_
        rw [open_cut op q m HQ.out] at ho
        have HT2 := Aside0.mk (HT1.out.opened hg ho hat)
        clear hrun ho hg hat hcutO htail hC h2
        refine hK.out _ _ trivial (fun hHeld2 => ?_)
        clear hK K hHeld
        have hHeld := hHeld2
        clear hHeld2
        (try simp only [Act.put, List.setIfInBounds_toArray, List.set_cons_zero, List.set_cons_succ])
        refine wpAnyH_ready (rs := [9]) (by kernel_rfl) (by simp) ?_
        refine AllReadyH.cons (o := { dst := some 12, op := Op.assign (Operand.tmp 84), type := 24, pos := "top15.go:64", after := #[{ on := 8, ground := Ground.data }, { on := 8, ground := Ground.chain }, { on := 0, ground := Ground.phase }, { on := 1, ground := Ground.phase }, { on := 2, ground := Ground.phase }, { on := 3, ground := Ground.phase }, { on := 4, ground := Ground.phase }, { on := 5, ground := Ground.phase }, { on := 6, ground := Ground.phase }, { on := 7, ground := Ground.phase }, { on := 8, ground := Ground.phase }], guard := none }) rfl (fun K hK => ?_) AllReadyH.nil
        go_simp
        refine hK.out _ _ hHeld (fun hHeld2 => ?_)
        clear hK K hHeld
        have hHeld := hHeld2
        clear hHeld2
        (try simp only [Act.put, List.setIfInBounds_toArray, List.set_cons_zero, List.set_cons_succ])
        refine wpAnyH_done (by kernel_rfl) ?_ _
        clear hHeld HT1 hw1 HA83
        have htr := HI.out.tk_rng HFO.out i hi
        have ht0 := htr.1
        have ht4 := htr.2
        clear htr
        obtain ⟨hc0, hf0⟩ := HT2.out.cell z i HZ.out hi
        have HT3 := Aside0.mk (HT2.out.take z i HZ.out hi)
        have hs3 : W.heap.size ≤ (w2.setCell ⟨g11, z.toNat, none⟩ (.int .i64 (tk i + 1))).heap.size := HT3.out.below.size
        go_upto_region 17 with (fail)
        clear hc0 hf0
        generalize w2.setCell ⟨g11, z.toNat, none⟩ (.int .i64 (tk i + 1)) = w3 at *
        obtain ⟨adn, An, cn, en, _, _, _, _, kn4, _⟩ := HT3.out.node z i HZ.out hi
        obtain rfl : A1 = some adn := en
        have hx1 : w3.cell? ⟨b7, 1, none⟩ = some (.slice (some adn) ns.length c1) := (blk_cell HT3.out.b7 1).trans rfl
        have hcase : (P1 i = 3 ∧ (ns.getD i z43).f4 = 1) ∨ (P1 i = 1 ∧ (ns.getD i z43).f4 = -1) := by
          have ha := (HI.out.act i hi HPI.out).1
          have hgd := HFO.out.good i hi
          rcases wakeP_val ns i with ⟨h1, h2⟩ | ⟨h1, h2⟩
          · right
            unfold isCall at h2
            exact ⟨ha.trans h1, by simpa using h2⟩
          · left
            unfold isCall at h2
            refine ⟨ha.trans h1, ?_⟩
            rcases hgd.2.2.2.2.2 with ⟨h3, _⟩ | ⟨h3, _⟩
            · rw [h3] at h2; simp at h2
            · exact h3
        have HCASE := Aside0.mk hcase
        obtain ⟨t4, ht4e⟩ : ∃ t4, t4 = (ns.getD i z43).f4 := ⟨_, rfl⟩
        rw [← ht4e] at kn4
        have HT4E := Aside0.mk ht4e
        clear hcase ht4e
        go_upto_if 97 with (fail)
        clear kn4 hx1
        go_cut [] (fun wc => ∃ (P0 P' T' : Nat → Int), Aside0 (TC ⟨W, well, AW, cW, ns, some adn, c1, b7, b8, g11, c11⟩ wc P0 P' T' (upd tk i (tk i + 1)) (op.eraseIdx m) v84) ∧ Aside0 (Inv ns (depsL l) (goodB well) P' T' (upd tk i (tk i + 1)) (op.eraseIdx m ++ came ns.length P0 P' 1 ++ came ns.length P0 P' 3)))
        case first =>
          rcases HCASE.out with ⟨hP3, hf4⟩ | ⟨hP1, hf4⟩
          · have e1 : (t4 != -1) = true := by rw [HT4E.out, hf4]; rfl
            obtain ⟨Ar, cr, Br, cbr, vr, vc, hkr, hrun⟩ := HT3.out.run
            have hdr : Below w3.heap.size w3 w3.drew := below_drew1 (Below.refl _ _)
            have HT4 := Aside0.mk (HT3.out.step hdr)
            have HKR := Aside0.mk (blk_below hkr hdr)
            have HRN := Aside0.mk (hrun.step (fun k _ h => hdr.block k h) (fun k _ h => hdr.block k h))
            clear hkr hrun
            go_upto_region 18 with (fail)
            refine wp_region_held_drew (S := fun _ => True) (by kernel_rfl) trivial (fun hHeld => ?_)
            clear hdr
            generalize w3.drew = w4 at *
            have HG := Aside0.mk (good_calls z i W.heap.size AW cW well w4 HZ.out HT4.out.b4 (Kd.C_below HWc.out HT4.out.below))
            refine wpAnyH_take (i := 0) (oi := { dst := some 99, op := Op.fieldAddr 35 (Operand.tmp 8) 0, type := 0, pos := "top15.go:67", after := #[], guard := none }) (v := ?vc0) rfl (by kernel_rfl) (by kernel_rfl) (by kernel_rfl) (fun _ _ _ h => h) (Or.inl ⟨by rfl, ?yc0⟩) (by assumption) ?_
            case yc0 => (intro w hSw; (try dsimp only at hSw); go_simp; try with_reducible rfl)
            (try simp only [Act.put, List.setIfInBounds_toArray, List.set_cons_zero, List.set_cons_succ])
            refine wpAnyH_take (i := 2) (oi := { dst := some 101, op := Op.move (Operand.tmp 15), type := 3, pos := "top15.go:67", after := #[], guard := none }) (v := ?vc2) rfl (by kernel_rfl) (by kernel_rfl) (by kernel_rfl) (fun _ _ _ h => h) (Or.inl ⟨by rfl, ?yc2⟩) (by assumption) ?_
            case yc2 => (intro w hSw; (try dsimp only at hSw); go_simp; try with_reducible rfl)
            (try simp only [Act.put, List.setIfInBounds_toArray, List.set_cons_zero, List.set_cons_succ])
            refine wpAnyH_take (i := 3) (oi := { dst := some 102, op := Op.move (Operand.tmp 10), type := 40, pos := "top15.go:67", after := #[], guard := none }) (v := ?vc3) rfl (by kernel_rfl) (by kernel_rfl) (by kernel_rfl) (fun _ _ _ h => h) (Or.inl ⟨by rfl, ?yc3⟩) (by assumption) ?_
            case yc3 => (intro w hSw; (try dsimp only at hSw); go_simp; try with_reducible rfl)
            (try simp only [Act.put, List.setIfInBounds_toArray, List.set_cons_zero, List.set_cons_succ])
            refine wpAnyH_take (i := 4) (oi := { dst := some 103, op := Op.move (Operand.tmp 15), type := 3, pos := "top15.go:67", after := #[], guard := none }) (v := ?vc4) rfl (by kernel_rfl) (by kernel_rfl) (by kernel_rfl) (fun _ _ _ h => h) (Or.inl ⟨by rfl, ?yc4⟩) (by assumption) ?_
            case yc4 => (intro w hSw; (try dsimp only at hSw); go_simp; try with_reducible rfl)
            (try simp only [Act.put, List.setIfInBounds_toArray, List.set_cons_zero, List.set_cons_succ])
            refine wpAnyH_ready (rs := [1, 5]) (by kernel_rfl) (by simp) ?_
            refine AllReadyH.cons (o := { dst := some 100, op := Op.load 33 (Operand.tmp 99), type := 33, pos := "top15.go:67", after := #[{ on := 0, ground := Ground.data }], guard := none }) rfl (fun K hK => ?_) (AllReadyH.cons (o := { dst := some 104, op := Op.call { callee := Callee.value (Operand.tmp 102), args := #[Operand.tmp 103], argTypes := #[3] }, type := 4, pos := "top15.go:67", after := #[{ on := 3, ground := Ground.data }, { on := 4, ground := Ground.data }], guard := none }) rfl (fun K hK => ?_) AllReadyH.nil)
            · have hk0 : w4.cell? ⟨b8, 0, none⟩ = some (.int .i64 1) := (blk_cell HKR.out 0).trans rfl
              have hk1 : w4.cell? ⟨b8, 1, none⟩ = some (.int .i64 (-1)) := (blk_cell HKR.out 1).trans rfl
              have hk2 : w4.cell? ⟨b8, 2, none⟩ = some (.int .i64 0) := (blk_cell HKR.out 2).trans rfl
              have hk3 : w4.cell? ⟨b8, 3, none⟩ = some (.string (⟨#[102]⟩ : ByteArray)) := (blk_cell HKR.out 3).trans rfl
              have hk4 : w4.cell? ⟨b8, 4, none⟩ = some (.slice Ar ns.length cr) := (blk_cell HKR.out 4).trans rfl
              have hk5 : w4.cell? ⟨b8, 5, none⟩ = some (.slice Br ns.length cbr) := (blk_cell HKR.out 5).trans rfl
              go_simp
              refine hK.out _ _ trivial (fun hHeld2 => ?_)
              clear hK K hHeld
              have hHeld := hHeld2
              clear hHeld2
              (try simp only [Act.put, List.setIfInBounds_toArray, List.set_cons_zero, List.set_cons_succ])
              clear hk0 hk1 hk2 hk3 hk4 hk5
              refine wpAnyH_ready (rs := [5]) (by kernel_rfl) (by simp) ?_
              refine AllReadyH.cons (o := { dst := some 104, op := Op.call { callee := Callee.value (Operand.tmp 102), args := #[Operand.tmp 103], argTypes := #[3] }, type := 4, pos := "top15.go:67", after := #[{ on := 3, ground := Ground.data }, { on := 4, ground := Ground.data }], guard := none }) rfl (fun K hK => ?_) AllReadyH.nil
              (first | (go_at_call 7; go_loud (refine HG.out.mono ?_; rintro e w5 ⟨rfl, hb⟩)) | (go_simp; (go_at_call 7; go_loud (refine HG.out.mono ?_; rintro e w5 ⟨rfl, hb⟩))))
              have HB5 := Aside0.mk hb
              have HT5 := Aside0.mk (HT4.out.step hb)
              have HKR5 := Aside0.mk (blk_below HKR.out hb)
              have HRN5 := Aside0.mk (HRN.out.step (fun k _ h => hb.block k h) (fun k _ h => hb.block k h))
              clear hb
              refine hK.out _ _ trivial (fun hHeld2 => ?_)
              clear hK K hHeld
              have hHeld := hHeld2
              clear hHeld2
              (try simp only [Act.put, List.setIfInBounds_toArray, List.set_cons_zero, List.set_cons_succ])
              have HAN := Aside0.mk (answer_calls 1 (-1) 0 (⟨#[102]⟩ : ByteArray) Ar cr Br cbr ns (depsL l) P1 T _ _ i z (goodB well i) _ w5 HRN5.out HFO.out HZ.out hi hP3 rfl)
              refine wpAnyH_ready (rs := [6]) (by kernel_rfl) (by simp) ?_
              refine AllReadyH.cons (o := { dst := some 105, op := Op.call { callee := Callee.value (Operand.func 8), args := #[Operand.tmp 100, Operand.tmp 101, Operand.const (Value.int IntKind.i64 0), Operand.tmp 104], argTypes := #[33, 3, 2, 4] }, type := 37, pos := "top15.go:67", after := #[{ on := 1, ground := Ground.data }, { on := 2, ground := Ground.data }, { on := 5, ground := Ground.data }, { on := 5, ground := Ground.chain }], guard := none }) rfl (fun K hK => ?_) AllReadyH.nil
              (first | (go_at_call 8; go_loud (refine HAN.out.mono ?_; rintro e w6 ⟨v, rfl, hch, hb⟩)) | (go_simp; (go_at_call 8; go_loud (refine HAN.out.mono ?_; rintro e w6 ⟨v, rfl, hch, hb⟩))))
              obtain ⟨P2, A2, c2, B2, cb2, AR2, cR2, AC2, cC2, rfl, hM, hS, hRun, hLR, hLC⟩ := hch
              have HB6 := Aside0.mk hb
              have HKR6 := Aside0.mk (blk_below HKR5.out hb)
              have HM := Aside0.mk hM
              have HS := Aside0.mk hS
              have HRun := Aside0.mk hRun
              have HLR := Aside0.mk hLR
              have HLC := Aside0.mk hLC
              clear hb hM hS hRun hLR hLC
              refine hK.out _ _ trivial (fun hHeld2 => ?_)
              clear hK K hHeld
              have hHeld := hHeld2
              clear hHeld2
              (try simp only [Act.put, List.setIfInBounds_toArray, List.set_cons_zero, List.set_cons_succ])
              refine wpAnyH_take (i := 7) (oi := { dst := some 98, op := Op.move (Operand.tmp 105), type := 37, pos := "top15.go:67", after := #[{ on := 6, ground := Ground.data }], guard := none }) (v := ?vca7) rfl (by kernel_rfl) (by kernel_rfl) (by kernel_rfl) (fun _ _ _ h => h) (Or.inl ⟨by rfl, ?yca7⟩) (by assumption) ?_
              case yca7 => (intro w hSw; (try dsimp only at hSw); go_simp; try with_reducible rfl)
              (try simp only [Act.put, List.setIfInBounds_toArray, List.set_cons_zero, List.set_cons_succ])
              refine wpAnyH_take (i := 8) (oi := { dst := some 106, op := Op.extract (Operand.tmp 98) 0, type := 35, pos := "top15.go:67", after := #[{ on := 7, ground := Ground.data }], guard := none }) (v := ?vca8) rfl (by kernel_rfl) (by kernel_rfl) (by kernel_rfl) (fun _ _ _ h => h) (Or.inl ⟨by rfl, ?yca8⟩) (by assumption) ?_
              case yca8 => (intro w hSw; (try dsimp only at hSw); go_simp; try with_reducible rfl)
              (try simp only [Act.put, List.setIfInBounds_toArray, List.set_cons_zero, List.set_cons_succ])
              refine wpAnyH_take (i := 9) (oi := { dst := some 107, op := Op.extract (Operand.tmp 98) 1, type := 36, pos := "top15.go:67", after := #[{ on := 7, ground := Ground.data }, { on := 10, ground := Ground.gcOnly Departure.lateStores }], guard := none }) (v := ?vca9) rfl (by kernel_rfl) (by kernel_rfl) (by kernel_rfl) (fun _ _ _ h => h) (Or.inl ⟨by rfl, ?yca9⟩) (by assumption) ?_
              case yca9 => (intro w hSw; (try dsimp only at hSw); go_simp; try with_reducible rfl)
              (try simp only [Act.put, List.setIfInBounds_toArray, List.set_cons_zero, List.set_cons_succ])
              refine wpAnyH_ready (rs := [10]) (by kernel_rfl) (by simp) ?_
              refine AllReadyH.cons (o := { dst := none, op := Op.store 35 (Operand.tmp 8) (Operand.tmp 106), type := 0, pos := "top15.go:67", after := #[{ on := 8, ground := Ground.data }, { on := 6, ground := Ground.chain }, { on := 0, ground := Ground.phase }, { on := 1, ground := Ground.phase }, { on := 2, ground := Ground.phase }, { on := 3, ground := Ground.phase }, { on := 4, ground := Ground.phase }, { on := 5, ground := Ground.phase }, { on := 6, ground := Ground.phase }, { on := 7, ground := Ground.phase }, { on := 8, ground := Ground.phase }, { on := 9, ground := Ground.textOnly Departure.lateStores }], guard := none }) rfl (fun K hK => ?_) AllReadyH.nil
              have hzc0 : w6.cell? ⟨b8, 0, none⟩ = some _ := (blk_cell HKR6.out 0).trans rfl
              have hfc0 := blk_frozen HKR6.out 0
              have hzc1 : w6.cell? ⟨b8, 1, none⟩ = some _ := (blk_cell HKR6.out 1).trans rfl
              have hfc1 := blk_frozen HKR6.out 1
              have hzc2 : w6.cell? ⟨b8, 2, none⟩ = some _ := (blk_cell HKR6.out 2).trans rfl
              have hfc2 := blk_frozen HKR6.out 2
              have hzc3 : w6.cell? ⟨b8, 3, none⟩ = some _ := (blk_cell HKR6.out 3).trans rfl
              have hfc3 := blk_frozen HKR6.out 3
              have hzc4 : w6.cell? ⟨b8, 4, none⟩ = some _ := (blk_cell HKR6.out 4).trans rfl
              have hfc4 := blk_frozen HKR6.out 4
              have hzc5 : w6.cell? ⟨b8, 5, none⟩ = some _ := (blk_cell HKR6.out 5).trans rfl
              have hfc5 := blk_frozen HKR6.out 5
              have hzc6 : w6.cell? ⟨b8, 6, none⟩ = some _ := (blk_cell HKR6.out 6).trans rfl
              have hfc6 := blk_frozen HKR6.out 6
              have hzc7 : w6.cell? ⟨b8, 7, none⟩ = some _ := (blk_cell HKR6.out 7).trans rfl
              have hfc7 := blk_frozen HKR6.out 7
              refine store_step (w1 := ((((((((w6.setCell ⟨b8, 0, none⟩ (.int .i64 1)).setCell ⟨b8, 1, none⟩ (.int .i64 (-1))).setCell ⟨b8, 2, none⟩ (.int .i64 0)).setCell ⟨b8, 3, none⟩ (.string (⟨#[102]⟩ : ByteArray))).setCell ⟨b8, 4, none⟩ (.slice A2 ns.length c2)).setCell ⟨b8, 5, none⟩ (.slice B2 ns.length cb2)).setCell ⟨b8, 6, none⟩ (.slice AR2 (came ns.length P1 P2 1).length cR2)).setCell ⟨b8, 7, none⟩ (.slice AC2 (came ns.length P1 P2 3).length cC2))) rfl rfl (by first | (go_simp; done) | (go_simp; rfl)) ?_
              have hg8 := setCells_grown w6 b8 [.int .i64 1, .int .i64 (-1), .int .i64 0, .string (⟨#[102]⟩ : ByteArray), .slice A2 ns.length c2, .slice B2 ns.length cb2, .slice AR2 (came ns.length P1 P2 1).length cR2, .slice AC2 (came ns.length P1 P2 3).length cC2]
              have hk8 := setCells_full HKR6.out [.int .i64 1, .int .i64 (-1), .int .i64 0, .string (⟨#[102]⟩ : ByteArray), .slice A2 ns.length c2, .slice B2 ns.length cb2, .slice AR2 (came ns.length P1 P2 1).length cR2, .slice AC2 (came ns.length P1 P2 3).length cC2] rfl
              simp only [World.setCells, Nat.zero_add, Nat.reduceAdd] at hg8 hk8
              have HTC := Aside0.mk (TS.chg (C := ⟨W, well, AW, cW, ns, some adn, c1, b7, b8, g11, c11⟩) (P0 := P1) HT5.out HB6.out HRun.out HLR.out HLC.out hg8 hk8)
              clear hg8 hk8 hzc0 hfc0 hzc1 hfc1 hzc2 hfc2 hzc3 hfc3 hzc4 hfc4 hzc5 hfc5 hzc6 hfc6 hzc7 hfc7
              generalize ((((((((w6.setCell ⟨b8, 0, none⟩ (.int .i64 1)).setCell ⟨b8, 1, none⟩ (.int .i64 (-1))).setCell ⟨b8, 2, none⟩ (.int .i64 0)).setCell ⟨b8, 3, none⟩ (.string (⟨#[102]⟩ : ByteArray))).setCell ⟨b8, 4, none⟩ (.slice A2 ns.length c2)).setCell ⟨b8, 5, none⟩ (.slice B2 ns.length cb2)).setCell ⟨b8, 6, none⟩ (.slice AR2 (came ns.length P1 P2 1).length cR2)).setCell ⟨b8, 7, none⟩ (.slice AC2 (came ns.length P1 P2 3).length cC2)) = w7 at *
              refine hK.out _ _ trivial (fun hHeld2 => ?_)
              clear hK K hHeld
              have hHeld := hHeld2
              clear hHeld2
              (try simp only [Act.put, List.setIfInBounds_toArray, List.set_cons_zero, List.set_cons_succ])
              refine wpAnyH_ready (rs := [11]) (by kernel_rfl) (by simp) ?_
              refine AllReadyH.cons (o := { dst := some 9, op := Op.assign (Operand.tmp 107), type := 36, pos := "top15.go:67", after := #[{ on := 9, ground := Ground.data }, { on := 10, ground := Ground.chain }, { on := 0, ground := Ground.phase }, { on := 1, ground := Ground.phase }, { on := 2, ground := Ground.phase }, { on := 3, ground := Ground.phase }, { on := 4, ground := Ground.phase }, { on := 5, ground := Ground.phase }, { on := 6, ground := Ground.phase }, { on := 7, ground := Ground.phase }, { on := 8, ground := Ground.phase }, { on := 9, ground := Ground.phase }, { on := 10, ground := Ground.phase }], guard := none }) rfl (fun K hK => ?_) AllReadyH.nil
              go_simp
              refine hK.out _ _ trivial (fun hHeld2 => ?_)
              clear hK K hHeld
              have hHeld := hHeld2
              clear hHeld2
              (try simp only [Act.put, List.setIfInBounds_toArray, List.set_cons_zero, List.set_cons_succ])
              refine wpAnyH_done (by kernel_rfl) ?_ _
              clear hHeld
              go_wp2
              go_meet
              case rel => exact ⟨P1, P2, T, HTC, Aside0.mk (HI.out.step HFO.out i hi m hm (HZM.out.trans HZ.out) P1 P2 T _ (.inl ⟨hP3, rfl, rfl, rfl⟩) HM.out HS.out)⟩
            · (first | (go_at_call 7; go_loud (refine HG.out.mono ?_; rintro e w5 ⟨rfl, hb⟩)) | (go_simp; (go_at_call 7; go_loud (refine HG.out.mono ?_; rintro e w5 ⟨rfl, hb⟩))))
              have HB5 := Aside0.mk hb
              have HT5 := Aside0.mk (HT4.out.step hb)
              have HKR5 := Aside0.mk (blk_below HKR.out hb)
              have HRN5 := Aside0.mk (HRN.out.step (fun k _ h => hb.block k h) (fun k _ h => hb.block k h))
              clear hb
              refine hK.out _ _ trivial (fun hHeld2 => ?_)
              clear hK K hHeld
              have hHeld := hHeld2
              clear hHeld2
              (try simp only [Act.put, List.setIfInBounds_toArray, List.set_cons_zero, List.set_cons_succ])
              have hk0 : w5.cell? ⟨b8, 0, none⟩ = some (.int .i64 1) := (blk_cell HKR5.out 0).trans rfl
              have hk1 : w5.cell? ⟨b8, 1, none⟩ = some (.int .i64 (-1)) := (blk_cell HKR5.out 1).trans rfl
              have hk2 : w5.cell? ⟨b8, 2, none⟩ = some (.int .i64 0) := (blk_cell HKR5.out 2).trans rfl
              have hk3 : w5.cell? ⟨b8, 3, none⟩ = some (.string (⟨#[102]⟩ : ByteArray)) := (blk_cell HKR5.out 3).trans rfl
              have hk4 : w5.cell? ⟨b8, 4, none⟩ = some (.slice Ar ns.length cr) := (blk_cell HKR5.out 4).trans rfl
              have hk5 : w5.cell? ⟨b8, 5, none⟩ = some (.slice Br ns.length cbr) := (blk_cell HKR5.out 5).trans rfl
              refine wpAnyH_ready (rs := [1]) (by kernel_rfl) (by simp) ?_
              refine AllReadyH.cons (o := { dst := some 100, op := Op.load 33 (Operand.tmp 99), type := 33, pos := "top15.go:67", after := #[{ on := 0, ground := Ground.data }], guard := none }) rfl (fun K hK => ?_) AllReadyH.nil
              go_simp
              refine hK.out _ _ trivial (fun hHeld2 => ?_)
              clear hK K hHeld
              have hHeld := hHeld2
              clear hHeld2
              (try simp only [Act.put, List.setIfInBounds_toArray, List.set_cons_zero, List.set_cons_succ])
              clear hk0 hk1 hk2 hk3 hk4 hk5
              have HAN := Aside0.mk (answer_calls 1 (-1) 0 (⟨#[102]⟩ : ByteArray) Ar cr Br cbr ns (depsL l) P1 T _ _ i z (goodB well i) _ w5 HRN5.out HFO.out HZ.out hi hP3 rfl)
              refine wpAnyH_ready (rs := [6]) (by kernel_rfl) (by simp) ?_
              refine AllReadyH.cons (o := { dst := some 105, op := Op.call { callee := Callee.value (Operand.func 8), args := #[Operand.tmp 100, Operand.tmp 101, Operand.const (Value.int IntKind.i64 0), Operand.tmp 104], argTypes := #[33, 3, 2, 4] }, type := 37, pos := "top15.go:67", after := #[{ on := 1, ground := Ground.data }, { on := 2, ground := Ground.data }, { on := 5, ground := Ground.data }, { on := 5, ground := Ground.chain }], guard := none }) rfl (fun K hK => ?_) AllReadyH.nil
              (first | (go_at_call 8; go_loud (refine HAN.out.mono ?_; rintro e w6 ⟨v, rfl, hch, hb⟩)) | (go_simp; (go_at_call 8; go_loud (refine HAN.out.mono ?_; rintro e w6 ⟨v, rfl, hch, hb⟩))))
              obtain ⟨P2, A2, c2, B2, cb2, AR2, cR2, AC2, cC2, rfl, hM, hS, hRun, hLR, hLC⟩ := hch
              have HB6 := Aside0.mk hb
              have HKR6 := Aside0.mk (blk_below HKR5.out hb)
              have HM := Aside0.mk hM
              have HS := Aside0.mk hS
              have HRun := Aside0.mk hRun
              have HLR := Aside0.mk hLR
              have HLC := Aside0.mk hLC
              clear hb hM hS hRun hLR hLC
              refine hK.out _ _ trivial (fun hHeld2 => ?_)
              clear hK K hHeld
              have hHeld := hHeld2
              clear hHeld2
              (try simp only [Act.put, List.setIfInBounds_toArray, List.set_cons_zero, List.set_cons_succ])
              refine wpAnyH_take (i := 7) (oi := { dst := some 98, op := Op.move (Operand.tmp 105), type := 37, pos := "top15.go:67", after := #[{ on := 6, ground := Ground.data }], guard := none }) (v := ?vcb7) rfl (by kernel_rfl) (by kernel_rfl) (by kernel_rfl) (fun _ _ _ h => h) (Or.inl ⟨by rfl, ?ycb7⟩) (by assumption) ?_
              case ycb7 => (intro w hSw; (try dsimp only at hSw); go_simp; try with_reducible rfl)
              (try simp only [Act.put, List.setIfInBounds_toArray, List.set_cons_zero, List.set_cons_succ])
              refine wpAnyH_take (i := 8) (oi := { dst := some 106, op := Op.extract (Operand.tmp 98) 0, type := 35, pos := "top15.go:67", after := #[{ on := 7, ground := Ground.data }], guard := none }) (v := ?vcb8) rfl (by kernel_rfl) (by kernel_rfl) (by kernel_rfl) (fun _ _ _ h => h) (Or.inl ⟨by rfl, ?ycb8⟩) (by assumption) ?_
              case ycb8 => (intro w hSw; (try dsimp only at hSw); go_simp; try with_reducible rfl)
              (try simp only [Act.put, List.setIfInBounds_toArray, List.set_cons_zero, List.set_cons_succ])
              refine wpAnyH_take (i := 9) (oi := { dst := some 107, op := Op.extract (Operand.tmp 98) 1, type := 36, pos := "top15.go:67", after := #[{ on := 7, ground := Ground.data }, { on := 10, ground := Ground.gcOnly Departure.lateStores }], guard := none }) (v := ?vcb9) rfl (by kernel_rfl) (by kernel_rfl) (by kernel_rfl) (fun _ _ _ h => h) (Or.inl ⟨by rfl, ?ycb9⟩) (by assumption) ?_
              case ycb9 => (intro w hSw; (try dsimp only at hSw); go_simp; try with_reducible rfl)
              (try simp only [Act.put, List.setIfInBounds_toArray, List.set_cons_zero, List.set_cons_succ])
              refine wpAnyH_ready (rs := [10]) (by kernel_rfl) (by simp) ?_
              refine AllReadyH.cons (o := { dst := none, op := Op.store 35 (Operand.tmp 8) (Operand.tmp 106), type := 0, pos := "top15.go:67", after := #[{ on := 8, ground := Ground.data }, { on := 6, ground := Ground.chain }, { on := 0, ground := Ground.phase }, { on := 1, ground := Ground.phase }, { on := 2, ground := Ground.phase }, { on := 3, ground := Ground.phase }, { on := 4, ground := Ground.phase }, { on := 5, ground := Ground.phase }, { on := 6, ground := Ground.phase }, { on := 7, ground := Ground.phase }, { on := 8, ground := Ground.phase }, { on := 9, ground := Ground.textOnly Departure.lateStores }], guard := none }) rfl (fun K hK => ?_) AllReadyH.nil
              have hzc0 : w6.cell? ⟨b8, 0, none⟩ = some _ := (blk_cell HKR6.out 0).trans rfl
              have hfc0 := blk_frozen HKR6.out 0
              have hzc1 : w6.cell? ⟨b8, 1, none⟩ = some _ := (blk_cell HKR6.out 1).trans rfl
              have hfc1 := blk_frozen HKR6.out 1
              have hzc2 : w6.cell? ⟨b8, 2, none⟩ = some _ := (blk_cell HKR6.out 2).trans rfl
              have hfc2 := blk_frozen HKR6.out 2
              have hzc3 : w6.cell? ⟨b8, 3, none⟩ = some _ := (blk_cell HKR6.out 3).trans rfl
              have hfc3 := blk_frozen HKR6.out 3
              have hzc4 : w6.cell? ⟨b8, 4, none⟩ = some _ := (blk_cell HKR6.out 4).trans rfl
              have hfc4 := blk_frozen HKR6.out 4
              have hzc5 : w6.cell? ⟨b8, 5, none⟩ = some _ := (blk_cell HKR6.out 5).trans rfl
              have hfc5 := blk_frozen HKR6.out 5
              have hzc6 : w6.cell? ⟨b8, 6, none⟩ = some _ := (blk_cell HKR6.out 6).trans rfl
              have hfc6 := blk_frozen HKR6.out 6
              have hzc7 : w6.cell? ⟨b8, 7, none⟩ = some _ := (blk_cell HKR6.out 7).trans rfl
              have hfc7 := blk_frozen HKR6.out 7
              refine store_step (w1 := ((((((((w6.setCell ⟨b8, 0, none⟩ (.int .i64 1)).setCell ⟨b8, 1, none⟩ (.int .i64 (-1))).setCell ⟨b8, 2, none⟩ (.int .i64 0)).setCell ⟨b8, 3, none⟩ (.string (⟨#[102]⟩ : ByteArray))).setCell ⟨b8, 4, none⟩ (.slice A2 ns.length c2)).setCell ⟨b8, 5, none⟩ (.slice B2 ns.length cb2)).setCell ⟨b8, 6, none⟩ (.slice AR2 (came ns.length P1 P2 1).length cR2)).setCell ⟨b8, 7, none⟩ (.slice AC2 (came ns.length P1 P2 3).length cC2))) rfl rfl (by first | (go_simp; done) | (go_simp; rfl)) ?_
              have hg8 := setCells_grown w6 b8 [.int .i64 1, .int .i64 (-1), .int .i64 0, .string (⟨#[102]⟩ : ByteArray), .slice A2 ns.length c2, .slice B2 ns.length cb2, .slice AR2 (came ns.length P1 P2 1).length cR2, .slice AC2 (came ns.length P1 P2 3).length cC2]
              have hk8 := setCells_full HKR6.out [.int .i64 1, .int .i64 (-1), .int .i64 0, .string (⟨#[102]⟩ : ByteArray), .slice A2 ns.length c2, .slice B2 ns.length cb2, .slice AR2 (came ns.length P1 P2 1).length cR2, .slice AC2 (came ns.length P1 P2 3).length cC2] rfl
              simp only [World.setCells, Nat.zero_add, Nat.reduceAdd] at hg8 hk8
              have HTC := Aside0.mk (TS.chg (C := ⟨W, well, AW, cW, ns, some adn, c1, b7, b8, g11, c11⟩) (P0 := P1) HT5.out HB6.out HRun.out HLR.out HLC.out hg8 hk8)
              clear hg8 hk8 hzc0 hfc0 hzc1 hfc1 hzc2 hfc2 hzc3 hfc3 hzc4 hfc4 hzc5 hfc5 hzc6 hfc6 hzc7 hfc7
              generalize ((((((((w6.setCell ⟨b8, 0, none⟩ (.int .i64 1)).setCell ⟨b8, 1, none⟩ (.int .i64 (-1))).setCell ⟨b8, 2, none⟩ (.int .i64 0)).setCell ⟨b8, 3, none⟩ (.string (⟨#[102]⟩ : ByteArray))).setCell ⟨b8, 4, none⟩ (.slice A2 ns.length c2)).setCell ⟨b8, 5, none⟩ (.slice B2 ns.length cb2)).setCell ⟨b8, 6, none⟩ (.slice AR2 (came ns.length P1 P2 1).length cR2)).setCell ⟨b8, 7, none⟩ (.slice AC2 (came ns.length P1 P2 3).length cC2)) = w7 at *
              refine hK.out _ _ trivial (fun hHeld2 => ?_)
              clear hK K hHeld
              have hHeld := hHeld2
              clear hHeld2
              (try simp only [Act.put, List.setIfInBounds_toArray, List.set_cons_zero, List.set_cons_succ])
              refine wpAnyH_ready (rs := [11]) (by kernel_rfl) (by simp) ?_
              refine AllReadyH.cons (o := { dst := some 9, op := Op.assign (Operand.tmp 107), type := 36, pos := "top15.go:67", after := #[{ on := 9, ground := Ground.data }, { on := 10, ground := Ground.chain }, { on := 0, ground := Ground.phase }, { on := 1, ground := Ground.phase }, { on := 2, ground := Ground.phase }, { on := 3, ground := Ground.phase }, { on := 4, ground := Ground.phase }, { on := 5, ground := Ground.phase }, { on := 6, ground := Ground.phase }, { on := 7, ground := Ground.phase }, { on := 8, ground := Ground.phase }, { on := 9, ground := Ground.phase }, { on := 10, ground := Ground.phase }], guard := none }) rfl (fun K hK => ?_) AllReadyH.nil
              go_simp
              refine hK.out _ _ trivial (fun hHeld2 => ?_)
              clear hK K hHeld
              have hHeld := hHeld2
              clear hHeld2
              (try simp only [Act.put, List.setIfInBounds_toArray, List.set_cons_zero, List.set_cons_succ])
              refine wpAnyH_done (by kernel_rfl) ?_ _
              clear hHeld
              go_wp2
              go_meet
              case rel => exact ⟨P1, P2, T, HTC, Aside0.mk (HI.out.step HFO.out i hi m hm (HZM.out.trans HZ.out) P1 P2 T _ (.inl ⟨hP3, rfl, rfl, rfl⟩) HM.out HS.out)⟩
          · have e1 : (t4 != -1) = false := by rw [HT4E.out, hf4]; rfl
            have ht1 := HI.out.t1 i hi hP1
            have HT1 := Aside0.mk ht1
            have hTi0 : 0 ≤ T i := by omega
            have hTi1 : T i < 100 := by omega
            obtain ⟨Ar, cr, Br, cbr, vr, vc, hkr, hrun⟩ := HT3.out.run
            have HKR := Aside0.mk hkr
            have HLE := Aside0.mk (lease_calls 1 (-1) 0 (⟨#[102]⟩ : ByteArray) Ar cr Br cbr ns (depsL l) P1 T _ _ i z w3 hrun HFO.out HZ.out hi hP1 hTi0 hTi1)
            obtain ⟨hk0, hk1, hk2, hk3, hk4, hk5⟩ := (show w3.cell? ⟨b8, 0, none⟩ = some (.int .i64 1) ∧ w3.cell? ⟨b8, 1, none⟩ = some (.int .i64 (-1)) ∧ w3.cell? ⟨b8, 2, none⟩ = some (.int .i64 0) ∧ w3.cell? ⟨b8, 3, none⟩ = some (.string (⟨#[102]⟩ : ByteArray)) ∧ w3.cell? ⟨b8, 4, none⟩ = some (.slice Ar ns.length cr) ∧ w3.cell? ⟨b8, 5, none⟩ = some (.slice Br ns.length cbr) from ⟨(blk_cell HKR.out 0).trans rfl, (blk_cell HKR.out 1).trans rfl, (blk_cell HKR.out 2).trans rfl, (blk_cell HKR.out 3).trans rfl, (blk_cell HKR.out 4).trans rfl, (blk_cell HKR.out 5).trans rfl⟩)
            clear hkr hrun ht1 hTi0 hTi1
            go_upto_region 24 with (first | (go_at_call 9; go_loud (refine HLE.out.mono ?_; rintro e w4 ⟨Al, cl, Bl, cbl, rfl, hrl, hb⟩; have HRL := Aside0.mk hrl; have HB4 := Aside0.mk hb; clear hrl hb)))
            clear hk0 hk1 hk2 hk3 hk4 hk5 HLE
            have hb5 := below_alloc (Below.refl w4.heap.size w4) (.cells #[.int .i64 1, .int .i64 (-1), .int .i64 0, .string (⟨#[102]⟩ : ByteArray), .slice Al ns.length cl, .slice Bl ns.length cbl] 33)
            have hbk := blk_new w4 (.cells #[.int .i64 1, .int .i64 (-1), .int .i64 0, .string (⟨#[102]⟩ : ByteArray), .slice Al ns.length cl, .slice Bl ns.length cbl] 33)
            have hdr : Below (w4.alloc (.cells #[.int .i64 1, .int .i64 (-1), .int .i64 0, .string (⟨#[102]⟩ : ByteArray), .slice Al ns.length cl, .slice Bl ns.length cbl] 33)).heap.size (w4.alloc (.cells #[.int .i64 1, .int .i64 (-1), .int .i64 0, .string (⟨#[102]⟩ : ByteArray), .slice Al ns.length cl, .slice Bl ns.length cbl] 33)) (w4.alloc (.cells #[.int .i64 1, .int .i64 (-1), .int .i64 0, .string (⟨#[102]⟩ : ByteArray), .slice Al ns.length cl, .slice Bl ns.length cbl] 33)).drew := below_drew1 (Below.refl _ _)
            have HB45 := Aside0.mk (below_step hb5 hdr)
            have HX5 := Aside0.mk (blk_below hbk hdr)
            clear hb5 hbk hdr
            have HB35 := Aside0.mk (below_step HB4.out HB45.out)
            have HT5 := Aside0.mk (HT3.out.step HB35.out)
            have HKR5 := Aside0.mk (blk_below HKR.out HB35.out)
            have HRL5 := Aside0.mk (HRL.out.step (fun k _ h => HB45.out.block k h) (fun k _ h => HB45.out.block k h))
            have hcl5 := (HT5.out.cell z i HZ.out hi).1
            rw [upd_same] at hcl5
            have K0 : (w4.alloc (.cells #[.int .i64 1, .int .i64 (-1), .int .i64 0, .string (⟨#[102]⟩ : ByteArray), .slice Al ns.length cl, .slice Bl ns.length cbl] 33)).drew.cell? ⟨w4.heap.size, 0, none⟩ = some (.int .i64 1) ∧ (w4.alloc (.cells #[.int .i64 1, .int .i64 (-1), .int .i64 0, .string (⟨#[102]⟩ : ByteArray), .slice Al ns.length cl, .slice Bl ns.length cbl] 33)).drew.cell? ⟨w4.heap.size, 1, none⟩ = some (.int .i64 (-1)) ∧ (w4.alloc (.cells #[.int .i64 1, .int .i64 (-1), .int .i64 0, .string (⟨#[102]⟩ : ByteArray), .slice Al ns.length cl, .slice Bl ns.length cbl] 33)).drew.cell? ⟨w4.heap.size, 2, none⟩ = some (.int .i64 0) ∧ (w4.alloc (.cells #[.int .i64 1, .int .i64 (-1), .int .i64 0, .string (⟨#[102]⟩ : ByteArray), .slice Al ns.length cl, .slice Bl ns.length cbl] 33)).drew.cell? ⟨w4.heap.size, 3, none⟩ = some (.string (⟨#[102]⟩ : ByteArray)) ∧ (w4.alloc (.cells #[.int .i64 1, .int .i64 (-1), .int .i64 0, .string (⟨#[102]⟩ : ByteArray), .slice Al ns.length cl, .slice Bl ns.length cbl] 33)).drew.cell? ⟨w4.heap.size, 4, none⟩ = some (.slice Al ns.length cl) ∧ (w4.alloc (.cells #[.int .i64 1, .int .i64 (-1), .int .i64 0, .string (⟨#[102]⟩ : ByteArray), .slice Al ns.length cl, .slice Bl ns.length cbl] 33)).drew.cell? ⟨w4.heap.size, 5, none⟩ = some (.slice Bl ns.length cbl) ∧ (w4.alloc (.cells #[.int .i64 1, .int .i64 (-1), .int .i64 0, .string (⟨#[102]⟩ : ByteArray), .slice Al ns.length cl, .slice Bl ns.length cbl] 33)).drew.cell? ⟨g11, z.toNat, none⟩ = some (.int .i64 (tk i + 1)) := ⟨(blk_cell HX5.out 0).trans rfl, (blk_cell HX5.out 1).trans rfl, (blk_cell HX5.out 2).trans rfl, (blk_cell HX5.out 3).trans rfl, (blk_cell HX5.out 4).trans rfl, (blk_cell HX5.out 5).trans rfl, hcl5⟩
            refine wp_region_held_drew (S := fun w => w.cell? ⟨w4.heap.size, 0, none⟩ = some (.int .i64 1) ∧ w.cell? ⟨w4.heap.size, 1, none⟩ = some (.int .i64 (-1)) ∧ w.cell? ⟨w4.heap.size, 2, none⟩ = some (.int .i64 0) ∧ w.cell? ⟨w4.heap.size, 3, none⟩ = some (.string (⟨#[102]⟩ : ByteArray)) ∧ w.cell? ⟨w4.heap.size, 4, none⟩ = some (.slice Al ns.length cl) ∧ w.cell? ⟨w4.heap.size, 5, none⟩ = some (.slice Bl ns.length cbl) ∧ w.cell? ⟨g11, z.toNat, none⟩ = some (.int .i64 (tk i + 1))) (by kernel_rfl) K0 (fun hHeld => ?_)
            clear K0 hcl5
            generalize (w4.alloc (.cells #[.int .i64 1, .int .i64 (-1), .int .i64 0, .string (⟨#[102]⟩ : ByteArray), .slice Al ns.length cl, .slice Bl ns.length cbl] 33)).drew = w5 at *
            have HG := Aside0.mk (good_calls z i W.heap.size AW cW well w5 HZ.out HT5.out.b4 (Kd.C_below HWc.out HT5.out.below))
            refine wpAnyH_take (i := 0) (oi := { dst := some 120, op := Op.load 33 (Operand.tmp 16), type := 33, pos := "top15.go:75", after := #[], guard := none }) (v := ?vd0) rfl (by kernel_rfl) (by kernel_rfl) (by kernel_rfl) (fun _ _ _ h => h) (Or.inl ⟨by rfl, ?yd0⟩) (by assumption) ?_
            case yd0 => (intro w hSw; (try dsimp only at hSw); go_simp; try with_reducible rfl)
            (try simp only [Act.put, List.setIfInBounds_toArray, List.set_cons_zero, List.set_cons_succ])
            refine wpAnyH_take (i := 1) (oi := { dst := some 121, op := Op.move (Operand.tmp 15), type := 3, pos := "top15.go:75", after := #[], guard := none }) (v := ?vd1) rfl (by kernel_rfl) (by kernel_rfl) (by kernel_rfl) (fun _ _ _ h => h) (Or.inl ⟨by rfl, ?yd1⟩) (by assumption) ?_
            case yd1 => (intro w hSw; (try dsimp only at hSw); go_simp; try with_reducible rfl)
            (try simp only [Act.put, List.setIfInBounds_toArray, List.set_cons_zero, List.set_cons_succ])
            refine wpAnyH_take (i := 2) (oi := { dst := some 122, op := Op.move (Operand.tmp 11), type := 24, pos := "top15.go:75", after := #[], guard := none }) (v := ?vd2) rfl (by kernel_rfl) (by kernel_rfl) (by kernel_rfl) (fun _ _ _ h => h) (Or.inl ⟨by rfl, ?yd2⟩) (by assumption) ?_
            case yd2 => (intro w hSw; (try dsimp only at hSw); go_simp; try with_reducible rfl)
            (try simp only [Act.put, List.setIfInBounds_toArray, List.set_cons_zero, List.set_cons_succ])
            refine wpAnyH_take (i := 3) (oi := { dst := some 123, op := Op.move (Operand.tmp 15), type := 3, pos := "top15.go:75", after := #[], guard := none }) (v := ?vd3) rfl (by kernel_rfl) (by kernel_rfl) (by kernel_rfl) (fun _ _ _ h => h) (Or.inl ⟨by rfl, ?yd3⟩) (by assumption) ?_
            case yd3 => (intro w hSw; (try dsimp only at hSw); go_simp; try with_reducible rfl)
            (try simp only [Act.put, List.setIfInBounds_toArray, List.set_cons_zero, List.set_cons_succ])
            refine wpAnyH_take (i := 4) (oi := { dst := some 124, op := Op.indexAddr 24 (Operand.tmp 122) (Operand.tmp 123), type := 0, pos := "top15.go:75", after := #[{ on := 2, ground := Ground.data }, { on := 3, ground := Ground.data }], guard := none }) (v := ?vd4) rfl (by kernel_rfl) (by kernel_rfl) (by kernel_rfl) (fun _ _ _ h => h) (Or.inl ⟨by rfl, ?yd4⟩) (by assumption) ?_
            case yd4 => (intro w hSw; (try dsimp only at hSw); go_simp; try with_reducible rfl)
            (try simp only [Act.put, List.setIfInBounds_toArray, List.set_cons_zero, List.set_cons_succ])
            refine wpAnyH_take (i := 5) (oi := { dst := some 125, op := Op.load 3 (Operand.tmp 124), type := 3, pos := "top15.go:75", after := #[{ on := 4, ground := Ground.data }], guard := none }) (v := ?vd5) rfl (by kernel_rfl) (by kernel_rfl) (by kernel_rfl) (fun _ _ _ h => h) (Or.inl ⟨by rfl, ?yd5⟩) (by assumption) ?_
            case yd5 => (intro w hSw; (try dsimp only at hSw); go_simp; try with_reducible rfl)
            (try simp only [Act.put, List.setIfInBounds_toArray, List.set_cons_zero, List.set_cons_succ])
            refine wpAnyH_take (i := 6) (oi := { dst := some 126, op := Op.move (Operand.tmp 10), type := 40, pos := "top15.go:75", after := #[], guard := none }) (v := ?vd6) rfl (by kernel_rfl) (by kernel_rfl) (by kernel_rfl) (fun _ _ _ h => h) (Or.inl ⟨by rfl, ?yd6⟩) (by assumption) ?_
            case yd6 => (intro w hSw; (try dsimp only at hSw); go_simp; try with_reducible rfl)
            (try simp only [Act.put, List.setIfInBounds_toArray, List.set_cons_zero, List.set_cons_succ])
            refine wpAnyH_take (i := 7) (oi := { dst := some 127, op := Op.move (Operand.tmp 15), type := 3, pos := "top15.go:75", after := #[], guard := none }) (v := ?vd7) rfl (by kernel_rfl) (by kernel_rfl) (by kernel_rfl) (fun _ _ _ h => h) (Or.inl ⟨by rfl, ?yd7⟩) (by assumption) ?_
            case yd7 => (intro w hSw; (try dsimp only at hSw); go_simp; try with_reducible rfl)
            (try simp only [Act.put, List.setIfInBounds_toArray, List.set_cons_zero, List.set_cons_succ])
            refine wpAnyH_ready (rs := [8]) (by kernel_rfl) (by simp) ?_
            refine AllReadyH.cons (o := { dst := some 128, op := Op.call { callee := Callee.value (Operand.tmp 126), args := #[Operand.tmp 127], argTypes := #[3] }, type := 4, pos := "top15.go:75", after := #[{ on := 6, ground := Ground.data }, { on := 7, ground := Ground.data }], guard := none }) rfl (fun K hK => ?_) AllReadyH.nil
            (first | (go_at_call 7; go_loud (refine HG.out.mono ?_; rintro e w6 ⟨rfl, hb⟩)) | (go_simp; (go_at_call 7; go_loud (refine HG.out.mono ?_; rintro e w6 ⟨rfl, hb⟩))))
            have HB6 := Aside0.mk hb
            have HT6 := Aside0.mk (HT5.out.step hb)
            have HX6 := Aside0.mk (blk_below HX5.out hb)
            have HKR6 := Aside0.mk (blk_below HKR5.out hb)
            have HRL6 := Aside0.mk (HRL5.out.step (fun k _ h => hb.block k h) (fun k _ h => hb.block k h))
            have hcl6 := (HT6.out.cell z i HZ.out hi).1
            rw [upd_same] at hcl6
            have K6 : w6.cell? ⟨w4.heap.size, 0, none⟩ = some (.int .i64 1) ∧ w6.cell? ⟨w4.heap.size, 1, none⟩ = some (.int .i64 (-1)) ∧ w6.cell? ⟨w4.heap.size, 2, none⟩ = some (.int .i64 0) ∧ w6.cell? ⟨w4.heap.size, 3, none⟩ = some (.string (⟨#[102]⟩ : ByteArray)) ∧ w6.cell? ⟨w4.heap.size, 4, none⟩ = some (.slice Al ns.length cl) ∧ w6.cell? ⟨w4.heap.size, 5, none⟩ = some (.slice Bl ns.length cbl) ∧ w6.cell? ⟨g11, z.toNat, none⟩ = some (.int .i64 (tk i + 1)) := ⟨(blk_cell HX6.out 0).trans rfl, (blk_cell HX6.out 1).trans rfl, (blk_cell HX6.out 2).trans rfl, (blk_cell HX6.out 3).trans rfl, (blk_cell HX6.out 4).trans rfl, (blk_cell HX6.out 5).trans rfl, hcl6⟩
            clear hb hcl6
            refine hK.out _ _ K6 (fun hHeld2 => ?_)
            clear hK K hHeld
            have hHeld := hHeld2
            clear hHeld2
            (try simp only [Act.put, List.setIfInBounds_toArray, List.set_cons_zero, List.set_cons_succ])
            have HFI := Aside0.mk (finish_calls 1 (-1) 0 (⟨#[102]⟩ : ByteArray) Al cl Bl cbl ns (depsL l) (upd P1 i 2) (upd T i (T i + 1)) _ _ i z (tk i + 1) (goodB well i) _ w6 HRL6.out HFO.out HZ.out hi (upd_same _ _ _) (by rw [upd_same, HT1.out.1]) rfl)
            refine wpAnyH_ready (rs := [9]) (by kernel_rfl) (by simp) ?_
            refine AllReadyH.cons (o := { dst := some 129, op := Op.call { callee := Callee.value (Operand.func 10), args := #[Operand.tmp 120, Operand.tmp 121, Operand.const (Value.int IntKind.i64 0), Operand.tmp 125, Operand.tmp 128], argTypes := #[33, 3, 2, 3, 4] }, type := 37, pos := "top15.go:75", after := #[{ on := 0, ground := Ground.data }, { on := 1, ground := Ground.data }, { on := 5, ground := Ground.data }, { on := 8, ground := Ground.data }, { on := 8, ground := Ground.chain }], guard := none }) rfl (fun K hK => ?_) AllReadyH.nil
            (first | (go_at_call 10; go_loud (refine HFI.out.mono ?_; rintro e w7 ⟨v, rfl, hch, hb⟩)) | (go_simp; (go_at_call 10; go_loud (refine HFI.out.mono ?_; rintro e w7 ⟨v, rfl, hch, hb⟩))))
            obtain ⟨P2, A2, c2, B2, cb2, AR2, cR2, AC2, cC2, rfl, hM, hS, hRun, hLR, hLC⟩ := hch
            rw [upd_upd, upd_same] at hM
            have HB7 := Aside0.mk (below_step (below_step HB35.out HB6.out) hb)
            have hsz6 : w3.heap.size ≤ w6.heap.size := (below_step HB35.out HB6.out).size
            have HKR7 := Aside0.mk (blk_below HKR6.out hb)
            have HM := Aside0.mk hM
            have HS := Aside0.mk hS
            have HRun := Aside0.mk (hRun.mono (okF' := fun k => Cx.ok ⟨W, well, AW, cW, ns, some adn, c1, b7, b8, g11, c11⟩ v84 k ∨ w3.heap.size ≤ k) (okS' := fun k => w3.heap.size ≤ k) (fun k hk => by
              rcases hk with (hk | hk) | hk
              · exact .inl hk
              · exact .inr hk
              · exact .inr (Nat.le_trans hsz6 hk)) (fun k hk => Nat.le_trans hsz6 hk))
            have HLR := Aside0.mk (show IsList w7 (fun k => w3.heap.size ≤ k) AR2 cR2 (came ns.length (upd P1 i 2) P2 1) from ⟨Kd.F_mono hLR.1 (fun k hk => Nat.le_trans hsz6 hk), hLR.2⟩)
            have HLC := Aside0.mk (show IsList w7 (fun k => w3.heap.size ≤ k) AC2 cC2 (came ns.length (upd P1 i 2) P2 3) from ⟨Kd.F_mono hLC.1 (fun k hk => Nat.le_trans hsz6 hk), hLC.2⟩)
            have K7 : True := trivial
            have hx7 := blk_below HX6.out hb
            have HX7 := Aside0.mk hx7
            have hcl7 := (HT6.out.step hb).cell z i HZ.out hi
            rw [upd_same] at hcl7
            have K7 : w7.cell? ⟨w4.heap.size, 0, none⟩ = some (.int .i64 1) ∧ w7.cell? ⟨w4.heap.size, 1, none⟩ = some (.int .i64 (-1)) ∧ w7.cell? ⟨w4.heap.size, 2, none⟩ = some (.int .i64 0) ∧ w7.cell? ⟨w4.heap.size, 3, none⟩ = some (.string (⟨#[102]⟩ : ByteArray)) ∧ w7.cell? ⟨w4.heap.size, 4, none⟩ = some (.slice Al ns.length cl) ∧ w7.cell? ⟨w4.heap.size, 5, none⟩ = some (.slice Bl ns.length cbl) ∧ w7.cell? ⟨g11, z.toNat, none⟩ = some (.int .i64 (tk i + 1)) := ⟨(blk_cell hx7 0).trans rfl, (blk_cell hx7 1).trans rfl, (blk_cell hx7 2).trans rfl, (blk_cell hx7 3).trans rfl, (blk_cell hx7 4).trans rfl, (blk_cell hx7 5).trans rfl, hcl7.1⟩
            clear hb hM hS hRun hLR hLC hsz6 hx7 hcl7
            refine hK.out _ _ K7 (fun hHeld2 => ?_)
            clear hK K hHeld
            have hHeld := hHeld2
            clear hHeld2
            (try simp only [Act.put, List.setIfInBounds_toArray, List.set_cons_zero, List.set_cons_succ])
            refine wpAnyH_take (i := 10) (oi := { dst := some 119, op := Op.move (Operand.tmp 129), type := 37, pos := "top15.go:75", after := #[{ on := 9, ground := Ground.data }], guard := none }) (v := ?vd10) rfl (by kernel_rfl) (by kernel_rfl) (by kernel_rfl) (fun _ _ _ h => h) (Or.inl ⟨by rfl, ?yd10⟩) (by assumption) ?_
            case yd10 => (intro w hSw; (try dsimp only at hSw); go_simp; try with_reducible rfl)
            (try simp only [Act.put, List.setIfInBounds_toArray, List.set_cons_zero, List.set_cons_succ])
            refine wpAnyH_take (i := 11) (oi := { dst := some 130, op := Op.extract (Operand.tmp 119) 0, type := 35, pos := "top15.go:75", after := #[{ on := 10, ground := Ground.data }], guard := none }) (v := ?vd11) rfl (by kernel_rfl) (by kernel_rfl) (by kernel_rfl) (fun _ _ _ h => h) (Or.inl ⟨by rfl, ?yd11⟩) (by assumption) ?_
            case yd11 => (intro w hSw; (try dsimp only at hSw); go_simp; try with_reducible rfl)
            (try simp only [Act.put, List.setIfInBounds_toArray, List.set_cons_zero, List.set_cons_succ])
            refine wpAnyH_take (i := 12) (oi := { dst := some 131, op := Op.extract (Operand.tmp 119) 1, type := 36, pos := "top15.go:75", after := #[{ on := 10, ground := Ground.data }, { on := 13, ground := Ground.gcOnly Departure.lateStores }], guard := none }) (v := ?vd12) rfl (by kernel_rfl) (by kernel_rfl) (by kernel_rfl) (fun _ _ _ h => h) (Or.inl ⟨by rfl, ?yd12⟩) (by assumption) ?_
            case yd12 => (intro w hSw; (try dsimp only at hSw); go_simp; try with_reducible rfl)
            (try simp only [Act.put, List.setIfInBounds_toArray, List.set_cons_zero, List.set_cons_succ])
            refine wpAnyH_ready (rs := [13]) (by kernel_rfl) (by simp) ?_
            refine AllReadyH.cons (o := { dst := none, op := Op.store 35 (Operand.tmp 8) (Operand.tmp 130), type := 0, pos := "top15.go:75", after := #[{ on := 11, ground := Ground.data }, { on := 9, ground := Ground.chain }, { on := 0, ground := Ground.phase }, { on := 1, ground := Ground.phase }, { on := 2, ground := Ground.phase }, { on := 3, ground := Ground.phase }, { on := 4, ground := Ground.phase }, { on := 5, ground := Ground.phase }, { on := 6, ground := Ground.phase }, { on := 7, ground := Ground.phase }, { on := 8, ground := Ground.phase }, { on := 9, ground := Ground.phase }, { on := 10, ground := Ground.phase }, { on := 11, ground := Ground.phase }, { on := 12, ground := Ground.textOnly Departure.lateStores }], guard := none }) rfl (fun K hK => ?_) AllReadyH.nil
            have hzd0 : w7.cell? ⟨b8, 0, none⟩ = some _ := (blk_cell HKR7.out 0).trans rfl
            have hfd0 := blk_frozen HKR7.out 0
            have hzd1 : w7.cell? ⟨b8, 1, none⟩ = some _ := (blk_cell HKR7.out 1).trans rfl
            have hfd1 := blk_frozen HKR7.out 1
            have hzd2 : w7.cell? ⟨b8, 2, none⟩ = some _ := (blk_cell HKR7.out 2).trans rfl
            have hfd2 := blk_frozen HKR7.out 2
            have hzd3 : w7.cell? ⟨b8, 3, none⟩ = some _ := (blk_cell HKR7.out 3).trans rfl
            have hfd3 := blk_frozen HKR7.out 3
            have hzd4 : w7.cell? ⟨b8, 4, none⟩ = some _ := (blk_cell HKR7.out 4).trans rfl
            have hfd4 := blk_frozen HKR7.out 4
            have hzd5 : w7.cell? ⟨b8, 5, none⟩ = some _ := (blk_cell HKR7.out 5).trans rfl
            have hfd5 := blk_frozen HKR7.out 5
            have hzd6 : w7.cell? ⟨b8, 6, none⟩ = some _ := (blk_cell HKR7.out 6).trans rfl
            have hfd6 := blk_frozen HKR7.out 6
            have hzd7 : w7.cell? ⟨b8, 7, none⟩ = some _ := (blk_cell HKR7.out 7).trans rfl
            have hfd7 := blk_frozen HKR7.out 7
            refine store_step (w1 := ((((((((w7.setCell ⟨b8, 0, none⟩ (.int .i64 1)).setCell ⟨b8, 1, none⟩ (.int .i64 (-1))).setCell ⟨b8, 2, none⟩ (.int .i64 0)).setCell ⟨b8, 3, none⟩ (.string (⟨#[102]⟩ : ByteArray))).setCell ⟨b8, 4, none⟩ (.slice A2 ns.length c2)).setCell ⟨b8, 5, none⟩ (.slice B2 ns.length cb2)).setCell ⟨b8, 6, none⟩ (.slice AR2 (came ns.length (upd P1 i 2) P2 1).length cR2)).setCell ⟨b8, 7, none⟩ (.slice AC2 (came ns.length (upd P1 i 2) P2 3).length cC2))) rfl rfl (by first | (go_simp; done) | (go_simp; rfl)) ?_
            have hg8 := setCells_grown w7 b8 [.int .i64 1, .int .i64 (-1), .int .i64 0, .string (⟨#[102]⟩ : ByteArray), .slice A2 ns.length c2, .slice B2 ns.length cb2, .slice AR2 (came ns.length (upd P1 i 2) P2 1).length cR2, .slice AC2 (came ns.length (upd P1 i 2) P2 3).length cC2]
            have hk8 := setCells_full HKR7.out [.int .i64 1, .int .i64 (-1), .int .i64 0, .string (⟨#[102]⟩ : ByteArray), .slice A2 ns.length c2, .slice B2 ns.length cb2, .slice AR2 (came ns.length (upd P1 i 2) P2 1).length cR2, .slice AC2 (came ns.length (upd P1 i 2) P2 3).length cC2] rfl
            simp only [World.setCells, Nat.zero_add, Nat.reduceAdd] at hg8 hk8
            have hne1 : w4.heap.size ≠ b8 := fun e => by have h1 := blk_lt HKR.out; have h2 := HB4.out.size; have h3 : b8 < w3.heap.size := h1; omega
            have hx8 := blk_grown HX7.out hg8 (fun e => hne1 (by injection e))
            have HTC := Aside0.mk (TS.chg (C := ⟨W, well, AW, cW, ns, some adn, c1, b7, b8, g11, c11⟩) (P0 := (upd P1 i 2)) HT3.out HB7.out HRun.out HLR.out HLC.out hg8 hk8)
            have hcl8 := HTC.out.1.cell z i HZ.out hi
            rw [upd_same] at hcl8
            have HX8 := Aside0.mk hx8
            have HCL8 := Aside0.mk hcl8.1
            clear hx8 hcl8 hne1
            clear hg8 hk8 hzd0 hfd0 hzd1 hfd1 hzd2 hfd2 hzd3 hfd3 hzd4 hfd4 hzd5 hfd5 hzd6 hfd6 hzd7 hfd7
            generalize ((((((((w7.setCell ⟨b8, 0, none⟩ (.int .i64 1)).setCell ⟨b8, 1, none⟩ (.int .i64 (-1))).setCell ⟨b8, 2, none⟩ (.int .i64 0)).setCell ⟨b8, 3, none⟩ (.string (⟨#[102]⟩ : ByteArray))).setCell ⟨b8, 4, none⟩ (.slice A2 ns.length c2)).setCell ⟨b8, 5, none⟩ (.slice B2 ns.length cb2)).setCell ⟨b8, 6, none⟩ (.slice AR2 (came ns.length (upd P1 i 2) P2 1).length cR2)).setCell ⟨b8, 7, none⟩ (.slice AC2 (came ns.length (upd P1 i 2) P2 3).length cC2)) = w8 at *
            have K8 : w8.cell? ⟨w4.heap.size, 0, none⟩ = some (.int .i64 1) ∧ w8.cell? ⟨w4.heap.size, 1, none⟩ = some (.int .i64 (-1)) ∧ w8.cell? ⟨w4.heap.size, 2, none⟩ = some (.int .i64 0) ∧ w8.cell? ⟨w4.heap.size, 3, none⟩ = some (.string (⟨#[102]⟩ : ByteArray)) ∧ w8.cell? ⟨w4.heap.size, 4, none⟩ = some (.slice Al ns.length cl) ∧ w8.cell? ⟨w4.heap.size, 5, none⟩ = some (.slice Bl ns.length cbl) ∧ w8.cell? ⟨g11, z.toNat, none⟩ = some (.int .i64 (tk i + 1)) := ⟨(blk_cell HX8.out 0).trans rfl, (blk_cell HX8.out 1).trans rfl, (blk_cell HX8.out 2).trans rfl, (blk_cell HX8.out 3).trans rfl, (blk_cell HX8.out 4).trans rfl, (blk_cell HX8.out 5).trans rfl, HCL8.out⟩
            refine hK.out _ _ K8 (fun hHeld2 => ?_)
            clear hK K hHeld
            have hHeld := hHeld2
            clear hHeld2
            (try simp only [Act.put, List.setIfInBounds_toArray, List.set_cons_zero, List.set_cons_succ])
            refine wpAnyH_ready (rs := [14]) (by kernel_rfl) (by simp) ?_
            refine AllReadyH.cons (o := { dst := some 17, op := Op.assign (Operand.tmp 131), type := 36, pos := "top15.go:75", after := #[{ on := 12, ground := Ground.data }, { on := 13, ground := Ground.chain }, { on := 0, ground := Ground.phase }, { on := 1, ground := Ground.phase }, { on := 2, ground := Ground.phase }, { on := 3, ground := Ground.phase }, { on := 4, ground := Ground.phase }, { on := 5, ground := Ground.phase }, { on := 6, ground := Ground.phase }, { on := 7, ground := Ground.phase }, { on := 8, ground := Ground.phase }, { on := 9, ground := Ground.phase }, { on := 10, ground := Ground.phase }, { on := 11, ground := Ground.phase }, { on := 12, ground := Ground.phase }, { on := 13, ground := Ground.phase }], guard := none }) rfl (fun K hK => ?_) AllReadyH.nil
            go_simp
            refine hK.out _ _ hHeld (fun hHeld2 => ?_)
            clear hK K hHeld
            have hHeld := hHeld2
            clear hHeld2
            (try simp only [Act.put, List.setIfInBounds_toArray, List.set_cons_zero, List.set_cons_succ])
            refine wpAnyH_done (by kernel_rfl) ?_ _
            clear hHeld K8 K7 K6
            go_wp2
            go_meet
            case rel => exact ⟨upd P1 i 2, P2, upd T i (T i + 1), HTC, Aside0.mk (HI.out.step HFO.out i hi m hm (HZM.out.trans HZ.out) (upd P1 i 2) P2 (upd T i (T i + 1)) _ (.inr ⟨hP1, rfl, rfl, rfl⟩) HM.out HS.out)⟩
        case rest =>
          obtain ⟨P0, P2, T2, HT5, HI5⟩ := hcut
          obtain ⟨hts, Ax, cx, Bx, cbx, AR3, cR3, AC3, cC3, hk8, hLR, hLC⟩ := HT5.out
          have HP5 : Aside0 (p + 1 = total (upd tk i (tk i + 1)) ns.length) := Aside0.mk (by rw [total_upd _ _ _ _ hi, HP.out]; omega)
          have hdr : Below wc.heap.size wc wc.drew := below_drew1 (Below.refl _ _)
          have HT6 := Aside0.mk (HT5.out.step hdr)
          have HK6 := Aside0.mk (blk_below hk8 hdr)
          have HLR6 := Aside0.mk (And.intro (Kd.F_below hLR.1 hdr) hLR.2)
          have HLC6 := Aside0.mk (And.intro (Kd.F_below hLC.1 hdr) hLC.2)
          have hhs6 : W.heap.size ≤ wc.drew.heap.size := HT6.out.1.below.size
          clear hts hk8 hLR hLC HT5 HI HT3 HT2 HCASE HT4E HPI HZM hhs ht0 ht4 hs3 g1 g2 g3
          go_upto_region 27 with (fail)
          have K0 : wc.drew.cell? ⟨b8, 6, none⟩ = some (.slice AR3 (came ns.length P0 P2 1).length cR3) ∧ wc.drew.cell? ⟨b8, 7, none⟩ = some (.slice AC3 (came ns.length P0 P2 3).length cC3) := ⟨(blk_cell HK6.out 6).trans rfl, (blk_cell HK6.out 7).trans rfl⟩
          refine wp_region_held_drew (S := fun w => w.cell? ⟨b8, 6, none⟩ = some (.slice AR3 (came ns.length P0 P2 1).length cR3) ∧ w.cell? ⟨b8, 7, none⟩ = some (.slice AC3 (came ns.length P0 P2 3).length cC3)) (by kernel_rfl) K0 (fun hHeld => ?_)
          clear K0 hdr
          generalize wc.drew = w6 at *
          have hl0 : (op.eraseIdx m).length ≤ 12 := Nat.le_trans (List.length_eraseIdx_le _ _) hopl
          have hl1 : (came ns.length P0 P2 1).length ≤ 12 := Nat.le_trans (came_len _ _ _ _) hnl
          have hl3 : (came ns.length P0 P2 3).length ≤ 12 := Nat.le_trans (came_len _ _ _ _) hnl
          refine wpAnyH_take (i := 0) (oi := { dst := some 134, op := Op.move (Operand.tmp 12), type := 24, pos := "top15.go:79", after := #[], guard := none }) (v := ?ve0) rfl (by kernel_rfl) (by kernel_rfl) (by kernel_rfl) (fun _ _ _ h => h) (Or.inl ⟨by rfl, ?ye0⟩) (by assumption) ?_
          case ye0 => (intro w hSw; (try dsimp only at hSw); go_simp; try with_reducible rfl)
          (try simp only [Act.put, List.setIfInBounds_toArray, List.set_cons_zero, List.set_cons_succ])
          refine wpAnyH_take (i := 1) (oi := { dst := some 135, op := Op.fieldAddr 35 (Operand.tmp 8) 1, type := 0, pos := "top15.go:79", after := #[], guard := none }) (v := ?ve1) rfl (by kernel_rfl) (by kernel_rfl) (by kernel_rfl) (fun _ _ _ h => h) (Or.inl ⟨by rfl, ?ye1⟩) (by assumption) ?_
          case ye1 => (intro w hSw; (try dsimp only at hSw); go_simp; try with_reducible rfl)
          (try simp only [Act.put, List.setIfInBounds_toArray, List.set_cons_zero, List.set_cons_succ])
          refine wpAnyH_take (i := 2) (oi := { dst := some 136, op := Op.load 24 (Operand.tmp 135), type := 24, pos := "top15.go:79", after := #[{ on := 1, ground := Ground.data }], guard := none }) (v := ?ve2) rfl (by kernel_rfl) (by kernel_rfl) (by kernel_rfl) (fun _ _ _ h => h) (Or.inl ⟨by rfl, ?ye2⟩) (by assumption) ?_
          case ye2 => (intro w hSw; (try dsimp only at hSw); go_simp; try with_reducible rfl)
          (try simp only [Act.put, List.setIfInBounds_toArray, List.set_cons_zero, List.set_cons_succ])
          refine wpAnyH_take (i := 4) (oi := { dst := some 138, op := Op.fieldAddr 35 (Operand.tmp 8) 2, type := 0, pos := "top15.go:79", after := #[], guard := none }) (v := ?ve4) rfl (by kernel_rfl) (by kernel_rfl) (by kernel_rfl) (fun _ _ _ h => h) (Or.inl ⟨by rfl, ?ye4⟩) (by assumption) ?_
          case ye4 => (intro w hSw; (try dsimp only at hSw); go_simp; try with_reducible rfl)
          (try simp only [Act.put, List.setIfInBounds_toArray, List.set_cons_zero, List.set_cons_succ])
          refine wpAnyH_take (i := 5) (oi := { dst := some 139, op := Op.load 24 (Operand.tmp 138), type := 24, pos := "top15.go:79", after := #[{ on := 4, ground := Ground.data }], guard := none }) (v := ?ve5) rfl (by kernel_rfl) (by kernel_rfl) (by kernel_rfl) (fun _ _ _ h => h) (Or.inl ⟨by rfl, ?ye5⟩) (by assumption) ?_
          case ye5 => (intro w hSw; (try dsimp only at hSw); go_simp; try with_reducible rfl)
          (try simp only [Act.put, List.setIfInBounds_toArray, List.set_cons_zero, List.set_cons_succ])
          refine wpAnyH_ready (rs := [3]) (by kernel_rfl) (by simp) ?_
          refine AllReadyH.cons (o := { dst := some 137, op := Op.call { callee := Callee.builtin Builtin.append, args := #[Operand.tmp 134, Operand.tmp 136], argTypes := #[24, 24] }, type := 24, pos := "top15.go:79", after := #[{ on := 0, ground := Ground.data }, { on := 2, ground := Ground.data }], guard := none }) rfl (fun K hK => ?_) AllReadyH.nil
          obtain ⟨v137, w7, hruna, hoa, hga, hata⟩ := OpenRow.append cR3 24 HT6.out.1.open_ (Kd.F_now HLR6.out.1) (by omega) (Nat.le_trans hl1 (by omega)) hhs6
          refine event_step (v := v137) (w1 := w7) rfl (append_hrun (.tmp 134) (.tmp 136) rfl (by first | (go_simp; done) | (go_simp; rfl)) (by first | (go_simp; done) | (go_simp; rfl)) hruna) ?_
          obtain ⟨HT7, HK7, HLC7⟩ : Aside0 (TC ⟨W, well, AW, cW, ns, some adn, c1, b7, b8, g11, c11⟩ w7 P0 P2 T2 (upd tk i (tk i + 1)) (op.eraseIdx m ++ came ns.length P0 P2 1) v137) ∧ Aside0 (w7.cell? ⟨b8, 6, none⟩ = some (.slice AR3 (came ns.length P0 P2 1).length cR3) ∧ w7.cell? ⟨b8, 7, none⟩ = some (.slice AC3 (came ns.length P0 P2 3).length cC3)) ∧ Aside0 (Kd.C (Kd.int .i64) w7 AC3 (came ns.length P0 P2 3).length (came ns.length P0 P2 3)) := by
            have hnb : some b8 ≠ v84.ownBlock := HT6.out.1.b8_ne
            have hk7 := blk_grown HK6.out hga hnb
            exact ⟨Aside0.mk (HT6.out.opened hga hoa hata), Aside0.mk ⟨(blk_cell hk7 6).trans rfl, (blk_cell hk7 7).trans rfl⟩, Aside0.mk (Kd.F_now (Kd.F_grown HLC6.out.1 hga (fun k hk => hk.2.2)))⟩
          have hhs7 : W.heap.size ≤ w7.heap.size := HT7.out.1.below.size
          clear hruna hga hoa hata
          refine hK.out _ _ HK7.out (fun hHeld2 => ?_)
          clear hK K hHeld
          have hHeld := hHeld2
          clear hHeld2
          (try simp only [Act.put, List.setIfInBounds_toArray, List.set_cons_zero, List.set_cons_succ])
          refine wpAnyH_ready (rs := [6]) (by kernel_rfl) (by simp) ?_
          refine AllReadyH.cons (o := { dst := some 140, op := Op.call { callee := Callee.builtin Builtin.append, args := #[Operand.tmp 137, Operand.tmp 139], argTypes := #[24, 24] }, type := 24, pos := "top15.go:79", after := #[{ on := 3, ground := Ground.data }, { on := 5, ground := Ground.data }, { on := 3, ground := Ground.chain }], guard := none }) rfl (fun K hK => ?_) AllReadyH.nil
          obtain ⟨v140, w8, hrunb, hob, hgb, hatb⟩ := OpenRow.append cC3 24 HT7.out.1.open_ HLC7.out (by rw [List.length_append]; omega) (by omega) hhs7
          refine event_step (v := v140) (w1 := w8) rfl (append_hrun (.tmp 137) (.tmp 139) rfl (by first | (go_simp; done) | (go_simp; rfl)) (by first | (go_simp; done) | (go_simp; rfl)) hrunb) ?_
          obtain ⟨HT8, HK8⟩ : Aside0 (TS ⟨W, well, AW, cW, ns, some adn, c1, b7, b8, g11, c11⟩ w8 P2 T2 (upd tk i (tk i + 1)) (op.eraseIdx m ++ came ns.length P0 P2 1 ++ came ns.length P0 P2 3) v140) ∧ Aside0 (w8.cell? ⟨b8, 6, none⟩ = some (.slice AR3 (came ns.length P0 P2 1).length cR3) ∧ w8.cell? ⟨b8, 7, none⟩ = some (.slice AC3 (came ns.length P0 P2 3).length cC3)) := by
            obtain ⟨hts, Ay, cy, By, cby, AR4, cR4, AC4, cC4, hk8, _, _⟩ := HT7.out
            have hnb : some b8 ≠ v137.ownBlock := HT7.out.1.b8_ne
            have hk9 := blk_grown hk8 hgb hnb
            have h6 := (blk_cell hk8 6).symm.trans HK7.out.1
            have h7 := (blk_cell hk8 7).symm.trans HK7.out.2
            exact ⟨Aside0.mk (HT7.out.1.opened hgb hob hatb), Aside0.mk ⟨(blk_cell hk9 6).trans h6, (blk_cell hk9 7).trans h7⟩⟩
          clear hrunb hgb hob hatb
          refine hK.out _ _ HK8.out (fun hHeld2 => ?_)
          clear hK K hHeld
          have hHeld := hHeld2
          clear hHeld2
          (try simp only [Act.put, List.setIfInBounds_toArray, List.set_cons_zero, List.set_cons_succ])
          refine wpAnyH_ready (rs := [7]) (by kernel_rfl) (by simp) ?_
          refine AllReadyH.cons (o := { dst := some 12, op := Op.assign (Operand.tmp 140), type := 24, pos := "top15.go:79", after := #[{ on := 6, ground := Ground.data }, { on := 6, ground := Ground.chain }, { on := 0, ground := Ground.phase }, { on := 1, ground := Ground.phase }, { on := 2, ground := Ground.phase }, { on := 3, ground := Ground.phase }, { on := 4, ground := Ground.phase }, { on := 5, ground := Ground.phase }, { on := 6, ground := Ground.phase }], guard := none }) rfl (fun K hK => ?_) AllReadyH.nil
          go_simp
          refine hK.out _ _ hHeld (fun hHeld2 => ?_)
          clear hK K hHeld
          have hHeld := hHeld2
          clear hHeld2
          (try simp only [Act.put, List.setIfInBounds_toArray, List.set_cons_zero, List.set_cons_succ])
          refine wpAnyH_done (by kernel_rfl) ?_ _
          clear hHeld HT6 HT7 HK6 HK7 HK8 HLR6 HLC6 HLC7 hhs6 hhs7 hl0 hl1 hl3
          go_wp2
          go_roundw
          case rel => exact ⟨P2, T2, upd tk i (tk i + 1), _, p + 1, rfl, HP5, HT8, HI5⟩
          case measure => simp [intOf]; omega
end Go.Proofs.Ytiipbibbppgbgaa.T
