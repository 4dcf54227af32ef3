/- The walk of ready.Depths: a slice of the call's own that holds each node's depth. Conditions: the table deBruijn32tab holds its numbers; the masks are numbers of 32 bits. -/
import Derived.Test.YtfkljcnkghakaaaDoorOrder
import Derived.Test.YtfkljcnkghakaaaDoorDep
import Derived.RangeFuncNested
import Derived.Test.YtfkljcnkghakaaaDoorRound
namespace Go.Proofs.YtfkljcnkghakaaaDoor.Masks
open Go.RowKit Go.Proofs.YtfkljcnkghakaaaDoor.PReadyOrders Go.Proofs.YtfkljcnkghakaaaDoorW.PrintWords Go.Proofs.YtfkljcnkghakaaaDoorW.PrintLast Go.Proofs.YtfkljcnkghakaaaDoorW.PrintMore
attribute [local go_sem] max2_int min2_int Oper.semAt_some
set_option linter.unusedVariables false

/-- The marks among a function's deferred calls: blocks from N to S that hold no deferred call. -/
def Marks (N S : Nat) (W : World) (D : List Deferred) : Prop := ∃ ks : List Nat, D = ks.map (fun k => { target := .collected k, args := #[] }) ∧ ks.Nodup ∧ ∀ k ∈ ks, N ≤ k ∧ k < S ∧ W.heap[k]? = some (.deferred (some []))
theorem Marks.nil (N S : Nat) (W : World) : Marks N S W [] := ⟨[], rfl, List.nodup_nil, by simp⟩
theorem Marks.move {N S S' : Nat} {W W' : World} {D : List Deferred} (h : Marks N S W D) (hS : S ≤ S') (hm : ∀ k, N ≤ k → k < S → W'.heap[k]? = W.heap[k]?) : Marks N S' W' D := by
  obtain ⟨ks, h1, h2, h3⟩ := h
  exact ⟨ks, h1, h2, fun k hk => by obtain ⟨a, b, c⟩ := h3 k hk; exact ⟨a, by omega, (hm k a b).trans c⟩⟩
theorem Marks.cons {N S S' k : Nat} {W : World} {D : List Deferred} (h : Marks N S W D) (hN : N ≤ k) (hS : S ≤ k) (hS' : k < S') (hk : W.heap[k]? = some (.deferred (some []))) : Marks N S' W ({ target := .collected k, args := #[] } :: D) := by
  obtain ⟨ks, h1, h2, h3⟩ := h
  refine ⟨k :: ks, by rw [h1]; rfl, ?_, fun j hj => ?_⟩
  · refine List.nodup_cons.2 ⟨fun hm => ?_, h2⟩
    have := (h3 k hm).2.1; omega
  · rcases List.mem_cons.1 hj with rfl | hj
    · exact ⟨hN, hS', hk⟩
    · obtain ⟨a, b, c⟩ := h3 j hj; exact ⟨a, by omega, c⟩
theorem below_putObj {N k : Nat} {W : World} (hN : N ≤ k) (hk : k < W.heap.size) (o : Obj) : Below N W (W.putObj k o) :=
  (Below.refl N W).grown (grownBy_putObj' W k o) (by omega) (fun j e => by cases e; omega)
theorem leaves_marks {F : Fence} {n : Nat} {P : Program} {fn : Func} {tmps : Array Value} {R : Ending → World → Prop} (N : Nat) : ∀ (ks : List Nat) (W : World), ks.Nodup → (∀ k ∈ ks, N ≤ k ∧ W.heap[k]? = some (.deferred (some []))) →
    (∀ W', Below N W W' → LeavesInM F n P fn tmps R [] .returning W') → LeavesInM F n P fn tmps R (ks.map (fun k => ({ target := .collected k, args := #[] } : Deferred))) .returning W := by
  intro ks
  induction ks with
  | nil => intro W _ _ h; exact h W (Below.refl _ _)
  | cons k ks ih =>
    intro W hn hk h
    obtain ⟨hn1, hn2⟩ := List.nodup_cons.1 hn
    obtain ⟨hN, hd⟩ := hk k List.mem_cons_self
    refine ⟨by simp, .inl ⟨k, _, rfl, run_takeDeferred hd, ?_⟩⟩
    refine ih _ hn2 (fun j hj => ?_) (fun W' hb => h W' ((below_putObj hN (Array.getElem?_eq_some_iff.1 hd).1 _).trans hb))
    obtain ⟨h1, h2⟩ := hk j (List.mem_cons_of_mem _ hj)
    exact ⟨h1, (World.putObj_heap_other (fun e => by subst e; exact hn1 hj)).trans h2⟩
theorem Marks.leaves {F : Fence} {n : Nat} {P : Program} {fn : Func} {tmps : Array Value} {R : Ending → World → Prop} {N S : Nat} {W : World} {D : List Deferred} (h : Marks N S W D)
    (hR : ∀ W', Below N W W' → LeavesInM F n P fn tmps R [] .returning W') : LeavesInM F n P fn tmps R D .returning W := by
  obtain ⟨ks, rfl, h2, h3⟩ := h
  exact leaves_marks N ks W h2 (fun k hk => ⟨(h3 k hk).1, (h3 k hk).2.2⟩) hR

theorem R_formB {α : Type} {d : Kd α} {e base b : Nat} {ok : Nat → Prop} {w : World} {v : Value} {xs : List α} (h : d.R e w base ok v xs) (hb : v.ownBlock = some b) : ∃ cap, v = .slice (some ⟨b, 0, none⟩) xs.length cap ∧ base ≤ b ∧ b < w.heap.size := by
  obtain ⟨inner, ho⟩ := Kd.R_own h
  have hlt := ho.lt b hb
  rcases ho.2 with ⟨rfl, _⟩ | ⟨g, cap, cur, rfl, _⟩
  · simp [Value.ownBlock] at hb
  · obtain rfl : g = b := by simpa [Value.ownBlock] using hb
    exact ⟨cap, rfl, hlt.1, hlt.2⟩
theorem grown_trans {A B C : World} {r : Option Nat} (h : A.grownBy B r) (k : B.grownBy C r) : A.grownBy C r := ⟨k.os.trans h.os, k.tape.trans h.tape, k.output.trans h.output, Nat.le_trans h.size k.size, fun i hi hne => (k.block i (Nat.lt_of_lt_of_le hi h.size) hne).trans (h.block i hi hne)⟩
theorem vals_minus (n i : Nat) : (valsOf n (fun j => if j < i then -1 else 0)).set i (-1) = valsOf n (fun j => if j < i + 1 then -1 else 0) := by
  rw [valsOf_set]
  congr 1
  funext j
  unfold upd
  by_cases e : j = i
  · subst e; simp
  · show (if j = i then -1 else if j < i then (-1 : Int) else 0) = if j < i + 1 then -1 else 0
    rw [if_neg e]
    by_cases e2 : j < i
    · rw [if_pos e2, if_pos (by omega)]
    · rw [if_neg e2, if_neg (by omega)]
theorem replicate_vals (n : Nat) : List.replicate n (0 : Int) = valsOf n (fun _ => 0) := by
  apply List.ext_getElem <;> simp [valsOf]

set_option maxHeartbeats 2000000 in
set_option maxRecDepth 100000 in
theorem depths_calls (xs : List Int) (h : U32 xs) (A0 : Option Addr) (c0 : Nat) (w : World) (hr0 : Kd.C (Kd.int .u32) w A0 xs.length xs) (hc0 : xs.length ≤ c0) (hT : Tab w) :
    Calls Tryd.prog 13 #[.slice A0 xs.length c0] w fun e w' => ∃ v, e = .returned v ∧ Kd.R (Kd.int .i64) 3 w' w.heap.size (fun _ => True) v (depL xs) ∧ Below w.heap.size w w' := by
  have HR := Aside0.mk hr0
  have HC := Aside0.mk hc0
  have HT := Aside0.mk hT
  have HB := Aside0.mk (Below.refl w.heap.size w)
  have hn32 := nn_le xs
  have hcutl := cutL_len xs
  clear hr0 hc0 hT
  refine (callsIn_wide (n := 3)).1 (callsIn_of_wp_marks Tryd.func13 rfl trivial (wpIn_wide.2 ?_) rfl)
  simp only [Tryd.ntmps13, List.size_toArray, List.length_cons, List.length_nil, Nat.reduceAdd, Nat.reduceSub, Array.replicate_succ, Array.replicate_zero, List.push_toArray, List.append_toArray, List.nil_append, List.cons_append]
  go_upto_region 3 with (first
    | (go_at_call 24; go_loud (refine (ready_cut.calls 33 _ _ xs _ _ (Kd.C_below HR.out HB.out) HC.out (cut_is xs h 33 (by omega))).mono ?_; rintro e w' ⟨v0, rfl, ho, hb⟩; obtain ⟨A1, c1, rfl⟩ := Kd.R_slice ho; rw [hcutl] at ho; rw [hcutl]; have n0 := Aside0.mk (below_step HB.out hb); have HO1 := Aside0.mk (Kd.R_lower ho (below_size HB.out)); clear HB hb ho; have HB := n0; clear n0))
    | ((with_reducible refine gate_dst (N := 12) rfl ?_); go_loud (refine Kd.R_make (Kd.int .i64) _ 3 rfl (N := 12) rfl 25 _ _ rfl ((nn xs : Nat) : Int) rfl rfl Tryd.underlying25 (.int .i64 0) 8 infoInt rfl (by decide) (by omega) (0 : Int) (ok := fun _ => True) (okp := fun _ => True) rfl (fun _ hk => hk) trivial (by omega) (by omega) (Below.refl _ _) (Nat.le_refl _) ?_; intro v1 w1 ho hb hg hnew; obtain ⟨g, hg1, hg2⟩ := hnew; rw [Int.toNat_natCast] at ho; obtain ⟨cap, rfl, hg3, hg4⟩ := R_formB ho hg1; rw [List.length_replicate] at ho ⊢; rw [replicate_vals] at ho)))
  have hg5 : w.heap.size ≤ g := Nat.le_trans HB.out.size hg3
  have hgb : g < w1.heap.size := hg4
  have HOa : Aside0 ((Kd.int .i64).R 3 (w1.alloc (Obj.cells #[Value.slice (some { block := g, off := 0 }) (nn xs) cap] 25)) w.heap.size (fun k => k = g) (.slice (some ⟨g, 0, none⟩) (nn xs) cap) (valsOf (nn xs) (fun _ => 0))) :=
    Aside0.mk (Kd.R_alloc (Kd.R_lower (Kd.R_of_own (enc := Value.int .i64) (h1 := fun _ => rfl) (Kd.own_of_R (enc := Value.int .i64) (h1 := fun _ => rfl) ho) (fun k hk => by simpa [Value.ownBlock, eq_comm] using hk)) HB.out.size) _)
  have HOc : Aside0 ((Kd.int .u32).R 28 (w1.alloc (Obj.cells #[Value.slice (some { block := g, off := 0 }) (nn xs) cap] 25)) w.heap.size (fun k => True ∧ some k ≠ some g) (.slice A1 (nn xs) c1) (cutL xs)) :=
    Aside0.mk (Kd.R_alloc (Kd.R_elder HO1.out ho hb) _)
  have HBx : Aside0 (Boxed (w1.alloc (Obj.cells #[Value.slice (some { block := g, off := 0 }) (nn xs) cap] 25)) w1.heap.size 25 (.slice (some ⟨g, 0, none⟩) (nn xs) cap)) := Aside0.mk (Boxed.new _ _ _)
  have HB2 : Aside0 (Below w.heap.size w (w1.alloc (Obj.cells #[Value.slice (some { block := g, off := 0 }) (nn xs) cap] 25))) := Aside0.mk ((below_step HB.out hb).alloc (by have := HB.out.size; have := hb.size; omega) _)
  have hsz : (w1.alloc (Obj.cells #[Value.slice (some { block := g, off := 0 }) (nn xs) cap] 25)).heap.size = w1.heap.size + 1 := by simp
  generalize (w1.alloc (Obj.cells #[Value.slice (some { block := g, off := 0 }) (nn xs) cap] 25)) = w2 at HOa HOc HBx HB2 hsz ⊢
  clear hg1 hg2 hg ho hb hg3 hg4 HO1 HB hcutl
  generalize w1.heap.size = b at *
  clear w1 w'
  have hbc := HBx.out.cell
  go_upto_region 4 with (fail)
  have HG0 := Aside0.mk (World.grownBy.refl w2 (some g))
  have HV0 : Aside0 ((Kd.int .i64).R 3 w2 w.heap.size (fun k => k = g) (.slice (some ⟨g, 0, none⟩) (nn xs) cap) (valsOf (nn xs) (fun j => if j < 0 then -1 else 0))) := Aside0.mk (by simpa using HOa.out)
  clear HOa
  go_loopw [15] (fun v15 wr => ∃ (p : Int) (i : Nat), v15 = .int .i64 p ∧ Aside0 (p = (i : Int)) ∧ i ≤ nn xs ∧ Aside0 (w2.grownBy wr (some g)) ∧ Aside0 ((Kd.int .i64).R 3 wr w.heap.size (fun k => k = g) (.slice (some ⟨g, 0, none⟩) (nn xs) cap) (valsOf (nn xs) (fun j => if j < i then -1 else 0))))
    (fun v15 _ => nn xs - (intOf v15).toNat)
  case atStart => exact ⟨_, 0, rfl, Aside0.mk rfl, by omega, HG0, HV0⟩
  case round =>
    clear HG0 HV0
    obtain ⟨p, i, rfl, HP, hi, HG, HV⟩ := hrel
    have hbc := (HBx.out.kept HG.out (by simp; omega)).cell
    by_cases hin : i < nn xs
    · have hp0 : 0 ≤ p := by rw [HP.out]; omega
      have hp1 : p < (nn xs : Int) := by rw [HP.out]; omega
      obtain ⟨hx_0, hf_0⟩ := Kd.R_celln 0 HV.out p hp0 hp1
      have HPt := Kd.R_putg HV.out p (-1)
      have HW : Aside0 (wrap64 (p + 1) = ((i + 1 : Nat) : Int)) := Aside0.mk (by rw [HP.out, wrap_succ i (by omega)])
      have HS : Aside0 ((valsOf (nn xs) (fun j => if j < i then -1 else 0)).set p.toNat (-1) = valsOf (nn xs) (fun j => if j < i + 1 then -1 else 0)) := Aside0.mk (by
        rw [HP.out, Int.toNat_natCast]; exact vals_minus _ _)
      replace hp0 := eq_true hp0
      replace hp1 := eq_true hp1
      go_wp2_with (first | ((with_reducible refine gate_store (t := 3) (p := 20) rfl ?_); go_loud (refine store_event (t := 3) (p := 20) (v := ?vo) (w1 := (wr.setCell ⟨g, p.toNat, none⟩ (.int .i64 (-1)))) ?hg ?ho ?hn ?hr ?_; (case ho => rfl); (case hg => rfl); (case hn => rfl); (case hr => first | (go_simp; done) | (go_simp; rfl)); intro w14 hw; have n0 : Aside0 (w2.grownBy w14 (some g)) := Aside0.mk (by rw [hw]; exact grown_trans HG.out HPt.2); have n1 : Aside0 ((Kd.int .i64).R 3 w14 w.heap.size (fun k => k = g) (.slice (some ⟨g, 0, none⟩) (nn xs) cap) (valsOf (nn xs) (fun j => if j < i + 1 then -1 else 0))) := Aside0.mk (by rw [hw, ← HS.out]; exact HPt.1); clear HPt HG HV HS hw; have HG := n0; have HV := n1; clear n0 n1)))
      go_roundw
      case rel => exact ⟨_, i + 1, rfl, HW, by omega, HG, HV⟩
      case measure => have := HW.out; simp [intOf, wrap64] at *; omega
    · have hp1 : ¬ p < (nn xs : Int) := by rw [HP.out]; omega
      have hlt : decide (p < (nn xs : Int)) = false := decide_eq_false hp1
      go_upto_region 8 with (fail)
      have hiN : i = nn xs := by omega
      have HV3 : Aside0 ((Kd.int .i64).R 3 wr w.heap.size (fun k => k = g) (.slice (some ⟨g, 0, none⟩) (nn xs) cap) (valsOf (nn xs) (depths (nn xs) (dep xs) ((order (nn xs) (dep xs)).take 0)))) := Aside0.mk (by
        have := HV.out
        rwa [show valsOf (nn xs) (fun j => if j < i then (-1 : Int) else 0) = valsOf (nn xs) (depths (nn xs) (dep xs) ((order (nn xs) (dep xs)).take 0)) from List.map_congr_left fun j hj => by
          have := List.mem_range.1 hj
          show (if j < i then (-1 : Int) else 0) = -1
          rw [if_pos (by omega)]] at this)
      have HOc3 : Aside0 ((Kd.int .u32).R 28 wr w.heap.size (fun k => k ≠ g) (.slice A1 (nn xs) c1) (cutL xs)) := Aside0.mk (Kd.R_mono (Kd.R_grown HOc.out HG.out (fun k hk => hk.2)) (fun k hk => by simpa using hk.2))
      have hgw : g < wr.heap.size := by have := HG.out.size; omega
      have hbw : b < wr.heap.size := by have := HG.out.size; omega
      have HBx3 : Aside0 (Boxed wr b 25 (.slice (some ⟨g, 0, none⟩) (nn xs) cap)) := Aside0.mk (HBx.out.kept HG.out (by simp; omega))
      have HB3 : Aside0 (Below w.heap.size w wr) := Aside0.mk (HB2.out.grown HG.out HB2.out.size (fun k e => by cases e; exact hg5))
      have HT3 : Aside0 (Tab wr) := Aside0.mk (HT.out.below HT.out.pos HB3.out)
      have HOr : Aside0 (∀ W, Kd.R (Kd.int .u32) 28 W w.heap.size (fun k => k ≠ g) (.slice A1 (nn xs) c1) (cutL xs) → Tab W → Calls Tryd.prog 11 #[.slice A1 (nn xs) c1] W fun e w' => ∃ v, e = .returned v ∧ Kd.R (Kd.int .i64) 3 w' W.heap.size (fun _ => True) v (ordL xs) ∧ Below W.heap.size W w') := Aside0.mk (fun W hW hTW => by
        obtain ⟨h1, h2, h3⟩ := Kd.R_reads' hW
        have := order_calls (cutL xs) (cutL_U32 xs) A1 c1 W h3 (by omega) hTW
        rwa [cutL_len, ordL_cut] at this)
      clear HP hi HG HV hp1 hlt hbc HOc HBx HB2 hin hiN
      obtain ⟨L, hL⟩ : ∃ L, L = order (nn xs) (dep xs) := ⟨_, rfl⟩
      obtain ⟨M, hM⟩ : ∃ M, M = L.length := ⟨_, rfl⟩
      have HML : Aside0 ((ordL xs).length = M) := Aside0.mk (by rw [hM, hL]; simp [ordL])
      have HL := Aside0.mk hL
      have HM0 := Aside0.mk hM
      clear hL hM
      go_upto_region 9 with (first | (go_at_call 11; go_loud (refine (HOr.out _ HOc3.out HT3.out).mono ?_; rintro e w3 ⟨v23, rfl, ho, hb⟩; obtain ⟨A2, c2, rfl⟩ := Kd.R_slice ho; rw [HML.out] at ho; rw [HML.out])))
      have HV4 := Aside0.mk (Kd.R_below HV3.out hb)
      have HOc4 := Aside0.mk (Kd.R_below HOc3.out hb)
      have HBx4 := Aside0.mk (HBx3.out.kept (grown_of_below hb none) (by simp))
      have HB4 := Aside0.mk (below_step HB3.out hb)
      have HT4 := Aside0.mk (HT3.out.below HT3.out.pos hb)
      have HL4 : Aside0 ((Kd.int .i64).R 3 w3 w.heap.size (fun k => k ≠ g) (.slice A2 M c2) (natsOf L)) := Aside0.mk (by rw [HL.out]; exact Kd.R_lower (Kd.R_mono (Kd.R_bound ho) (fun k hk => by have := hk.2.1; omega)) HB3.out.size)
      have hgw3 : g < w3.heap.size := Nat.lt_of_lt_of_le hgw hb.size
      have hbw3 : b < w3.heap.size := Nat.lt_of_lt_of_le hbw hb.size
      clear HV3 HOc3 HBx3 HB3 HT3 HOr hb ho hgw hbw hsz HML
      rw [← HL.out] at HV4
      have hM32 : M ≤ 32 := by rw [HM0.out, HL.out]; exact Nat.le_trans (good_len good_order) hn32
      refine wp_loop (fun a' W => ∃ (x6 x7 x26 x27 x28 x29 x30 x31 x32 x33 x34 x35 x36 x37 x38 x39 x40 x41 x42 x43 x44 x45 x46 x47 x48 x49 x50 x51 : Value) (D : List Deferred) (q : Int) (i : Nat), a' = { tmps := #[.slice A1 (nn xs) c1, undef, .slice none 0 0, .pointer (some ⟨b, 0, none⟩), u4, undef, x6, x7, .slice A0 xs.length c0, .slice A1 (nn xs) c1, .slice A1 (nn xs) c1, .int .i64 (nn xs : Int), .slice (some ⟨g, 0, none⟩) (nn xs) cap, .slice (some ⟨g, 0, none⟩) (nn xs) cap, .int .i64 (nn xs : Int), .int .i64 p, .bool false, u17, u18, u19, u20, u21, .slice A1 (nn xs) c1, .slice A2 M c2, .int .i64 (M : Int), .int .i64 q, x26, x27, x28, x29, x30, x31, x32, x33, x34, x35, x36, x37, x38, x39, x40, x41, x42, x43, x44, x45, x46, x47, x48, x49, x50, x51, undef], defers := D } ∧ Aside0 (q = (i : Int)) ∧ i ≤ M ∧ Aside0 (w3.grownBy W (some g)) ∧ Aside0 ((Kd.int .i64).R 3 W w.heap.size (fun k => k = g) (.slice (some ⟨g, 0, none⟩) (nn xs) cap) (valsOf (nn xs) (depths (nn xs) (dep xs) (L.take i)))) ∧ Aside0 (Marks w3.heap.size W.heap.size W D)) (fun a' _ => M - (intOf (a'.tmps.getD 25 undef)).toNat) ?start ?round
      case start => exact ⟨_, _, _, _, _, _, _, _, _, _, _, _, _, _, _, _, _, _, _, _, _, _, _, _, _, _, _, _, [], 0, 0, rfl, Aside0.mk rfl, by omega, Aside0.mk (World.grownBy.refl _ _), HV4, Aside0.mk (Marks.nil _ _ _)⟩
      case round =>
        rintro a' W ⟨x6, x7, x26, x27, x28, x29, x30, x31, x32, x33, x34, x35, x36, x37, x38, x39, x40, x41, x42, x43, x44, x45, x46, x47, x48, x49, x50, x51, D, q, i, rfl, HP, hi, HG, HV, HM⟩
        clear HV4
        by_cases hin : i < M
        · have hp0 : 0 ≤ q := by rw [HP.out]; omega
          have hp1 : q < (M : Int) := by rw [HP.out]; omega
          have hlt : decide (q < (M : Int)) = true := decide_eq_true hp1
          have hC2 := (Kd.R_reads' (Kd.R_grown HL4.out HG.out (fun k hk => by simpa using hk))).2.2
          obtain ⟨ad, e, hx⟩ := Kd.at_int hC2 q hp0 (by simp [natsOf]; rw [← HM0.out]; exact hp1)
          cases e
          obtain ⟨a, ha⟩ : ∃ a, a = L.getD i 0 := ⟨_, rfl⟩
          have hiL : i < L.length := by rw [← HM0.out]; exact hin
          have haL : a ∈ L := by rw [ha]; exact getD_mem L i hiL
          have hrd : rd (natsOf L) q = (a : Int) := by rw [HP.out, ha]; exact rd_nats L i hiL
          rw [hrd] at hx
          have haN : a < nn xs := by rw [HL.out] at haL; exact good_order.lt a haL
          obtain ⟨X, hX⟩ : ∃ X : Int, X = (a : Int) := ⟨_, rfl⟩
          rw [← hX] at hx
          have hX0 : 0 ≤ X := by omega
          have hX1 : X < (nn xs : Int) := by omega
          have HX := Aside0.mk hX
          have HA := Aside0.mk ha
          clear hX hrd hC2 ha
          replace hp0 := eq_true hp0
          go_upto_region 11 with (fail)
          have hWs := HG.out.size
          have HGa : Aside0 (w3.grownBy (W.alloc (Obj.cells #[Value.int .i64 X] 3)) (some g)) := Aside0.mk (grown_trans HG.out (World.grownBy_alloc W _ _))
          have HVa := Aside0.mk (Kd.R_alloc HV.out (Obj.cells #[Value.int .i64 X] 3))
          have HBn : Aside0 (Boxed (W.alloc (Obj.cells #[Value.int .i64 X] 3)) W.heap.size 3 (.int .i64 X)) := Aside0.mk (Boxed.new _ _ _)
          have HMa : Aside0 (Marks w3.heap.size W.heap.size (W.alloc (Obj.cells #[Value.int .i64 X] 3)) D) := Aside0.mk (HM.out.move (Nat.le_refl _) (fun k _ hk => Below.heap_alloc W _ k hk))
          have hs1 : (W.alloc (Obj.cells #[Value.int .i64 X] 3)).heap.size = W.heap.size + 1 := by simp
          generalize (W.alloc (Obj.cells #[Value.int .i64 X] 3)) = W1 at HGa HVa HBn HMa hs1 ⊢
          clear HG HV HM hx
          generalize W.heap.size = bn at *
          clear W
          obtain ⟨d, hd⟩ : ∃ d, d = depths (nn xs) (dep xs) (L.take i) := ⟨_, rfl⟩
          rw [← hd] at HVa
          have HD := Aside0.mk hd
          clear hd
          have hbc := (HBx4.out.kept HGa.out (by simp; omega)).cell
          have hnc := HBn.out.cell
          obtain ⟨hx_0, hf_0⟩ := Kd.R_celln 0 HVa.out X hX0 hX1
          have HPt := Kd.R_putg HVa.out X 1
          have HS : Aside0 ((valsOf (nn xs) d).set X.toNat 1 = midV xs d a []) := Aside0.mk (by rw [HX.out, Int.toNat_natCast]; exact mid_start xs d a)
          replace hX0 := eq_true hX0
          replace hX1 := eq_true hX1
          go_upto_region 12 with (first | ((with_reducible refine gate_store (t := 3) (p := 31) rfl ?_); go_loud (refine store_event (t := 3) (p := 31) (v := ?vo2) (w1 := (W1.setCell ⟨g, X.toNat, none⟩ (.int .i64 1))) ?hg2 ?ho2 ?hn2 ?hr2 ?_; (case ho2 => rfl); (case hg2 => rfl); (case hn2 => rfl); (case hr2 => first | (go_simp; done) | (go_simp; rfl)); intro w14 hw; have hgr : W1.grownBy w14 (some g) := (by rw [hw]; exact HPt.2); have n1 : Aside0 ((Kd.int .i64).R 3 w14 w.heap.size (fun k => k = g) (.slice (some ⟨g, 0, none⟩) (nn xs) cap) (midV xs d a [])) := Aside0.mk (by rw [hw, ← HS.out]; exact HPt.1); clear hw)))
          have HGb := Aside0.mk (grown_trans HGa.out hgr)
          have HBn2 := Aside0.mk (HBn.out.kept hgr (by simp; omega))
          have HMb : Aside0 (Marks w3.heap.size bn w14 D) := Aside0.mk (HMa.out.move (Nat.le_refl _) (fun k h1 h2 => hgr.block k (by omega) (by simp; omega)))
          have hs2 : bn + 1 ≤ w14.heap.size := by have := hgr.size; omega
          have hC1 := (Kd.R_reads' (Kd.R_grown HOc4.out HGb.out (fun k hk => by simpa using hk))).2.2
          obtain ⟨ad1, e, hm⟩ := Kd.at_int hC1 X (by simpa using hX0) (by rw [cutL_len]; simpa using hX1)
          cases e
          have hrd : rd (cutL xs) X = ((cutI xs a : Nat) : Int) := by rw [HX.out, rd_nat]; exact cutL_at xs a haN
          rw [hrd] at hm
          have hnc := HBn2.out.cell
          clear hrd hC1 hx_0 hf_0 HPt HS hbc hgr HGa HVa HBn HMa hs1
          go_wp2_with (go_at_call 25; go_loud (refine ((callsIn_wide (n := 3)).1 (each_in 3 (cutI xs a) _)).mono ?_; rintro e w' ⟨rfl, rfl⟩))
          have hgN : g < w14.heap.size := by have := HGb.out.size; omega
          have hbN : b < w14.heap.size := by have := HGb.out.size; omega
          have hw3N : w3.heap.size ≤ w14.heap.size := HGb.out.size
          have hmlt : cutI xs a < 4294967296 := cutI_lt32 xs a
          have HBm := Boxed.new w14 28 (.int .u32 ((cutI xs a : Nat) : Int))
          have HG5 : w14.grownBy (w14.alloc (.cells #[.int .u32 ((cutI xs a : Nat) : Int)] 28)) (some g) := World.grownBy_alloc _ _ _
          have HB5 : Below w.heap.size w (w14.alloc (.cells #[.int .u32 ((cutI xs a : Nat) : Int)] 28)) := (HB4.out.grown (grown_trans HGb.out HG5) HB4.out.size (fun k e => by cases e; exact hg5))
          have HT5 : Tab (w14.alloc (.cells #[.int .u32 ((cutI xs a : Nat) : Int)] 28)) := HT.out.below HT.out.pos HB5
          have n5 := Kd.R_alloc n1.out (.cells #[.int .u32 ((cutI xs a : Nat) : Int)] 28)
          have hs5 : (w14.alloc (.cells #[.int .u32 ((cutI xs a : Nat) : Int)] 28)).heap.size = w14.heap.size + 1 := by simp
          obtain ⟨w5, hw5⟩ : ∃ w5, w5 = w14.alloc (.cells #[.int .u32 ((cutI xs a : Nat) : Int)] 28) := ⟨_, rfl⟩
          rw [← hw5] at HBm HG5 HB5 HT5 n5 hs5 ⊢
          have HG5' := grown_trans HGb.out HG5
          have HBn5 := HBn2.out.kept HG5 (by simp; omega)
          have HBx5 := HBx4.out.kept HG5' (by simp; omega)
          have HM5 := HMb.out.move (Nat.le_refl _) (fun k h1 h2 => HG5.block k (by omega) (by simp; omega))
          clear hw5
          refine (wpIn_wide (n := 3)).1 ?_
          refine wpIn_rangeFunc_ownG rfl (by decide) (gf := 28) (lb := #[.pointer (some ⟨w14.heap.size, 0, none⟩)]) rfl trivial (enters_of Tryd.func28 (by kernel_rfl) rfl)
            (each_stops_bits 2 (by omega) w14.heap.size w.heap.size HT.out.pos (cutI xs a) hmlt w5 (by omega) (by omega) HBm.cell HT5) belowK_t (belowK_b (by omega)) (Below.refl _ _) (fun _ => rfl)
            (fun pre W => w5.grownBy W (some g) ∧ (Kd.int .i64).R 3 W w.heap.size (fun k => k = g) (.slice (some ⟨g, 0, none⟩) (nn xs) cap) (midV xs d a (pre.map (fun x => x.1.toNat))))
            (fun _ _ _ => False) ?own (fun _ _ _ _ _ hs _ _ => hs) ⟨World.grownBy.refl _ _, n5⟩
            (fun x => { tmps := #[.slice (some ad1) (nn xs) c1, undef, .slice none 0 0, .pointer (some ⟨b, 0, none⟩), u4, undef, .pointer (some ⟨bn, 0, none⟩), .int .i64 x.1, .slice A0 xs.length c0, .slice (some ad1) (nn xs) c1, .slice (some ad1) (nn xs) c1, .int .i64 (nn xs : Int), .slice (some ⟨g, 0, none⟩) (nn xs) cap, .slice (some ⟨g, 0, none⟩) (nn xs) cap, .int .i64 (nn xs : Int), .int .i64 p, .bool false, u17, u18, u19, u20, u21, .slice (some ad1) (nn xs) c1, .slice (some ad) M c2, .int .i64 (M : Int), .int .i64 q, .bool true, .pointer (some (ad.add q.toNat)), .int .i64 X, .slice (some ⟨g, 0, none⟩) (nn xs) cap, .int .i64 X, .pointer (some ⟨g, X.toNat, none⟩), .slice (some ad1) (nn xs) c1, .int .i64 X, .pointer (some (ad1.add X.toNat)), .int .u32 ((cutI xs a : Nat) : Int), .func (.func 28) #[] #[.pointer (some ⟨w14.heap.size, 0, none⟩)], .int .i64 x.1, x38, x39, x40, x41, x42, x43, x44, x45, x46, x47, x48, x49, x50, x51, undef], defers := [] }) ?assign ?body ?done ?stop
          case own =>
            rintro s W W' row ⟨h1, h2⟩ hg hr
            refine ⟨⟨hg.os.trans h1.os, hg.tape.trans h1.tape, hg.output.trans h1.output, Nat.le_trans h1.size hg.size, fun k hk hne => (hg.block k (Nat.lt_of_lt_of_le hk h1.size) (fun e => by have := (hr k e.symm).1; omega)).trans (h1.block k hk hne)⟩, ?_⟩
            exact Kd.R_step h2 (fun k hk hlt => hg.block k hlt (fun e => by have := (hr k e.symm).1; omega))
          case assign =>
            intro l x W K hK
            gi_wp2
            exact hK
          case body =>
            rintro l pre x W ⟨h1, h2⟩ hlt2
            obtain ⟨k, hk1, hk2⟩ := mem_bits _ _ x.2
            have hkN : k < nn xs := by rw [cutI_bit] at hk2; unfold dep at hk2; simp at hk2; exact hk2.1
            have hka : k ≠ a := by rintro rfl; rw [cutI_bit, order_self xs k (by rw [← HL.out]; exact haL)] at hk2; cases hk2
            have hpre : (pre ++ [x]).map (fun x => x.1.toNat) = pre.map (fun x => x.1.toNat) ++ [k] := by simp [hk1]
            refine wpIn_mono (Q := fun e _ W' => e = .normal ∧ KeepsFrom w5.heap.size W W' ∧ Below w.heap.size W W' ∧ w5.grownBy W' (some g) ∧ (Kd.int .i64).R 3 W' w.heap.size (fun k => k = g) (.slice (some ⟨g, 0, none⟩) (nn xs) cap) (midV xs d a (pre.map (fun x => x.1.toNat) ++ [k]))) ?_ ?post
            case post => rintro e a' W' ⟨rfl, h1, h2, h3, h4⟩; exact ⟨h1, h2, h3, by rw [hpre]; exact h4⟩
            dsimp only
            generalize pre.map (fun x => x.1.toNat) = ks at h2 ⊢
            clear hpre hk2
            have hdb : ∀ j, -1 ≤ d j ∧ d j ≤ 32 := fun j => by
              rw [HD.out]
              have h1 := depths_ge (nn xs) (dep xs) (L.take i) j
              have h2 := depths_le (nn xs) (dep xs) L i (by omega) j
              omega
            have hVb := most1_le d 33 (by omega) ks (fun j => by have := hdb j; omega)
            have hKb := hdb k
            have hst := mid_step xs d a ks k
            have hx0' : (0 : Int) ≤ x.1 := by omega
            have hx1' : x.1 < (nn xs : Int) := by omega
            obtain ⟨hxX, hfX⟩ := Kd.R_celln 0 h2 X (by simpa using hX0) (by simpa using hX1)
            obtain ⟨hxk, hfk⟩ := Kd.R_celln 0 h2 x.1 hx0' hx1'
            have e1 : rdOf (0 : Int) (midV xs d a ks) X = most1 d ks := by rw [HX.out]; exact mid_at xs d a haN ks
            have e2 : rdOf (0 : Int) (midV xs d a ks) x.1 = d k := by rw [hk1]; exact mid_other xs d a k hkN hka ks
            rw [e1] at hxX
            rw [e2] at hxk
            have hbc := (HBx5.kept h1 (by simp; omega)).cell
            have hnc := (HBn5.kept h1 (by simp; omega)).cell
            have HPt := Kd.R_putg h2 X (max (most1 d ks) (d k + 1))
            have hXa : X.toNat = a := by rw [HX.out]; simp
            have hst' : (midV xs d a ks).set X.toNat (max (most1 d ks) (d k + 1)) = midV xs d a (ks ++ [k]) := by rw [hXa]; exact hst
            rw [hst'] at HPt
            obtain ⟨V, hV⟩ : ∃ V, V = most1 d ks := ⟨_, rfl⟩
            obtain ⟨K, hK⟩ : ∃ K, K = d k := ⟨_, rfl⟩
            rw [← hV] at hVb hxX HPt
            rw [← hK] at hKb hxk HPt
            obtain ⟨z, hz⟩ : ∃ z : Int, z = x.1 := ⟨_, rfl⟩
            rw [← hz] at hx0' hx1' hxk ⊢
            obtain ⟨Y, hY⟩ : ∃ Y, Y = max V (K + 1) := ⟨_, rfl⟩
            rw [← hY] at HPt
            have hYi : (if V < K + 1 then K + 1 else V) = Y := by rw [hY]; split <;> omega
            have hw : IntKind.i64.wrap (K + 1) = K + 1 := by simp [IntKind.wrap, IntKind.signed, IntKind.bits] <;> omega
            replace hx0' := eq_true hx0'
            replace hx1' := eq_true hx1'
            clear hV hK hz hY hk1 e1 e2 hst hst' hdb hXa
            refine wpIn_block ?_
            refine region_round_tail 13 (by kernel_rfl) (by kernel_rfl) ?out ?nodefer ?_
            case out => rintro ⟨_, _, h, _⟩; cases h
            case nodefer => intro o ho c; simp only [List.mem_cons, List.not_mem_nil, or_false] at ho; rcases ho with rfl | rfl | rfl | rfl | rfl | rfl | rfl | rfl | rfl | rfl | rfl | rfl | rfl | rfl <;> simp
            simp only [List.take_succ_cons, List.take_zero, List.drop_succ_cons, List.drop_zero]
            repeat still_step
            try refine wpStill_nil ?_
            change wpList _ _ _ _ _ W.drew
            have hd0 : W.grownBy W.drew (some g) := ⟨rfl, rfl, rfl, Nat.le_refl _, fun _ _ _ => rfl⟩
            have hxX' : W.drew.cell? ⟨g, X.toNat, none⟩ = some (.int .i64 V) := hxX
            have hfX' : W.drew.frozen? ⟨g, X.toNat, none⟩ = false := hfX
            have HP1 : (Kd.int .i64).R 3 (W.drew.setCell ⟨g, X.toNat, none⟩ (.int .i64 Y)) w.heap.size (fun k => k = g) (.slice (some ⟨g, 0, none⟩) (nn xs) cap) (midV xs d a (ks ++ [k])) := Kd.R_step HPt.1 (fun k _ _ => rfl)
            have HP2 : W.grownBy (W.drew.setCell ⟨g, X.toNat, none⟩ (.int .i64 Y)) (some g) := ⟨HPt.2.os, HPt.2.tape, HPt.2.output, HPt.2.size, HPt.2.block⟩
            clear hxX hfX hxk hfk hbc hnc HPt
            generalize W.drew = Wd at hxX' hfX' HP1 HP2 hd0 ⊢
            have HP1' := Aside0.mk HP1
            have HP2' := Aside0.mk HP2
            clear HP1 HP2 hd0
            go_wp2_with (first | ((with_reducible refine gate_store (t := 3) (p := 50) rfl ?_); go_loud (refine store_event (t := 3) (p := 50) (v := ?vo3) (w1 := (Wd.setCell ⟨g, X.toNat, none⟩ (.int .i64 Y))) ?hg3 ?ho3 ?hn3 ?hr3 ?_; (case ho3 => rfl); (case hg3 => rfl); (case hn3 => rfl); (case hr3 => first | (go_simp; done) | (go_simp; rfl)); intro w15 hw; rw [← hw] at HP1' HP2'; clear hw)))
            exact ⟨by first | rfl | trivial, KeepsFrom.of_grownBy HP2'.out (fun j e => by cases e; omega), (Below.refl _ _).grown HP2'.out (by have := h1.size; omega) (fun j e => by cases e; exact hg5), grown_trans h1 HP2'.out, HP1'.out⟩
          case done =>
            rintro D2 ys W hD hys ⟨h1, h2⟩ hK
            have hD2 : D2 < W.heap.size := (Array.getElem?_eq_some_iff.1 hK).1
            have hysm : ys.map (fun x => x.1.toNat) = bitsOf (cutI xs a) := by
              have := congrArg (fun l => l.map Int.toNat) hys
              simp only [natsOf, List.map_map] at this
              have e : (Int.toNat ∘ fun i : Nat => (i : Int)) = id := by funext i; simp
              rw [e, List.map_id] at this
              exact this
            have HG6 := Aside0.mk (grown_trans HG5' h1)
            have HV6 : Aside0 ((Kd.int .i64).R 3 W w.heap.size (fun k => k = g) (.slice (some ⟨g, 0, none⟩) (nn xs) cap) (valsOf (nn xs) (depths (nn xs) (dep xs) (L.take (i + 1))))) := Aside0.mk (by
              rw [take_snoc L i hiL, ← HA.out, ← mid_end, ← HD.out, ← hysm]; exact h2)
            have HM6 : Aside0 (Marks w3.heap.size W.heap.size W ({ target := .collected D2, args := #[] } :: D)) := Aside0.mk (Marks.cons (HM5.move (Nat.le_refl _) (fun k h3 h4 => h1.block k (by omega) (by simp; omega))) (by omega) (by omega) hD2 hK)
            have HW6 : Aside0 (wrap64 (q + 1) = ((i + 1 : Nat) : Int)) := Aside0.mk (by rw [HP.out, wrap_succ i (by omega)])
            clear h1 h2 hys hK hD2 hysm HM5 HBn5 HBx5 HG5' hs5 n5 HT5 HB5 HG5 HBm hm hnc
            dsimp only
            go_wp2
            refine ⟨⟨_, _, _, _, _, _, _, _, _, _, _, _, _, _, _, _, _, _, _, _, _, _, _, _, _, _, _, _, _, _, i + 1, rfl, HW6, by omega, HG6, HV6, HM6⟩, ?_⟩
            show M - (intOf (.int .i64 (wrap64 (q + 1)))).toNat < M - (intOf (.int .i64 q)).toNat
            rw [HW6.out, HP.out]
            simp only [intOf, Int.toNat_natCast]
            omega
          case stop =>
            rintro D2 c pre W _ _ h _
            exact h.elim
        · have hiM : i = M := by omega
          have hlt : decide (q < (M : Int)) = false := decide_eq_false (by rw [HP.out]; omega)
          have hbc := (HBx4.out.kept HG.out (by simp; omega)).cell
          go_wp2
          refine HM.out.leaves (fun W' hb => ?_)
          refine ⟨_, results_tmp rfl _ _ _, _, rfl, ?_, ?_⟩
          · have e : valsOf (nn xs) (depths (nn xs) (dep xs) (L.take i)) = depL xs := by rw [hiM, HM0.out, List.take_length, HL.out]; rfl
            rw [← e]
            exact Kd.R_mono (Kd.R_move HV.out (fun k hk => hb.block k (by omega))) (fun _ _ => trivial)
          · exact (HB4.out.grown HG.out HB4.out.size (fun k e => by cases e; exact hg5)).trans (hb.mono (by have := HB4.out.size; omega))
end Go.Proofs.YtfkljcnkghakaaaDoor.Masks
