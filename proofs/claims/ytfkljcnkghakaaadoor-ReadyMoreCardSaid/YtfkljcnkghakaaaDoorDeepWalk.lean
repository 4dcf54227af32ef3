/- The walk of ReadyDeep: it returns true. Conditions: the table deBruijn32tab holds its numbers; the masks are numbers of 32 bits. -/
import Derived.Test.YtfkljcnkghakaaaDoorLaws
namespace Go.Proofs.YtfkljcnkghakaaaDoor.Masks
open Go.RowKit Go.Proofs.YtfkljcnkghakaaaDoor.PReadyOrders Go.Proofs.YtfkljcnkghakaaaDoorW.PrintWords Go.Proofs.YtfkljcnkghakaaaDoorW.PrintLast Go.Proofs.YtfkljcnkghakaaaDoorW.PrintMore
attribute [local go_sem] max2_int min2_int
set_option linter.unusedVariables false

/-- The greatest depth of those among ks that are nodes; 0 for none. -/
def mostN (n : Nat) (d : Nat → Int) (ks : List Nat) : Int := ks.foldl (fun v k => if k < n then max v (d k) else v) 0
theorem mostN_snoc (n : Nat) (d : Nat → Int) (ks : List Nat) (k : Nat) : mostN n d (ks ++ [k]) = if k < n then max (mostN n d ks) (d k) else mostN n d ks := by unfold mostN; rw [List.foldl_append]; rfl
theorem mostN_range (ys : List Int) (d : Nat → Int) (i : Nat) : ∀ m, m ≤ nn ys → mostN (nn ys) d ((List.range m).filter (fun j => (mk ys i).testBit j)) = maxDep (dep ys) d i m := by
  intro m
  induction m with
  | zero => intro _; rfl
  | succ m ih =>
    intro hm
    rw [List.range_succ, List.filter_append, maxDep]
    have e : dep ys i m = (mk ys i).testBit m := by
      show (decide (m < nn ys) && (mk ys i).testBit m) = _
      rw [decide_eq_true (by omega), Bool.true_and]
    rw [e]
    by_cases h : (mk ys i).testBit m = true
    · rw [if_pos h, List.filter_cons, if_pos h, List.filter_nil, mostN_snoc, if_pos (by omega), ih (by omega)]
    · rw [if_neg h, List.filter_cons, if_neg h, List.filter_nil, List.append_nil, ih (by omega)]
theorem mostN_out (n : Nat) (d : Nat → Int) : ∀ (ks ms : List Nat), (∀ k ∈ ms, n ≤ k) → mostN n d (ks ++ ms) = mostN n d ks := by
  intro ks ms
  induction ms generalizing ks with
  | nil => intro _; rw [List.append_nil]
  | cons m ms ih =>
    intro h
    rw [show ks ++ m :: ms = (ks ++ [m]) ++ ms by simp, ih _ (fun k hk => h k (List.mem_cons_of_mem _ hk)), mostN_snoc, if_neg (by have := h m List.mem_cons_self; omega)]
theorem mostN_bits (ys : List Int) (d : Nat → Int) (i : Nat) : mostN (nn ys) d (bitsOf (mk ys i)) = maxDep (dep ys) d i (nn ys) := by
  have hn := nn_le ys
  unfold bitsOf
  rw [show List.range 32 = List.range (nn ys) ++ List.range' (nn ys) (32 - nn ys) by
    rw [List.range_eq_range', List.range_eq_range', show 32 = nn ys + (32 - nn ys) by omega, ← List.range'_append_1, Nat.zero_add, show nn ys + (32 - nn ys) - nn ys = 32 - nn ys by omega], List.filter_append, mostN_out, mostN_range ys d i _ (Nat.le_refl _)]
  intro k hk
  have := (List.mem_range'_1).1 (List.mem_filter.1 hk).1
  omega
/-- The node's depth, as a function. -/
def dOf (ys : List Int) : Nat → Int := depths (nn ys) (dep ys) (order (nn ys) (dep ys))
theorem dOf_at (ys : List Int) (i : Nat) (hi : i < nn ys) : rd (depL ys) (i : Int) = dOf ys i := valsOf_at _ _ _ hi
theorem dOf_deep (ys : List Int) (i : Nat) (hi : 0 ≤ dOf ys i) : dOf ys i = mostN (nn ys) (dOf ys) (bitsOf (mk ys i)) + 1 ∧ ∀ k, k < nn ys → (mk ys i).testBit k = true → 0 ≤ dOf ys k := by
  have hmem := depths_iff.1 hi
  refine ⟨by rw [mostN_bits]; exact depths_in (nn ys) i hmem, fun k hk hb => ?_⟩
  refine depths_iff.2 ((good_order.deps i hmem k hk ?_).1)
  show (decide (k < nn ys) && (mk ys i).testBit k) = true
  rw [decide_eq_true hk, hb]; rfl
theorem dOf_le (ys : List Int) (i : Nat) : -1 ≤ dOf ys i ∧ dOf ys i ≤ 32 := by
  have h1 := depths_ge (nn ys) (dep ys) (order (nn ys) (dep ys)) i
  have h2 := depths_le (nn ys) (dep ys) (order (nn ys) (dep ys)) _ (Nat.le_refl _) i
  rw [List.take_length] at h2
  have h3 := good_len (good_order (n := nn ys) (dep := dep ys))
  have h4 := nn_le ys
  unfold dOf
  omega

set_option maxHeartbeats 2000000 in
set_option maxRecDepth 100000 in
theorem deep_walk (xs : List Int) (h : U32 xs) (A0 : Option Addr) (c0 : Nat) (w : World) (hr0 : Kd.C (Kd.int .u32) w A0 xs.length xs) (hc0 : xs.length ≤ c0) (hT : Tab w) :
    Calls Tryd.prog 7 #[.slice A0 xs.length c0] w fun e w' => e = .returned (.bool true) ∧ Below w.heap.size w w' := by
  have HT := Aside0.mk hT
  have HB := Aside0.mk (Below.refl w.heap.size w)
  obtain ⟨m, hm⟩ : ∃ m : Int, m = ((min xs.length 32 : Nat) : Int) := ⟨_, rfl⟩
  have hm0 : 0 ≤ m := by omega
  have hm1 : m ≤ (xs.length : Int) := by omega
  have hmin : (if (32 : Int) < (xs.length : Int) then 32 else (xs.length : Int)) = m := by split <;> omega
  have hmin2 : (if (xs.length : Int) < 32 then (xs.length : Int) else 32) = m := by split <;> omega
  obtain ⟨i05, hi05, _, hsz5, _⟩ := info_parts info28
  obtain ⟨hcut5, hA5, hC5⟩ := print_take_of (P := Tryd.prog) (Value.int .u32) 0 22 28 .i64 Tryd.underlying22 hi05 hsz5 A0 c0 xs m hm0 hm1 hc0
  have HR := Aside0.mk (Kd.C_of_reads (h1 := fun _ => rfl) (hA5 _ (Kd.reads_of_C hr0)))
  have HC := Aside0.mk hC5
  clear hA5 hC5 hi05 hsz5
  have hl : (xs.take m.toNat).length ≤ 32 := by rw [List.length_take]; omega
  have hu : U32 (xs.take m.toNat) := fun x hx => h x (List.mem_of_mem_take hx)
  generalize xs.take m.toNat = ys at hcut5 HR HC hl hu
  have hN : nn ys = ys.length := by unfold nn; omega
  have hDL : (depL ys).length = ys.length := by rw [depL_len, hN]
  have HDL := Aside0.mk hDL
  have HN := Aside0.mk hN
  replace hm0 := eq_true hm0
  replace hm1 := eq_true hm1
  clear hr0 hT hm hc0 h hDL hN
  go_enter Tryd.func7, Tryd.ntmps7
  go_upto_region 6 with (first
    | (go_at_call 9; go_loud (refine (wakes_calls _ (HT.out.below HT.out.pos HB.out)).mono ?_; rintro e w' ⟨rfl, hb⟩; have n0 := Aside0.mk (below_step HB.out hb); have x0 := Aside0.mk (Kd.R_below HX.out hb); clear HB HX hb; have HB := n0; have HX := x0; clear n0 x0))
    | (go_at_call 13; go_loud (refine (depths_calls ys hu _ _ _ (Kd.C_below HR.out HB.out) HC.out (HT.out.below HT.out.pos HB.out)).mono ?_; rintro e w' ⟨v2, rfl, ho, hb⟩; obtain ⟨A2, c2, rfl⟩ := Kd.R_slice ho; rw [HDL.out] at ho ⊢; have n0 := Aside0.mk (below_step HB.out hb); have HX := Aside0.mk (Kd.R_lower ho (below_size HB.out)); clear HB; have HB := n0; clear n0; clear ho hb)))
  go_loopw [27] (fun v27 wr => ∃ (p : Int) (i : Nat), v27 = .int .i64 p ∧ Aside0 (p = (i : Int)) ∧ i ≤ ys.length ∧ Aside0 (Below w.heap.size w wr) ∧ Aside0 (Kd.R (Kd.int .i64) 3 wr w.heap.size (fun _ => True) (.slice A2 ys.length c2) (depL ys))) (fun v27 _ => ys.length - (intOf v27).toNat)
  case atStart => exact ⟨_, 0, rfl, Aside0.mk rfl, by omega, HB, HX⟩
  case round =>
    clear HB HX
    obtain ⟨p, i, rfl, HP, hi, HB, HX⟩ := hrel
    by_cases hin : i < ys.length
    · have hlt : decide (p < (ys.length : Int)) = true := decide_eq_true (by rw [HP.out]; omega)
      have hp0 : 0 ≤ p := by rw [HP.out]; omega
      have hp1 : p < (ys.length : Int) := by rw [HP.out]; omega
      have HW : Aside0 (wrap64 (p + 1) = ((i + 1 : Nat) : Int)) := Aside0.mk (by rw [HP.out, wrap_succ i (by omega)])
      obtain ⟨ad, e, hx⟩ := Kd.at_int (Kd.C_below HR.out HB.out) p hp0 hp1
      cases e
      obtain ⟨ad2, e, hxd⟩ := Kd.at_int (Kd.R_reads' HX.out).2.2 p hp0 (by rw [HDL.out]; exact hp1)
      cases e
      have hiN : i < nn ys := by rw [HN.out]; exact hin
      obtain ⟨mi, hmi⟩ : ∃ mi : Nat, mi = mk ys i := ⟨_, rfl⟩
      have hmi32 : mi < 4294967296 := by rw [hmi]; exact mk_lt hu i
      have e1 : rd ys p = (mi : Int) := by rw [HP.out, rd_nat, hmi, mk_cast hu i]
      have e2 : rd (depL ys) p = dOf ys i := by rw [HP.out]; exact dOf_at ys i hiN
      rw [e1] at hx
      rw [e2] at hxd
      obtain ⟨E, hE⟩ : ∃ E, E = dOf ys i := ⟨_, rfl⟩
      rw [← hE] at hxd
      have HE := Aside0.mk hE
      have HMi := Aside0.mk hmi
      clear hE hmi e1 e2
      replace hp0 := eq_true hp0
      replace hp1 := eq_true hp1
      by_cases hneg : E < 0
      · have hd : decide (E < 0) = true := decide_eq_true hneg
        go_wp2
        go_roundw
        case rel => exact ⟨_, i + 1, rfl, HW, by omega, HB, HX⟩
        case measure => have := HW.out; simp [intOf, wrap64] at *; omega
      · have hd : decide (E < 0) = false := decide_eq_false hneg
        obtain ⟨hE1, hE2⟩ := dOf_deep ys i (by rw [← HE.out]; omega)
        rw [← HE.out, ← HMi.out] at hE1
        rw [← HMi.out] at hE2
        have HE1 := Aside0.mk hE1
        have HE2 := Aside0.mk hE2
        obtain ⟨ks, hks⟩ : ∃ ks, ks = bitsOf mi := ⟨_, rfl⟩
        have hkl : ks.length ≤ 32 := by rw [hks]; exact bitsOf_len mi
        have HK := Aside0.mk hks
        clear hE1 hE2 hks
        go_upto_region 11 with (first
          | (go_at_call 17; go_loud (refine (list_calls mi hmi32 _ (HT.out.below HT.out.pos HB.out)).mono ?_; rintro e w' ⟨v2, rfl, ho, hb⟩; rw [← HK.out] at ho; obtain ⟨A3, c3, rfl⟩ := Kd.R_slice ho; rw [show (natsOf ks).length = ks.length by simp [natsOf]] at ho ⊢; have n0 := Aside0.mk (below_step HB.out hb); have x0 := Aside0.mk (Kd.R_below HX.out hb); have HL := Aside0.mk (Kd.R_lower ho (below_size HB.out)); clear HB HX ho; have HB := n0; have HX := x0; clear n0 x0 hb)))
        go_loopw [40, 6] (fun v40 v6 wr => ∃ (r q : Int) (j : Nat), v40 = .int .i64 r ∧ v6 = .int .i64 q ∧ Aside0 (r = (j : Int)) ∧ Aside0 (q = mostN ys.length (dOf ys) (ks.take j)) ∧ j ≤ ks.length ∧ Aside0 (Below w.heap.size w wr) ∧ Aside0 (Kd.R (Kd.int .i64) 3 wr w.heap.size (fun _ => True) (.slice (some ad2) ys.length c2) (depL ys)) ∧ Aside0 (Kd.R (Kd.int .i64) 3 wr w.heap.size (fun _ => True) (.slice A3 ks.length c3) (natsOf ks))) (fun v40 _ _ => ks.length - (intOf v40).toNat)
        case atStart => exact ⟨_, _, 0, rfl, rfl, Aside0.mk rfl, Aside0.mk rfl, by omega, HB, HX, HL⟩
        case round =>
          clear HB HX HL
          obtain ⟨r, q, j, rfl, rfl, HRj, HQ, hj, HB, HX, HL⟩ := hrel
          by_cases hjn : j < ks.length
          · have hlt2 : decide (r < (ks.length : Int)) = true := decide_eq_true (by rw [HRj.out]; omega)
            have hr0 : 0 ≤ r := by rw [HRj.out]; omega
            have hr1 : r < (ks.length : Int) := by rw [HRj.out]; omega
            have HWj : Aside0 (wrap64 (r + 1) = ((j + 1 : Nat) : Int)) := Aside0.mk (by rw [HRj.out, wrap_succ j (by omega)])
            obtain ⟨ad3, e, hx3⟩ := Kd.at_int (Kd.R_reads' HL.out).2.2 r hr0 (by rw [show (natsOf ks).length = ks.length by simp [natsOf]]; exact hr1)
            cases e
            obtain ⟨k, hk⟩ : ∃ k, k = ks.getD j 0 := ⟨_, rfl⟩
            have e3 : rd (natsOf ks) r = (k : Int) := by rw [HRj.out, hk]; exact rd_nats ks j hjn
            rw [e3] at hx3
            have hkm : k ∈ ks := by rw [hk]; exact getD_mem ks j hjn
            have hkb : mi.testBit k = true := by rw [HK.out] at hkm; simpa using (List.mem_filter.1 hkm).2
            have hsn := mostN_snoc ys.length (dOf ys) (ks.take j) k
            rw [hk, ← take_snoc ks j hjn, ← hk, ← HQ.out] at hsn
            obtain ⟨X, hX⟩ : ∃ X : Int, X = (k : Int) := ⟨_, rfl⟩
            rw [← hX] at hx3
            have hX0 : 0 ≤ X := by omega
            replace hr0 := eq_true hr0
            replace hr1 := eq_true hr1
            by_cases hkN : k < ys.length
            · have hX1 : X < (ys.length : Int) := by omega
              have hlt3 : decide (X < (ys.length : Int)) = true := decide_eq_true hX1
              obtain ⟨ad4, e, hx4⟩ := Kd.at_int (Kd.R_reads' HX.out).2.2 X hX0 (by rw [HDL.out]; exact hX1)
              cases e
              have hkN' : k < nn ys := by rw [HN.out]; exact hkN
              have e4 : rd (depL ys) X = dOf ys k := by rw [hX]; exact dOf_at ys k hkN'
              rw [e4] at hx4
              have hpos := HE2.out k hkN' hkb
              rw [if_pos hkN] at hsn
              obtain ⟨V, hV⟩ : ∃ V, V = dOf ys k := ⟨_, rfl⟩
              rw [← hV] at hx4 hpos hsn
              have hneg2 : decide (V < 0) = false := decide_eq_false (by omega)
              obtain ⟨Y, hY⟩ : ∃ Y, Y = max q V := ⟨_, rfl⟩
              rw [← hY] at hsn
              have hmx : (if q < V then V else q) = Y := by rw [hY]; split <;> omega
              have HS := Aside0.mk hsn.symm
              replace hX0 := eq_true hX0
              replace hX1 := eq_true hX1
              clear hk e3 hkm hkb hX e4 hV hY hsn
              go_wp2
              go_roundw
              case rel => exact ⟨_, _, j + 1, rfl, rfl, HWj, HS, by omega, HB, HX, HL⟩
              case measure => have := HWj.out; simp [intOf, wrap64] at *; omega
            · have hX1 : ¬ X < (ys.length : Int) := by omega
              have hlt3 : decide (X < (ys.length : Int)) = false := decide_eq_false hX1
              rw [if_neg hkN] at hsn
              have HS := Aside0.mk hsn.symm
              clear hk e3 hkm hkb hX hsn
              go_wp2
              go_roundw
              case rel => exact ⟨_, _, j + 1, rfl, rfl, HWj, HS, by omega, HB, HX, HL⟩
              case measure => have := HWj.out; simp [intOf, wrap64] at *; omega
          · have hlt2 : decide (r < (ks.length : Int)) = false := decide_eq_false (by rw [HRj.out]; omega)
            have hq : E = q + 1 := by
              have h1 := HQ.out
              rw [List.take_of_length_le (by omega), ← HN.out, HK.out] at h1
              rw [HE1.out, h1]
            have hEb := dOf_le ys i
            rw [← HE.out] at hEb
            have hw1 : wrap64 (q + 1) = E := by unfold wrap64; omega
            have hw2 : IntKind.i64.wrap (q + 1) = E := by simp [IntKind.wrap, IntKind.signed, IntKind.bits] <;> omega
            obtain ⟨ad5, e, hxe⟩ := Kd.at_int (Kd.R_reads' HX.out).2.2 p (of_eq_true hp0) (by rw [HDL.out]; exact of_eq_true hp1)
            cases e
            have e5 : rd (depL ys) p = E := by rw [HP.out, HE.out]; exact dOf_at ys i hiN
            rw [e5] at hxe
            clear hq hEb e5
            go_wp2
            go_roundw
            case rel => exact ⟨_, i + 1, rfl, HW, by omega, HB, HX⟩
            case measure => have := HW.out; simp [intOf, wrap64] at *; omega
    · have hlt : decide (p < (ys.length : Int)) = false := decide_eq_false (by rw [HP.out]; omega)
      go_wp2
      go_ret
      exact ⟨rfl, HB.out⟩
end Go.Proofs.YtfkljcnkghakaaaDoor.Masks
