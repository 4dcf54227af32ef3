/- The walk of ReadyWhole: it returns true. Conditions: the table deBruijn32tab holds its numbers; the masks are numbers of 32 bits. -/
import Derived.Test.YtfkljcnkghakaaaDoorWholeLaw
import Derived.Test.YtfkljcnkghakaaaDoorLaws
namespace Go.Proofs.YtfkljcnkghakaaaDoor.Masks
open Go.RowKit Go.Proofs.YtfkljcnkghakaaaDoor.PReadyOrders Go.Proofs.YtfkljcnkghakaaaDoorW.PrintWords Go.Proofs.YtfkljcnkghakaaaDoorW.PrintLast Go.Proofs.YtfkljcnkghakaaaDoorW.PrintMore
attribute [local go_sem] max2_int min2_int
set_option linter.unusedVariables false

/-- A bit of a number, as the walk reckons it. -/
theorem bit_form (B i : Nat) (hB : B < 2 ^ 32) (hi : i < 32) (I : Int) (hI : I = (i : Int)) : ∃ T : Int, (B : Int) / 2 ^ min I.toNat 32 = T ∧ (B : Int) / 2 ^ I.toNat = T ∧ bits .and .u32 T 1 = (if B.testBit i then 1 else 0) := by
  refine ⟨((B / 2 ^ i : Nat) : Int), ?_, ?_, ?_⟩
  · rw [hI, Int.toNat_natCast, Nat.min_eq_left (by omega)]; norm_cast
  · rw [hI, Int.toNat_natCast]; norm_cast
  · have h1 : B / 2 ^ i < 2 ^ 32 := Nat.lt_of_le_of_lt (Nat.div_le_self _ _) hB
    have e := and_nat (B / 2 ^ i) 1 h1 (by decide)
    rw [show ((1 : Nat) : Int) = (1 : Int) from rfl] at e
    rw [e, Nat.and_one_is_mod]
    have h2 : B.testBit i = (B / 2 ^ i).testBit 0 := by rw [Nat.testBit_div_two_pow, Nat.zero_add]
    rw [h2, Nat.testBit_zero]
    by_cases h3 : B / 2 ^ i % 2 = 1
    · rw [h3]; simp
    · have h4 : B / 2 ^ i % 2 = 0 := by omega
      rw [h4]; simp
theorem cnt_none (n : Nat) : cnt (fun _ => false) n = 0 := by
  induction n with
  | zero => rfl
  | succ n ih => show cnt (fun _ => false) n + 0 = 0; rw [ih]
theorem placed_bit (ys : List Int) (L : List Nat) (k : Nat) (hk : k < nn ys) : (placedN ys L).testBit k = L.contains k := by
  unfold placedN; rw [num_bit, decide_eq_true hk, Bool.true_and]
/-- One more placed. -/
theorem shl_forms (k : Nat) (hk : k < 32) (K : Int) (hK : K = (k : Int)) : ∃ S : Int, S = ((2 ^ k : Nat) : Int) ∧ IntKind.u32.wrap (1 * 2 ^ min K.toNat 32) = S ∧ IntKind.u32.wrap (1 * 2 ^ K.toNat) = S ∧ IntKind.u32.wrap (2 ^ min K.toNat 32) = S ∧ IntKind.u32.wrap (2 ^ K.toNat) = S ∧ (2 : Int) ^ K.toNat % 4294967296 = S := by
  have hshl := shl_one k hk
  rw [← hK] at hshl
  have hs1 : IntKind.u32.wrap (1 * 2 ^ min K.toNat 32) = ((2 ^ k : Nat) : Int) := hshl
  have h32 : K ≤ 32 := by omega
  have hs2 : IntKind.u32.wrap (1 * 2 ^ K.toNat) = ((2 ^ k : Nat) : Int) := shl_small hshl h32
  have hs3 : IntKind.u32.wrap (2 ^ min K.toNat 32) = ((2 ^ k : Nat) : Int) := by have h_ := hs1; rw [Int.one_mul] at h_; exact h_
  have hs4 : IntKind.u32.wrap (2 ^ K.toNat) = ((2 ^ k : Nat) : Int) := by have h_ := hs2; rw [Int.one_mul] at h_; exact h_
  exact ⟨_, rfl, hs1, hs2, hs3, hs4, hs4⟩

set_option maxHeartbeats 2000000 in
set_option maxRecDepth 100000 in
theorem whole_walk (xs : List Int) (h : U32 xs) (A0 : Option Addr) (c0 : Nat) (ps : List Int) (Ap : Option Addr) (cp : Nat) (w : World) (hr0 : Kd.C (Kd.int .u32) w A0 xs.length xs) (hc0 : xs.length ≤ c0) (hrp : Kd.C (Kd.int .i64) w Ap ps.length ps) (hcp : ps.length ≤ cp) (hT : Tab w) :
    Calls Tryd.prog 6 #[.slice A0 xs.length c0, .slice Ap ps.length cp] w fun e w' => e = .returned (.bool true) ∧ Below w.heap.size w w' := by
  have HT := Aside0.mk hT
  have HB := Aside0.mk (Below.refl w.heap.size w)
  have HP0 := Aside0.mk hrp
  obtain ⟨m, hm⟩ : ∃ m : Int, m = ((min xs.length 32 : Nat) : Int) := ⟨_, rfl⟩
  have hm0 : 0 ≤ m := by omega
  have hm1 : m ≤ (xs.length : Int) := by omega
  have hmin : (if (32 : Int) < (xs.length : Int) then 32 else (xs.length : Int)) = m := by split <;> omega
  have hmin2 : (if (xs.length : Int) < 32 then (xs.length : Int) else 32) = m := by split <;> omega
  obtain ⟨i05, hi05, _, hsz5, _⟩ := info_parts info28
  obtain ⟨hcut5, hA5, hC5⟩ := print_take_of (P := Tryd.prog) (Value.int .u32) 0 22 28 .i64 Tryd.underlying22 hi05 hsz5 A0 c0 xs m hm0 hm1 hc0
  have HR := Aside0.mk (Kd.C_of_reads (h1 := fun _ => rfl) (hA5 _ (Kd.reads_of_C hr0)))
  have HC := Aside0.mk hC5
  clear hA5 hC5 hi05 hsz5
  have hl : (xs.take m.toNat).length ≤ 32 := by rw [List.length_take]; omega
  have hu : U32 (xs.take m.toNat) := fun x hx => h x (List.mem_of_mem_take hx)
  generalize xs.take m.toNat = ys at hcut5 HR HC hl hu
  have hN : nn ys = ys.length := by unfold nn; omega
  have HN := Aside0.mk hN
  replace hm0 := eq_true hm0
  replace hm1 := eq_true hm1
  clear hr0 hT hm hc0 h hN hrp hcp
  obtain ⟨O, hO⟩ : ∃ O, O = order (nn ys) (dep ys) := ⟨_, rfl⟩
  have HO := Aside0.mk hO
  have HOL : Aside0 (ordL ys = natsOf O) := Aside0.mk (by rw [hO]; rfl)
  have hOl : O.length ≤ 32 := by rw [hO]; exact Nat.le_trans (good_len good_order) (nn_le ys)
  clear hO
  go_enter Tryd.func6, Tryd.ntmps6
  go_upto_region 5 with (first
    | (go_at_call 11; go_loud (refine (order_calls ys hu _ _ _ (Kd.C_below HR.out HB.out) HC.out (HT.out.below HT.out.pos HB.out)).mono ?_; rintro e w' ⟨v2, rfl, ho, hb⟩; rw [HOL.out] at ho; obtain ⟨A2, c2, rfl⟩ := Kd.R_slice ho; rw [show (natsOf O).length = O.length by simp [natsOf]] at ho ⊢; have n0 := Aside0.mk (below_step HB.out hb); have HX := Aside0.mk (Kd.R_lower ho (below_size HB.out)); clear HB ho; have HB := n0; clear n0 hb)))
  go_loopw [27, 5] (fun v27 v5 wr => ∃ (p : Int) (B i : Nat), v27 = .int .i64 p ∧ v5 = .int .u32 (B : Int) ∧ Aside0 (p = (i : Int)) ∧ Aside0 (B = placedN ys (O.take i)) ∧ i ≤ O.length ∧ Aside0 (Below w.heap.size w wr) ∧ Aside0 (Kd.R (Kd.int .i64) 3 wr w.heap.size (fun _ => True) (.slice A2 O.length c2) (natsOf O))) (fun v27 _ _ => O.length - (intOf v27).toNat)
  case atStart => exact ⟨_, 0, 0, rfl, rfl, Aside0.mk rfl, Aside0.mk (num_zero (fun _ _ => rfl)).symm, by omega, HB, HX⟩
  case round =>
    clear HB HX
    obtain ⟨p, B, i, rfl, rfl, HP, HBp, hi, HB, HX⟩ := hrel
    by_cases hin : i < O.length
    · have hlt : decide (p < (O.length : Int)) = true := decide_eq_true (by rw [HP.out]; omega)
      have hp0 : 0 ≤ p := by rw [HP.out]; omega
      have hp1 : p < (O.length : Int) := by rw [HP.out]; omega
      have HW : Aside0 (wrap64 (p + 1) = ((i + 1 : Nat) : Int)) := Aside0.mk (by rw [HP.out, wrap_succ i (by omega)])
      obtain ⟨ad2, e, hx⟩ := Kd.at_int (Kd.R_reads' HX.out).2.2 p hp0 (by rw [show (natsOf O).length = O.length by simp [natsOf]]; exact hp1)
      cases e
      obtain ⟨a, ha⟩ : ∃ a, a = O.getD i 0 := ⟨_, rfl⟩
      have e1 : rd (natsOf O) p = (a : Int) := by rw [HP.out, ha]; exact rd_nats O i hin
      rw [e1] at hx
      obtain ⟨haN, hanew, hadep⟩ := order_at ys i (by rw [← HO.out]; exact hin)
      rw [← HO.out, ← ha] at haN hanew hadep
      have haN' : a < ys.length := by rw [← HN.out]; exact haN
      obtain ⟨X, hX⟩ : ∃ X : Int, X = (a : Int) := ⟨_, rfl⟩
      rw [← hX] at hx
      have hX0 : 0 ≤ X := by omega
      have hX1 : X < (ys.length : Int) := by omega
      have hge : decide (X ≥ (ys.length : Int)) = false := decide_eq_false (by omega)
      have hge2 : decide ((ys.length : Int) ≤ X) = false := decide_eq_false (by omega)
      have hneg : decide (X < 0) = false := decide_eq_false (by omega)
      have hB32 : B < 2 ^ 32 := by rw [HBp.out]; exact placedN_lt _ _
      obtain ⟨T, hT1, hT2, hT3⟩ := bit_form B a hB32 (by omega) X hX
      have hbit : B.testBit a = false := by rw [HBp.out, placed_bit ys _ a haN, List.contains_eq_mem]; simpa using hanew
      rw [hbit] at hT3
      simp only [Bool.false_eq_true, if_false] at hT3
      obtain ⟨adm, e, hxm⟩ := Kd.at_int (Kd.C_below HR.out HB.out) X hX0 hX1
      cases e
      obtain ⟨mi, hmi⟩ : ∃ mi : Nat, mi = mk ys a := ⟨_, rfl⟩
      have hmi32 : mi < 4294967296 := by rw [hmi]; exact mk_lt hu a
      have e2 : rd ys X = (mi : Int) := by rw [hX, rd_nat, hmi, mk_cast hu a]
      rw [e2] at hxm
      have HMi := Aside0.mk hmi
      have HXa := Aside0.mk hX
      have HA := Aside0.mk ha
      have HDp := Aside0.mk hadep
      obtain ⟨ks, hks⟩ : ∃ ks, ks = bitsOf mi := ⟨_, rfl⟩
      have hkl : ks.length ≤ 32 := by rw [hks]; exact bitsOf_len mi
      have HK := Aside0.mk hks
      replace hp0 := eq_true hp0
      replace hp1 := eq_true hp1
      replace hX0 := eq_true hX0
      replace hX1 := eq_true hX1
      clear e1 e2 hX hmi hks ha hadep hbit hanew
      go_upto_region 10 with (first
        | (go_at_call 17; go_loud (refine (list_calls mi hmi32 _ (HT.out.below HT.out.pos HB.out)).mono ?_; rintro e w' ⟨v2, rfl, ho, hb⟩; rw [← HK.out] at ho; obtain ⟨A3, c3, rfl⟩ := Kd.R_slice ho; rw [show (natsOf ks).length = ks.length by simp [natsOf]] at ho ⊢; have n0 := Aside0.mk (below_step HB.out hb); have x0 := Aside0.mk (Kd.R_below HX.out hb); have HL := Aside0.mk (Kd.R_lower ho (below_size HB.out)); clear HB HX ho; have HB := n0; have HX := x0; clear n0 x0 hb)))
      clear hT1 hT2 hT3
      go_loopw [52] (fun v52 wr => ∃ (r : Int) (j : Nat), v52 = .int .i64 r ∧ Aside0 (r = (j : Int)) ∧ j ≤ ks.length ∧ Aside0 (Below w.heap.size w wr) ∧ Aside0 (Kd.R (Kd.int .i64) 3 wr w.heap.size (fun _ => True) (.slice (some ad2) O.length c2) (natsOf O)) ∧ Aside0 (Kd.R (Kd.int .i64) 3 wr w.heap.size (fun _ => True) (.slice A3 ks.length c3) (natsOf ks))) (fun v52 _ => ks.length - (intOf v52).toNat)
      case atStart => exact ⟨_, 0, rfl, Aside0.mk rfl, by omega, HB, HX, HL⟩
      case round =>
        clear HB HX HL
        obtain ⟨r, j, rfl, HRj, hj, HB, HX, HL⟩ := hrel
        by_cases hjn : j < ks.length
        · have hlt2 : decide (r < (ks.length : Int)) = true := decide_eq_true (by rw [HRj.out]; omega)
          have hr0 : 0 ≤ r := by rw [HRj.out]; omega
          have hr1 : r < (ks.length : Int) := by rw [HRj.out]; omega
          have HWj : Aside0 (wrap64 (r + 1) = ((j + 1 : Nat) : Int)) := Aside0.mk (by rw [HRj.out, wrap_succ j (by omega)])
          obtain ⟨ad3, e, hx3⟩ := Kd.at_int (Kd.R_reads' HL.out).2.2 r hr0 (by rw [show (natsOf ks).length = ks.length by simp [natsOf]]; exact hr1)
          cases e
          obtain ⟨k, hk⟩ : ∃ k, k = ks.getD j 0 := ⟨_, rfl⟩
          have e3 : rd (natsOf ks) r = (k : Int) := by rw [HRj.out, hk]; exact rd_nats ks j hjn
          rw [e3] at hx3
          have hkm : k ∈ ks := by rw [hk]; exact getD_mem ks j hjn
          have hkb : (mk ys a).testBit k = true := by rw [HK.out, HMi.out] at hkm; simpa using (List.mem_filter.1 hkm).2
          obtain ⟨Z, hZ⟩ : ∃ Z : Int, Z = (k : Int) := ⟨_, rfl⟩
          rw [← hZ] at hx3
          have hZ0 : 0 ≤ Z := by omega
          replace hr0 := eq_true hr0
          replace hr1 := eq_true hr1
          by_cases hkN : k < ys.length
          · have hlt3 : decide (Z < (ys.length : Int)) = true := decide_eq_true (by omega)
            have hkN' : k < nn ys := by rw [HN.out]; exact hkN
            have hd : dep ys a k = true := by show (decide (k < nn ys) && (mk ys a).testBit k) = true; rw [decide_eq_true hkN', hkb]; rfl
            have hin2 := HDp.out k hkN' hd
            obtain ⟨T, hT1, hT2, hT3⟩ := bit_form B k hB32 (by omega) Z hZ
            have hbit : B.testBit k = true := by rw [HBp.out, placed_bit ys _ k hkN', List.contains_eq_mem]; simpa using hin2
            rw [hbit, if_pos rfl] at hT3
            replace hZ0 := eq_true hZ0
            clear hk e3 hkm hkb hZ hd hin2 hbit
            go_wp2
            go_roundw
            case rel => exact ⟨_, j + 1, rfl, HWj, by omega, HB, HX, HL⟩
            case measure => have := HWj.out; simp [intOf, wrap64] at *; omega
          · have hlt3 : decide (Z < (ys.length : Int)) = false := decide_eq_false (by omega)
            replace hZ0 := eq_true hZ0
            clear hk e3 hkm hkb hZ
            go_wp2
            go_roundw
            case rel => exact ⟨_, j + 1, rfl, HWj, by omega, HB, HX, HL⟩
            case measure => have := HWj.out; simp [intOf, wrap64] at *; omega
        · have hlt2 : decide (r < (ks.length : Int)) = false := decide_eq_false (by rw [HRj.out]; omega)
          obtain ⟨S, hS, hs1, hs2, hs3, hs4, hs5⟩ := shl_forms a (by omega) X HXa.out
          obtain ⟨B', hB'⟩ : ∃ B' : Nat, B' = placedN ys (O.take (i + 1)) := ⟨_, rfl⟩
          have hor : bits .or .u32 (B : Int) S = (B' : Int) := by
            rw [hS, or_nat _ _ hB32 (Nat.pow_lt_pow_right (by decide) (by omega)), hB', take_snoc O i hin, ← HA.out, HBp.out, placed_snoc ys _ a haN]
          have HBq := Aside0.mk hB'
          have hX32 : X ≤ 32 := by rw [HXa.out]; omega
          clear hS hB'
          go_wp2
          go_roundw
          case rel => exact ⟨_, B', i + 1, rfl, rfl, HW, HBq, by omega, HB, HX⟩
          case measure => have := HW.out; simp [intOf, wrap64] at *; omega
    · have hlt : decide (p < (O.length : Int)) = false := decide_eq_false (by rw [HP.out]; omega)
      have HBO : Aside0 (B = placedN ys O) := Aside0.mk (by rw [HBp.out, List.take_of_length_le (by omega)])
      have hB32 : B < 2 ^ 32 := by rw [HBO.out]; exact placedN_lt _ _
      clear HP HBp hi hin
      go_upto_region 18 with (fail)
      clear HX
      go_loopw [75] (fun v75 wr => ∃ (p : Int) (i : Nat), v75 = .int .i64 p ∧ Aside0 (p = (i : Int)) ∧ i ≤ ys.length ∧ Aside0 (Below w.heap.size w wr)) (fun v75 _ => ys.length - (intOf v75).toNat)
      case atStart => exact ⟨_, 0, rfl, Aside0.mk rfl, by omega, HB⟩
      case round =>
        clear HB
        obtain ⟨p, i, rfl, HP, hi, HB⟩ := hrel
        by_cases hin : i < ys.length
        · have hlt : decide (p < (ys.length : Int)) = true := decide_eq_true (by rw [HP.out]; omega)
          have HW : Aside0 (wrap64 (p + 1) = ((i + 1 : Nat) : Int)) := Aside0.mk (by rw [HP.out, wrap_succ i (by omega)])
          have hiN : i < nn ys := by rw [HN.out]; exact hin
          have HBeh : Aside0 (∀ (k : Nat), k < nn ys → ∀ W, Below w.heap.size w W → Calls Tryd.prog 19 #[.slice A0 ys.length c0, .int .i64 (k : Int)] W fun e w' => e = .returned (.int .u32 ((behN ys k : Nat) : Int)) ∧ Below W.heap.size W w') := Aside0.mk (fun k hk W hb => by
            have := behind_calls ys hu (k : Int) A0 c0 W (Kd.C_below HR.out hb) HC.out
            rwa [behV_nat ys k hk] at this)
          have HBi : Aside0 (∀ W, Below w.heap.size w W → Calls Tryd.prog 19 #[.slice A0 ys.length c0, .int .i64 p] W fun e w' => e = .returned (.int .u32 ((behN ys i : Nat) : Int)) ∧ Below W.heap.size W w') := Aside0.mk (fun W hb => by rw [HP.out]; exact HBeh.out i hiN W hb)
          have hb32 : ∀ k, behN ys k < 2 ^ 32 := fun k => num_lt32 _ (nn_le _)
          have hbeh : ∀ k j, j < nn ys → (behN ys k).testBit j = behB ys k j := fun k j hj => by unfold behN; rw [num_bit, decide_eq_true hj, Bool.true_and]
          have Hb32 := Aside0.mk hb32
          have Hbeh := Aside0.mk hbeh
          clear hb32 hbeh
          obtain ⟨T, hT1, hT2, hT3⟩ := bit_form (behN ys i) i (Hb32.out i) (by omega) p HP.out
          rw [Hbeh.out i i hiN] at hT3
          have hp0 : 0 ≤ p := by rw [HP.out]; omega
          replace hp0 := eq_true hp0
          obtain ⟨E, hE⟩ : ∃ E : Int, E = (if behB ys i i = true then 1 else 0) := ⟨_, rfl⟩
          rw [← hE] at hT3
          have hEb : decide (E = 1) = behB ys i i := by rw [hE]; cases behB ys i i <;> rfl
          have hEb2 : (E == 1) = behB ys i i := by rw [hE]; cases behB ys i i <;> rfl
          clear hE
          obtain ⟨F, hF⟩ : ∃ F : Int, F = ((behN ys i : Nat) : Int) := ⟨_, rfl⟩
          rw [← hF] at hT1 hT2 HBi
          clear hF
          go_upto_region 22 with (first
            | (go_at_call 19; (with_reducible refine (HBi.out _ HB.out).mono ?_); rintro e w' ⟨rfl, hb⟩; have n0 := Aside0.mk (below_step HB.out hb); clear HB hb; have HB := n0; clear n0))
          have Hst0 : Aside0 (behB ys i i = stuckB ys i 0) := Aside0.mk (by unfold stuckB; simp)
          clear hT1 hT2 hT3 hEb hEb2
          go_loopw [87, 12] (fun v87 v12 wr => ∃ (r : Int) (b : Bool) (j : Nat), v87 = .int .i64 r ∧ v12 = .bool b ∧ Aside0 (r = (j : Int)) ∧ Aside0 (b = stuckB ys i j) ∧ j ≤ ys.length ∧ Aside0 (Below w.heap.size w wr)) (fun v87 _ _ => ys.length - (intOf v87).toNat)
          case atStart => exact ⟨_, _, 0, rfl, rfl, Aside0.mk rfl, Hst0, by omega, HB⟩
          case round =>
            clear HB Hst0
            obtain ⟨r, b, j, rfl, rfl, HRj, Hst, hj, HB⟩ := hrel
            by_cases hjn : j < ys.length
            · have hlt2 : decide (r < (ys.length : Int)) = true := decide_eq_true (by rw [HRj.out]; omega)
              have HWj : Aside0 (wrap64 (r + 1) = ((j + 1 : Nat) : Int)) := Aside0.mk (by rw [HRj.out, wrap_succ j (by omega)])
              have hjN : j < nn ys := by rw [HN.out]; exact hjn
              have hr0 : 0 ≤ r := by rw [HRj.out]; omega
              replace hr0 := eq_true hr0
              cases b with
              | true =>
                go_wp2
                go_roundw
                case rel => exact ⟨_, _, j + 1, rfl, rfl, HWj, Aside0.mk (by rw [stuckB_step, ← Hst.out]; rfl), by omega, HB⟩
                case measure => have := HWj.out; simp [intOf, wrap64] at *; omega
              | false =>
                obtain ⟨T1, hT1, hT2, hT3⟩ := bit_form (behN ys j) j (Hb32.out j) (by omega) r HRj.out
                obtain ⟨T2, hT4, hT5, hT6⟩ := bit_form (behN ys j) i (Hb32.out j) (by omega) p HP.out
                rw [Hbeh.out j j hjN] at hT3
                rw [Hbeh.out j i hiN] at hT6
                have HBj : Aside0 (∀ W, Below w.heap.size w W → Calls Tryd.prog 19 #[.slice A0 ys.length c0, .int .i64 r] W fun e w' => e = .returned (.int .u32 ((behN ys j : Nat) : Int)) ∧ Below W.heap.size W w') := Aside0.mk (fun W hb => by rw [HRj.out]; exact HBeh.out j hjN W hb)
                obtain ⟨F1, hF1⟩ : ∃ F1 : Int, F1 = ((behN ys j : Nat) : Int) := ⟨_, rfl⟩
                rw [← hF1] at hT1 hT2 hT4 hT5 HBj
                clear hF1
                have Hs2 : Aside0 (stuckB ys i (j + 1) = (behB ys j j && behB ys j i)) := Aside0.mk (by rw [stuckB_step, ← Hst.out]; rfl)
                cases hc : behB ys j j with
                | false =>
                  rw [hc] at hT3 Hs2
                  simp only [Bool.false_eq_true, if_false] at hT3
                  go_wp2_with (go_at_call 19; (with_reducible refine (HBj.out _ HB.out).mono ?_); rintro e w' ⟨rfl, hb⟩; have n0 := Aside0.mk (below_step HB.out hb); clear HB hb; have HB := n0; clear n0)
                  go_roundw
                  case rel => exact ⟨_, _, j + 1, rfl, rfl, HWj, Aside0.mk (by rw [Hs2.out]; rfl), by omega, HB⟩
                  case measure => have := HWj.out; simp [intOf, wrap64] at *; omega
                | true =>
                  rw [hc] at hT3 Hs2
                  rw [if_pos rfl] at hT3
                  cases hd : behB ys j i with
                  | false =>
                    rw [hd] at hT6 Hs2
                    simp only [Bool.false_eq_true, if_false] at hT6
                    go_wp2_with (go_at_call 19; (with_reducible refine (HBj.out _ HB.out).mono ?_); rintro e w' ⟨rfl, hb⟩; have n0 := Aside0.mk (below_step HB.out hb); clear HB hb; have HB := n0; clear n0)
                    go_roundw
                    case rel => exact ⟨_, _, j + 1, rfl, rfl, HWj, Aside0.mk (by rw [Hs2.out]; rfl), by omega, HB⟩
                    case measure => have := HWj.out; simp [intOf, wrap64] at *; omega
                  | true =>
                    rw [hd] at hT6 Hs2
                    rw [if_pos rfl] at hT6
                    go_wp2_with (go_at_call 19; (with_reducible refine (HBj.out _ HB.out).mono ?_); rintro e w' ⟨rfl, hb⟩; have n0 := Aside0.mk (below_step HB.out hb); clear HB hb; have HB := n0; clear n0)
                    go_roundw
                    case rel => exact ⟨_, _, j + 1, rfl, rfl, HWj, Aside0.mk (by rw [Hs2.out]; rfl), by omega, HB⟩
                    case measure => have := HWj.out; simp [intOf, wrap64] at *; omega
            · have hlt2 : decide (r < (ys.length : Int)) = false := decide_eq_false (by rw [HRj.out]; omega)
              have Hb : Aside0 (b = !O.contains i) := Aside0.mk (by rw [Hst.out, show j = nn ys by rw [HN.out]; omega, stuck_is ys i hiN, ← HO.out])
              obtain ⟨T3, hT1, hT2, hT3⟩ := bit_form B i hB32 (by omega) p HP.out
              have hbit : B.testBit i = O.contains i := by rw [HBO.out, placed_bit ys _ i hiN]
              rw [hbit] at hT3
              clear hbit
              cases hc : O.contains i with
              | false =>
                rw [hc] at hT3 Hb
                simp only [Bool.false_eq_true, if_false] at hT3
                obtain rfl : b = true := Hb.out
                go_wp2
                go_roundw
                case rel => exact ⟨_, i + 1, rfl, HW, by omega, HB⟩
                case measure => have := HW.out; simp [intOf, wrap64] at *; omega
              | true =>
                rw [hc] at hT3 Hb
                rw [if_pos rfl] at hT3
                obtain rfl : b = false := Hb.out
                go_wp2
                go_roundw
                case rel => exact ⟨_, i + 1, rfl, HW, by omega, HB⟩
                case measure => have := HW.out; simp [intOf, wrap64] at *; omega
        · have hlt : decide (p < (ys.length : Int)) = false := decide_eq_false (by rw [HP.out]; omega)
          clear HP hi hin
          go_upto_region 31 with (fail)
          clear hlt
          go_loopw [15, 14] (fun v15 v14 wr => ∃ (q : Int) (D i : Nat), v15 = .int .i64 q ∧ v14 = .int .u32 (D : Int) ∧ Aside0 (q = (i : Int)) ∧ Aside0 (D < 2 ^ nn ys) ∧ Aside0 (InO ys D) ∧ Aside0 (cnt (fun j => D.testBit j) (nn ys) = i) ∧ i ≤ 32 ∧ Aside0 (Below w.heap.size w wr)) (fun v15 _ _ => 32 - (intOf v15).toNat)
          case atStart => exact ⟨_, 0, 0, rfl, rfl, Aside0.mk rfl, Aside0.mk (Nat.pow_pos (by decide)), Aside0.mk (inO_zero ys), Aside0.mk (by rw [cnt_congr (q := fun _ => false) (fun j _ => by simp)]; exact cnt_none _), by omega, HB⟩
          case round =>
            clear HB
            obtain ⟨q, D, i, rfl, rfl, HQ, HDlt, HIn, HCn, hi, HB⟩ := hrel
            have hD32 : D < 2 ^ 32 := Nat.lt_of_lt_of_le HDlt.out (Nat.pow_le_pow_right (by decide) (nn_le ys))
            by_cases hin : i < 32
            · have hlt : decide (q < 32) = true := decide_eq_true (by rw [HQ.out]; omega)
              have hlt0 : (q < 32) = True := eq_true (by rw [HQ.out]; omega)
              have HW : Aside0 (wrap64 (q + 1) = ((i + 1 : Nat) : Int)) := Aside0.mk (by rw [HQ.out, wrap_succ i (by omega)])
              have hM32 : readyN ys D < 4294967296 := readyN_lt _ _
              obtain ⟨ks, hks⟩ : ∃ ks, ks = bitsOf (readyN ys D) := ⟨_, rfl⟩
              have hkl : ks.length ≤ 32 := by rw [hks]; exact bitsOf_len _
              have HK := Aside0.mk hks
              clear hks
              go_upto_region 34 with (first
                | (go_at_call 15; go_loud (refine (ready_calls ys hu _ _ D hD32 _ (Kd.C_below HR.out HB.out) HC.out).mono ?_; rintro e w' ⟨rfl, hb⟩; have n0 := Aside0.mk (below_step HB.out hb); clear HB hb; have HB := n0; clear n0))
                | (go_at_call 17; go_loud (refine (list_calls (readyN ys D) hM32 _ (HT.out.below HT.out.pos HB.out)).mono ?_; rintro e w' ⟨v2, rfl, ho, hb⟩; rw [← HK.out] at ho; obtain ⟨A3, c3, rfl⟩ := Kd.R_slice ho; rw [show (natsOf ks).length = ks.length by simp [natsOf]] at ho ⊢; have n0 := Aside0.mk (below_step HB.out hb); have HL := Aside0.mk (Kd.R_lower ho (below_size HB.out)); clear HB ho; have HB := n0; clear n0 hb)))
              by_cases hz : ks.length = 0
              · have hz1 : decide ((ks.length : Int) = 0) = true := by simp [hz]
                have hz2 : ((ks.length : Int) == 0) = true := by simp [hz]
                have hr0 : readyN ys D = 0 := by
                  apply Classical.byContradiction
                  intro hne
                  have := bitsOf_cons _ hne hM32
                  rw [← HK.out] at this
                  rw [this] at hz
                  simp at hz
                have hDB : D = B := by rw [HBO.out, HO.out]; exact done_end HDlt.out HIn.out hr0
                have hDB1 : decide ((D : Int) = (B : Int)) = true := by rw [hDB]; simp
                have hDB2 : ((D : Int) == (B : Int)) = true := by rw [hDB]; simp
                clear hr0
                subst hDB
                go_wp2_with (first | (go_at_call 9; go_loud (refine (wakes_calls _ (HT.out.below HT.out.pos HB.out)).mono ?_; rintro e w' ⟨rfl, hb⟩; have n0 := Aside0.mk (below_step HB.out hb); clear HB hb; have HB := n0; clear n0)))
                go_ret
                exact ⟨rfl, HB.out⟩
              · have hz1 : decide ((ks.length : Int) = 0) = false := by simp [hz]
                have hz2 : ((ks.length : Int) == 0) = false := by simp [hz]
                by_cases hp : i < ps.length
                · have hlp : decide (q < (ps.length : Int)) = true := decide_eq_true (by rw [HQ.out]; omega)
                  have hq0 : 0 ≤ q := by rw [HQ.out]; omega
                  have hq1 : q < (ps.length : Int) := by rw [HQ.out]; omega
                  obtain ⟨adp, e, hxp⟩ := Kd.at_int (Kd.C_below HP0.out HB.out) q hq0 hq1
                  cases e
                  obtain ⟨V, hV⟩ : ∃ V, V = rd ps q := ⟨_, rfl⟩
                  rw [← hV] at hxp
                  obtain ⟨P, hP⟩ : ∃ P : Int, P = max 0 V := ⟨_, rfl⟩
                  have hP1 : (if 0 < V then V else 0) = P := by rw [hP]; split <;> omega
                  have hP2 : (if V < 0 then 0 else V) = P := by rw [hP]; split <;> omega
                  have hP0 : 0 ≤ P := by omega
                  obtain ⟨K, hK⟩ : ∃ K : Int, K = P % (ks.length : Int) := ⟨_, rfl⟩
                  have hPK : P.tmod (ks.length : Int) = K := by rw [Int.tmod_eq_emod_of_nonneg hP0, hK]
                  have hPK2 : P % (ks.length : Int) = K := hK.symm
                  have hKa : 0 ≤ K := by rw [hK]; exact Int.emod_nonneg _ (by omega)
                  have hKb : K < (ks.length : Int) := by rw [hK]; exact Int.emod_lt_of_pos _ (by omega)
                  replace hq0 := eq_true hq0
                  replace hq1 := eq_true hq1
                  replace hP0 := eq_true hP0
                  clear hV hP hK
                  have hK0 : 0 ≤ K := hKa
                  have hK1 : K < (ks.length : Int) := hKb
                  obtain ⟨ad3, e, hx3⟩ := Kd.at_int (Kd.R_reads' HL.out).2.2 K hK0 (by rw [show (natsOf ks).length = ks.length by simp [natsOf]]; exact hK1)
                  cases e
                  obtain ⟨kn, hkn⟩ := Int.eq_ofNat_of_zero_le hK0
                  obtain ⟨a, ha⟩ : ∃ a, a = ks.getD kn 0 := ⟨_, rfl⟩
                  have hknl : kn < ks.length := by omega
                  have e3 : rd (natsOf ks) K = (a : Int) := by rw [hkn, ha]; exact rd_nats ks kn hknl
                  rw [e3] at hx3
                  have ham : a ∈ ks := by rw [ha]; exact getD_mem ks kn hknl
                  have hab : (readyN ys D).testBit a = true := by rw [HK.out] at ham; simpa using (List.mem_filter.1 ham).2
                  obtain ⟨haN, hrd⟩ := (readyN_bit ys D a).1 hab
                  have hnot : D.testBit a = false := ((ready_iff _ _).1 hrd).2
                  have haN' : a < ys.length := by rw [← HN.out]; exact haN
                  obtain ⟨X, hX⟩ : ∃ X : Int, X = (a : Int) := ⟨_, rfl⟩
                  rw [← hX] at hx3
                  have hX0 : 0 ≤ X := by omega
                  have hX32 : X ≤ 32 := by omega
                  obtain ⟨S, hS, hs1, hs2, hs3, hs4, hs5⟩ := shl_forms a (by omega) X hX
                  obtain ⟨D', hD'⟩ : ∃ D' : Nat, D' = D ||| 2 ^ a := ⟨_, rfl⟩
                  have hpow : 2 ^ a < 2 ^ nn ys := Nat.pow_lt_pow_right (by decide) haN
                  have hor : bits .or .u32 (D : Int) S = (D' : Int) := by rw [hS, or_nat _ _ hD32 (Nat.pow_lt_pow_right (by decide) (by omega)), hD']
                  have HDlt' : Aside0 (D' < 2 ^ nn ys) := Aside0.mk (by rw [hD']; exact Nat.or_lt_two_pow HDlt.out hpow)
                  have HIn' : Aside0 (InO ys D') := Aside0.mk (by rw [hD']; exact inO_step HIn.out hab)
                  have HCn' : Aside0 (cnt (fun j => D'.testBit j) (nn ys) = i + 1) := Aside0.mk (by rw [hD', cnt_step haN hnot, HCn.out])
                  replace hK0 := eq_true hK0
                  replace hK1 := eq_true hK1
                  replace hX0 := eq_true hX0
                  clear hkn ha e3 ham hab hrd hnot hX hS hD' hpow
                  go_wp2
                  go_roundw
                  case rel => exact ⟨_, D', i + 1, rfl, rfl, HW, HDlt', HIn', HCn', by omega, HB⟩
                  case measure => have := HW.out; simp [intOf, wrap64] at *; omega
                · have hlp : decide (q < (ps.length : Int)) = false := decide_eq_false (by rw [HQ.out]; omega)
                  have hK0 : (0 : Int) ≤ 0 := by omega
                  have hK1 : (0 : Int) < (ks.length : Int) := by omega
                  obtain ⟨ad3, e, hx3⟩ := Kd.at_int (Kd.R_reads' HL.out).2.2 0 hK0 (by rw [show (natsOf ks).length = ks.length by simp [natsOf]]; exact hK1)
                  cases e
                  obtain ⟨kn, hkn⟩ : ∃ kn : Nat, (0 : Int) = (kn : Int) := ⟨0, rfl⟩
                  obtain ⟨a, ha⟩ : ∃ a, a = ks.getD kn 0 := ⟨_, rfl⟩
                  have hknl : kn < ks.length := by omega
                  have e3 : rd (natsOf ks) 0 = (a : Int) := by rw [ha, hkn]; exact rd_nats ks kn hknl
                  rw [e3] at hx3
                  have ham : a ∈ ks := by rw [ha]; exact getD_mem ks kn hknl
                  have hab : (readyN ys D).testBit a = true := by rw [HK.out] at ham; simpa using (List.mem_filter.1 ham).2
                  obtain ⟨haN, hrd⟩ := (readyN_bit ys D a).1 hab
                  have hnot : D.testBit a = false := ((ready_iff _ _).1 hrd).2
                  have haN' : a < ys.length := by rw [← HN.out]; exact haN
                  obtain ⟨X, hX⟩ : ∃ X : Int, X = (a : Int) := ⟨_, rfl⟩
                  rw [← hX] at hx3
                  have hx4 := hx3
                  simp only [Int.toNat_zero] at hx4
                  have hx5 := hx4
                  rw [show ad3.add 0 = ad3 by (unfold Addr.add; cases ad3; split <;> simp_all)] at hx5
                  have hK1' : (0 : Int) < (ks.length : Int) := hK1
                  have hX0 : 0 ≤ X := by omega
                  have hX32 : X ≤ 32 := by omega
                  obtain ⟨S, hS, hs1, hs2, hs3, hs4, hs5⟩ := shl_forms a (by omega) X hX
                  obtain ⟨D', hD'⟩ : ∃ D' : Nat, D' = D ||| 2 ^ a := ⟨_, rfl⟩
                  have hpow : 2 ^ a < 2 ^ nn ys := Nat.pow_lt_pow_right (by decide) haN
                  have hor : bits .or .u32 (D : Int) S = (D' : Int) := by rw [hS, or_nat _ _ hD32 (Nat.pow_lt_pow_right (by decide) (by omega)), hD']
                  have HDlt' : Aside0 (D' < 2 ^ nn ys) := Aside0.mk (by rw [hD']; exact Nat.or_lt_two_pow HDlt.out hpow)
                  have HIn' : Aside0 (InO ys D') := Aside0.mk (by rw [hD']; exact inO_step HIn.out hab)
                  have HCn' : Aside0 (cnt (fun j => D'.testBit j) (nn ys) = i + 1) := Aside0.mk (by rw [hD', cnt_step haN hnot, HCn.out])
                  clear hK0
                  replace hK1 := eq_true hK1
                  replace hX0 := eq_true hX0
                  clear hkn ha e3 ham hab hrd hnot hX hS hD' hpow
                  go_wp2
                  go_roundw
                  case rel => exact ⟨_, D', i + 1, rfl, rfl, HW, HDlt', HIn', HCn', by omega, HB⟩
                  case measure => have := HW.out; simp [intOf, wrap64] at *; omega
            · have hlt : decide (q < 32) = false := decide_eq_false (by rw [HQ.out]; omega)
              have hlt0 : (q < 32) = False := eq_false (by rw [HQ.out]; omega)
              have hDB : D = B := by rw [HBO.out, HO.out]; exact done_full HDlt.out HIn.out (by rw [HCn.out]; have := nn_le ys; omega)
              subst hDB
              go_wp2_with (first | (go_at_call 9; go_loud (refine (wakes_calls _ (HT.out.below HT.out.pos HB.out)).mono ?_; rintro e w' ⟨rfl, hb⟩; have n0 := Aside0.mk (below_step HB.out hb); clear HB hb; have HB := n0; clear n0)))
              go_ret
              exact ⟨rfl, HB.out⟩
end Go.Proofs.YtfkljcnkghakaaaDoor.Masks
