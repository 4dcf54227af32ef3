/- The walk of ReadyMore: it returns true. Conditions: the table deBruijn32tab holds its numbers; the masks are numbers of 32 bits. -/
import Derived.Test.YtfkljcnkghakaaaDoorDeepWalk
import Derived.Deep.RegionHeld3
import Derived.StillTailTactics
namespace Go.Proofs.YtfkljcnkghakaaaDoor.Masks
open Go.RowKit Go.Proofs.YtfkljcnkghakaaaDoor.PReadyOrders Go.Proofs.YtfkljcnkghakaaaDoorW.PrintWords Go.Proofs.YtfkljcnkghakaaaDoorW.PrintLast Go.Proofs.YtfkljcnkghakaaaDoorW.PrintMore
attribute [local go_sem] max2_int min2_int
set_option linter.unusedVariables false
set_option linter.unusedSimpArgs false

/-- The masks with one more to wait for. -/
def moreL (ys : List Int) (i k : Nat) : List Int := ys.set i (((mk ys i ||| 2 ^ k : Nat) : Int))
theorem moreL_len (ys : List Int) (i k : Nat) : (moreL ys i k).length = ys.length := by simp [moreL]
theorem moreL_nn (ys : List Int) (i k : Nat) : nn (moreL ys i k) = nn ys := by unfold nn; rw [moreL_len]
theorem moreL_mk (ys : List Int) (i k j : Nat) (hi : i < ys.length) : mk (moreL ys i k) j = if j = i then mk ys i ||| 2 ^ k else mk ys j := by
  unfold mk moreL
  by_cases e : j = i
  · subst e; rw [if_pos rfl]; simp [List.getD, hi, mk]
  · rw [if_neg e]; simp [List.getD, Ne.symm e]
theorem moreL_u32 {ys : List Int} (h : U32 ys) (i k : Nat) (hk : k < 32) : U32 (moreL ys i k) := by
  intro x hx
  unfold moreL at hx
  rcases List.mem_or_eq_of_mem_set hx with h1 | h1
  · exact h x h1
  · subst h1
    have h2 : mk ys i ||| 2 ^ k < 2 ^ 32 := Nat.or_lt_two_pow (mk_lt h i) (Nat.pow_lt_pow_right (by decide) hk)
    simp [Lit.wf, IntKind.min, IntKind.max, IntKind.signed, IntKind.bits]
    omega
theorem moreL_dep (ys : List Int) (i k : Nat) (hi : i < ys.length) (a b : Nat) (h : dep ys a b = true) : dep (moreL ys i k) a b = true := by
  unfold dep at h ⊢
  rw [moreL_nn, moreL_mk _ _ _ _ hi]
  simp only [Bool.and_eq_true] at h ⊢
  refine ⟨h.1, ?_⟩
  by_cases e : a = i
  · subst e; rw [if_pos rfl, Nat.testBit_or, h.2]; rfl
  · rw [if_neg e]; exact h.2
theorem moreL_new (ys : List Int) (i k : Nat) (hi : i < ys.length) (hk : k < nn ys) : dep (moreL ys i k) i k = true := by
  unfold dep
  rw [moreL_nn, moreL_mk _ _ _ _ hi, if_pos rfl, Nat.testBit_or, Nat.testBit_two_pow_self]
  simp [hk]
theorem more_beh (ys : List Int) (i k : Nat) (hi : i < ys.length) (a j : Nat) (h : behB ys a j = true) : behB (moreL ys i k) a j = true := by
  rw [behB_iff] at h ⊢
  rw [moreL_nn]
  exact Beh.more_deps (fun x y => moreL_dep ys i k hi x y) h
theorem more_behN (ys : List Int) (i k a : Nat) (hi : i < ys.length) (ha : a < nn ys) : bits .andNot .u32 (behV ys (a : Int)) (behV (moreL ys i k) (a : Int)) = 0 := by
  have h1 : behN ys a < 2 ^ 32 := num_lt32 _ (nn_le _)
  have h2 : behN (moreL ys i k) a < 2 ^ 32 := num_lt32 _ (nn_le _)
  rw [behV_nat ys a ha, behV_nat _ a (by rw [moreL_nn]; exact ha), andNot_nat _ _ h1 h2]
  have h3 : behN ys a &&& (2 ^ 32 - 1 - behN (moreL ys i k) a) = 0 := by
    apply Nat.eq_of_testBit_eq
    intro j
    rw [Nat.testBit_and, show 2 ^ 32 - 1 - behN (moreL ys i k) a = 2 ^ 32 - (behN (moreL ys i k) a + 1) by omega, Nat.testBit_two_pow_sub_succ h2, Nat.zero_testBit]
    unfold behN
    rw [num_bit, num_bit, moreL_nn]
    cases hb : behB ys a j with
    | false => simp
    | true => rw [more_beh ys i k hi a j hb]; cases decide (j < nn ys) <;> simp
  rw [h3]; rfl
theorem more_last (ys : List Int) (i k : Nat) (hi : i < nn ys) (hk : k < nn ys) (hl : i < ys.length) : (behN (moreL ys i k) k).testBit i = true := by
  have h1 : behB (moreL ys i k) k i = true := behB_iff.2 (by rw [moreL_nn]; exact .one hi (moreL_new ys i k hl hk))
  unfold behN
  rw [num_bit, h1, moreL_nn]
  simp [hi]
theorem more_dOf (ys : List Int) (i k j : Nat) (hi : i < ys.length) (h : 0 ≤ dOf (moreL ys i k) j) : 0 ≤ dOf ys j ∧ dOf ys j ≤ dOf (moreL ys i k) j := by
  unfold dOf at h ⊢
  rw [moreL_nn] at h ⊢
  have hm := depths_iff.1 h
  exact ⟨depths_iff.2 (more_in (fun x y => moreL_dep ys i k hi x y) hm), more_deep (fun x y => moreL_dep ys i k hi x y) _ j hm (Nat.lt_succ_self _)⟩

/-- What the comparing region keeps. -/
abbrev KeepsM (w : World) (p q : Addr) (va vb s1 s2 s3 s4 : Value) (ys zs ds es : List Int) (W : World) : Prop := W.cell? p = some va ∧ W.cell? q = some vb ∧ Kd.R (Kd.int .u32) 28 W w.heap.size (fun _ => True) s1 ys ∧ Kd.R (Kd.int .u32) 28 W w.heap.size (fun _ => True) s2 zs ∧ Kd.R (Kd.int .i64) 3 W w.heap.size (fun _ => True) s3 ds ∧ Kd.R (Kd.int .i64) 3 W w.heap.size (fun _ => True) s4 es ∧ Below w.heap.size w W
section
variable {w : World} {p q : Addr} {va vb s1 s2 s3 s4 : Value} {ys zs ds es : List Int} {W W' : World}
theorem KeepsM.step (h : KeepsM w p q va vb s1 s2 s3 s4 ys zs ds es W) (hb : Below W.heap.size W W') : KeepsM w p q va vb s1 s2 s3 s4 ys zs ds es W' :=
  ⟨(hb.cell (World.block_lt_of_cell? _ _ h.1)).trans h.1, (hb.cell (World.block_lt_of_cell? _ _ h.2.1)).trans h.2.1, Kd.R_below h.2.2.1 hb, Kd.R_below h.2.2.2.1 hb, Kd.R_below h.2.2.2.2.1 hb, Kd.R_below h.2.2.2.2.2.1 hb, below_step h.2.2.2.2.2.2 hb⟩
theorem KeepsM.drew (h : KeepsM w p q va vb s1 s2 s3 s4 ys zs ds es W) : KeepsM w p q va vb s1 s2 s3 s4 ys zs ds es W.drew := h.step (Below.refl _ _).drew
theorem KeepsM.drewN (h : KeepsM w p q va vb s1 s2 s3 s4 ys zs ds es W) (n : Nat) : KeepsM w p q va vb s1 s2 s3 s4 ys zs ds es (W.drewN n) := h.step (pw_below_drewN (Below.refl _ _) n)
end

set_option maxHeartbeats 2000000 in
set_option maxRecDepth 100000 in
theorem more_walk (xs : List Int) (h : U32 xs) (a1 a2 : Int) (A0 : Option Addr) (c0 : Nat) (w : World) (hr0 : Kd.C (Kd.int .u32) w A0 xs.length xs) (hc0 : xs.length ≤ c0) (hT : Tab w) :
    Calls Tryd.prog 8 #[.slice A0 xs.length c0, .int .i64 a1, .int .i64 a2] w fun e w' => e = .returned (.bool true) ∧ Below w.heap.size w w' := by
  have HT := Aside0.mk hT
  have HB := Aside0.mk (Below.refl w.heap.size w)
  obtain ⟨m, hm⟩ : ∃ m : Int, m = ((min xs.length 32 : Nat) : Int) := ⟨_, rfl⟩
  have hm0 : 0 ≤ m := by omega
  have hm1 : m ≤ (xs.length : Int) := by omega
  have hmin : (if (32 : Int) < (xs.length : Int) then 32 else (xs.length : Int)) = m := by split <;> omega
  have hmin2 : (if (xs.length : Int) < 32 then (xs.length : Int) else 32) = m := by split <;> omega
  obtain ⟨i05, hi05, _, hsz5, _⟩ := info_parts info28
  obtain ⟨hcut5, hA5, hC5⟩ := print_take_of (P := Tryd.prog) (Value.int .u32) 0 22 28 .i64 Tryd.underlying22 hi05 hsz5 A0 c0 xs m hm0 hm1 hc0
  have HR := Aside0.mk (Kd.C_of_reads (h1 := fun _ => rfl) (hA5 _ (Kd.reads_of_C hr0)))
  have HC := Aside0.mk hC5
  clear hA5 hC5 hi05 hsz5
  have hl : (xs.take m.toNat).length ≤ 32 := by rw [List.length_take]; omega
  have hu : U32 (xs.take m.toNat) := fun x hx => h x (List.mem_of_mem_take hx)
  generalize xs.take m.toNat = ys at hcut5 HR HC hl hu
  have hN : nn ys = ys.length := by unfold nn; omega
  have HN := Aside0.mk hN
  replace hm0 := eq_true hm0
  replace hm1 := eq_true hm1
  clear hr0 hT hm hc0 h hN
  go_enter Tryd.func8, Tryd.ntmps8
  go_upto_region 2 with (first
    | ((with_reducible refine gate_builtin (b := .append) (xs := #[.const (.slice none 0 0), .tmp 16]) rfl ?_); at_builtin; go_loud (refine Kd.R_append_row (Value.int .u32) (0 : Int) (h1 := fun _ => rfl) (w0 := w) w.heap.size rfl _ _ 22 28 (.int .u32 0) 4 rfl Tryd.underlying22 info28 rfl (by decide) (.slice none 0 0) [] ys _ ys.length _ (fun _ => True) rfl rfl (fun _ _ => trivial) (Kd.R_nil _ _ _ _ _) (Kd.C_below HR.out HB.out) HB.out HB.out.size (by simp; omega) ?_; intro v1 w1 ho hb hg hat; rw [List.nil_append] at ho; obtain ⟨A1, c1, rfl⟩ := Kd.R_slice ho; have HX := Aside0.mk ho; have n0 := Aside0.mk hb; clear HB ho hb hg hat; have HB := n0; clear n0)))
  have hw1 : IntKind.i64.wrap (ys.length : Int) = (ys.length : Int) := by simp [IntKind.wrap, IntKind.signed, IntKind.bits] <;> omega
  by_cases hz : ys.length = 0
  · have hz1 : ((ys.length : Int) == 0) = true := by simp [hz]
    have hz2 : decide ((ys.length : Int) = 0) = true := by simp [hz]
    go_wp2_with (go_at_call 9; go_loud (refine (wakes_calls _ (HT.out.below HT.out.pos HB.out)).mono ?_; rintro e w' ⟨rfl, hb⟩; have n0 := Aside0.mk (below_step HB.out hb); clear HB hb; have HB := n0; clear n0))
    go_ret
    exact ⟨rfl, HB.out⟩
  · have hz1 : ((ys.length : Int) == 0) = false := by simp [hz]
    have hz2 : decide ((ys.length : Int) = 0) = false := by simp [hz]
    obtain ⟨i, hi⟩ : ∃ i : Nat, i = (max 0 a1).toNat % ys.length := ⟨_, rfl⟩
    obtain ⟨k, hk⟩ : ∃ k : Nat, k = (max 0 a2).toNat % ys.length := ⟨_, rfl⟩
    have hiN : i < ys.length := by rw [hi]; exact Nat.mod_lt _ (by omega)
    have hkN : k < ys.length := by rw [hk]; exact Nat.mod_lt _ (by omega)
    obtain ⟨P, hP⟩ : ∃ P : Int, P = max 0 a1 := ⟨_, rfl⟩
    obtain ⟨Q, hQ⟩ : ∃ Q : Int, Q = max 0 a2 := ⟨_, rfl⟩
    have hP1 : (if 0 < a1 then a1 else 0) = P := by rw [hP]; split <;> omega
    have hP2 : (if a1 < 0 then 0 else a1) = P := by rw [hP]; split <;> omega
    have hQ1 : (if 0 < a2 then a2 else 0) = Q := by rw [hQ]; split <;> omega
    have hQ2 : (if a2 < 0 then 0 else a2) = Q := by rw [hQ]; split <;> omega
    obtain ⟨I, hI⟩ : ∃ I : Int, I = (i : Int) := ⟨_, rfl⟩
    obtain ⟨K, hK⟩ : ∃ K : Int, K = (k : Int) := ⟨_, rfl⟩
    have hPI : P.tmod (ys.length : Int) = I := by
      rw [Int.tmod_eq_emod_of_nonneg (by omega), hI, hi, ← hP, Int.natCast_emod, Int.toNat_of_nonneg (by omega)]
    have hQK : Q.tmod (ys.length : Int) = K := by
      rw [Int.tmod_eq_emod_of_nonneg (by omega), hK, hk, ← hQ, Int.natCast_emod, Int.toNat_of_nonneg (by omega)]
    have HI := Aside0.mk hI
    have HK := Aside0.mk hK
    clear hP hQ hi hk hI hK
    go_upto_region 5 with (go_at_call 9; go_loud (refine (wakes_calls _ (HT.out.below HT.out.pos HB.out)).mono ?_; rintro e w' ⟨rfl, hb⟩; have n0 := Aside0.mk (below_step HB.out hb); have x0 := Aside0.mk (Kd.R_below HX.out hb); clear HB HX hb; have HB := n0; have HX := x0; clear n0 x0))
    go_quiet (fail)
    have n0 := Aside0.mk (pw_below_drewN HB.out nq)
    have x0 := Aside0.mk (Kd.R_drewN HX.out nq)
    generalize World.drewN _ nq = wq at n0 x0 ⊢
    clear HB HX
    have HB := n0
    have HX := x0
    clear n0 x0
    go_upto_region 7 with (first
      | ((with_reducible refine gate_builtin (b := .append) (xs := #[.const (.slice none 0 0), .tmp 35]) rfl ?_); at_builtin; go_loud (refine Kd.R_append_row (Value.int .u32) (0 : Int) (h1 := fun _ => rfl) (w0 := w) w.heap.size rfl _ _ 22 28 (.int .u32 0) 4 rfl Tryd.underlying22 info28 rfl (by decide) (.slice none 0 0) [] ys _ ys.length _ (fun _ => True) rfl rfl (fun _ _ => trivial) (Kd.R_nil _ _ _ _ _) (Kd.R_reads' HX.out).2.2 HB.out HB.out.size (by simp; omega) ?_; intro v1 w1 ho hb hg hat; rw [List.nil_append] at ho; obtain ⟨g, c2, rfl, hg1, hg2, _⟩ := Kd.R_form ho (by omega); have hgq : wq.heap.size ≤ g := (by rcases hat with e | ⟨b, e, hbb⟩ <;> simp [Value.ownBlock] at e; omega); have x1 := Aside0.mk (Kd.R_mono (Kd.R_grown (Kd.R_bound HX.out) hg (fun k _ => by simp [Value.ownBlock])) (ok' := fun k => k ≠ g) (fun k hk => by have := hk.2.2.1; omega)); have HZ := Aside0.mk ho; have n0 := Aside0.mk hb; clear HB HX ho hb hg hat; have HB := n0; have HX := x1; clear n0 x1)))
    have hI0 : 0 ≤ I := by rw [HI.out]; omega
    have hI1 : I < (ys.length : Int) := by rw [HI.out]; omega
    have hK0 : 0 ≤ K := by rw [HK.out]; omega
    have hK32 : K ≤ 32 := by rw [HK.out]; omega
    obtain ⟨hxc, hfc⟩ := Kd.R_celln 0 HZ.out I hI0 hI1
    have e1 : rdOf (0 : Int) ys I = ((mk ys i : Nat) : Int) := by rw [HI.out, mk_cast hu i]; exact rd_nat ys i
    rw [e1] at hxc
    obtain ⟨Y, hY⟩ : ∃ Y : Int, Y = ((mk ys i : Nat) : Int) := ⟨_, rfl⟩
    rw [← hY] at hxc
    have hshl := shl_one k (by omega)
    rw [← HK.out] at hshl
    obtain ⟨S, hS⟩ : ∃ S : Int, S = ((2 ^ k : Nat) : Int) := ⟨_, rfl⟩
    rw [← hS] at hshl
    obtain ⟨Z, hZ⟩ : ∃ Z : Int, Z = ((mk ys i ||| 2 ^ k : Nat) : Int) := ⟨_, rfl⟩
    have hor : bits .or .u32 Y S = Z := by rw [hY, hS, hZ]; exact or_nat _ _ (mk_lt hu i) (Nat.pow_lt_pow_right (by decide) (by omega))
    have hs1 : IntKind.u32.wrap (1 * 2 ^ min K.toNat 32) = S := hshl
    have hs2 : IntKind.u32.wrap (1 * 2 ^ K.toNat) = S := shl_small hshl hK32
    have hs3 : IntKind.u32.wrap (2 ^ min K.toNat 32) = S := by have h_ := hs1; rw [Int.one_mul] at h_; exact h_
    have hs4 : IntKind.u32.wrap (2 ^ K.toNat) = S := by have h_ := hs2; rw [Int.one_mul] at h_; exact h_
    have hs5 : (2 : Int) ^ K.toNat % 4294967296 = S := hs4
    have HPt := Kd.R_putg HZ.out I Z
    have hset : ys.set I.toNat Z = moreL ys i k := by rw [HI.out, hZ, Int.toNat_natCast]; rfl
    rw [hset] at HPt
    replace hI0 := eq_true hI0
    replace hI1 := eq_true hI1
    replace hK0 := eq_true hK0
    clear e1 hY hS hZ hset hshl
    go_still_tail 8, (by kernel_rfl)
    change wpList _ _ _ _ _ w1.drew
    have hxX' : w1.drew.cell? ⟨g, I.toNat, none⟩ = some (.int .u32 Y) := hxc
    have hfX' : w1.drew.frozen? ⟨g, I.toNat, none⟩ = false := hfc
    have HP1 : (Kd.int .u32).R 28 (w1.drew.setCell ⟨g, I.toNat, none⟩ (.int .u32 Z)) w.heap.size (fun _ => True) (.slice (some ⟨g, 0, none⟩) ys.length c2) (moreL ys i k) := Kd.R_step HPt.1 (fun k _ _ => rfl)
    have HP2 : w1.grownBy (w1.drew.setCell ⟨g, I.toNat, none⟩ (.int .u32 Z)) (some g) := ⟨HPt.2.os, HPt.2.tape, HPt.2.output, HPt.2.size, HPt.2.block⟩
    clear hxc hfc HPt
    generalize w1.drew = wd at hxX' hfX' HP1 HP2 ⊢
    have HP1' := Aside0.mk HP1
    have HP2' := Aside0.mk HP2
    clear HP1 HP2
    go_upto_region 8 with (first | ((with_reducible refine gate_store (t := 28) (p := 44) rfl ?_); go_loud (refine store_event (t := 28) (p := 44) (v := ?vo3) (w1 := (wd.setCell ⟨g, I.toNat, none⟩ (.int .u32 Z))) ?hg3 ?ho3 ?hn3 ?hr3 ?_; (case ho3 => rfl); (case hg3 => rfl); (case hn3 => rfl); (case hr3 => first | (go_simp; done) | (go_simp; rfl)); intro w15 hw; rw [← hw] at HP1' HP2'; clear hw)))
    have HX2 : Aside0 ((Kd.int .u32).R 28 w15 w.heap.size (fun _ => True) (.slice A1 ys.length c1) ys) := Aside0.mk (Kd.R_mono (Kd.R_grown HX.out HP2'.out (fun k hk => by simpa using hk)) (fun _ _ => trivial))
    have HB2 : Aside0 (Below w.heap.size w w15) := Aside0.mk (HB.out.grown HP2'.out HB.out.size (fun k e => by cases e; exact hg1))
    clear HX HB HZ HP2' hxX' hfX' hs1 hs2 hs3 hs4 hs5 hor
    obtain ⟨zs, hzs⟩ : ∃ zs, zs = moreL ys i k := ⟨_, rfl⟩
    rw [← hzs] at HP1'
    have Hz := Aside0.mk hzs
    have hzl : zs.length = ys.length := by rw [hzs, moreL_len]
    have hzu : U32 zs := by rw [hzs]; exact moreL_u32 hu i k (by omega)
    have HDy : Aside0 (∀ W, Kd.R (Kd.int .u32) 28 W w.heap.size (fun _ => True) (.slice A1 ys.length c1) ys → Tab W → Calls Tryd.prog 13 #[.slice A1 ys.length c1] W fun e w' => ∃ v, e = .returned v ∧ Kd.R (Kd.int .i64) 3 w' W.heap.size (fun _ => True) v (depL ys) ∧ Below W.heap.size W w') := Aside0.mk (fun W hW hTW =>
      depths_calls ys hu A1 c1 W (Kd.R_reads' hW).2.2 (Kd.R_reads' hW).2.1 hTW)
    have HDz : Aside0 (∀ W, Kd.R (Kd.int .u32) 28 W w.heap.size (fun _ => True) (.slice (some ⟨g, 0, none⟩) ys.length c2) zs → Tab W → Calls Tryd.prog 13 #[.slice (some ⟨g, 0, none⟩) ys.length c2] W fun e w' => ∃ v, e = .returned v ∧ Kd.R (Kd.int .i64) 3 w' W.heap.size (fun _ => True) v (depL zs) ∧ Below W.heap.size W w') := Aside0.mk (fun W hW hTW => by
      rw [← hzl] at hW ⊢
      exact depths_calls zs hzu _ c2 W (Kd.R_reads' hW).2.2 (Kd.R_reads' hW).2.1 hTW)
    have hly : (depL ys).length = ys.length := by rw [depL_len, HN.out]
    have hlz : (depL zs).length = ys.length := by rw [depL_len]; unfold nn; omega
    have HLy := Aside0.mk hly
    have HLz := Aside0.mk hlz
    have HUz := Aside0.mk hzu
    have HLL := Aside0.mk hzl
    clear hzs hzu hly hlz hzl
    go_upto_region 12 with (first
      | (go_at_call 13; (with_reducible refine (HDy.out _ HX2.out (HT.out.below HT.out.pos HB2.out)).mono ?_); go_loud (rintro e w' ⟨v3, rfl, ho, hb⟩; obtain ⟨A3, c3, rfl⟩ := Kd.R_slice ho; rw [HLy.out] at ho ⊢; have n0 := Aside0.mk (below_step HB2.out hb); have x1 := Aside0.mk (Kd.R_below HX2.out hb); have x2 := Aside0.mk (Kd.R_below HP1'.out hb); have HA := Aside0.mk (Kd.R_lower ho HB2.out.size); clear HB2 HX2 HP1' ho hb; have HB2 := n0; have HX2 := x1; have HP1' := x2; clear n0 x1 x2))
      | (go_at_call 13; (with_reducible refine (HDz.out _ HP1'.out (HT.out.below HT.out.pos HB2.out)).mono ?_); go_loud (rintro e w' ⟨v4, rfl, ho, hb⟩; obtain ⟨A4, c4, rfl⟩ := Kd.R_slice ho; rw [HLz.out] at ho ⊢; have n0 := Aside0.mk (below_step HB2.out hb); have x1 := Aside0.mk (Kd.R_below HX2.out hb); have x2 := Aside0.mk (Kd.R_below HP1'.out hb); have x3 := Aside0.mk (Kd.R_below HA.out hb); have HD := Aside0.mk (Kd.R_lower ho HB2.out.size); clear HB2 HX2 HP1' HA ho hb; have HB2 := n0; have HX2 := x1; have HP1' := x2; have HA := x3; clear n0 x1 x2 x3)))
    go_loopw [60] (fun v60 wr => ∃ (p : Int) (j : Nat), v60 = .int .i64 p ∧ Aside0 (p = (j : Int)) ∧ j ≤ ys.length ∧ Aside0 (Below w.heap.size w wr) ∧ Aside0 (Kd.R (Kd.int .u32) 28 wr w.heap.size (fun _ => True) (.slice A1 ys.length c1) ys) ∧ Aside0 (Kd.R (Kd.int .u32) 28 wr w.heap.size (fun _ => True) (.slice (some ⟨g, 0, none⟩) ys.length c2) zs) ∧ Aside0 (Kd.R (Kd.int .i64) 3 wr w.heap.size (fun _ => True) (.slice A3 ys.length c3) (depL ys)) ∧ Aside0 (Kd.R (Kd.int .i64) 3 wr w.heap.size (fun _ => True) (.slice A4 ys.length c4) (depL zs))) (fun v60 _ => ys.length - (intOf v60).toNat)
    case atStart => exact ⟨_, 0, rfl, Aside0.mk rfl, by omega, HB2, HX2, HP1', HA, HD⟩
    case round =>
      clear HB2 HX2 HP1' HA HD
      obtain ⟨p, j, rfl, HP, hj, HB, HX, HZ, HA, HD⟩ := hrel
      by_cases hin : j < ys.length
      · have hlt : decide (p < (ys.length : Int)) = true := decide_eq_true (by rw [HP.out]; omega)
        have hp0 : 0 ≤ p := by rw [HP.out]; omega
        have hp1 : p < (ys.length : Int) := by rw [HP.out]; omega
        have HW : Aside0 (wrap64 (p + 1) = ((j + 1 : Nat) : Int)) := Aside0.mk (by rw [HP.out, wrap_succ j (by omega)])
        obtain ⟨ada, e, hxa⟩ := Kd.at_int (Kd.R_reads' HA.out).2.2 p hp0 (by rw [HLy.out]; exact hp1)
        cases e
        obtain ⟨adb, e, hxb⟩ := Kd.at_int (Kd.R_reads' HD.out).2.2 p hp0 (by rw [HLz.out]; exact hp1)
        cases e
        have hjN : j < nn ys := by rw [HN.out]; exact hin
        have e1 : rd (depL ys) p = dOf ys j := by rw [HP.out]; exact dOf_at ys j hjN
        have e2 : rd (depL zs) p = dOf zs j := by rw [HP.out]; exact dOf_at zs j (by unfold nn; have := HLL.out; omega)
        rw [e1] at hxa
        rw [e2] at hxb
        have hmore : 0 ≤ dOf zs j → 0 ≤ dOf ys j ∧ dOf ys j ≤ dOf zs j := by rw [Hz.out]; exact more_dOf ys i k j hiN
        obtain ⟨Da, hDa⟩ : ∃ Da, Da = dOf ys j := ⟨_, rfl⟩
        obtain ⟨Db, hDb⟩ : ∃ Db, Db = dOf zs j := ⟨_, rfl⟩
        rw [← hDa] at hxa hmore
        rw [← hDb] at hxb hmore
        have hnot : bits .andNot .u32 (behV ys p) (behV zs p) = 0 := by rw [HP.out, Hz.out]; exact more_behN ys i k j hiN hjN
        have HBy : Aside0 (∀ W, Kd.R (Kd.int .u32) 28 W w.heap.size (fun _ => True) (.slice A1 ys.length c1) ys → Calls Tryd.prog 19 #[.slice A1 ys.length c1, .int .i64 p] W fun e w' => e = .returned (.int .u32 (behV ys p)) ∧ Below W.heap.size W w') := Aside0.mk (fun W hW =>
          behind_calls ys hu p A1 c1 W (Kd.R_reads' hW).2.2 (Kd.R_reads' hW).2.1)
        have HBz : Aside0 (∀ W, Kd.R (Kd.int .u32) 28 W w.heap.size (fun _ => True) (.slice (some ⟨g, 0, none⟩) ys.length c2) zs → Calls Tryd.prog 19 #[.slice (some ⟨g, 0, none⟩) ys.length c2, .int .i64 p] W fun e w' => e = .returned (.int .u32 (behV zs p)) ∧ Below W.heap.size W w') := Aside0.mk (fun W hW => by
          have hzl := HLL.out
          rw [← hzl] at hW ⊢
          exact behind_calls zs HUz.out p _ c2 W (Kd.R_reads' hW).2.2 (Kd.R_reads' hW).2.1)
        have K0 : (KeepsM w (ada.add p.toNat) (adb.add p.toNat) (.int .i64 Da) (.int .i64 Db) (.slice A1 ys.length c1) (.slice (some ⟨g, 0, none⟩) ys.length c2) (.slice (some ada) ys.length c3) (.slice (some adb) ys.length c4) ys zs (depL ys) (depL zs)) wr := ⟨hxa, hxb, HX.out, HZ.out, HA.out, HD.out, HB.out⟩
        clear HB HX HZ HA HD hxa hxb e1 e2 hDa hDb
        replace hp0 := eq_true hp0
        replace hp1 := eq_true hp1
        obtain ⟨F1, hF1⟩ : ∃ F1, F1 = behV ys p := ⟨_, rfl⟩
        obtain ⟨F2, hF2⟩ : ∃ F2, F2 = behV zs p := ⟨_, rfl⟩
        rw [← hF1] at hnot HBy
        rw [← hF2] at hnot HBz
        clear hF1 hF2
        go_upto_region 14 with (fail)
        by_cases hge : 0 ≤ Db
        · have hge1 : decide (0 ≤ Db) = true := decide_eq_true hge
          have hda : decide (Da < 0) = false := decide_eq_false (by have := (hmore hge).1; omega)
          have hdb : decide (Db < Da) = false := decide_eq_false (by have := (hmore hge).2; omega)
          clear hmore
          go_region_held3 (KeepsM w (ada.add p.toNat) (adb.add p.toNat) (.int .i64 Da) (.int .i64 Db) (.slice A1 ys.length c1) (.slice (some ⟨g, 0, none⟩) ys.length c2) (.slice (some ada) ys.length c3) (.slice (some adb) ys.length c4) ys zs (depL ys) (depL zs)) (first | exact KeepsM.drew (by assumption) | exact KeepsM.drewN (by assumption) _ | exact KeepsM.step (by assumption) (by assumption) | go_keep)
            (first
              | (go_at_call 19; with_reducible refine (HBy.out _ (And.left (And.right (And.right (by assumption : KeepsM w (ada.add p.toNat) (adb.add p.toNat) (.int .i64 Da) (.int .i64 Db) (.slice A1 ys.length c1) (.slice (some ⟨g, 0, none⟩) ys.length c2) (.slice (some ada) ys.length c3) (.slice (some adb) ys.length c4) ys zs (depL ys) (depL zs) _))))).mono ?_; rintro e w' ⟨rfl, hb⟩)
              | (go_at_call 19; with_reducible refine (HBz.out _ (And.left (And.right (And.right (And.right (by assumption : KeepsM w (ada.add p.toNat) (adb.add p.toNat) (.int .i64 Da) (.int .i64 Db) (.slice A1 ys.length c1) (.slice (some ⟨g, 0, none⟩) ys.length c2) (.slice (some ada) ys.length c3) (.slice (some adb) ys.length c4) ys zs (depL ys) (depL zs) _)))))).mono ?_; rintro e w' ⟨rfl, hb⟩))
          have KF := Aside0.mk (by assumption : KeepsM w (ada.add p.toNat) (adb.add p.toNat) (.int .i64 Da) (.int .i64 Db) (.slice A1 ys.length c1) (.slice (some ⟨g, 0, none⟩) ys.length c2) (.slice (some ada) ys.length c3) (.slice (some adb) ys.length c4) ys zs (depL ys) (depL zs) _)
          clear K0
          go_wp2
          go_roundw
          case rel => exact ⟨_, j + 1, rfl, HW, by omega, Aside0.mk KF.out.2.2.2.2.2.2, Aside0.mk KF.out.2.2.1, Aside0.mk KF.out.2.2.2.1, Aside0.mk KF.out.2.2.2.2.1, Aside0.mk KF.out.2.2.2.2.2.1⟩
          case measure => have := HW.out; simp [intOf, wrap64] at *; omega
        · have hge2 : (0 ≤ Db) = False := eq_false hge
          clear hmore hge
          refine wp_region_held_drew (S := (KeepsM w (ada.add p.toNat) (adb.add p.toNat) (.int .i64 Da) (.int .i64 Db) (.slice A1 ys.length c1) (.slice (some ⟨g, 0, none⟩) ys.length c2) (.slice (some ada) ys.length c3) (.slice (some adb) ys.length c4) ys zs (depL ys) (depL zs))) (by kernel_rfl) (KeepsM.drew K0) (fun hHeld => ?_)
          clear K0
          refine wpAnyH_take (i := 0) (oi := { dst := some 63, op := Op.move (Operand.tmp 10), type := 25, pos := "law.go:129", after := #[], guard := none }) (v := ?v0) rfl (by kernel_rfl) (by kernel_rfl) (by kernel_rfl) (fun _ _ _ h => h) (Or.inl ⟨by rfl, ?y0⟩) (by assumption) ?_
          case y0 => (intro w hSw; (try dsimp only at hSw); go_simp; try with_reducible rfl)
          (try simp only [Act.put, List.setIfInBounds_toArray, List.set_cons_zero, List.set_cons_succ])
          refine wpAnyH_take (i := 1) (oi := { dst := some 64, op := Op.move (Operand.tmp 11), type := 3, pos := "law.go:129", after := #[], guard := none }) (v := ?v1) rfl (by kernel_rfl) (by kernel_rfl) (by kernel_rfl) (fun _ _ _ h => h) (Or.inl ⟨by rfl, ?y1⟩) (by assumption) ?_
          case y1 => (intro w hSw; (try dsimp only at hSw); go_simp; try with_reducible rfl)
          (try simp only [Act.put, List.setIfInBounds_toArray, List.set_cons_zero, List.set_cons_succ])
          refine wpAnyH_take (i := 2) (oi := { dst := some 65, op := Op.indexAddr 25 (Operand.tmp 63) (Operand.tmp 64), type := 0, pos := "law.go:129", after := #[{ on := 0, ground := Ground.data }, { on := 1, ground := Ground.data }], guard := none }) (v := ?v2) rfl (by kernel_rfl) (by kernel_rfl) (by kernel_rfl) (fun _ _ _ h => h) (Or.inl ⟨by rfl, ?y2⟩) (by assumption) ?_
          case y2 => (intro w hSw; (try dsimp only at hSw); go_simp; try with_reducible rfl)
          (try simp only [Act.put, List.setIfInBounds_toArray, List.set_cons_zero, List.set_cons_succ])
          refine wpAnyH_take (i := 3) (oi := { dst := some 66, op := Op.load 3 (Operand.tmp 65), type := 3, pos := "law.go:129", after := #[{ on := 2, ground := Ground.data }], guard := none }) (v := ?v3) rfl (by kernel_rfl) (by kernel_rfl) (by kernel_rfl) (fun _ _ _ h => h) (Or.inl ⟨by rfl, ?y3⟩) (by assumption) ?_
          case y3 => (intro w hSw; (try dsimp only at hSw); go_simp; try with_reducible rfl)
          (try simp only [Act.put, List.setIfInBounds_toArray, List.set_cons_zero, List.set_cons_succ])
          refine wpAnyH_take (i := 4) (oi := { dst := some 67, op := Op.binOp BinOp.geq 3 (Operand.tmp 66) (Operand.const (Value.int IntKind.i64 0)) 3, type := 4, pos := "law.go:129", after := #[{ on := 3, ground := Ground.data }], guard := none }) (v := ?v4) rfl (by kernel_rfl) (by kernel_rfl) (by kernel_rfl) (fun _ _ _ h => h) (Or.inl ⟨by rfl, ?y4⟩) (by assumption) ?_
          case y4 => (intro w hSw; (try dsimp only at hSw); go_simp; try with_reducible rfl)
          (try simp only [Act.put, List.setIfInBounds_toArray, List.set_cons_zero, List.set_cons_succ])
          refine wpAnyH_take (i := 5) (oi := { dst := some 68, op := Op.move (Operand.tmp 67), type := 4, pos := "law.go:129", after := #[{ on := 4, ground := Ground.data }], guard := none }) (v := ?v5) rfl (by kernel_rfl) (by kernel_rfl) (by kernel_rfl) (fun _ _ _ h => h) (Or.inl ⟨by rfl, ?y5⟩) (by assumption) ?_
          case y5 => (intro w hSw; (try dsimp only at hSw); go_simp; try with_reducible rfl)
          (try simp only [Act.put, List.setIfInBounds_toArray, List.set_cons_zero, List.set_cons_succ])
          refine wpAnyH_take (i := 6) (oi := { dst := some 69, op := Op.move (Operand.tmp 9), type := 25, pos := "law.go:129", after := #[{ on := 5, ground := Ground.guard }], guard := some (5, true) }) (v := undef) rfl (by kernel_rfl) (by kernel_rfl) (by kernel_rfl) (fun _ _ _ h => h) (Or.inr ⟨by rfl, rfl⟩) (by assumption) ?_
          (try simp only [Act.put, List.setIfInBounds_toArray, List.set_cons_zero, List.set_cons_succ])
          refine wpAnyH_take (i := 7) (oi := { dst := some 70, op := Op.move (Operand.tmp 11), type := 3, pos := "law.go:129", after := #[{ on := 5, ground := Ground.guard }], guard := some (5, true) }) (v := undef) rfl (by kernel_rfl) (by kernel_rfl) (by kernel_rfl) (fun _ _ _ h => h) (Or.inr ⟨by rfl, rfl⟩) (by assumption) ?_
          (try simp only [Act.put, List.setIfInBounds_toArray, List.set_cons_zero, List.set_cons_succ])
          refine wpAnyH_take (i := 8) (oi := { dst := some 71, op := Op.indexAddr 25 (Operand.tmp 69) (Operand.tmp 70), type := 0, pos := "law.go:129", after := #[{ on := 6, ground := Ground.data }, { on := 7, ground := Ground.data }, { on := 5, ground := Ground.guard }], guard := some (5, true) }) (v := undef) rfl (by kernel_rfl) (by kernel_rfl) (by kernel_rfl) (fun _ _ _ h => h) (Or.inr ⟨by rfl, rfl⟩) (by assumption) ?_
          (try simp only [Act.put, List.setIfInBounds_toArray, List.set_cons_zero, List.set_cons_succ])
          refine wpAnyH_take (i := 9) (oi := { dst := some 72, op := Op.load 3 (Operand.tmp 71), type := 3, pos := "law.go:129", after := #[{ on := 8, ground := Ground.data }, { on := 5, ground := Ground.guard }], guard := some (5, true) }) (v := undef) rfl (by kernel_rfl) (by kernel_rfl) (by kernel_rfl) (fun _ _ _ h => h) (Or.inr ⟨by rfl, rfl⟩) (by assumption) ?_
          (try simp only [Act.put, List.setIfInBounds_toArray, List.set_cons_zero, List.set_cons_succ])
          refine wpAnyH_take (i := 10) (oi := { dst := some 73, op := Op.binOp BinOp.lss 3 (Operand.tmp 72) (Operand.const (Value.int IntKind.i64 0)) 3, type := 4, pos := "law.go:129", after := #[{ on := 9, ground := Ground.data }, { on := 5, ground := Ground.guard }], guard := some (5, true) }) (v := undef) rfl (by kernel_rfl) (by kernel_rfl) (by kernel_rfl) (fun _ _ _ h => h) (Or.inr ⟨by rfl, rfl⟩) (by assumption) ?_
          (try simp only [Act.put, List.setIfInBounds_toArray, List.set_cons_zero, List.set_cons_succ])
          refine wpAnyH_take (i := 11) (oi := { dst := some 74, op := Op.move (Operand.tmp 73), type := 4, pos := "law.go:129", after := #[{ on := 10, ground := Ground.data }, { on := 5, ground := Ground.chain }, { on := 5, ground := Ground.guard }], guard := some (5, true) }) (v := undef) rfl (by kernel_rfl) (by kernel_rfl) (by kernel_rfl) (fun _ _ _ h => h) (Or.inr ⟨by rfl, rfl⟩) (by assumption) ?_
          (try simp only [Act.put, List.setIfInBounds_toArray, List.set_cons_zero, List.set_cons_succ])
          refine wpAnyH_take (i := 12) (oi := { dst := some 75, op := Op.move (Operand.tmp 10), type := 25, pos := "law.go:129", after := #[{ on := 11, ground := Ground.guard }], guard := some (11, false) }) (v := undef) rfl (by kernel_rfl) (by kernel_rfl) (by kernel_rfl) (fun _ _ _ h => h) (Or.inr ⟨by rfl, rfl⟩) (by assumption) ?_
          (try simp only [Act.put, List.setIfInBounds_toArray, List.set_cons_zero, List.set_cons_succ])
          refine wpAnyH_take (i := 13) (oi := { dst := some 76, op := Op.move (Operand.tmp 11), type := 3, pos := "law.go:129", after := #[{ on := 11, ground := Ground.guard }], guard := some (11, false) }) (v := undef) rfl (by kernel_rfl) (by kernel_rfl) (by kernel_rfl) (fun _ _ _ h => h) (Or.inr ⟨by rfl, rfl⟩) (by assumption) ?_
          (try simp only [Act.put, List.setIfInBounds_toArray, List.set_cons_zero, List.set_cons_succ])
          refine wpAnyH_take (i := 14) (oi := { dst := some 77, op := Op.indexAddr 25 (Operand.tmp 75) (Operand.tmp 76), type := 0, pos := "law.go:129", after := #[{ on := 12, ground := Ground.data }, { on := 13, ground := Ground.data }, { on := 11, ground := Ground.guard }], guard := some (11, false) }) (v := undef) rfl (by kernel_rfl) (by kernel_rfl) (by kernel_rfl) (fun _ _ _ h => h) (Or.inr ⟨by rfl, rfl⟩) (by assumption) ?_
          (try simp only [Act.put, List.setIfInBounds_toArray, List.set_cons_zero, List.set_cons_succ])
          refine wpAnyH_take (i := 15) (oi := { dst := some 78, op := Op.load 3 (Operand.tmp 77), type := 3, pos := "law.go:129", after := #[{ on := 14, ground := Ground.data }, { on := 11, ground := Ground.guard }], guard := some (11, false) }) (v := undef) rfl (by kernel_rfl) (by kernel_rfl) (by kernel_rfl) (fun _ _ _ h => h) (Or.inr ⟨by rfl, rfl⟩) (by assumption) ?_
          (try simp only [Act.put, List.setIfInBounds_toArray, List.set_cons_zero, List.set_cons_succ])
          refine wpAnyH_take (i := 16) (oi := { dst := some 79, op := Op.move (Operand.tmp 9), type := 25, pos := "law.go:129", after := #[{ on := 11, ground := Ground.guard }], guard := some (11, false) }) (v := undef) rfl (by kernel_rfl) (by kernel_rfl) (by kernel_rfl) (fun _ _ _ h => h) (Or.inr ⟨by rfl, rfl⟩) (by assumption) ?_
          (try simp only [Act.put, List.setIfInBounds_toArray, List.set_cons_zero, List.set_cons_succ])
          refine wpAnyH_take (i := 17) (oi := { dst := some 80, op := Op.move (Operand.tmp 11), type := 3, pos := "law.go:129", after := #[{ on := 11, ground := Ground.guard }], guard := some (11, false) }) (v := undef) rfl (by kernel_rfl) (by kernel_rfl) (by kernel_rfl) (fun _ _ _ h => h) (Or.inr ⟨by rfl, rfl⟩) (by assumption) ?_
          (try simp only [Act.put, List.setIfInBounds_toArray, List.set_cons_zero, List.set_cons_succ])
          refine wpAnyH_take (i := 18) (oi := { dst := some 81, op := Op.indexAddr 25 (Operand.tmp 79) (Operand.tmp 80), type := 0, pos := "law.go:129", after := #[{ on := 16, ground := Ground.data }, { on := 17, ground := Ground.data }, { on := 11, ground := Ground.guard }], guard := some (11, false) }) (v := undef) rfl (by kernel_rfl) (by kernel_rfl) (by kernel_rfl) (fun _ _ _ h => h) (Or.inr ⟨by rfl, rfl⟩) (by assumption) ?_
          (try simp only [Act.put, List.setIfInBounds_toArray, List.set_cons_zero, List.set_cons_succ])
          refine wpAnyH_take (i := 19) (oi := { dst := some 82, op := Op.load 3 (Operand.tmp 81), type := 3, pos := "law.go:129", after := #[{ on := 18, ground := Ground.data }, { on := 11, ground := Ground.guard }], guard := some (11, false) }) (v := undef) rfl (by kernel_rfl) (by kernel_rfl) (by kernel_rfl) (fun _ _ _ h => h) (Or.inr ⟨by rfl, rfl⟩) (by assumption) ?_
          (try simp only [Act.put, List.setIfInBounds_toArray, List.set_cons_zero, List.set_cons_succ])
          refine wpAnyH_take (i := 20) (oi := { dst := some 83, op := Op.binOp BinOp.lss 3 (Operand.tmp 78) (Operand.tmp 82) 3, type := 4, pos := "law.go:129", after := #[{ on := 15, ground := Ground.data }, { on := 19, ground := Ground.data }, { on := 11, ground := Ground.guard }], guard := some (11, false) }) (v := undef) rfl (by kernel_rfl) (by kernel_rfl) (by kernel_rfl) (fun _ _ _ h => h) (Or.inr ⟨by rfl, rfl⟩) (by assumption) ?_
          (try simp only [Act.put, List.setIfInBounds_toArray, List.set_cons_zero, List.set_cons_succ])
          refine wpAnyH_take (i := 21) (oi := { dst := some 84, op := Op.pick (Operand.tmp 74) (Operand.const (Value.bool true)) (Operand.tmp 83), type := 4, pos := "law.go:129", after := #[{ on := 11, ground := Ground.data }, { on := 20, ground := Ground.data }, { on := 5, ground := Ground.guard }], guard := some (5, true) }) (v := undef) rfl (by kernel_rfl) (by kernel_rfl) (by kernel_rfl) (fun _ _ _ h => h) (Or.inr ⟨by rfl, rfl⟩) (by assumption) ?_
          (try simp only [Act.put, List.setIfInBounds_toArray, List.set_cons_zero, List.set_cons_succ])
          refine wpAnyH_take (i := 22) (oi := { dst := some 85, op := Op.pick (Operand.tmp 68) (Operand.tmp 84) (Operand.const (Value.bool false)), type := 4, pos := "law.go:129", after := #[{ on := 5, ground := Ground.data }, { on := 21, ground := Ground.data }], guard := none }) (v := ?v22) rfl (by kernel_rfl) (by kernel_rfl) (by kernel_rfl) (fun _ _ _ h => h) (Or.inl ⟨by rfl, ?y22⟩) (by assumption) ?_
          case y22 => (intro w hSw; (try dsimp only at hSw); go_simp; try with_reducible rfl)
          (try simp only [Act.put, List.setIfInBounds_toArray, List.set_cons_zero, List.set_cons_succ])
          refine wpAnyH_take (i := 23) (oi := { dst := some 86, op := Op.move (Operand.tmp 85), type := 4, pos := "law.go:129", after := #[{ on := 22, ground := Ground.data }, { on := 11, ground := Ground.chain }], guard := none }) (v := ?v23) rfl (by kernel_rfl) (by kernel_rfl) (by kernel_rfl) (fun _ _ _ h => h) (Or.inl ⟨by rfl, ?y23⟩) (by assumption) ?_
          case y23 => (intro w hSw; (try dsimp only at hSw); go_simp; try with_reducible rfl)
          (try simp only [Act.put, List.setIfInBounds_toArray, List.set_cons_zero, List.set_cons_succ])
          refine wpAnyH_take (i := 24) (oi := { dst := some 87, op := Op.move (Operand.tmp 0), type := 22, pos := "law.go:129", after := #[{ on := 23, ground := Ground.guard }], guard := some (23, false) }) (v := ?v24) rfl (by kernel_rfl) (by kernel_rfl) (by kernel_rfl) (fun _ _ _ h => h) (Or.inl ⟨by rfl, ?y24⟩) (by assumption) ?_
          case y24 => (intro w hSw; (try dsimp only at hSw); go_simp; try with_reducible rfl)
          (try simp only [Act.put, List.setIfInBounds_toArray, List.set_cons_zero, List.set_cons_succ])
          refine wpAnyH_take (i := 25) (oi := { dst := some 88, op := Op.move (Operand.tmp 11), type := 3, pos := "law.go:129", after := #[{ on := 23, ground := Ground.guard }], guard := some (23, false) }) (v := ?v25) rfl (by kernel_rfl) (by kernel_rfl) (by kernel_rfl) (fun _ _ _ h => h) (Or.inl ⟨by rfl, ?y25⟩) (by assumption) ?_
          case y25 => (intro w hSw; (try dsimp only at hSw); go_simp; try with_reducible rfl)
          (try simp only [Act.put, List.setIfInBounds_toArray, List.set_cons_zero, List.set_cons_succ])
          refine wpAnyH_take (i := 27) (oi := { dst := some 90, op := Op.move (Operand.tmp 8), type := 22, pos := "law.go:129", after := #[{ on := 23, ground := Ground.guard }], guard := some (23, false) }) (v := ?v27) rfl (by kernel_rfl) (by kernel_rfl) (by kernel_rfl) (fun _ _ _ h => h) (Or.inl ⟨by rfl, ?y27⟩) (by assumption) ?_
          case y27 => (intro w hSw; (try dsimp only at hSw); go_simp; try with_reducible rfl)
          (try simp only [Act.put, List.setIfInBounds_toArray, List.set_cons_zero, List.set_cons_succ])
          refine wpAnyH_take (i := 28) (oi := { dst := some 91, op := Op.move (Operand.tmp 11), type := 3, pos := "law.go:129", after := #[{ on := 23, ground := Ground.guard }], guard := some (23, false) }) (v := ?v28) rfl (by kernel_rfl) (by kernel_rfl) (by kernel_rfl) (fun _ _ _ h => h) (Or.inl ⟨by rfl, ?y28⟩) (by assumption) ?_
          case y28 => (intro w hSw; (try dsimp only at hSw); go_simp; try with_reducible rfl)
          (try simp only [Act.put, List.setIfInBounds_toArray, List.set_cons_zero, List.set_cons_succ])
          refine wpAnyH_ready (rs := [26]) (by kernel_rfl) (by simp) ?_
          refine AllReadyH.cons (o := { dst := some 89, op := Op.call { callee := Callee.value (Operand.func 19), args := #[Operand.tmp 87, Operand.tmp 88], argTypes := #[22, 3] }, type := 28, pos := "law.go:129", after := #[{ on := 24, ground := Ground.data }, { on := 25, ground := Ground.data }, { on := 23, ground := Ground.chain }, { on := 23, ground := Ground.guard }], guard := some (23, false) }) rfl (fun K hK => ?_) AllReadyH.nil
          (first | ((go_at_call 19; (with_reducible refine (HBy.out _ (And.left (And.right (And.right hHeld)))).mono ?_); rintro e w' ⟨rfl, hb⟩)) | (go_simp; (go_at_call 19; (with_reducible refine (HBy.out _ (And.left (And.right (And.right hHeld)))).mono ?_); rintro e w' ⟨rfl, hb⟩)))
          refine hK.out _ _ (KeepsM.step hHeld hb) (fun hHeld2 => ?_)
          clear hK K hHeld hb
          have hHeld := hHeld2
          clear hHeld2
          (try simp only [Act.put, List.setIfInBounds_toArray, List.set_cons_zero, List.set_cons_succ])
          refine wpAnyH_ready (rs := [29]) (by kernel_rfl) (by simp) ?_
          refine AllReadyH.cons (o := { dst := some 92, op := Op.call { callee := Callee.value (Operand.func 19), args := #[Operand.tmp 90, Operand.tmp 91], argTypes := #[22, 3] }, type := 28, pos := "law.go:129", after := #[{ on := 27, ground := Ground.data }, { on := 28, ground := Ground.data }, { on := 26, ground := Ground.chain }, { on := 23, ground := Ground.guard }], guard := some (23, false) }) rfl (fun K hK => ?_) AllReadyH.nil
          (first | ((go_at_call 19; (with_reducible refine (HBz.out _ (And.left (And.right (And.right (And.right hHeld))))).mono ?_); rintro e w' ⟨rfl, hb⟩)) | (go_simp; (go_at_call 19; (with_reducible refine (HBz.out _ (And.left (And.right (And.right (And.right hHeld))))).mono ?_); rintro e w' ⟨rfl, hb⟩)))
          refine hK.out _ _ (KeepsM.step hHeld hb) (fun hHeld2 => ?_)
          clear hK K hHeld hb
          have hHeld := hHeld2
          clear hHeld2
          (try simp only [Act.put, List.setIfInBounds_toArray, List.set_cons_zero, List.set_cons_succ])
          refine wpAnyH_take (i := 30) (oi := { dst := some 93, op := Op.binOp BinOp.andNot 28 (Operand.tmp 89) (Operand.tmp 92) 28, type := 28, pos := "law.go:129", after := #[{ on := 26, ground := Ground.data }, { on := 29, ground := Ground.data }, { on := 23, ground := Ground.guard }], guard := some (23, false) }) (v := ?v30) rfl (by kernel_rfl) (by kernel_rfl) (by kernel_rfl) (fun _ _ _ h => h) (Or.inl ⟨by rfl, ?y30⟩) (by assumption) ?_
          case y30 => (intro w hSw; (try dsimp only at hSw); go_simp; try with_reducible rfl)
          (try simp only [Act.put, List.setIfInBounds_toArray, List.set_cons_zero, List.set_cons_succ])
          refine wpAnyH_take (i := 31) (oi := { dst := some 94, op := Op.binOp BinOp.neq 28 (Operand.tmp 93) (Operand.const (Value.int IntKind.u32 0)) 28, type := 4, pos := "law.go:129", after := #[{ on := 30, ground := Ground.data }, { on := 23, ground := Ground.guard }], guard := some (23, false) }) (v := ?v31) rfl (by kernel_rfl) (by kernel_rfl) (by kernel_rfl) (fun _ _ _ h => h) (Or.inl ⟨by rfl, ?y31⟩) (by assumption) ?_
          case y31 => (intro w hSw; (try dsimp only at hSw); go_simp; try with_reducible rfl)
          (try simp only [Act.put, List.setIfInBounds_toArray, List.set_cons_zero, List.set_cons_succ])
          refine wpAnyH_take (i := 32) (oi := { dst := some 95, op := Op.pick (Operand.tmp 86) (Operand.const (Value.bool true)) (Operand.tmp 94), type := 4, pos := "law.go:129", after := #[{ on := 23, ground := Ground.data }, { on := 31, ground := Ground.data }], guard := none }) (v := ?v32) rfl (by kernel_rfl) (by kernel_rfl) (by kernel_rfl) (fun _ _ _ h => h) (Or.inl ⟨by rfl, ?y32⟩) (by assumption) ?_
          case y32 => (intro w hSw; (try dsimp only at hSw); go_simp; try with_reducible rfl)
          (try simp only [Act.put, List.setIfInBounds_toArray, List.set_cons_zero, List.set_cons_succ])
          refine wpAnyH_done (by kernel_rfl) ?_ _
          have KF := Aside0.mk hHeld
          clear hHeld
          go_wp2
          go_roundw
          case rel => exact ⟨_, j + 1, rfl, HW, by omega, Aside0.mk KF.out.2.2.2.2.2.2, Aside0.mk KF.out.2.2.1, Aside0.mk KF.out.2.2.2.1, Aside0.mk KF.out.2.2.2.2.1, Aside0.mk KF.out.2.2.2.2.2.1⟩
          case measure => have := HW.out; simp [intOf, wrap64] at *; omega
      · have hlt : decide (p < (ys.length : Int)) = false := decide_eq_false (by rw [HP.out]; omega)
        have hkz : k < nn zs := by unfold nn; have := HLL.out; omega
        have hbk : behV zs K = ((behN zs k : Nat) : Int) := by rw [HK.out]; exact behV_nat zs k hkz
        have HBk : Aside0 (∀ W, Kd.R (Kd.int .u32) 28 W w.heap.size (fun _ => True) (.slice (some ⟨g, 0, none⟩) ys.length c2) zs → Calls Tryd.prog 19 #[.slice (some ⟨g, 0, none⟩) ys.length c2, .int .i64 K] W fun e w' => e = .returned (.int .u32 ((behN zs k : Nat) : Int)) ∧ Below W.heap.size W w') := Aside0.mk (fun W hW => by
          have hzl := HLL.out
          rw [← hzl] at hW ⊢
          have := behind_calls zs HUz.out K _ c2 W (Kd.R_reads' hW).2.2 (Kd.R_reads' hW).2.1
          rwa [hbk] at this)
        have hbit : (behN zs k).testBit i = true := by rw [Hz.out]; exact more_last ys i k (by rw [HN.out]; exact hiN) (by rw [HN.out]; exact hkN) hiN
        have hb32 : behN zs k < 2 ^ 32 := num_lt32 _ (nn_le _)
        obtain ⟨T, hT⟩ : ∃ T : Int, T = ((behN zs k / 2 ^ i : Nat) : Int) := ⟨_, rfl⟩
        have hand : bits .and .u32 T 1 = 1 := by
          have h1 : behN zs k / 2 ^ i < 2 ^ 32 := Nat.lt_of_le_of_lt (Nat.div_le_self _ _) hb32
          have e := and_nat (behN zs k / 2 ^ i) 1 h1 (by decide)
          rw [show ((1 : Nat) : Int) = (1 : Int) from rfl] at e
          rw [hT, e, Nat.and_one_is_mod]
          have h2 : (behN zs k).testBit i = (behN zs k / 2 ^ i).testBit 0 := by rw [Nat.testBit_div_two_pow, Nat.zero_add]
          rw [h2, Nat.testBit_zero, decide_eq_true_eq] at hbit
          omega
        have hsh : shr .u32 ((behN zs k : Nat) : Int) I = T := by rw [HI.out, hT]; exact shr_nat _ _ (by omega)
        have hI32 : I ≤ 32 := by rw [HI.out]; omega
        obtain ⟨B, hB⟩ : ∃ B : Int, B = ((behN zs k : Nat) : Int) := ⟨_, rfl⟩
        rw [← hB] at HBk hsh
        have hq1 : B / 2 ^ min I.toNat 32 = T := hsh
        have hq2 : B / 2 ^ I.toNat = T := by rw [← hq1, Nat.min_eq_left (by omega)]
        clear hT hB hbit hb32 hbk hkz hsh
        go_wp2_with (go_at_call 19; (with_reducible refine (HBk.out _ HZ.out).mono ?_); rintro e w' ⟨rfl, hb⟩; have n0 := Aside0.mk (below_step HB.out hb); clear HB; have HB := n0; clear n0)
        go_ret
        exact ⟨rfl, HB.out⟩
end Go.Proofs.YtfkljcnkghakaaaDoor.Masks
