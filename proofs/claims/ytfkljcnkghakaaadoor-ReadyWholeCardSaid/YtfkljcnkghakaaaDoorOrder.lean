/- The walk of ready.Order: a slice of the call's own that holds the nodes in order. Conditions: the table deBruijn32tab holds its numbers; the masks are numbers of 32 bits. -/
import Derived.Test.YtfkljcnkghakaaaDoorList
namespace Go.Proofs.YtfkljcnkghakaaaDoor.Masks
open Go.RowKit Go.Proofs.YtfkljcnkghakaaaDoor.PReadyOrders Go.Proofs.YtfkljcnkghakaaaDoorW.PrintWords Go.Proofs.YtfkljcnkghakaaaDoorW.PrintLast Go.Proofs.YtfkljcnkghakaaaDoorW.PrintMore
attribute [local go_sem] max2_int min2_int
set_option linter.unusedVariables false

theorem list_calls (m : Nat) (hm : m < 4294967296) (w : World) (hT : Tab w) :
    Calls Tryd.prog 17 #[.int .u32 m] w fun e w' => ∃ v, e = .returned v ∧ Kd.R (Kd.int .i64) 3 w' w.heap.size (fun _ => True) v (natsOf (bitsOf m)) ∧ Below w.heap.size w w' :=
  ((callsIn_wide (n := 3)).1 (list_in 3 (by decide) m hm w hT)).mono fun e w' ⟨v, h1, h2, h3⟩ => ⟨v, h1, Kd.R_of_own (enc := Value.int .i64) (h1 := fun _ => rfl) h2 (fun _ _ => trivial), h3⟩
theorem ready_calls (xs : List Int) (h : U32 xs) (A0 : Option Addr) (c0 : Nat) (done : Nat) (hd : done < 2 ^ 32) (w : World) (hr0 : Kd.C (Kd.int .u32) w A0 xs.length xs) (hc0 : xs.length ≤ c0) :
    Calls Tryd.prog 15 #[.slice A0 xs.length c0, .int .u32 done] w fun e w' => e = .returned (.int .u32 ((readyN xs done : Nat) : Int)) ∧ Below w.heap.size w w' :=
  ready_Ready.calls 33 A0 c0 xs (done : Int) _ w hr0 hc0 (ready_is xs h done hd 33 (by omega))

/-- The placed ones, as a number. -/
def placedN (xs : List Int) (L : List Nat) : Nat := num (fun j => L.contains j) (nn xs)
theorem placedN_lt (xs : List Int) (L : List Nat) : placedN xs L < 2 ^ 32 := num_lt32 _ (nn_le xs)
theorem ready_placed (xs : List Int) (L : List Nat) : readyN xs (placedN xs L) = num (ready (nn xs) (dep xs) (fun j => L.contains j)) (nn xs) := by
  unfold readyN placedN
  refine num_congr _ fun i hi => ready_congr _ _ i hi fun k hk => ?_
  rw [num_bit]; simp [hk]
theorem ready_zero (xs : List Int) (L : List Nat) (h : readyN xs (placedN xs L) = 0) : first (nn xs) (dep xs) L = none := by
  rw [ready_placed] at h
  refine first_of_none fun i hi => ?_
  apply Classical.byContradiction
  intro hc
  exact num_ne hi (by simpa using hc) h
theorem ready_first (xs : List Int) (L : List Nat) (h : readyN xs (placedN xs L) ≠ 0) : first (nn xs) (dep xs) L = some (Lib.ctz 32 (readyN xs (placedN xs L))) ∧ Lib.ctz 32 (readyN xs (placedN xs L)) < nn xs := by
  have hlt : readyN xs (placedN xs L) < 4294967296 := readyN_lt _ _
  obtain ⟨h1, h2, h3⟩ := ctz_bit _ h hlt
  rw [ready_placed] at h1 h3 h ⊢
  generalize Lib.ctz 32 (num (ready (nn xs) (dep xs) (fun j => L.contains j)) (nn xs)) = c at *
  rw [num_bit, Bool.and_eq_true, decide_eq_true_eq] at h1
  refine ⟨first_of h1.1 h1.2 fun j hj => ?_, h1.1⟩
  have := h3 j hj
  rw [num_bit] at this
  have hjn : j < nn xs := by omega
  simpa [hjn] using this
theorem placed_snoc (xs : List Int) (L : List Nat) (i : Nat) (hi : i < nn xs) : placedN xs L ||| 2 ^ i = placedN xs (L ++ [i]) := by
  unfold placedN
  rw [num_or _ _ _ hi]
  refine num_congr _ fun j hj => ?_
  rw [List.contains_eq_mem, List.contains_eq_mem]
  by_cases e : j = i
  · subst e; simp
  · have : (j == i) = false := by simpa using e
    simp [this, e]

set_option maxHeartbeats 2000000 in
set_option maxRecDepth 100000 in
theorem order_calls (xs : List Int) (h : U32 xs) (A0 : Option Addr) (c0 : Nat) (w : World) (hr0 : Kd.C (Kd.int .u32) w A0 xs.length xs) (hc0 : xs.length ≤ c0) (hT : Tab w) :
    Calls Tryd.prog 11 #[.slice A0 xs.length c0] w fun e w' => ∃ v, e = .returned v ∧ Kd.R (Kd.int .i64) 3 w' w.heap.size (fun _ => True) v (ordL xs) ∧ Below w.heap.size w w' := by
  have HR := Aside0.mk hr0
  have HC := Aside0.mk hc0
  have HT := Aside0.mk hT
  have HB := Aside0.mk (Below.refl w.heap.size w)
  have hp0 : placedN xs [] = 0 := num_zero (fun _ _ => rfl)
  have H0 := Aside0.mk hp0
  clear hr0 hc0 hT hp0
  go_enter Tryd.func11, Tryd.ntmps11
  go_wp2_with (go_at_call 15; refine (ready_calls xs h _ _ 0 (by decide) _ (Kd.C_below HR.out HB.out) HC.out).mono ?_; rintro e w' ⟨rfl, hb⟩; have n0 := Aside0.mk (below_step HB.out hb); clear HB hb; have HB := n0; clear n0)
  have HO0 : Aside0 (Kd.R (Kd.int .i64) 3 w' w.heap.size (fun _ => True) (.slice none 0 0) (natsOf (iter (nn xs) (dep xs) 0))) := Aside0.mk (Kd.R_nil _ _ _ _ _)
  have HP0 : Aside0 ((0 : Int) = ((placedN xs (iter (nn xs) (dep xs) 0) : Nat) : Int)) := Aside0.mk (by show (0 : Int) = ((placedN xs [] : Nat) : Int); rw [H0.out]; rfl)
  have HQ0 : Aside0 (((readyN xs 0 : Nat) : Int) = ((readyN xs (placedN xs (iter (nn xs) (dep xs) 0)) : Nat) : Int)) := Aside0.mk (by show _ = ((readyN xs (placedN xs []) : Nat) : Int); rw [H0.out])
  clear H0
  go_loopg [3, 4, 5] (nn xs) (fun g v3 v4 v5 wr => ∃ (j : Nat) (p q : Int), j ≤ nn xs ∧ g = nn xs - j ∧ Aside0 ((iter (nn xs) (dep xs) j).length = j) ∧ v4 = .int .u32 p ∧ Aside0 (p = ((placedN xs (iter (nn xs) (dep xs) j) : Nat) : Int)) ∧ v5 = .int .u32 q ∧ Aside0 (q = ((readyN xs (placedN xs (iter (nn xs) (dep xs) j)) : Nat) : Int)) ∧ Aside0 (Kd.R (Kd.int .i64) 3 wr w.heap.size (fun _ => True) v3 (natsOf (iter (nn xs) (dep xs) j))) ∧ Aside0 (Below w.heap.size w wr))
  case atStart => exact ⟨0, _, _, by omega, by omega, Aside0.mk rfl, rfl, HP0, rfl, HQ0, HO0, HB⟩
  case round =>
    clear HO0 HP0 HQ0 HB
    obtain ⟨j, p, q, hj, hg, HL, rfl, HP, rfl, HQ, HO, HB⟩ := hrel
    by_cases hz : readyN xs (placedN xs (iter (nn xs) (dep xs) j)) = 0
    · have hq0 : q = 0 := by rw [HQ.out, hz]; rfl
      have HE : Aside0 (natsOf (iter (nn xs) (dep xs) j) = ordL xs) := Aside0.mk (by rw [order_of_fix hj (ready_zero xs _ hz)]; rfl)
      subst hq0
      clear HQ hz
      go_wp2
      go_ret
      exact ⟨_, rfl, HE.out ▸ HO.out, HB.out⟩
    · obtain ⟨hf1, hf2⟩ := ready_first xs (iter (nn xs) (dep xs) j) hz
      have hlt := readyN_lt xs (placedN xs (iter (nn xs) (dep xs) j))
      have hn := nn_le xs
      have hstep : iter (nn xs) (dep xs) (j + 1) = iter (nn xs) (dep xs) j ++ [Lib.ctz 32 (readyN xs (placedN xs (iter (nn xs) (dep xs) j)))] := by rw [iter, step_some hf1]
      have hpl := placed_snoc xs (iter (nn xs) (dep xs) j) _ hf2
      rw [← hstep] at hpl
      have hjlt : j < nn xs := by
        have h1 := good_len (good_iter (n := nn xs) (dep := dep xs) (j + 1))
        rw [hstep] at h1
        have h2 := HL.out
        simp [h2] at h1
        omega
      have HTz : Aside0 (∀ W, Tab W → Calls Tryd.prog 21 #[.int .u32 q] W fun e w' => e = .returned (.int .i64 ((Lib.ctz 32 (readyN xs (placedN xs (iter (nn xs) (dep xs) j))) : Nat) : Int)) ∧ w' = W) := Aside0.mk (fun W hW => by rw [HQ.out]; exact tz_any _ hz hlt W hW)
      have hor : bits .or .u32 p ((2 ^ Lib.ctz 32 (readyN xs (placedN xs (iter (nn xs) (dep xs) j))) : Nat) : Int) = ((placedN xs (iter (nn xs) (dep xs) (j + 1)) : Nat) : Int) := by
        rw [HP.out, or_nat _ _ (placedN_lt _ _) (Nat.pow_lt_pow_right (by decide) (by omega)), hpl]
      have hshl := shl_one (Lib.ctz 32 (readyN xs (placedN xs (iter (nn xs) (dep xs) j)))) (by omega)
      have HY : Aside0 (natsOf (iter (nn xs) (dep xs) j) ++ [((Lib.ctz 32 (readyN xs (placedN xs (iter (nn xs) (dep xs) j))) : Nat) : Int)] = natsOf (iter (nn xs) (dep xs) (j + 1))) := Aside0.mk (by rw [hstep]; simp [natsOf])
      have HL1 : Aside0 ((iter (nn xs) (dep xs) (j + 1)).length = j + 1) := Aside0.mk (by rw [hstep]; have := HL.out; simp [this])
      have hyl : (natsOf (iter (nn xs) (dep xs) j)).length ≤ 40 := by have := HL.out; simp [natsOf]; omega
      have hqne : (q != 0) = true := by rw [HQ.out]; simpa using hz
      have hI0 : (0 : Int) ≤ ((Lib.ctz 32 (readyN xs (placedN xs (iter (nn xs) (dep xs) j))) : Nat) : Int) := by omega
      have hI1 : ((Lib.ctz 32 (readyN xs (placedN xs (iter (nn xs) (dep xs) j))) : Nat) : Int) < 32 := by omega
      have HRd : Aside0 (∀ W, Kd.C (Kd.int .u32) W A0 xs.length xs → Calls Tryd.prog 15 #[.slice A0 xs.length c0, .int .u32 ((placedN xs (iter (nn xs) (dep xs) (j + 1)) : Nat) : Int)] W fun e w' => e = .returned (.int .u32 ((readyN xs (placedN xs (iter (nn xs) (dep xs) (j + 1))) : Nat) : Int)) ∧ Below W.heap.size W w') := Aside0.mk (fun W hW => ready_calls xs h A0 c0 _ (placedN_lt _ _) W hW HC.out)
      clear hf1 hf2 hlt hstep hpl HQ HP hz HL
      generalize ((2 ^ Lib.ctz 32 (readyN xs (placedN xs (iter (nn xs) (dep xs) j))) : Nat) : Int) = S at hor hshl
      generalize ((Lib.ctz 32 (readyN xs (placedN xs (iter (nn xs) (dep xs) j))) : Nat) : Int) = I at HTz hshl HY hI0 hI1
      generalize natsOf (iter (nn xs) (dep xs) j) = ys at HO HY hyl
      obtain ⟨p', hp'⟩ : ∃ p' : Int, p' = ((placedN xs (iter (nn xs) (dep xs) (j + 1)) : Nat) : Int) := ⟨_, rfl⟩
      rw [← hp'] at hor HRd
      have HP' := Aside0.mk hp'
      clear hp'
      have hs1 : IntKind.u32.wrap (1 * 2 ^ min I.toNat 32) = S := hshl
      have hs2 : I ≤ 32 → IntKind.u32.wrap (1 * 2 ^ I.toNat) = S := shl_small hshl
      have hs3 : IntKind.u32.wrap (2 ^ min I.toNat 32) = S := by have h_ := hs1; rw [Int.one_mul] at h_; exact h_
      have hs4 : I ≤ 32 → IntKind.u32.wrap (2 ^ I.toNat) = S := fun hle => by have h_ := hs2 hle; rw [Int.one_mul] at h_; exact h_
      have hs5 : (2 : Int) ^ I.toNat % 4294967296 = S := hs4 (by omega)
      clear hshl hs1 hs2 hs3 hs4
      go_wp2_with (first
        | (go_at_call 21; refine (HTz.out _ (HT.out.below HT.out.pos HB.out)).mono ?_; rintro e w' ⟨rfl, rfl⟩)
        | (go_at_call 15; go_loud ((try rw [hs5, hor]); refine (HRd.out _ (Kd.C_below HR.out HB.out)).mono ?_; rintro e w' ⟨rfl, hb⟩; have n1 := Aside0.mk (Kd.R_below HO.out hb); have n0 := Aside0.mk (below_step HB.out hb); clear HB HO hb; have HB := n0; have HO := n1; clear n0 n1))
        | ((with_reducible refine gate_builtin (b := .append) (xs := #[.tmp 16, .tmp 18]) rfl ?_); at_builtin; refine Kd.R_append (Kd.int .i64) (w0 := w) w.heap.size rfl (.tmp 16) (.tmp 18) 25 3 (.int .i64 0) 8 rfl Tryd.underlying25 infoInt rfl (by decide) (by omega) _ ys I [.int .i64 I] (fun _ => True) (fun _ => False) rfl rfl ?aP (fun _ hk => hk.elim) ?aF ?aO ?aB ?aS ?aL ?_; (case aP => exact rfl); (case aB => exact HB.out); (case aF => exact (fun _ _ => trivial)); (case aO => exact HO.out); (case aS => exact HB.out.size); (case aL => omega); intro v106 w12 ho hb hg hat; rw [HY.out] at ho; have n0 := Aside0.mk hb; have n1 := Aside0.mk ho; clear HB HO; have HB := n0; have HO := n1; clear n0 n1 ho hb hg hat))
      go_roundg (nn xs - (j + 1))
      case measure => omega
      case rel => exact ⟨j + 1, _, _, by omega, rfl, HL1, rfl, HP', rfl, Aside0.mk rfl, HO, HB⟩
end Go.Proofs.YtfkljcnkghakaaaDoor.Masks
