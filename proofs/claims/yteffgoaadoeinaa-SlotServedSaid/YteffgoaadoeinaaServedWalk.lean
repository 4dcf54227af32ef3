/- The walk of SlotServed: called with any table, three numbers and a tick it returns true, and nothing that was there has changed. No condition beyond that the arguments can be read. -/
import Derived.Test.YteffgoaadoeinaaServedPure
import Derived.Deep.RegionHeld3
namespace Go.Proofs.Yteffgoaadoeinaa.MineServed
open Go.RowKit Go.Proofs.Yteffgoaadoeinaa.PSlotServed Go.Proofs.YteffgoaadoeinaaW.PrintWords Go.Proofs.YteffgoaadoeinaaW.PrintLast Go.Proofs.YteffgoaadoeinaaW.PrintMore
attribute [local go_sem] max2_int min2_int
set_option linter.unusedVariables false

theorem wakes_calls (w : World) : Calls Try.prog 8 #[] w fun e w' => e = .returned (.bool true) ∧ Below w.heap.size w w' := precinctlaw17_wakes.calls 9 true w wakes_true
theorem below_of_drawn {w w' : World} (h : Drawn0 w w') : Below w.heap.size w w' := by obtain ⟨n, rfl⟩ := h; exact pw_below_drewN (Below.refl _ _) n
theorem owner_any (A0 : Option Addr) (c0 : Nat) (xs : List Int) (t : Int) (w : World) (hr : Kd.C (Kd.int .i64) w A0 xs.length xs) (hc : xs.length ≤ c0) (ht : 0 ≤ t) (hn : 1 ≤ xs.length) :
    Calls Try.prog 12 #[.slice A0 xs.length c0, .int .i64 t] w fun e w' => e = .returned (.int .i64 (ow xs t)) ∧ Below w.heap.size w w' :=
  (slot_Table_Owner.calls A0 c0 xs t (ow xs t) w hr hc (owner_is xs t ht hn)).mono fun _ _ ⟨h1, h2⟩ => ⟨h1, below_of_drawn h2⟩
def NextPost (xs : List Int) (a t : Int) (w : World) (e : Ending) (w' : World) : Prop := ∃ nx : Int, e = .returned (.int .i64 nx) ∧ First xs a t nx ∧ Below w.heap.size w w'
theorem next_any (A0 : Option Addr) (c0 : Nat) (xs : List Int) (a t : Int) (w : World) (hr : Kd.C (Kd.int .i64) w A0 xs.length xs) (hc : xs.length ≤ c0) (ht : 0 ≤ t) (ht2 : t ≤ 9223372036854775000) (hn : 1 ≤ xs.length) (hlen : xs.length ≤ 100) :
    Calls Try.prog 11 #[.slice A0 xs.length c0, .int .i64 a, .int .i64 t] w (NextPost xs a t w) := by
  obtain ⟨nx, h1, h2⟩ := next_is xs a t hlen hn ht ht2
  exact (slot_Table_Next.calls 101 A0 c0 xs a t nx w hr hc h1).mono fun _ _ ⟨h3, h4⟩ => ⟨nx, h3, h2, h4⟩
theorem count_any (A0 : Option Addr) (c0 : Nat) (xs : List Int) (a : Int) (w : World) (hr : Kd.C (Kd.int .i64) w A0 xs.length xs) (hc : xs.length ≤ c0) (hlen : xs.length ≤ 100) :
    Calls Try.prog 13 #[.slice A0 xs.length c0, .int .i64 a] w fun e w' => e = .returned (.int .i64 (cnt (fun i => xs.getD i 0 == a) xs.length : Int)) ∧ Below w.heap.size w w' :=
  (slot_Table_Count.calls 101 A0 c0 xs a _ w hr hc (count_is xs a hlen)).mono fun _ _ ⟨h1, h2⟩ => ⟨h1, below_of_drawn h2⟩

/-- What region 10 reads: the boxed three numbers. -/
abbrev Keeps (B : Nat) (x0 x1 x2 : Int) (w : World) (W : World) : Prop := W.cell? ⟨B, 0, none⟩ = some (.int .i64 x0) ∧ W.cell? ⟨B, 1, none⟩ = some (.int .i64 x1) ∧ W.cell? ⟨B, 2, none⟩ = some (.int .i64 x2) ∧ Below w.heap.size w W
theorem Keeps.drew {B : Nat} {w W : World} {x0 x1 x2 : Int} (h : Keeps B x0 x1 x2 w W) : Keeps B x0 x1 x2 w W.drew := ⟨h.1, h.2.1, h.2.2.1, h.2.2.2.drew⟩

theorem take_yes (t l : Int) (h0 : 0 < l) (h1 : l ≤ 100) : slot_Budget_Take.f t l t = some (t, l - 1, true) := by
  unfold slot_Budget_Take.f
  rw [if_pos rfl, if_neg (by omega)]
  have : wrap64 (l - 1) = l - 1 := by unfold wrap64; omega
  rw [this]
theorem take_no (t : Int) : slot_Budget_Take.f t 0 t = some (t, 0, false) := by
  unfold slot_Budget_Take.f
  rw [if_pos rfl, if_pos (by omega)]
theorem take_other (t l : Int) : slot_Budget_Take.f t l (t + 1) = some (t, l, false) := by
  unfold slot_Budget_Take.f
  rw [if_neg (by omega)]
theorem begin_is (t c : Int) (h : 0 ≤ c) : slot_Begin.f t c = some (t, c) := by
  unfold slot_Begin.f mx
  congr 2
  split <;> omega

set_option maxHeartbeats 2000000 in
set_option maxRecDepth 100000 in
theorem law_walk (l0 : List Int) (A0 : Option Addr) (c0 : Nat) (x0 x1 x2 a2 : Int) (w : World) (hr0 : Kd.C (Kd.int .i64) w A0 l0.length l0) (hc0 : l0.length ≤ c0) :
    Calls Try.prog 7 #[.slice A0 l0.length c0, .agg #[.int .i64 x0, .int .i64 x1, .int .i64 x2], .int .i64 a2] w fun e w' => e = .returned (.bool true) ∧ Below w.heap.size w w' := by
  obtain ⟨j, hj⟩ : ∃ j_ : Int, (mn (l0.length : Int) 16) = j_ := ⟨_, rfl⟩
  have hj0 : 0 ≤ j := by rw [← hj]; unfold mn; split <;> omega
  have hj1 : j ≤ (l0.length : Int) := by rw [← hj]; unfold mn; split <;> omega
  have hj2 : j ≤ 16 := by rw [← hj]; unfold mn; split <;> omega
  have hj_ : (if 16 < (l0.length : Int) then 16 else (l0.length : Int)) = j := hj
  obtain ⟨i0, hi0, _, hsz, _⟩ := info_parts info3
  obtain ⟨hcut, hA, hC⟩ := print_take_of (P := Try.prog) (Value.int .i64) 0 22 3 .i64 Try.underlying22 hi0 hsz A0 c0 l0 j hj0 hj1 hc0
  have HX := Aside0.mk (hA _ (Kd.reads_of_C hr0))
  have hlen : (l0.take j.toNat).length ≤ 16 := by rw [List.length_take]; omega
  generalize l0.take j.toNat = xs at hcut HX hC hlen
  have HC := Aside0.mk hC
  clear hC hA hi0 hsz hc0 hr0 hj
  have hK : Keeps w.heap.size x0 x1 x2 w (w.alloc (Obj.cells #[.int .i64 x0, .int .i64 x1, .int .i64 x2] 48)) := ⟨by simp, by simp, by simp, (Below.refl _ _).alloc (Nat.le_refl _) _⟩
  go_enter Try.func7, Try.ntmps7
  go_wp2
  generalize hWe : w.alloc (Obj.cells #[.int .i64 x0, .int .i64 x1, .int .i64 x2] 48) = W at hK
  clear hWe
  generalize hBe : w.heap.size = B at hK
  clear hBe
  have HB := Aside0.mk hK.2.2.2
  go_loop [27] (fun i => ∃ k : Nat, k ≤ xs.length ∧ i = .int .i64 k ∧ Aside0 (∀ m : Nat, m < k → 0 ≤ xs.getD m 0 ∧ xs.getD m 0 < 4)) (fun i => xs.length - (intOf i).toNat)
  case atStart => exact ⟨0, by omega, rfl, Aside0.mk (fun m hm => absurd hm (by omega))⟩
  case round =>
    obtain ⟨k, hk, rfl, HN⟩ := hrel
    by_cases hlt : k < xs.length
    · obtain ⟨ad, e1, hc⟩ := HX.out.2.2 (by omega)
      have hck : W.cell? (ad.add k) = some (.int .i64 (xs.getD k 0)) := (HB.out.cell (World.block_lt_of_cell? _ _ (hc k hlt))).trans (hc k hlt)
      clear hc
      have HXk := HN.out
      clear HN
      subst e1
      have HN2 : Aside0 ((0 ≤ xs.getD k 0 ∧ xs.getD k 0 < 4) → ∀ m : Nat, m < k + 1 → 0 ≤ xs.getD m 0 ∧ xs.getD m 0 < 4) := Aside0.mk (fun h m hm => by
        by_cases e : m = k
        · rw [e]; exact h
        · exact HXk m (by omega))
      clear HXk
      generalize xs.getD k 0 = x at hck HN2
      by_cases h1 : x < 0
      · go_wp2_with (go_at_call 8; refine (wakes_calls _).mono ?_; rintro e w' ⟨rfl, hb⟩; have n0 := Aside0.mk (below_step HB.out hb); clear HB hb; have HB := n0; clear n0)
        go_ret
        exact ⟨by simp, HB.out⟩
      · by_cases h2 : 4 ≤ x
        · go_wp2_with (go_at_call 8; refine (wakes_calls _).mono ?_; rintro e w' ⟨rfl, hb⟩; have n0 := Aside0.mk (below_step HB.out hb); clear HB hb; have HB := n0; clear n0)
          go_ret
          exact ⟨by simp, HB.out⟩
        · go_wp2
          go_round
          case rel => exact ⟨k + 1, by omega, by go_num, Aside0.mk (HN2.out ⟨by omega, by omega⟩)⟩
          case measure => simp [intOf]; omega
    · have HAll : Aside0 (∀ m : Nat, m < xs.length → 0 ≤ xs.getD m 0 ∧ xs.getD m 0 < 4) := Aside0.mk (fun m hm => HN.out m (by omega))
      clear HN
      obtain ⟨m0, hm0⟩ : ∃ m : Int, (if 0 < x0 then x0 else 0) = m := ⟨_, rfl⟩
      have hm0p : 0 ≤ m0 := by rw [← hm0]; split <;> omega
      obtain ⟨m1, hm1⟩ : ∃ m : Int, (if 0 < x1 then x1 else 0) = m := ⟨_, rfl⟩
      have hm1p : 0 ≤ m1 := by rw [← hm1]; split <;> omega
      obtain ⟨m2, hm2⟩ : ∃ m : Int, (if 0 < x2 then x2 else 0) = m := ⟨_, rfl⟩
      have hm2p : 0 ≤ m2 := by rw [← hm2]; split <;> omega
      obtain ⟨m3, hm3⟩ : ∃ m : Int, (if 0 < a2 then a2 else 0) = m := ⟨_, rfl⟩
      have hm3p : 0 ≤ m3 := by rw [← hm3]; split <;> omega
      obtain ⟨T, hT⟩ : ∃ T : Int, m0.tmod 4 = T := ⟨_, rfl⟩
      obtain ⟨a, ha⟩ : ∃ a : Int, m1.tmod 20 = a := ⟨_, rfl⟩
      have ha' : m1.tmod 20 = m1 % 20 := Int.tmod_eq_emod_of_nonneg hm1p
      have ha0 : 0 ≤ a := by omega
      have ha1 : a < 20 := by omega
      obtain ⟨b, hb⟩ : ∃ b : Int, m2.tmod 6 = b := ⟨_, rfl⟩
      have hb' : m2.tmod 6 = m2 % 6 := Int.tmod_eq_emod_of_nonneg hm2p
      have hb0 : 0 ≤ b := by omega
      have hb1 : b < 6 := by omega
      clear ha' hb'
      obtain ⟨c, hc⟩ : ∃ c : Int, IntKind.i64.wrap (1 + b) = c := ⟨_, rfl⟩
      have hcb : c = 1 + b := by rw [← hc]; exact IntWalk.i64_in _ (by omega)
      have hc0 : 1 ≤ c := by omega
      have hc1 : c ≤ 6 := by omega
      clear hcb
      obtain ⟨F, hF⟩ : ∃ F : Int, m3 % 1099511627776 = F := ⟨_, rfl⟩
      have hF0 : 0 ≤ F := by rw [← hF]; exact Int.emod_nonneg _ (by decide)
      have hF1 : F < 1099511627776 := by rw [← hF]; exact Int.emod_lt_of_pos _ (by decide)
      clear HB
      go_wp2
      obtain ⟨k0, k1, k2, k3⟩ := hK
      have HB := Aside0.mk k3
      clear k3
      go_quiet (fail)
      clear hm0 hm1 hm2 hT ha hb hc k0 k1 k2
      have HR := Aside0.mk (Kd.C_of_reads (h1 := fun _ => rfl) HX.out)
      by_cases hn : xs.length = 0
      · have hxs : xs = [] := List.eq_nil_of_length_eq_zero hn
        subst hxs
        go_wp2_with (first
          | (go_at_call 8; refine (wakes_calls _).mono ?_; rintro e w' ⟨rfl, hb⟩; have n0 := Aside0.mk (below_step (by first | exact HB.out | exact pw_below_drewN HB.out _) hb); clear HB hb; have HB := n0; clear n0)
          | (go_at_call 9; refine (slot_Table_Bound.calls _ _ [] F a c (-1) _ (Kd.C_below HR.out (by first | exact HB.out | exact pw_below_drewN HB.out _)) HC.out (bound_empty _ _ _)).mono ?_; rintro e w' ⟨rfl, hd⟩; have n0 := Aside0.mk (below_step (by first | exact HB.out | exact pw_below_drewN HB.out _) (below_of_drawn hd)); clear HB hd; have HB := n0; clear n0)
          | (go_at_call 13; refine (slot_Table_Count.calls 1 _ _ [] T 0 _ (Kd.C_below HR.out (by first | exact HB.out | exact pw_below_drewN HB.out _)) HC.out (count_empty _)).mono ?_; rintro e w' ⟨rfl, hd⟩; have n0 := Aside0.mk (below_step (by first | exact HB.out | exact pw_below_drewN HB.out _) (below_of_drawn hd)); clear HB hd; have HB := n0; clear n0)
          | (go_at_call 11; refine (slot_Table_Next.calls 1 _ _ [] T F (-1) _ (Kd.C_below HR.out (by first | exact HB.out | exact pw_below_drewN HB.out _)) HC.out (next_empty _ _)).mono ?_; rintro e w' ⟨rfl, hd⟩; have n0 := Aside0.mk (below_step (by first | exact HB.out | exact pw_below_drewN HB.out _) hd); clear HB hd; have HB := n0; clear n0))
        go_ret
        exact ⟨by simp, HB.out⟩
      · have hn1 : 1 ≤ xs.length := by omega
        clear hn
        have HBd0 := bound_is xs F a c hn1 hlen hF0 hF1 ha0 ha1 hc0 hc1
        have hBdle : F + (xs.length : Int) * ((a + c) / c + 1) ≤ F + 500 := by
          have hQ0 : 0 ≤ (a + c) / c := Int.ediv_nonneg (by omega) (by omega)
          have hQ1 : (a + c) / c * c ≤ a + c := Int.ediv_mul_le _ (by omega)
          have hQ2 : (a + c) / c * 1 ≤ (a + c) / c * c := Int.mul_le_mul_of_nonneg_left (by omega) hQ0
          have h1 : (xs.length : Int) * ((a + c) / c + 1) ≤ 16 * ((a + c) / c + 1) := Int.mul_le_mul_of_nonneg_right (by omega) (by omega)
          omega
        have hBdge : F ≤ F + (xs.length : Int) * ((a + c) / c + 1) := by
          have hQ0 : 0 ≤ (a + c) / c := Int.ediv_nonneg (by omega) (by omega)
          have := Int.mul_nonneg (show (0 : Int) ≤ (xs.length : Int) by omega) (show 0 ≤ (a + c) / c + 1 by omega)
          omega
        have HSb : Aside0 (∀ t l nx : Int, Served (xs.length : Int) F a c t l → 0 < l → nx < t + (xs.length : Int) → nx ≤ F + (xs.length : Int) * ((a + c) / c + 1)) := Aside0.mk (fun t l nx h h1 h2 => served_bound h h1 (by omega) hc0 h2)
        generalize F + (xs.length : Int) * ((a + c) / c + 1) = Bd at HBd0 hBdle hBdge HSb
        have HBd := Aside0.mk HBd0
        have HCn0 := count_is xs T (by omega)
        have HNone : Aside0 (∀ t nx : Int, First xs T t nx → cnt (fun i => xs.getD i 0 == T) xs.length = 0 → nx = -1) := Aside0.mk (fun t nx h h0 => first_none h hn1 h0)
        have HSome : Aside0 (∀ t nx : Int, First xs T t nx → 0 ≤ t → cnt (fun i => xs.getD i 0 == T) xs.length ≠ 0 → t ≤ nx ∧ nx < t + (xs.length : Int) ∧ ow xs nx = T) := Aside0.mk (fun t nx h h1 h0 => first_some h hn1 h1 h0)
        generalize cnt (fun i => xs.getD i 0 == T) xs.length = n at HCn0 HNone HSome
        have HCn := Aside0.mk HCn0
        have HCk := Aside0.mk (check_is xs 4 hn1 hlen HAll.out)
        clear HBd0 HCn0 HAll
        by_cases hn0 : n = 0
        · have hnb : ((n : Int) == 0) = true := by simp [hn0]
          go_wp2_with (first
            | (go_at_call 8; refine (wakes_calls _).mono ?_; rintro e w' ⟨rfl, hd⟩; have n0 := Aside0.mk (below_step (by first | exact HB.out | exact pw_below_drewN HB.out _) (hd)); clear HB hd; have HB := n0; clear n0)
            | (go_at_call 9; refine (slot_Table_Bound.calls _ _ xs F a c Bd _ (Kd.C_below HR.out (by first | exact HB.out | exact pw_below_drewN HB.out _)) HC.out HBd.out).mono ?_; rintro e w' ⟨rfl, hd⟩; have n0 := Aside0.mk (below_step (by first | exact HB.out | exact pw_below_drewN HB.out _) (below_of_drawn hd)); clear HB hd; have HB := n0; clear n0)
            | (go_at_call 13; refine (slot_Table_Count.calls 101 _ _ xs T (n : Int) _ (Kd.C_below HR.out (by first | exact HB.out | exact pw_below_drewN HB.out _)) HC.out HCn.out).mono ?_; rintro e w' ⟨rfl, hd⟩; have n0 := Aside0.mk (below_step (by first | exact HB.out | exact pw_below_drewN HB.out _) (below_of_drawn hd)); clear HB hd; have HB := n0; clear n0)
            | (go_at_call 11; refine (next_any _ _ xs T F _ (Kd.C_below HR.out (by first | exact HB.out | exact pw_below_drewN HB.out _)) HC.out (by omega) (by omega) (by omega) (by omega)).mono ?_; rintro e w' ⟨nx, rfl, hnx, hd⟩; obtain rfl : nx = -1 := HNone.out _ _ hnx hn0; clear hnx; have n0 := Aside0.mk (below_step (by first | exact HB.out | exact pw_below_drewN HB.out _) hd); clear HB hd; have HB := n0; clear n0))
          go_ret
          exact ⟨by simp, HB.out⟩
        · have hnb : ((n : Int) == 0) = false := by simpa using hn0
          go_wp2_with (first
            | (go_at_call 8; refine (wakes_calls _).mono ?_; rintro e w' ⟨rfl, hd⟩; have n0 := Aside0.mk (below_step (by first | exact HB.out | exact pw_below_drewN HB.out _) (hd)); clear HB hd; have HB := n0; clear n0)
            | (go_at_call 9; refine (slot_Table_Bound.calls _ _ xs F a c Bd _ (Kd.C_below HR.out (by first | exact HB.out | exact pw_below_drewN HB.out _)) HC.out HBd.out).mono ?_; rintro e w' ⟨rfl, hd⟩; have n0 := Aside0.mk (below_step (by first | exact HB.out | exact pw_below_drewN HB.out _) (below_of_drawn hd)); clear HB hd; have HB := n0; clear n0)
            | (go_at_call 13; refine (slot_Table_Count.calls 101 _ _ xs T (n : Int) _ (Kd.C_below HR.out (by first | exact HB.out | exact pw_below_drewN HB.out _)) HC.out HCn.out).mono ?_; rintro e w' ⟨rfl, hd⟩; have n0 := Aside0.mk (below_step (by first | exact HB.out | exact pw_below_drewN HB.out _) (below_of_drawn hd)); clear HB hd; have HB := n0; clear n0)
            | (go_at_call 17; refine (slot_Table_Check.calls 101 _ _ xs 4 0 _ (Kd.C_below HR.out (by first | exact HB.out | exact pw_below_drewN HB.out _)) HC.out HCk.out).mono ?_; rintro e w' ⟨rfl, hd⟩; have n0 := Aside0.mk (below_step (by first | exact HB.out | exact pw_below_drewN HB.out _) (below_of_drawn hd)); clear HB hd; have HB := n0; clear n0))
          have HS0 := Aside0.mk (served_start (xs.length : Int) F a c ha0)
          clear HBd HCn HCk HNone hnb
          go_loopw [14, 15] (fun L tt wr => ∃ l t : Int, L = .int .i64 l ∧ tt = .int .i64 t ∧ Aside0 (Served (xs.length : Int) F a c t l) ∧ 0 ≤ l ∧ l ≤ 20 ∧ F ≤ t ∧ t ≤ Bd + 1 ∧ Aside0 (Below w.heap.size w wr))
            (fun L _ _ => (intOf L).toNat)
          case atStart => exact ⟨a + 1, F, rfl, rfl, HS0, by omega, by omega, by omega, by omega, HB⟩
          case round =>
            clear HB HS0
            obtain ⟨l, t, rfl, rfl, HS, hl0, hl1, ht0, ht1, HB⟩ := hrel
            by_cases hL : 0 < l
            · go_wp2_with (first
                | (go_at_call 11; refine (next_any _ _ xs T t _ (Kd.C_below HR.out (by first | exact HB.out | exact pw_below_drewN HB.out _)) HC.out (by omega) (by omega) (by omega) (by omega)).mono ?_; rintro e w' ⟨nx, rfl, hnx, hd⟩; obtain ⟨hx0, hx1, hx2⟩ := HSome.out _ _ hnx (by omega) hn0; have hx3 := HSb.out _ _ _ HS.out hL hx1; have HX1 := Aside0.mk hx1; clear hnx hx1; have n0 := Aside0.mk (below_step (by first | exact HB.out | exact pw_below_drewN HB.out _) hd); clear HB hd; have HB := n0; clear n0)
                | (go_at_call 12; refine (owner_any _ _ xs _ _ (Kd.C_below HR.out (by first | exact HB.out | exact pw_below_drewN HB.out _)) HC.out (by omega) (by omega)).mono ?_; rintro e w' ⟨rfl, hd⟩; have n0 := Aside0.mk (below_step (by first | exact HB.out | exact pw_below_drewN HB.out _) hd); clear HB hd; have HB := n0; clear n0)
                | (go_at_call 14; refine (slot_Begin.calls nx c nx c _ (begin_is nx c (by omega))).mono ?_; rintro e w2 ⟨rfl, hd⟩; have HB2 := Aside0.mk (below_step (by first | exact HB.out | exact pw_below_drewN HB.out _) hd); clear HB hd))
              have AT : ∃ B1 : Nat, w2.heap.size = B1 ∧ w.heap.size ≤ B1 := ⟨_, rfl, HB2.out.size⟩
              have AS := Aside0.mk (blk_new w2 (Obj.cells #[.int .i64 nx, .int .i64 c] 35))
              obtain ⟨B1, hB1, hBle⟩ := AT
              rw [hB1] at AS
              rw [hB1]
              have hBa := Aside0.mk hBle
              have HB3 := Aside0.mk (below_alloc HB2.out (Obj.cells #[.int .i64 nx, .int .i64 c] 35))
              clear hBle hB1 HB2
              go_loopw [14, 17] (fun L ok wi => ∃ l' β : Int, ∃ o : Bool, L = .int .i64 l' ∧ ok = .bool o ∧ 0 ≤ l' ∧ l' ≤ l ∧ 0 ≤ β ∧ β ≤ c ∧ Aside0 (l' + c = l + β) ∧ Aside0 (o = false → β = 0) ∧ Aside0 (wi.heap[B1]? = some (.cells #[.int .i64 nx, .int .i64 β] 35 (0, 0))) ∧ Aside0 (Below w.heap.size w wi))
                (fun L ok _ => (intOf L).toNat + (match ok with | .bool true => 1 | _ => 0))
              case atStart => exact ⟨l, c, true, rfl, rfl, by omega, by omega, by omega, by omega, Aside0.mk rfl, Aside0.mk (fun h => by cases h), AS, HB3⟩
              case round =>
                clear AS HB3
                obtain ⟨l', β, o, rfl, rfl, hl0', hl1', hβ0, hβ1, HE, HO, HBk, HB⟩ := hrel
                have c10 : wr.cell? ⟨B1, 0, none⟩ = some (.int .i64 nx) := (blk_cell HBk.out 0).trans rfl
                have c11 : wr.cell? ⟨B1, 1, none⟩ = some (.int .i64 β) := (blk_cell HBk.out 1).trans rfl
                cases o with
                | true =>
                  by_cases hl' : 0 < l'
                  · by_cases hβ : 0 < β
                    · go_wp2_with (go_at_call 15; refine (slot_Budget_Take.calls nx β nx nx (β - 1) true _ (take_yes nx β hβ (by omega))).mono ?_; rintro e w3 ⟨rfl, hd⟩; have n0 := Aside0.mk (below_step HB.out hd); have n1 := Aside0.mk (blk_below HBk.out hd); clear HB HBk hd c10 c11; have HB := n0; have HBk := n1; clear n0 n1; have c10 : w3.cell? ⟨B1, 0, none⟩ = some (.int .i64 nx) := (blk_cell HBk.out 0).trans rfl; have c11 : w3.cell? ⟨B1, 1, none⟩ = some (.int .i64 β) := (blk_cell HBk.out 1).trans rfl; have f10 := blk_frozen HBk.out 0; have f11 := blk_frozen HBk.out 1)
                      go_roundw
                      case rel => exact ⟨l' - 1, β - 1, true, by go_num, rfl, by omega, by omega, by omega, by omega, Aside0.mk (by have := HE.out; omega), Aside0.mk (fun h => by cases h), Aside0.mk (blk_put (blk_put HBk.out 0 (.int .i64 nx) rfl) 1 (.int .i64 (β - 1)) rfl), Aside0.mk (below_set (below_set HB.out (j := 0) (v := .int .i64 nx) hBa.out) (j := 1) (v := .int .i64 (β - 1)) hBa.out)⟩
                      case measure => simp [intOf]; omega
                    · obtain rfl : β = 0 := by omega
                      go_wp2_with (go_at_call 15; refine (slot_Budget_Take.calls nx 0 nx nx 0 false _ (take_no nx)).mono ?_; rintro e w3 ⟨rfl, hd⟩; have n0 := Aside0.mk (below_step HB.out hd); have n1 := Aside0.mk (blk_below HBk.out hd); clear HB HBk hd c10 c11; have HB := n0; have HBk := n1; clear n0 n1; have c10 : w3.cell? ⟨B1, 0, none⟩ = some (.int .i64 nx) := (blk_cell HBk.out 0).trans rfl; have c11 : w3.cell? ⟨B1, 1, none⟩ = some (.int .i64 0) := (blk_cell HBk.out 1).trans rfl; have f10 := blk_frozen HBk.out 0; have f11 := blk_frozen HBk.out 1)
                      go_roundw
                      case rel => exact ⟨l', 0, false, rfl, rfl, by omega, by omega, by omega, by omega, HE, Aside0.mk (fun _ => rfl), Aside0.mk (blk_put (blk_put HBk.out 0 (.int .i64 nx) rfl) 1 (.int .i64 0) rfl), Aside0.mk (below_set (below_set HB.out (j := 0) (v := .int .i64 nx) hBa.out) (j := 1) (v := .int .i64 0) hBa.out)⟩
                      case measure => simp [intOf]
                  · have HSn := Aside0.mk (served_next HS.out hL hx0 HX1.out (L' := l') (.inl (by omega)) hl0' hl1')
                    go_wp2_with (go_at_call 15; refine (slot_Budget_Take.calls nx β (nx + 1) nx β false _ (take_other nx β)).mono ?_; rintro e w3 ⟨rfl, hd⟩; have n0 := Aside0.mk (below_step HB.out hd); clear HB hd; have HB := n0; clear n0)
                    go_roundw
                    case rel => exact ⟨l', nx + 1, rfl, by go_num, Aside0.mk HSn.out, by omega, by omega, by omega, by omega, Aside0.mk (below_alloc HB.out _)⟩
                    case measure => simp [intOf]; omega
                | false =>
                  have HSn := Aside0.mk (served_next HS.out hL hx0 HX1.out (L' := l') (.inr (by have h1 := HE.out; have h2 := HO.out rfl; omega)) hl0' hl1')
                  have hless : l' < l := by have h1 := HE.out; have h2 := HO.out rfl; omega
                  go_wp2_with (go_at_call 15; refine (slot_Budget_Take.calls nx β (nx + 1) nx β false _ (take_other nx β)).mono ?_; rintro e w3 ⟨rfl, hd⟩; have n0 := Aside0.mk (below_step HB.out hd); clear HB hd; have HB := n0; clear n0)
                  go_roundw
                  case rel => exact ⟨l', nx + 1, rfl, by go_num, Aside0.mk HSn.out, by omega, by omega, by omega, by omega, Aside0.mk (below_alloc HB.out _)⟩
                  case measure => simp [intOf]; omega
            · go_wp2
              go_ret
              exact ⟨by simp, HB.out⟩
end Go.Proofs.Yteffgoaadoeinaa.MineServed
