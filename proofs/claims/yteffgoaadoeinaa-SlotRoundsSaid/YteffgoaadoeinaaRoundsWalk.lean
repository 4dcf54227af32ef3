/- The walk of SlotRounds: called with any table, tenant and tick it returns true, and nothing that was there has changed. No condition beyond that the arguments can be read. -/
import Derived.Test.YteffgoaadoeinaaRoundsPure
namespace Go.Proofs.Yteffgoaadoeinaa.MineRounds
open Go.RowKit Go.Proofs.Yteffgoaadoeinaa.PSlotRounds Go.Proofs.YteffgoaadoeinaaW.PrintWords Go.Proofs.YteffgoaadoeinaaW.PrintLast Go.Proofs.YteffgoaadoeinaaW.PrintMore
attribute [local go_sem] max2_int min2_int
set_option linter.unusedVariables false

theorem wakes_calls (w : World) : Calls Try.prog 8 #[] w fun e w' => e = .returned (.bool true) ∧ Below w.heap.size w w' := precinctlaw17_wakes.calls 9 true w wakes_true
theorem below_of_drawn {w w' : World} (h : Drawn0 w w') : Below w.heap.size w w' := by obtain ⟨n, rfl⟩ := h; exact pw_below_drewN (Below.refl _ _) n
theorem owner_any (A0 : Option Addr) (c0 : Nat) (xs : List Int) (t : Int) (w : World) (hr : Kd.C (Kd.int .i64) w A0 xs.length xs) (hc : xs.length ≤ c0) (ht : 0 ≤ t) (hn : 1 ≤ xs.length) :
    Calls Try.prog 12 #[.slice A0 xs.length c0, .int .i64 t] w fun e w' => e = .returned (.int .i64 (ow xs t)) ∧ Below w.heap.size w w' :=
  (slot_Table_Owner.calls A0 c0 xs t (ow xs t) w hr hc (owner_is xs t ht hn)).mono fun _ _ ⟨h1, h2⟩ => ⟨h1, below_of_drawn h2⟩
def NextPost (xs : List Int) (a t : Int) (w : World) (e : Ending) (w' : World) : Prop := ∃ nx : Int, e = .returned (.int .i64 nx) ∧ First xs a t nx ∧ Below w.heap.size w w'
theorem next_any (A0 : Option Addr) (c0 : Nat) (xs : List Int) (a t : Int) (w : World) (hr : Kd.C (Kd.int .i64) w A0 xs.length xs) (hc : xs.length ≤ c0) (ht : 0 ≤ t) (ht2 : t ≤ 9223372036854775000) (hn : 1 ≤ xs.length) (hlen : xs.length ≤ 100) :
    Calls Try.prog 11 #[.slice A0 xs.length c0, .int .i64 a, .int .i64 t] w (NextPost xs a t w) := by
  obtain ⟨nx, h1, h2⟩ := next_is xs a t hlen hn ht ht2
  exact (slot_Table_Next.calls 101 A0 c0 xs a t nx w hr hc h1).mono fun _ _ ⟨h3, h4⟩ => ⟨nx, h3, h2, h4⟩
theorem count_any (A0 : Option Addr) (c0 : Nat) (xs : List Int) (a : Int) (w : World) (hr : Kd.C (Kd.int .i64) w A0 xs.length xs) (hc : xs.length ≤ c0) (hlen : xs.length ≤ 100) :
    Calls Try.prog 13 #[.slice A0 xs.length c0, .int .i64 a] w fun e w' => e = .returned (.int .i64 (cnt (fun i => xs.getD i 0 == a) xs.length : Int)) ∧ Below w.heap.size w w' :=
  (slot_Table_Count.calls 101 A0 c0 xs a _ w hr hc (count_is xs a hlen)).mono fun _ _ ⟨h1, h2⟩ => ⟨h1, below_of_drawn h2⟩

set_option maxHeartbeats 1000000 in
set_option maxRecDepth 100000 in
theorem law_walk (l0 : List Int) (A0 : Option Addr) (c0 : Nat) (a1 a2 : Int) (w : World) (hr0 : Kd.C (Kd.int .i64) w A0 l0.length l0) (hc0 : l0.length ≤ c0) :
    Calls Try.prog 4 #[.slice A0 l0.length c0, .int .i64 a1, .int .i64 a2] w fun e w' => e = .returned (.bool true) ∧ Below w.heap.size w w' := by
  obtain ⟨j, hj⟩ : ∃ j_ : Int, (mn (l0.length : Int) 64) = j_ := ⟨_, rfl⟩
  have hj0 : 0 ≤ j := by rw [← hj]; unfold mn; split <;> omega
  have hj1 : j ≤ (l0.length : Int) := by rw [← hj]; unfold mn; split <;> omega
  have hj2 : j ≤ 64 := by rw [← hj]; unfold mn; split <;> omega
  have hj_ : (if 64 < (l0.length : Int) then 64 else (l0.length : Int)) = j := hj
  obtain ⟨i0, hi0, _, hsz, _⟩ := info_parts info3
  obtain ⟨hcut, hA, hC⟩ := print_take_of (P := Try.prog) (Value.int .i64) 0 22 3 .i64 Try.underlying22 hi0 hsz A0 c0 l0 j hj0 hj1 hc0
  have HR := Aside0.mk (Kd.C_of_reads (h1 := fun _ => rfl) (hA _ (Kd.reads_of_C hr0)))
  have hlen : (l0.take j.toNat).length ≤ 64 := by rw [List.length_take]; omega
  generalize l0.take j.toNat = xs at hcut HR hC hlen
  have HC := Aside0.mk hC
  have HB := Aside0.mk (Below.refl w.heap.size w)
  clear hC hA hi0 hsz hc0 hr0 hj
  by_cases hn : xs.length = 0
  · have hn0 : ((xs.length : Int) == 0) = true := by simp [hn]
    clear hn
    go_enter Try.func4, Try.ntmps4
    go_wp2_with (go_at_call 8; refine (wakes_calls _).mono ?_; rintro e w' ⟨rfl, hb⟩; have n0 := Aside0.mk (below_step HB.out hb); clear HB hb; have HB := n0; clear n0)
    go_ret
    exact ⟨by simp, HB.out⟩
  · have hn0 : ((xs.length : Int) == 0) = false := by simpa using hn
    have hn1 : 1 ≤ xs.length := by omega
    clear hn
    obtain ⟨m, hm⟩ : ∃ m : Int, (if 0 < a2 then a2 else 0) = m := ⟨_, rfl⟩
    have hm0 : 0 ≤ m := by rw [← hm]; split <;> omega
    obtain ⟨F, hF⟩ : ∃ F : Int, m % 1125899906842624 = F := ⟨_, rfl⟩
    have hF0 : 0 ≤ F := by rw [← hF]; exact Int.emod_nonneg _ (by decide)
    have hF1 : F < 1125899906842624 := by rw [← hF]; exact Int.emod_lt_of_pos _ (by decide)
    go_enter Try.func4, Try.ntmps4
    go_wp2_with (first
      | (go_at_call 8; refine (wakes_calls _).mono ?_; rintro e w' ⟨rfl, hb⟩; have n0 := Aside0.mk (below_step HB.out hb); clear HB hb; have HB := n0; clear n0)
      | (go_at_call 11; refine (next_any _ _ xs a1 _ _ (Kd.C_below HR.out HB.out) HC.out (by omega) (by omega) (by omega) (by omega)).mono ?_; rintro e w' ⟨nx, rfl, hnx, hb⟩; have n0 := Aside0.mk (below_step HB.out hb); clear HB hb; have HB := n0; clear n0))
    clear hm hF hm0
    have hnx0 : First xs a1 (F + ((0 : Nat) : Int)) nx := by simpa using hnx
    clear hnx
    have HN := Aside0.mk hnx0
    clear hnx0
    go_loopw [8, 9, 35] (fun n nx i wr => ∃ k : Nat, k ≤ xs.length ∧ i = .int .i64 k ∧ (∃ v : Int, nx = .int .i64 v ∧ Aside0 (First xs a1 (F + (k : Int)) v)) ∧ n = .int .i64 (cnt (fun i => ow xs (F + (i : Int)) == a1) k : Int) ∧ Aside0 (Below w.heap.size w wr))
      (fun _ _ i _ => xs.length - (intOf i).toNat)
    case atStart => exact ⟨0, by omega, rfl, ⟨nx, rfl, HN⟩, rfl, HB⟩
    case round =>
      clear HN HB
      obtain ⟨k, hk, rfl, ⟨v, rfl, HN⟩, rfl, HB⟩ := hrel
      have hcl := cnt_le (fun i => ow xs (F + (i : Int)) == a1) k
      by_cases hlt : k < xs.length
      · have hp : ow xs (F + (k : Int) + (xs.length : Int)) = ow xs (F + (k : Int)) := ow_period xs _
        have hh := first_here HN.out (by omega)
        by_cases hm : ow xs (F + (k : Int)) = a1
        · have hm1 : (ow xs (F + (k : Int)) == a1) = true := by simpa using hm
          rw [hm1] at hh
          have HS : Aside0 (cnt (fun i => ow xs (F + (i : Int)) == a1) (k + 1) = cnt (fun i => ow xs (F + (i : Int)) == a1) k + 1) := Aside0.mk (by simp only [cnt, hm1, if_true])
          clear hm
          go_wp2_with (first
            | (go_at_call 12; refine (owner_any _ _ xs _ _ (Kd.C_below HR.out HB.out) HC.out (by omega) (by omega)).mono ?_; rintro e w' ⟨rfl, hb⟩; have n0 := Aside0.mk (below_step HB.out hb); clear HB hb; have HB := n0; clear n0)
            | (go_at_call 11; refine (next_any _ _ xs a1 _ _ (Kd.C_below HR.out HB.out) HC.out (by omega) (by omega) (by omega) (by omega)).mono ?_; rintro e w' ⟨nx, rfl, hnx, hb⟩; have n0 := Aside0.mk (below_step HB.out hb); clear HB hb; have HB := n0; clear n0))
          go_roundw
          case rel => exact ⟨k + 1, by omega, by go_num, ⟨_, rfl, Aside0.mk (by rw [show F + ((k + 1 : Nat) : Int) = F + (k : Int) + 1 by omega]; exact hnx)⟩, by rw [HS.out]; go_num, HB⟩
          case measure => simp [intOf]; omega
        · have hm1 : (ow xs (F + (k : Int)) == a1) = false := by simpa using hm
          rw [hm1] at hh
          have HS : Aside0 (cnt (fun i => ow xs (F + (i : Int)) == a1) (k + 1) = cnt (fun i => ow xs (F + (i : Int)) == a1) k) := Aside0.mk (by simp only [cnt, hm1]; simp)
          have HN2 := Aside0.mk (first_on HN.out hm (by omega))
          clear hm
          go_wp2_with (first
            | (go_at_call 12; refine (owner_any _ _ xs _ _ (Kd.C_below HR.out HB.out) HC.out (by omega) (by omega)).mono ?_; rintro e w' ⟨rfl, hb⟩; have n0 := Aside0.mk (below_step HB.out hb); clear HB hb; have HB := n0; clear n0)
            | (go_at_call 11; refine (next_any _ _ xs a1 _ _ (Kd.C_below HR.out HB.out) HC.out (by omega) (by omega) (by omega) (by omega)).mono ?_; rintro e w' ⟨nx, rfl, hnx, hb⟩; have n0 := Aside0.mk (below_step HB.out hb); clear HB hb; have HB := n0; clear n0))
          go_roundw
          case rel => exact ⟨k + 1, by omega, by go_num, ⟨_, rfl, Aside0.mk (by rw [show F + ((k + 1 : Nat) : Int) = F + (k : Int) + 1 by omega]; exact HN2.out)⟩, by rw [HS.out], HB⟩
          case measure => simp [intOf]; omega
      · have hke : k = xs.length := by omega
        subst hke
        have hfin : (cnt (fun i => ow xs (F + (i : Int)) == a1) xs.length) = cnt (fun i => xs.getD i 0 == a1) xs.length := by
          have := round_count xs a1 F.toNat hn1
          rwa [Int.toNat_of_nonneg hF0] at this
        have HFin := Aside0.mk hfin
        clear hfin
        go_wp2_with (go_at_call 13; refine (count_any _ _ xs a1 _ (Kd.C_below HR.out HB.out) HC.out (by omega)).mono ?_; rintro e w' ⟨rfl, hb⟩; have n0 := Aside0.mk (below_step HB.out hb); clear HB hb; have HB := n0; clear n0)
        go_ret
        exact ⟨by simp [HFin.out], HB.out⟩
end Go.Proofs.Yteffgoaadoeinaa.MineRounds
