/- Named: of a text of small letters, 1 to 16 of them: true. The nodes' names; find. Condition: as each theorem says. A node's own check. Condition: the node is one of a flow made for the law. Bits of masks. No condition. Masks: for each node of a flow made for the law what it waits for, as bits. slices.Clone of numbers, states, strings: a row of its own with the same elements. behind: of masks whose bits lie below the node's own number: such masks. graph.Check of a flow made for the law: nothing is wrong. -/
import Derived.Test.YtiipbibbppgbgaaPTopFatesx4
import Derived.Test.YtiipbibbppgbgaaPTopFatesx3
import Derived.Laws.RangeString
import Derived.LoopTactic
import Derived.Test.YtiipbibbppgbgaaPTopFatesx1
import Derived.StillTailTactics
import Derived.BigQuiet
namespace Go.Proofs.Ytiipbibbppgbgaa.T
open Go.RowKit Go.Proofs.Ytiipbibbppgbgaa.PTopFates Go.Proofs.YtiipbibbppgbgaaW.PrintWords Go.Proofs.YtiipbibbppgbgaaW.PrintLast Go.Proofs.YtiipbibbppgbgaaW.PrintMore
set_option linter.unusedVariables false
set_option linter.unusedSimpArgs false

/-- Small letters, 1 to 16 of them. -/
def Letters (s : ByteArray) : Prop := 0 < s.size ∧ s.size ≤ 16 ∧ ∀ i (h : i < s.size), 97 ≤ (s[i]'h).toNat ∧ (s[i]'h).toNat ≤ 122

set_option maxHeartbeats 2000000 in
set_option maxRecDepth 100000 in
theorem named_calls (s : ByteArray) (w : World) (hs : Letters s) : Calls Try.prog 27 #[.string s] w fun e w' => e = .returned (.bool true) ∧ Below w.heap.size w w' := by
  obtain ⟨h0, h16, hl⟩ := hs
  have HL := Aside0.mk hl
  clear hl
  have hne : ¬ s.toList = [] := by
    rw [ByteArray.toList_eq]
    intro h
    have : s.data.size = 0 := by rw [← Array.length_toList, h]; rfl
    have h2 : s.size = s.data.size := rfl
    omega
  have hle : decide ((s.size : Int) ≤ 16) = true := decide_eq_true (by omega)
  go_enter Try.func27, Try.ntmps27
  go_wp2
  go_loopw [4] (fun _ wr => ∃ pos, pos ≤ s.size ∧ wr = w.iter s pos) (fun _ wr => s.size - wr.iterPos w.heap.size)
  case atStart => exact ⟨0, by omega, rfl⟩
  case round =>
    obtain ⟨pos, hp, rfl⟩ := hrel
    by_cases hin : pos < s.size
    · have ha := HL.out pos hin
      have hn := fun ty => run_next_ascii (P := Try.prog) w s pos ty hin (by omega)
      generalize (s[pos]'hin).toNat = b at *
      have e1 : decide ((b : Int) < 97) = false := decide_eq_false (by omega)
      have e2 : decide (122 < (b : Int)) = false := decide_eq_false (by omega)
      have e3 : decide ((b : Int) > 122) = false := decide_eq_false (by omega)
      go_wp2
      go_roundw
      case rel => exact ⟨pos + 1, by omega, rfl⟩
      case measure => simp [World.iterPos, World.iter_heap]; omega
    · have hn := fun ty => run_next_end (P := Try.prog) w s pos ty hin
      go_wp2
      go_ret
      exact ⟨by first | rfl | (simp [hne]; done) | (simp; exact hne), below_alloc (Below.refl _ _) _⟩
end Go.Proofs.Ytiipbibbppgbgaa.T
namespace Go.Proofs.Ytiipbibbppgbgaa.T
open Go.RowKit Go.Proofs.Ytiipbibbppgbgaa.PTopFates Go.Proofs.YtiipbibbppgbgaaW.PrintWords Go.Proofs.YtiipbibbppgbgaaW.PrintLast Go.Proofs.YtiipbibbppgbgaaW.PrintMore
set_option linter.unusedVariables false
set_option linter.unusedSimpArgs false

/-- The name of node k. -/
def nm (k : Nat) : ByteArray := ⟨#[110, (97 + k).toUInt8]⟩
theorem name_f (k : Nat) (hk : k < 12) : precincttop_name.f (k : Int) = some (nm k) := by
  have h : ∀ k : Nat, k < 12 → precincttop_name.f (k : Int) = some (nm k) := by decide +kernel
  exact h k hk
theorem nm_inj {j k : Nat} (hj : j < 12) (hk : k < 12) (h : nm j = nm k) : j = k := by
  have h2 : (97 + j).toUInt8 = (97 + k).toUInt8 := by
    have := congrArg (fun b => b.data[1]!) h
    simpa [nm] using this
  have h3 := congrArg UInt8.toNat h2
  simp at h3
  omega
theorem nm_letters (k : Nat) (hk : k < 12) : Letters (nm k) := by
  refine ⟨(by show 0 < 2; omega), (by show 2 ≤ 16; omega), fun i h => ?_⟩
  have h2 : i < 2 := h
  match i, h2 with
  | 0, _ => exact ⟨(by show 97 ≤ 110; omega), (by show 110 ≤ 122; omega)⟩
  | 1, _ =>
    show 97 ≤ ((97 + k).toUInt8).toNat ∧ ((97 + k).toUInt8).toNat ≤ 122
    simp
    omega
set_option maxHeartbeats 2000000 in
set_option maxRecDepth 100000 in
theorem findC_calls (x : S43) (A1 : Option Addr) (c1 : Nat) (sb : Nat) (s : ByteArray) (w : World) (hb : w.heap[sb]? = some (.cells #[.string s] 9 (0, 0))) :
    Calls Try.prog 42 #[.agg #[.string x.f0, .slice A1 x.f1.length c1, .int .i64 x.f2, .int .i64 x.f3, .int .i64 x.f4, .string x.f5], .pointer (some ⟨sb, 0, none⟩)] w fun e w' => e = .returned (.bool (x.f0.toList == s.toList)) ∧ Below w.heap.size w w' := by
  have hu := Try.underlying43
  have hb0 := below_alloc (Below.refl w.heap.size w) (.cells #[.string x.f0, .slice A1 x.f1.length c1, .int .i64 x.f2, .int .i64 x.f3, .int .i64 x.f4, .string x.f5] 43)
  have hk := blk_new w (.cells #[.string x.f0, .slice A1 x.f1.length c1, .int .i64 x.f2, .int .i64 x.f3, .int .i64 x.f4, .string x.f5] 43)
  have hc0 : (w.alloc (.cells #[.string x.f0, .slice A1 x.f1.length c1, .int .i64 x.f2, .int .i64 x.f3, .int .i64 x.f4, .string x.f5] 43)).cell? ⟨w.heap.size, 0, none⟩ = some (.string x.f0) := (blk_cell hk 0).trans rfl
  have hcs : (w.alloc (.cells #[.string x.f0, .slice A1 x.f1.length c1, .int .i64 x.f2, .int .i64 x.f3, .int .i64 x.f4, .string x.f5] 43)).cell? ⟨sb, 0, none⟩ = some (.string s) := (blk_cell (blk_below hb hb0) 0).trans rfl
  go_enter Try.func42, Try.ntmps42
  go_wp2
  go_ret
  exact ⟨rfl, hb0⟩

theorem nm_eq {j k : Nat} (hj : j < 12) (hk : k < 12) : ((nm j).toList == (nm k).toList) = decide (j = k) := by
  rw [ByteArray.toList_eq, ByteArray.toList_eq]
  by_cases h : j = k
  · subst h; simp
  · have : (nm j).data.toList ≠ (nm k).data.toList := fun he => h (nm_inj hj hk (by
      have h3 : (nm j).data = (nm k).data := Array.toList_inj.1 he
      calc nm j = ⟨(nm j).data⟩ := rfl
        _ = ⟨(nm k).data⟩ := by rw [h3]
        _ = nm k := rfl))
    simp [h]
    intro he
    exact this (by rw [he])
def intOf : Value → Int
  | .int _ x => x
  | _ => 0
/-- The nodes' names are n followed by a, b, .. -/
def Names (ns : List S43) : Prop := ∀ j, j < ns.length → (ns.getD j z43).f0 = nm j
set_option maxHeartbeats 2000000 in
set_option maxRecDepth 100000 in
theorem indexN_calls (A : Option Addr) (c : Nat) (ns : List S43) (sb k : Nat) (w : World) (hr : Kd.C k43 w A ns.length ns) (hn : Names ns) (hk : k < ns.length) (hl : ns.length ≤ 12) (hb : w.heap[sb]? = some (.cells #[.string (nm k)] 9 (0, 0))) :
    Calls Try.prog 41 #[.slice A ns.length c, .func (.func 42) #[] #[.pointer (some ⟨sb, 0, none⟩)]] w fun e w' => e = .returned (.int .i64 (k : Int)) ∧ Below w.heap.size w w' := by
  have hu := Try.underlying43
  have HR := Aside0.mk hr
  have HN := Aside0.mk hn
  have HB0 := Aside0.mk hb
  have HB := Aside0.mk (Below.refl w.heap.size w)
  clear hr hn hb
  go_enter Try.func41, Try.ntmps41
  go_wp2
  go_loopw [8] (fun v8 wr => ∃ (p : Int) (i : Nat), v8 = .int .i64 p ∧ Aside0 (p = (i : Int)) ∧ i ≤ k ∧ Aside0 (Below w.heap.size w wr)) (fun v8 _ => ns.length - (intOf v8).toNat)
  case atStart => exact ⟨_, 0, rfl, Aside0.mk rfl, by omega, HB⟩
  case round =>
    clear HB
    obtain ⟨p, i, rfl, HP, hi, HB⟩ := hrel
    have hlt : decide (p < (ns.length : Int)) = true := decide_eq_true (by rw [HP.out]; omega)
    have hp0 : 0 ≤ p := by rw [HP.out]; omega
    have hp1 : p < (ns.length : Int) := by rw [HP.out]; omega
    have HW : Aside0 (p + 1 = ((i + 1 : Nat) : Int)) := Aside0.mk (by rw [HP.out]; omega)
    obtain ⟨ad, A1, c1, e, hx0, hx1, hx2, hx3, hx4, hx5, hl1, hC1⟩ := at_T43 (Kd.C_below HR.out HB.out) p hp0 hp1
    cases e
    have hrd : (rd_T43 ns p).f0 = nm i := by unfold rd_T43; rw [HP.out]; exact HN.out i (by omega)
    have hCL := findC_calls (rd_T43 ns p) A1 c1 sb (nm k) wr (blk_below HB0.out HB.out)
    rw [hrd, nm_eq (by omega) (by omega)] at hCL
    rw [hrd] at hx0
    have HCL := Aside0.mk hCL
    clear hCL hrd hC1
    generalize rd_T43 ns p = X at *
    by_cases hik : i = k
    · have hd : decide (i = k) = true := by simp [hik]
      rw [hd] at HCL
      have HIK := Aside0.mk hik
      clear hik hd
      go_wp2_with (first | (go_at_call 42; go_loud (refine HCL.out.mono ?_; rintro e w' ⟨rfl, hb⟩; have HB2 := Aside0.mk (below_step HB.out hb); clear hb)))
      go_ret
      exact ⟨by rw [← HIK.out, ← HP.out]; rfl, HB2.out⟩
    · have hd : decide (i = k) = false := by simp [hik]
      rw [hd] at HCL
      have hik2 : i + 1 ≤ k := by omega
      clear hik hd
      go_wp2_with (first | (go_at_call 42; go_loud (refine HCL.out.mono ?_; rintro e w' ⟨rfl, hb⟩; have HB2 := Aside0.mk (below_step HB.out hb); clear hb)))
      go_roundw
      case rel => exact ⟨_, i + 1, rfl, HW, hik2, HB2⟩
      case measure => have := HW.out; have := HP.out; simp [intOf] at *; omega
set_option maxHeartbeats 2000000 in
set_option maxRecDepth 100000 in
theorem find_calls (t : ByteArray) (A : Option Addr) (c : Nat) (ns : List S43) (k : Nat) (w : World) (hr : Kd.C k43 w A ns.length ns) (hn : Names ns) (hk : k < ns.length) (hl : ns.length ≤ 12) :
    Calls Try.prog 28 #[.agg #[.string t, .slice A ns.length c], .string (nm k)] w fun e w' => e = .returned (.int .i64 (k : Int)) ∧ Below w.heap.size w w' := by
  have hu := Try.underlying27
  have hb1 := below_alloc (Below.refl w.heap.size w) (.cells #[.string t, .slice A ns.length c] 27)
  have hb2 := below_alloc hb1 (.cells #[.string (nm k)] 9)
  have hk1 := blk_alloc (blk_new w (.cells #[.string t, .slice A ns.length c] 27)) (.cells #[.string (nm k)] 9)
  have hk2 := blk_new (w.alloc (.cells #[.string t, .slice A ns.length c] 27)) (.cells #[.string (nm k)] 9)
  have hs : (w.alloc (.cells #[.string t, .slice A ns.length c] 27)).heap.size = w.heap.size + 1 := by simp
  rw [hs] at hk2
  have HC := Aside0.mk (indexN_calls A c ns (w.heap.size + 1) k _ (Kd.C_below hr hb2) hn hk hl hk2)
  have hc1 : ((w.alloc (.cells #[.string t, .slice A ns.length c] 27)).alloc (.cells #[.string (nm k)] 9)).cell? ⟨w.heap.size, 1, none⟩ = some (.slice A ns.length c) := (blk_cell hk1 1).trans rfl
  have HB := Aside0.mk hb2
  clear hb1 hb2 hk1 hk2 hs hr hn
  go_enter Try.func28, Try.ntmps28
  go_upto_region 1 with (fail)
  generalize (w.alloc (.cells #[.string t, .slice A ns.length c] 27)).alloc (.cells #[.string (nm k)] 9) = w1 at *
  go_wp2_with (first | (go_at_call 41; go_loud (refine HC.out.mono ?_; rintro e w' ⟨rfl, hb⟩; have HB2 := Aside0.mk (below_step HB.out hb); clear hb)))
  go_ret
  exact ⟨rfl, HB2.out⟩
end Go.Proofs.Ytiipbibbppgbgaa.T
namespace Go.Proofs.Ytiipbibbppgbgaa.T
open Go.RowKit Go.Proofs.Ytiipbibbppgbgaa.PTopFates Go.Proofs.YtiipbibbppgbgaaW.PrintWords Go.Proofs.YtiipbibbppgbgaaW.PrintLast Go.Proofs.YtiipbibbppgbgaaW.PrintMore
set_option linter.unusedVariables false
set_option linter.unusedSimpArgs false

/-- What a node of such a flow is. -/
def GoodN (x : S43) : Prop := x.f1.length ≤ 12 ∧ 1 ≤ x.f2 ∧ x.f2 ≤ 4 ∧ 1 ≤ x.f3 ∧ x.f3 ≤ 50 ∧ ((x.f4 = -1 ∧ x.f5 = ⟨#[]⟩) ∨ (x.f4 = 1 ∧ x.f5 = ⟨#[103]⟩ ∧ x.f2 = 1))
theorem letters_g : Letters ⟨#[103]⟩ := ⟨by decide, by decide, fun i h => by
  have h2 : i < 1 := h
  match i, h2 with
  | 0, _ => exact ⟨(by show 97 ≤ 103; omega), (by show 103 ≤ 122; omega)⟩⟩
set_option maxHeartbeats 2000000 in
set_option maxRecDepth 100000 in
theorem check_calls (x : S43) (A1 : Option Addr) (c1 : Nat) (w : World) (hx : GoodN x) :
    Calls Try.prog 29 #[.agg #[.string x.f0, .slice A1 x.f1.length c1, .int .i64 x.f2, .int .i64 x.f3, .int .i64 x.f4, .string x.f5]] w fun e w' => e = .returned (.int .i64 0) ∧ Below w.heap.size w w' := by
  have hu := Try.underlying43
  obtain ⟨h1, h2, h3, h4, h5, h6⟩ := hx
  have hb0 := below_alloc (Below.refl w.heap.size w) (.cells #[.string x.f0, .slice A1 x.f1.length c1, .int .i64 x.f2, .int .i64 x.f3, .int .i64 x.f4, .string x.f5] 43)
  have hk := blk_new w (.cells #[.string x.f0, .slice A1 x.f1.length c1, .int .i64 x.f2, .int .i64 x.f3, .int .i64 x.f4, .string x.f5] 43)
  go_enter Try.func29, Try.ntmps29
  go_upto_region 1 with (fail)
  generalize w.alloc (.cells #[.string x.f0, .slice A1 x.f1.length c1, .int .i64 x.f2, .int .i64 x.f3, .int .i64 x.f4, .string x.f5] 43) = w1 at *
  generalize hgb : w.heap.size = gb at *
  have hc1 : w1.cell? ⟨gb, 1, none⟩ = some (.slice A1 x.f1.length c1) := (blk_cell hk 1).trans rfl
  have hc2 : w1.cell? ⟨gb, 2, none⟩ = some (.int .i64 x.f2) := (blk_cell hk 2).trans rfl
  have hc3 : w1.cell? ⟨gb, 3, none⟩ = some (.int .i64 x.f3) := (blk_cell hk 3).trans rfl
  have hc4 : w1.cell? ⟨gb, 4, none⟩ = some (.int .i64 x.f4) := (blk_cell hk 4).trans rfl
  have hc5 : w1.cell? ⟨gb, 5, none⟩ = some (.string x.f5) := (blk_cell hk 5).trans rfl
  have e1 : decide (x.f2 < 1) = false := decide_eq_false (by omega)
  have e2 : decide (4 < x.f2) = false := decide_eq_false (by omega)
  have e2' : decide (x.f2 > 4) = false := decide_eq_false (by omega)
  have e3 : decide (x.f3 < 1) = false := decide_eq_false (by omega)
  have e4 : decide (1048576 < x.f3) = false := decide_eq_false (by omega)
  have e4' : decide (x.f3 > 1048576) = false := decide_eq_false (by omega)
  have e5 : decide (12 < (x.f1.length : Int)) = false := decide_eq_false (by omega)
  have e5' : decide ((x.f1.length : Int) > 12) = false := decide_eq_false (by omega)
  have HB := Aside0.mk hb0
  have HK := Aside0.mk hk
  clear hb0 hk h1 h2 h3 h4 h5
  rcases h6 with ⟨g1, g2⟩ | ⟨g1, g2, g3⟩
  · rw [g1] at hc4
    rw [g2] at hc5
    clear g1 g2
    go_wp2
    go_ret
    exact ⟨rfl, by rw [hgb]; exact HB.out⟩
  · rw [g1] at hc4
    rw [g2] at hc5
    rw [g3] at hc2
    clear g1 g2 g3 e1 e2 e2'
    have HN := Aside0.mk (named_calls ⟨#[103]⟩ w1 letters_g)
    go_wp2_with (first | (go_at_call 27; go_loud (refine HN.out.mono ?_; rintro e w2 ⟨rfl, hb⟩; have hc2 := pw_cell_below hb hc2; have HB2 := Aside0.mk (below_then HB.out (by have := blk_lt HK.out; omega) hb); clear hb)))
    go_ret
    exact ⟨rfl, by rw [hgb]; exact HB2.out⟩
end Go.Proofs.Ytiipbibbppgbgaa.T
namespace Go.Proofs.Ytiipbibbppgbgaa.T
open Go.RowKit Go.Proofs.Ytiipbibbppgbgaa.PTopFates Go.Proofs.YtiipbibbppgbgaaW.PrintWords Go.Proofs.YtiipbibbppgbgaaW.PrintLast Go.Proofs.YtiipbibbppgbgaaW.PrintMore
set_option linter.unusedVariables false
theorem wraps_u32 (n : Int) (h₀ : 0 ≤ n) (h₁ : n < 2 ^ 32) : IntKind.u32.wrap n = n := by rw [IntKind.wrap_u32]; omega
theorem and_nat (a b : Nat) (ha : a < 2 ^ 32) (hb : b < 2 ^ 32) : Go.bits .and .u32 (a : Int) (b : Int) = ((a &&& b : Nat) : Int) := (bits_nat .u32 32 (by decide) wraps_u32 a b ha hb).1
theorem or_nat (a b : Nat) (ha : a < 2 ^ 32) (hb : b < 2 ^ 32) : Go.bits .or .u32 (a : Int) (b : Int) = ((a ||| b : Nat) : Int) := (bits_nat .u32 32 (by decide) wraps_u32 a b ha hb).2
theorem shl_one (i : Nat) (hi : i < 32) : shl .u32 1 (i : Int) = ((2 ^ i : Nat) : Int) := by
  have hp : 2 ^ i < 2 ^ 32 := Nat.pow_lt_pow_right (by decide) hi
  unfold shl
  rw [show min ((i : Int).toNat) (IntKind.bits .u32) = i by simp [IntKind.bits]; omega, Int.one_mul]
  have e : ((2 : Int) ^ i) = ((2 ^ i : Nat) : Int) := by norm_cast
  rw [e, wraps_u32 _ (Int.natCast_nonneg _) (by exact_mod_cast hp)]
theorem shr_nat (a i : Nat) (hi : i < 32) : shr .u32 (a : Int) (i : Int) = ((a / 2 ^ i : Nat) : Int) := by
  unfold shr
  rw [show min ((i : Int).toNat) (IntKind.bits .u32) = i by simp [IntKind.bits]; omega]
  norm_cast
/-- 'm >> i & 1'. -/
theorem bit_val (B i : Nat) (hB : B < 2 ^ 32) (hi : i < 32) : Go.bits .and .u32 (shr .u32 (B : Int) (i : Int)) 1 = if B.testBit i then 1 else 0 := by
  rw [shr_nat B i hi]
  have h1 : B / 2 ^ i < 2 ^ 32 := Nat.lt_of_le_of_lt (Nat.div_le_self _ _) hB
  have e := and_nat (B / 2 ^ i) 1 h1 (by decide)
  rw [show ((1 : Nat) : Int) = (1 : Int) from rfl] at e
  rw [e, Nat.and_one_is_mod]
  have h2 : B.testBit i = (B / 2 ^ i).testBit 0 := by rw [Nat.testBit_div_two_pow, Nat.zero_add]
  rw [h2, Nat.testBit_zero]
  by_cases h : B / 2 ^ i % 2 = 1
  · simp [h]
  · have : B / 2 ^ i % 2 = 0 := by omega
    simp [this]
theorem bit_form (B i : Nat) (hB : B < 2 ^ 32) (hi : i < 32) (I : Int) (hI : I = (i : Int)) : ∃ T : Int, (B : Int) / 2 ^ min I.toNat 32 = T ∧ (B : Int) / 2 ^ I.toNat = T ∧ Go.bits .and .u32 T 1 = (if B.testBit i then 1 else 0) := by
  subst hI
  refine ⟨(B : Int) / 2 ^ i, ?_, ?_, ?_⟩
  · rw [show min ((i : Int).toNat) 32 = i by simp; omega]
  · simp
  · have h := bit_val B i hB hi
    rw [shr_nat B i hi] at h
    have e : ((B / 2 ^ i : Nat) : Int) = (B : Int) / 2 ^ i := by norm_cast
    rwa [e] at h
/-- The bits of some numbers. -/
def maskN (ds : List Nat) : Nat := ds.foldl (fun m d => m ||| 2 ^ d) 0
theorem maskN_snoc (ds : List Nat) (d : Nat) : maskN (ds ++ [d]) = maskN ds ||| 2 ^ d := by simp [maskN]
theorem fold_bit (ds : List Nat) (m k : Nat) : (ds.foldl (fun m d => m ||| 2 ^ d) m).testBit k = (m.testBit k || ds.contains k) := by
  induction ds generalizing m with
  | nil => simp
  | cons d ds ih =>
    rw [List.foldl_cons, ih, Nat.testBit_or, Nat.testBit_two_pow, Bool.eq_iff_iff]
    simp
    constructor
    · rintro ((h | h) | h)
      · exact .inl h
      · exact .inr (.inl h.symm)
      · exact .inr (.inr h)
    · rintro (h | h | h)
      · exact .inl (.inl h)
      · exact .inl (.inr h.symm)
      · exact .inr h
theorem maskN_bit (ds : List Nat) (k : Nat) : (maskN ds).testBit k = ds.contains k := by unfold maskN; rw [fold_bit]; simp
theorem fold_lt (ds : List Nat) (m n : Nat) (hm : m < 2 ^ n) (h : ∀ d ∈ ds, d < n) : ds.foldl (fun m d => m ||| 2 ^ d) m < 2 ^ n := by
  induction ds generalizing m with
  | nil => exact hm
  | cons d ds ih =>
    rw [List.foldl_cons]
    exact ih _ (Nat.or_lt_two_pow hm (Nat.pow_lt_pow_right (by decide) (h d (by simp)))) (fun x hx => h x (by simp [hx]))
theorem maskN_lt (ds : List Nat) (n : Nat) (h : ∀ d ∈ ds, d < n) : maskN ds < 2 ^ n := fold_lt ds 0 n (Nat.pow_pos (by decide)) h
theorem shl_facts (i : Nat) (hi : i < 32) (I : Int) (hI : I = (i : Int)) : ∃ S : Int, S = ((2 ^ i : Nat) : Int) ∧ IntKind.u32.wrap (1 * 2 ^ min I.toNat 32) = S ∧ IntKind.u32.wrap (1 * 2 ^ I.toNat) = S ∧ IntKind.u32.wrap (2 ^ min I.toNat 32) = S ∧ IntKind.u32.wrap (2 ^ I.toNat) = S ∧ (2 : Int) ^ I.toNat % 4294967296 = S := by
  subst hI
  have h := shl_one i hi
  have hs1 : IntKind.u32.wrap (1 * 2 ^ min ((i : Int)).toNat 32) = ((2 ^ i : Nat) : Int) := h
  have hs2 : IntKind.u32.wrap (1 * 2 ^ ((i : Int)).toNat) = ((2 ^ i : Nat) : Int) := shl_small h (by simp [IntKind.bits]; omega)
  have hs3 : IntKind.u32.wrap (2 ^ min ((i : Int)).toNat 32) = ((2 ^ i : Nat) : Int) := by have h_ := hs1; rwa [Int.one_mul] at h_
  have hs4 : IntKind.u32.wrap (2 ^ ((i : Int)).toNat) = ((2 ^ i : Nat) : Int) := by have h_ := hs2; rwa [Int.one_mul] at h_
  exact ⟨_, rfl, hs1, hs2, hs3, hs4, hs4⟩
end Go.Proofs.Ytiipbibbppgbgaa.T
namespace Go.Proofs.Ytiipbibbppgbgaa.T
open Go.RowKit Go.Proofs.Ytiipbibbppgbgaa.PTopFates Go.Proofs.YtiipbibbppgbgaaW.PrintWords Go.Proofs.YtiipbibbppgbgaaW.PrintLast Go.Proofs.YtiipbibbppgbgaaW.PrintMore
set_option linter.unusedVariables false
set_option linter.unusedSimpArgs false

theorem info48 : (Try.prog.info? 48).map (fun i => (i.zero, i.size, i.bytes)) = some (some (.int .u32 0), 1, 4) := by kernel_rfl
/-- What node i waits for, by its names. -/
def Deps (ns : List S43) (D : Nat → List Nat) : Prop := ∀ i, i < ns.length → (ns.getD i z43).f1 = (D i).map nm ∧ (∀ d ∈ D i, d < i) ∧ (D i).length ≤ 12
/-- The masks of the first n nodes. -/
def masksL (D : Nat → List Nat) (n : Nat) : List Int := (List.range n).map (fun i => ((maskN (D i) : Nat) : Int))
theorem masksL_succ (D : Nat → List Nat) (n : Nat) : masksL D (n + 1) = masksL D n ++ [((maskN (D n) : Nat) : Int)] := by simp [masksL, List.range_succ]
theorem masksL_len (D : Nat → List Nat) (n : Nat) : (masksL D n).length = n := by simp [masksL]
set_option maxHeartbeats 4000000 in
set_option maxRecDepth 100000 in
theorem masks_calls (t : ByteArray) (A : Option Addr) (c : Nat) (ns : List S43) (D : Nat → List Nat) (w : World) (hr : Kd.C k43 w A ns.length ns) (hn : Names ns) (hl : ns.length ≤ 12) (hD : Deps ns D) :
    Calls Try.prog 32 #[.agg #[.string t, .slice A ns.length c]] w fun e w' => ∃ A' c', e = .returned (.slice A' ns.length c') ∧ (Kd.int .u32).Q 48 w' w.heap.size (fun _ => True) (.slice A' ns.length c') (masksL D ns.length) ∧ Below w.heap.size w w' := by
  have hu := Try.underlying27
  have hu43 := Try.underlying43
  have hb1 := below_alloc (Below.refl w.heap.size w) (.cells #[.string t, .slice A ns.length c] 27)
  have HK := Aside0.mk (blk_new w (.cells #[.string t, .slice A ns.length c] 27))
  have HR := Aside0.mk hr
  have HN := Aside0.mk hn
  have HD := Aside0.mk hD
  have hc1 : (w.alloc (.cells #[.string t, .slice A ns.length c] 27)).cell? ⟨w.heap.size, 1, none⟩ = some (.slice A ns.length c) := (blk_cell HK.out 1).trans rfl
  have HB := Aside0.mk hb1
  have hs1 : (w.alloc (.cells #[.string t, .slice A ns.length c] 27)).heap.size = w.heap.size + 1 := by simp
  clear hb1 hr hn hD
  go_enter Try.func32, Try.ntmps32
  go_upto_region 1 with (fail)
  generalize w.alloc (.cells #[.string t, .slice A ns.length c] 27) = w1 at *
  have HI := Aside0.mk (Kd.Q_nil (Kd.int .u32) 48 w1 w1.heap.size (fun _ => True))
  have HB1 := Aside0.mk (Below.refl w1.heap.size w1)
  go_wp2
  go_loopw [3, 5, 6, 8, 9, 13] (fun v3 _ _ _ _ v13 wr => ∃ (p : Int) (i : Nat) (L : List Int) (A3 : Option Addr) (c3 : Nat), v3 = .slice A3 L.length c3 ∧ v13 = .int .i64 p ∧ Aside0 (p = (i : Int)) ∧ i ≤ ns.length ∧ Aside0 (L = masksL D i) ∧
      Aside0 ((Kd.int .u32).Q 48 wr w1.heap.size (fun _ => True) (.slice A3 L.length c3) L) ∧ Aside0 (Below w1.heap.size w1 wr)) (fun _ _ _ _ _ v13 _ => ns.length - (intOf v13).toNat)
  case atStart => exact ⟨_, 0, [], none, 0, rfl, rfl, Aside0.mk rfl, by omega, Aside0.mk rfl, HI, HB1⟩
  case round =>
    clear HI HB1
    obtain ⟨p, i, L, A3, c3, rfl, rfl, HP, hi, HL, HI, HB1⟩ := hrel
    have HBW := Aside0.mk (HB.out.trans (HB1.out.mono (by omega)))
    by_cases hin : i < ns.length
    · have hlt : decide (p < (ns.length : Int)) = true := decide_eq_true (by rw [HP.out]; omega)
      have hp0 : 0 ≤ p := by rw [HP.out]; omega
      have hp1 : p < (ns.length : Int) := by rw [HP.out]; omega
      have HW : Aside0 (p + 1 = ((i + 1 : Nat) : Int)) := Aside0.mk (by rw [HP.out]; omega)
      obtain ⟨ad, A1, c1, e, hx0, hx1, hx2, hx3, hx4, hx5, hl1, hC1⟩ := at_T43 (Kd.C_below HR.out HBW.out) p hp0 hp1
      cases e
      obtain ⟨hd1, hd2, hd3⟩ := HD.out i hin
      have hrd : (rd_T43 ns p).f1 = (D i).map nm := by unfold rd_T43; rw [HP.out]; exact hd1
      have HMS := Aside0.mk (masksL_succ D i)
      generalize rd_T43 ns p = X at *
      obtain ⟨f0, f1, f2, f3, f4, f5⟩ := X
      simp only at hx0 hx1 hx2 hx3 hx4 hx5 hl1 hC1 hrd
      have HFL := Aside0.mk (show f1.length = (D i).length by rw [hrd]; simp)
      have HF1 := Aside0.mk hrd
      have HD2 := Aside0.mk hd2
      have HC1 := Aside0.mk hC1
      have hLl : L.length ≤ 12 := by rw [HL.out, masksL_len]; omega
      clear hrd hd1 hd2 hC1
      generalize D i = ds at *
      have hszw := HBW.out.size
      go_upto_region 5 with (fail)
      have hb2 := below_alloc (Below.refl wr.heap.size wr) (.cells #[.string f0, .slice A1 f1.length c1, .int .i64 f2, .int .i64 f3, .int .i64 f4, .string f5] 43)
      have hbk2 := blk_new wr (.cells #[.string f0, .slice A1 f1.length c1, .int .i64 f2, .int .i64 f3, .int .i64 f4, .string f5] 43)
      have HI2 := Aside0.mk (Kd.Q_below HI.out hb2)
      have HB2 := Aside0.mk (below_step HB1.out hb2)
      have HC2 := Aside0.mk (Kd.C_below HC1.out hb2)
      have hz1 : (wr.alloc (.cells #[.string f0, .slice A1 f1.length c1, .int .i64 f2, .int .i64 f3, .int .i64 f4, .string f5] 43)).cell? ⟨wr.heap.size, 1, none⟩ = some (.slice A1 f1.length c1) := (blk_cell hbk2 1).trans rfl
      clear hb2 hbk2 hx0 hx1 hx2 hx3 hx4 hx5 HI HB1 HC1 HBW
      generalize wr.alloc (.cells #[.string f0, .slice A1 f1.length c1, .int .i64 f2, .int .i64 f3, .int .i64 f4, .string f5] 43) = w2 at *
      generalize wr.heap.size = gb at *
      have HB3 := Aside0.mk (Below.refl w2.heap.size w2)
      go_wp2
      go_loopw [6, 8, 9, 20] (fun v6 _ _ v20 wr => ∃ (q : Int) (j : Nat) (M : Int), v6 = .int .u32 M ∧ v20 = .int .i64 q ∧ Aside0 (q = (j : Int)) ∧ j ≤ ds.length ∧ Aside0 (M = ((maskN (ds.take j) : Nat) : Int)) ∧ Aside0 (Below w2.heap.size w2 wr)) (fun _ _ _ v20 _ => ds.length - (intOf v20).toNat)
      case atStart => exact ⟨_, 0, 0, rfl, rfl, Aside0.mk rfl, by omega, Aside0.mk rfl, HB3⟩
      case round =>
        clear HB3
        obtain ⟨q, j, M, rfl, rfl, HQ, hj, HM, HB3⟩ := hrel
        by_cases hjn : j < ds.length
        · have hlt2 : decide (q < (f1.length : Int)) = true := decide_eq_true (by rw [HQ.out, HFL.out]; omega)
          have hq0 : 0 ≤ q := by rw [HQ.out]; omega
          have hq1 : q < (f1.length : Int) := by rw [HQ.out, HFL.out]; omega
          have HWj : Aside0 (q + 1 = ((j + 1 : Nat) : Int)) := Aside0.mk (by rw [HQ.out]; omega)
          obtain ⟨ad2, e, hs0⟩ := Kd.at_string (Kd.C_below HC2.out HB3.out) q hq0 hq1
          cases e
          obtain ⟨d, hd⟩ : ∃ d, ds[j]? = some d := ⟨_, List.getElem?_eq_getElem hjn⟩
          have hdm : d ∈ ds := List.mem_of_getElem? hd
          have hdi := HD2.out d hdm
          have hrs : rdOf ByteArray.empty f1 q = nm d := by
            unfold rdOf
            rw [HF1.out, HQ.out, List.getD_eq_getElem?_getD, Int.toNat_natCast, List.getElem?_map, hd]
            rfl
          rw [hrs] at hs0
          have hM2 : maskN (ds.take (j + 1)) = maskN (ds.take j) ||| 2 ^ d := by
            rw [List.take_add_one, hd]
            exact maskN_snoc _ _
          have hmlt : maskN (ds.take j) < 2 ^ i := maskN_lt _ _ (fun x hx => HD2.out x (List.mem_of_mem_take hx))
          obtain ⟨S, hS, hs1', hs2', hs3', hs4', hs5'⟩ := shl_facts d (by omega) (d : Int) rfl
          have hor : Go.bits .or .u32 M S = ((maskN (ds.take (j + 1)) : Nat) : Int) := by
            rw [HM.out, hS, or_nat _ _ (Nat.lt_of_lt_of_le hmlt (Nat.pow_le_pow_right (by decide) (by omega))) (Nat.pow_lt_pow_right (by decide) (by omega)), hM2]
          obtain ⟨M2, hM2e⟩ : ∃ M2, M2 = ((maskN (ds.take (j + 1)) : Nat) : Int) := ⟨_, rfl⟩
          rw [← hM2e] at hor
          have HM2 := Aside0.mk hM2e
          have HCL := Aside0.mk (fun (w3 : World) (h : Below w2.heap.size w2 w3) => find_calls t (some ad) c ns d w3 (Kd.C_below HR.out (HB.out.trans ((HB2.out.trans (h.mono (by have := HB2.out.size; omega))).mono (by omega)))) HN.out (by omega) hl)
          have hge : decide ((d : Int) ≥ 0) = true := decide_eq_true (by omega)
          have hge2 : decide (0 ≤ (d : Int)) = true := decide_eq_true (by omega)
          have hkb := blk_below (blk_below HK.out HB2.out) HB3.out
          have hk0 : wr.cell? ⟨w.heap.size, 0, none⟩ = some (.string t) := (blk_cell hkb 0).trans rfl
          have hk1 : wr.cell? ⟨w.heap.size, 1, none⟩ = some (.slice (some ad) ns.length c) := (blk_cell hkb 1).trans rfl
          have hd32 : d < 12 := by omega
          have hf12 : f1.length ≤ 12 := by rw [HFL.out]; exact hd3
          have hs6 : (2 : Int) ^ d % 4294967296 = S := by simpa using hs5'
          have HDN := Aside0.mk (show ((d : Int)).toNat = d from rfl)
          have hd0 : 0 ≤ (d : Int) := by omega
          clear hrs hM2 hmlt hS hM2e hdm hd hkb
          go_wp2_with (first | (go_at_call 28; go_loud (refine (HCL.out wr HB3.out).mono ?_; rintro e w3 ⟨rfl, hb⟩; have HB4 := Aside0.mk (below_step HB3.out hb); clear hb)))
          go_roundw
          case rel => exact ⟨_, j + 1, M2, rfl, rfl, HWj, by omega, HM2, HB4⟩
          case measure => have := HWj.out; have := HQ.out; simp [intOf] at *; omega
        · have hlt2 : decide (q < (f1.length : Int)) = false := decide_eq_false (by rw [HQ.out, HFL.out]; omega)
          have hjt : ds.take j = ds := List.take_of_length_le (by omega)
          rw [hjt] at HM
          have HI3 := Aside0.mk (Kd.Q_below HI2.out HB3.out)
          have HB4 := Aside0.mk (HB2.out.trans (HB3.out.mono (by have := HB2.out.size; omega)))
          have hlen : (L ++ [M]).length = L.length + 1 := by simp
          clear HI2
          go_wp2_with (first | ((with_reducible refine gate_builtin (b := .append) (xs := #[.tmp 34, .tmp 36]) rfl ?_); at_builtin; go_loud (refine Kd.Q_append (Kd.int .u32) (w0 := w1) w1.heap.size rfl (.tmp 34) (.tmp 36) 76 48 (.int .u32 0) 4 rfl Try.underlying76 info48 rfl (by decide) (by decide) (.slice A3 L.length c3) L M [.int .u32 M] (fun _ => True) (fun _ => False) rfl rfl ?pM (fun _ hk => hk.elim) (fun _ _ => trivial) ?pQ HB4.out HB4.out.size ?pL ?_; (case pM => exact rfl); (case pQ => exact HI3.out); (case pL => omega); intro v1 w4 ho hb hg hat; obtain ⟨A6, c6, rfl, hcc⟩ := Kd.Q_slice ho; have HI4 := Aside0.mk ho; have HB5 := Aside0.mk hb; clear ho hb hg hat)))
          go_roundw
          case rel => exact ⟨_, i + 1, L ++ [M], A6, c6, by rw [hlen], rfl, HW, by omega, Aside0.mk (by rw [HMS.out, HL.out, HM.out]), HI4, HB5⟩
          case measure => have := HW.out; have := HP.out; simp [intOf] at *; omega
    · have hlt : decide (p < (ns.length : Int)) = false := decide_eq_false (by rw [HP.out]; omega)
      have hie : i = ns.length := by omega
      have hLl : L.length = ns.length := by rw [HL.out, masksL_len]; omega
      rw [hLl] at HI ⊢
      go_wp2
      go_ret
      exact ⟨A3, c3, rfl, Kd.Q_lower (by rw [← hie, ← HL.out]; have := HI.out; rwa [← hie] at this) (by omega), HBW.out⟩
end Go.Proofs.Ytiipbibbppgbgaa.T
namespace Go.Proofs.Ytiipbibbppgbgaa.T
open Go.RowKit Go.Proofs.Ytiipbibbppgbgaa.PTopFates Go.Proofs.YtiipbibbppgbgaaW.PrintWords Go.Proofs.YtiipbibbppgbgaaW.PrintLast Go.Proofs.YtiipbibbppgbgaaW.PrintMore
set_option linter.unusedVariables false
set_option linter.unusedSimpArgs false

theorem info53 : (Try.prog.info? 53).map (fun i => (i.zero, i.size, i.bytes)) = some (some (.agg #[.int .i64 0, .int .i64 0, .int .i64 0, .int .i64 0]), 4, 32) := by kernel_rfl
theorem C_none {α : Type} {d : Kd α} {w : World} {n : Nat} {xs : List α} (h : d.C w none n xs) : n = 0 := by
  obtain ⟨h1, _, h3⟩ := h
  rcases Nat.eq_zero_or_pos n with h0 | h0
  · exact h0
  · obtain ⟨ad, e, _⟩ := h3 h0
    cases e
theorem eqlNil76 (w : World) (A : Option Addr) (n c : Nat) : (binOp .eql 76 (.slice A n c) (.slice none 0 0)).run Try.prog w = .ok (.bool A.isNone) w := by
  have h : ∀ d : Nat, (Op.equalIn (d + 1) 76 (.slice A n c) (.slice none 0 0)).run Try.prog w = .ok A.isNone w := fun d => by
    cases A <;> simp [Op.equalIn, run_underlying Try.underlying76]
  simp only [binOp]
  simp [Op.equal, Op.maxDepth, h 9999]
attribute [local go_sem high] eqlNil76
set_option maxHeartbeats 2000000 in
set_option maxRecDepth 100000 in
theorem clone43_calls (A : Option Addr) (c : Nat) (xs : List (Int)) (W : World) (hr : Kd.C (Kd.int .u32) W A xs.length xs) (hl : xs.length ≤ 1000000) :
    Calls Try.prog 43 #[.slice A xs.length c] W fun e W' => ∃ A' c', e = .returned (.slice A' xs.length c') ∧ Kd.R (Kd.int .u32) 48 W' W.heap.size (fun _ => True) (.slice A' xs.length c') xs ∧ Below W.heap.size W W' := by
  have HR := Aside0.mk hr
  clear hr
  have HB := Aside0.mk (Below.refl W.heap.size W)
  cases A with
  | none =>
    have h0 := C_none HR.out
    have hxs : xs = [] := List.length_eq_zero_iff.1 h0
    subst hxs
    go_enter Try.func43, Try.ntmps43
    go_wp2
    go_ret
    exact ⟨none, 0, rfl, Kd.R_nil _ _ _ _ _, HB.out⟩
  | some ad =>
    go_enter Try.func43, Try.ntmps43
    go_upto_region 3 with (fail)
    go_wp2_with (first
      | ((with_reducible refine gate_dst (N := 5) rfl ?_); go_loud (refine Kd.R_lit ((Kd.int .u32)) W.heap.size 48 rfl rfl (xs := []) (inner := []) (ok := fun _ => True) (okp := fun _ => True) (by first | (go_simp; done) | (go_simp; rfl)) ⟨rfl, fun j p h => by simp at h⟩ (fun _ h => h) trivial (Below.refl _ _) (Nat.le_refl _) (by decide) ?_; intro v1 w1 ho hb hg hnew; obtain ⟨A1, c1, rfl⟩ := Kd.R_slice ho; have HO := Aside0.mk ho; have n0 := Aside0.mk hb; clear HB ho hb hg hnew; have HB := n0; clear n0))
      | ((with_reducible refine gate_dst (N := 7) rfl ?_); go_loud (refine Kd.R_append_rows ((Kd.int .u32)) (Rr := Kd.K ((Kd.int .u32)) w1) (w0 := W) W.heap.size rfl (.tmp 5) (.tmp 6) 76 48 (.int .u32 0) 4 rfl Try.underlying76 info48 rfl (by decide) (by decide) _ [] xs (some ad) xs.length c (fun _ => True) (fun _ => False) rfl rfl HO.out (Kd.C_below HR.out HB.out) (fun x cs h => h) (fun _ h => h.elim) (fun _ _ => trivial) HB.out HB.out.size (by simp; omega) ?_; intro v2 w2 ho hb hg hat; rw [List.nil_append] at ho; obtain ⟨A2, c2, rfl⟩ := Kd.R_slice ho; have HO2 := Aside0.mk ho; have n0 := Aside0.mk hb; clear HB HO ho hb hg hat; have HB := n0; clear n0)))
    go_ret
    exact ⟨A2, c2, rfl, HO2.out, HB.out⟩
theorem eqlNil31 (w : World) (A : Option Addr) (n c : Nat) : (binOp .eql 31 (.slice A n c) (.slice none 0 0)).run Try.prog w = .ok (.bool A.isNone) w := by
  have h : ∀ d : Nat, (Op.equalIn (d + 1) 31 (.slice A n c) (.slice none 0 0)).run Try.prog w = .ok A.isNone w := fun d => by
    cases A <;> simp [Op.equalIn, run_underlying Try.underlying31]
  simp only [binOp]
  simp [Op.equal, Op.maxDepth, h 9999]
attribute [local go_sem high] eqlNil31
set_option maxHeartbeats 2000000 in
set_option maxRecDepth 100000 in
theorem clone17_calls (A : Option Addr) (c : Nat) (xs : List (S53)) (W : World) (hr : Kd.C k53 W A xs.length xs) (hl : xs.length ≤ 1000000) :
    Calls Try.prog 17 #[.slice A xs.length c] W fun e W' => ∃ A' c', e = .returned (.slice A' xs.length c') ∧ Kd.R k53 53 W' W.heap.size (fun _ => True) (.slice A' xs.length c') xs ∧ Below W.heap.size W W' := by
  have HR := Aside0.mk hr
  clear hr
  have HB := Aside0.mk (Below.refl W.heap.size W)
  cases A with
  | none =>
    have h0 := C_none HR.out
    have hxs : xs = [] := List.length_eq_zero_iff.1 h0
    subst hxs
    go_enter Try.func17, Try.ntmps17
    go_wp2
    go_ret
    exact ⟨none, 0, rfl, Kd.R_nil _ _ _ _ _, HB.out⟩
  | some ad =>
    go_enter Try.func17, Try.ntmps17
    go_upto_region 3 with (fail)
    go_wp2_with (first
      | ((with_reducible refine gate_dst (N := 5) rfl ?_); go_loud (refine Kd.R_lit (k53) W.heap.size 53 rfl rfl (xs := []) (inner := []) (ok := fun _ => True) (okp := fun _ => True) (by first | (go_simp; done) | (go_simp; rfl)) ⟨rfl, fun j p h => by simp at h⟩ (fun _ h => h) trivial (Below.refl _ _) (Nat.le_refl _) (by decide) ?_; intro v1 w1 ho hb hg hnew; obtain ⟨A1, c1, rfl⟩ := Kd.R_slice ho; have HO := Aside0.mk ho; have n0 := Aside0.mk hb; clear HB ho hb hg hnew; have HB := n0; clear n0))
      | ((with_reducible refine gate_dst (N := 7) rfl ?_); go_loud (refine Kd.R_append_rows (k53) (Rr := Kd.K (k53) w1) (w0 := W) W.heap.size rfl (.tmp 5) (.tmp 6) 31 53 (.agg #[.int .i64 0, .int .i64 0, .int .i64 0, .int .i64 0]) 32 rfl Try.underlying31 info53 rfl (by decide) (by decide) _ [] xs (some ad) xs.length c (fun _ => True) (fun _ => False) rfl rfl HO.out (Kd.C_below HR.out HB.out) (fun x cs h => by rw [k53_open h]; exact k53_mkM _ _ _ _) (fun _ h => h.elim) (fun _ _ => trivial) HB.out HB.out.size (by simp; omega) ?_; intro v2 w2 ho hb hg hat; rw [List.nil_append] at ho; obtain ⟨A2, c2, rfl⟩ := Kd.R_slice ho; have HO2 := Aside0.mk ho; have n0 := Aside0.mk hb; clear HB HO ho hb hg hat; have HB := n0; clear n0)))
    go_ret
    exact ⟨A2, c2, rfl, HO2.out, HB.out⟩
theorem eqlNil41 (w : World) (A : Option Addr) (n c : Nat) : (binOp .eql 41 (.slice A n c) (.slice none 0 0)).run Try.prog w = .ok (.bool A.isNone) w := by
  have h : ∀ d : Nat, (Op.equalIn (d + 1) 41 (.slice A n c) (.slice none 0 0)).run Try.prog w = .ok A.isNone w := fun d => by
    cases A <;> simp [Op.equalIn, run_underlying Try.underlying41]
  simp only [binOp]
  simp [Op.equal, Op.maxDepth, h 9999]
attribute [local go_sem high] eqlNil41
set_option maxHeartbeats 2000000 in
set_option maxRecDepth 100000 in
theorem clone34_calls (A : Option Addr) (c : Nat) (xs : List (ByteArray)) (W : World) (hr : Kd.C Kd.string W A xs.length xs) (hl : xs.length ≤ 1000000) :
    Calls Try.prog 34 #[.slice A xs.length c] W fun e W' => ∃ A' c', e = .returned (.slice A' xs.length c') ∧ Kd.R Kd.string 9 W' W.heap.size (fun _ => True) (.slice A' xs.length c') xs ∧ Below W.heap.size W W' := by
  have HR := Aside0.mk hr
  clear hr
  have HB := Aside0.mk (Below.refl W.heap.size W)
  cases A with
  | none =>
    have h0 := C_none HR.out
    have hxs : xs = [] := List.length_eq_zero_iff.1 h0
    subst hxs
    go_enter Try.func34, Try.ntmps34
    go_wp2
    go_ret
    exact ⟨none, 0, rfl, Kd.R_nil _ _ _ _ _, HB.out⟩
  | some ad =>
    go_enter Try.func34, Try.ntmps34
    go_upto_region 3 with (fail)
    go_wp2_with (first
      | ((with_reducible refine gate_dst (N := 5) rfl ?_); go_loud (refine Kd.R_lit (Kd.string) W.heap.size 9 rfl rfl (xs := []) (inner := []) (ok := fun _ => True) (okp := fun _ => True) (by first | (go_simp; done) | (go_simp; rfl)) ⟨rfl, fun j p h => by simp at h⟩ (fun _ h => h) trivial (Below.refl _ _) (Nat.le_refl _) (by decide) ?_; intro v1 w1 ho hb hg hnew; obtain ⟨A1, c1, rfl⟩ := Kd.R_slice ho; have HO := Aside0.mk ho; have n0 := Aside0.mk hb; clear HB ho hb hg hnew; have HB := n0; clear n0))
      | ((with_reducible refine gate_dst (N := 7) rfl ?_); go_loud (refine Kd.R_append_rows (Kd.string) (Rr := Kd.K (Kd.string) w1) (w0 := W) W.heap.size rfl (.tmp 5) (.tmp 6) 41 9 (.string ⟨#[]⟩) 16 rfl Try.underlying41 info9 rfl (by decide) (by decide) _ [] xs (some ad) xs.length c (fun _ => True) (fun _ => False) rfl rfl HO.out (Kd.C_below HR.out HB.out) (fun x cs h => h) (fun _ h => h.elim) (fun _ _ => trivial) HB.out HB.out.size (by simp; omega) ?_; intro v2 w2 ho hb hg hat; rw [List.nil_append] at ho; obtain ⟨A2, c2, rfl⟩ := Kd.R_slice ho; have HO2 := Aside0.mk ho; have n0 := Aside0.mk hb; clear HB HO ho hb hg hat; have HB := n0; clear n0)))
    go_ret
    exact ⟨A2, c2, rfl, HO2.out, HB.out⟩
end Go.Proofs.Ytiipbibbppgbgaa.T
namespace Go.Proofs.Ytiipbibbppgbgaa.T
open Go.RowKit Go.Proofs.Ytiipbibbppgbgaa.PTopFates Go.Proofs.YtiipbibbppgbgaaW.PrintWords Go.Proofs.YtiipbibbppgbgaaW.PrintLast Go.Proofs.YtiipbibbppgbgaaW.PrintMore
set_option linter.unusedVariables false
set_option linter.unusedSimpArgs false

/-- Each mask's bits lie below the node's number. -/
def Low (L : List Int) : Prop := ∀ i, i < L.length → ∃ b : Nat, L.getD i 0 = (b : Int) ∧ b < 2 ^ i
theorem low_masks (D : Nat → List Nat) (n : Nat) (h : ∀ i, i < n → ∀ d ∈ D i, d < i) : Low (masksL D n) := fun i hi => by
  rw [masksL_len] at hi
  exact ⟨maskN (D i), by simp [masksL, hi], maskN_lt _ _ (h i hi)⟩
set_option maxHeartbeats 4000000 in
set_option maxRecDepth 100000 in
theorem behind_calls (A : Option Addr) (c : Nat) (xs : List Int) (w : World) (hr : Kd.C (Kd.int .u32) w A xs.length xs) (hl : xs.length ≤ 12) (hL : Low xs) :
    Calls Try.prog 31 #[.slice A xs.length c] w fun e w' => ∃ A' c' L, L.length = xs.length ∧ e = .returned (.slice A' L.length c') ∧ Kd.R (Kd.int .u32) 48 w' w.heap.size (fun _ => True) (.slice A' L.length c') L ∧ Low L ∧ Below w.heap.size w w' := by
  have HCL := Aside0.mk (clone43_calls A c xs w hr (by omega))
  have HLo := Aside0.mk hL
  clear hr hL
  go_enter Try.func31, Try.ntmps31
  go_upto_region 2 with (first | (go_at_call 43; go_loud (refine HCL.out.mono ?_; rintro e w1 ⟨A1, c1, rfl, hq, hb⟩; have HV := Aside0.mk hq; have HB := Aside0.mk hb; have hsz1 := hb.size; clear hq hb)))
  clear HCL
  go_wp2
  go_loopw [4, 10] (fun _ v10 wr => ∃ (p : Int) (k : Nat) (L : List Int), v10 = .int .i64 p ∧ Aside0 (p = (k : Int)) ∧ k ≤ xs.length ∧ Aside0 (L.length = xs.length) ∧ Aside0 (Low L) ∧ Aside0 (Kd.R (Kd.int .u32) 48 wr w.heap.size (fun _ => True) (.slice A1 xs.length c1) L) ∧ Aside0 (Below w.heap.size w wr)) (fun _ v10 _ => xs.length - (intOf v10).toNat)
  case atStart => exact ⟨_, 0, xs, rfl, Aside0.mk rfl, by omega, Aside0.mk rfl, HLo, HV, HB⟩
  case round =>
    clear HV HB hsz1
    obtain ⟨p, k, L, rfl, HP, hk, HLL, HLo2, HV, HB⟩ := hrel
    by_cases hkn : k < xs.length
    · have hlt : decide (p < (xs.length : Int)) = true := decide_eq_true (by rw [HP.out]; omega)
      have hp0 : 0 ≤ p := by rw [HP.out]; omega
      have hp1 : p < (xs.length : Int) := by rw [HP.out]; omega
      have HW : Aside0 (p + 1 = ((k + 1 : Nat) : Int)) := Aside0.mk (by rw [HP.out]; omega)
      go_wp2
      go_loopw [5, 15] (fun _ v15 wr => ∃ (q : Int) (j : Nat) (L : List Int), v15 = .int .i64 q ∧ Aside0 (q = (j : Int)) ∧ j ≤ xs.length ∧ Aside0 (L.length = xs.length) ∧ Aside0 (Low L) ∧ Aside0 (Kd.R (Kd.int .u32) 48 wr w.heap.size (fun _ => True) (.slice A1 xs.length c1) L) ∧ Aside0 (Below w.heap.size w wr)) (fun _ v15 _ => xs.length - (intOf v15).toNat)
      case atStart => exact ⟨_, 0, L, rfl, Aside0.mk rfl, by omega, HLL, HLo2, HV, HB⟩
      case round =>
        clear HLL HLo2 HV HB L
        obtain ⟨q, j, L, rfl, HQ, hj, HLL, HLo2, HV, HB⟩ := hrel
        by_cases hjn : j < xs.length
        · have hlt2 : decide (q < (xs.length : Int)) = true := decide_eq_true (by rw [HQ.out]; omega)
          have hq0 : 0 ≤ q := by rw [HQ.out]; omega
          have hq1 : q < (xs.length : Int) := by rw [HQ.out]; omega
          have HWj : Aside0 (q + 1 = ((j + 1 : Nat) : Int)) := Aside0.mk (by rw [HQ.out]; omega)
          obtain ⟨g, cap, he, hg1, hg2, hgc⟩ := Kd.R_form HV.out (by rw [HLL.out]; omega)
          injection he with ha hl_ hcc
          clear hl_
          subst ha; subst hcc
          have HV2 := Aside0.mk (show Kd.R (Kd.int .u32) 48 wr w.heap.size (fun _ => True) (.slice (some ⟨g, 0, none⟩) xs.length c1) L from HV.out)
          obtain ⟨hx_0, hf_0⟩ := Kd.R_celln 0 HV2.out q hq0 hq1
          obtain ⟨hy_0, hf_1⟩ := Kd.R_celln 0 HV2.out p hp0 hp1
          obtain ⟨b, hbv, hbl⟩ := HLo2.out j (by rw [HLL.out]; exact hjn)
          obtain ⟨b2, hbv2, hbl2⟩ := HLo2.out k (by rw [HLL.out]; exact hkn)
          have hr1 : rdOf 0 L q = (b : Int) := by unfold rdOf; rw [HQ.out]; exact hbv
          have hr2 : rdOf 0 L p = (b2 : Int) := by unfold rdOf; rw [HP.out]; exact hbv2
          rw [hr1] at hx_0
          rw [hr2] at hy_0
          have hb32 : b < 2 ^ 32 := Nat.lt_of_lt_of_le hbl (Nat.pow_le_pow_right (by decide) (by omega))
          have hb232 : b2 < 2 ^ 32 := Nat.lt_of_lt_of_le hbl2 (Nat.pow_le_pow_right (by decide) (by omega))
          obtain ⟨T, hT1, hT2, hT3⟩ := bit_form b k hb32 (by omega) p HP.out
          by_cases hbit : b.testBit k = true
          · rw [hbit, if_pos rfl] at hT3
            have hkj : k < j := by
              apply Classical.byContradiction
              intro hn
              rw [Nat.testBit_lt_two_pow (Nat.lt_of_lt_of_le hbl (Nat.pow_le_pow_right (by decide) (by omega)))] at hbit
              cases hbit
            have hor := or_nat b b2 hb32 hb232
            have hol : b ||| b2 < 2 ^ j := Nat.or_lt_two_pow hbl (Nat.lt_of_lt_of_le hbl2 (Nat.pow_le_pow_right (by decide) (by omega)))
            have hput := Kd.R_putg (Kd.R_drew HV2.out) q (((b ||| b2 : Nat) : Int))
            obtain ⟨Z, hZ⟩ : ∃ Z : Int, Z = ((b ||| b2 : Nat) : Int) := ⟨_, rfl⟩
            rw [← hZ] at hor hput
            obtain ⟨Bv, hBv⟩ : ∃ Bv : Int, Bv = (b : Int) := ⟨_, rfl⟩
            obtain ⟨Bw, hBw⟩ : ∃ Bw : Int, Bw = (b2 : Int) := ⟨_, rfl⟩
            rw [← hBv] at hT1 hT2 hx_0 hor
            rw [← hBw] at hy_0 hor
            have HLow := Aside0.mk (show Low (L.set j Z) from fun i hi => by
              rw [List.length_set] at hi
              by_cases hij : i = j
              · subst hij
                exact ⟨b ||| b2, by rw [List.getD_eq_getElem?_getD, List.getElem?_set_self hi]; exact hZ, hol⟩
              · obtain ⟨b3, h3, h4⟩ := HLo2.out i hi
                exact ⟨b3, by rw [List.getD_eq_getElem?_getD, List.getElem?_set_ne (fun e => hij e.symm), ← List.getD_eq_getElem?_getD]; exact h3, h4⟩)
            have HQN := (show q.toNat = j by rw [HQ.out]; rfl)
            have hput1 := hput.1
            rw [show L.set q.toNat Z = L.set j Z by rw [HQN]] at hput1
            replace hput1 := Aside0.mk hput1
            have hb5 : Below w.heap.size w (wr.drew.setCell ⟨g, q.toNat, none⟩ (.int .u32 Z)) := below_set (below_drew1 HB.out) hg1
            replace hb5 := Aside0.mk hb5
            replace HQN := Aside0.mk HQN
            have HL5 := Aside0.mk (show (L.set j Z).length = xs.length by rw [List.length_set]; exact HLL.out)
            clear hZ hBv hBw hput hbit hol hbl hbl2 hbv hbv2 hr1 hr2 hb32 hb232 HV
            go_upto_region 9 with (fail)
            go_still_tail 10, (by kernel_rfl)
            change wpList _ _ _ _ _ wr.drew
            refine store_event (t := 48) (p := 35) (w1 := wr.drew.setCell ⟨g, q.toNat, none⟩ (.int .u32 Z)) rfl rfl rfl (by first | (go_simp; done) | (go_simp; rfl)) ?_
            intro w5 hw5
            subst hw5
            obtain ⟨L5, hL5⟩ : ∃ L5, L5 = L.set j Z := ⟨_, rfl⟩
            rw [← hL5] at HL5 HLow hput1
            generalize wr.drew.setCell ⟨g, q.toNat, none⟩ (.int .u32 Z) = w5 at *
            go_wp2
            go_roundw
            case rel => exact ⟨_, j + 1, L5, rfl, HWj, by omega, HL5, HLow, hput1, hb5⟩
            all_goals (go_simp; have := HQ.out; have := HWj.out; simp only [intOf]; omega)
          · have hbf : b.testBit k = false := by simpa using hbit
            rw [hbf, if_neg (by decide)] at hT3
            have HB0 : b.testBit k = false := hbf
            obtain ⟨Bv, hBv⟩ : ∃ Bv : Int, Bv = (b : Int) := ⟨_, rfl⟩
            rw [← hBv] at hT1 hT2 hx_0
            clear hBv hbit hbl hbl2 hbv hbv2 hr1 hr2 hb32 hb232 HV hbf HB0
            go_wp2
            go_roundw
            case rel => exact ⟨_, j + 1, L, rfl, HWj, by omega, HLL, HLo2, HV2, HB⟩
            all_goals (go_simp; have := HQ.out; have := HWj.out; simp only [intOf]; omega)
        · have hlt2 : decide (q < (xs.length : Int)) = false := decide_eq_false (by rw [HQ.out]; omega)
          go_wp2
          go_roundw
          case rel => exact ⟨_, k + 1, L, rfl, HW, by omega, HLL, HLo2, HV, HB⟩
          all_goals (go_simp; have := HP.out; have := HW.out; simp only [intOf]; omega)
    · have hlt : decide (p < (xs.length : Int)) = false := decide_eq_false (by rw [HP.out]; omega)
      go_wp2
      go_ret
      exact ⟨A1, c1, L, HLL.out, by rw [HLL.out]; rfl, by rw [HLL.out]; exact HV.out, HLo2.out, HB.out⟩
end Go.Proofs.Ytiipbibbppgbgaa.T
namespace Go.Proofs.Ytiipbibbppgbgaa.T
open Go.RowKit Go.Proofs.Ytiipbibbppgbgaa.PTopFates Go.Proofs.YtiipbibbppgbgaaW.PrintWords Go.Proofs.YtiipbibbppgbgaaW.PrintLast Go.Proofs.YtiipbibbppgbgaaW.PrintMore
set_option linter.unusedVariables false
set_option linter.unusedSimpArgs false

theorem below_of_drawn {w w' : World} (h : Drawn0 w w') : Below w.heap.size w w' := by obtain ⟨n, rfl⟩ := h; exact pw_below_drewN (Below.refl _ _) n
theorem wrap_small {k : Nat} (h : k < 1000000) : wrap64 ((k : Int) + 1) = ((k + 1 : Nat) : Int) := by
  unfold wrap64; omega
theorem index_l (ds : List Nat) (j : Nat) (hj : j < ds.length) (hl : ds.length ≤ 12) (hd : ∀ d ∈ ds, d < 12) (hn : ds.Nodup) :
    ∀ (f i : Nat), i ≤ j → j - i < f → slices_Index_string_string.l0 f (ds.map nm) (nm (ds[j]'hj)) (ds.length : Int) (i : Int) = some (j : Int) := by
  intro f
  induction f with
  | zero => intro i _ h; omega
  | succ f ih =>
    intro i hi hf
    unfold slices_Index_string_string.l0
    have hil : i < ds.length := by omega
    rw [if_pos (by omega), if_pos (by omega), if_pos (by rw [List.length_map]; omega)]
    have hrd : rdOf ByteArray.empty (ds.map nm) (i : Int) = nm (ds[i]'hil) := by
      unfold rdOf
      simp [hil]
    rw [hrd]
    have h1 := hd _ (List.getElem_mem hil)
    have h2 := hd _ (List.getElem_mem hj)
    have he := nm_eq h2 h1
    by_cases hij : i = j
    · subst hij
      rw [if_pos rfl]
    · rw [if_neg, wrap_small (by omega)]
      · exact ih (i + 1) (by omega) (by omega)
      · intro h
        rw [h] at he
        simp at he
        exact List.pairwise_iff_getElem.1 hn i j hil hj (by omega) he.symm
theorem index_f (ds : List Nat) (j : Nat) (hj : j < ds.length) (hl : ds.length ≤ 12) (hd : ∀ d ∈ ds, d < 12) (hn : ds.Nodup) :
    slices_Index_string_string.f 20 (ds.map nm) (nm (ds[j]'hj)) = some (j : Int) := by
  unfold slices_Index_string_string.f
  rw [List.length_map]
  exact index_l ds j hj hl hd hn 20 0 (by omega) (by omega)
set_option maxHeartbeats 4000000 in
set_option maxRecDepth 100000 in
theorem graph_calls (t : ByteArray) (A : Option Addr) (c : Nat) (ns : List S43) (D : Nat → List Nat) (w : World) (hr : Kd.C k43 w A ns.length ns) (ht : Letters t) (hn : Names ns) (h1 : 1 ≤ ns.length) (hl : ns.length ≤ 12) (hD : Deps ns D) (hdup : ∀ i, i < ns.length → (D i).Nodup) (hg : ∀ i, i < ns.length → GoodN (ns.getD i z43)) :
    Calls Try.prog 13 #[.agg #[.string t, .slice A ns.length c]] w fun e w' => e = .returned (.tuple #[.int .i64 0, .int .i64 0]) ∧ Below w.heap.size w w' := by
  have hu := Try.underlying27
  have hu43 := Try.underlying43
  have hb1 := below_alloc (Below.refl w.heap.size w) (.cells #[.string t, .slice A ns.length c] 27)
  have HK := Aside0.mk (blk_new w (.cells #[.string t, .slice A ns.length c] 27))
  have HR := Aside0.mk hr
  have HN := Aside0.mk hn
  have HD := Aside0.mk hD
  have HG := Aside0.mk hg
  have HDU := Aside0.mk hdup
  have hc0 : (w.alloc (.cells #[.string t, .slice A ns.length c] 27)).cell? ⟨w.heap.size, 0, none⟩ = some (.string t) := (blk_cell HK.out 0).trans rfl
  have hc1 : (w.alloc (.cells #[.string t, .slice A ns.length c] 27)).cell? ⟨w.heap.size, 1, none⟩ = some (.slice A ns.length c) := (blk_cell HK.out 1).trans rfl
  have HB := Aside0.mk hb1
  have hs1 : (w.alloc (.cells #[.string t, .slice A ns.length c] 27)).heap.size = w.heap.size + 1 := by simp
  have HT := Aside0.mk ht
  clear hb1 hr hn hD hdup hg ht
  go_enter Try.func13, Try.ntmps13
  go_upto_region 1 with (fail)
  generalize w.alloc (.cells #[.string t, .slice A ns.length c] 27) = w1 at *
  have e1 : decide ((ns.length : Int) < 1) = false := decide_eq_false (by omega)
  have e2 : decide (12 < (ns.length : Int)) = false := decide_eq_false (by omega)
  have e2' : decide ((ns.length : Int) > 12) = false := decide_eq_false (by omega)
  have HCN := Aside0.mk (named_calls t w1 HT.out)
  go_wp2_with (first | (go_at_call 27; go_loud (refine HCN.out.mono ?_; rintro e w2 ⟨rfl, hb⟩; have HB2 := Aside0.mk (below_then HB.out (by omega) hb); have HK2 := Aside0.mk (blk_below HK.out hb); have hc0 := pw_cell_below hb hc0; have hc1 := pw_cell_below hb hc1; clear hb)))
  clear HCN HB HK
  go_loopw [32] (fun v32 wr => ∃ (p : Int) (i : Nat), v32 = .int .i64 p ∧ Aside0 (p = (i : Int)) ∧ i ≤ ns.length ∧ Aside0 (Below w2.heap.size w2 wr)) (fun v32 _ => ns.length - (intOf v32).toNat)
  case atStart => exact ⟨_, 0, rfl, Aside0.mk rfl, by omega, Aside0.mk (Below.refl _ _)⟩
  case round =>
    obtain ⟨p, i, rfl, HP, hi, HB⟩ := hrel
    have hk0 : wr.cell? ⟨w.heap.size, 0, none⟩ = some (.string t) := (blk_cell (blk_below HK2.out HB.out) 0).trans rfl
    have hk1 : wr.cell? ⟨w.heap.size, 1, none⟩ = some (.slice A ns.length c) := (blk_cell (blk_below HK2.out HB.out) 1).trans rfl
    have HBW := Aside0.mk (HB2.out.trans (HB.out.mono (by have := HB2.out.size; omega)))
    by_cases hin : i < ns.length
    · have hlt : decide (p < (ns.length : Int)) = true := decide_eq_true (by rw [HP.out]; omega)
      have hp0 : 0 ≤ p := by rw [HP.out]; omega
      have hp1 : p < (ns.length : Int) := by rw [HP.out]; omega
      have HW : Aside0 (p + 1 = ((i + 1 : Nat) : Int)) := Aside0.mk (by rw [HP.out]; omega)
      obtain ⟨ad, A1, c1, e, hx0, hx1, hx2, hx3, hx4, hx5, hl1, hC1⟩ := at_T43 (Kd.C_below HR.out HBW.out) p hp0 hp1
      cases e
      have hrd : (rd_T43 ns p).f0 = nm i := by unfold rd_T43; rw [HP.out]; exact HN.out i hin
      have hgd : GoodN (rd_T43 ns p) := by unfold rd_T43; rw [HP.out]; exact HG.out i hin
      have hi12 : i < 12 := by omega
      generalize rd_T43 ns p = X at *
      obtain ⟨f0, f1, f2, f3, f4, f5⟩ := X
      simp only at hx0 hx1 hx2 hx3 hx4 hx5 hl1 hC1 hrd
      subst hrd
      have HGD := Aside0.mk hgd
      clear hC1 hgd
      have hcc : decide ((i : Int) < p) = false := decide_eq_false (by rw [HP.out]; omega)
      go_upto_region 8 with (fail)
      have hb2 := below_alloc (Below.refl wr.heap.size wr) (.cells #[.string (nm i), .slice A1 f1.length c1, .int .i64 f2, .int .i64 f3, .int .i64 f4, .string f5] 43)
      have hbk2 := blk_new wr (.cells #[.string (nm i), .slice A1 f1.length c1, .int .i64 f2, .int .i64 f3, .int .i64 f4, .string f5] 43)
      have HBa := Aside0.mk (below_step HBW.out hb2)
      have HBb := Aside0.mk (below_step HB.out hb2)
      have HKb := Aside0.mk (blk_below (blk_below HK2.out HB.out) hb2)
      generalize wr.alloc (.cells #[.string (nm i), .slice A1 f1.length c1, .int .i64 f2, .int .i64 f3, .int .i64 f4, .string f5] 43) = w3 at *
      have HK3 := Aside0.mk hbk2
      generalize wr.heap.size = gb at *
      clear hx0 hx1 hx2 hx3 hx4 hx5 hk0 hk1 hb2 hbk2 HB HBW
      have hy0 : w3.cell? ⟨gb, 0, none⟩ = some (.string (nm i)) := (blk_cell HK3.out 0).trans rfl
      have hk0 : w3.cell? ⟨w.heap.size, 0, none⟩ = some (.string t) := (blk_cell HKb.out 0).trans rfl
      have hk1 : w3.cell? ⟨w.heap.size, 1, none⟩ = some (.slice (some ad) ns.length c) := (blk_cell HKb.out 1).trans rfl
      have HC1 := Aside0.mk (named_calls (nm i) w3 (nm_letters i hi12))
      have HC2 := Aside0.mk (fun (w4 : World) (h : Below w3.heap.size w3 w4) => find_calls t (some ad) c ns i w4 (Kd.C_below HR.out (below_step HBa.out h)) HN.out hin hl)
      have HC3 := Aside0.mk (fun (w4 : World) => check_calls ⟨nm i, f1, f2, f3, f4, f5⟩ A1 c1 w4 HGD.out)
      clear hi12
      go_wp2_with (first
        | (go_at_call 27; go_loud (refine HC1.out.mono ?_; rintro e w4 ⟨rfl, hb⟩; have HB4 := Aside0.mk hb; have hk0 := pw_cell_below hb hk0; have hk1 := pw_cell_below hb hk1; have hy0 := pw_cell_below hb hy0; clear hb))
        | (go_at_call 28; go_loud (refine (HC2.out w4 HB4.out).mono ?_; rintro e w5 ⟨rfl, hb⟩; have HB5 := Aside0.mk (below_step HB4.out hb); clear hb; have HK5 := Aside0.mk (blk_below HK3.out HB5.out); have hz0 : w5.cell? ⟨gb, 0, none⟩ = some (.string (nm i)) := (blk_cell HK5.out 0).trans rfl; have hz1 : w5.cell? ⟨gb, 1, none⟩ = some (.slice A1 f1.length c1) := (blk_cell HK5.out 1).trans rfl; have hz2 : w5.cell? ⟨gb, 2, none⟩ = some (.int .i64 f2) := (blk_cell HK5.out 2).trans rfl; have hz3 : w5.cell? ⟨gb, 3, none⟩ = some (.int .i64 f3) := (blk_cell HK5.out 3).trans rfl; have hz4 : w5.cell? ⟨gb, 4, none⟩ = some (.int .i64 f4) := (blk_cell HK5.out 4).trans rfl; have hz5 : w5.cell? ⟨gb, 5, none⟩ = some (.string f5) := (blk_cell HK5.out 5).trans rfl))
        | (go_at_call 29; go_loud (refine (HC3.out w5).mono ?_; rintro e w6 ⟨rfl, hb⟩; have HB6 := Aside0.mk (below_step HBb.out (below_step HB5.out hb)); clear hb)))
      go_roundw
      case rel => exact ⟨_, i + 1, rfl, HW, by omega, HB6⟩
      case measure => have := HW.out; have := HP.out; simp [intOf] at *; omega
    · have hlt : decide (p < (ns.length : Int)) = false := decide_eq_false (by rw [HP.out]; omega)
      have HK3 := Aside0.mk (blk_below HK2.out HB.out)
      clear hin HP hi
      go_wp2
      clear hk0 hk1
      rename World => wa
      go_loopw [60] (fun v60 wq => ∃ (p : Int) (i : Nat), v60 = .int .i64 p ∧ Aside0 (p = (i : Int)) ∧ i ≤ ns.length ∧ Aside0 (Below wa.heap.size wa wq)) (fun v60 _ => ns.length - (intOf v60).toNat)
      case atStart => exact ⟨_, 0, rfl, Aside0.mk rfl, by omega, Aside0.mk (Below.refl _ _)⟩
      case round =>
        rename World => wq
        clear HB hlt
        obtain ⟨p, i, rfl, HP, hi, HB⟩ := hrel
        have HBq := Aside0.mk (below_step HBW.out HB.out)
        by_cases hin : i < ns.length
        · have hlt : decide (p < (ns.length : Int)) = true := decide_eq_true (by rw [HP.out]; omega)
          have hp0 : 0 ≤ p := by rw [HP.out]; omega
          have hp1 : p < (ns.length : Int) := by rw [HP.out]; omega
          have HW : Aside0 (p + 1 = ((i + 1 : Nat) : Int)) := Aside0.mk (by rw [HP.out]; omega)
          obtain ⟨ad, A1, c1, e, hx0, hx1, hx2, hx3, hx4, hx5, hl1, hC1⟩ := at_T43 (Kd.C_below HR.out HBq.out) p hp0 hp1
          cases e
          obtain ⟨hd1, hd2, hd3⟩ := HD.out i hin
          have hrd : (rd_T43 ns p).f1 = (D i).map nm := by unfold rd_T43; rw [HP.out]; exact hd1
          have HDi := Aside0.mk (HDU.out i hin)
          generalize rd_T43 ns p = X at *
          obtain ⟨f0, f1, f2, f3, f4, f5⟩ := X
          simp only at hx0 hx1 hx2 hx3 hx4 hx5 hl1 hC1 hrd
          have HFL := Aside0.mk (show f1.length = (D i).length by rw [hrd]; simp)
          have HF1 := Aside0.mk hrd
          have HD2 := Aside0.mk hd2
          have HD3 := Aside0.mk hd3
          have HL1 := Aside0.mk hl1
          clear hrd hd1 hd2 hd3 hl1
          generalize D i = ds at *
          go_upto_region 17 with (fail)
          have hb2 := below_alloc (Below.refl wq.heap.size wq) (.cells #[.string f0, .slice A1 f1.length c1, .int .i64 f2, .int .i64 f3, .int .i64 f4, .string f5] 43)
          have hbk2 := blk_new wq (.cells #[.string f0, .slice A1 f1.length c1, .int .i64 f2, .int .i64 f3, .int .i64 f4, .string f5] 43)
          have HBa := Aside0.mk (below_step HBq.out hb2)
          have HBb := Aside0.mk (below_step HB.out hb2)
          have HKb := Aside0.mk (blk_below (blk_below HK3.out HB.out) hb2)
          have HC2 := Aside0.mk (Kd.C_below hC1 hb2)
          generalize wq.alloc (.cells #[.string f0, .slice A1 f1.length c1, .int .i64 f2, .int .i64 f3, .int .i64 f4, .string f5] 43) = w3 at *
          have HKN := Aside0.mk hbk2
          generalize wq.heap.size = gb at *
          clear hx0 hx1 hx2 hx3 hx4 hx5 hb2 hbk2 HB HBq hC1
          have hz1 : w3.cell? ⟨gb, 1, none⟩ = some (.slice A1 f1.length c1) := (blk_cell HKN.out 1).trans rfl
          go_wp2
          go_loopw [68] (fun v68 wp => ∃ (q : Int) (j : Nat), v68 = .int .i64 q ∧ Aside0 (q = (j : Int)) ∧ j ≤ ds.length ∧ Aside0 (Below w3.heap.size w3 wp)) (fun v68 _ => ds.length - (intOf v68).toNat)
          case atStart => exact ⟨_, 0, rfl, Aside0.mk rfl, by omega, Aside0.mk (Below.refl _ _)⟩
          case round =>
            rename World => wp
            obtain ⟨q, j, rfl, HQ, hj, HB3⟩ := hrel
            by_cases hjn : j < ds.length
            · have hlt2 : decide (q < (f1.length : Int)) = true := decide_eq_true (by rw [HQ.out, HFL.out]; omega)
              have hq0 : 0 ≤ q := by rw [HQ.out]; omega
              have hq1 : q < (f1.length : Int) := by rw [HQ.out, HFL.out]; omega
              have HWj : Aside0 (q + 1 = ((j + 1 : Nat) : Int)) := Aside0.mk (by rw [HQ.out]; omega)
              obtain ⟨ad2, e, hs0⟩ := Kd.at_string (Kd.C_below HC2.out HB3.out) q hq0 hq1
              cases e
              have hdm : ds[j]'hjn ∈ ds := List.getElem_mem hjn
              have hdi := HD2.out _ hdm
              have hrs : rdOf ByteArray.empty f1 q = nm (ds[j]'hjn) := by
                unfold rdOf
                rw [HF1.out, HQ.out]
                simp [hjn]
              rw [hrs] at hs0
              have hix := index_f ds j hjn HD3.out (fun d hd => by have := HD2.out d hd; omega) HDi.out
              rw [← HF1.out] at hix
              generalize ds[j]'hjn = d at *
              have HCL := Aside0.mk (find_calls t (some ad) c ns d wp (Kd.C_below HR.out (below_step HBa.out HB3.out)) HN.out (by omega) hl)
              have HCX := Aside0.mk (fun (w5 : World) (h : Below wp.heap.size wp w5) => slices_Index_string_string.calls 20 (some ad2) c1 f1 (nm d) _ w5 (Kd.C_below (Kd.C_below HC2.out HB3.out) h) HL1.out hix)
              have hge : decide ((d : Int) < 0) = false := decide_eq_false (by omega)
              have hjq : decide ((j : Int) < q) = false := decide_eq_false (by rw [HQ.out]; omega)
              have HKc := Aside0.mk (blk_below HKb.out HB3.out)
              have HKd := Aside0.mk (blk_below HKN.out HB3.out)
              have hk0 : wp.cell? ⟨w.heap.size, 0, none⟩ = some (.string t) := (blk_cell HKc.out 0).trans rfl
              have hk1 : wp.cell? ⟨w.heap.size, 1, none⟩ = some (.slice (some ad) ns.length c) := (blk_cell HKc.out 1).trans rfl
              have hz1 : wp.cell? ⟨gb, 1, none⟩ = some (.slice (some ad2) f1.length c1) := (blk_cell HKd.out 1).trans rfl
              have hf12 : f1.length ≤ 12 := by rw [HFL.out]; exact HD3.out
              clear hrs hdm hdi hix
              go_wp2_with (first
                | (go_at_call 28; go_loud (refine HCL.out.mono ?_; rintro e w5 ⟨rfl, hb⟩; have HB5 := Aside0.mk (below_step HB3.out hb); have HB6 := Aside0.mk hb; have hz1 := pw_cell_below hb hz1; clear hb))
                | (go_at_call 30; go_loud (refine (HCX.out w5 HB6.out).mono ?_; rintro e w6 ⟨rfl, hd⟩; have HB7 := Aside0.mk (below_step HB5.out (below_of_drawn hd)); clear hd)))
              go_roundw
              case rel => exact ⟨_, j + 1, rfl, HWj, by omega, HB7⟩
              case measure => have := HWj.out; have := HQ.out; simp [intOf] at *; omega
            · have hlt2 : decide (q < (f1.length : Int)) = false := decide_eq_false (by rw [HQ.out, HFL.out]; omega)
              have HB4 := Aside0.mk (below_step HBb.out HB3.out)
              go_wp2
              go_roundw
              case rel => exact ⟨_, i + 1, rfl, HW, by omega, HB4⟩
              case measure => have := HW.out; have := HP.out; simp [intOf] at *; omega
        · have hlt : decide (p < (ns.length : Int)) = false := decide_eq_false (by rw [HP.out]; omega)
          have HK4 := Aside0.mk (blk_below HK3.out HB.out)
          have hk0 : wq.cell? ⟨w.heap.size, 0, none⟩ = some (.string t) := (blk_cell HK4.out 0).trans rfl
          have hk1 : wq.cell? ⟨w.heap.size, 1, none⟩ = some (.slice A ns.length c) := (blk_cell HK4.out 1).trans rfl
          have HCM := Aside0.mk (masks_calls t A c ns D wq (Kd.C_below HR.out HBq.out) HN.out hl HD.out)
          have HLW := Aside0.mk (low_masks D ns.length (fun i hi => (HD.out i hi).2.1))
          have HML := Aside0.mk (masksL_len D ns.length)
          clear hin HP hi
          generalize masksL D ns.length = ms at *
          go_wp2_with (first
            | (go_at_call 32; go_loud (refine HCM.out.mono ?_; rintro e w5 ⟨A5, c5, rfl, hq, hb⟩; have HQ5 := Aside0.mk hq; have HB5 := Aside0.mk (below_step HBq.out hb); clear hq hb))
            | (go_at_call 31; go_loud (have hx := Kd.Q_reads' HQ5.out; have hcall := behind_calls A5 c5 ms w5 hx.2.2 (by rw [HML.out]; exact hl) HLW.out; rw [HML.out] at hcall; refine hcall.mono ?_; rintro e w6 ⟨A6, c6, L, hL, rfl, hr6, hlow, hb⟩; have HL6 := Aside0.mk hL; have HR6 := Aside0.mk hr6; have HLO := Aside0.mk hlow; have HB6 := Aside0.mk (below_step HB5.out hb); clear hx hcall hL hr6 hlow hb)))
          have HA6 := Aside0.mk (Kd.R_reads' HR6.out)
          have HC6 := Aside0.mk (show Kd.C (Kd.int .u32) w6 A6 L.length L from HA6.out.2.2)
          clear HA6
          go_loopw [92] (fun v92 wq => ∃ (p : Int) (i : Nat), v92 = .int .i64 p ∧ Aside0 (p = (i : Int)) ∧ i ≤ ns.length ∧ Aside0 (Below w6.heap.size w6 wq)) (fun v92 _ => ns.length - (intOf v92).toNat)
          case atStart => exact ⟨_, 0, rfl, Aside0.mk rfl, by omega, Aside0.mk (Below.refl _ _)⟩
          case round =>
            rename World => wz
            clear HB hlt
            obtain ⟨p, i, rfl, HP, hi, HB⟩ := hrel
            by_cases hin : i < ns.length
            · have hlt : decide (p < (ns.length : Int)) = true := decide_eq_true (by rw [HP.out]; omega)
              have hlt' : decide (p < (L.length : Int)) = true := decide_eq_true (by rw [HP.out, HL6.out]; omega)
              have hp0 : 0 ≤ p := by rw [HP.out]; omega
              have hp1 : p < (L.length : Int) := by rw [HP.out, HL6.out]; omega
              have HW : Aside0 (p + 1 = ((i + 1 : Nat) : Int)) := Aside0.mk (by rw [HP.out]; omega)
              obtain ⟨ad6, e, hx0⟩ := Kd.at_int (Kd.C_below HC6.out HB.out) p hp0 hp1
              cases e
              obtain ⟨b, hbv, hbl⟩ := HLO.out i (by rw [HL6.out]; exact hin)
              have hr1 : rd L p = (b : Int) := by unfold rd; rw [HP.out]; exact hbv
              rw [hr1] at hx0
              have hb32 : b < 2 ^ 32 := Nat.lt_of_lt_of_le hbl (Nat.pow_le_pow_right (by decide) (by omega))
              obtain ⟨T, hT1, hT2, hT3⟩ := bit_form b i hb32 (by omega) p HP.out
              rw [Nat.testBit_lt_two_pow hbl, if_neg (by decide)] at hT3
              obtain ⟨Bv, hBv⟩ : ∃ Bv : Int, Bv = (b : Int) := ⟨_, rfl⟩
              rw [← hBv] at hT1 hT2 hx0
              have hL12 : L.length ≤ 12 := by rw [HL6.out]; exact hl
              clear hBv hbl hbv hr1 hb32
              go_wp2
              go_roundw
              case rel => exact ⟨_, i + 1, rfl, HW, by omega, HB⟩
              case measure => have := HW.out; have := HP.out; simp [intOf] at *; omega
            · have hlt : decide (p < (L.length : Int)) = false := decide_eq_false (by rw [HP.out, HL6.out]; omega)
              have HB7 := Aside0.mk (below_step HB6.out HB.out)
              clear hin HP hi
              go_wp2
              refine bodyPost_ret (results_tmp2 rfl _ _ _) rfl ?_
              exact ⟨rfl, HB7.out⟩
end Go.Proofs.Ytiipbibbppgbgaa.T
