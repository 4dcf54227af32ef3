/- What the printed functions of ready.cut, ready.Ready and ready.Behind tell, in the words of the plain mathematics: for every list of masks. No condition beyond that each mask is a number of 32 bits. -/
import Derived.Test.YtfkljcnkghakaaaDoorFnA
import Derived.Test.YtfkljcnkghakaaaDoorMath
namespace Go.Proofs.YtfkljcnkghakaaaDoor.Masks
open Go.RowKit Go.Proofs.YtfkljcnkghakaaaDoor.PReadyOrders Go.Proofs.YtfkljcnkghakaaaDoorW.PrintWords Go.Proofs.YtfkljcnkghakaaaDoorW.PrintLast Go.Proofs.YtfkljcnkghakaaaDoorW.PrintMore
set_option linter.unusedVariables false

theorem wraps_u32 (n : Int) (h₀ : 0 ≤ n) (h₁ : n < 2 ^ 32) : IntKind.u32.wrap n = n := by rw [IntKind.wrap_u32]; omega
theorem and_nat (a b : Nat) (ha : a < 2 ^ 32) (hb : b < 2 ^ 32) : Go.bits .and .u32 (a : Int) (b : Int) = ((a &&& b : Nat) : Int) := (bits_nat .u32 32 (by decide) wraps_u32 a b ha hb).1
theorem or_nat (a b : Nat) (ha : a < 2 ^ 32) (hb : b < 2 ^ 32) : Go.bits .or .u32 (a : Int) (b : Int) = ((a ||| b : Nat) : Int) := (bits_nat .u32 32 (by decide) wraps_u32 a b ha hb).2
theorem andNot_nat (a b : Nat) (ha : a < 2 ^ 32) (hb : b < 2 ^ 32) : Go.bits .andNot .u32 (a : Int) (b : Int) = ((a &&& (2 ^ 32 - 1 - b) : Nat) : Int) := by
  have ha' : a % 2 ^ 32 = a := Nat.mod_eq_of_lt ha
  have hb' : b % 2 ^ 32 = b := Nat.mod_eq_of_lt hb
  have h1 : a &&& (2 ^ 32 - 1 - b) < 2 ^ 32 := Nat.and_lt_two_pow _ (by omega)
  have e : (BitVec.ofInt 32 (a : Int) &&& ~~~(BitVec.ofInt 32 (b : Int))).toNat = a &&& (2 ^ 32 - 1 - b) := by
    rw [BitVec.toNat_and, BitVec.toNat_not, BitVec.ofInt_natCast, BitVec.ofInt_natCast, BitVec.toNat_ofNat, BitVec.toNat_ofNat, ha', hb']
  show IntKind.u32.wrap ((BitVec.ofInt 32 (a : Int) &&& ~~~(BitVec.ofInt 32 (b : Int))).toNat : Int) = _
  rw [e, wraps_u32 _ (Int.natCast_nonneg _) (by exact_mod_cast h1)]
theorem and_zero_iff (a b : Nat) : a &&& b = 0 ↔ ∀ k, a.testBit k = true → b.testBit k = false := by
  constructor
  · intro h k hk
    have := Nat.testBit_and a b k
    rw [h, hk] at this
    simpa using this.symm
  · intro h
    apply Nat.eq_of_testBit_eq
    intro k
    rw [Nat.testBit_and]
    cases ha : a.testBit k
    · simp
    · rw [h k ha]; simp
theorem bit_of_lt {a k n : Nat} (h : a < 2 ^ n) (hk : a.testBit k = true) : k < n := by
  apply Classical.byContradiction
  intro hn
  have h1 : a < 2 ^ k := Nat.lt_of_lt_of_le h (Nat.pow_le_pow_right (by decide) (by omega))
  rw [Nat.testBit_lt_two_pow h1] at hk
  cases hk
theorem comp_bit {b : Nat} (hb : b < 2 ^ 32) (k : Nat) : (2 ^ 32 - 1 - b).testBit k = (decide (k < 32) && !b.testBit k) := by
  rw [show 2 ^ 32 - 1 - b = 2 ^ 32 - (b + 1) by omega, Nat.testBit_two_pow_sub_succ hb]
theorem andNot_zero (a b : Nat) (ha : a < 2 ^ 32) (hb : b < 2 ^ 32) : Go.bits .andNot .u32 (a : Int) (b : Int) = 0 ↔ ∀ k, a.testBit k = true → b.testBit k = true := by
  rw [andNot_nat a b ha hb]
  have h0 : (((a &&& (2 ^ 32 - 1 - b) : Nat) : Int) = 0) ↔ (a &&& (2 ^ 32 - 1 - b) = 0) := by omega
  rw [h0, and_zero_iff]
  constructor
  · intro h k hk
    have h1 := h k hk
    rw [comp_bit hb] at h1
    have : k < 32 := bit_of_lt ha hk
    simpa [this] using h1
  · intro h k hk
    rw [comp_bit hb, h k hk]; simp
theorem shl_one (i : Nat) (hi : i < 32) : shl .u32 1 (i : Int) = ((2 ^ i : Nat) : Int) := by
  have hp : 2 ^ i < 2 ^ 32 := Nat.pow_lt_pow_right (by decide) hi
  unfold shl
  rw [show min ((i : Int).toNat) (IntKind.bits .u32) = i by simp [IntKind.bits]; omega, Int.one_mul]
  have e : ((2 : Int) ^ i) = ((2 ^ i : Nat) : Int) := by norm_cast
  rw [e, wraps_u32 _ (Int.natCast_nonneg _) (by exact_mod_cast hp)]
theorem shl_mask (n : Nat) (hn : n ≤ 32) : (shl .u32 1 (n : Int) - 1) % 4294967296 = ((2 ^ n - 1 : Nat) : Int) := by
  by_cases h : n = 32
  · subst h; decide +kernel
  · rw [shl_one n (by omega)]
    have hp : 2 ^ n < 2 ^ 32 := Nat.pow_lt_pow_right (by decide) (by omega)
    have hq : 0 < 2 ^ n := Nat.pow_pos (by decide)
    omega
theorem shr_nat (a i : Nat) (hi : i < 32) : shr .u32 (a : Int) (i : Int) = ((a / 2 ^ i : Nat) : Int) := by
  unfold shr
  rw [show min ((i : Int).toNat) (IntKind.bits .u32) = i by simp [IntKind.bits]; omega]
  norm_cast
theorem shr_bit (a i : Nat) (ha : a < 2 ^ 32) (hi : i < 32) : (Go.bits .and .u32 (shr .u32 (a : Int) (i : Int)) 1 = 0) ↔ a.testBit i = false := by
  rw [shr_nat a i hi]
  have h1 : a / 2 ^ i < 2 ^ 32 := Nat.lt_of_le_of_lt (Nat.div_le_self _ _) ha
  have e := and_nat (a / 2 ^ i) 1 h1 (by decide)
  rw [show ((1 : Nat) : Int) = (1 : Int) from rfl] at e
  rw [e, Nat.and_one_is_mod]
  have h2 : a.testBit i = (a / 2 ^ i).testBit 0 := by rw [Nat.testBit_div_two_pow, Nat.zero_add]
  rw [h2, Nat.testBit_zero, decide_eq_false_iff_not]
  omega

/-! ### the masks -/
/-- How many nodes count. -/
def nn (xs : List Int) : Nat := min xs.length 32
/-- A mask as a number. -/
def mk (xs : List Int) (i : Nat) : Nat := (xs.getD i 0).toNat
/-- Does i wait for k? -/
def dep (xs : List Int) (i k : Nat) : Bool := decide (k < nn xs) && (mk xs i).testBit k
def U32 (xs : List Int) : Prop := ∀ x ∈ xs, (Lit.int .u32 x).wf = true
theorem u32_bounds {n : Int} (h : (Lit.int .u32 n).wf = true) : 0 ≤ n ∧ n ≤ 4294967295 := by
  simp [Lit.wf, IntKind.min, IntKind.max, IntKind.signed, IntKind.bits] at h
  omega
theorem getD_bounds {xs : List Int} (h : U32 xs) (i : Nat) : 0 ≤ xs.getD i 0 ∧ xs.getD i 0 ≤ 4294967295 := by
  by_cases hi : i < xs.length
  · have := u32_bounds (h xs[i] (List.getElem_mem hi))
    simp [hi]; omega
  · simp [List.getElem?_eq_none (by omega : xs.length ≤ i)]
theorem mk_cast {xs : List Int} (h : U32 xs) (i : Nat) : ((mk xs i : Nat) : Int) = xs.getD i 0 := by
  have := getD_bounds h i
  unfold mk; omega
theorem mk_lt {xs : List Int} (h : U32 xs) (i : Nat) : mk xs i < 2 ^ 32 := by
  have := getD_bounds h i
  unfold mk; omega
theorem nn_le (xs : List Int) : nn xs ≤ 32 := by unfold nn; omega
theorem nn_len (xs : List Int) : nn xs ≤ xs.length := by unfold nn; omega
/-- A mask without bits of nodes that there aren't. -/
def cutI (xs : List Int) (i : Nat) : Nat := mk xs i &&& (2 ^ nn xs - 1)
theorem cutI_bit (xs : List Int) (i k : Nat) : (cutI xs i).testBit k = dep xs i k := by
  unfold cutI dep
  rw [Nat.testBit_and, Nat.testBit_two_pow_sub_one, Bool.and_comm]
theorem cutI_lt (xs : List Int) (i : Nat) : cutI xs i < 2 ^ nn xs := Nat.and_lt_two_pow _ (by have : 0 < 2 ^ nn xs := Nat.pow_pos (by decide); omega)
theorem pow_nn (xs : List Int) : 2 ^ nn xs ≤ 2 ^ 32 := Nat.pow_le_pow_right (by decide) (nn_le xs)
theorem cutI_lt32 (xs : List Int) (i : Nat) : cutI xs i < 2 ^ 32 := Nat.lt_of_lt_of_le (cutI_lt xs i) (pow_nn xs)
theorem num_lt32 (p : Nat → Bool) {n : Nat} (hn : n ≤ 32) : num p n < 2 ^ 32 := Nat.lt_of_lt_of_le (num_lt p n) (Nat.pow_le_pow_right (by decide) hn)
def cutL (xs : List Int) : List Int := (List.range (nn xs)).map fun i => ((cutI xs i : Nat) : Int)
theorem cutL_len (xs : List Int) : (cutL xs).length = nn xs := by simp [cutL]
theorem cutL_at (xs : List Int) (i : Nat) (hi : i < nn xs) : (cutL xs).getD i 0 = ((cutI xs i : Nat) : Int) := by
  simp [cutL, List.getD, hi]
theorem cutL_U32 (xs : List Int) : U32 (cutL xs) := by
  intro x hx
  simp only [cutL, List.mem_map] at hx
  obtain ⟨i, _, rfl⟩ := hx
  have := cutI_lt32 xs i
  simp [Lit.wf, IntKind.min, IntKind.max, IntKind.signed, IntKind.bits]
  omega
theorem nn_cut (xs : List Int) : nn (cutL xs) = nn xs := by
  have h1 := nn_le xs
  unfold nn at h1 ⊢
  rw [cutL_len]; unfold nn; omega
theorem mn_nn (xs : List Int) : mn (xs.length : Int) 32 = (nn xs : Int) := by unfold mn nn; split <;> omega
theorem rd_nat (xs : List Int) (i : Nat) : rd xs (i : Int) = xs.getD i 0 := by unfold rd; simp
theorem wrap_succ (i : Nat) (hi : i ≤ 1000) : wrap64 ((i : Int) + 1) = ((i + 1 : Nat) : Int) := by unfold wrap64; omega

theorem cut_loop (xs : List Int) (h : U32 xs) (d : Nat) : ∀ (k i : Nat), i ≤ nn xs → nn xs - i = d → d < k →
    ready_cut.l0 k ((List.range i).map fun i => ((cutI xs i : Nat) : Int)) (nn xs : Int) (xs.take (nn xs)) (nn xs : Int) (i : Int) = some (cutL xs) := by
  have hn := nn_le xs
  have hl := nn_len xs
  induction d with
  | zero =>
    intro k i h1 hd hk
    obtain ⟨k, rfl⟩ : ∃ m, k = m + 1 := ⟨k - 1, by omega⟩
    simp only [ready_cut.l0]
    rw [if_neg (by omega)]
    have : i = nn xs := by omega
    rw [this]; rfl
  | succ d ih =>
    intro k i h1 hd hk
    obtain ⟨k, rfl⟩ : ∃ m, k = m + 1 := ⟨k - 1, by omega⟩
    have hlt : i < nn xs := by omega
    simp only [ready_cut.l0]
    rw [if_pos (by omega), if_pos (by omega), if_pos (by rw [List.length_take]; omega), if_pos (by omega), if_pos (by simp; omega), shl_mask (nn xs) hn, wrap_succ i (by omega), rd_nat]
    have e1 : (xs.take (nn xs)).getD i 0 = ((mk xs i : Nat) : Int) := by
      rw [mk_cast h]; simp [List.getD, hlt]
    have hp : 2 ^ nn xs - 1 < 2 ^ 32 := by have := pow_nn xs; have : 0 < 2 ^ nn xs := Nat.pow_pos (by decide); omega
    rw [e1, and_nat _ _ (mk_lt h i) hp]
    have e2 : ((List.range i).map fun i => ((cutI xs i : Nat) : Int)) ++ [((mk xs i &&& (2 ^ nn xs - 1) : Nat) : Int)] = (List.range (i + 1)).map fun i => ((cutI xs i : Nat) : Int) := by
      rw [List.range_succ, List.map_append]; rfl
    rw [e2]
    exact ih k (i + 1) (by omega) (by omega) (by omega)
theorem cut_is (xs : List Int) (h : U32 xs) (k : Nat) (hk : 33 ≤ k) : ready_cut.f k xs = some (cutL xs) := by
  have hn := nn_le xs
  have hl := nn_len xs
  unfold ready_cut.f
  rw [mn_nn, if_pos (by omega), if_pos (by omega)]
  have e : ((xs.take ((nn xs : Int)).toNat).length : Int) = (nn xs : Int) := by simp; omega
  rw [e, Int.toNat_natCast]
  exact cut_loop xs h (nn xs) k 0 (by omega) (by omega) (by omega)

/-! ### Ready -/
/-- The nodes that are ready behind a number's bits, as a number. -/
def readyN (xs : List Int) (done : Nat) : Nat := num (ready (nn xs) (dep xs) (fun j => done.testBit j)) (nn xs)
theorem readyN_lt (xs : List Int) (done : Nat) : readyN xs done < 2 ^ 32 := num_lt32 _ (nn_le xs)
theorem ready_loop (xs : List Int) (done : Nat) (hd0 : done < 2 ^ 32) (d : Nat) : ∀ (k i : Nat), i ≤ nn xs → nn xs - i = d → d < k →
    ready_Ready.l0 k (done : Int) ((num (ready (nn xs) (dep xs) (fun j => done.testBit j)) i : Nat) : Int) (cutL xs) (nn xs : Int) (i : Int) = some ((readyN xs done : Nat) : Int) := by
  have hn := nn_le xs
  induction d with
  | zero =>
    intro k i h1 hd hk
    obtain ⟨k, rfl⟩ : ∃ m, k = m + 1 := ⟨k - 1, by omega⟩
    simp only [ready_Ready.l0]
    rw [if_neg (by omega)]
    have : i = nn xs := by omega
    rw [this]; rfl
  | succ d ih =>
    intro k i h1 hd hk
    obtain ⟨k, rfl⟩ : ∃ m, k = m + 1 := ⟨k - 1, by omega⟩
    have hlt : i < nn xs := by omega
    have hI := ih k (i + 1) (by omega) (by omega) (by omega)
    simp only [ready_Ready.l0]
    rw [if_pos (by omega), if_pos (by omega), if_pos (by rw [cutL_len]; omega), rd_nat, cutL_at xs i hlt, wrap_succ i (by omega)]
    have hc1 := andNot_zero (cutI xs i) done (cutI_lt32 xs i) hd0
    have hc2 := shr_bit done i hd0 (by omega)
    have hr : ready (nn xs) (dep xs) (fun j => done.testBit j) i = true ↔ (Go.bits .andNot .u32 ((cutI xs i : Nat) : Int) (done : Int) = 0 ∧ Go.bits .and .u32 (shr .u32 (done : Int) (i : Int)) 1 = 0) := by
      rw [ready_iff, hc1, hc2]
      constructor
      · rintro ⟨g1, g2⟩
        exact ⟨fun k hk => by
          rw [cutI_bit] at hk
          have : k < nn xs := by unfold dep at hk; simp at hk; exact hk.1
          exact g1 k this hk, g2⟩
      · rintro ⟨g1, g2⟩
        exact ⟨fun k hk hd => g1 k (by rw [cutI_bit]; exact hd), g2⟩
    rw [num] at hI
    by_cases c1 : Go.bits .andNot .u32 ((cutI xs i : Nat) : Int) (done : Int) = 0
    · by_cases c2 : Go.bits .and .u32 (shr .u32 (done : Int) (i : Int)) 1 = 0
      · rw [if_pos c1, if_pos c2]
        rw [if_pos (hr.2 ⟨c1, c2⟩)] at hI
        have hp : 2 ^ i < 2 ^ 32 := Nat.pow_lt_pow_right (by decide) (by omega)
        rw [shl_one i (by omega), or_nat _ _ (num_lt32 _ (by omega)) hp]
        have e := Nat.two_pow_add_eq_or_of_lt (num_lt (ready (nn xs) (dep xs) (fun j => done.testBit j)) i) 1
        rw [Nat.mul_one] at e
        rw [Nat.or_comm, ← e, Nat.add_comm]
        exact hI
      · rw [if_pos c1, if_neg c2]
        rw [if_neg (fun hh => c2 (hr.1 hh).2), Nat.add_zero] at hI
        exact hI
    · rw [if_neg c1]
      rw [if_neg (fun hh => c1 (hr.1 hh).1), Nat.add_zero] at hI
      exact hI
theorem ready_is (xs : List Int) (h : U32 xs) (done : Nat) (hd : done < 2 ^ 32) (k : Nat) (hk : 33 ≤ k) : ready_Ready.f k xs (done : Int) = some ((readyN xs done : Nat) : Int) := by
  have hn := nn_le xs
  unfold ready_Ready.f
  rw [cut_is xs h k hk]
  simp only [Option.bind_some]
  rw [cutL_len]
  exact ready_loop xs done hd (nn xs) k 0 (by omega) (by omega) (by omega)

/-! ### Behind -/
open Classical in
/-- Does i come behind a? -/
noncomputable def behB (xs : List Int) (a i : Nat) : Bool := decide (Beh (nn xs) (dep xs) a i)
open Classical in
theorem behB_iff {xs : List Int} {a i : Nat} : behB xs a i = true ↔ Beh (nn xs) (dep xs) a i := by unfold behB; exact decide_eq_true_iff
/-- Those that come behind a, as a number. -/
noncomputable def behN (xs : List Int) (a : Nat) : Nat := num (behB xs a) (nn xs)
/-- Does j wait for one of p, or for a? -/
def hit (xs : List Int) (a : Nat) (p : Nat → Bool) (j : Nat) : Bool := (List.range (nn xs)).any fun k => dep xs j k && (k == a || p k)
theorem hit_iff {xs : List Int} {a : Nat} {p : Nat → Bool} {j : Nat} : hit xs a p j = true ↔ ∃ k, k < nn xs ∧ dep xs j k = true ∧ (k = a ∨ p k = true) := by
  unfold hit
  rw [List.any_eq_true]
  constructor
  · rintro ⟨k, hk, h⟩
    refine ⟨k, List.mem_range.1 hk, ?_⟩
    simpa using h
  · rintro ⟨k, hk, h⟩
    exact ⟨k, List.mem_range.2 hk, by simpa using h⟩
theorem num_or2 (p q : Nat → Bool) (n : Nat) : num p n ||| num q n = num (fun j => p j || q j) n := by
  apply Nat.eq_of_testBit_eq
  intro j
  rw [Nat.testBit_or, num_bit, num_bit, num_bit]
  cases decide (j < n) <;> simp
/-- A mask meets the reached ones just where its node is hit. -/
theorem meets (xs : List Int) (a : Nat) (p : Nat → Bool) (j : Nat) : Go.bits .and .u32 ((cutI xs j : Nat) : Int) ((num (fun k => k == a || p k) (nn xs) : Nat) : Int) = 0 ↔ hit xs a p j = false := by
  rw [and_nat _ _ (cutI_lt32 xs j) (num_lt32 _ (nn_le xs))]
  have h0 : (((cutI xs j &&& num (fun k => k == a || p k) (nn xs) : Nat) : Int) = 0) ↔ (cutI xs j &&& num (fun k => k == a || p k) (nn xs) = 0) := by omega
  rw [h0, and_zero_iff]
  constructor
  · intro h
    apply Classical.byContradiction
    intro hc
    obtain ⟨k, hk, hd, hp⟩ := hit_iff.1 (by simpa using hc : hit xs a p j = true)
    have := h k (by rw [cutI_bit]; exact hd)
    rw [num_bit] at this
    rcases hp with rfl | hp
    · simp [hk] at this
    · simp [hk, hp] at this
  · intro h k hk
    rw [cutI_bit] at hk
    have hkn : k < nn xs := by unfold dep at hk; simp at hk; exact hk.1
    rw [num_bit]
    apply Classical.byContradiction
    intro hc
    rw [Bool.eq_false_iff] at h
    apply h
    rw [hit_iff]
    refine ⟨k, hkn, hk, ?_⟩
    by_cases e : k = a
    · exact .inl e
    · exact .inr (by simpa [hkn, e] using hc)
/-- One pass: from the i-th node on. -/
theorem pass_loop (xs : List Int) (a : Nat) (p : Nat → Bool) (R : Int) (K : Nat)
    (hend : ∀ k, K ≤ k → ready_Behind.l1 (k + 1) (cutL xs) ((num (fun j => p j || hit xs a p j) (nn xs) : Nat) : Int) ((num (fun k => k == a || p k) (nn xs) : Nat) : Int) ((num p (nn xs) : Nat) : Int) (cutL xs) (nn xs : Int) (nn xs : Int) = some R)
    (d : Nat) : ∀ (k i : Nat), i ≤ nn xs → nn xs - i = d → K + d < k →
    ready_Behind.l1 k (cutL xs) ((num (fun j => p j || (decide (j < i) && hit xs a p j)) (nn xs) : Nat) : Int) ((num (fun k => k == a || p k) (nn xs) : Nat) : Int) ((num p (nn xs) : Nat) : Int) (cutL xs) (nn xs : Int) (i : Int) = some R := by
  have hn := nn_le xs
  induction d with
  | zero =>
    intro k i h1 hd hk
    obtain ⟨k, rfl⟩ : ∃ m, k = m + 1 := ⟨k - 1, by omega⟩
    have hi : i = nn xs := by omega
    subst hi
    rw [show num (fun j => p j || (decide (j < nn xs) && hit xs a p j)) (nn xs) = num (fun j => p j || hit xs a p j) (nn xs) from num_congr _ fun j hj => by simp [hj]]
    exact hend k (by omega)
  | succ d ih =>
    intro k i h1 hd hk
    obtain ⟨k, rfl⟩ : ∃ m, k = m + 1 := ⟨k - 1, by omega⟩
    have hlt : i < nn xs := by omega
    have hI := ih k (i + 1) (by omega) (by omega) (by omega)
    simp only [ready_Behind.l1]
    rw [if_pos (by omega), if_pos (by omega), if_pos (by rw [cutL_len]; omega), rd_nat, cutL_at xs i hlt, wrap_succ i (by omega)]
    by_cases c : hit xs a p i = true
    · rw [if_neg (fun h0 => by rw [meets, c] at h0; cases h0)]
      have hp : 2 ^ i < 2 ^ 32 := Nat.pow_lt_pow_right (by decide) (by omega)
      rw [shl_one i (by omega), or_nat _ _ (num_lt32 _ hn) hp, num_or _ _ _ hlt]
      rw [show num (fun j => (p j || (decide (j < i) && hit xs a p j)) || j == i) (nn xs) = num (fun j => p j || (decide (j < i + 1) && hit xs a p j)) (nn xs) from num_congr _ fun j hj => by
        by_cases e : j = i
        · subst e; simp [c]
        · have e1 : (j == i) = false := by simpa using e
          have e2 : (j < i + 1) = (j < i) := by apply propext; omega
          simp [e1, e2]]
      exact hI
    · rw [if_pos ((meets xs a p i).2 (by simpa using c))]
      rw [show num (fun j => p j || (decide (j < i) && hit xs a p j)) (nn xs) = num (fun j => p j || (decide (j < i + 1) && hit xs a p j)) (nn xs) from num_congr _ fun j hj => by
        by_cases e : j = i
        · subst e; simp [c]
        · have e2 : (j < i + 1) = (j < i) := by apply propext; omega
          simp [e2]]
      exact hI
/-- All passes: from a set of such as come behind a. -/
theorem behind_loop (xs : List Int) (a : Nat) (ha : a < nn xs) (m : Nat) : ∀ (p : Nat → Bool), nn xs - cnt p (nn xs) ≤ m → (∀ i, i < nn xs → p i = true → Beh (nn xs) (dep xs) a i) →
    ∃ K, ∀ k, K ≤ k → ready_Behind.l0 k (cutL xs) ((num p (nn xs) : Nat) : Int) ((num (fun k => k == a || p k) (nn xs) : Nat) : Int) = some ((behN xs a : Nat) : Int) := by
  have hn := nn_le xs
  have start : ∀ (p : Nat → Bool) (K : Nat), (∀ k, K ≤ k → ready_Behind.l1 (k + 1) (cutL xs) ((num (fun j => p j || hit xs a p j) (nn xs) : Nat) : Int) ((num (fun k => k == a || p k) (nn xs) : Nat) : Int) ((num p (nn xs) : Nat) : Int) (cutL xs) (nn xs : Int) (nn xs : Int) = some ((behN xs a : Nat) : Int)) →
      ∃ K, ∀ k, K ≤ k → ready_Behind.l0 k (cutL xs) ((num p (nn xs) : Nat) : Int) ((num (fun k => k == a || p k) (nn xs) : Nat) : Int) = some ((behN xs a : Nat) : Int) := by
    intro p K h
    refine ⟨K + nn xs + 2, fun k hk => ?_⟩
    obtain ⟨k, rfl⟩ : ∃ m, k = m + 1 := ⟨k - 1, by omega⟩
    simp only [ready_Behind.l0]
    rw [cutL_len]
    have := pass_loop xs a p _ K h (nn xs) k 0 (by omega) (by omega) (by omega)
    rw [show num (fun j => p j || (decide (j < 0) && hit xs a p j)) (nn xs) = num p (nn xs) from num_congr _ fun j hj => by simp] at this
    exact this
  have fixed : ∀ (p : Nat → Bool), (∀ i, i < nn xs → p i = true → Beh (nn xs) (dep xs) a i) → (∀ j, j < nn xs → hit xs a p j = true → p j = true) → num p (nn xs) = behN xs a := by
    intro p hs hc
    unfold behN
    refine num_congr _ fun i hi => ?_
    rw [Bool.eq_iff_iff, behB_iff]
    exact ⟨fun h => hs i hi h, fun h => beh_of_closed (p := p) (fun i hi k hk hd hp => hc i hi (hit_iff.2 ⟨k, hk, hd, hp⟩)) ha h⟩
  induction m with
  | zero =>
    intro p hm hs
    have hall := cnt_all (p := p) (n := nn xs) (by omega)
    have hfix := fixed p hs (fun j hj _ => hall j hj)
    refine start p 0 fun k hk => ?_
    simp only [ready_Behind.l1]
    have e : num (fun j => p j || hit xs a p j) (nn xs) = num p (nn xs) := num_congr _ fun j hj => by simp [hall j hj]
    rw [if_neg (by omega), e, if_pos rfl, hfix]
  | succ m ih =>
    intro p hm hs
    by_cases hc : ∀ j, j < nn xs → hit xs a p j = true → p j = true
    · have hfix := fixed p hs hc
      refine start p 0 fun k hk => ?_
      simp only [ready_Behind.l1]
      have e : num (fun j => p j || hit xs a p j) (nn xs) = num p (nn xs) := num_congr _ fun j hj => by
        by_cases h : hit xs a p j = true
        · simp [hc j hj h]
        · simp [h]
      rw [if_neg (by omega), e, if_pos rfl, hfix]
    · obtain ⟨j, hj⟩ := Classical.not_forall.1 hc
      obtain ⟨hjn, hj⟩ := Classical.not_imp.1 hj
      obtain ⟨hjh, hjp⟩ := Classical.not_imp.1 hj
      have hjp' : p j = false := by simpa using hjp
      have hlt : cnt p (nn xs) < cnt (fun j => p j || hit xs a p j) (nn xs) := cnt_lt (fun i hi hp => by simp [hp]) hjn hjp' (by simp [hjh])
      have hle := cnt_le (fun j => p j || hit xs a p j) (nn xs)
      obtain ⟨K, hK⟩ := ih (fun j => p j || hit xs a p j) (by omega) (fun i hi hp => by
        rcases Bool.or_eq_true_iff.1 hp with hp | hp
        · exact hs i hi hp
        · obtain ⟨k, hk, hd, h⟩ := hit_iff.1 hp
          rcases h with rfl | h
          · exact .one hi hd
          · exact .more hi hk hd (hs k hk h))
      refine start p K fun k hk => ?_
      simp only [ready_Behind.l1]
      rw [if_neg (by omega), if_neg (fun e => by
        have := num_inj (by exact_mod_cast e : num (fun j => p j || hit xs a p j) (nn xs) = num p (nn xs)) j hjn
        rw [hjp', hjh] at this; simp at this), or_nat _ _ (num_lt32 _ hn) (num_lt32 _ hn), num_or2]
      rw [show num (fun j => (j == a || p j) || (p j || hit xs a p j)) (nn xs) = num (fun k => k == a || (p k || hit xs a p k)) (nn xs) from num_congr _ fun j hj => by
        cases j == a <;> cases p j <;> simp]
      exact hK k hk
theorem behind_is (xs : List Int) (h : U32 xs) (a : Nat) (ha : a < nn xs) : ∃ k, ready_Behind.f k xs (a : Int) = some ((behN xs a : Nat) : Int) := by
  have hn := nn_le xs
  obtain ⟨K, hK⟩ := behind_loop xs a ha (nn xs) (fun _ => false) (by omega) (fun i _ h => by cases h)
  refine ⟨K + 34, ?_⟩
  unfold ready_Behind.f
  rw [cut_is xs h (K + 34) (by omega)]
  simp only [Option.bind_some]
  rw [if_neg (by omega), cutL_len, decide_eq_false (by omega)]
  rw [show K + 34 = (K + 33) + 1 by omega]
  simp only [ready_Behind.j0]
  rw [if_neg (by decide), if_pos (by omega), shl_one a (by omega)]
  have h1 := hK (K + 33) (by omega)
  rw [num_zero (fun _ _ => rfl)] at h1
  have e : num (fun k => k == a || false) (nn xs) = 2 ^ a := by
    apply Nat.eq_of_testBit_eq
    intro j
    rw [num_bit, Nat.testBit_two_pow]
    by_cases e : j = a
    · subst e; simp [ha]
    · have e1 : (j == a) = false := by simpa using e
      have e2 : ¬ a = j := fun h => e h.symm
      simp [e1, e2]
  rw [e] at h1
  exact h1
theorem behind_out (xs : List Int) (h : U32 xs) (a : Int) (ha : a < 0 ∨ (nn xs : Int) ≤ a) : ∃ k, ready_Behind.f k xs a = some 0 := by
  refine ⟨34, ?_⟩
  unfold ready_Behind.f
  rw [cut_is xs h 34 (by omega)]
  simp only [Option.bind_some]
  rw [cutL_len]
  rcases ha with ha | ha
  · rw [if_pos ha]; simp [ready_Behind.j0]
  · by_cases h0 : a < 0
    · rw [if_pos h0]; simp [ready_Behind.j0]
    · rw [if_neg h0, decide_eq_true ha]; simp [ready_Behind.j0]
end Go.Proofs.YtfkljcnkghakaaaDoor.Masks
