/- The plain law behind SlotServed (its first part): what Owner, Next and Count tell of a table that isn't empty, by plain numbers: the round's ticks repeat, Next is the first tick that is the tenant's, and each round has as many as Count says. -/
import Derived.Test.YteffgoaadoeinaaPSlotServedx1
namespace Go.Proofs.Yteffgoaadoeinaa.MineServed
open Go.RowKit Go.Proofs.Yteffgoaadoeinaa.PSlotServed Go.Proofs.YteffgoaadoeinaaW.PrintWords Go.Proofs.YteffgoaadoeinaaW.PrintLast
set_option linter.unusedVariables false

theorem wakes_true : precinctlaw17_wakes.f 9 = some true := by decide +kernel

/-- Whose tick t is, of a table that isn't empty. -/
def ow (xs : List Int) (t : Int) : Int := xs.getD (t % (xs.length : Int)).toNat 0

theorem owner_is (xs : List Int) (t : Int) (ht : 0 ≤ t) (hn : 1 ≤ xs.length) : slot_Table_Owner.f xs t = some (ow xs t) := by
  unfold slot_Table_Owner.f
  have e : Int.tmod t (xs.length : Int) = t % (xs.length : Int) := Int.tmod_eq_emod_of_nonneg ht
  rw [e, if_neg (by omega), if_neg (by omega), if_pos (Int.emod_nonneg _ (by omega)), if_pos (Int.emod_lt_of_pos _ (by omega))]
  rfl

theorem ow_period (xs : List Int) (t : Int) : ow xs (t + xs.length) = ow xs t := by unfold ow; rw [Int.add_emod_right]

/-- nx is the first tick from t on that is a's; -1: there is none. -/
def First (xs : List Int) (a t nx : Int) : Prop := (nx = -1 ∧ ∀ j : Int, t ≤ j → ow xs j ≠ a) ∨ (t ≤ nx ∧ nx < t + xs.length ∧ ow xs nx = a ∧ ∀ j : Int, t ≤ j → j < nx → ow xs j ≠ a)

theorem none_of_round (xs : List Int) (a t : Int) (ht : 0 ≤ t) (hn : 1 ≤ xs.length) (h : ∀ j : Int, t ≤ j → j < t + xs.length → ow xs j ≠ a) : ∀ j : Int, t ≤ j → ow xs j ≠ a := by
  intro j hj
  have hN : (0 : Int) < (xs.length : Int) := by omega
  have e : ow xs j = ow xs (t + (j - t) % (xs.length : Int)) := by
    unfold ow
    congr 2
    have h1 : t + (j - t) % (xs.length : Int) = j - (xs.length : Int) * ((j - t) / (xs.length : Int)) := by
      have := Int.emod_add_mul_ediv (j - t) (xs.length : Int)
      omega
    rw [h1, Int.sub_mul_emod_self_left]
  rw [e]
  exact h _ (by have := Int.emod_nonneg (j - t) (show (xs.length : Int) ≠ 0 by omega); omega) (by have := Int.emod_lt_of_pos (j - t) hN; omega)

theorem next_loop (xs : List Int) (a t : Int) (hlen : xs.length ≤ 100) (hn : 1 ≤ xs.length) (ht : 0 ≤ t) (ht2 : t ≤ 9223372036854775000) (d : Nat) : ∀ (k : Nat) (i : Int), 0 ≤ i → i ≤ xs.length → (xs.length : Int) - i = d → d < k →
    (∀ j : Int, t ≤ j → j < t + i → ow xs j ≠ a) → ∃ nx, slot_Table_Next.l0 k xs a t (xs.length : Int) i = some nx ∧ First xs a t nx := by
  induction d with
  | zero =>
    intro k i h0 h1 hd hk hno
    obtain ⟨k, rfl⟩ : ∃ m, k = m + 1 := ⟨k - 1, by omega⟩
    simp only [slot_Table_Next.l0]
    refine ⟨-1, by rw [if_neg (by omega)], .inl ⟨rfl, none_of_round xs a t ht hn (fun j h2 h3 => hno j h2 (by omega))⟩⟩
  | succ d ih =>
    intro k i h0 h1 hd hk hno
    obtain ⟨k, rfl⟩ : ∃ m, k = m + 1 := ⟨k - 1, by omega⟩
    have hlt : i < (xs.length : Int) := by omega
    have e : wrap64 (i + 1) = i + 1 := by unfold wrap64; omega
    have e2 : wrap64 (9223372036854775807 - i) = 9223372036854775807 - i := by unfold wrap64; omega
    have e3 : wrap64 (t + i) = t + i := by unfold wrap64; omega
    simp only [slot_Table_Next.l0]
    rw [if_pos hlt, e, e2, e3, if_neg (by omega), owner_is xs (t + i) (by omega) hn]
    simp only [Option.bind_some]
    by_cases c : ow xs (t + i) = a
    · exact ⟨t + i, by rw [if_pos c], .inr ⟨by omega, by omega, c, fun j h2 h3 => hno j h2 h3⟩⟩
    · obtain ⟨nx, g1, g2⟩ := ih k (i + 1) (by omega) (by omega) (by omega) (by omega) (fun j h2 h3 => by
        by_cases hj : j = t + i
        · subst hj; exact c
        · exact hno j h2 (by omega))
      exact ⟨nx, by rw [if_neg c]; exact g1, g2⟩

theorem next_is (xs : List Int) (a t : Int) (hlen : xs.length ≤ 100) (hn : 1 ≤ xs.length) (ht : 0 ≤ t) (ht2 : t ≤ 9223372036854775000) :
    ∃ nx, slot_Table_Next.f 101 xs a t = some nx ∧ First xs a t nx := by
  have hmx : mx 0 t = t := by unfold mx; split <;> omega
  unfold slot_Table_Next.f
  rw [hmx]
  exact next_loop xs a t hlen hn ht ht2 xs.length 101 0 (by omega) (by omega) (by omega) (by omega) (fun j h1 h2 => absurd h1 (by omega))

/-- How many i below n are such. -/
def cnt (p : Nat → Bool) : Nat → Nat
  | 0 => 0
  | n + 1 => cnt p n + if p n then 1 else 0
theorem cnt_le (p : Nat → Bool) (n : Nat) : cnt p n ≤ n := by
  induction n with
  | zero => simp [cnt]
  | succ n ih => simp only [cnt]; split <;> omega
theorem cnt_shift (p : Nat → Bool) (n : Nat) : cnt (fun i => p (i + 1)) n + (if p 0 then 1 else 0) = cnt p (n + 1) := by
  induction n with
  | zero => simp [cnt]
  | succ n ih => rw [cnt, cnt, ← ih]; omega
theorem cnt_congr {p q : Nat → Bool} (n : Nat) (h : ∀ i, i < n → p i = q i) : cnt p n = cnt q n := by
  induction n with
  | zero => rfl
  | succ n ih => rw [cnt, cnt, ih (fun i hi => h i (by omega)), h n (by omega)]
theorem cnt_period (p : Nat → Bool) (n : Nat) (hp : ∀ i, p (i + n) = p i) (m : Nat) : cnt (fun i => p (i + m)) n = cnt p n := by
  induction m with
  | zero => rfl
  | succ m ih =>
    have h1 := cnt_shift (fun i => p (i + m)) n
    have h2 : cnt (fun i => p (i + m)) (n + 1) = cnt (fun i => p (i + m)) n + if p (n + m) then 1 else 0 := rfl
    have h3 : p (n + m) = p m := by rw [Nat.add_comm]; exact hp m
    simp only [Nat.zero_add] at h1
    rw [h2, h3, ih] at h1
    have h4 : cnt (fun i => p (i + (m + 1))) n = cnt (fun i => p (i + 1 + m)) n := cnt_congr n fun i _ => by rw [show i + (m + 1) = i + 1 + m by omega]
    rw [h4]; omega

theorem count_loop (xs : List Int) (a : Int) (hlen : xs.length ≤ 100) (d : Nat) : ∀ (k i : Nat), i ≤ xs.length → xs.length - i = d → d < k →
    slot_Table_Count.l0 k a (cnt (fun i => xs.getD i 0 == a) i : Int) xs (xs.length : Int) (i : Int) = some (cnt (fun i => xs.getD i 0 == a) xs.length : Int) := by
  induction d with
  | zero =>
    intro k i h1 hd hk
    obtain ⟨k, rfl⟩ : ∃ m, k = m + 1 := ⟨k - 1, by omega⟩
    simp only [slot_Table_Count.l0]
    rw [if_neg (by omega)]
    have : i = xs.length := by omega
    rw [this]
  | succ d ih =>
    intro k i h1 hd hk
    obtain ⟨k, rfl⟩ : ∃ m, k = m + 1 := ⟨k - 1, by omega⟩
    have hlt : (i : Int) < (xs.length : Int) := by omega
    have e : wrap64 ((i : Int) + 1) = ((i + 1 : Nat) : Int) := by unfold wrap64; omega
    have hc := cnt_le (fun i => xs.getD i 0 == a) i
    simp only [slot_Table_Count.l0]
    rw [if_pos hlt, if_pos (by omega), if_pos hlt, e]
    have hi := ih k (i + 1) (by omega) (by omega) (by omega)
    have hrd : rd xs (i : Int) = xs.getD i 0 := by unfold rd; simp
    rw [hrd]
    by_cases c : xs.getD i 0 = a
    · rw [if_pos c]
      rw [cnt, if_pos (by simpa using c)] at hi
      have en : wrap64 ((cnt (fun i => xs.getD i 0 == a) i : Int) + 1) = ((cnt (fun i => xs.getD i 0 == a) i + 1 : Nat) : Int) := by unfold wrap64; omega
      rw [en]; exact hi
    · rw [if_neg c]
      rw [cnt, if_neg (by simpa using c), Nat.add_zero] at hi
      exact hi

theorem count_is (xs : List Int) (a : Int) (hlen : xs.length ≤ 100) : slot_Table_Count.f 101 xs a = some (cnt (fun i => xs.getD i 0 == a) xs.length : Int) := by
  have := count_loop xs a hlen xs.length 101 0 (by omega) (by omega) (by omega)
  exact this

/-- A round that begins anywhere has as many of a tenant's ticks as the table. -/
theorem round_count (xs : List Int) (a : Int) (F : Nat) (hn : 1 ≤ xs.length) : cnt (fun i => ow xs ((F : Int) + i) == a) xs.length = cnt (fun i => xs.getD i 0 == a) xs.length := by
  have h1 : cnt (fun i => ow xs ((F : Int) + i) == a) xs.length = cnt (fun i => (fun m : Nat => ow xs (m : Int) == a) (i + F)) xs.length := cnt_congr _ fun i _ => by simp [Int.add_comm]
  have h2 := cnt_period (fun m : Nat => ow xs (m : Int) == a) xs.length (fun i => by
    have := ow_period xs (i : Int)
    simp only [Int.natCast_add, this]) F
  rw [h1, h2]
  refine cnt_congr _ fun i hi => ?_
  have : ow xs (i : Int) = xs.getD i 0 := by
    unfold ow
    rw [Int.emod_eq_of_lt (by omega) (by omega)]; simp
  rw [this]
theorem first_here {xs : List Int} {a t nx : Int} (h : First xs a t nx) (ht : 0 ≤ t) : (nx == t) = (ow xs t == a) := by
  rw [Bool.eq_iff_iff, beq_iff_eq, beq_iff_eq]
  rcases h with ⟨rfl, h⟩ | ⟨h1, _, h2, h3⟩
  · exact ⟨fun e => by omega, fun e => absurd e (h t (Int.le_refl _))⟩
  · refine ⟨fun e => by rw [← e]; exact h2, fun e => ?_⟩
    by_cases hlt : t < nx
    · exact absurd e (h3 t (Int.le_refl _) hlt)
    · omega
theorem first_on {xs : List Int} {a t nx : Int} (h : First xs a t nx) (hno : ow xs t ≠ a) (hn : 1 ≤ xs.length) : First xs a (t + 1) nx := by
  rcases h with ⟨rfl, h⟩ | ⟨h1, h4, h2, h3⟩
  · exact .inl ⟨rfl, fun j hj => h j (by omega)⟩
  · refine .inr ⟨?_, by omega, h2, fun j h5 h6 => h3 j (by omega) h6⟩
    by_cases e : nx = t
    · subst e; exact absurd h2 hno
    · omega

/-! ### what SlotServed asks besides -/
theorem cnt_zero {p : Nat → Bool} {n : Nat} (h : cnt p n = 0) : ∀ i, i < n → p i = false := by
  induction n with
  | zero => intro i hi; omega
  | succ n ih =>
    rw [cnt] at h
    intro i hi
    by_cases e : i = n
    · subst e
      by_cases hp : p i = true
      · rw [if_pos hp] at h; omega
      · simpa using hp
    · exact ih (by omega) i (by omega)
theorem cnt_none {p : Nat → Bool} {n : Nat} (h : ∀ i, i < n → p i = false) : cnt p n = 0 := by
  induction n with
  | zero => rfl
  | succ n ih => rw [cnt, ih (fun i hi => h i (by omega)), h n (by omega)]; rfl
theorem ow_mem (xs : List Int) (t : Int) (hn : 1 ≤ xs.length) : ∃ i : Nat, i < xs.length ∧ ow xs t = xs.getD i 0 := by
  refine ⟨(t % (xs.length : Int)).toNat, ?_, rfl⟩
  have h1 := Int.emod_lt_of_pos t (show (0 : Int) < (xs.length : Int) by omega)
  have h2 := Int.emod_nonneg t (show (xs.length : Int) ≠ 0 by omega)
  omega
/-- A tenant without a tick in the table has none at all. -/
theorem first_none {xs : List Int} {a t nx : Int} (h : First xs a t nx) (hn : 1 ≤ xs.length) (hc : cnt (fun i => xs.getD i 0 == a) xs.length = 0) : nx = -1 := by
  rcases h with ⟨h, _⟩ | ⟨_, _, h2, _⟩
  · exact h
  · obtain ⟨i, hi, e⟩ := ow_mem xs nx hn
    have := cnt_zero hc i hi
    rw [← e, h2] at this
    simp at this
theorem first_some {xs : List Int} {a t nx : Int} (h : First xs a t nx) (hn : 1 ≤ xs.length) (ht : 0 ≤ t) (hc : cnt (fun i => xs.getD i 0 == a) xs.length ≠ 0) : t ≤ nx ∧ nx < t + xs.length ∧ ow xs nx = a := by
  rcases h with ⟨_, h⟩ | ⟨h1, h2, h3, _⟩
  · exfalso
    apply hc
    refine cnt_none fun i hi => ?_
    have hm := h ((i : Int) + (xs.length : Int) * t) (by
      have : t ≤ (xs.length : Int) * t := by
        have := Int.mul_le_mul_of_nonneg_right (show (1 : Int) ≤ (xs.length : Int) by omega) ht
        omega
      omega)
    have e : ow xs ((i : Int) + (xs.length : Int) * t) = xs.getD i 0 := by
      unfold ow
      rw [Int.add_mul_emod_self_left, Int.emod_eq_of_lt (by omega) (by omega)]; simp
    rw [e] at hm
    simpa using hm
  · exact ⟨h1, h2, h3⟩
theorem next_empty (a t : Int) : slot_Table_Next.f 1 [] a t = some (-1) := by
  unfold slot_Table_Next.f
  simp [slot_Table_Next.l0]
theorem count_empty (a : Int) : slot_Table_Count.f 1 [] a = some 0 := by
  unfold slot_Table_Count.f
  simp [slot_Table_Count.l0]
theorem bound_empty (t a b : Int) : slot_Table_Bound.f [] t a b = some (-1) := by
  unfold slot_Table_Bound.f slot_Table_sized.f
  rfl
/-- The bound, by plain numbers. -/
theorem bound_is (xs : List Int) (t a b : Int) (hn : 1 ≤ xs.length) (hlen : xs.length ≤ 16) (ht : 0 ≤ t) (ht2 : t < 1099511627776) (ha : 0 ≤ a) (ha2 : a < 20) (hb : 1 ≤ b) (hb2 : b ≤ 6) :
    slot_Table_Bound.f xs t a b = some (t + (xs.length : Int) * ((a + b) / b + 1)) := by
  unfold slot_Table_Bound.f slot_Table_sized.f
  rw [if_pos (by omega), decide_eq_true (show (xs.length : Int) ≤ 64 by omega)]
  simp only [Option.bind_some, if_true]
  rw [if_neg (by omega), if_neg (by omega), if_neg (by omega), if_neg (by omega), if_neg (by omega), if_neg (by omega), if_neg (by omega)]
  have hab : wrap64 (a + b) = a + b := by unfold wrap64; omega
  have hdiv : Int.tdiv (a + b) b = (a + b) / b := Int.tdiv_eq_ediv_of_nonneg (by omega)
  have hQ0 : 0 ≤ (a + b) / b := Int.ediv_nonneg (by omega) (by omega)
  have hQ1 : (a + b) / b * b ≤ a + b := Int.ediv_mul_le _ (by omega)
  have hQb : (a + b) / b ≤ 25 := by
    have : (a + b) / b * 1 ≤ (a + b) / b * b := Int.mul_le_mul_of_nonneg_left (by omega) hQ0
    omega
  rw [hab, hdiv]
  generalize (a + b) / b = Q at *
  have e1 : wrap64 Q = Q := by unfold wrap64; omega
  have e2 : wrap64 (Q + 1) = Q + 1 := by unfold wrap64; omega
  rw [e1, e2]
  have h0 : 0 ≤ (xs.length : Int) * (Q + 1) := Int.mul_nonneg (by omega) (by omega)
  have h1 : (xs.length : Int) * (Q + 1) ≤ 16 * (Q + 1) := Int.mul_le_mul_of_nonneg_right (by omega) (by omega)
  generalize (xs.length : Int) * (Q + 1) = P at *
  have e3 : wrap64 P = P := by unfold wrap64; omega
  have e4 : wrap64 (t + P) = t + P := by unfold wrap64; omega
  rw [e3, e4]
theorem check_loop (xs : List Int) (a : Int) (hlen : xs.length ≤ 100) (hall : ∀ i : Nat, i < xs.length → 0 ≤ xs.getD i 0 ∧ xs.getD i 0 < a) (d : Nat) : ∀ (k i : Nat), i ≤ xs.length → xs.length - i = d → d < k →
    slot_Table_Check.l0 k a xs (xs.length : Int) (i : Int) = some 0 := by
  induction d with
  | zero =>
    intro k i h1 hd hk
    obtain ⟨k, rfl⟩ : ∃ m, k = m + 1 := ⟨k - 1, by omega⟩
    simp only [slot_Table_Check.l0]; rw [if_neg (by omega)]
  | succ d ih =>
    intro k i h1 hd hk
    obtain ⟨k, rfl⟩ : ∃ m, k = m + 1 := ⟨k - 1, by omega⟩
    have e : wrap64 ((i : Int) + 1) = ((i + 1 : Nat) : Int) := by unfold wrap64; omega
    have hrd : rd xs (i : Int) = xs.getD i 0 := by unfold rd; simp
    obtain ⟨g1, g2⟩ := hall i (by omega)
    simp only [slot_Table_Check.l0]
    rw [if_pos (by omega), if_pos (by omega), if_pos (by omega), hrd, if_neg (by omega), if_neg (by omega), e]
    exact ih k (i + 1) (by omega) (by omega) (by omega)
theorem check_is (xs : List Int) (a : Int) (hn : 1 ≤ xs.length) (hlen : xs.length ≤ 16) (hall : ∀ i : Nat, i < xs.length → 0 ≤ xs.getD i 0 ∧ xs.getD i 0 < a) : slot_Table_Check.f 101 xs a = some 0 := by
  unfold slot_Table_Check.f slot_Table_sized.f
  rw [if_pos (by omega), decide_eq_true (show (xs.length : Int) ≤ 64 by omega)]
  simp only [Option.bind_some, if_true]
  exact check_loop xs a (by omega) hall xs.length 101 0 (by omega) (by omega) (by omega)

/-- What holds ahead of each round: with so many rounds gone the tick stands no later than as many tables on, and so many are taken. -/
def Served (N from_ a b t L : Int) : Prop := 0 ≤ L ∧ L ≤ a + 1 ∧ from_ ≤ t ∧ ∃ i : Int, 0 ≤ i ∧ t ≤ from_ + N * i ∧ (L = 0 ∨ L ≤ a + 1 - b * i)
theorem served_start (N from_ a b : Int) (ha : 0 ≤ a) : Served N from_ a b from_ (a + 1) := ⟨by omega, by omega, by omega, 0, by omega, by simp, .inr (by simp)⟩
/-- A round's tick is no later than the bound. -/
theorem served_bound {N from_ a b t L nx : Int} (h : Served N from_ a b t L) (hL : 0 < L) (hN : 1 ≤ N) (hb : 1 ≤ b) (hnx : nx < t + N) : nx ≤ from_ + N * ((a + b) / b + 1) := by
  obtain ⟨_, _, _, i, hi, ht, h0⟩ := h
  have h1 : b * i ≤ a := by omega
  have h2 : i ≤ (a + b) / b := by
    rw [Int.le_ediv_iff_mul_le (by omega), Int.mul_comm]; omega
  have h3 : N * (i + 1) ≤ N * ((a + b) / b + 1) := Int.mul_le_mul_of_nonneg_left (by omega) (by omega)
  rw [Int.mul_add, Int.mul_one] at h3
  omega
/-- Behind a round: either none is left, or as many fewer as the budget says. -/
theorem served_next {N from_ a b t L nx L' : Int} (h : Served N from_ a b t L) (hL : 0 < L) (hnx0 : t ≤ nx) (hnx : nx < t + N) (h' : L' = 0 ∨ L' = L - b) (h0' : 0 ≤ L') (hle : L' ≤ L) : Served N from_ a b (nx + 1) L' := by
  obtain ⟨g1, g2, g3, i, hi, ht, h0⟩ := h
  refine ⟨h0', by omega, by omega, i + 1, by omega, ?_, ?_⟩
  · rw [Int.mul_add, Int.mul_one]; omega
  · rcases h' with h' | h'
    · exact .inl h'
    · right; rw [Int.mul_add, Int.mul_one]; omega
end Go.Proofs.Yteffgoaadoeinaa.MineServed
