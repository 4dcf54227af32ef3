/- Plain mathematics of masks (no program in sight): numbers as sets of bits; which nodes are ready behind a set of placed ones; the order; what comes behind a node; depths; and what ReadyWhole, ReadyDeep and ReadyMore say of them. No conditions beyond those in each statement. -/
import Derived.Laws.BitsLemmas
namespace Go.Proofs.YtfkljcnkghakaaaDoor.Masks
set_option linter.unusedVariables false

/-! ### 1. sets of bits -/
/-- The number whose bits below n are those of p. -/
def num (p : Nat → Bool) : Nat → Nat
  | 0 => 0
  | n + 1 => num p n + if p n then 2 ^ n else 0
theorem num_lt (p : Nat → Bool) (n : Nat) : num p n < 2 ^ n := by
  induction n with
  | zero => simp [num]
  | succ n ih => rw [num, Nat.pow_succ]; split <;> omega
theorem num_bit (p : Nat → Bool) (n i : Nat) : (num p n).testBit i = (decide (i < n) && p i) := by
  induction n with
  | zero => simp [num]
  | succ n ih =>
    rw [num]
    by_cases hp : p n = true
    · rw [if_pos hp, Nat.add_comm]
      by_cases h1 : i < n
      · rw [Nat.testBit_two_pow_add_gt h1, ih]
        simp [h1, Nat.lt_succ_of_lt h1]
      · by_cases h2 : i = n
        · subst h2
          rw [Nat.testBit_two_pow_add_eq, Nat.testBit_lt_two_pow (num_lt p i)]
          simp [hp]
        · have h3 : 2 ^ n + num p n < 2 ^ i := by
            have := num_lt p n
            have h4 : 2 ^ (n + 1) ≤ 2 ^ i := Nat.pow_le_pow_right (by decide) (by omega)
            rw [Nat.pow_succ] at h4
            omega
          rw [Nat.testBit_lt_two_pow h3]
          have : ¬ i < n + 1 := by omega
          simp [this]
    · rw [if_neg hp, Nat.add_zero, ih]
      have hp' : p n = false := by simpa using hp
      by_cases h1 : i = n
      · subst h1; simp [hp']
      · have : (i < n + 1) = (i < n) := by apply propext; omega
        simp [this]
theorem num_congr {p q : Nat → Bool} (n : Nat) (h : ∀ i, i < n → p i = q i) : num p n = num q n := by
  induction n with
  | zero => rfl
  | succ n ih => rw [num, num, ih (fun i hi => h i (by omega)), h n (by omega)]
theorem num_inj {p q : Nat → Bool} {n : Nat} (h : num p n = num q n) (i : Nat) (hi : i < n) : p i = q i := by
  have h1 := num_bit p n i
  have h2 := num_bit q n i
  rw [h, h2] at h1
  simpa [hi] using h1.symm
theorem num_zero {p : Nat → Bool} {n : Nat} (h : ∀ i, i < n → p i = false) : num p n = 0 := by
  induction n with
  | zero => rfl
  | succ n ih => rw [num, ih (fun i hi => h i (by omega)), h n (by omega)]; simp
theorem num_ne {p : Nat → Bool} {n i : Nat} (hi : i < n) (hp : p i = true) : num p n ≠ 0 := by
  intro h
  have := num_bit p n i
  rw [h] at this
  simp [hi, hp] at this
/-- One bit more: set already, or not. -/
theorem num_or (p : Nat → Bool) (n i : Nat) (hi : i < n) : num p n ||| 2 ^ i = num (fun j => p j || j == i) n := by
  apply Nat.eq_of_testBit_eq
  intro j
  rw [Nat.testBit_or, num_bit, num_bit, Nat.testBit_two_pow]
  by_cases h : i = j
  · subst h; simp [hi]
  · have h' : (j == i) = false := by simp; omega
    simp [h, h']

/-! ### 2. ready, the order -/
section
variable (n : Nat) (dep : Nat → Nat → Bool)
/-- i waits for nothing that isn't in p, and isn't in p. -/
def ready (p : Nat → Bool) (i : Nat) : Bool := (List.range n).all (fun k => !dep i k || p k) && !p i
theorem ready_iff {p : Nat → Bool} {i : Nat} : ready n dep p i = true ↔ (∀ k, k < n → dep i k = true → p k = true) ∧ p i = false := by
  unfold ready
  rw [Bool.and_eq_true, List.all_eq_true]
  constructor
  · rintro ⟨h1, h2⟩
    refine ⟨fun k hk hd => ?_, by simpa using h2⟩
    have := h1 k (List.mem_range.2 hk)
    simpa [hd] using this
  · rintro ⟨h1, h2⟩
    refine ⟨fun k hk => ?_, by simp [h2]⟩
    have := h1 k (List.mem_range.1 hk)
    cases hd : dep i k <;> simp_all
theorem ready_congr {p q : Nat → Bool} (i : Nat) (hi : i < n) (h : ∀ k, k < n → p k = q k) : ready n dep p i = ready n dep q i := by
  rw [Bool.eq_iff_iff, ready_iff, ready_iff]
  constructor
  · rintro ⟨h1, h2⟩; exact ⟨fun k hk hd => by rw [← h k hk]; exact h1 k hk hd, by rw [← h i hi]; exact h2⟩
  · rintro ⟨h1, h2⟩; exact ⟨fun k hk hd => by rw [h k hk]; exact h1 k hk hd, by rw [h i hi]; exact h2⟩
/-- The first ready node behind those of L. -/
def first (L : List Nat) : Option Nat := (List.range n).find? (ready n dep (fun j => L.contains j))
def step (L : List Nat) : List Nat := match first n dep L with
  | none => L
  | some i => L ++ [i]
def iter : Nat → List Nat
  | 0 => []
  | j + 1 => step n dep (iter j)
/-- The document's order. -/
def order : List Nat := iter n dep n

/-- A list in which each node stands behind those it waits for. -/
structure Good (L : List Nat) : Prop where
  lt : ∀ i ∈ L, i < n
  nodup : L.Nodup
  deps : ∀ i ∈ L, ∀ k, k < n → dep i k = true → k ∈ L ∧ L.idxOf k < L.idxOf i
theorem good_nil : Good n dep [] := ⟨fun i h => by simp at h, List.nodup_nil, fun i h => by simp at h⟩
variable {n dep}
theorem idx_left {L M : List Nat} {x : Nat} (h : x ∈ L) : (L ++ M).idxOf x = L.idxOf x := by
  rw [List.idxOf_append, if_pos h]
theorem idx_new {L : List Nat} {x : Nat} (h : x ∉ L) : (L ++ [x]).idxOf x = L.length := by
  rw [List.idxOf_append, if_neg h]; simp
theorem good_snoc {L : List Nat} {i : Nat} (h : Good n dep L) (hi : i < n) (hr : ready n dep (fun j => L.contains j) i = true) : Good n dep (L ++ [i]) := by
  rw [ready_iff] at hr
  obtain ⟨h1, h2⟩ := hr
  have hni : i ∉ L := by simpa using h2
  refine ⟨fun j hj => ?_, ?_, fun j hj k hk hd => ?_⟩
  · rcases List.mem_append.1 hj with hj | hj
    · exact h.lt j hj
    · have : j = i := by simpa using hj
      omega
  · rw [List.nodup_append]
    refine ⟨h.nodup, by simp, fun a ha b hb => ?_⟩
    have : b = i := by simpa using hb
    subst this
    rintro rfl
    exact hni ha
  · rcases List.mem_append.1 hj with hj | hj
    · obtain ⟨g1, g2⟩ := h.deps j hj k hk hd
      refine ⟨List.mem_append_left _ g1, ?_⟩
      rw [idx_left g1, idx_left hj]; exact g2
    · have e : j = i := by simpa using hj
      subst e
      have g1 : k ∈ L := by simpa using h1 k hk hd
      refine ⟨List.mem_append_left _ g1, ?_⟩
      rw [idx_left g1, idx_new hni]
      exact List.idxOf_lt_length_of_mem g1
theorem first_some {L : List Nat} {i : Nat} (h : first n dep L = some i) : i < n ∧ ready n dep (fun j => L.contains j) i = true ∧ ∀ j, j < i → ready n dep (fun j => L.contains j) j = false := by
  unfold first at h
  rw [List.find?_range_eq_some] at h
  exact ⟨List.mem_range.1 h.2.1, h.1, fun j hj => by simpa using h.2.2 j hj⟩
theorem first_none {L : List Nat} (h : first n dep L = none) : ∀ i, i < n → ready n dep (fun j => L.contains j) i = false := by
  unfold first at h
  rw [List.find?_range_eq_none] at h
  exact fun i hi => by simpa using h i hi
theorem first_of {L : List Nat} {i : Nat} (hi : i < n) (hr : ready n dep (fun j => L.contains j) i = true) (hno : ∀ j, j < i → ready n dep (fun j => L.contains j) j = false) : first n dep L = some i := by
  unfold first
  rw [List.find?_range_eq_some]
  exact ⟨hr, List.mem_range.2 hi, fun j hj => by rw [hno j hj]; rfl⟩
theorem first_of_none {L : List Nat} (h : ∀ i, i < n → ready n dep (fun j => L.contains j) i = false) : first n dep L = none := by
  unfold first
  rw [List.find?_range_eq_none]
  exact fun i hi => by rw [h i hi]; rfl
theorem good_step {L : List Nat} (h : Good n dep L) : Good n dep (step n dep L) := by
  unfold step
  split
  · exact h
  · rename_i i e
    obtain ⟨h1, h2, _⟩ := first_some e
    exact good_snoc h h1 h2
theorem good_iter (j : Nat) : Good n dep (iter n dep j) := by
  induction j with
  | zero => exact good_nil n dep
  | succ j ih => exact good_step ih
theorem good_order : Good n dep (order n dep) := good_iter n
/-- No list of different numbers below n is longer than n. -/
theorem len_le : ∀ (n : Nat) (L : List Nat), L.Nodup → (∀ i ∈ L, i < n) → L.length ≤ n
  | 0, L, _, h => by
    cases L with
    | nil => simp
    | cons a l => exact absurd (h a (by simp)) (by omega)
  | n + 1, L, hn, h => by
    have h1 := len_le n (L.erase n) (hn.erase n) (fun i hi => by
      have h2 := (hn.mem_erase_iff).1 hi
      have := h i h2.2
      have := h2.1
      omega)
    by_cases hm : n ∈ L
    · rw [List.length_erase_of_mem hm] at h1; omega
    · rw [List.erase_of_not_mem hm] at h1; omega
theorem good_len {L : List Nat} (h : Good n dep L) : L.length ≤ n := len_le n L h.nodup h.lt
theorem step_none {L : List Nat} (h : first n dep L = none) : step n dep L = L := by unfold step; rw [h]
theorem step_some {L : List Nat} {i : Nat} (h : first n dep L = some i) : step n dep L = L ++ [i] := by unfold step; rw [h]
theorem iter_fix {j : Nat} (h : first n dep (iter n dep j) = none) (m : Nat) : iter n dep (j + m) = iter n dep j := by
  induction m with
  | zero => rfl
  | succ m ih => rw [← Nat.add_assoc, iter, ih, step_none h]
theorem iter_len (j : Nat) : (iter n dep j).length = j ∨ first n dep (iter n dep j) = none := by
  induction j with
  | zero => exact .inl rfl
  | succ j ih =>
    rcases ih with ih | ih
    · cases e : first n dep (iter n dep j) with
      | none => right; rw [iter, step_none e]; exact e
      | some i => left; rw [iter, step_some e]; simp [ih]
    · right; rw [iter, step_none ih]; exact ih
theorem order_done : first n dep (order n dep) = none := by
  rcases iter_len (n := n) (dep := dep) n with h | h
  · cases e : first n dep (iter n dep n) with
    | none => exact e
    | some i =>
      have h1 := good_len (good_iter (n := n) (dep := dep) (n + 1))
      rw [iter, step_some e] at h1
      simp [h] at h1
      omega
  · exact h
/-- A list from which the steps go no further, with as many steps as nodes or fewer, is the order. -/
theorem order_of_fix {j : Nat} (hj : j ≤ n) (h : first n dep (iter n dep j) = none) : iter n dep j = order n dep := by
  have := iter_fix h (n - j)
  rw [← this, show j + (n - j) = n by omega]; rfl
/-- Who isn't in the order waits for one that isn't. -/
theorem order_stuck {i : Nat} (hi : i < n) (h : i ∉ order n dep) : ∃ k, k < n ∧ dep i k = true ∧ k ∉ order n dep := by
  have h1 := first_none (order_done (n := n) (dep := dep)) i hi
  apply Classical.byContradiction
  intro hno
  have : ready n dep (fun j => (order n dep).contains j) i = true := by
    rw [ready_iff]
    refine ⟨fun k hk hd => ?_, by simpa using h⟩
    apply Classical.byContradiction
    intro hc
    exact hno ⟨k, hk, hd, by simpa using hc⟩
  rw [this] at h1
  cases h1
end

/-! ### 3. what comes behind a node -/
/-- i comes behind a. -/
inductive Beh (n : Nat) (dep : Nat → Nat → Bool) (a : Nat) : Nat → Prop
  | one {i : Nat} : i < n → dep i a = true → Beh n dep a i
  | more {i k : Nat} : i < n → k < n → dep i k = true → Beh n dep a k → Beh n dep a i
section
variable {n : Nat} {dep : Nat → Nat → Bool}
theorem Beh.lt {a i : Nat} (h : Beh n dep a i) : i < n := by cases h <;> assumption
theorem Beh.trans {a b c : Nat} (h1 : Beh n dep a b) (h2 : Beh n dep b c) : Beh n dep a c := by
  induction h2 with
  | one hi hd => exact .more hi h1.lt hd h1
  | more hi hk hd _ ih => exact .more hi hk hd ih
/-- In a good list whoever comes behind another stands behind it. -/
theorem Good.beh {L : List Nat} (h : Good n dep L) {a i : Nat} (ha : a < n) (hb : Beh n dep a i) (hi : i ∈ L) : a ∈ L ∧ L.idxOf a < L.idxOf i := by
  induction hb with
  | one _ hd => exact h.deps _ hi a ha hd
  | more _ hk hd _ ih =>
    obtain ⟨g1, g2⟩ := h.deps _ hi _ hk hd
    obtain ⟨g3, g4⟩ := ih g1
    exact ⟨g3, Nat.lt_trans g4 g2⟩
/-- A list that isn't empty has a least element of a transitive relation that relates none to itself. -/
theorem least_of {R : Nat → Nat → Prop} (ht : ∀ x y z, R x y → R y z → R x z) : ∀ (S : List Nat), S ≠ [] → (∀ x ∈ S, ¬ R x x) → ∃ m ∈ S, ∀ x ∈ S, ¬ R x m
  | [], h, _ => absurd rfl h
  | [a], _, hi => ⟨a, by simp, fun x hx => by rw [show x = a by simpa using hx]; exact hi a (by simp)⟩
  | a :: b :: S, _, hi => by
    obtain ⟨m, hm, hmin⟩ := least_of ht (b :: S) (by simp) (fun x hx => hi x (List.mem_cons_of_mem _ hx))
    by_cases ham : R a m
    · refine ⟨a, by simp, fun x hx hxa => ?_⟩
      rcases List.mem_cons.1 hx with rfl | hx
      · exact hi x (by simp) hxa
      · exact hmin x hx (ht x a m hxa ham)
    · refine ⟨m, List.mem_cons_of_mem _ hm, fun x hx => ?_⟩
      rcases List.mem_cons.1 hx with rfl | hx
      · exact ham
      · exact hmin x hx
open Classical in
noncomputable def pick (n : Nat) (dep : Nat → Nat → Bool) (i x : Nat) : Bool := decide (x ∉ order n dep ∧ (x = i ∨ Beh n dep x i))
open Classical in
theorem pick_iff {i x : Nat} : pick n dep i x = true ↔ x ∉ order n dep ∧ (x = i ∨ Beh n dep x i) := by unfold pick; exact decide_eq_true_iff
/-- Those that are left out come behind themselves, or behind such; and only those. -/
theorem stuck_iff {i : Nat} (hi : i < n) : i ∉ order n dep ↔ (Beh n dep i i ∨ ∃ k, k < n ∧ Beh n dep k k ∧ Beh n dep k i) := by
  constructor
  · intro hno
    apply Classical.byContradiction
    intro hns
    have hself : ¬ Beh n dep i i := fun h => hns (.inl h)
    have hcyc : ∀ k, k < n → Beh n dep k i → ¬ Beh n dep k k := fun k hk h1 h2 => hns (.inr ⟨k, hk, h2, h1⟩)
    have hmemS : ∀ x, x ∈ (List.range n).filter (fun x => pick n dep i x) ↔ x < n ∧ x ∉ order n dep ∧ (x = i ∨ Beh n dep x i) := fun x => by
      rw [List.mem_filter, List.mem_range, pick_iff]
    obtain ⟨m, hm, hmin⟩ := least_of (R := Beh n dep) (fun x y z h1 h2 => h1.trans h2) _ (List.ne_nil_of_mem ((hmemS i).2 ⟨hi, hno, .inl rfl⟩)) (fun x hx => by
      obtain ⟨h1, _, h3⟩ := (hmemS x).1 hx
      rcases h3 with rfl | h3
      · exact hself
      · exact hcyc x h1 h3)
    obtain ⟨h1, h2, h3⟩ := (hmemS m).1 hm
    obtain ⟨k, hk, hd, hkn⟩ := order_stuck h1 h2
    have hkm : Beh n dep k m := .one h1 hd
    refine hmin k ((hmemS k).2 ⟨hk, hkn, .inr ?_⟩) hkm
    rcases h3 with rfl | h3
    · exact hkm
    · exact hkm.trans h3
  · rintro (h | ⟨k, hk, h1, h2⟩) hin
    · have := (good_order.beh hi h hin).2; omega
    · obtain ⟨g1, _⟩ := good_order.beh hk h2 hin
      have := (good_order.beh hk h1 g1).2; omega
/-- Whatever set goes by ready, and goes no further, holds what the order holds. -/
theorem closure_sub {p : Nat → Bool} (h : ∀ i, i < n → ready n dep p i = false) : ∀ (r i : Nat), i ∈ order n dep → (order n dep).idxOf i ≤ r → p i = true := by
  intro r
  induction r with
  | zero =>
    intro i hi hr
    have h1 := h i (good_order.lt i hi)
    apply Classical.byContradiction
    intro hp
    rw [Bool.eq_false_iff] at h1
    exact h1 ((ready_iff n dep).2 ⟨fun k hk hd => by have := (good_order.deps i hi k hk hd).2; omega, by simpa using hp⟩)
  | succ r ih =>
    intro i hi hr
    have h1 := h i (good_order.lt i hi)
    apply Classical.byContradiction
    intro hp
    rw [Bool.eq_false_iff] at h1
    exact h1 ((ready_iff n dep).2 ⟨fun k hk hd => by
      obtain ⟨g1, g2⟩ := good_order.deps i hi k hk hd
      exact ih k g1 (by omega), by simpa using hp⟩)
theorem closure_in {p : Nat → Bool} (hs : ∀ i, i < n → p i = true → i ∈ order n dep) {i : Nat} (hi : i < n) (hr : ready n dep p i = true) : i ∈ order n dep := by
  obtain ⟨h1, h2⟩ := (ready_iff n dep).1 hr
  apply Classical.byContradiction
  intro hno
  obtain ⟨k, hk, hd, hkn⟩ := order_stuck hi hno
  exact hkn (hs k hk (h1 k hk hd))
end

/-! ### 4. depths -/
section
variable (n : Nat) (dep : Nat → Nat → Bool)
/-- The greatest depth of those it waits for; 0 for none. -/
def maxDep (d : Nat → Int) (i : Nat) : Nat → Int
  | 0 => 0
  | m + 1 => if dep i m then max (maxDep d i m) (d m) else maxDep d i m
def upd (d : Nat → Int) (i : Nat) (v : Int) : Nat → Int := fun j => if j = i then v else d j
def depths (L : List Nat) : Nat → Int := L.foldl (fun d i => upd d i (maxDep dep d i n + 1)) (fun _ => -1)
variable {n dep}
theorem maxDep_nonneg (d : Nat → Int) (i m : Nat) : 0 ≤ maxDep dep d i m := by
  induction m with
  | zero => simp [maxDep]
  | succ m ih => rw [maxDep]; split <;> omega
theorem le_maxDep {d : Nat → Int} {i m k : Nat} (hk : k < m) (hd : dep i k = true) : d k ≤ maxDep dep d i m := by
  induction m with
  | zero => omega
  | succ m ih =>
    rw [maxDep]
    by_cases e : k = m
    · subst e; rw [if_pos hd]; omega
    · have := ih (by omega)
      split <;> omega
theorem maxDep_le {d : Nat → Int} {i m : Nat} {v : Int} (h0 : 0 ≤ v) (h : ∀ k, k < m → dep i k = true → d k ≤ v) : maxDep dep d i m ≤ v := by
  induction m with
  | zero => simpa [maxDep] using h0
  | succ m ih =>
    have := ih (fun k hk => h k (by omega))
    rw [maxDep]
    by_cases hd : dep i m = true
    · rw [if_pos hd]; have := h m (by omega) hd; omega
    · rw [if_neg hd]; exact this
theorem maxDep_congr {d d' : Nat → Int} {i m : Nat} (h : ∀ k, k < m → dep i k = true → d k = d' k) : maxDep dep d i m = maxDep dep d' i m := by
  induction m with
  | zero => rfl
  | succ m ih =>
    rw [maxDep, maxDep, ih (fun k hk => h k (by omega))]
    by_cases hd : dep i m = true
    · rw [if_pos hd, if_pos hd, h m (by omega) hd]
    · rw [if_neg hd, if_neg hd]
theorem depths_snoc (L : List Nat) (i : Nat) : depths n dep (L ++ [i]) = upd (depths n dep L) i (maxDep dep (depths n dep L) i n + 1) := by
  unfold depths; rw [List.foldl_append]; rfl
/-- Who isn't in the list is at -1. -/
theorem depths_out (j i : Nat) (hi : i ∉ iter n dep j) : depths n dep (iter n dep j) i = -1 := by
  induction j with
  | zero => rfl
  | succ j ih =>
    rw [iter] at hi ⊢
    cases e : first n dep (iter n dep j) with
    | none => rw [step_none e] at hi ⊢; exact ih hi
    | some a =>
      rw [step_some e] at hi ⊢
      have h1 : i ∉ iter n dep j := fun h => hi (List.mem_append_left _ h)
      have h2 : i ≠ a := fun h => hi (by simp [h])
      rw [depths_snoc]; unfold upd; rw [if_neg h2]; exact ih h1
/-- Who is in it is one deeper than the deepest it waits for. -/
theorem depths_in (j i : Nat) (hi : i ∈ iter n dep j) : depths n dep (iter n dep j) i = maxDep dep (depths n dep (iter n dep j)) i n + 1 := by
  induction j with
  | zero => simp [iter] at hi
  | succ j ih =>
    rw [iter] at hi ⊢
    cases e : first n dep (iter n dep j) with
    | none => rw [step_none e] at hi ⊢; exact ih hi
    | some a =>
      rw [step_some e] at hi ⊢
      obtain ⟨ha, hr, _⟩ := first_some e
      obtain ⟨hr1, hr2⟩ := (ready_iff n dep).1 hr
      have hna : a ∉ iter n dep j := by simpa using hr2
      rw [depths_snoc]
      by_cases hia : i = a
      · subst hia
        have hc : maxDep dep (upd (depths n dep (iter n dep j)) i (maxDep dep (depths n dep (iter n dep j)) i n + 1)) i n = maxDep dep (depths n dep (iter n dep j)) i n := maxDep_congr fun k hk hd => by
          have : k ≠ i := by rintro rfl; exact hna (by simpa using hr1 k hk hd)
          unfold upd; rw [if_neg this]
        rw [hc]; unfold upd; rw [if_pos rfl]
      · have hiL : i ∈ iter n dep j := by
          rcases List.mem_append.1 hi with h | h
          · exact h
          · exact absurd (by simpa using h) hia
        have hc : maxDep dep (upd (depths n dep (iter n dep j)) a (maxDep dep (depths n dep (iter n dep j)) a n + 1)) i n = maxDep dep (depths n dep (iter n dep j)) i n := maxDep_congr fun k hk hd => by
          have : k ≠ a := by rintro rfl; exact hna ((good_iter j).deps i hiL k hk hd).1
          unfold upd; rw [if_neg this]
        rw [hc]; unfold upd; rw [if_neg hia]; exact ih hiL
theorem depths_pos {i : Nat} (hi : i ∈ order n dep) : 1 ≤ depths n dep (order n dep) i := by
  have h1 : depths n dep (order n dep) i = maxDep dep (depths n dep (order n dep)) i n + 1 := depths_in n i hi
  have := maxDep_nonneg (dep := dep) (depths n dep (order n dep)) i n
  omega
theorem depths_iff {i : Nat} : 0 ≤ depths n dep (order n dep) i ↔ i ∈ order n dep := by
  constructor
  · intro h
    apply Classical.byContradiction
    intro hno
    have : depths n dep (order n dep) i = -1 := depths_out n i hno
    omega
  · intro h; have := depths_pos h; omega
end

/-! ### 5. one more to wait for -/
section
variable {n : Nat} {dep dep' : Nat → Nat → Bool}
theorem Beh.more_deps (h : ∀ i k, dep i k = true → dep' i k = true) {a i : Nat} (hb : Beh n dep a i) : Beh n dep' a i := by
  induction hb with
  | one hi hd => exact .one hi (h _ _ hd)
  | more hi hk hd _ ih => exact .more hi hk (h _ _ hd) ih
theorem more_sub (h : ∀ i k, dep i k = true → dep' i k = true) : ∀ (r i : Nat), i ∈ order n dep' → (order n dep').idxOf i < r → i ∈ order n dep := by
  intro r
  induction r with
  | zero => intro i _ hr; omega
  | succ r ih =>
    intro i hi hr
    have g := good_order (n := n) (dep := dep')
    apply Classical.byContradiction
    intro hno
    obtain ⟨k, hk, hd, hkn⟩ := order_stuck (g.lt i hi) hno
    obtain ⟨g1, g2⟩ := g.deps i hi k hk (h _ _ hd)
    exact hkn (ih k g1 (by omega))
theorem more_in (h : ∀ i k, dep i k = true → dep' i k = true) {i : Nat} (hi : i ∈ order n dep') : i ∈ order n dep := more_sub h _ i hi (Nat.lt_succ_self _)
theorem more_deep (h : ∀ i k, dep i k = true → dep' i k = true) : ∀ (r i : Nat), i ∈ order n dep' → (order n dep').idxOf i < r → depths n dep (order n dep) i ≤ depths n dep' (order n dep') i := by
  intro r
  induction r with
  | zero => intro i _ hr; omega
  | succ r ih =>
    intro i hi hr
    have g := good_order (n := n) (dep := dep')
    have h1 : depths n dep (order n dep) i = maxDep dep (depths n dep (order n dep)) i n + 1 := depths_in n i (more_in h hi)
    have h2 : depths n dep' (order n dep') i = maxDep dep' (depths n dep' (order n dep')) i n + 1 := depths_in n i hi
    rw [h1, h2]
    have h3 : maxDep dep (depths n dep (order n dep)) i n ≤ maxDep dep' (depths n dep' (order n dep')) i n := by
      refine maxDep_le (maxDep_nonneg _ _ _) fun k hk hd => ?_
      obtain ⟨g1, g2⟩ := g.deps i hi k hk (h _ _ hd)
      have h4 := ih k g1 (by omega)
      have h5 := le_maxDep (dep := dep') (d := depths n dep' (order n dep')) (i := i) hk (h _ _ hd)
      omega
    omega
end

/-! ### 6. going round until nothing is added -/
/-- How many below n are such. -/
def cnt (p : Nat → Bool) : Nat → Nat
  | 0 => 0
  | n + 1 => cnt p n + if p n then 1 else 0
theorem cnt_le (p : Nat → Bool) (n : Nat) : cnt p n ≤ n := by
  induction n with
  | zero => simp [cnt]
  | succ n ih => simp only [cnt]; split <;> omega
theorem cnt_mono {p q : Nat → Bool} {n : Nat} (h : ∀ i, i < n → p i = true → q i = true) : cnt p n ≤ cnt q n := by
  induction n with
  | zero => simp [cnt]
  | succ n ih =>
    have := ih (fun i hi => h i (by omega))
    simp only [cnt]
    by_cases hp : p n = true
    · rw [if_pos hp, if_pos (h n (by omega) hp)]; omega
    · rw [if_neg hp]; omega
theorem cnt_lt {p q : Nat → Bool} {n i : Nat} (h : ∀ i, i < n → p i = true → q i = true) (hi : i < n) (hp : p i = false) (hq : q i = true) : cnt p n < cnt q n := by
  induction n with
  | zero => omega
  | succ n ih =>
    simp only [cnt]
    by_cases e : i = n
    · subst e
      have := cnt_mono (p := p) (q := q) (n := i) (fun j hj => h j (by omega))
      rw [hp, hq]; simp; omega
    · have h1 := ih (fun j hj => h j (by omega)) (by omega)
      by_cases hpn : p n = true
      · rw [if_pos hpn, if_pos (h n (by omega) hpn)]; omega
      · rw [if_neg hpn]; split <;> omega
theorem cnt_all {p : Nat → Bool} {n : Nat} (h : n ≤ cnt p n) : ∀ i, i < n → p i = true := by
  induction n with
  | zero => intro i hi; omega
  | succ n ih =>
    simp only [cnt] at h
    have h1 := cnt_le p n
    intro i hi
    by_cases hp : p n = true
    · rw [if_pos hp] at h
      by_cases e : i = n
      · subst e; exact hp
      · exact ih (by omega) i (by omega)
    · rw [if_neg hp] at h; omega
section
variable {n : Nat} {dep : Nat → Nat → Bool} {a : Nat}
/-- A set of such as come behind a, to which nothing is to be added, is all that come behind a. -/
theorem beh_of_closed {p : Nat → Bool} (hc : ∀ i, i < n → ∀ k, k < n → dep i k = true → (k = a ∨ p k = true) → p i = true) (ha : a < n) {i : Nat} (hb : Beh n dep a i) : p i = true := by
  induction hb with
  | one hi hd => exact hc _ hi a ha hd (.inl rfl)
  | more hi hk hd _ ih => exact hc _ hi _ hk hd (.inr ih)
end
end Go.Proofs.YtfkljcnkghakaaaDoor.Masks
