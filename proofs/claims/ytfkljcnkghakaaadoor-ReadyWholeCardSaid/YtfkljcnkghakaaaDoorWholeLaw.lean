/- Plain laws for ReadyWhole: the order, step by step; whoever is picked first, the same nodes are placed. No condition. -/
import Derived.Test.YtfkljcnkghakaaaDoorOrder
import Derived.Test.YtfkljcnkghakaaaDoorDep
namespace Go.Proofs.YtfkljcnkghakaaaDoor.Masks
set_option linter.unusedVariables false

/-- The node that comes at place i of the order: a node, not placed yet; what it waits for is. -/
theorem order_at (ys : List Int) (i : Nat) (hi : i < (order (nn ys) (dep ys)).length) :
    (order (nn ys) (dep ys)).getD i 0 < nn ys ∧ (order (nn ys) (dep ys)).getD i 0 ∉ (order (nn ys) (dep ys)).take i ∧ ∀ k, k < nn ys → dep ys ((order (nn ys) (dep ys)).getD i 0) k = true → k ∈ (order (nn ys) (dep ys)).take i := by
  have g := good_order (n := nn ys) (dep := dep ys)
  generalize order (nn ys) (dep ys) = O at g hi ⊢
  have e : O.getD i 0 = O[i] := by simp [List.getD, hi]
  rw [e]
  have hm : O[i] ∈ O := List.getElem_mem hi
  have hx : O.idxOf O[i] = i := List.Nodup.idxOf_getElem g.nodup i hi
  have htake : ∀ k, k ∈ O → O.idxOf k < i → k ∈ O.take i := fun k hk hlt => by
    have h1 : O.idxOf k < O.length := List.idxOf_lt_length_of_mem hk
    rw [List.mem_take_iff_getElem]
    exact ⟨O.idxOf k, by omega, List.getElem_idxOf h1⟩
  refine ⟨g.lt _ hm, fun hin => ?_, fun k hk hd => ?_⟩
  · rw [List.mem_take_iff_getElem] at hin
    obtain ⟨j, hj, e2⟩ := hin
    have h2 : j = i := (List.getElem_inj g.nodup).1 e2
    omega
  · obtain ⟨g1, g2⟩ := g.deps _ hm k hk hd
    exact htake k g1 (by omega)
/-- All that is done stands in the order. -/
def InO (ys : List Int) (m : Nat) : Prop := ∀ j, j < nn ys → m.testBit j = true → j ∈ order (nn ys) (dep ys)
theorem inO_zero (ys : List Int) : InO ys 0 := fun j _ h => by simp at h
theorem readyN_bit (ys : List Int) (m x : Nat) : (readyN ys m).testBit x = true ↔ x < nn ys ∧ ready (nn ys) (dep ys) (fun j => m.testBit j) x = true := by
  unfold readyN; rw [num_bit, Bool.and_eq_true, decide_eq_true_eq]
theorem inO_step {ys : List Int} {m x : Nat} (h : InO ys m) (hx : (readyN ys m).testBit x = true) : InO ys (m ||| 2 ^ x) := by
  obtain ⟨hxn, hr⟩ := (readyN_bit ys m x).1 hx
  obtain ⟨h1, _⟩ := (ready_iff _ _).1 hr
  intro j hj hb
  rw [Nat.testBit_or, Nat.testBit_two_pow] at hb
  by_cases e : x = j
  · subst e
    apply Classical.byContradiction
    intro hno
    obtain ⟨k, hk, hd, hkn⟩ := order_stuck hxn hno
    exact hkn (h k hk (h1 k hk hd))
  · have : m.testBit j = true := by simpa [e] using hb
    exact h j hj this
theorem done_all {ys : List Int} {m : Nat} (h0 : readyN ys m = 0) : ∀ (r j : Nat), j ∈ order (nn ys) (dep ys) → (order (nn ys) (dep ys)).idxOf j < r → m.testBit j = true := by
  have g := good_order (n := nn ys) (dep := dep ys)
  intro r
  induction r with
  | zero => intro j _ hr; omega
  | succ r ih =>
    intro j hj hr
    apply Classical.byContradiction
    intro hno
    have hno' : m.testBit j = false := by simpa using hno
    have : (readyN ys m).testBit j = true := (readyN_bit ys m j).2 ⟨g.lt j hj, (ready_iff _ _).2 ⟨fun k hk hd => ih k (g.deps j hj k hk hd).1 (by have := (g.deps j hj k hk hd).2; omega), hno'⟩⟩
    rw [h0] at this
    simp at this
theorem placed_of {ys : List Int} {m : Nat} (hm : m < 2 ^ nn ys) (h : InO ys m) (h2 : ∀ j ∈ order (nn ys) (dep ys), m.testBit j = true) : m = placedN ys (order (nn ys) (dep ys)) := by
  apply Nat.eq_of_testBit_eq
  intro j
  unfold placedN
  rw [num_bit]
  by_cases hj : j < nn ys
  · rw [decide_eq_true hj, Bool.true_and, List.contains_eq_mem]
    rw [Bool.eq_iff_iff, decide_eq_true_eq]
    exact ⟨fun hb => h j hj hb, fun hin => h2 j hin⟩
  · rw [decide_eq_false hj, Bool.false_and]
    exact Nat.testBit_lt_two_pow (Nat.lt_of_lt_of_le hm (Nat.pow_le_pow_right (by decide) (by omega)))
/-- Nothing is ready any more: just those of the order are done. -/
theorem done_end {ys : List Int} {m : Nat} (hm : m < 2 ^ nn ys) (h : InO ys m) (h0 : readyN ys m = 0) : m = placedN ys (order (nn ys) (dep ys)) :=
  placed_of hm h (fun j hj => done_all h0 _ j hj (Nat.lt_succ_self _))
theorem cnt_congr {p q : Nat → Bool} {n : Nat} (h : ∀ i, i < n → p i = q i) : cnt p n = cnt q n := by
  induction n with
  | zero => rfl
  | succ n ih =>
    show cnt p n + (if p n then 1 else 0) = cnt q n + (if q n then 1 else 0)
    rw [ih (fun i hi => h i (by omega)), h n (by omega)]
theorem cnt_step {n m x : Nat} (hx : x < n) (h : m.testBit x = false) : cnt (fun j => (m ||| 2 ^ x).testBit j) n = cnt (fun j => m.testBit j) n + 1 := by
  have hbit : ∀ j, (m ||| 2 ^ x).testBit j = (m.testBit j || decide (x = j)) := fun j => by rw [Nat.testBit_or, Nat.testBit_two_pow]
  rw [cnt_congr (fun j _ => hbit j)]
  clear hbit
  induction n with
  | zero => omega
  | succ n ih =>
    show cnt (fun j => m.testBit j || decide (x = j)) n + (if (m.testBit n || decide (x = n)) then 1 else 0) = cnt (fun j => m.testBit j) n + (if m.testBit n then 1 else 0) + 1
    by_cases e : x = n
    · have e2 : cnt (fun j => m.testBit j || decide (x = j)) n = cnt (fun j => m.testBit j) n := cnt_congr fun j hj => by
        have : ¬ x = j := by omega
        simp [this]
      rw [e2]
      subst e
      simp [h]
    · rw [ih (by omega)]
      simp [e]
      omega
/-- As many are done as there are nodes: just those of the order are done. -/
theorem done_full {ys : List Int} {m : Nat} (hm : m < 2 ^ nn ys) (h : InO ys m) (hc : nn ys ≤ cnt (fun j => m.testBit j) (nn ys)) : m = placedN ys (order (nn ys) (dep ys)) :=
  placed_of hm h (fun j hj => cnt_all hc j ((good_order (n := nn ys) (dep := dep ys)).lt j hj))
/-- n comes behind itself, or behind such. -/
noncomputable def stuckB (ys : List Int) (n : Nat) (m : Nat) : Bool := behB ys n n || (List.range m).any fun k => behB ys k k && behB ys k n
theorem stuck_is (ys : List Int) (n : Nat) (hn : n < nn ys) : stuckB ys n (nn ys) = !(order (nn ys) (dep ys)).contains n := by
  have h := stuck_iff (n := nn ys) (dep := dep ys) hn
  have e : stuckB ys n (nn ys) = true ↔ n ∉ order (nn ys) (dep ys) := by
    rw [h]
    unfold stuckB
    rw [Bool.or_eq_true, List.any_eq_true, behB_iff]
    constructor
    · rintro (h1 | ⟨k, hk, h2⟩)
      · exact .inl h1
      · rw [Bool.and_eq_true, behB_iff, behB_iff] at h2
        exact .inr ⟨k, List.mem_range.1 hk, h2.1, h2.2⟩
    · rintro (h1 | ⟨k, hk, h2, h3⟩)
      · exact .inl h1
      · exact .inr ⟨k, List.mem_range.2 hk, by rw [Bool.and_eq_true, behB_iff, behB_iff]; exact ⟨h2, h3⟩⟩
  rw [List.contains_eq_mem]
  by_cases hin : n ∈ order (nn ys) (dep ys)
  · have : stuckB ys n (nn ys) = false := by
      cases hs : stuckB ys n (nn ys) with
      | false => rfl
      | true => exact absurd hin (e.1 hs)
    rw [this]; simp [hin]
  · rw [e.2 hin]; simp [hin]
theorem stuckB_step (ys : List Int) (n m : Nat) : stuckB ys n (m + 1) = (stuckB ys n m || (behB ys m m && behB ys m n)) := by
  unfold stuckB
  rw [List.range_succ, List.any_append, Bool.or_assoc]
  simp
end Go.Proofs.YtfkljcnkghakaaaDoor.Masks
