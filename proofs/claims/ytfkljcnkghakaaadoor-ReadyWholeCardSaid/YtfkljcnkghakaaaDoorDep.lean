/- Plain laws for the walk of ready.Depths: the cut masks wait for the same; one node's depth, found over the bits of its mask. No condition. -/
import Derived.Test.YtfkljcnkghakaaaDoorSpecC
namespace Go.Proofs.YtfkljcnkghakaaaDoor.Masks
open Go.RowKit Go.Proofs.YtfkljcnkghakaaaDoor.PReadyOrders Go.Proofs.YtfkljcnkghakaaaDoorW.PrintWords Go.Proofs.YtfkljcnkghakaaaDoorW.PrintLast Go.Proofs.YtfkljcnkghakaaaDoorW.PrintMore
set_option linter.unusedVariables false

theorem dep_cut (xs : List Int) (i k : Nat) (hi : i < nn xs) : dep (cutL xs) i k = dep xs i k := by
  have h1 : mk (cutL xs) i = cutI xs i := by unfold mk; rw [cutL_at xs i hi]; simp
  show (decide (k < nn (cutL xs)) && (mk (cutL xs) i).testBit k) = _
  rw [h1, cutI_bit, nn_cut]
  unfold dep
  cases decide (k < nn xs) <;> simp
theorem ready_dep {n : Nat} {d d' : Nat → Nat → Bool} (p : Nat → Bool) (i : Nat) (h : ∀ k, k < n → d i k = d' i k) : ready n d p i = ready n d' p i := by
  rw [Bool.eq_iff_iff, ready_iff, ready_iff]
  constructor
  · rintro ⟨h1, h2⟩; exact ⟨fun k hk hd => h1 k hk (by rw [h k hk]; exact hd), h2⟩
  · rintro ⟨h1, h2⟩; exact ⟨fun k hk hd => h1 k hk (by rw [← h k hk]; exact hd), h2⟩
theorem step_dep {n : Nat} {d d' : Nat → Nat → Bool} (h : ∀ i, i < n → ∀ k, k < n → d i k = d' i k) (L : List Nat) : step n d L = step n d' L := by
  have e : first n d L = first n d' L := by
    cases e : first n d L with
    | none =>
      have := first_none e
      exact (first_of_none fun i hi => by rw [← ready_dep _ i (h i hi)]; exact this i hi).symm
    | some i =>
      obtain ⟨h1, h2, h3⟩ := first_some e
      exact (first_of h1 (by rw [← ready_dep _ i (h i h1)]; exact h2) fun j hj => by rw [← ready_dep _ j (h j (by omega))]; exact h3 j hj).symm
  unfold step
  rw [e]
theorem order_dep {n : Nat} {d d' : Nat → Nat → Bool} (h : ∀ i, i < n → ∀ k, k < n → d i k = d' i k) : order n d = order n d' := by
  unfold order
  suffices hs : ∀ j, iter n d j = iter n d' j from hs n
  intro j
  induction j with
  | zero => rfl
  | succ j ih => rw [iter, iter, ih, step_dep h]
theorem ordL_cut (xs : List Int) : ordL (cutL xs) = ordL xs := by
  unfold ordL
  rw [nn_cut, order_dep (d' := dep xs) fun i hi k hk => dep_cut xs i k hi]

/-- The bits of a cut mask: the nodes it waits for. -/
theorem bits_cut (xs : List Int) (i : Nat) : bitsOf (cutI xs i) = (List.range (nn xs)).filter (dep xs i) := by
  have hn := nn_le xs
  unfold bitsOf
  rw [show List.range 32 = List.range (nn xs) ++ List.range' (nn xs) (32 - nn xs) by
    rw [List.range_eq_range', List.range_eq_range', show 32 = nn xs + (32 - nn xs) by omega, ← List.range'_append_1, Nat.zero_add, show nn xs + (32 - nn xs) - nn xs = 32 - nn xs by omega], List.filter_append]
  have e2 : (List.range' (nn xs) (32 - nn xs)).filter (fun j => (cutI xs i).testBit j) = [] := by
    rw [List.filter_eq_nil_iff]
    intro j hj
    have := (List.mem_range'_1).1 hj
    rw [cutI_bit]; unfold dep; simp; omega
  rw [e2, List.append_nil]
  exact List.filter_congr fun j _ => by rw [cutI_bit]
/-- The greatest of one and one more than each of theirs. -/
def most1 (d : Nat → Int) (ks : List Nat) : Int := ks.foldl (fun v k => max v (d k + 1)) 1
theorem most1_snoc (d : Nat → Int) (ks : List Nat) (k : Nat) : most1 d (ks ++ [k]) = max (most1 d ks) (d k + 1) := by unfold most1; rw [List.foldl_append]; rfl
theorem most1_is (xs : List Int) (d : Nat → Int) (i : Nat) : ∀ m, most1 d ((List.range m).filter (dep xs i)) = maxDep (dep xs) d i m + 1 := by
  intro m
  induction m with
  | zero => rfl
  | succ m ih =>
    rw [List.range_succ, List.filter_append, maxDep]
    by_cases h : dep xs i m = true
    · rw [if_pos h, List.filter_cons, if_pos h, List.filter_nil, most1_snoc, ih]; omega
    · rw [if_neg h, List.filter_cons, if_neg h, List.filter_nil, List.append_nil, ih]
theorem most1_cut (xs : List Int) (d : Nat → Int) (i : Nat) : most1 d (bitsOf (cutI xs i)) = maxDep (dep xs) d i (nn xs) + 1 := by rw [bits_cut, most1_is]
theorem most1_le (d : Nat → Int) (b : Int) (hb : 1 ≤ b) (ks : List Nat) (h : ∀ k, d k + 1 ≤ b) : 1 ≤ most1 d ks ∧ most1 d ks ≤ b := by
  suffices hs : ∀ (ks : List Nat) (v : Int), 1 ≤ v → v ≤ b → 1 ≤ ks.foldl (fun v k => max v (d k + 1)) v ∧ ks.foldl (fun v k => max v (d k + 1)) v ≤ b from hs ks 1 (by omega) hb
  intro ks
  induction ks with
  | nil => intro v h1 h2; exact ⟨h1, h2⟩
  | cons k ks ih => intro v h1 h2; have := h k; exact ih _ (by show 1 ≤ max v (d k + 1); omega) (by show max v (d k + 1) ≤ b; omega)
/-- What the walk keeps while it goes over one node's bits. -/
def midV (xs : List Int) (d : Nat → Int) (i : Nat) (ks : List Nat) : List Int := valsOf (nn xs) (upd d i (most1 d ks))
theorem depths_ge (n : Nat) (dp : Nat → Nat → Bool) (L : List Nat) (i : Nat) : -1 ≤ depths n dp L i := by
  unfold depths
  suffices hs : ∀ (L : List Nat) (d : Nat → Int), (∀ i, -1 ≤ d i) → -1 ≤ L.foldl (fun d i => upd d i (maxDep dp d i n + 1)) d i from hs L _ (fun _ => by omega)
  intro L
  induction L with
  | nil => intro d h; exact h i
  | cons a L ih =>
    intro d h
    refine ih _ fun j => ?_
    show -1 ≤ (if j = a then maxDep dp d a n + 1 else d j)
    split
    · have := maxDep_nonneg (dep := dp) d a n; omega
    · exact h j
theorem mid_start (xs : List Int) (d : Nat → Int) (i : Nat) : (valsOf (nn xs) d).set i 1 = midV xs d i [] := by rw [valsOf_set]; rfl
theorem mid_step (xs : List Int) (d : Nat → Int) (i : Nat) (ks : List Nat) (k : Nat) : (midV xs d i ks).set i (max (most1 d ks) (d k + 1)) = midV xs d i (ks ++ [k]) := by
  unfold midV
  rw [valsOf_set, most1_snoc]
  congr 1
  funext j
  unfold upd
  split <;> rfl
theorem mid_end (xs : List Int) (L : List Nat) (i : Nat) : midV xs (depths (nn xs) (dep xs) L) i (bitsOf (cutI xs i)) = valsOf (nn xs) (depths (nn xs) (dep xs) (L ++ [i])) := by
  unfold midV
  rw [most1_cut, depths_snoc]
theorem mid_at (xs : List Int) (d : Nat → Int) (i : Nat) (hi : i < nn xs) (ks : List Nat) : rd (midV xs d i ks) (i : Int) = most1 d ks := by
  unfold midV; rw [valsOf_at _ _ _ hi]; unfold upd; rw [if_pos rfl]
theorem mid_other (xs : List Int) (d : Nat → Int) (i k : Nat) (hk : k < nn xs) (hne : k ≠ i) (ks : List Nat) : rd (midV xs d i ks) (k : Int) = d k := by
  unfold midV; rw [valsOf_at _ _ _ hk]; unfold upd; rw [if_neg hne]
theorem mid_len (xs : List Int) (d : Nat → Int) (i : Nat) (ks : List Nat) : (midV xs d i ks).length = nn xs := valsOf_len _ _
/-- Who stands in the order doesn't wait for itself. -/
theorem order_self (xs : List Int) (i : Nat) (hi : i ∈ order (nn xs) (dep xs)) : dep xs i i = false := by
  have hg := good_order (n := nn xs) (dep := dep xs)
  cases h : dep xs i i with
  | false => rfl
  | true => have := (hg.deps i hi i (hg.lt i hi) h).2; omega
theorem mem_bits (m : Nat) (x : Int) (h : x ∈ natsOf (bitsOf m)) : ∃ k : Nat, x = (k : Int) ∧ m.testBit k = true := by
  obtain ⟨k, hk, rfl⟩ := List.mem_map.1 h
  exact ⟨k, rfl, by simpa using (List.mem_filter.1 hk).2⟩
end Go.Proofs.YtfkljcnkghakaaaDoor.Masks
