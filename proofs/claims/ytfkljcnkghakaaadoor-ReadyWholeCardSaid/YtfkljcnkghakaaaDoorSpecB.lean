/- What the printed functions of the reference's count, Bit, waits, Order and Depths tell, in the words of the plain mathematics. No condition beyond that each mask is a number of 32 bits. -/
import Derived.Test.YtfkljcnkghakaaaDoorFnB
import Derived.Test.YtfkljcnkghakaaaDoorSpecA
namespace Go.Proofs.YtfkljcnkghakaaaDoor.Masks
open Go.RowKit Go.Proofs.YtfkljcnkghakaaaDoor.PReadyOrders Go.Proofs.YtfkljcnkghakaaaDoorW.PrintWords Go.Proofs.YtfkljcnkghakaaaDoorW.PrintLast Go.Proofs.YtfkljcnkghakaaaDoorW.PrintMore
set_option linter.unusedVariables false
set_option linter.unusedSimpArgs false

def ordL (xs : List Int) : List Int := (order (nn xs) (dep xs)).map fun i : Nat => (i : Int)
def depL (xs : List Int) : List Int := (List.range (nn xs)).map fun i => depths (nn xs) (dep xs) (order (nn xs) (dep xs)) i
theorem depL_len (xs : List Int) : (depL xs).length = nn xs := by simp [depL]

theorem count_is (xs : List Int) : precinctref13_count.f xs = some (nn xs : Int) := by
  unfold precinctref13_count.f nn
  split
  · congr 1; omega
  · congr 1; omega
theorem bit_loop (at_ : Nat) (hat : at_ ≤ 63) (d : Nat) : ∀ (k i m : Nat), i ≤ at_ → at_ - i = d → d < k → m < 2 ^ 32 →
    precinctref01_Bit.l0 k (m : Int) (at_ : Int) (i : Int) = some ((m / 2 ^ d % 2 : Nat) : Int) := by
  induction d with
  | zero =>
    intro k i m h1 hd hk hm
    obtain ⟨k, rfl⟩ : ∃ m, k = m + 1 := ⟨k - 1, by omega⟩
    simp only [precinctref01_Bit.l0]
    rw [if_neg (by omega), Int.tmod_eq_emod_of_nonneg (by omega)]
    simp
  | succ d ih =>
    intro k i m h1 hd hk hm
    obtain ⟨k, rfl⟩ : ∃ m, k = m + 1 := ⟨k - 1, by omega⟩
    simp only [precinctref01_Bit.l0]
    have e1 : IntKind.u64.wrap (Int.tdiv (m : Int) 2) = ((m / 2 : Nat) : Int) := by
      rw [Int.tdiv_eq_ediv_of_nonneg (by omega), IntKind.wrap_u64]; omega
    rw [if_pos (by omega), e1, wrap_succ i (by omega), ih k (i + 1) (m / 2) (by omega) (by omega) (by omega) (by omega)]
    rw [Nat.div_div_eq_div_mul, Nat.pow_succ, Nat.mul_comm 2]
theorem bit01_is (m a : Nat) (hm : m < 2 ^ 32) (ha : a ≤ 63) (k : Nat) (hk : 66 ≤ k) : precinctref01_Bit.f k (m : Int) (a : Int) = some ((m / 2 ^ a % 2 : Nat) : Int) := by
  obtain ⟨k, rfl⟩ : ∃ m, k = m + 1 := ⟨k - 1, by omega⟩
  unfold precinctref01_Bit.f
  rw [if_neg (by omega), decide_eq_false (by omega)]
  simp only [precinctref01_Bit.j0]
  rw [if_neg (by decide)]
  exact bit_loop a ha a k 0 m (by omega) (by omega) (by omega) hm
theorem bit_is (m a : Nat) (hm : m < 2 ^ 32) (ha : a ≤ 63) (k : Nat) (hk : 66 ≤ k) : precinctref13_Bit.f k (m : Int) (a : Int) = some (m.testBit a) := by
  unfold precinctref13_Bit.f
  have e : IntKind.u64.wrap (m : Int) = (m : Int) := by rw [IntKind.wrap_u64]; omega
  rw [e, bit01_is m a hm ha k hk]
  simp only [Option.bind_some]
  congr 1
  have h2 : m.testBit a = (m / 2 ^ a).testBit 0 := by rw [Nat.testBit_div_two_pow, Nat.zero_add]
  rw [h2, Nat.testBit_zero, Bool.eq_iff_iff, beq_iff_eq, decide_eq_true_iff]
  omega
/-- The bools of a set. -/
def boolsOf (n : Nat) (p : Nat → Bool) : List Bool := (List.range n).map p
theorem boolsOf_len (n : Nat) (p : Nat → Bool) : (boolsOf n p).length = n := by simp [boolsOf]
theorem boolsOf_at (n : Nat) (p : Nat → Bool) (i : Nat) (hi : i < n) : rdOf false (boolsOf n p) (i : Int) = p i := by
  simp [rdOf, boolsOf, List.getD, hi]
theorem boolsOf_set (n : Nat) (p : Nat → Bool) (i : Nat) (v : Bool) : (boolsOf n p).set i v = boolsOf n (fun j => if j = i then v else p j) := by
  apply List.ext_getElem?
  intro j
  simp only [boolsOf, List.getElem?_set, List.getElem?_map]
  by_cases hj : j < n
  · by_cases e : i = j
    · subst e; simp [hj]
    · have e' : ¬ j = i := fun h => e h.symm
      simp [hj, e, e']
  · have h0 : (List.range n)[j]? = none := by simp; omega
    rw [h0]
    split
    · simp; omega
    · rfl
theorem waits_loop (xs : List Int) (h : U32 xs) (p : Nat → Bool) (i : Nat) (hi : i < nn xs) (d : Nat) : ∀ (k j : Nat), j ≤ nn xs → nn xs - j = d → d + 66 < k → (∀ m, m < j → dep xs i m = true → p m = true) →
    precinctref13_waits.l0 k xs (i : Int) (boolsOf (nn xs) p) (j : Int) = some (!(List.range (nn xs)).all (fun k => !dep xs i k || p k)) := by
  have hn := nn_le xs
  have hl := nn_len xs
  induction d with
  | zero =>
    intro k j h1 hd hk hno
    obtain ⟨k, rfl⟩ : ∃ m, k = m + 1 := ⟨k - 1, by omega⟩
    simp only [precinctref13_waits.l0]
    rw [if_neg (by rw [boolsOf_len]; omega)]
    have : (List.range (nn xs)).all (fun k => !dep xs i k || p k) = true := by
      rw [List.all_eq_true]
      intro m hm
      have hm' := List.mem_range.1 hm
      have := hno m (by omega)
      cases hd : dep xs i m <;> simp_all
    rw [this]; rfl
  | succ d ih =>
    intro k j h1 hd hk hno
    obtain ⟨k, rfl⟩ : ∃ m, k = m + 1 := ⟨k - 1, by omega⟩
    have hlt : j < nn xs := by omega
    have hI := ih k (j + 1) (by omega) (by omega) (by omega)
    have hdep : dep xs i j = (mk xs i).testBit j := by unfold dep; simp [hlt]
    simp only [precinctref13_waits.l0]
    rw [if_pos (by rw [boolsOf_len]; omega), if_pos (by omega), if_pos (by omega), rd_nat, ← mk_cast h, bit_is _ _ (mk_lt h i) (by omega) k (by omega), ← hdep, boolsOf_at _ _ _ hlt, wrap_succ j (by omega)]
    simp only [Option.bind_some]
    by_cases c : dep xs i j = true
    · rw [if_pos c, if_pos (by omega)]
      by_cases c2 : p j = true
      · rw [if_pos c2]
        exact hI (fun m hm hdm => by
          by_cases e : m = j
          · rw [e]; exact c2
          · exact hno m (by omega) hdm)
      · rw [if_neg c2]
        have : (List.range (nn xs)).all (fun k => !dep xs i k || p k) = false := by
          apply Classical.byContradiction
          intro hc
          have hc' : (List.range (nn xs)).all (fun k => !dep xs i k || p k) = true := (Bool.not_eq_false _).mp hc
          rw [List.all_eq_true] at hc'
          have := hc' j (List.mem_range.2 hlt)
          simp [c] at this
          exact c2 this
        rw [this]; rfl
    · rw [if_neg c]
      exact hI (fun m hm hdm => by
        by_cases e : m = j
        · rw [e] at hdm; exact absurd hdm c
        · exact hno m (by omega) hdm)
theorem waits_is (xs : List Int) (h : U32 xs) (p : Nat → Bool) (i : Nat) (hi : i < nn xs) (k : Nat) (hk : 100 ≤ k) :
    precinctref13_waits.f k xs (i : Int) (boolsOf (nn xs) p) = some (!(List.range (nn xs)).all (fun k => !dep xs i k || p k)) := by
  have hn := nn_le xs
  exact waits_loop xs h p i hi (nn xs) k 0 (by omega) (by omega) (by omega) (fun m hm => absurd hm (by omega))

/-! ### the reference's Order -/
def natsOf (L : List Nat) : List Int := L.map fun i : Nat => (i : Int)
/-- The search in one round. -/
theorem search_loop (xs : List Int) (h : U32 xs) (L : List Nat) (hL : L.length ≤ 1000) (c : Int) (R : List Int) (K : Nat)
    (hend : ∀ k, K ≤ k → precinctref13_Order.l0 k xs (nn xs : Int) (boolsOf (nn xs) (fun j => (step (nn xs) (dep xs) L).contains j)) (natsOf (step (nn xs) (dep xs) L)) (wrap64 (c + 1)) = some R)
    (d : Nat) : ∀ (k i : Nat), i ≤ nn xs → nn xs - i = d → K + d + 101 < k → (∀ j, j < i → ready (nn xs) (dep xs) (fun j => L.contains j) j = false) →
    precinctref13_Order.l1 k xs (nn xs : Int) (boolsOf (nn xs) (fun j => L.contains j)) (natsOf L) c (i : Int) = some R := by
  have hn := nn_le xs
  induction d with
  | zero =>
    intro k i h1 hd hk hno
    obtain ⟨k, rfl⟩ : ∃ m, k = m + 1 := ⟨k - 1, by omega⟩
    simp only [precinctref13_Order.l1]
    rw [if_neg (by omega)]
    have e : step (nn xs) (dep xs) L = L := step_none (first_of_none (fun j hj => hno j (by omega)))
    have := hend k (by omega)
    rw [e] at this; exact this
  | succ d ih =>
    intro k i h1 hd hk hno
    obtain ⟨k, rfl⟩ : ∃ m, k = m + 1 := ⟨k - 1, by omega⟩
    have hlt : i < nn xs := by omega
    simp only [precinctref13_Order.l1]
    rw [if_pos (by omega), waits_is xs h _ i hlt k (by omega)]
    simp only [Option.bind_some]
    rw [if_pos (by omega), if_pos (by rw [boolsOf_len]; omega), boolsOf_at _ _ _ hlt, wrap_succ i (by omega)]
    have next : ready (nn xs) (dep xs) (fun j => L.contains j) i = false → precinctref13_Order.l1 k xs (nn xs : Int) (boolsOf (nn xs) (fun j => L.contains j)) (natsOf L) c ((i + 1 : Nat) : Int) = some R := fun hr =>
      ih k (i + 1) (by omega) (by omega) (by omega) (fun j hj => by
        by_cases e : j = i
        · rw [e]; exact hr
        · exact hno j (by omega))
    by_cases c1 : L.contains i = true
    · rw [if_pos c1]
      exact next (by unfold ready; simp only [c1]; simp)
    · rw [if_neg c1]
      have c1' : L.contains i = false := by simpa using c1
      by_cases c2 : (!(List.range (nn xs)).all (fun k => !dep xs i k || L.contains k)) = true
      · rw [if_pos c2]
        refine next ?_
        unfold ready
        rw [Bool.not_eq_true'] at c2
        rw [c2]; rfl
      · rw [if_neg c2, if_pos (by simp [natsOf]; omega)]
        have hr : ready (nn xs) (dep xs) (fun j => L.contains j) i = true := by
          rw [Bool.not_eq_true', Bool.not_eq_false] at c2
          show ((List.range (nn xs)).all (fun k => !dep xs i k || L.contains k) && !L.contains i) = true
          rw [c2, c1']; rfl
        have e : step (nn xs) (dep xs) L = L ++ [i] := step_some (first_of hlt hr hno)
        have h3 := hend k (by omega)
        rw [e] at h3
        rw [Int.toNat_natCast, boolsOf_set]
        have e2 : natsOf L ++ [(i : Int)] = natsOf (L ++ [i]) := by simp [natsOf]
        rw [e2]
        have e3 : boolsOf (nn xs) (fun j => if j = i then true else L.contains j) = boolsOf (nn xs) (fun j => (L ++ [i]).contains j) := by
          unfold boolsOf
          apply List.map_congr_left
          intro j _
          by_cases e : j = i
          · subst e; simp
          · rw [if_neg e, List.contains_eq_mem, List.contains_eq_mem]; simp [e]
        rw [e3]; exact h3
theorem order_loop (xs : List Int) (h : U32 xs) (d : Nat) : ∀ (k c : Nat), c ≤ nn xs → nn xs - c = d → ∀ B : Nat, B = (d + 1) * 200 → B < k →
    precinctref13_Order.l0 k xs (nn xs : Int) (boolsOf (nn xs) (fun j => (iter (nn xs) (dep xs) c).contains j)) (natsOf (iter (nn xs) (dep xs) c)) (c : Int) = some (ordL xs) := by
  have hn := nn_le xs
  induction d with
  | zero =>
    intro k c h1 hd B hB hk
    obtain ⟨k, rfl⟩ : ∃ m, k = m + 1 := ⟨k - 1, by omega⟩
    simp only [precinctref13_Order.l0]
    rw [if_neg (by omega)]
    have : c = nn xs := by omega
    rw [this]; rfl
  | succ d ih =>
    intro k c h1 hd B hB hk
    obtain ⟨k, rfl⟩ : ∃ m, k = m + 1 := ⟨k - 1, by omega⟩
    obtain ⟨B', hB'⟩ : ∃ B' : Nat, B' = (d + 1) * 200 := ⟨_, rfl⟩
    have hBB : B = B' + 200 := by omega
    clear hB
    have hg := good_len (good_iter (n := nn xs) (dep := dep xs) c)
    simp only [precinctref13_Order.l0]
    rw [if_pos (by omega)]
    have hs := search_loop xs h (iter (nn xs) (dep xs) c) (by omega) (c : Int) (ordL xs) (B' + 1) (fun k hk => by
      rw [wrap_succ c (by omega)]
      have := ih k (c + 1) (by omega) (by omega) B' hB' (by omega)
      rw [iter] at this
      exact this) (nn xs) k 0 (by omega) (by omega) (by omega) (fun j hj => absurd hj (by omega))
    rw [show ((0 : Nat) : Int) = 0 from rfl] at hs
    exact hs
theorem refOrder_is (xs : List Int) (h : U32 xs) (k : Nat) (hk : 7000 ≤ k) : precinctref13_Order.f k xs = some (ordL xs) := by
  have hn := nn_le xs
  unfold precinctref13_Order.f
  rw [count_is]
  simp only [Option.bind_some]
  rw [if_pos (by omega), Int.toNat_natCast, if_pos (by omega)]
  have e : List.replicate (nn xs) false = boolsOf (nn xs) (fun j => (iter (nn xs) (dep xs) 0).contains j) := by
    unfold boolsOf iter
    apply List.ext_getElem?
    intro j
    by_cases hj : j < nn xs
    · simp [List.getElem?_replicate, hj]
    · simp [List.getElem?_replicate, hj]
  rw [e]
  exact order_loop xs h (nn xs) k 0 (by omega) (by omega) _ rfl (by omega)

/-! ### the reference's Depths -/
def valsOf (n : Nat) (d : Nat → Int) : List Int := (List.range n).map d
theorem valsOf_len (n : Nat) (d : Nat → Int) : (valsOf n d).length = n := by simp [valsOf]
theorem valsOf_at (n : Nat) (d : Nat → Int) (i : Nat) (hi : i < n) : rd (valsOf n d) (i : Int) = d i := by
  simp [rd, valsOf, List.getD, hi]
theorem valsOf_set (n : Nat) (d : Nat → Int) (i : Nat) (v : Int) : (valsOf n d).set i v = valsOf n (upd d i v) := by
  apply List.ext_getElem?
  intro j
  simp only [valsOf, List.getElem?_set, List.getElem?_map]
  by_cases hj : j < n
  · by_cases e : i = j
    · subst e; simp [hj, upd]
    · have e' : ¬ j = i := fun h => e h.symm
      simp [hj, e, e', upd]
  · have h0 : (List.range n)[j]? = none := by simp; omega
    rw [h0]
    split
    · simp; omega
    · rfl
theorem rd_nats (L : List Nat) (c : Nat) (hc : c < L.length) : rd (L.map fun i : Nat => (i : Int)) (c : Int) = ((L.getD c 0 : Nat) : Int) := by
  unfold rd
  rw [Int.toNat_natCast]
  simp [List.getD, hc]
theorem getD_mem (L : List Nat) (c : Nat) (hc : c < L.length) : L.getD c 0 ∈ L := by simp [List.getD, hc]
theorem take_snoc (L : List Nat) (c : Nat) (hc : c < L.length) : L.take (c + 1) = L.take c ++ [L.getD c 0] := by
  rw [List.take_succ_eq_append_getElem hc]; simp [List.getD, hc]
theorem depths_le (n : Nat) (dep : Nat → Nat → Bool) (L : List Nat) (c : Nat) (hc : c ≤ L.length) (i : Nat) : depths n dep (L.take c) i ≤ c := by
  induction c generalizing i with
  | zero => simp [depths]
  | succ c ih =>
    rw [take_snoc L c (by omega), depths_snoc]
    unfold upd
    split
    · have := maxDep_le (dep := dep) (d := depths n dep (L.take c)) (i := L.getD c 0) (m := n) (v := (c : Int)) (by omega) (fun k _ _ => ih (by omega) k)
      omega
    · have := ih (by omega) i; omega
theorem most_loop (xs : List Int) (h : U32 xs) (dv : Nat → Int) (hdv : ∀ i, dv i ≤ 1000) (ord : List Int) (c : Int) (i : Nat) (hi : i < nn xs) (R : List Int) (K : Nat)
    (hend : ∀ k, K ≤ k → precinctref13_Depths.l1 k xs (nn xs : Int) ord (valsOf (nn xs) (upd dv i (maxDep (dep xs) dv i (nn xs) + 1))) (wrap64 (c + 1)) = some R)
    (d : Nat) : ∀ (k j : Nat), j ≤ nn xs → nn xs - j = d → K + d + 100 < k →
    precinctref13_Depths.l2 k xs (nn xs : Int) ord (valsOf (nn xs) dv) c (i : Int) (maxDep (dep xs) dv i j) (j : Int) = some R := by
  have hn := nn_le xs
  have hl := nn_len xs
  induction d with
  | zero =>
    intro k j h1 hd hk
    obtain ⟨k, rfl⟩ : ∃ m, k = m + 1 := ⟨k - 1, by omega⟩
    have hj : j = nn xs := by omega
    subst hj
    simp only [precinctref13_Depths.l2]
    have g1 := maxDep_nonneg (dep := dep xs) dv i (nn xs)
    have g2 : maxDep (dep xs) dv i (nn xs) ≤ 1000 := maxDep_le (by omega) (fun k _ _ => hdv k)
    have e : wrap64 (maxDep (dep xs) dv i (nn xs) + 1) = maxDep (dep xs) dv i (nn xs) + 1 := by unfold wrap64; omega
    rw [if_neg (by omega), if_pos (by omega), if_pos (by rw [valsOf_len]; omega), e, Int.toNat_natCast, valsOf_set]
    exact hend k (by omega)
  | succ d ih =>
    intro k j h1 hd hk
    obtain ⟨k, rfl⟩ : ∃ m, k = m + 1 := ⟨k - 1, by omega⟩
    have hlt : j < nn xs := by omega
    have hI := ih k (j + 1) (by omega) (by omega) (by omega)
    have hdep : dep xs i j = (mk xs i).testBit j := by unfold dep; simp [hlt]
    simp only [precinctref13_Depths.l2]
    rw [if_pos (by omega), if_pos (by omega), if_pos (by omega), rd_nat, ← mk_cast h, bit_is _ _ (mk_lt h i) (by omega) k (by omega), ← hdep, wrap_succ j (by omega)]
    simp only [Option.bind_some]
    rw [maxDep] at hI
    by_cases c1 : dep xs i j = true
    · rw [if_pos c1, if_pos (by omega), if_pos (by rw [valsOf_len]; omega), valsOf_at _ _ _ hlt]
      rw [if_pos c1] at hI
      by_cases c2 : dv j > maxDep (dep xs) dv i j
      · rw [if_pos c2]
        rw [show max (maxDep (dep xs) dv i j) (dv j) = dv j by omega] at hI
        exact hI
      · rw [if_neg c2]
        rw [show max (maxDep (dep xs) dv i j) (dv j) = maxDep (dep xs) dv i j by omega] at hI
        exact hI
    · rw [if_neg c1]
      rw [if_neg c1] at hI
      exact hI
theorem depths_loop (xs : List Int) (h : U32 xs) (d : Nat) : ∀ (k c : Nat), c ≤ (order (nn xs) (dep xs)).length → (order (nn xs) (dep xs)).length - c = d → ∀ B : Nat, B = (d + 1) * 200 → B < k →
    precinctref13_Depths.l1 k xs (nn xs : Int) (ordL xs) (valsOf (nn xs) (depths (nn xs) (dep xs) ((order (nn xs) (dep xs)).take c))) (c : Int) = some (depL xs) := by
  have hn := nn_le xs
  have hol := good_len (good_order (n := nn xs) (dep := dep xs))
  have hlen : (ordL xs).length = (order (nn xs) (dep xs)).length := by simp [ordL]
  induction d with
  | zero =>
    intro k c h1 hd B hB hk
    obtain ⟨k, rfl⟩ : ∃ m, k = m + 1 := ⟨k - 1, by omega⟩
    simp only [precinctref13_Depths.l1]
    rw [if_neg (by omega)]
    have : c = (order (nn xs) (dep xs)).length := by omega
    rw [this, List.take_length]; rfl
  | succ d ih =>
    intro k c h1 hd B hB hk
    obtain ⟨k, rfl⟩ : ∃ m, k = m + 1 := ⟨k - 1, by omega⟩
    obtain ⟨B', hB'⟩ : ∃ B' : Nat, B' = (d + 1) * 200 := ⟨_, rfl⟩
    have hBB : B = B' + 200 := by omega
    clear hB
    have hc : c < (order (nn xs) (dep xs)).length := by omega
    have hi : (order (nn xs) (dep xs)).getD c 0 < nn xs := (good_order (n := nn xs) (dep := dep xs)).lt _ (getD_mem _ c hc)
    have hrd : rd (ordL xs) (c : Int) = (((order (nn xs) (dep xs)).getD c 0 : Nat) : Int) := rd_nats _ c hc
    simp only [precinctref13_Depths.l1]
    rw [if_pos (by omega), if_pos (by omega), hrd]
    have hs := most_loop xs h (depths (nn xs) (dep xs) ((order (nn xs) (dep xs)).take c)) (fun i => by
      have := depths_le (nn xs) (dep xs) (order (nn xs) (dep xs)) c (by omega) i; omega) (ordL xs) (c : Int) _ hi (depL xs) (B' + 1) (fun k hk => by
        rw [wrap_succ c (by omega)]
        have := ih k (c + 1) (by omega) (by omega) B' hB' (by omega)
        rw [take_snoc _ c hc, depths_snoc] at this
        exact this) (nn xs) k 0 (by omega) (by omega) (by omega)
    rw [show ((0 : Nat) : Int) = 0 from rfl] at hs
    exact hs
theorem minus_loop (xs : List Int) (R : List Int) (K : Nat) (hend : ∀ k, K ≤ k → precinctref13_Depths.l1 k xs (nn xs : Int) (ordL xs) (valsOf (nn xs) (fun _ => -1)) 0 = some R) (d : Nat) : ∀ (k i : Nat), i ≤ nn xs → nn xs - i = d → K + d < k →
    precinctref13_Depths.l0 k xs (nn xs : Int) (ordL xs) (valsOf (nn xs) (fun j => if j < i then -1 else 0)) (i : Int) = some R := by
  have hn := nn_le xs
  induction d with
  | zero =>
    intro k i h1 hd hk
    obtain ⟨k, rfl⟩ : ∃ m, k = m + 1 := ⟨k - 1, by omega⟩
    simp only [precinctref13_Depths.l0]
    rw [if_neg (by omega)]
    have e : valsOf (nn xs) (fun j => if j < i then -1 else 0) = valsOf (nn xs) (fun _ => -1) := by
      unfold valsOf
      apply List.map_congr_left
      intro j hj
      have := List.mem_range.1 hj
      rw [if_pos (by omega)]
    rw [e]; exact hend k (by omega)
  | succ d ih =>
    intro k i h1 hd hk
    obtain ⟨k, rfl⟩ : ∃ m, k = m + 1 := ⟨k - 1, by omega⟩
    simp only [precinctref13_Depths.l0]
    rw [if_pos (by omega), if_pos (by omega), if_pos (by rw [valsOf_len]; omega), Int.toNat_natCast, valsOf_set, wrap_succ i (by omega)]
    have e : upd (fun j => if j < i then (-1 : Int) else 0) i (-1) = fun j => if j < i + 1 then -1 else 0 := by
      funext j
      unfold upd
      by_cases e : j = i
      · subst e; rw [if_pos rfl, if_pos (by omega)]
      · rw [if_neg e]
        show (if j < i then (-1 : Int) else 0) = _
        by_cases h2 : j < i
        · rw [if_pos h2, if_pos (by omega)]
        · rw [if_neg h2, if_neg (by omega)]
    rw [e]
    exact ih k (i + 1) (by omega) (by omega) (by omega)
theorem refDepths_is (xs : List Int) (h : U32 xs) (k : Nat) (hk : 8000 ≤ k) : precinctref13_Depths.f k xs = some (depL xs) := by
  have hn := nn_le xs
  have hol := good_len (good_order (n := nn xs) (dep := dep xs))
  unfold precinctref13_Depths.f
  rw [count_is, refOrder_is xs h k (by omega)]
  simp only [Option.bind_some]
  rw [if_pos (by omega), Int.toNat_natCast, if_pos (by omega)]
  have e : List.replicate (nn xs) (0 : Int) = valsOf (nn xs) (fun j => if j < 0 then -1 else 0) := by
    unfold valsOf
    apply List.ext_getElem?
    intro j
    by_cases hj : j < nn xs
    · simp [List.getElem?_replicate, hj]
    · simp [List.getElem?_replicate, hj]
  rw [e]
  have := minus_loop xs (depL xs) 7000 (fun k hk => by
    have := depths_loop xs h (order (nn xs) (dep xs)).length k 0 (by omega) (by omega) _ rfl (by omega)
    exact this) (nn xs) k 0 (by omega) (by omega) (by omega)
  exact this
end Go.Proofs.YtfkljcnkghakaaaDoor.Masks
