/- What the printed functions of the reference's Number, Ready, List and Behind tell, in the words of the plain mathematics. No condition beyond that each mask is a number of 32 bits. -/
import Derived.Test.YtfkljcnkghakaaaDoorFnC
import Derived.Test.YtfkljcnkghakaaaDoorSpecB
namespace Go.Proofs.YtfkljcnkghakaaaDoor.Masks
open Go.RowKit Go.Proofs.YtfkljcnkghakaaaDoor.PReadyOrders Go.Proofs.YtfkljcnkghakaaaDoorW.PrintWords Go.Proofs.YtfkljcnkghakaaaDoorW.PrintLast Go.Proofs.YtfkljcnkghakaaaDoorW.PrintMore
set_option linter.unusedVariables false
set_option linter.unusedSimpArgs false

theorem number_loop (n : Nat) (hn : n ≤ 32) (p : Nat → Bool) (d : Nat) : ∀ (k i : Nat), i ≤ n → n - i = d → d < k →
    precinctref13_Number.l0 k (boolsOf n p) ((num p i : Nat) : Int) ((2 ^ i % 4294967296 : Nat) : Int) (i : Int) = some ((num p n : Nat) : Int) := by
  induction d with
  | zero =>
    intro k i h1 hd hk
    obtain ⟨k, rfl⟩ : ∃ m, k = m + 1 := ⟨k - 1, by omega⟩
    have : i = n := by omega
    subst this
    simp only [precinctref13_Number.l0]
    rw [if_neg (by rw [boolsOf_len]; omega)]
  | succ d ih =>
    intro k i h1 hd hk
    obtain ⟨k, rfl⟩ : ∃ m, k = m + 1 := ⟨k - 1, by omega⟩
    have hlt : i < n := by omega
    have hI := ih k (i + 1) (by omega) (by omega) (by omega)
    have hp : 2 ^ i < 4294967296 := by
      have : 2 ^ i < 2 ^ 32 := Nat.pow_lt_pow_right (by decide) (by omega)
      omega
    have hm := num_lt p i
    have hp1 : 2 ^ (i + 1) = 2 * 2 ^ i := by rw [Nat.pow_succ, Nat.mul_comm]
    have hle : 2 ^ (i + 1) ≤ 2 ^ 32 := Nat.pow_le_pow_right (by decide) (by omega)
    simp only [precinctref13_Number.l0]
    rw [if_pos (by rw [boolsOf_len]; omega), if_pos (by omega), boolsOf_at _ _ _ hlt, wrap_succ i (by omega)]
    have e1 : (2 * ((2 ^ i % 4294967296 : Nat) : Int)) % 4294967296 = ((2 ^ (i + 1) % 4294967296 : Nat) : Int) := by
      rw [hp1]; generalize 2 ^ i = q at *; omega
    rw [e1]
    rw [num] at hI
    by_cases c : p i = true
    · rw [if_pos c]
      rw [if_pos c] at hI
      have e2 : (((num p i : Nat) : Int) + ((2 ^ i % 4294967296 : Nat) : Int)) % 4294967296 = ((num p i + 2 ^ i : Nat) : Int) := by
        generalize 2 ^ i = q at *; generalize num p i = m at *; omega
      rw [e2]; exact hI
    · rw [if_neg c]
      rw [if_neg c, Nat.add_zero] at hI
      exact hI
theorem number_is (n : Nat) (hn : n ≤ 32) (p : Nat → Bool) (k : Nat) (hk : 33 ≤ k) : precinctref13_Number.f k (boolsOf n p) = some ((num p n : Nat) : Int) := by
  have := number_loop n hn p n k 0 (by omega) (by omega) (by omega)
  exact this

/-! ### Ready -/
theorem rready_loop1 (xs : List Int) (h : U32 xs) (done : Nat) (hd0 : done < 2 ^ 32) (d : Nat) : ∀ (k i : Nat), i ≤ nn xs → nn xs - i = d → d + 200 < k →
    precinctref13_Ready.l1 k xs (nn xs : Int) (boolsOf (nn xs) (fun j => done.testBit j)) (boolsOf (nn xs) (fun j => decide (j < i) && ready (nn xs) (dep xs) (fun j => done.testBit j) j)) (i : Int) = some ((readyN xs done : Nat) : Int) := by
  have hn := nn_le xs
  induction d with
  | zero =>
    intro k i h1 hd hk
    obtain ⟨k, rfl⟩ : ∃ m, k = m + 1 := ⟨k - 1, by omega⟩
    have : i = nn xs := by omega
    subst this
    simp only [precinctref13_Ready.l1]
    rw [if_neg (by omega), number_is _ hn _ k (by omega)]
    simp only [Option.bind_some]
    congr 2
    unfold readyN
    exact num_congr _ fun j hj => by simp [hj]
  | succ d ih =>
    intro k i h1 hd hk
    obtain ⟨k, rfl⟩ : ∃ m, k = m + 1 := ⟨k - 1, by omega⟩
    have hlt : i < nn xs := by omega
    have hI := ih k (i + 1) (by omega) (by omega) (by omega)
    simp only [precinctref13_Ready.l1]
    rw [if_pos (by omega), waits_is xs h _ i hlt k (by omega)]
    simp only [Option.bind_some]
    rw [if_pos (by omega), if_pos (by rw [boolsOf_len]; omega), boolsOf_at _ _ _ hlt, Int.toNat_natCast, wrap_succ i (by omega)]
    have hset : ∀ v : Bool, v = ready (nn xs) (dep xs) (fun j => done.testBit j) i → boolsOf (nn xs) (fun j => if j = i then v else (decide (j < i) && ready (nn xs) (dep xs) (fun j => done.testBit j) j)) = boolsOf (nn xs) (fun j => decide (j < i + 1) && ready (nn xs) (dep xs) (fun j => done.testBit j) j) := by
      intro v hv
      unfold boolsOf
      apply List.map_congr_left
      intro j _
      by_cases e : j = i
      · subst e; rw [if_pos rfl, hv]; simp
      · rw [if_neg e]
        have : (j < i + 1) = (j < i) := by apply propext; omega
        simp [this]
    by_cases c : done.testBit i = true
    · rw [if_pos c, if_pos (by rw [boolsOf_len]; omega), boolsOf_set, hset false (by
        show false = ((List.range (nn xs)).all (fun k => !dep xs i k || done.testBit k) && !done.testBit i)
        rw [c]; simp)]
      exact hI
    · rw [if_neg c, if_pos (by rw [boolsOf_len]; omega), boolsOf_set, hset _ (by
        have c0 : done.testBit i = false := by simpa using c
        show (!!(List.range (nn xs)).all (fun k => !dep xs i k || done.testBit k)) = ((List.range (nn xs)).all (fun k => !dep xs i k || done.testBit k) && !done.testBit i)
        rw [c0, Bool.not_not, Bool.not_false, Bool.and_true])]
      exact hI
theorem rready_loop0 (xs : List Int) (h : U32 xs) (done : Nat) (hd0 : done < 2 ^ 32) (d : Nat) : ∀ (k i : Nat), i ≤ nn xs → nn xs - i = d → d + 300 < k →
    precinctref13_Ready.l0 k xs (done : Int) (nn xs : Int) (boolsOf (nn xs) (fun j => decide (j < i) && done.testBit j)) (i : Int) = some ((readyN xs done : Nat) : Int) := by
  have hn := nn_le xs
  induction d with
  | zero =>
    intro k i h1 hd hk
    obtain ⟨k, rfl⟩ : ∃ m, k = m + 1 := ⟨k - 1, by omega⟩
    have : i = nn xs := by omega
    subst this
    simp only [precinctref13_Ready.l0]
    rw [if_neg (by omega), if_pos (by omega), Int.toNat_natCast, if_pos (by omega)]
    have e1 : boolsOf (nn xs) (fun j => decide (j < nn xs) && done.testBit j) = boolsOf (nn xs) (fun j => done.testBit j) := by
      unfold boolsOf
      apply List.map_congr_left
      intro j hj
      have := List.mem_range.1 hj
      simp [this]
    have e2 : List.replicate (nn xs) false = boolsOf (nn xs) (fun j => decide (j < 0) && ready (nn xs) (dep xs) (fun j => done.testBit j) j) := by
      unfold boolsOf
      apply List.ext_getElem?
      intro j
      by_cases hj : j < nn xs
      · simp [List.getElem?_replicate, hj]
      · simp [List.getElem?_replicate, hj]
    rw [e1, e2]
    exact rready_loop1 xs h done hd0 (nn xs) k 0 (by omega) (by omega) (by omega)
  | succ d ih =>
    intro k i h1 hd hk
    obtain ⟨k, rfl⟩ : ∃ m, k = m + 1 := ⟨k - 1, by omega⟩
    have hlt : i < nn xs := by omega
    have hI := ih k (i + 1) (by omega) (by omega) (by omega)
    simp only [precinctref13_Ready.l0]
    rw [if_pos (by omega), bit_is done i hd0 (by omega) k (by omega)]
    simp only [Option.bind_some]
    rw [if_pos (by omega), if_pos (by rw [boolsOf_len]; omega), Int.toNat_natCast, wrap_succ i (by omega), boolsOf_set]
    have e : boolsOf (nn xs) (fun j => if j = i then done.testBit i else (decide (j < i) && done.testBit j)) = boolsOf (nn xs) (fun j => decide (j < i + 1) && done.testBit j) := by
      unfold boolsOf
      apply List.map_congr_left
      intro j _
      by_cases e : j = i
      · subst e; rw [if_pos rfl]; simp
      · rw [if_neg e]
        have : (j < i + 1) = (j < i) := by apply propext; omega
        simp [this]
    rw [e]; exact hI
theorem refReady_is (xs : List Int) (h : U32 xs) (done : Nat) (hd : done < 2 ^ 32) (k : Nat) (hk : 400 ≤ k) : precinctref13_Ready.f k xs (done : Int) = some ((readyN xs done : Nat) : Int) := by
  have hn := nn_le xs
  unfold precinctref13_Ready.f
  rw [count_is]
  simp only [Option.bind_some]
  rw [if_pos (by omega), Int.toNat_natCast, if_pos (by omega)]
  have e : List.replicate (nn xs) false = boolsOf (nn xs) (fun j => decide (j < 0) && done.testBit j) := by
    unfold boolsOf
    apply List.ext_getElem?
    intro j
    by_cases hj : j < nn xs
    · simp [List.getElem?_replicate, hj]
    · simp [List.getElem?_replicate, hj]
  rw [e]
  exact rready_loop0 xs h done hd (nn xs) k 0 (by omega) (by omega) (by omega)

/-! ### List -/
/-- The set bits of a number, rising. -/
def bitsOf (m : Nat) : List Nat := (List.range 32).filter fun i => m.testBit i
theorem list_loop (m : Nat) (hm : m < 2 ^ 32) (d : Nat) : ∀ (k i : Nat), i ≤ 32 → 32 - i = d → d + 100 < k →
    precinctref13_List.l0 k (m : Int) (natsOf ((List.range i).filter fun i => m.testBit i)) (i : Int) = some (natsOf (bitsOf m)) := by
  induction d with
  | zero =>
    intro k i h1 hd hk
    obtain ⟨k, rfl⟩ : ∃ m, k = m + 1 := ⟨k - 1, by omega⟩
    have : i = 32 := by omega
    subst this
    simp only [precinctref13_List.l0]
    rw [if_neg (by omega)]; rfl
  | succ d ih =>
    intro k i h1 hd hk
    obtain ⟨k, rfl⟩ : ∃ m, k = m + 1 := ⟨k - 1, by omega⟩
    have hI := ih k (i + 1) (by omega) (by omega) (by omega)
    have hlen : (natsOf ((List.range i).filter fun i => m.testBit i)).length ≤ i := by
      unfold natsOf
      rw [List.length_map]
      have := List.length_filter_le (fun i => m.testBit i) (List.range i)
      simpa using this
    simp only [precinctref13_List.l0]
    rw [if_pos (by omega), bit_is m i hm (by omega) k (by omega)]
    simp only [Option.bind_some]
    rw [wrap_succ i (by omega)]
    rw [List.range_succ, List.filter_append] at hI
    by_cases c : m.testBit i = true
    · rw [if_pos c, if_pos (by omega)]
      have : natsOf ((List.range i).filter fun i => m.testBit i) ++ [(i : Int)] = natsOf ((List.range i).filter (fun i => m.testBit i) ++ [i].filter fun i => m.testBit i) := by
        simp [natsOf, c]
      rw [this]; exact hI
    · rw [if_neg c]
      have : ([i].filter fun i => m.testBit i) = [] := by simp [c]
      rw [this, List.append_nil] at hI
      exact hI
theorem refList_is (m : Nat) (hm : m < 2 ^ 32) (k : Nat) (hk : 200 ≤ k) : precinctref13_List.f k (m : Int) = some (natsOf (bitsOf m)) := by
  have := list_loop m hm 32 k 0 (by omega) (by omega) (by omega)
  exact this

/-! ### Behind -/
/-- A node more, where it is hit. -/
def more1 (xs : List Int) (a : Nat) (p : Nat → Bool) (i : Nat) : Nat → Bool := fun j => p j || (j == i && hit xs a p i)
/-- The nodes below i, one by one. -/
def gs (xs : List Int) (a : Nat) (p : Nat → Bool) : Nat → Nat → Bool
  | 0 => p
  | i + 1 => more1 xs a (gs xs a p i) i
def passes (xs : List Int) (a : Nat) : Nat → Nat → Bool
  | 0 => fun _ => false
  | s + 1 => gs xs a (passes xs a s) (nn xs)
theorem gs_sub (xs : List Int) (a : Nat) (p : Nat → Bool) (i j : Nat) (h : p j = true) : gs xs a p i j = true := by
  induction i with
  | zero => exact h
  | succ i ih => unfold gs more1; simp [ih]
theorem hit_mono {xs : List Int} {a : Nat} {p q : Nat → Bool} (h : ∀ j, p j = true → q j = true) {i : Nat} (hh : hit xs a p i = true) : hit xs a q i = true := by
  rw [hit_iff] at hh ⊢
  obtain ⟨k, hk, hd, hp⟩ := hh
  exact ⟨k, hk, hd, hp.elim .inl (fun hp => .inr (h k hp))⟩
theorem gs_hit (xs : List Int) (a : Nat) (p : Nat → Bool) (i j : Nat) (hj : j < i) (h : hit xs a p j = true) : gs xs a p i j = true := by
  induction i with
  | zero => omega
  | succ i ih =>
    unfold gs more1
    by_cases e : j = i
    · subst e
      have := hit_mono (q := gs xs a p j) (fun m hm => gs_sub xs a p j m hm) h
      simp [this]
    · simp [ih (by omega)]
theorem gs_fix (xs : List Int) (a : Nat) (p : Nat → Bool) (hc : ∀ j, j < nn xs → hit xs a p j = true → p j = true) (i : Nat) (hi : i ≤ nn xs) : gs xs a p i = p := by
  induction i with
  | zero => rfl
  | succ i ih =>
    unfold gs
    rw [ih (by omega)]
    funext j
    unfold more1
    by_cases e : j = i
    · subst e
      by_cases hh : hit xs a p j = true
      · simp [hc j (by omega) hh]
      · simp [hh]
    · have : (j == i) = false := by simpa using e
      simp [this]
theorem gs_sound (xs : List Int) (a : Nat) (p : Nat → Bool) (hs : ∀ i, i < nn xs → p i = true → Beh (nn xs) (dep xs) a i) (i : Nat) : ∀ j, j < nn xs → gs xs a p i j = true → Beh (nn xs) (dep xs) a j := by
  induction i with
  | zero => exact hs
  | succ i ih =>
    intro j hj h
    unfold gs more1 at h
    rcases Bool.or_eq_true_iff.1 h with h | h
    · exact ih j hj h
    · rw [Bool.and_eq_true, beq_iff_eq] at h
      obtain ⟨rfl, h⟩ := h
      obtain ⟨k, hk, hd, hp⟩ := hit_iff.1 h
      rcases hp with rfl | hp
      · exact .one hj hd
      · exact .more hj hk hd (ih k hk hp)
theorem passes_sound (xs : List Int) (a : Nat) (s : Nat) : ∀ j, j < nn xs → passes xs a s j = true → Beh (nn xs) (dep xs) a j := by
  induction s with
  | zero => intro j _ h; cases h
  | succ s ih => exact gs_sound xs a _ ih (nn xs)
theorem passes_done (xs : List Int) (a : Nat) (s : Nat) : (∀ j, j < nn xs → hit xs a (passes xs a s) j = true → passes xs a s j = true) ∨ s ≤ cnt (passes xs a s) (nn xs) := by
  induction s with
  | zero => right; omega
  | succ s ih =>
    rcases ih with ih | ih
    · left
      have e : passes xs a (s + 1) = passes xs a s := gs_fix xs a _ ih (nn xs) (Nat.le_refl _)
      rw [e]; exact ih
    · by_cases hc : ∀ j, j < nn xs → hit xs a (passes xs a s) j = true → passes xs a s j = true
      · left
        have e : passes xs a (s + 1) = passes xs a s := gs_fix xs a _ hc (nn xs) (Nat.le_refl _)
        rw [e]; exact hc
      · right
        obtain ⟨j, hj⟩ := Classical.not_forall.1 hc
        obtain ⟨hjn, hj⟩ := Classical.not_imp.1 hj
        obtain ⟨hjh, hjp⟩ := Classical.not_imp.1 hj
        have := cnt_lt (p := passes xs a s) (q := passes xs a (s + 1)) (n := nn xs) (fun i _ hp => gs_sub xs a _ (nn xs) i hp) hjn (by simpa using hjp) (gs_hit xs a _ (nn xs) j hjn hjh)
        omega
theorem passes_all (xs : List Int) (a : Nat) (ha : a < nn xs) : num (passes xs a (nn xs)) (nn xs) = behN xs a := by
  have hc : ∀ j, j < nn xs → hit xs a (passes xs a (nn xs)) j = true → passes xs a (nn xs) j = true := by
    rcases passes_done xs a (nn xs) with h | h
    · exact h
    · exact fun j hj _ => cnt_all h j hj
  unfold behN
  refine num_congr _ fun i hi => ?_
  rw [Bool.eq_iff_iff, behB_iff]
  exact ⟨passes_sound xs a (nn xs) i hi, fun h => beh_of_closed (p := passes xs a (nn xs)) (fun i hi k hk hd hp => hc i hi (hit_iff.2 ⟨k, hk, hd, hp⟩)) ha h⟩
/-- Is i hit by one below k? -/
def hitTo (xs : List Int) (a : Nat) (p : Nat → Bool) (i : Nat) : Nat → Bool
  | 0 => false
  | k + 1 => hitTo xs a p i k || (dep xs i k && (k == a || p k))
theorem hitTo_all (xs : List Int) (a : Nat) (p : Nat → Bool) (i : Nat) : hitTo xs a p i (nn xs) = hit xs a p i := by
  have : ∀ m, hitTo xs a p i m = true ↔ ∃ k, k < m ∧ dep xs i k = true ∧ (k = a ∨ p k = true) := by
    intro m
    induction m with
    | zero => simp [hitTo]
    | succ m ih =>
      rw [hitTo, Bool.or_eq_true, ih]
      constructor
      · rintro (⟨k, hk, h⟩ | h)
        · exact ⟨k, by omega, h⟩
        · simp only [Bool.and_eq_true, Bool.or_eq_true, beq_iff_eq] at h
          exact ⟨m, by omega, h⟩
      · rintro ⟨k, hk, h⟩
        by_cases e : k = m
        · subst e; right; simp only [Bool.and_eq_true, Bool.or_eq_true, beq_iff_eq]; exact h
        · exact .inl ⟨k, by omega, h⟩
  rw [Bool.eq_iff_iff, this, hit_iff]
theorem set_more (xs : List Int) (a : Nat) (p : Nat → Bool) (i k : Nat) (h : hitTo xs a p i (k + 1) = true) :
    boolsOf (nn xs) (fun j => if j = i then true else (p j || (j == i && hitTo xs a p i k))) = boolsOf (nn xs) (fun j => p j || (j == i && hitTo xs a p i (k + 1))) := by
  unfold boolsOf
  apply List.map_congr_left
  intro j _
  by_cases e : j = i
  · subst e; rw [if_pos rfl, h]; simp
  · have e1 : (j == i) = false := by simpa using e
    rw [if_neg e, e1]; simp
theorem behind_l2 (xs : List Int) (h : U32 xs) (a : Nat) (p : Nat → Bool) (c : Int) (i : Nat) (hi : i < nn xs) (R : Int) (K : Nat)
    (hend : ∀ k, K ≤ k → precinctref13_Behind.l1 k xs (a : Int) (nn xs : Int) (boolsOf (nn xs) (more1 xs a p i)) c ((i + 1 : Nat) : Int) = some R) (d : Nat) :
    ∀ (k j : Nat), j ≤ nn xs → nn xs - j = d → K + d + 100 < k →
    precinctref13_Behind.l2 k xs (a : Int) (nn xs : Int) (boolsOf (nn xs) (fun m => p m || (m == i && hitTo xs a p i j))) c (i : Int) (j : Int) = some R := by
  have hn := nn_le xs
  have hl := nn_len xs
  induction d with
  | zero =>
    intro k j h1 hd hk
    obtain ⟨k, rfl⟩ : ∃ m, k = m + 1 := ⟨k - 1, by omega⟩
    have : j = nn xs := by omega
    subst this
    simp only [precinctref13_Behind.l2]
    rw [if_neg (by omega), wrap_succ i (by omega), hitTo_all]
    exact hend k (by omega)
  | succ d ih =>
    intro k j h1 hd hk
    obtain ⟨k, rfl⟩ : ∃ m, k = m + 1 := ⟨k - 1, by omega⟩
    have hlt : j < nn xs := by omega
    have hI := ih k (j + 1) (by omega) (by omega) (by omega)
    have hdep : dep xs i j = (mk xs i).testBit j := by unfold dep; simp [hlt]
    simp only [precinctref13_Behind.l2]
    rw [if_pos (by omega), if_pos (by omega), if_pos (by omega), rd_nat, ← mk_cast h, bit_is _ _ (mk_lt h i) (by omega) k (by omega), ← hdep, wrap_succ j (by omega)]
    simp only [Option.bind_some]
    by_cases c1 : dep xs i j = true
    · rw [if_pos c1]
      by_cases c2 : j = a
      · rw [if_pos (by omega), if_pos (by rw [boolsOf_len]; omega), Int.toNat_natCast, boolsOf_set, set_more xs a p i j (by rw [hitTo, c1]; simp [c2])]
        exact hI
      · rw [if_neg (by omega), if_pos (by omega), if_pos (by rw [boolsOf_len]; omega), boolsOf_at _ _ _ hlt]
        by_cases c3 : (p j || (j == i && hitTo xs a p i j)) = true
        · rw [if_pos c3, if_pos (by rw [boolsOf_len]; omega), Int.toNat_natCast, boolsOf_set, set_more xs a p i j (by
            rw [hitTo]
            rcases Bool.or_eq_true_iff.1 c3 with h3 | h3
            · simp [c1, h3]
            · rw [Bool.and_eq_true] at h3; rw [h3.2]; simp)]
          exact hI
        · rw [if_neg c3]
          have e : hitTo xs a p i (j + 1) = hitTo xs a p i j := by
            rw [hitTo]
            have hp : p j = false := by
              cases hpj : p j
              · rfl
              · rw [hpj] at c3; simp at c3
            have hja : (j == a) = false := by simpa using c2
            rw [hp, hja]; simp
          rw [← e]; exact hI
    · rw [if_neg c1]
      have e : hitTo xs a p i (j + 1) = hitTo xs a p i j := by
        rw [hitTo]
        have : dep xs i j = false := by simpa using c1
        rw [this]; simp
      rw [← e]; exact hI
theorem behind_l1 (xs : List Int) (h : U32 xs) (a : Nat) (p : Nat → Bool) (c : Int) (R : Int) (K : Nat)
    (hend : ∀ k, K ≤ k → precinctref13_Behind.l0 k xs (a : Int) (nn xs : Int) (boolsOf (nn xs) (gs xs a p (nn xs))) (wrap64 (c + 1)) = some R) (d : Nat) :
    ∀ (k i : Nat), i ≤ nn xs → nn xs - i = d → ∀ B : Nat, B = (d + 1) * 300 → K + B < k →
    precinctref13_Behind.l1 k xs (a : Int) (nn xs : Int) (boolsOf (nn xs) (gs xs a p i)) c (i : Int) = some R := by
  have hn := nn_le xs
  induction d with
  | zero =>
    intro k i h1 hd B hB hk
    obtain ⟨k, rfl⟩ : ∃ m, k = m + 1 := ⟨k - 1, by omega⟩
    have : i = nn xs := by omega
    subst this
    simp only [precinctref13_Behind.l1]
    rw [if_neg (by omega)]
    exact hend k (by omega)
  | succ d ih =>
    intro k i h1 hd B hB hk
    obtain ⟨k, rfl⟩ : ∃ m, k = m + 1 := ⟨k - 1, by omega⟩
    obtain ⟨B', hB'⟩ : ∃ B' : Nat, B' = (d + 1) * 300 := ⟨_, rfl⟩
    have hBB : B = B' + 300 := by omega
    clear hB
    have hlt : i < nn xs := by omega
    simp only [precinctref13_Behind.l1]
    rw [if_pos (by omega)]
    have hs := behind_l2 xs h a (gs xs a p i) c i hlt R (K + B' + 1) (fun k hk => by
      have := ih k (i + 1) (by omega) (by omega) B' hB' (by omega)
      rw [gs] at this; exact this) (nn xs) k 0 (by omega) (by omega) (by omega)
    have e : boolsOf (nn xs) (fun m => gs xs a p i m || (m == i && hitTo xs a (gs xs a p i) i 0)) = boolsOf (nn xs) (gs xs a p i) := by
      unfold boolsOf
      apply List.map_congr_left
      intro j _
      simp [hitTo]
    rw [e, show ((0 : Nat) : Int) = 0 from rfl] at hs
    exact hs
theorem behind_l0 (xs : List Int) (h : U32 xs) (a : Nat) (ha : a < nn xs) (d : Nat) : ∀ (k s : Nat), s ≤ nn xs → nn xs - s = d → ∀ B : Nat, B = (d + 1) * 20000 → B < k →
    precinctref13_Behind.l0 k xs (a : Int) (nn xs : Int) (boolsOf (nn xs) (passes xs a s)) (s : Int) = some ((behN xs a : Nat) : Int) := by
  have hn := nn_le xs
  induction d with
  | zero =>
    intro k s h1 hd B hB hk
    obtain ⟨k, rfl⟩ : ∃ m, k = m + 1 := ⟨k - 1, by omega⟩
    have : s = nn xs := by omega
    subst this
    simp only [precinctref13_Behind.l0]
    rw [if_neg (by omega), number_is _ hn _ k (by omega)]
    simp only [Option.bind_some]
    rw [passes_all xs a ha]
  | succ d ih =>
    intro k s h1 hd B hB hk
    obtain ⟨k, rfl⟩ : ∃ m, k = m + 1 := ⟨k - 1, by omega⟩
    obtain ⟨B', hB'⟩ : ∃ B' : Nat, B' = (d + 1) * 20000 := ⟨_, rfl⟩
    have hBB : B = B' + 20000 := by omega
    clear hB
    simp only [precinctref13_Behind.l0]
    rw [if_pos (by omega)]
    have hs := behind_l1 xs h a (passes xs a s) (s : Int) ((behN xs a : Nat) : Int) (B' + 1) (fun k hk => by
      rw [wrap_succ s (by omega)]
      exact ih k (s + 1) (by omega) (by omega) B' hB' (by omega)) (nn xs) k 0 (by omega) (by omega) _ rfl (by omega)
    rw [show ((0 : Nat) : Int) = 0 from rfl] at hs
    exact hs
theorem refBehind_is (xs : List Int) (h : U32 xs) (a : Nat) (ha : a < nn xs) (k : Nat) (hk : 700000 ≤ k) : precinctref13_Behind.f k xs (a : Int) = some ((behN xs a : Nat) : Int) := by
  have hn := nn_le xs
  unfold precinctref13_Behind.f
  rw [count_is]
  simp only [Option.bind_some]
  rw [if_neg (by omega), decide_eq_false (by omega)]
  obtain ⟨k, rfl⟩ : ∃ m, k = m + 1 := ⟨k - 1, by omega⟩
  simp only [precinctref13_Behind.j0]
  rw [if_neg (by decide), if_pos (by omega), Int.toNat_natCast, if_pos (by omega)]
  have e : List.replicate (nn xs) false = boolsOf (nn xs) (passes xs a 0) := by
    unfold boolsOf passes
    apply List.ext_getElem?
    intro j
    by_cases hj : j < nn xs
    · simp [List.getElem?_replicate, hj]
    · simp [List.getElem?_replicate, hj]
  rw [e]
  exact behind_l0 xs h a ha (nn xs) k 0 (by omega) (by omega) _ rfl (by omega)
theorem refBehind_out (xs : List Int) (a : Int) (ha : a < 0 ∨ (nn xs : Int) ≤ a) : precinctref13_Behind.f 2 xs a = some 0 := by
  unfold precinctref13_Behind.f
  rw [count_is]
  simp only [Option.bind_some]
  rcases ha with ha | ha
  · rw [if_pos ha]; simp [precinctref13_Behind.j0]
  · by_cases h0 : a < 0
    · rw [if_pos h0]; simp [precinctref13_Behind.j0]
    · rw [if_neg h0, decide_eq_true (by omega)]; simp [precinctref13_Behind.j0]
end Go.Proofs.YtfkljcnkghakaaaDoor.Masks
