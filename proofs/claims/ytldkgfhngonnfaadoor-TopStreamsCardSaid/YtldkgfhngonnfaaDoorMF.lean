/- The plain law of a stream's half: what cells hold together; what is left where some are not kept. The plain law of frames: what a text of frames, or a head of it, tells. The plain law of a disk whose power may fail while sectors are laid. The plain law of a region: what Append and Reset leave of its records, whatever is kept. Open and Append, by what they leave of the records. precincttop.streams: a record that is kept. -/
import Derived.Test.YtldkgfhngonnfaaDoorME
namespace Go.Proofs.YtldkgfhngonnfaaDoor.S
open Go.RowKit
set_option linter.unusedVariables false
set_option linter.unusedSimpArgs false
/-- A text's bytes as a list. -/
def bl (b : ByteArray) : List UInt8 := b.data.toList
theorem bl_inj {a b : ByteArray} (h : bl a = bl b) : a = b := ByteArray.ext (Array.toList_inj.1 h)
theorem bl_len (b : ByteArray) : (bl b).length = b.size := by unfold bl; rw [Array.length_toList]; rfl
theorem bl_app (a b : ByteArray) : bl (a ++ b) = bl a ++ bl b := by unfold bl; rw [ByteArray.data_append, Array.toList_append]
theorem bl_ext (b : ByteArray) (i j : Nat) : bl (b.extract i j) = ((bl b).take j).drop i := by
  unfold bl
  rw [ByteArray.data_extract, Array.toList_extract]
  simp [List.drop_take]
theorem ext_len (b : ByteArray) (i j : Nat) : (b.extract i j).size = min j b.size - i := ByteArray.size_extract
/-- Two stretches that meet. -/
theorem ext_join (b : ByteArray) (i j k : Nat) (h1 : i ≤ j) (h2 : j ≤ k) : b.extract i j ++ b.extract j k = b.extract i k := by
  apply bl_inj
  rw [bl_app, bl_ext, bl_ext, bl_ext]
  have : (bl b).take j = ((bl b).take k).take j := by rw [List.take_take, Nat.min_eq_left h2]
  rw [this]
  generalize (bl b).take k = l
  rw [List.drop_take]
  have e : l.drop j = (l.drop i).drop (j - i) := by rw [List.drop_drop]; congr 1; omega
  rw [e]
  exact List.take_append_drop _ _
theorem ext_over (b : ByteArray) (i j : Nat) (h : b.size ≤ j) : b.extract i j = b.extract i b.size := by
  apply bl_inj
  rw [bl_ext, bl_ext, List.take_of_length_le (by rw [bl_len]; exact h), List.take_of_length_le (by rw [bl_len]; exact Nat.le_refl _)]
theorem ext_none (b : ByteArray) (i : Nat) : b.extract i i = ⟨#[]⟩ := by
  apply bl_inj
  rw [bl_ext, List.drop_of_length_le (by rw [List.length_take]; omega)]
  rfl
/-- The head of an extension. -/
theorem ext_left (a b : ByteArray) (i j : Nat) (h : j ≤ a.size) : (a ++ b).extract i j = a.extract i j := by
  apply bl_inj
  rw [bl_ext, bl_ext, bl_app, List.take_append_of_le_length (by rw [bl_len]; exact h)]
theorem ext_right (a b : ByteArray) (i j : Nat) : (a ++ b).extract (a.size + i) (a.size + j) = b.extract i j := by
  apply bl_inj
  rw [bl_ext, bl_ext, bl_app, ← bl_len a, List.take_length_add_append, List.drop_length_add_append]
theorem ext_ext (b : ByteArray) (i j k : Nat) : (b.extract 0 k).extract i j = b.extract i (min j k) := by
  apply bl_inj
  rw [bl_ext, bl_ext, bl_ext, List.drop_zero, List.take_take]
/-- The j-th piece. -/
def pc (d : ByteArray) (j : Nat) : ByteArray := d.extract (55 * j) (55 * j + 55)
theorem pc_full (d : ByteArray) (j : Nat) (h : 55 * j + 55 ≤ d.size) : (pc d j).size = 55 := by unfold pc; rw [ext_len]; omega
theorem pc_size (d : ByteArray) (j : Nat) : (pc d j).size ≤ 55 := by unfold pc; rw [ext_len]; omega
theorem pc_short (d : ByteArray) (j : Nat) (h : d.size < 55 * j + 55) : (pc d j).size < 55 := by unfold pc; rw [ext_len]; omega
theorem pc_zero (d : ByteArray) : pc d 0 = d.extract 0 55 := rfl
theorem pc_rest (d : ByteArray) (i j : Nat) (h : 55 * i ≤ d.size) : pc (d.extract (55 * i) d.size) j = pc d (i + j) := by
  apply bl_inj
  unfold pc
  rw [bl_ext, bl_ext, bl_ext, List.take_of_length_le (l := bl d) (by rw [bl_len]; exact Nat.le_refl _), List.drop_take, List.drop_take, List.drop_drop, show 55 * i + 55 * j = 55 * (i + j) by omega, show 55 * j + 55 - 55 * j = 55 * (i + j) + 55 - 55 * (i + j) by omega]
theorem chunks_get : ∀ (n : Nat) (d : ByteArray), d.size = n → ∀ j, (chunks d)[j]? = if 55 * j ≤ d.size then some (pc d j) else none := by
  intro n
  induction n using Nat.strongRecOn with
  | _ n ih =>
    intro d hd j
    by_cases h : d.size < 55
    · rw [chunks_short h]
      cases j with
      | zero =>
        rw [if_pos (by omega), pc_zero, ext_over _ _ _ (by omega), extract_all]
        rfl
      | succ j => rw [if_neg (by omega)]; rfl
    · rw [chunks_long h]
      cases j with
      | zero => rw [if_pos (by omega)]; rfl
      | succ j =>
        rw [List.getElem?_cons_succ, ih (d.extract 55 d.size).size (by rw [extract_size]; omega) _ rfl, extract_size]
        have e : pc (d.extract 55 d.size) j = pc d (j + 1) := by
          have := pc_rest d 1 j (by omega)
          rw [Nat.add_comm j 1]
          exact this
        rw [e]
        by_cases hj : 55 * (j + 1) ≤ d.size
        · rw [if_pos hj, if_pos (by omega)]
        · rw [if_neg hj, if_neg (by omega)]
/-- Cells as sectors. -/
def secsOf (g i : Nat) (L : List ByteArray) : List Sec := L.mapIdx fun j c => some (g, i + j, c)
theorem secsOf_len (g i : Nat) (L : List ByteArray) : (secsOf g i L).length = L.length := by unfold secsOf; simp
theorem secsOf_B (g i : Nat) (L : List ByteArray) : (secsOf g i L).map secB = cellsOf g i L := by
  apply List.ext_getElem?
  intro j
  unfold secsOf cellsOf
  rw [List.getElem?_map, List.getElem?_mapIdx, List.getElem?_mapIdx]
  cases L[j]? <;> rfl
theorem secsOf_get (g i : Nat) (L : List ByteArray) (j : Nat) : (secsOf g i L)[j]? = (L[j]?).map fun c => some (g, i + j, c) := by
  unfold secsOf
  rw [List.getElem?_mapIdx]
/-- Writes from k on, as far as they are kept. -/
def wrs {α : Type} (kept : Nat → Bool) (k : Nat) (ys L : List α) : List α := L.mapIdx fun i v => if k ≤ i ∧ kept (i - k) = true then (ys[i - k]?).getD v else v
theorem wrs_len {α : Type} (kept : Nat → Bool) (k : Nat) (ys L : List α) : (wrs kept k ys L).length = L.length := by unfold wrs; simp
theorem wrs_get {α : Type} (kept : Nat → Bool) (k : Nat) (ys L : List α) (i : Nat) : (wrs kept k ys L)[i]? = (L[i]?).map fun v => if k ≤ i ∧ kept (i - k) = true then (ys[i - k]?).getD v else v := by
  unfold wrs
  rw [List.getElem?_mapIdx]
theorem wrs_map {α β : Type} (f : α → β) (kept : Nat → Bool) (k : Nat) (ys L : List α) : (wrs kept k ys L).map f = wrs kept k (ys.map f) (L.map f) := by
  apply List.ext_getElem?
  intro i
  rw [List.getElem?_map, wrs_get, wrs_get, List.getElem?_map, List.getElem?_map]
  cases L[i]? with
  | none => rfl
  | some v =>
    simp only [Option.map_some, Option.some.injEq]
    split
    · cases ys[i - k]? <;> rfl
    · rfl
theorem wrs_cons {α : Type} (kept : Nat → Bool) (k : Nat) (ys : List α) (a : α) (L : List α) : wrs kept (1 + k) ys (a :: L) = a :: wrs kept k ys L := by
  apply List.ext_getElem?
  intro i
  cases i with
  | zero =>
    rw [wrs_get]
    simp
  | succ i =>
    rw [wrs_get, List.getElem?_cons_succ, List.getElem?_cons_succ, wrs_get]
    congr 1
    funext v
    rw [show i + 1 - (1 + k) = i - k by omega]
    by_cases h : k ≤ i
    · simp [h, show 1 + k ≤ i + 1 by omega]
    · simp [h, show ¬ 1 + k ≤ i + 1 by omega]
/-- Where nothing is written. -/
theorem wrs_out {α : Type} (kept : Nat → Bool) (k : Nat) (ys L : List α) (i : Nat) (h : i < k ∨ k + ys.length ≤ i) : (wrs kept k ys L)[i]? = L[i]? := by
  rw [wrs_get]
  have : (fun v => if k ≤ i ∧ kept (i - k) = true then (ys[i - k]?).getD v else v) = (id : α → α) := by
    funext v
    split
    · next hc => rw [List.getElem?_eq_none (by omega)]; rfl
    · rfl
  rw [this]
  simp
theorem wrs_off {α : Type} (kept : Nat → Bool) (k : Nat) (ys L : List α) (i : Nat) (h : kept (i - k) = false) : (wrs kept k ys L)[i]? = L[i]? := by
  rw [wrs_get]
  have : (fun v => if k ≤ i ∧ kept (i - k) = true then (ys[i - k]?).getD v else v) = (id : α → α) := by
    funext v
    rw [if_neg (by rw [h]; simp)]
    rfl
  rw [this]
  simp
theorem wrs_in {α : Type} (kept : Nat → Bool) (k : Nat) (ys L : List α) (j : Nat) (y : α) (hy : ys[j]? = some y) (hk : kept j = true) (hl : k + j < L.length) : (wrs kept k ys L)[k + j]? = some y := by
  rw [wrs_get, show k + j - k = j by omega, hy, List.getElem?_eq_getElem hl]
  simp [hk]
/-- What the first cells hold. -/
theorem joinF_pre (g : Nat) (d : ByteArray) (hs : List Sec) : ∀ k, (∀ j, j < k → hs[j]? = some (some (g, j, pc d j))) → 55 * k ≤ d.size → joinF g 0 hs = d.extract 0 (55 * k) ++ joinF g k (hs.drop k)
  | 0, _, _ => by rw [ext_none, ba_nil_app]; rfl
  | k + 1, h, hd => by
    rw [joinF_pre g d hs k (fun j hj => h j (by omega)) (by omega), joinF_drop g k hs _ (h k (by omega))]
    have h55 := pc_full d k (by omega)
    rw [if_pos ⟨rfl, rfl, rfl⟩]
    show d.extract 0 (55 * k) ++ (if (pc d k).size < 55 then pc d k else pc d k ++ joinF g (k + 1) (hs.drop (k + 1))) = _
    rw [if_neg (show ¬ (pc d k).size < 55 by omega), ← ByteArray.append_assoc]
    congr 1
    exact ext_join d 0 (55 * k) (55 * k + 55) (by omega) (by omega)
/-- All cells of a text are there. -/
theorem joinF_all (g : Nat) (d : ByteArray) (hs : List Sec) (h : ∀ j, 55 * j ≤ d.size → hs[j]? = some (some (g, j, pc d j))) : joinF g 0 hs = d := by
  have hk : 55 * (d.size / 55) ≤ d.size := by omega
  rw [joinF_pre g d hs (d.size / 55) (fun j hj => h j (by omega)) hk, joinF_drop g _ hs _ (h _ hk)]
  have h55 := pc_short d (d.size / 55) (by omega)
  rw [if_pos ⟨rfl, rfl, rfl⟩]
  show d.extract 0 (55 * (d.size / 55)) ++ (if (pc d (d.size / 55)).size < 55 then pc d (d.size / 55) else pc d (d.size / 55) ++ joinF g (d.size / 55 + 1) (hs.drop (d.size / 55 + 1))) = _
  rw [if_pos h55]
  show d.extract 0 (55 * (d.size / 55)) ++ d.extract (55 * (d.size / 55)) (55 * (d.size / 55) + 55) = d
  rw [ext_join d 0 _ _ (by omega) (by omega), ext_over _ _ _ (by omega), extract_all]
/-- A cell that is not there ends it. -/
theorem joinF_end (g : Nat) (d : ByteArray) (hs : List Sec) (k : Nat) (h : ∀ j, j < k → hs[j]? = some (some (g, j, pc d j))) (hd : 55 * k ≤ d.size) (hk : ∀ c, hs[k]? = some c → Sec.gen c ≠ g) : joinF g 0 hs = d.extract 0 (55 * k) := by
  rw [joinF_pre g d hs k h hd]
  have : joinF g k (hs.drop k) = ⟨#[]⟩ := by
    cases e : hs[k]? with
    | none =>
      rw [List.drop_of_length_le (List.getElem?_eq_none_iff.1 e)]
      rfl
    | some c =>
      rw [joinF_drop g k hs c e, if_neg (fun hc => hk c e hc.2.1)]
  rw [this, ba_app_nil]
/-- A half that holds a text: its cells, and no other of the generation. -/
structure Half (H g : Nat) (d : ByteArray) (hs : List Sec) : Prop where
  len : hs.length = H
  fit : d.size + 1 ≤ H * 55
  cell : ∀ j, 55 * j ≤ d.size → hs[j]? = some (some (g, j, pc d j))
  rest : ∀ j c, d.size < 55 * j → hs[j]? = some c → Sec.gen c ≠ g
theorem Half.join {H g : Nat} {d : ByteArray} {hs : List Sec} (h : Half H g d hs) : joinF g 0 hs = d := joinF_all g d hs h.cell
theorem pc_app (d f : ByteArray) (j : Nat) (h : 55 * j + 55 ≤ d.size) : pc (d ++ f) j = pc d j := ext_left d f _ _ h
/-- What Append writes. -/
def appSecs (g : Nat) (d f : ByteArray) : List Sec := secsOf g (d.size / 55) (chunks ((d ++ f).extract (d.size / 55 * 55) (d ++ f).size))
theorem appSecs_get (g : Nat) (d f : ByteArray) (j : Nat) : (appSecs g d f)[j]? = if 55 * (d.size / 55 + j) ≤ (d ++ f).size then some (some (g, d.size / 55 + j, pc (d ++ f) (d.size / 55 + j))) else none := by
  unfold appSecs
  rw [secsOf_get, chunks_get _ _ rfl, extract_size]
  have hs : (d ++ f).size = d.size + f.size := ByteArray.size_append
  have e : pc ((d ++ f).extract (d.size / 55 * 55) (d ++ f).size) j = pc (d ++ f) (d.size / 55 + j) := by
    rw [Nat.mul_comm]
    exact pc_rest _ _ _ (by omega)
  by_cases h : 55 * (d.size / 55 + j) ≤ (d ++ f).size
  · rw [if_pos h, if_pos (by omega), e]; rfl
  · rw [if_neg h, if_neg (by omega)]; rfl
/-- Append's cells, all of them kept. -/
theorem Half.more {H g : Nat} {d f : ByteArray} {hs : List Sec} (h : Half H g d hs) (hf : (d ++ f).size + 1 ≤ H * 55) (kept : Nat → Bool) (hk : ∀ j, kept j = true) : Half H g (d ++ f) (wrs kept (d.size / 55) (appSecs g d f) hs) := by
  have hs0 : (d ++ f).size = d.size + f.size := ByteArray.size_append
  have hlen : ∀ j, d.size / 55 ≤ j → 55 * j ≤ (d ++ f).size → (appSecs g d f)[j - d.size / 55]? = some (some (g, j, pc (d ++ f) j)) := fun j h1 h2 => by
    rw [appSecs_get, show d.size / 55 + (j - d.size / 55) = j by omega, if_pos h2]
  refine ⟨by rw [wrs_len]; exact h.len, hf, fun j hj => ?_, fun j c hj hc => ?_⟩
  · by_cases hlt : j < d.size / 55
    · rw [wrs_out _ _ _ _ _ (.inl hlt), pc_app d f j (by omega)]
      exact h.cell j (by omega)
    · have e := wrs_in kept (d.size / 55) (appSecs g d f) hs (j - d.size / 55) _ (hlen j (by omega) hj) (hk _) (by rw [h.len]; omega)
      rw [show d.size / 55 + (j - d.size / 55) = j by omega] at e
      exact e
  · rw [wrs_get] at hc
    have e : (appSecs g d f)[j - d.size / 55]? = none := by
      rw [appSecs_get, if_neg (by omega)]
    rw [e] at hc
    have : (fun v => if d.size / 55 ≤ j ∧ kept (j - d.size / 55) = true then (none : Option Sec).getD v else v) = (id : Sec → Sec) := by
      funext v; split <;> rfl
    rw [this] at hc
    simp at hc
    exact h.rest j c (by omega) hc
/-- Append's cells, as far as they are kept: a head of the text, no shorter than it was. -/
theorem Half.part {H g : Nat} {d f : ByteArray} {hs : List Sec} (h : Half H g d hs) (hf : (d ++ f).size + 1 ≤ H * 55) (kept : Nat → Bool) : ∃ n, d.size ≤ n ∧ n ≤ (d ++ f).size ∧ joinF g 0 (wrs kept (d.size / 55) (appSecs g d f) hs) = (d ++ f).extract 0 n := by
  have hs0 : (d ++ f).size = d.size + f.size := ByteArray.size_append
  have hlen : ∀ j, d.size / 55 ≤ j → 55 * j ≤ (d ++ f).size → (appSecs g d f)[j - d.size / 55]? = some (some (g, j, pc (d ++ f) j)) := fun j h1 h2 => by
    rw [appSecs_get, show d.size / 55 + (j - d.size / 55) = j by omega, if_pos h2]
  have hold : ∀ j, j < d.size / 55 → (wrs kept (d.size / 55) (appSecs g d f) hs)[j]? = some (some (g, j, pc (d ++ f) j)) := fun j hlt => by
    rw [wrs_out _ _ _ _ _ (.inl hlt), pc_app d f j (by omega)]
    exact h.cell j (by omega)
  have hnew : ∀ j, d.size / 55 ≤ j → 55 * j ≤ (d ++ f).size → kept (j - d.size / 55) = true → (wrs kept (d.size / 55) (appSecs g d f) hs)[j]? = some (some (g, j, pc (d ++ f) j)) := fun j h1 h2 h3 => by
    have e := wrs_in kept (d.size / 55) (appSecs g d f) hs (j - d.size / 55) _ (hlen j h1 h2) h3 (by rw [h.len]; omega)
    rw [show d.size / 55 + (j - d.size / 55) = j by omega] at e
    exact e
  -- how many of the first ones are kept
  have hex : ∀ m, (∃ k, k < m ∧ kept k = false ∧ ∀ j, j < k → kept j = true) ∨ ∀ j, j < m → kept j = true := by
    intro m
    induction m with
    | zero => exact .inr (fun j hj => absurd hj (Nat.not_lt_zero _))
    | succ m ih =>
      rcases ih with ⟨k, h1, h2, h3⟩ | ih
      · exact .inl ⟨k, by omega, h2, h3⟩
      · cases hm : kept m
        · exact .inl ⟨m, by omega, hm, ih⟩
        · exact .inr (fun j hj => by
            rcases Nat.lt_succ_iff_lt_or_eq.1 hj with hj | rfl
            · exact ih j hj
            · exact hm)
  rcases hex ((d ++ f).size / 55 - d.size / 55 + 1) with ⟨k, h1, h2, h3⟩ | hall
  · cases k with
    | zero =>
      refine ⟨d.size, Nat.le_refl _, by omega, ?_⟩
      rw [ext_left d f 0 d.size (Nat.le_refl _), extract_all]
      apply joinF_all
      intro j hj
      by_cases hlt : j < d.size / 55
      · rw [wrs_out _ _ _ _ _ (.inl hlt)]
        exact h.cell j hj
      · obtain rfl : j = d.size / 55 := by omega
        rw [wrs_off _ _ _ _ _ (by rw [Nat.sub_self]; exact h2)]
        exact h.cell _ hj
    | succ k =>
      refine ⟨55 * (d.size / 55 + (k + 1)), by omega, by omega, ?_⟩
      apply joinF_end
      · intro j hj
        by_cases hlt : j < d.size / 55
        · exact hold j hlt
        · exact hnew j (by omega) (by omega) (h3 _ (by omega))
      · omega
      · intro c hc
        rw [wrs_off _ _ _ _ _ (by rw [show d.size / 55 + (k + 1) - d.size / 55 = k + 1 by omega]; exact h2)] at hc
        exact h.rest _ c (by omega) hc
  · refine ⟨(d ++ f).size, by omega, Nat.le_refl _, ?_⟩
    rw [extract_all]
    apply joinF_all
    intro j hj
    by_cases hlt : j < d.size / 55
    · exact hold j hlt
    · exact hnew j (by omega) hj (hall _ (by omega))
end Go.Proofs.YtldkgfhngonnfaaDoor.S
namespace Go.Proofs.YtldkgfhngonnfaaDoor.S
open Go.RowKit
set_option linter.unusedVariables false
set_option linter.unusedSimpArgs false
theorem frm_eq (b : ByteArray) : frm b = putB 2 b.size ++ (putB 4 (sumN (putB 2 b.size ++ b)) ++ b) := by unfold frm; rw [ByteArray.append_assoc]
theorem getF_frm (p b r : ByteArray) (h1 : 1 ≤ b.size) (h2 : b.size ≤ 4096) : getF (p ++ (frm b ++ r)) p.size = some (b, p.size + (frm b).size) := by
  have hfs := frm_size b
  obtain ⟨s, hs⟩ : ∃ s, s = p ++ (frm b ++ r) := ⟨_, rfl⟩
  have hz : s.size = p.size + ((6 + b.size) + r.size) := by rw [hs, ByteArray.size_append, ByteArray.size_append, hfs]
  have hp2 : (putB 2 b.size).size = 2 := putB_size _ _
  have hp4 : (putB 4 (sumN (putB 2 b.size ++ b))).size = 4 := putB_size _ _
  have e0 : s = p ++ (putB 2 b.size ++ (putB 4 (sumN (putB 2 b.size ++ b)) ++ (b ++ r))) := by
    rw [hs, frm_eq]
    simp only [ByteArray.append_assoc]
  have e1 : s = (p ++ putB 2 b.size) ++ (putB 4 (sumN (putB 2 b.size ++ b)) ++ (b ++ r)) := by rw [e0]; simp only [ByteArray.append_assoc]
  have e2 : s = ((p ++ putB 2 b.size) ++ putB 4 (sumN (putB 2 b.size ++ b))) ++ (b ++ r) := by rw [e1]; simp only [ByteArray.append_assoc]
  have z1 : (p ++ putB 2 b.size).size = p.size + 2 := by rw [ByteArray.size_append, hp2]
  have z2 : ((p ++ putB 2 b.size) ++ putB 4 (sumN (putB 2 b.size ++ b))).size = p.size + 6 := by rw [ByteArray.size_append, z1, hp4]
  have n2 : getN s p.size 2 = b.size := by
    have h := getN_right p (putB 2 b.size ++ (putB 4 (sumN (putB 2 b.size ++ b)) ++ (b ++ r))) 0 2
    rw [Nat.add_zero, ← e0] at h
    rw [h, getN_left _ _ 0 2 (by omega)]
    exact get_put 2 b.size (by omega)
  have n4 : getN s (p.size + 2) 4 = sumN (putB 2 b.size ++ b) := by
    have h := getN_right (p ++ putB 2 b.size) (putB 4 (sumN (putB 2 b.size ++ b)) ++ (b ++ r)) 0 4
    rw [Nat.add_zero, ← e1, z1] at h
    rw [h, getN_left _ _ 0 4 (by omega)]
    exact get_put 4 _ (by have := (sumC_eq (putB 2 b.size ++ b)).2; omega)
  have x2 : s.extract p.size (p.size + 2) = putB 2 b.size := by
    have h := ext_right p (putB 2 b.size ++ (putB 4 (sumN (putB 2 b.size ++ b)) ++ (b ++ r))) 0 2
    rw [Nat.add_zero, ← e0] at h
    rw [h, ext_left _ _ _ _ (by omega)]
    have h3 := extract_all (putB 2 b.size)
    rw [hp2] at h3
    exact h3
  have xb : s.extract (p.size + 6) (p.size + 6 + b.size) = b := by
    have h := ext_right ((p ++ putB 2 b.size) ++ putB 4 (sumN (putB 2 b.size ++ b))) (b ++ r) 0 b.size
    rw [Nat.add_zero, ← e2, z2] at h
    rw [h, ext_left _ _ _ _ (Nat.le_refl _), extract_all]
  rw [← hs, hfs]
  unfold getF
  rw [n2, n4, x2, xb, if_neg (by omega), if_neg (by omega), if_neg (by omega), if_neg (by omega), if_pos rfl]
  rw [Nat.add_assoc]
/-- A head of a frame tells nothing. -/
theorem getF_head (p b : ByteArray) (m : Nat) (h1 : 1 ≤ b.size) (h2 : b.size ≤ 4096) (hm : m < (frm b).size) : getF (p ++ (frm b).extract 0 m) p.size = none := by
  have hfs := frm_size b
  have hz : (p ++ (frm b).extract 0 m).size = p.size + m := by rw [ByteArray.size_append, ext_len]; omega
  have hp2 : (putB 2 b.size).size = 2 := putB_size _ _
  unfold getF
  rw [hz]
  by_cases hc : m < 2
  · rw [if_pos (by omega)]
  · have n2 : getN (p ++ (frm b).extract 0 m) p.size 2 = b.size := by
      have h := getN_right p ((frm b).extract 0 m) 0 2
      rw [Nat.add_zero] at h
      have e : frm b = (frm b).extract 0 m ++ (frm b).extract m (frm b).size := by rw [ext_join _ _ _ _ (by omega) (by omega), extract_all]
      have h3 := getN_left ((frm b).extract 0 m) ((frm b).extract m (frm b).size) 0 2 (by rw [ext_len]; omega)
      rw [← e] at h3
      rw [h, ← h3, frm_eq, getN_left _ _ 0 2 (by omega)]
      exact get_put 2 b.size (by omega)
    rw [n2, if_neg (by omega), if_neg (by omega), if_neg (by omega), if_pos (by omega)]
theorem framesF_frms : ∀ (rs : List ByteArray) (p r : ByteArray), (∀ b ∈ rs, 1 ≤ b.size ∧ b.size ≤ 4096) → framesF (p ++ (frms rs ++ r)) p.size = rs ++ framesF (p ++ (frms rs ++ r)) (p.size + (frms rs).size)
  | [], p, r, _ => by show _ = framesF _ (p.size + 0); rw [Nat.add_zero]
  | b :: rs, p, r, h => by
    have e : p ++ (frms (b :: rs) ++ r) = p ++ (frm b ++ (frms rs ++ r)) := by
      show p ++ ((frm b ++ frms rs) ++ r) = _
      simp only [ByteArray.append_assoc]
    have e2 : p ++ (frm b ++ (frms rs ++ r)) = (p ++ frm b) ++ (frms rs ++ r) := by simp only [ByteArray.append_assoc]
    have hb := h b (by simp)
    rw [e, framesF_some (by rw [ByteArray.size_append]; omega) (getF_frm p b _ hb.1 hb.2), e2]
    have ih := framesF_frms rs (p ++ frm b) r (fun x hx => h x (by simp [hx]))
    rw [ByteArray.size_append] at ih
    rw [ih, List.cons_append, show (frms (b :: rs)).size = (frm b).size + (frms rs).size from ByteArray.size_append, Nat.add_assoc]
theorem framesF_end (s : ByteArray) : framesF s s.size = [] := framesF_none (by unfold getF; rw [if_pos (by omega)])
theorem framesF_all (rs : List ByteArray) (h : ∀ b ∈ rs, 1 ≤ b.size ∧ b.size ≤ 4096) : framesF (frms rs) 0 = rs := by
  have e := framesF_frms rs ⟨#[]⟩ ⟨#[]⟩ h
  rw [ba_nil_app, ba_app_nil] at e
  have z : (⟨#[]⟩ : ByteArray).size = 0 := rfl
  rw [z, Nat.zero_add, framesF_end, List.append_nil] at e
  exact e
/-- A head of frames that holds all but perhaps the last one whole. -/
theorem framesF_part (rs : List ByteArray) (b : ByteArray) (n : Nat) (h : ∀ x ∈ rs, 1 ≤ x.size ∧ x.size ≤ 4096) (h1 : 1 ≤ b.size) (h2 : b.size ≤ 4096) (hn : (frms rs).size ≤ n) (hm : n ≤ (frms rs ++ frm b).size) :
    framesF ((frms rs ++ frm b).extract 0 n) 0 = rs ∨ framesF ((frms rs ++ frm b).extract 0 n) 0 = rs ++ [b] := by
  rw [ByteArray.size_append] at hm
  have z : (⟨#[]⟩ : ByteArray).size = 0 := rfl
  have e : (frms rs ++ frm b).extract 0 n = frms rs ++ (frm b).extract 0 (n - (frms rs).size) := by
    have h1 := ext_join (frms rs ++ frm b) 0 (frms rs).size n (by omega) hn
    have h2 := ext_right (frms rs) (frm b) 0 (n - (frms rs).size)
    rw [Nat.add_zero, show (frms rs).size + (n - (frms rs).size) = n by omega] at h2
    rw [← h1, h2, ext_left _ _ _ _ (Nat.le_refl _), extract_all]
  rw [e]
  have hf := framesF_frms rs ⟨#[]⟩ ((frm b).extract 0 (n - (frms rs).size)) h
  rw [ba_nil_app, z, Nat.zero_add] at hf
  rw [hf]
  by_cases hc : n - (frms rs).size < (frm b).size
  · left
    rw [framesF_none (getF_head (frms rs) b _ h1 h2 hc), List.append_nil]
  · right
    have hq : n - (frms rs).size = (frm b).size := by omega
    rw [hq, extract_all]
    have hg := getF_frm (frms rs) b ⟨#[]⟩ h1 h2
    rw [ba_app_nil] at hg
    rw [framesF_some (by rw [ByteArray.size_append]; omega) hg]
    have := framesF_end (frms rs ++ frm b)
    rw [ByteArray.size_append] at this
    rw [this]
end Go.Proofs.YtldkgfhngonnfaaDoor.S
namespace Go.Proofs.YtldkgfhngonnfaaDoor.S
open Go.RowKit
set_option linter.unusedVariables false
set_option linter.unusedSimpArgs false
def seqQ (s : Nat) (cells : List ByteArray) : List Wr := cells.mapIdx fun i c => (((s + i : Nat) : Int), c)
theorem seqQ_len (s : Nat) (cells : List ByteArray) : (seqQ s cells).length = cells.length := by unfold seqQ; simp
theorem seqQ_more (s : Nat) (cells : List ByteArray) (c : ByteArray) : seqQ s cells ++ [(((s + cells.length : Nat) : Int), c)] = seqQ s (cells ++ [c]) := by
  unfold seqQ
  rw [List.mapIdx_append]
  simp
theorem seqQ_get (s : Nat) (cells : List ByteArray) (i : Nat) (c : ByteArray) (h : cells[i]? = some c) : (seqQ s cells).getD i z119 = (((s + i : Nat) : Int), c) := by
  rw [List.getD_eq_getElem?_getD]
  unfold seqQ
  rw [List.getElem?_mapIdx, h]
  rfl
/-- Writes to sectors side by side: what stands behind them. -/
theorem lastTo_seq (kept : Nat → Bool) (s : Nat) (cells L : List ByteArray) (hL : s + cells.length ≤ L.length) : ∀ m, m ≤ cells.length → lastTo kept (seqQ s cells) L m = wrs (fun i => kept i && decide (i < m)) s cells L
  | 0, _ => by
    apply List.ext_getElem?
    intro i
    rw [wrs_off _ _ _ _ _ (by simp)]
    rfl
  | m + 1, hm => by
    obtain ⟨c, hc⟩ : ∃ c, cells[m]? = some c := ⟨_, List.getElem?_eq_getElem (by omega)⟩
    unfold lastTo
    rw [lastTo_seq kept s cells L hL m (by omega), seqQ_get s cells m c hc]
    apply List.ext_getElem?
    intro i
    by_cases hk : kept m = true
    · rw [if_pos hk]
      show ((wrs _ s cells L).set ((s + m : Nat) : Int).toNat c)[i]? = _
      rw [Int.toNat_natCast]
      by_cases hi : s + m = i
      · subst hi
        rw [List.getElem?_set_self (by rw [wrs_len]; omega), wrs_in _ _ _ _ m c hc (by simp [hk]) (by omega)]
      · rw [List.getElem?_set_ne hi, wrs_get, wrs_get]
        congr 1
        funext v
        by_cases h1 : s ≤ i
        · have e : decide (i - s < m) = decide (i - s < m + 1) := by
            rw [decide_eq_decide]; omega
          rw [e]
        · simp [h1]
    · rw [if_neg hk]
      rw [wrs_get, wrs_get]
      congr 1
      funext v
      by_cases h1 : s ≤ i
      · by_cases hi : i - s = m
        · simp [hi, hk]
        · have e : decide (i - s < m) = decide (i - s < m + 1) := by
            rw [decide_eq_decide]; omega
          rw [e]
      · simp [h1]
theorem wrs_more {α : Type} (kept : Nat → Bool) (s : Nat) (ys zs L : List α) : wrs (fun i => kept i && decide (i < ys.length)) s ys L = wrs (fun i => kept i && decide (i < ys.length)) s (ys ++ zs) L := by
  apply List.ext_getElem?
  intro i
  rw [wrs_get, wrs_get]
  congr 1
  funext v
  by_cases h : i - s < ys.length
  · rw [List.getElem?_append_left h]
  · simp [h]
theorem reg_last_quiet (r : Reg) (kept : Nat → Bool) (h : r.queue = []) : r.last kept = r := by
  obtain ⟨l, q⟩ := r
  simp only at h
  subst h
  rfl
theorem reg_last_seq (L : List ByteArray) (s : Nat) (cells : List ByteArray) (kept : Nat → Bool) (hL : s + cells.length ≤ L.length) : Reg.last ⟨L, seqQ s cells⟩ kept = ⟨wrs (fun i => kept i && decide (i < cells.length)) s cells L, []⟩ := by
  unfold Reg.last
  simp only
  rw [seqQ_len, lastTo_seq kept s cells L hL _ (Nat.le_refl _)]
/-- What the power's loss leaves where one region alone has writes that wait. -/
theorem lose_regs (D : Dsk) (n : Nat) (R : Reg) (ks : List Int) (hR : D.regs[n]? = some R) (hq : ∀ j r, j ≠ n → D.regs[j]? = some r → r.queue = []) : (D.lose ks).regs = D.regs.set n (R.last (keptB ks n)) := by
  apply List.ext_getElem?
  intro j
  show (D.regs.mapIdx _)[j]? = _
  rw [List.getElem?_mapIdx]
  have hn := (List.getElem?_eq_some_iff.1 hR).1
  by_cases hj : n = j
  · subst hj
    rw [List.getElem?_set_self hn, hR]
    rfl
  · rw [List.getElem?_set_ne hj]
    cases e : D.regs[j]? with
    | none => rfl
    | some r => simp [reg_last_quiet r _ (hq j r (Ne.symm hj) e)]
theorem fails_tl {D : Dsk} {n : Int} (h : D.fails n = true) : D.tl ≠ 0 := by
  unfold Dsk.fails at h
  intro e
  rw [e] at h
  cases h
theorem tick_tl0 {D : Dsk} {n : Int} (h : D.tl = 0) : (D.tick n).tl = 0 := by
  unfold Dsk.tick
  rw [if_neg (fun hc => hc.1 h)]
  exact h
theorem tick_le {D : Dsk} {n : Int} (h : 0 ≤ D.tl) : 0 ≤ (D.tick n).tl ∧ (D.tick n).tl ≤ D.tl := by
  unfold Dsk.tick
  split
  · next hc => exact ⟨by show 0 ≤ D.tl - 1; have := hc.1; omega, by show D.tl - 1 ≤ D.tl; omega⟩
  · exact ⟨h, Int.le_refl _⟩
/-- What lay comes to. -/
theorem lay_spec (n s : Nat) (L : List ByteArray) : ∀ (cells done : List ByteArray) (D : Dsk), D.off = false → D.regs[n]? = some ⟨L, seqQ s done⟩ → (∀ j r, j ≠ n → D.regs[j]? = some r → r.queue = []) → s + done.length + cells.length ≤ L.length →
    ((D.lay n (s + done.length) cells).2 = 0 → (D.lay n (s + done.length) cells).1.off = false ∧ (D.lay n (s + done.length) cells).1.regs = D.regs.set n ⟨wrs (fun _ => true) s (done ++ cells) L, []⟩ ∧ (0 ≤ D.tl → 0 ≤ (D.lay n (s + done.length) cells).1.tl ∧ (D.lay n (s + done.length) cells).1.tl ≤ D.tl)) ∧
    ((D.lay n (s + done.length) cells).2 = 11 → (D.lay n (s + done.length) cells).1.off = true ∧ (D.lay n (s + done.length) cells).1.tl = 0 ∧ D.tl ≠ 0 ∧ ∃ kept, (D.lay n (s + done.length) cells).1.regs = D.regs.set n ⟨wrs kept s (done ++ cells) L, []⟩)
  | [], done, D, hoff, hR, hq, hl => by
    have hlen : s + done.length ≤ L.length := by simpa using hl
    have hw : wrs (fun i => decide (i < done.length)) s done L = wrs (fun _ => true) s done L := by
      apply List.ext_getElem?
      intro i
      rw [wrs_get, wrs_get]
      congr 1
      funext v
      by_cases h : i - s < done.length
      · simp [h]
      · rw [List.getElem?_eq_none (by omega)]
        simp [h]
    show ((D.flush n).2 = 0 → (D.flush n).1.off = false ∧ (D.flush n).1.regs = _ ∧ (0 ≤ D.tl → 0 ≤ (D.flush n).1.tl ∧ (D.flush n).1.tl ≤ D.tl)) ∧ ((D.flush n).2 = 11 → (D.flush n).1.off = true ∧ (D.flush n).1.tl = 0 ∧ D.tl ≠ 0 ∧ ∃ kept, (D.flush n).1.regs = _)
    unfold Dsk.flush
    rw [if_neg (by rw [hoff]; decide), List.append_nil, getD_of hR]
    by_cases hf : D.fails n = true
    · rw [if_pos hf]
      refine ⟨(fun h => by cases h), fun _ => ⟨rfl, rfl, fails_tl hf, fun i => keptB D.keep n i && decide (i < done.length), ?_⟩⟩
      rw [lose_regs (D.tick n) n ⟨L, seqQ s done⟩ D.keep (by rw [tick_regs]; exact hR) (by rw [tick_regs]; exact hq), tick_regs, reg_last_seq L s done _ hlen]
    · rw [if_neg hf]
      refine ⟨fun _ => ⟨(by show (D.tick n).off = false; rw [tick_off]; exact hoff), ?_, fun h => tick_le h⟩, (fun h => by cases h)⟩
      show (D.tick n).regs.set n _ = _
      rw [tick_regs, reg_last_seq L s done _ hlen]
      simp only [Bool.true_and]
      rw [hw]
  | c :: cells, done, D, hoff, hR, hq, hl => by
    rw [List.length_cons] at hl
    have hn := (List.getElem?_eq_some_iff.1 hR).1
    have hw : D.write n ((s + done.length : Nat) : Int) c = if (D.put n ⟨L, seqQ s (done ++ [c])⟩).fails n then (((D.put n ⟨L, seqQ s (done ++ [c])⟩).tick n).lose D.keep, 11) else ((D.put n ⟨L, seqQ s (done ++ [c])⟩).tick n, 0) := by
      unfold Dsk.write
      rw [if_neg (by rw [hoff]; decide)]
      simp only
      rw [getD_of hR]
      simp only
      rw [seqQ_more]
      rfl
    have hlay : D.lay n (s + done.length) (c :: cells) = if (D.write n ((s + done.length : Nat) : Int) c).2 = 0 then Dsk.lay (D.write n ((s + done.length : Nat) : Int) c).1 n (s + done.length + 1) cells else D.write n ((s + done.length : Nat) : Int) c := rfl
    obtain ⟨D1, hD1⟩ : ∃ D1, D1 = D.put n ⟨L, seqQ s (done ++ [c])⟩ := ⟨_, rfl⟩
    rw [← hD1] at hw
    have hreg : D1.regs = D.regs.set n ⟨L, seqQ s (done ++ [c])⟩ := by rw [hD1]; rfl
    have hR1 : D1.regs[n]? = some ⟨L, seqQ s (done ++ [c])⟩ := by rw [hreg, List.getElem?_set_self hn]
    have hq1 : ∀ j r, j ≠ n → D1.regs[j]? = some r → r.queue = [] := fun j r hj hr => by
      rw [hreg, List.getElem?_set_ne (Ne.symm hj)] at hr
      exact hq j r hj hr
    have htl : D1.tl = D.tl := by rw [hD1]; rfl
    rw [hlay, hw]
    by_cases hf : D1.fails n = true
    · rw [if_pos hf]
      rw [if_neg (show ¬ ((D1.tick n).lose D.keep, (11 : Int)).2 = 0 from (by decide : ¬ (11 : Int) = 0))]
      refine ⟨(fun h => by cases h), fun _ => ⟨rfl, rfl, (by rw [← htl]; exact fails_tl hf), fun i => keptB D.keep n i && decide (i < (done ++ [c]).length), ?_⟩⟩
      show ((D1.tick n).lose D.keep).regs = _
      rw [lose_regs (D1.tick n) n ⟨L, seqQ s (done ++ [c])⟩ D.keep (by rw [tick_regs]; exact hR1) (by rw [tick_regs]; exact hq1), tick_regs, hreg, List.set_set, reg_last_seq L s (done ++ [c]) _ (by rw [List.length_append]; simp; omega), wrs_more _ s (done ++ [c]) cells L]
      simp
    · rw [if_neg hf, if_pos rfl]
      have ih := lay_spec n s L cells (done ++ [c]) (D1.tick n) (by rw [tick_off, hD1]; exact hoff) (by rw [tick_regs]; exact hR1) (by rw [tick_regs]; exact hq1) (by rw [List.length_append]; simp; omega)
      simp only [tick_regs, hreg, List.set_set, List.length_append, List.append_assoc, List.length_cons, List.length_nil, Nat.zero_add, List.cons_append, List.nil_append, ← Nat.add_assoc] at ih
      obtain ⟨i1, i2⟩ := ih
      refine ⟨fun h => ?_, fun h => ?_⟩
      · obtain ⟨a, b, d⟩ := i1 h
        exact ⟨a, b, fun h0 => by
          have h1 := tick_le (D := D1) (n := n) (by rw [htl]; exact h0)
          have h2 := d h1.1
          rw [htl] at h1
          exact ⟨h2.1, Int.le_trans h2.2 h1.2⟩⟩
      · obtain ⟨a, b, d, k⟩ := i2 h
        exact ⟨a, b, fun h0 => d (tick_tl0 (by rw [htl]; exact h0)), k⟩
end Go.Proofs.YtldkgfhngonnfaaDoor.S
namespace Go.Proofs.YtldkgfhngonnfaaDoor.S
open Go.RowKit
set_option linter.unusedVariables false
set_option linter.unusedSimpArgs false
def rows (x : Hd) (cs : List Sec) : List ByteArray := hdB x :: cs.map secB
def half (H h : Nat) (cs : List Sec) : List Sec := (cs.drop (h * H)).take H
theorem half_get (H h : Nat) (cs : List Sec) (i : Nat) : (half H h cs)[i]? = if i < H then cs[h * H + i]? else none := by
  unfold half
  rw [List.getElem?_take, List.getElem?_drop]
theorem half_len (H h : Nat) (cs : List Sec) (hh : h ≤ 1) (hl : cs.length = 2 * H) : (half H h cs).length = H := by
  unfold half
  rw [List.length_take, List.length_drop, hl]
  rcases (show h = 0 ∨ h = 1 by omega) with e | e <;> subst e <;> omega
/-- What is written to a half. -/
theorem half_wrs (H h : Nat) (kept : Nat → Bool) (k : Nat) (ys cs : List Sec) (hk : k + ys.length ≤ H) : half H h (wrs kept (h * H + k) ys cs) = wrs kept k ys (half H h cs) := by
  apply List.ext_getElem?
  intro i
  rw [half_get, wrs_get, wrs_get, half_get]
  by_cases hi : i < H
  · rw [if_pos hi, if_pos hi]
    congr 1
    funext v
    rw [show h * H + i - (h * H + k) = i - k by omega]
    by_cases hc : k ≤ i
    · simp [hc]
    · simp [hc]
  · rw [if_neg hi, if_neg hi]; rfl
/-- What is written to the other half. -/
theorem half_far (H h : Nat) (kept : Nat → Bool) (k : Nat) (ys cs : List Sec) (hh : h ≤ 1) (hk : k + ys.length ≤ H) : half H h (wrs kept ((1 - h) * H + k) ys cs) = half H h cs := by
  apply List.ext_getElem?
  intro i
  rw [half_get, half_get]
  by_cases hi : i < H
  · rw [if_pos hi, if_pos hi]
    rcases (show h = 0 ∨ h = 1 by omega) with e | e
    · subst e
      rw [wrs_out _ _ _ _ _ (.inl (by simp; omega))]
    · subst e
      rw [wrs_out _ _ _ _ _ (.inr (by simp; omega))]
  · rw [if_neg hi, if_neg hi]
theorem rows_wrs (kept : Nat → Bool) (k : Nat) (ys : List Sec) (x : Hd) (cs : List Sec) : wrs kept (1 + k) (ys.map secB) (rows x cs) = rows x (wrs kept k ys cs) := by
  unfold rows
  rw [wrs_cons, wrs_map]
theorem rows_head (kept : Nat → Bool) (g h : Nat) (x : Hd) (cs : List Sec) : wrs kept 0 [headB g h] (rows x cs) = rows (if kept 0 = true then some (g, h) else x) cs := by
  apply List.ext_getElem?
  intro i
  rw [wrs_get]
  cases i with
  | zero =>
    unfold rows
    by_cases hk : kept 0 = true
    · simp [hk]; rfl
    · simp [hk]
  | succ i =>
    unfold rows
    rw [List.getElem?_cons_succ, List.getElem?_cons_succ]
    have : (fun v : ByteArray => if 0 ≤ i + 1 ∧ kept (i + 1 - 0) = true then ([headB g h][i + 1 - 0]?).getD v else v) = id := by
      funext v
      split
      · rfl
      · rfl
    rw [this]
    simp
/-- What a region holds: sectors that are cells or noughts, of generations up to B. -/
structure RegC (H B : Nat) (x : Hd) (cs : List Sec) : Prop where
  len : cs.length = 2 * H
  hd : HdOk x
  ok : ∀ s ∈ cs, SecOk s
  gh : hdGen x ≤ B
  gc : ∀ s ∈ cs, Sec.gen s ≤ B
theorem RegC.up {H B B' : Nat} {x : Hd} {cs : List Sec} (h : RegC H B x cs) (hB : B ≤ B') : RegC H B' x cs := ⟨h.len, h.hd, h.ok, Nat.le_trans h.gh hB, fun s hs => Nat.le_trans (h.gc s hs) hB⟩
theorem newest_le {B : Nat} {cs : List Sec} (h : ∀ s ∈ cs, Sec.gen s ≤ B) : newest cs ≤ B := by
  unfold newest
  have : ∀ (l : List Sec) (m : Nat), (∀ s ∈ l, Sec.gen s ≤ B) → m ≤ B → l.foldl (fun m c => max m (Sec.gen c)) m ≤ B := by
    intro l
    induction l with
    | nil => intro m _ hm; exact hm
    | cons a l ih =>
      intro m hl hm
      exact ih _ (fun s hs => hl s (by simp [hs])) (Nat.max_le.2 ⟨hm, hl a (by simp)⟩)
  exact this cs 0 h (Nat.zero_le _)
theorem le_newest {cs : List Sec} {s : Sec} (h : s ∈ cs) : Sec.gen s ≤ newest cs := by
  unfold newest
  have mono : ∀ (l : List Sec) (m : Nat), m ≤ l.foldl (fun m c => max m (Sec.gen c)) m := by
    intro l
    induction l with
    | nil => intro m; exact Nat.le_refl _
    | cons a l ih => intro m; exact Nat.le_trans (Nat.le_max_left _ _) (ih _)
  have : ∀ (l : List Sec) (m : Nat), s ∈ l → Sec.gen s ≤ l.foldl (fun m c => max m (Sec.gen c)) m := by
    intro l
    induction l with
    | nil => intro m h; cases h
    | cons a l ih =>
      intro m h
      rcases List.mem_cons.1 h with rfl | h
      · exact Nat.le_trans (Nat.le_max_right _ _) (mono l _)
      · exact ih _ h
  exact this cs 0 h
theorem wrs_mem {α : Type} {kept : Nat → Bool} {k : Nat} {ys L : List α} {v : α} (h : v ∈ wrs kept k ys L) : v ∈ L ∨ v ∈ ys := by
  obtain ⟨i, hi, rfl⟩ := List.getElem_of_mem h
  have e : (wrs kept k ys L)[i]? = some ((wrs kept k ys L)[i]) := List.getElem?_eq_getElem hi
  generalize (wrs kept k ys L)[i] = v at *
  rw [wrs_get] at e
  cases hL : L[i]? with
  | none => rw [hL] at e; cases e
  | some u =>
    rw [hL] at e
    simp only [Option.map_some, Option.some.injEq] at e
    split at e
    · cases hy : ys[i - k]? with
      | none => rw [hy] at e; exact .inl (by rw [← e]; exact List.mem_of_getElem? hL)
      | some y => rw [hy] at e; exact .inr (by rw [← e]; exact List.mem_of_getElem? hy)
    · exact .inl (by rw [← e]; exact List.mem_of_getElem? hL)
theorem secsOf_ok {g i : Nat} {L : List ByteArray} (hg1 : 1 ≤ g) (hg2 : g < 281474976710656) (hi : i + L.length ≤ 65536) (hL : ∀ c ∈ L, c.size ≤ 55) : ∀ s ∈ secsOf g i L, SecOk s ∧ Sec.gen s = g := by
  intro s hs
  unfold secsOf at hs
  obtain ⟨j, hj, rfl⟩ := List.mem_mapIdx.1 hs
  exact ⟨⟨hg1, hg2, by omega, hL _ (List.getElem_mem _)⟩, rfl⟩
theorem RegC.wrs {H B : Nat} {x : Hd} {cs : List Sec} (h : RegC H B x cs) (kept : Nat → Bool) (k : Nat) (ys : List Sec) (hy : ∀ s ∈ ys, SecOk s ∧ Sec.gen s ≤ B) : RegC H B x (wrs kept k ys cs) :=
  ⟨by rw [wrs_len]; exact h.len, h.hd, fun s hs => (wrs_mem hs).elim (h.ok s) (fun hs => (hy s hs).1), h.gh, fun s hs => (wrs_mem hs).elim (h.gc s) (fun hs => (hy s hs).2)⟩
/-- A stream that stands beside its region. -/
structure Live (H : Nat) (S : Str) (n : Nat) (told : List ByteArray) (x : Hd) (cs : List Sec) : Prop where
  reg : S.reg = n
  size : S.size = H
  ok : S.broken = false
  hh : S.half ≤ 1
  g1 : 1 ≤ S.gen
  data : S.data = frms told
  hd : x = some (S.gen, S.half)
  hlf : Half H S.gen S.data (half H S.half cs)
  body : ∀ b ∈ told, 1 ≤ b.size ∧ b.size ≤ 4096
theorem Live.recs {H : Nat} {S : Str} {n : Nat} {told : List ByteArray} {x : Hd} {cs : List Sec} (h : Live H S n told x cs) : recs H x cs = told := by
  rw [h.hd]
  show framesF (joinF S.gen 0 (half H S.half cs)) 0 = told
  rw [h.hlf.join, h.data, framesF_all told h.body]
theorem cells64 (g i : Nat) (L : List ByteArray) : cellsOf g i L = (secsOf g i L).map secB := (secsOf_B g i L).symm
/-- What Append leaves. -/
theorem app_law {H B n : Nat} {S : Str} {told : List ByteArray} {x : Hd} {cs : List Sec} {D : Dsk} {b : ByteArray} (hH : H ≤ 2000) (hoff : D.off = false) (hR : D.regs[n]? = some ⟨rows x cs, []⟩) (hq : ∀ j r, j ≠ n → D.regs[j]? = some r → r.queue = []) (hc : RegC H B x cs) (hB : B < 281474976710656) (hl : Live H S n told x cs)
    (h1 : 1 ≤ b.size) (h2 : b.size ≤ 4096) (hfit : S.data.size + (frm b).size + 1 ≤ H * 55) :
    ((S.app D (frm b)).2 = 0 → (S.app D (frm b)).1.off = false ∧ (0 ≤ D.tl → 0 ≤ (S.app D (frm b)).1.tl ∧ (S.app D (frm b)).1.tl ≤ D.tl) ∧ ∃ cs', (S.app D (frm b)).1.regs = D.regs.set n ⟨rows x cs', []⟩ ∧ RegC H B x cs' ∧ Live H (S.more (frm b)) n (told ++ [b]) x cs') ∧
    ((S.app D (frm b)).2 = 11 → (S.app D (frm b)).1.off = true ∧ (S.app D (frm b)).1.tl = 0 ∧ D.tl ≠ 0 ∧ ∃ cs', (S.app D (frm b)).1.regs = D.regs.set n ⟨rows x cs', []⟩ ∧ RegC H B x cs' ∧ (recs H x cs' = told ∨ recs H x cs' = told ++ [b])) := by
  have hgB : S.gen ≤ B := by have := hc.gh; rw [hl.hd] at this; exact this
  have hsz : (S.data ++ frm b).size = S.data.size + (frm b).size := ByteArray.size_append
  obtain ⟨last, hlast⟩ : ∃ k, k = S.data.size / 55 := ⟨_, rfl⟩
  have happ : S.app D (frm b) = D.lay n (1 + (S.half * H + last)) ((appSecs S.gen S.data (frm b)).map secB) := by
    unfold Str.app appSecs
    rw [secsOf_B, hl.reg, hl.size, hlast, Nat.add_assoc]
  have hal : (appSecs S.gen S.data (frm b)).length = ((S.data ++ frm b).size - last * 55) / 55 + 1 := by
    unfold appSecs
    rw [secsOf_len, chunks_len _ _ rfl, extract_size, hlast]
  have hroom : last + (appSecs S.gen S.data (frm b)).length ≤ H := by rw [hal]; omega
  have hok : ∀ s ∈ appSecs S.gen S.data (frm b), SecOk s ∧ Sec.gen s = S.gen := secsOf_ok hl.g1 (by omega) (by
    rw [chunks_len _ _ rfl, extract_size]
    omega) (chunks_size _ _ rfl)
  have hlen : (rows x cs).length = 1 + 2 * H := by unfold rows; rw [List.length_cons, List.length_map, hc.len]; omega
  have hhH : S.half * H ≤ H := by
    have := hl.hh
    rcases (show S.half = 0 ∨ S.half = 1 by omega) with e | e <;> rw [e] <;> omega
  have hsp := lay_spec n (1 + (S.half * H + last)) (rows x cs) ((appSecs S.gen S.data (frm b)).map secB) [] D hoff hR hq (by rw [List.length_map, hlen]; simp only [List.length_nil]; omega)
  simp only [List.length_nil, Nat.add_zero, List.nil_append] at hsp
  rw [← happ] at hsp
  simp only [rows_wrs] at hsp
  obtain ⟨s0, s1⟩ := hsp
  refine ⟨fun h => ?_, fun h => ?_⟩
  · obtain ⟨a, c, d⟩ := s0 h
    refine ⟨a, d, _, c, hc.wrs _ _ _ (fun s hs => ⟨(hok s hs).1, by rw [(hok s hs).2]; exact hgB⟩), ?_⟩
    refine ⟨hl.reg, hl.size, hl.ok, hl.hh, hl.g1, ?_, hl.hd, ?_, ?_⟩
    · show S.data ++ frm b = _
      rw [hl.data, frms_app]
      show _ = frms told ++ (frm b ++ ⟨#[]⟩)
      rw [ba_app_nil]
    · show Half H S.gen (S.data ++ frm b) (half H S.half (wrs _ (S.half * H + last) _ cs))
      rw [half_wrs _ _ _ _ _ _ hroom, hlast]
      exact hl.hlf.more (by omega) _ (fun _ => rfl)
    · intro y hy
      rcases List.mem_append.1 hy with hy | hy
      · exact hl.body y hy
      · rw [List.mem_singleton.1 hy]; exact ⟨h1, h2⟩
  · obtain ⟨a, c, d, kept, e⟩ := s1 h
    refine ⟨a, c, d, _, e, hc.wrs _ _ _ (fun s hs => ⟨(hok s hs).1, by rw [(hok s hs).2]; exact hgB⟩), ?_⟩
    obtain ⟨m, m1, m2, m3⟩ := hl.hlf.part (f := frm b) (by omega) kept
    have hr : recs H x (wrs kept (S.half * H + last) (appSecs S.gen S.data (frm b)) cs) = framesF ((frms told ++ frm b).extract 0 m) 0 := by
      rw [hl.hd]
      show framesF (joinF S.gen 0 (half H S.half (wrs _ (S.half * H + last) _ cs))) 0 = _
      rw [half_wrs _ _ _ _ _ _ hroom, hlast, m3, hl.data]
    rw [hr]
    rw [hl.data] at m1 m2
    exact framesF_part told b m hl.body h1 h2 m1 m2
/-- The half that Reset writes, all of it kept. -/
theorem Half.fresh {H g : Nat} {d : ByteArray} {hs : List Sec} (hl : hs.length = H) (hf : d.size + 1 ≤ H * 55) (hg : ∀ s ∈ hs, Sec.gen s < g) (hg1 : 1 ≤ g) (kept : Nat → Bool) (hk : ∀ j, kept j = true) : Half H g d (wrs kept 0 (secsOf g 0 (chunks d)) hs) := by
  have hget : ∀ j, (secsOf g 0 (chunks d))[j]? = if 55 * j ≤ d.size then some (some (g, j, pc d j)) else none := fun j => by
    rw [secsOf_get, chunks_get _ d rfl]
    by_cases h : 55 * j ≤ d.size
    · rw [if_pos h, if_pos h]; simp
    · rw [if_neg h, if_neg h]; rfl
  refine ⟨by rw [wrs_len]; exact hl, hf, fun j hj => ?_, fun j c hj hc => ?_⟩
  · have e := wrs_in kept 0 (secsOf g 0 (chunks d)) hs j _ (by rw [hget, if_pos hj]) (hk _) (by rw [hl]; omega)
    rw [Nat.zero_add] at e
    exact e
  · rw [wrs_get] at hc
    have e : (secsOf g 0 (chunks d))[j - 0]? = none := by rw [hget, if_neg (by omega)]
    rw [e] at hc
    have : (fun v => if 0 ≤ j ∧ kept (j - 0) = true then (none : Option Sec).getD v else v) = (id : Sec → Sec) := by
      funext v; split <;> rfl
    rw [this] at hc
    simp at hc
    exact Nat.ne_of_lt (hg c (List.mem_of_getElem? hc))
theorem half_mem {H h : Nat} {cs : List Sec} {s : Sec} (hs : s ∈ half H h cs) : s ∈ cs := List.mem_of_mem_drop (List.mem_of_mem_take hs)
theorem recs_half {H : Nat} {x : Hd} {cs cs' : List Sec} (h : half H (hdHalf x) cs' = half H (hdHalf x) cs) : recs H x cs' = recs H x cs := by
  match x, h with
  | none, _ => rfl
  | some (g, k), h =>
    show framesF (joinF g 0 (half H k cs')) 0 = framesF (joinF g 0 (half H k cs)) 0
    have h2 : half H k cs' = half H k cs := h
    rw [h2]
/-- What Open's Reset leaves. -/
theorem res_law {H B n : Nat} {x : Hd} {cs : List Sec} {D : Dsk} {rs : List ByteArray} (hH : H ≤ 2000) (hoff : D.off = false) (hR : D.regs[n]? = some ⟨rows x cs, []⟩) (hq : ∀ j r, j ≠ n → D.regs[j]? = some r → r.queue = []) (hc : RegC H B x cs) (hB : B + 1 < 281474976710656) (hrs : rs = recs H x cs) (hfit : (frms rs).size + 1 ≤ H * 55) :
    (((openS n H x cs).res D (frms rs)).2 = 0 → ((openS n H x cs).res D (frms rs)).1.off = false ∧ (0 ≤ D.tl → 0 ≤ ((openS n H x cs).res D (frms rs)).1.tl ∧ ((openS n H x cs).res D (frms rs)).1.tl ≤ D.tl) ∧ ∃ x' cs', ((openS n H x cs).res D (frms rs)).1.regs = D.regs.set n ⟨rows x' cs', []⟩ ∧ RegC H (B + 1) x' cs' ∧ Live H ((openS n H x cs).turn (frms rs)) n rs x' cs') ∧
    (((openS n H x cs).res D (frms rs)).2 = 11 → ((openS n H x cs).res D (frms rs)).1.off = true ∧ ((openS n H x cs).res D (frms rs)).1.tl = 0 ∧ D.tl ≠ 0 ∧ ∃ x' cs', ((openS n H x cs).res D (frms rs)).1.regs = D.regs.set n ⟨rows x' cs', []⟩ ∧ RegC H (B + 1) x' cs' ∧ recs H x' cs' = rs) := by
  obtain ⟨d, hd⟩ : ∃ d, d = frms rs := ⟨_, rfl⟩
  rw [← hd] at hfit ⊢
  obtain ⟨h, hh⟩ : ∃ h, h = hdHalf x := ⟨_, rfl⟩
  obtain ⟨g, hg⟩ : ∃ g, g = max (hdGen x) (newest cs) + 1 := ⟨_, rfl⟩
  have hh1 : h ≤ 1 := by
    rw [hh]
    match x, hc.hd with
    | none, _ => exact Nat.le_refl _
    | some (g, k), hx => exact hx.2.2
  have hnB := newest_le hc.gc
  have hgB : g ≤ B + 1 := by have := hc.gh; omega
  have hbody : ∀ b ∈ rs, 1 ≤ b.size ∧ b.size ≤ 4096 := by rw [hrs]; exact recs_body H x cs
  obtain ⟨ys, hys⟩ : ∃ ys, ys = secsOf g 0 (chunks d) := ⟨_, rfl⟩
  have hyl : ys.length = d.size / 55 + 1 := by rw [hys, secsOf_len, chunks_len _ _ rfl]
  have hyok : ∀ s ∈ ys, SecOk s ∧ Sec.gen s = g := by
    rw [hys]
    exact secsOf_ok (by omega) (by omega) (by rw [chunks_len _ _ rfl]; omega) (chunks_size _ _ rfl)
  have hlen : (rows x cs).length = 1 + 2 * H := by unfold rows; rw [List.length_cons, List.length_map, hc.len]; omega
  have hhH : (1 - h) * H + ys.length ≤ 2 * H := by
    rcases (show h = 0 ∨ h = 1 by omega) with e | e <;> rw [e] <;> omega
  have hn := (List.getElem?_eq_some_iff.1 hR).1
  obtain ⟨P1, hP1⟩ : ∃ P, P = D.lay n (1 + ((1 - h) * H + 0)) (ys.map secB) := ⟨_, rfl⟩
  have hres : (openS n H x cs).res D d = if P1.2 = 0 then P1.1.lay n 0 [headB g (1 - h)] else P1 := by
    unfold Str.res
    rw [show (openS n H x cs).reg = n from rfl, show (openS n H x cs).size = H from rfl, show (openS n H x cs).gen + 1 = g from hg.symm, show (openS n H x cs).half = h from hh.symm, cells64, ← hys]
    rw [Nat.add_zero] at hP1
    rw [← hP1]
    rfl
  have hsp := lay_spec n (1 + ((1 - h) * H + 0)) (rows x cs) (ys.map secB) [] D hoff hR hq (by rw [List.length_map, hlen]; simp only [List.length_nil]; omega)
  simp only [List.length_nil, Nat.add_zero, List.nil_append] at hsp
  rw [Nat.add_zero] at hP1
  rw [← hP1] at hsp
  simp only [rows_wrs] at hsp
  obtain ⟨s0, s1⟩ := hsp
  have hcw : ∀ kept, RegC H (B + 1) x (wrs kept ((1 - h) * H) ys cs) := fun kept => (hc.up (Nat.le_succ B)).wrs kept _ ys (fun s hs => ⟨(hyok s hs).1, by rw [(hyok s hs).2]; exact hgB⟩)
  have hrw : ∀ kept, recs H x (wrs kept ((1 - h) * H) ys cs) = rs := fun kept => by
    rw [hrs]
    apply recs_half
    rw [← hh]
    have := half_far H h kept 0 ys cs hh1 (by omega)
    rw [Nat.add_zero] at this
    exact this
  have hlive : Live H ((openS n H x cs).turn d) n rs (some (g, 1 - h)) (wrs (fun _ => true) ((1 - h) * H) ys cs) := by
    refine ⟨rfl, rfl, rfl, ?_, ?_, hd, ?_, ?_, hbody⟩
    · show 1 - hdHalf x ≤ 1; omega
    · show 1 ≤ max (hdGen x) (newest cs) + 1; omega
    · show some (g, 1 - h) = some (max (hdGen x) (newest cs) + 1, 1 - hdHalf x)
      rw [hg, hh]
    · show Half H (max (hdGen x) (newest cs) + 1) d (half H (1 - hdHalf x) _)
      rw [← hg, ← hh]
      have e := half_wrs H (1 - h) (fun _ => true) 0 ys cs (by omega)
      rw [Nat.add_zero] at e
      rw [e, hys]
      refine Half.fresh (half_len H (1 - h) cs (by omega) hc.len) hfit (fun s hs => ?_) (by omega) _ (fun _ => rfl)
      have := le_newest (half_mem hs)
      omega
  have hck : ∀ kept, RegC H (B + 1) (some (g, 1 - h)) (wrs kept ((1 - h) * H) ys cs) := fun kept => ⟨(hcw kept).len, ⟨by omega, by omega, by omega⟩, (hcw kept).ok, hgB, (hcw kept).gc⟩
  rw [hres]
  by_cases e0 : P1.2 = 0
  · rw [if_pos e0]
    obtain ⟨a, b, c⟩ := s0 e0
    have hR1 : P1.1.regs[n]? = some ⟨rows x (wrs (fun _ => true) ((1 - h) * H) ys cs), []⟩ := by rw [b, List.getElem?_set_self hn]
    have hq1 : ∀ j r, j ≠ n → P1.1.regs[j]? = some r → r.queue = [] := fun j r hj hr => by
      rw [b, List.getElem?_set_ne (Ne.symm hj)] at hr
      exact hq j r hj hr
    have hsp2 := lay_spec n 0 (rows x (wrs (fun _ => true) ((1 - h) * H) ys cs)) [headB g (1 - h)] [] P1.1 a hR1 hq1 (by unfold rows; simp)
    simp only [List.length_nil, Nat.add_zero, List.nil_append] at hsp2
    simp only [rows_head] at hsp2
    rw [b] at hsp2
    simp only [List.set_set] at hsp2
    obtain ⟨t0, t1⟩ := hsp2
    refine ⟨fun hz => ?_, fun hz => ?_⟩
    · obtain ⟨a2, b2, c2⟩ := t0 hz
      exact ⟨a2, fun h0 => ⟨(c2 (c h0).1).1, Int.le_trans (c2 (c h0).1).2 (c h0).2⟩, _, _, b2, hck _, hlive⟩
    · obtain ⟨a2, b2, c2, kept, d2⟩ := t1 hz
      refine ⟨a2, b2, fun h0 => c2 (by have := c (by omega); omega), _, _, d2, ?_, ?_⟩
      · by_cases hk : kept 0 = true
        · rw [if_pos hk]; exact hck _
        · rw [if_neg hk]; exact hcw _
      · by_cases hk : kept 0 = true
        · rw [if_pos hk]; exact hlive.recs
        · rw [if_neg hk]; exact hrw _
  · rw [if_neg e0]
    refine ⟨fun hz => absurd hz e0, fun hz => ?_⟩
    obtain ⟨a, b, c, kept, d⟩ := s1 hz
    exact ⟨a, b, c, _, _, d, hcw _, hrw _⟩
end Go.Proofs.YtldkgfhngonnfaaDoor.S
namespace Go.Proofs.YtldkgfhngonnfaaDoor.S
open Go.RowKit Go.Proofs.YtldkgfhngonnfaaDoor.PTopStreams Go.Proofs.YtldkgfhngonnfaaDoorW.PrintWords Go.Proofs.YtldkgfhngonnfaaDoorW.PrintLast Go.Proofs.YtldkgfhngonnfaaDoorW.PrintMore
set_option linter.unusedVariables false
set_option linter.unusedSimpArgs false
/-- A disk whose regions hold nothing but cells and noughts, and no write that waits. -/
structure Sound (H B : Nat) (D : Dsk) : Prop where
  regs : ∀ (n : Nat) (r : Reg), D.regs[n]? = some r → ∃ x cs, r = ⟨rows x cs, []⟩ ∧ RegC H B x cs
  t0 : 0 ≤ D.tl
  t1 : D.tl ≤ 9223372036854775807
theorem Sound.up {H B B' : Nat} {D : Dsk} (h : Sound H B D) (hB : B ≤ B') : Sound H B' D := ⟨fun n r hr => by
  obtain ⟨x, cs, e, hc⟩ := h.regs n r hr
  exact ⟨x, cs, e, hc.up hB⟩, h.t0, h.t1⟩
theorem Sound.quiet {H B : Nat} {D : Dsk} (h : Sound H B D) (n : Nat) (r : Reg) (hr : D.regs[n]? = some r) : r.queue = [] := by
  obtain ⟨x, cs, rfl, _⟩ := h.regs n r hr
  rfl
theorem Sound.ok {H B : Nat} {D : Dsk} (h : Sound H B D) : D.ok := fun r hr u hu => by
  obtain ⟨n, hn, rfl⟩ := List.getElem_of_mem hr
  rw [h.quiet n _ (List.getElem?_eq_getElem hn)] at hu
  cases hu
theorem Sound.at {H B n : Nat} {D : Dsk} (h : Sound H B D) {x : Hd} {cs : List Sec} (hr : D.regs[n]? = some ⟨rows x cs, []⟩) : ∃ x' cs', rows x cs = rows x' cs' ∧ RegC H B x' cs' := by
  obtain ⟨x', cs', e, hc⟩ := h.regs n _ hr
  injection e with e _
  exact ⟨x', cs', e, hc⟩
theorem rows_len {H B : Nat} {x : Hd} {cs : List Sec} (h : RegC H B x cs) : (rows x cs).length = 1 + 2 * H := by unfold rows; rw [List.length_cons, List.length_map, h.len]; omega
theorem Sound.rdy {H B n : Nat} {D : Dsk} (h : Sound H B D) (hoff : D.off = false) {x : Hd} {cs : List Sec} (hr : D.regs[n]? = some ⟨rows x cs, []⟩) (hc : RegC H B x cs) : Rdy D n (1 + 2 * H) 0 :=
  ⟨h.ok, ⟨_, hr, rows_len hc, rfl⟩, h.t0, h.t1, hoff⟩
theorem Sound.set {H B B' n : Nat} {D D' : Dsk} (h : Sound H B D) (hB : B ≤ B') {x : Hd} {cs : List Sec} (hc : RegC H B' x cs) (he : D'.regs = D.regs.set n ⟨rows x cs, []⟩) (h0 : 0 ≤ D'.tl) (h1 : D'.tl ≤ 9223372036854775807) : Sound H B' D' := ⟨fun m r hr => by
  rw [he] at hr
  by_cases e : n = m
  · subst e
    have hn : n < D.regs.length := by
      have := (List.getElem?_eq_some_iff.1 hr).1
      rwa [List.length_set] at this
    rw [List.getElem?_set_self hn] at hr
    injection hr with hr
    exact ⟨x, cs, hr.symm, hc⟩
  · rw [List.getElem?_set_ne e] at hr
    exact (h.up hB).regs m r hr, h0, h1⟩
theorem frms_len : ∀ (rs : List ByteArray), rs.length ≤ (frms rs).size
  | [] => Nat.zero_le _
  | b :: rs => by
    have := frms_len rs
    rw [show (frms (b :: rs)).size = (frm b).size + (frms rs).size from ByteArray.size_append, frm_size, List.length_cons]
    omega
def OpenR (N : Nat) (W : World) (K : Ad) (D : Dsk) (n H B : Nat) (rs : List ByteArray) (e : Ending) (w' : World) : Prop :=
  ∃ D', IsDisk N w' K D' ∧ Fd K N W w' ∧ Sound H (B + 1) D' ∧ (∀ j, j ≠ n → D'.regs[j]? = D.regs[j]?) ∧
  ((D'.off = false ∧ D'.tl ≤ D.tl ∧ ∃ sb v S x' cs', e = .returned (.tuple #[.pointer (some ⟨sb, 0, none⟩), v, .int .i64 0]) ∧ W.heap.size ≤ sb ∧ IsStr w' sb K.db S ∧ Kd.R Kd.string 9 w' W.heap.size (fun _ => True) v rs ∧ D'.regs[n]? = some ⟨rows x' cs', []⟩ ∧ RegC H (B + 1) x' cs' ∧ Live H S n rs x' cs') ∨
   (D'.off = true ∧ D'.tl = 0 ∧ D.tl ≠ 0 ∧ e = .returned (.tuple #[.pointer none, .slice none 0 0, .int .i64 11]) ∧ ∃ x' cs', D'.regs[n]? = some ⟨rows x' cs', []⟩ ∧ RegC H (B + 1) x' cs' ∧ recs H x' cs' = rs))
theorem open_law (N : Nat) (W : World) (K : Ad) (D : Dsk) (hD : IsDisk N W K D) (hN : N ≤ W.heap.size) (p : Int) (n H B : Nat) (hp : p = (n : Int)) (h1 : 1 ≤ H) (h2 : H ≤ 1000) (hs : Sound H B D) (hoff : D.off = false) (x : Hd) (cs : List Sec) (hr : D.regs[n]? = some ⟨rows x cs, []⟩) (hc : RegC H B x cs) (hB : B + 1 < 281474976710656) (rs : List ByteArray) (hrs : recs H x cs = rs) (hfit : (frms rs).size + 1 ≤ H * 55) :
    Calls Tryd.prog 9 #[.pointer (some ⟨K.db, 0, none⟩), .int .i64 p] W (OpenR N W K D n H B rs) := by
  subst hrs
  have hn := (List.getElem?_eq_some_iff.1 hr).1
  have hg : max (hdGen x) (newest cs) + 1 < 281474976710656 := by
    have := newest_le hc.gc
    have := hc.gh
    omega
  have hl : (recs H x cs).length < 1000000 := by have := frms_len (recs H x cs); omega
  refine (open_calls N W K D hD hN p n hp _ hr H h1 h2 x hc.hd cs hc.ok hc.len rfl rfl (hs.rdy hoff hr hc) hg hfit hl).mono ?_
  obtain ⟨l0, l1⟩ := res_law (rs := recs H x cs) (by omega) hoff hr (fun j r _ hj => hs.quiet j r hj) hc hB rfl hfit
  rintro e w' ⟨a, b, c⟩
  rcases c with ⟨c0, sb, v, c1, c2, c3, c4⟩ | ⟨c0, c1⟩
  · obtain ⟨d0, d1, x', cs', d2, d3, d4⟩ := l0 c0
    have ht := d1 hs.t0
    refine ⟨_, a, b, hs.set (Nat.le_succ B) d3 d2 ht.1 (Int.le_trans ht.2 hs.t1), fun j hj => by rw [d2, List.getElem?_set_ne (Ne.symm hj)], .inl ⟨d0, ht.2, sb, v, _, x', cs', c1, c2, c3, c4, by rw [d2, List.getElem?_set_self hn], d3, d4⟩⟩
  · obtain ⟨d0, d1, d2, x', cs', d3, d4, d5⟩ := l1 c0
    refine ⟨_, a, b, hs.set (Nat.le_succ B) d4 d3 (by omega) (by omega), fun j hj => by rw [d3, List.getElem?_set_ne (Ne.symm hj)], .inr ⟨d0, d1, d2, c1, x', cs', by rw [d3, List.getElem?_set_self hn], d4, d5⟩⟩
def AppR (N : Nat) (W : World) (K : Ad) (D : Dsk) (n H B sb : Nat) (told : List ByteArray) (b : ByteArray) (e : Ending) (w' : World) : Prop :=
  ∃ D', IsDisk N w' K D' ∧ Fs K sb N W w' ∧ Sound H B D' ∧ (∀ j, j ≠ n → D'.regs[j]? = D.regs[j]?) ∧
  ((D'.off = false ∧ D'.tl ≤ D.tl ∧ e = .returned (.int .i64 0) ∧ ∃ S x' cs', IsStr w' sb K.db S ∧ D'.regs[n]? = some ⟨rows x' cs', []⟩ ∧ RegC H B x' cs' ∧ Live H S n (told ++ [b]) x' cs') ∨
   (D'.off = true ∧ D'.tl = 0 ∧ D.tl ≠ 0 ∧ e = .returned (.int .i64 11) ∧ ∃ x' cs', D'.regs[n]? = some ⟨rows x' cs', []⟩ ∧ RegC H B x' cs' ∧ (recs H x' cs' = told ∨ recs H x' cs' = told ++ [b]) ∧ (frms (told ++ [b])).size + 1 ≤ H * 55))
theorem append_law (N : Nat) (W : World) (K : Ad) (D : Dsk) (hD : IsDisk N W K D) (hN : N ≤ W.heap.size) (n H B sb : Nat) (h2 : H ≤ 1000) (hs : Sound H B D) (hoff : D.off = false) (hB : B < 281474976710656) (S : Str) (hS : IsStr W sb K.db S) (hSN : N ≤ sb) (hSf : Free K W sb) (told : List ByteArray) (x : Hd) (cs : List Sec) (hr : D.regs[n]? = some ⟨rows x cs, []⟩) (hc : RegC H B x cs) (hl : Live H S n told x cs)
    (b : ByteArray) (h3 : 1 ≤ b.size) (h4 : b.size ≤ 4096) (hfit : S.data.size + (frm b).size + 1 ≤ H * 55) :
    Calls Tryd.prog 12 #[.pointer (some ⟨sb, 0, none⟩), .string b] W (AppR N W K D n H B sb told b) := by
  have hn := (List.getElem?_eq_some_iff.1 hr).1
  have hgB : S.gen ≤ B := by have := hc.gh; rw [hl.hd] at this; exact this
  refine (append_calls N W K D hD hN sb S hS hSN hSf (1 + 2 * H) (by rw [hl.reg]; exact hs.rdy hoff hr hc) hl.ok (by rw [hl.size]; omega) hl.hh (by rw [hl.size]; omega) (by omega) hl.g1 (by omega) b h3 h4 (by rw [hl.size]; exact hfit)).mono ?_
  obtain ⟨l0, l1⟩ := app_law (by omega) hoff hr (fun j r _ hj => hs.quiet j r hj) hc hB hl h3 h4 hfit
  rintro e w' ⟨rfl, a, q, c⟩
  have happ : (S.app D (frm b)).2 = 0 ∨ (S.app D (frm b)).2 = 11 := lay_err _ _ _ _
  rcases happ with e0 | e0
  · obtain ⟨d0, d1, cs', d2, d3, d4⟩ := l0 e0
    have ht := d1 hs.t0
    rw [if_pos e0] at q
    exact ⟨_, a, c, hs.set (Nat.le_refl B) d3 d2 ht.1 (Int.le_trans ht.2 hs.t1), fun j hj => by rw [d2, List.getElem?_set_ne (Ne.symm hj)], .inl ⟨d0, ht.2, by rw [e0], _, x, cs', q, by rw [d2, List.getElem?_set_self hn], d3, d4⟩⟩
  · obtain ⟨d0, d1, d2, cs', d3, d4, d5⟩ := l1 e0
    refine ⟨_, a, c, hs.set (Nat.le_refl B) d4 d3 (by omega) (by omega), fun j hj => by rw [d3, List.getElem?_set_ne (Ne.symm hj)], .inr ⟨d0, d1, d2, by rw [e0], x, cs', by rw [d3, List.getElem?_set_self hn], d4, d5, ?_⟩⟩
    rw [frms_app, ← hl.data]
    show (S.data ++ (frm _ ++ ⟨#[]⟩)).size + 1 ≤ _
    rw [ba_app_nil, ByteArray.size_append]
    exact hfit
end Go.Proofs.YtldkgfhngonnfaaDoor.S
namespace Go.Proofs.YtldkgfhngonnfaaDoor.S
open Go.RowKit Go.Proofs.YtldkgfhngonnfaaDoor.PTopStreams Go.Proofs.YtldkgfhngonnfaaDoorW.PrintWords Go.Proofs.YtldkgfhngonnfaaDoorW.PrintLast Go.Proofs.YtldkgfhngonnfaaDoorW.PrintMore
set_option linter.unusedVariables false
set_option linter.unusedSimpArgs false
def blank (H : Nat) : List Sec := List.replicate (2 * H) none
theorem freshR_rows (H : Nat) : freshR (1 + 2 * H) = ⟨rows none (blank H), []⟩ := by
  unfold freshR rows blank
  rw [List.map_replicate, Nat.add_comm, List.replicate_succ]
  rfl
theorem blank_reg (H : Nat) : RegC H 0 none (blank H) :=
  ⟨by unfold blank; simp, trivial, fun s hs => by rw [List.eq_of_mem_replicate hs]; trivial, Nat.le_refl _, fun s hs => by rw [List.eq_of_mem_replicate hs]; exact Nat.le_refl _⟩
theorem fresh_sound (H : Nat) (ns : List Nat) (h : ∀ n ∈ ns, n = 1 + 2 * H) : Sound H 0 ⟨ns.map freshR, false, 0, 0, []⟩ := ⟨fun n r hr => by
  have hm := List.mem_of_getElem? hr
  obtain ⟨m, hm2, rfl⟩ := List.mem_map.1 hm
  rw [h m hm2, freshR_rows]
  exact ⟨none, blank H, rfl, blank_reg H⟩, Int.le_refl _, (by decide : (0 : Int) ≤ 9223372036854775807)⟩
theorem lose_quiet {H B : Nat} {D : Dsk} (h : Sound H B D) (ks : List Int) : (D.lose ks).regs = D.regs := by
  apply List.ext_getElem?
  intro j
  show (D.regs.mapIdx _)[j]? = _
  rw [List.getElem?_mapIdx]
  cases e : D.regs[j]? with
  | none => rfl
  | some r => simp [reg_last_quiet r _ (h.quiet j r e)]
/-- Open, the power not failing. -/
theorem open_calm (N : Nat) (W : World) (K : Ad) (D : Dsk) (hD : IsDisk N W K D) (hN : N ≤ W.heap.size) (p : Int) (n H B : Nat) (hp : p = (n : Int)) (h1 : 1 ≤ H) (h2 : H ≤ 1000) (hs : Sound H B D) (hoff : D.off = false) (ht : D.tl = 0) (x : Hd) (cs : List Sec) (hr : D.regs[n]? = some ⟨rows x cs, []⟩) (hc : RegC H B x cs) (hB : B + 1 < 281474976710656) (rs : List ByteArray) (hrs : recs H x cs = rs) (hfit : (frms rs).size + 1 ≤ H * 55) :
    Calls Tryd.prog 9 #[.pointer (some ⟨K.db, 0, none⟩), .int .i64 p] W fun e w' => ∃ D' sb v S x' cs', e = .returned (.tuple #[.pointer (some ⟨sb, 0, none⟩), v, .int .i64 0]) ∧ IsDisk N w' K D' ∧ Fd K N W w' ∧ Sound H (B + 1) D' ∧ D'.off = false ∧ D'.tl = 0 ∧ W.heap.size ≤ sb ∧ IsStr w' sb K.db S ∧ Kd.R Kd.string 9 w' W.heap.size (fun _ => True) v rs ∧ D'.regs[n]? = some ⟨rows x' cs', []⟩ ∧ RegC H (B + 1) x' cs' ∧ Live H S n rs x' cs' := by
  refine (open_law N W K D hD hN p n H B hp h1 h2 hs hoff x cs hr hc hB rs hrs hfit).mono ?_
  rintro e w' ⟨D', a, b, c, _, d⟩
  rcases d with ⟨d0, d1, sb, v, S, x', cs', d2, d3, d4, d5, d6, d7, d8⟩ | ⟨_, _, d, _⟩
  · exact ⟨D', sb, v, S, x', cs', d2, a, b, c, d0, by have := c.t0; omega, d3, d4, d5, d6, d7, d8⟩
  · exact absurd ht d
theorem append_calm (N : Nat) (W : World) (K : Ad) (D : Dsk) (hD : IsDisk N W K D) (hN : N ≤ W.heap.size) (n H B sb : Nat) (h2 : H ≤ 1000) (hs : Sound H B D) (hoff : D.off = false) (ht : D.tl = 0) (hB : B < 281474976710656) (S : Str) (hS : IsStr W sb K.db S) (hSN : N ≤ sb) (hSf : Free K W sb) (told : List ByteArray) (x : Hd) (cs : List Sec) (hr : D.regs[n]? = some ⟨rows x cs, []⟩) (hc : RegC H B x cs) (hl : Live H S n told x cs)
    (b : ByteArray) (h3 : 1 ≤ b.size) (h4 : b.size ≤ 4096) (hfit : S.data.size + (frm b).size + 1 ≤ H * 55) :
    Calls Tryd.prog 12 #[.pointer (some ⟨sb, 0, none⟩), .string b] W fun e w' => ∃ D' S x' cs', e = .returned (.int .i64 0) ∧ IsDisk N w' K D' ∧ Fs K sb N W w' ∧ Sound H B D' ∧ D'.off = false ∧ D'.regs[n]? = some ⟨rows x' cs', []⟩ ∧ RegC H B x' cs' ∧ Live H S n (told ++ [b]) x' cs' := by
  refine (append_law N W K D hD hN n H B sb h2 hs hoff hB S hS hSN hSf told x cs hr hc hl b h3 h4 hfit).mono ?_
  rintro e w' ⟨D', a, q, c, _, d⟩
  rcases d with ⟨d0, d1, d2, S', x', cs', d3, d4, d5, d6⟩ | ⟨_, _, d, _⟩
  · exact ⟨D', S', x', cs', d2, a, q, c, d0, d4, d5, d6⟩
  · exact absurd ht d
def tA : ByteArray := ⟨#[97]⟩
/-- A row of numbers that has just been laid. -/
theorem ints_new (w : World) (xs : List Int) (t : TypeId) (hx : xs.length ≤ 9223372036854775807) : Kd.C (Kd.int .i64) (w.alloc (.cells (xs.map (Value.int .i64)).toArray t)) (some ⟨w.heap.size, 0, none⟩) xs.length xs := by
  apply Kd.C_of_reads (d := 0)
  refine ⟨rfl, hx, fun _ => ⟨_, rfl, fun j hj => ?_⟩⟩
  rw [add_at, blk_cell (blk_new w (.cells (xs.map (Value.int .i64)).toArray t)) j]
  simp [List.getD_eq_getElem?_getD, hj]
set_option maxHeartbeats 1000000 in
set_option maxRecDepth 100000 in
theorem streams_calls (W : World) : Calls Tryd.prog 4 #[] W fun e w' => e = .returned (.bool true) ∧ Below W.heap.size W w' := by
  have hu9 := Tryd.underlying9
  have hu29 := Tryd.underlying29
  obtain ⟨W1, hW1⟩ : ∃ W1, W1 = W.alloc (.cells #[.int .i64 9] 3) := ⟨_, rfl⟩
  have HB1 : Aside0 (Below W.heap.size W W1) := Aside0.mk (by rw [hW1]; exact below_alloc (Below.refl W.heap.size W) _)
  have HNEW : Aside0 (Calls Tryd.prog 5 #[.slice (some ⟨W.heap.size, 0, none⟩) 1 1] W1 fun e W' => ∃ K : Ad, e = .returned (.pointer (some ⟨K.db, 0, none⟩)) ∧ K.ps.length = 1 ∧ IsDisk W1.heap.size W' K ⟨[freshR (1 + 2 * 4)], false, 0, 0, []⟩ ∧ Below W1.heap.size W1 W') := Aside0.mk (by
    have h := new_calls W.heap.size [9] W1 ?_ (by decide) (by decide) (by decide)
    · exact h
    · rw [hW1]
      exact ints_new W [9] 3 (by decide))
  have hs0 : Sound 4 0 ⟨[freshR (1 + 2 * 4)], false, 0, 0, []⟩ := fresh_sound 4 [1 + 2 * 4] (fun n hn => List.mem_singleton.1 hn)
  have hf0 : (⟨[freshR (1 + 2 * 4)], false, 0, 0, []⟩ : Dsk).regs[0]? = some ⟨rows none (blank 4), []⟩ := by rw [← freshR_rows]; rfl
  have HOP : Aside0 (∀ (w : World) (K : Ad), IsDisk W1.heap.size w K ⟨[freshR (1 + 2 * 4)], false, 0, 0, []⟩ → W1.heap.size ≤ w.heap.size → Calls Tryd.prog 9 #[.pointer (some ⟨K.db, 0, none⟩), .int .i64 0] w fun e w' => ∃ D' sb v S x' cs', e = .returned (.tuple #[.pointer (some ⟨sb, 0, none⟩), v, .int .i64 0]) ∧ IsDisk W1.heap.size w' K D' ∧ Fd K W1.heap.size w w' ∧ Sound 4 (0 + 1) D' ∧ D'.off = false ∧ D'.tl = 0 ∧ w.heap.size ≤ sb ∧ IsStr w' sb K.db S ∧ Kd.R Kd.string 9 w' w.heap.size (fun _ => True) v [] ∧ D'.regs[0]? = some ⟨rows x' cs', []⟩ ∧ RegC 4 (0 + 1) x' cs' ∧ Live 4 S 0 [] x' cs') :=
    Aside0.mk (fun w K hd hn => open_calm _ w K _ hd hn 0 0 4 0 rfl (by decide) (by decide) hs0 rfl rfl none (blank 4) hf0 (blank_reg 4) (by decide) [] rfl (by decide))
  have HAP : Aside0 (∀ (w : World) (K : Ad) (D : Dsk) (sb : Nat) (S : Str) (x : Hd) (cs : List Sec), IsDisk W1.heap.size w K D → W1.heap.size ≤ w.heap.size → Sound 4 (0 + 1) D → D.off = false → D.tl = 0 → IsStr w sb K.db S → W1.heap.size ≤ sb → D.regs[0]? = some ⟨rows x cs, []⟩ → RegC 4 (0 + 1) x cs → Live 4 S 0 [] x cs →
      Calls Tryd.prog 12 #[.pointer (some ⟨sb, 0, none⟩), .string tA] w fun e w' => ∃ D' S x' cs', e = .returned (.int .i64 0) ∧ IsDisk W1.heap.size w' K D' ∧ Fs K sb W1.heap.size w w' ∧ Sound 4 (0 + 1) D' ∧ D'.off = false ∧ D'.regs[0]? = some ⟨rows x' cs', []⟩ ∧ RegC 4 (0 + 1) x' cs' ∧ Live 4 S 0 ([] ++ [tA]) x' cs') :=
    Aside0.mk (fun w K D sb S x cs hd hn hs ho ht hS hsb hr hc hl => append_calm _ w K D hd hn 0 4 1 sb (by decide) hs ho ht (by decide) S hS hsb (hd.free hS (by decide) (by decide) (by decide) (by decide)) [] x cs hr hc hl tA (by decide) (by decide) (by rw [hl.data, frm_size]; decide))
  have HCR : Aside0 (∀ (w : World) (K : Ad) (D : Dsk) (x : Hd) (cs : List Sec), IsDisk W1.heap.size w K D → W1.heap.size ≤ w.heap.size → Sound 4 (0 + 1) D → D.off = false →
      Calls Tryd.prog 14 #[.pointer (some ⟨K.db, 0, none⟩), .slice none 0 0] w fun e w' => e = .returned (.tuple #[]) ∧ IsDisk W1.heap.size w' K ⟨D.regs, false, 0, 0, []⟩ ∧ Fd K W1.heap.size w w') :=
    Aside0.mk (fun w K D x cs hd hn hs ho => by
      have h := crash_calls _ w K D hd hs.ok hn ho
      rw [lose_quiet hs] at h
      exact h)
  have HO2 : Aside0 (∀ (w : World) (K : Ad) (D : Dsk) (x : Hd) (cs : List Sec) (S : Str), IsDisk W1.heap.size w K ⟨D.regs, false, 0, 0, []⟩ → W1.heap.size ≤ w.heap.size → Sound 4 (0 + 1) D → D.regs[0]? = some ⟨rows x cs, []⟩ → RegC 4 (0 + 1) x cs → Live 4 S 0 ([] ++ [tA]) x cs → Calls Tryd.prog 9 #[.pointer (some ⟨K.db, 0, none⟩), .int .i64 0] w fun e w' => ∃ v sb, e = .returned (.tuple #[.pointer (some ⟨sb, 0, none⟩), v, .int .i64 0]) ∧ Fd K W1.heap.size w w' ∧ Kd.R Kd.string 9 w' w.heap.size (fun _ => True) v [tA]) :=
    Aside0.mk (fun w K D x cs S hd hn hs hr hc hl => by
      have hs2 : Sound 4 (0 + 1) ⟨D.regs, false, 0, 0, []⟩ := ⟨hs.regs, Int.le_refl _, (by decide : (0 : Int) ≤ 9223372036854775807)⟩
      refine (open_calm _ w K _ hd hn 0 0 4 1 rfl (by decide) (by decide) hs2 rfl rfl x cs hr hc (by decide) [tA] hl.recs (by decide)).mono ?_
      rintro e w' ⟨D', sb, v, S', x', cs', h1, _, h3, _, _, _, _, _, h9, _⟩
      exact ⟨v, sb, h1, h3, h9⟩)
  have HW1 := Aside0.mk hW1.symm
  clear hW1 hs0 hf0
  have htA : tA = ⟨#[97]⟩ := rfl
  go_enter Tryd.func4, Tryd.ntmps4
  go_upto_region 6 with (first
    | (go_at_call 5; rw [HW1.out]; go_loud (refine HNEW.out.mono ?_; rintro e w2 ⟨K, rfl, _, hd, hb⟩; have HD2 := Aside0.mk hd; have HB2 := Aside0.mk (HB1.out.trans (hb.mono HB1.out.size)); have n2 := hb.size; clear hd hb))
    | (go_at_call 9; go_loud (refine (HOP.out w2 K HD2.out n2).mono ?_; rintro e w3 ⟨D3, sb, v3, S3, x3, cs3, rfl, hd, hf, hs, ho, ht, hsb, hS, hv, hr, hc, hl⟩; obtain ⟨A3, c3, rfl⟩ := Kd.R_slice hv; have HD3 := Aside0.mk hd; have HB3 := Aside0.mk (HB2.out.trans (hf.below.mono HB1.out.size)); have n3 := Nat.le_trans n2 hf.size; have HL3 := Aside0.mk (HAP.out w3 K D3 sb S3 x3 cs3 hd n3 hs ho ht hS (Nat.le_trans n2 hsb) hr hc hl); clear hd hf hs ho ht hsb hS hv hr hc hl))
    | (go_at_call 12; go_loud (refine HL3.out.mono ?_; rintro e w4 ⟨D4, S4, x4, cs4, rfl, hd, hf, hs, ho, hr, hc, hl⟩; have HB4 := Aside0.mk (HB3.out.trans (hf.below.mono HB1.out.size)); have n4 := Nat.le_trans n3 hf.size; have HC4 := Aside0.mk (HCR.out w4 K D4 x4 cs4 hd n4 hs ho); have HO4 := Aside0.mk (fun w (h : IsDisk W1.heap.size w K ⟨D4.regs, false, 0, 0, []⟩) (hn : W1.heap.size ≤ w.heap.size) => HO2.out w K D4 x4 cs4 S4 h hn hs hr hc hl); clear hd hf hs ho hr hc hl))
    | (go_at_call 14; go_loud (refine HC4.out.mono ?_; rintro e w5 ⟨rfl, hd, hf⟩; have HB5 := Aside0.mk (HB4.out.trans (hf.below.mono HB1.out.size)); have n5 := Nat.le_trans n4 hf.size; have HO5 := Aside0.mk (HO4.out w5 hd n5); clear hd hf)))
  go_wp2_with (first
    | (go_at_call 9; go_loud (refine HO5.out.mono ?_; rintro e w6 ⟨v6, sb6, rfl, hf, hv⟩; obtain ⟨A6, c6, rfl⟩ := Kd.R_slice hv; obtain ⟨ad, rfl, hcell⟩ := Kd.at_string (Kd.R_reads' hv).2.2 0 (by decide) (by decide); rw [show rdOf ByteArray.empty [tA] 0 = tA from rfl, show (0 : Int).toNat = 0 from rfl, add0, htA] at hcell; have HB6 := Aside0.mk (HB5.out.trans (hf.below.mono HB1.out.size)); clear hf hv)))
  go_ret
  exact ⟨rfl, HB6.out⟩
end Go.Proofs.YtldkgfhngonnfaaDoor.S
