/- The laws' arguments opened: an item by value, a row of items. No condition. -/
import Derived.Test.YtcnecdlphpkmgaaQMap
import Derived.Test.YtcnecdlphpkmgaaQBase
import Derived.Deep.SlicePairs
import Derived.OpenShut
namespace Go.Proofs.Ytcnecdlphpkmgaa.Q
open Go.ChangeShapes Go.WideShapes Go.RowKit Go.Proofs.YtcnecdlphpkmgaaW.PrintWords
set_option linter.unusedVariables false
set_option linter.unusedSimpArgs false
theorem cells29 : Try.prog.cellsOf 29 = 2 := by kernel_rfl
theorem list2 {α : Type} (l : List α) (h : l.length = 2) : ∃ a b, l = [a, b] := by
  match l, h with
  | [a, b], _ => exact ⟨a, b, rfl⟩
/-- An item by value. -/
theorem open_item {H : Type} {enc : TypeId × Value → H} {W : World} {base b0 : Nat} {spare : Nat → Bool} {held : Bool} {v : Value} {d : DataW H} {p : List MemPlace} (hv : Value.okWide Try.prog W .any base 29 v)
    (h : DataW.Trod enc Try.prog W b0 spare held 29 v d p) : ∃ r nd : Int, v = .agg #[.int .i64 r, .int .i64 nd] ∧ (Lit.int .i64 r).wf = true ∧ (Lit.int .i64 nd).wf = true := by
  obtain ⟨cs, rfl, hsz, _⟩ : ∃ cs, v = .agg cs ∧ cs.size = Try.prog.cellsOf 29 ∧ Row.okWide Try.prog W .any base 29 cs := by
    simpa [Value.okWide, Try.underlying29] using hv
  rw [cells29] at hsz
  obtain ⟨l⟩ := cs
  obtain ⟨c0, c1, rfl⟩ := list2 l (by simpa using hsz)
  obtain ⟨fuel, hf⟩ := h
  obtain ⟨y0, y1, n, _, _, h0, h1⟩ := Go.ChangeShapes.trod_struct2 Try.underlying29 hf
  simp [cells2, cells3, Value.cells] at h0 h1
  obtain ⟨x0, e0, _, w0⟩ := DataW.trod_int Try.underlying2 h0
  obtain ⟨x1, e1, _, w1⟩ := DataW.trod_int Try.underlying3 h1
  simp at e0 e1
  subst e0 e1
  exact ⟨x0, x1, rfl, w0, w1⟩
/-- A row of items. -/
theorem open_items {H : Type} {enc : TypeId × Value → H} {W : World} {b0 : Nat} {spare : Nat → Bool} {held : Bool} {A : Option Addr} {len cap : Nat} {d : DataW H} {p : List MemPlace}
    (h : DataW.Trod enc Try.prog W b0 spare held 22 (.slice A len cap) d p) : ∃ xs : List Item, xs.length = len ∧ Kd.C KI W A len xs ∧ len ≤ cap ∧ ∀ x ∈ xs, wfI x := by
  obtain ⟨fuel, hf⟩ := h
  rcases Go.Deep.open_slice_pairs Try.underlying22 Try.underlying29 (by kernel_rfl) rfl rfl (by kernel_rfl) (by kernel_rfl) hf with ⟨hcs, _⟩ | ⟨a, l, c, m, n, V0, V1, D0, D1, P0, P1, hcs, _, hl, hm, hmm, _, hel⟩
  · simp [Value.cells] at hcs
    obtain ⟨rfl, rfl, rfl⟩ := hcs
    exact ⟨[], rfl, ⟨rfl, by omega, fun h => by omega⟩, Nat.le_refl _, by simp⟩
  · simp [Value.cells] at hcs
    obtain ⟨rfl, rfl, rfl⟩ := hcs
    have hlm : len ≤ m := by rw [hmm]; split <;> omega
    have each : ∀ i, i < m → ∃ x : Item, wfI x ∧ W.cell? (a.add (i * 2)) = some (.int .i64 x.1) ∧ W.cell? (a.add (i * 2 + 1)) = some (.int .i64 x.2) := fun i hi => by
      obtain ⟨h1, h2, h3, h4⟩ := hel i hi
      obtain ⟨x0, e0, _, w0⟩ := DataW.trod_int Try.underlying2 h3
      obtain ⟨x1, e1, _, w1⟩ := DataW.trod_int Try.underlying3 h4
      simp at e0 e1
      rw [e0] at h1; rw [e1] at h2
      exact ⟨(x0, x1), ⟨w0, w1⟩, h1, h2⟩
    obtain ⟨f, hf2⟩ := Go.Deep.choose_lt each
    refine ⟨(List.range len).map f, by simp, ⟨by simp, by have : maxLen = 9223372036854775807 := rfl; omega, fun _ => ⟨a, rfl, fun j x hj => ?_⟩⟩, hl, fun x hx => ?_⟩
    · rw [List.getElem?_map] at hj
      obtain ⟨k, hk, rfl⟩ := Option.map_eq_some_iff.1 hj
      obtain ⟨hk1, hk2⟩ := List.getElem?_eq_some_iff.1 hk
      simp at hk1 hk2
      subst hk2
      obtain ⟨_, h1, h2⟩ := hf2 j (by omega)
      refine ⟨[.int .i64 (f j).1, .int .i64 (f j).2], rfl, ⟨[.int .i64 (f j).1], [.int .i64 (f j).2], rfl, rfl, rfl⟩, fun i u hu => ?_⟩
      match i, hu with
      | 0, hu => cases hu; exact h1
      | 1, hu => cases hu; exact h2
    · obtain ⟨k, hk, rfl⟩ := List.mem_map.1 hx
      exact (hf2 k (by have := List.mem_range.1 hk; omega)).1
end Go.Proofs.Ytcnecdlphpkmgaa.Q
