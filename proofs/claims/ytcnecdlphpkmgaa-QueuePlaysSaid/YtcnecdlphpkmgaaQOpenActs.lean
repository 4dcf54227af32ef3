/- QueuePlays' rows of calls opened. No condition. -/
import Derived.Test.YtcnecdlphpkmgaaQOpen
namespace Go.Proofs.Ytcnecdlphpkmgaa.Q
open Go.ChangeShapes Go.WideShapes Go.RowKit Go.Proofs.YtcnecdlphpkmgaaW.PrintWords
set_option linter.unusedVariables false
set_option linter.unusedSimpArgs false
/-- A call: what is done, with which item. -/
abbrev ActT := Int × Item
def KAct : Kd ActT := Kd.pair (Kd.int .i64) KI
theorem cells44 : Try.prog.cellsOf 44 = 3 := by kernel_rfl
theorem list3 {α : Type} (l : List α) (h : l.length = 3) : ∃ a b c, l = [a, b, c] := by
  match l, h with
  | [a, b, c], _ => exact ⟨a, b, c, rfl⟩
/-- A row of calls. -/
theorem open_acts {H : Type} {enc : TypeId × Value → H} {W : World} {b0 : Nat} {spare : Nat → Bool} {held : Bool} {A : Option Addr} {len cap : Nat} {d : DataW H} {p : List MemPlace}
    (h : DataW.Trod enc Try.prog W b0 spare held 36 (.slice A len cap) d p) : ∃ xs : List ActT, xs.length = len ∧ Kd.C KAct W A len xs ∧ len ≤ cap ∧ ∀ x ∈ xs, wfI x.2 := by
  obtain ⟨fuel, hf⟩ := h
  rcases Go.Deep.open_slice Try.underlying36 hf with ⟨hcs, _⟩ | ⟨a, l, c, m, n, D, Pl, hcs, _, hl, hm, hmm, _, hel⟩
  · simp [Value.cells] at hcs
    obtain ⟨rfl, rfl, rfl⟩ := hcs
    exact ⟨[], rfl, ⟨rfl, by omega, fun h => by omega⟩, Nat.le_refl _, by simp⟩
  · simp [Value.cells] at hcs
    obtain ⟨rfl, rfl, rfl⟩ := hcs
    have hlm : len ≤ m := by rw [hmm]; split <;> omega
    have each : ∀ i, i < m → ∃ x : ActT, wfI x.2 ∧ W.cell? (a.add (i * 3)) = some (.int .i64 x.1) ∧ W.cell? (a.add (i * 3 + 1)) = some (.int .i64 x.2.1) ∧ W.cell? (a.add (i * 3 + 2)) = some (.int .i64 x.2.2) := fun i hi => by
      obtain ⟨cs', h1, h2⟩ := hel i hi
      rw [cells44] at h1
      obtain ⟨_, hlen, hcell⟩ := World.cells?_some h1
      obtain ⟨c0, c1, c2, rfl⟩ := list3 cs' hlen
      obtain ⟨y0, y1, k, _, _, g0, g1⟩ := Go.ChangeShapes.trod_struct2 Try.underlying44 h2
      obtain ⟨z0, z1, k2, _, _, g2, g3⟩ := Go.ChangeShapes.trod_struct2 Try.underlying29 g1
      simp [cells2, cells3, cells29] at g0 g2 g3
      obtain ⟨x0, e0, _, w0⟩ := DataW.trod_int Try.underlying3 g0
      obtain ⟨x1, e1, _, w1⟩ := DataW.trod_int Try.underlying2 g2
      obtain ⟨x2, e2, _, w2⟩ := DataW.trod_int Try.underlying3 g3
      simp at e0 e1 e2
      subst e0 e1 e2
      have f0 := hcell 0 (by omega)
      have f1 := hcell 1 (by omega)
      have f2 := hcell 2 (by omega)
      rw [add_add] at f0 f1 f2
      exact ⟨(x0, x1, x2), ⟨w1, w2⟩, by simpa using f0, by simpa using f1, by simpa using f2⟩
    obtain ⟨f, hf2⟩ := Go.Deep.choose_lt each
    refine ⟨(List.range len).map f, by simp, ⟨by simp, by have : maxLen = 9223372036854775807 := rfl; omega, fun _ => ⟨a, rfl, fun j x hj => ?_⟩⟩, hl, fun x hx => ?_⟩
    · rw [List.getElem?_map] at hj
      obtain ⟨k, hk, rfl⟩ := Option.map_eq_some_iff.1 hj
      obtain ⟨hk1, hk2⟩ := List.getElem?_eq_some_iff.1 hk
      simp at hk1 hk2
      subst hk2
      obtain ⟨_, h1, h2, h3⟩ := hf2 j (by omega)
      refine ⟨[.int .i64 (f j).1, .int .i64 (f j).2.1, .int .i64 (f j).2.2], rfl, ⟨[.int .i64 (f j).1], [.int .i64 (f j).2.1, .int .i64 (f j).2.2], rfl, rfl, [.int .i64 (f j).2.1], [.int .i64 (f j).2.2], rfl, rfl, rfl⟩, fun i u hu => ?_⟩
      match i, hu with
      | 0, hu => cases hu; exact h1
      | 1, hu => cases hu; exact h2
      | 2, hu => cases hu; exact h3
    · obtain ⟨k, hk, rfl⟩ := List.mem_map.1 hx
      exact (hf2 k (by have := List.mem_range.1 hk; omega)).1
theorem at_Act {w : World} {A : Option Addr} {n : Nat} {xs : List ActT} (h : Kd.C KAct w A n xs) (p : Int) (h0 : 0 ≤ p) (h1 : p < n) :
    ∃ ad, A = some ad ∧ w.cell? (ad.add (p.toNat * 3)) = some (.int .i64 (xs.getD p.toNat (0, 0, 0)).1) ∧ w.cell? ⟨(ad.add (p.toNat * 3)).block, (ad.add (p.toNat * 3)).off + 1, none⟩ = some (.int .i64 (xs.getD p.toNat (0, 0, 0)).2.1) ∧
      w.cell? ⟨(ad.add (p.toNat * 3)).block, (ad.add (p.toNat * 3)).off + 2, none⟩ = some (.int .i64 (xs.getD p.toNat (0, 0, 0)).2.2) := by
  obtain ⟨ad, c, e, _, hK, hc0⟩ := Kd.C_get h (0, 0, 0) p h0 h1
  have hc : ∀ j u, c[j]? = some u → w.cell? (ad.add (p.toNat * 3 + j)) = some u := hc0
  obtain ⟨_, _, rfl, rfl, _, _, rfl, rfl, rfl⟩ := hK
  exact ⟨ad, e, hc 0 _ rfl, by rw [← add_field _ _ 1 (by omega)]; exact hc 1 _ rfl, by rw [← add_field _ _ 2 (by omega)]; exact hc 2 _ rfl⟩
end Go.Proofs.Ytcnecdlphpkmgaa.Q
