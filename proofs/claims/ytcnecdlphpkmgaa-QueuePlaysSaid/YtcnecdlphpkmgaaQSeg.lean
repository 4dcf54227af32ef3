/- Writes into a row of items: one element, and clear. No condition beyond numbers being numbers of 64 bits. -/
import Derived.Test.YtcnecdlphpkmgaaQFunc
import Derived.Test.YtcnecdlphpkmgaaWQPut
namespace Go.Proofs.Ytcnecdlphpkmgaa.Q
open Go.RowKit Go.Proofs.YtcnecdlphpkmgaaW.PrintWords Go.Proofs.YtcnecdlphpkmgaaW.PrintLast Go.Proofs.YtcnecdlphpkmgaaW.PrintMore
set_option linter.unusedVariables false
set_option linter.unusedSimpArgs false

theorem q_elem2 {w : World} {N g o n c : Nat} {ok : Nat → Prop} {L : List Item} (h : KI.Q 31 w N ok (.slice (some ⟨g, o, none⟩) n c) L) (i : Nat) (hi : i < n) :
    w.cell? ⟨g, o + i * 2, none⟩ = some (.int .i64 (L.getD i (0, 0)).1) ∧ w.cell? ⟨g, o + i * 2 + 1, none⟩ = some (.int .i64 (L.getD i (0, 0)).2) ∧ w.frozen? ⟨g, o + i * 2, none⟩ = false ∧ w.frozen? ⟨g, o + i * 2 + 1, none⟩ = false := by
  obtain ⟨cs, hl, hM, hc, hf⟩ := Kd.Q_elem h (0, 0) (i : Int) (by omega) (by omega)
  obtain ⟨_, _, rfl, rfl, rfl⟩ := hM
  exact ⟨hc 0 _ rfl, hc 1 _ rfl, hf 0, hf 1⟩
theorem q_set2 {w : World} {N g o n c : Nat} {ok : Nat → Prop} {L : List Item} (h : KI.Q 31 w N ok (.slice (some ⟨g, o, none⟩) n c) L) (i : Nat) (hi : i < n) (x : Item) :
    KI.Q 31 ((w.setCell ⟨g, o + i * 2, none⟩ (.int .i64 x.1)).setCell ⟨g, o + i * 2 + 1, none⟩ (.int .i64 x.2)) N ok (.slice (some ⟨g, o, none⟩) n c) (L.set i x) ∧
    w.grownBy ((w.setCell ⟨g, o + i * 2, none⟩ (.int .i64 x.1)).setCell ⟨g, o + i * 2 + 1, none⟩ (.int .i64 x.2)) (some g) := by
  obtain ⟨cs, hl, hM, hc, hf⟩ := Kd.Q_elem h (0, 0) (i : Int) (by omega) (by omega)
  have := Kd.Q_seg h (i : Int) (by omega) (by omega) (c := cs) (seg := [.int .i64 x.1, .int .i64 x.2]) (j := 0) (x' := x) (okp := fun _ => False) hl hc (by simp; decide) (by
    have : cs.drop 2 = [] := List.drop_eq_nil_of_le (by rw [hl]; decide)
    simp [this]
    exact ⟨[.int .i64 x.1], [.int .i64 x.2], rfl, rfl, rfl⟩) (fun _ hk => hk.elim)
  exact this
theorem zeroI (w : World) : (zeroValue 31).run Try.prog w = .ok (.agg #[.int .i64 0, .int .i64 0]) w := by kernel_rfl
theorem clear2 (w : World) (g o n c : Nat) (ty : TypeId) (hn : 0 < n) (hc : ∀ j, j < n * 2 → (w.cell? ⟨g, o + j, none⟩).isSome = true) (hf : ∀ j, j < n * 2 → w.frozen? ⟨g, o + j, none⟩ = false) :
    (Builtin.clear_ #[32] ty #[.slice (some ⟨g, o, none⟩) n c]).run Try.prog w = .ok (.tuple #[]) (w.setCells g o (List.replicate (n * 2) (.int .i64 0))) := by
  have hzc : (Builtin.zeroCells (Value.agg #[.int .i64 0, .int .i64 0]).cells n).toList = List.replicate (n * 2) (.int .i64 0) := by
    simp [Builtin.zeroCells, Value.cells]
    apply List.ext_getElem
    · simp
    · intro i h1 h2
      have : i % 2 = 0 ∨ i % 2 = 1 := by omega
      rcases this with h | h <;> simp [h]
  have hst := Go.run_storeCells_cells (P := Try.prog) g o (List.replicate (n * 2) (.int .i64 0)) 0 w (by simpa using hc) (by simpa using hf) (by intro v hv'; rw [List.eq_of_mem_replicate hv']; rfl)
  simp only [Nat.add_zero] at hst
  obtain ⟨m, rfl⟩ : ∃ m, n = m + 1 := ⟨n - 1, by omega⟩
  simp [Builtin.clear_, run_underlying Try.underlying32, zeroI, hzc, hst]
/-- What clear leaves of the elements ahead. -/
theorem q_clear {w : World} {N g o n c : Nat} {ok : Nat → Prop} {L : List Item} (h : KI.Q 31 w N ok (.slice (some ⟨g, o, none⟩) n c) L) (i : Nat) (hi : i < n) (c' : Nat) (ty : TypeId) :
    (Builtin.clear_ #[32] ty #[.slice (some ⟨g, o + i * 2, none⟩) (n - i) c']).run Try.prog w = .ok (.tuple #[]) (w.setCells g (o + i * 2) (List.replicate ((n - i) * 2) (.int .i64 0))) ∧
    KI.Q 31 (w.setCells g (o + i * 2) (List.replicate ((n - i) * 2) (.int .i64 0))) N ok (.slice (some ⟨g, o, none⟩) i c) (L.take i) ∧
    w.grownBy (w.setCells g (o + i * 2) (List.replicate ((n - i) * 2) (.int .i64 0))) (some g) := by
  obtain ⟨hn, hnc, _⟩ := Kd.Q_reads' h
  have hT := Kd.Q_take h (m := i) (by omega)
  obtain ⟨hok, inner, ho, hr⟩ := h
  have hsz : KI.sz = 2 := rfl
  obtain ⟨ho1, ho2⟩ := ho
  rcases ho2 with ⟨hz, _⟩ | ⟨g', off, cap', cur, hv, hb, hh, hnc', hcm, hcs, ht⟩
  · omega
  injection hv with ha _ hcc
  injection ha with ha
  injection ha with hg hoff
  subst hg; subst hcc; subst hoff
  rw [hsz] at *
  have hsz : KI.sz = 2 := rfl
  have hcell : ∀ j, j < (n - i) * 2 → (w.cell? ⟨g, off * 2 + i * 2 + j, none⟩).isSome = true := fun j hj => by
    rw [blk_cell hh]
    rw [Array.getElem?_eq_getElem (by omega)]
    rfl
  obtain ⟨s1, s2, s3, s4⟩ := setCells_same g (List.replicate ((n - i) * 2) (.int .i64 0)) (off * 2 + i * 2) w
  refine ⟨clear2 w g (off * 2 + i * 2) (n - i) c' ty (by omega) hcell (fun j _ => blk_frozen hh _), ?_, ⟨s1, s2, s3, by rw [s4]; exact Nat.le_refl _, fun k _ hk => setCells_far _ _ k (fun he => hk (by rw [he]))⟩⟩
  obtain ⟨cur', h3, h4, h5⟩ := setCells_row (List.replicate ((n - i) * 2) (.int .i64 0)) (off * 2 + i * 2) w cur hh (by simp; omega)
  have hlt : (L.take i).length = i := by rw [List.length_take]; omega
  have hin : inner.length = n * 2 := by rw [hr.1, ← hn]
  refine ⟨fun k hk => hok k (by simpa [Value.ownBlock] using hk), inner.take (i * 2), ⟨by rw [List.length_take, hlt, hin]; show _ = i * 2; omega, .inr ⟨g, off, c, cur', by rw [hlt]; rfl, hb, h3, by rw [hlt]; omega, hcm, by rw [h4, hcs]; rfl, ?_⟩⟩, ?_⟩
  · rw [hlt, ← ht, ← hn, List.take_take, h5]
    show ((_ : List Value).drop (off * 2)).take (i * 2) = _
    apply List.ext_getElem?
    intro q
    have hcl : cur.toList.length = (off + c) * 2 := by rw [Array.length_toList, hcs]
    simp only [List.getElem?_take, List.getElem?_drop]
    by_cases hq : q < i * 2
    · rw [if_pos hq, if_pos (by omega), List.append_assoc, List.getElem?_append_left (by rw [List.length_take]; omega), List.getElem?_take, if_pos (by omega)]
    · rw [if_neg hq, if_neg (by omega)]
  · have := Kd.reps_take hr (m := i) (by omega)
    exact this
end Go.Proofs.Ytcnecdlphpkmgaa.Q
