/- The walk of RoleNames: it returns true for every op and every name, given that the table 'names' holds its ten names. -/
import Derived.Test.YtiifihionnholaaDoorRows
import Derived.Test.YtiifihionnholaaDoorPRoleNamesx1
import Derived.Laws.World
namespace Go.Proofs.YtiifihionnholaaDoor.MineN
open Go.RowKit Go.Proofs.YtiifihionnholaaDoor.PRoleNames Go.Proofs.YtiifihionnholaaDoorW.PrintWords Go.Proofs.YtiifihionnholaaDoorW.PrintLast Go.Proofs.YtiifihionnholaaDoorW.PrintMore
attribute [local go_sem] max2_int min2_int
set_option linter.unusedVariables false

def names : List ByteArray := [⟨#[113, 117, 101, 114, 121]⟩, ⟨#[112, 111, 108, 108]⟩, ⟨#[99, 111, 109, 112, 108, 101, 116, 101]⟩, ⟨#[115, 116, 97, 114, 116]⟩, ⟨#[100, 101, 102, 105, 110, 101]⟩, ⟨#[109, 105, 110, 116]⟩, ⟨#[97, 115, 115, 105, 103, 110]⟩, ⟨#[114, 101, 118, 111, 107, 101]⟩, ⟨#[103, 114, 97, 110, 116]⟩, ⟨#[117, 110, 103, 114, 97, 110, 116]⟩]
/-- The table 'names' holds its names. -/
def Nms (w : World) : Prop := ∀ i : Nat, i < 10 → w.cell? ⟨1, i, none⟩ = some (.string (names.getD i ByteArray.empty))
theorem Nms.below {w w' : World} (h : Nms w) (hb : Below w.heap.size w w') : Nms w' := fun i hi => by
  have h0 : 1 < w.heap.size := World.block_lt_of_cell? _ _ (h i hi)
  exact (hb.cell (p := ⟨1, i, none⟩) h0).trans (h i hi)
theorem below_of_drawn {w w' : World} (h : Drawn0 w w') : Below w.heap.size w w' := by obtain ⟨n, rfl⟩ := h; exact pw_below_drewN (Below.refl _ _) n

def nameI (o : Int) : ByteArray := if 0 ≤ o ∧ o < 10 then names.getD o.toNat ByteArray.empty else ⟨#[]⟩
theorem refName (o : Int) : precinctref10_Name.f o = some (nameI o) := by
  by_cases h : 0 ≤ o ∧ o < 10
  · have ho : o = 0 ∨ o = 1 ∨ o = 2 ∨ o = 3 ∨ o = 4 ∨ o = 5 ∨ o = 6 ∨ o = 7 ∨ o = 8 ∨ o = 9 := by omega
    rcases ho with rfl | rfl | rfl | rfl | rfl | rfl | rfl | rfl | rfl | rfl <;> rfl
  · unfold precinctref10_Name.f nameI
    rw [if_neg h, if_neg (by omega), if_neg (by omega), if_neg (by omega), if_neg (by omega), if_neg (by omega), if_neg (by omega), if_neg (by omega), if_neg (by omega), if_neg (by omega), if_neg (by omega)]

/-- Index over the names, and the reference's Find. -/
theorem find_loop (s : ByteArray) (d : Nat) : ∀ (k i : Nat), i ≤ 10 → 10 - i = d → d < k →
    ∃ r : Int, slices_Index_string_string.l0 k names s 10 (i : Int) = some r ∧ -1 ≤ r ∧ r ≤ 10 ∧ precinctref10_Find.l0 k s (i : Int) = some (if 0 ≤ r then r else 0, decide (0 ≤ r)) := by
  induction d with
  | zero =>
    intro k i h1 hd hk
    obtain ⟨k, rfl⟩ : ∃ m, k = m + 1 := ⟨k - 1, by omega⟩
    refine ⟨-1, ?_, by omega, by omega, ?_⟩
    · simp only [slices_Index_string_string.l0]; rw [if_neg (by omega)]
    · simp only [precinctref10_Find.l0]; rw [if_neg (by omega)]; rfl
  | succ d ih =>
    intro k i h1 hd hk
    obtain ⟨k, rfl⟩ : ∃ m, k = m + 1 := ⟨k - 1, by omega⟩
    have e : wrap64 ((i : Int) + 1) = ((i + 1 : Nat) : Int) := by unfold wrap64; omega
    have hn : nameI (i : Int) = rdOf ByteArray.empty names (i : Int) := by
      unfold nameI rdOf
      rw [if_pos (by omega)]
    have hl : (names.length : Int) = 10 := rfl
    have e1 : slices_Index_string_string.l0 (k + 1) names s 10 (i : Int) = if s.toList = (rdOf ByteArray.empty names (i : Int)).toList then some (i : Int) else slices_Index_string_string.l0 k names s 10 ((i + 1 : Nat) : Int) := by
      simp only [slices_Index_string_string.l0]
      rw [if_pos (show (i : Int) < 10 by omega), if_pos (show (0 : Int) ≤ (i : Int) by omega), hl, if_pos (show (i : Int) < 10 by omega), e]
    have e2 : precinctref10_Find.l0 (k + 1) s (i : Int) = if (rdOf ByteArray.empty names (i : Int)).toList = s.toList then some ((i : Int), true) else precinctref10_Find.l0 k s ((i + 1 : Nat) : Int) := by
      simp only [precinctref10_Find.l0]
      rw [if_pos (show (i : Int) < 10 by omega), refName, e, hn]; rfl
    rw [e1, e2]
    by_cases c : s.toList = (rdOf ByteArray.empty names (i : Int)).toList
    · refine ⟨(i : Int), if_pos c, by omega, by omega, ?_⟩
      rw [if_pos c.symm, if_pos (show (0 : Int) ≤ (i : Int) by omega), decide_eq_true (show (0 : Int) ≤ (i : Int) by omega)]
    · obtain ⟨r, g1, g2, g3, g4⟩ := ih k (i + 1) (by omega) (by omega) (by omega)
      refine ⟨r, ?_, g2, g3, ?_⟩
      · rw [if_neg c]; exact g1
      · rw [if_neg (fun h => c h.symm)]; exact g4
theorem find_same (s : ByteArray) : ∃ r : Int, slices_Index_string_string.f 11 names s = some r ∧ -1 ≤ r ∧ r ≤ 10 ∧ precinctref10_Find.f 11 s = some (if 0 ≤ r then r else 0, decide (0 ≤ r)) :=
  find_loop s 10 11 0 (by omega) (by omega) (by omega)

set_option maxRecDepth 100000 in
theorem name_any (o : Int) (w : World) (hc : Nms w) : Calls Tryd.prog 15 #[.int .i64 o] w fun e w' => e = .returned (.string (nameI o)) ∧ w = w' := by
  by_cases h0 : 0 ≤ o
  · by_cases h1 : o < 10
    · have hcell : w.cell? ⟨1, o.toNat, none⟩ = some (.string (nameI o)) := by
        rw [hc o.toNat (by omega)]; unfold nameI; rw [if_pos ⟨h0, h1⟩]
      generalize nameI o = s at hcell
      go_enter Tryd.func15, Tryd.ntmps15
      go_wp2
      go_ret
      exact ⟨rfl, rfl⟩
    · have e : nameI o = ⟨#[]⟩ := by unfold nameI; rw [if_neg (by omega)]
      rw [e]
      go_enter Tryd.func15, Tryd.ntmps15
      go_wp2
      go_ret
      exact ⟨rfl, rfl⟩
  · have e : nameI o = ⟨#[]⟩ := by unfold nameI; rw [if_neg (by omega)]
    rw [e]
    go_enter Tryd.func15, Tryd.ntmps15
    go_wp2
    go_ret
    exact ⟨rfl, rfl⟩

theorem names_C (w : World) (hc : Nms w) : Kd.C Kd.string w (some ⟨1, 0, none⟩) names.length names :=
  Kd.C_of_reads (enc := Value.string) (d := ByteArray.empty) (h1 := fun _ => rfl) ⟨rfl, by decide, fun _ => ⟨_, rfl, fun j hj => by
    have := hc j hj
    have ha : (⟨1, 0, none⟩ : Addr).add j = ⟨1, j, none⟩ := by
      simp only [Addr.add]
      split
      · rename_i h0; subst h0; rfl
      · simp
    rw [ha]; exact this⟩⟩
theorem index_any (s : ByteArray) (r : Int) (w : World) (hc : Nms w) (h : slices_Index_string_string.f 11 names s = some r) :
    Calls Tryd.prog 17 #[.slice (some ⟨1, 0, none⟩) 10 10, .string s] w fun e w' => e = .returned (.int .i64 r) ∧ Drawn0 w w' :=
  slices_Index_string_string.calls 11 (some ⟨1, 0, none⟩) 10 names s r w (names_C w hc) (by decide) h

set_option maxRecDepth 100000 in
theorem find_any (s : ByteArray) (r : Int) (w : World) (hc : Nms w) (h : slices_Index_string_string.f 11 names s = some r) (h0 : -1 ≤ r) (h1 : r ≤ 10) :
    Calls Tryd.prog 13 #[.string s] w fun e w' => e = .returned (.tuple #[.int .i64 (if 0 ≤ r then r else 0), .bool (decide (0 ≤ r))]) ∧ Below w.heap.size w w' := by
  have H : Aside0 (slices_Index_string_string.f 11 names s = some r) := Aside0.mk h
  clear h
  by_cases hr : 0 ≤ r
  · rw [if_pos hr, decide_eq_true hr]
    have hx : (if 0 < r then r else 0) = r := by split <;> omega
    go_enter Tryd.func13, Tryd.ntmps13
    go_wp2_with (go_at_call 17; refine (index_any s r _ hc H.out).mono ?_; rintro e w' ⟨rfl, hd⟩; have hb := below_of_drawn hd; clear hd)
    go_ret2
    exact ⟨rfl, by assumption⟩
  · rw [if_neg hr, decide_eq_false hr]
    have hx : (if 0 < r then r else 0) = 0 := by split <;> omega
    have hr0 : decide (0 ≤ r) = false := decide_eq_false hr
    go_enter Tryd.func13, Tryd.ntmps13
    go_wp2_with (go_at_call 17; refine (index_any s r _ hc H.out).mono ?_; rintro e w' ⟨rfl, hd⟩; have hb := below_of_drawn hd; clear hd)
    go_ret2
    exact ⟨rfl, by assumption⟩

set_option maxHeartbeats 1000000 in
set_option maxRecDepth 100000 in
theorem names_walk (o : Int) (s : ByteArray) (w : World) (hc : Nms w) : Calls Tryd.prog 6 #[.int .i64 o, .string s] w fun e w' => e = .returned (.bool true) ∧ Below w.heap.size w w' := by
  obtain ⟨r, g1, g2, g3, g4⟩ := find_same s
  have G1 := Aside0.mk g1
  have G4 := Aside0.mk g4
  clear g1 g4
  generalize hq : (if 0 ≤ r then r else 0) = q at G4
  have HB : Aside0 (Below w.heap.size w w) := Aside0.mk (Below.refl _ _)
  have t1 : nameI 1 = ⟨#[112, 111, 108, 108]⟩ := rfl
  have hf : ∀ W, Nms W → Calls Tryd.prog 13 #[.string s] W fun e w' => e = .returned (.tuple #[.int .i64 q, .bool (decide (0 ≤ r))]) ∧ Below W.heap.size W w' := fun W hW => by rw [← hq]; exact find_any s r W hW G1.out g2 g3
  have HF := Aside0.mk hf
  clear hf hq
  generalize decide (0 ≤ r) = b at G4 HF
  go_enter Tryd.func6, Tryd.ntmps6
  go_wp2_with (first
    | (go_at_call 13; refine (HF.out _ (hc.below HB.out)).mono ?_; rintro e w' ⟨rfl, hb⟩; have n0 := Aside0.mk (below_step HB.out hb); clear HB hb; have HB := n0; clear n0)
    | (go_at_call 14; refine (precinctref10_Find.calls 11 s q b _ G4.out).mono ?_; rintro e w' ⟨rfl, hd⟩; have n0 := Aside0.mk (below_step HB.out (below_of_drawn hd)); clear HB hd; have HB := n0; clear n0)
    | (go_at_call 15; refine (name_any _ _ (hc.below HB.out)).mono ?_; rintro e w' ⟨rfl, rfl⟩)
    | (go_at_call 16; refine (precinctref10_Name.calls o _ _ (refName o)).mono ?_; rintro e w' ⟨rfl, hd⟩; have n0 := Aside0.mk (below_step HB.out (below_of_drawn hd)); clear HB hd; have HB := n0; clear n0))
  go_ret
  exact ⟨by simp, HB.out⟩
end Go.Proofs.YtiifihionnholaaDoor.MineN
