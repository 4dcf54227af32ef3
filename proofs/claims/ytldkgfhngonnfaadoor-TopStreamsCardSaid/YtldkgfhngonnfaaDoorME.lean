/- strings.Builder: written, read, its length. area.Join. A region that draws its order: an operation that reads no memory may be taken first, whether or not the store z waits for it. stream.Reset. stream.Open. -/
import Derived.Test.YtldkgfhngonnfaaDoorMD
import Derived.Test.YtldkgfhngonnfaaDoorShelf
import Derived.Test.YtldkgfhngonnfaaDoorMB
namespace Go.Proofs.YtldkgfhngonnfaaDoor.S
open Go.RowKit Go.Proofs.YtldkgfhngonnfaaDoor.PTopStreams Go.Proofs.YtldkgfhngonnfaaDoorW.PrintWords Go.Proofs.YtldkgfhngonnfaaDoorW.PrintLast Go.Proofs.YtldkgfhngonnfaaDoorW.PrintMore
set_option linter.unusedVariables false
set_option linter.unusedSimpArgs false
/-- A builder at b that holds s; what it owns lies from N on. -/
def Bld (N b : Nat) (s : ByteArray) (w : World) : Prop := Lib.IsBuilderF 92 5 N b (Lib.strCells s) w
theorem strCells_len (s : ByteArray) : (Lib.strCells s).length = s.size := by unfold Lib.strCells; rw [List.length_map, Array.length_toList]; rfl
theorem strCells_app (s t : ByteArray) : Lib.strCells (s ++ t) = Lib.strCells s ++ Lib.strCells t := by
  unfold Lib.strCells
  rw [← List.map_append, ← Array.toList_append]
  congr 2
  exact ByteArray.data_append
theorem strCells_byte (s : ByteArray) : Lib.strCells s = Lib.byteCells s.data.toList := rfl
theorem Bld.parts {N b : Nat} {s : ByteArray} {w : World} (h : Bld N b s w) : ∃ p v, N ≤ b ∧ w.heap[b]? = some (.cells #[p, v] 92 (0, 0)) := by
  rcases h with ⟨h1, v, h2, _⟩ | ⟨h1, v, h2, _⟩
  · exact ⟨_, v, h1, h2⟩
  · exact ⟨_, v, h1, h2⟩
theorem Bld.lt {N b : Nat} {s : ByteArray} {w : World} (h : Bld N b s w) : b < w.heap.size := by
  obtain ⟨_, _, _, h2⟩ := h.parts
  exact blk_lt h2
/-- What a call on a builder leaves as it was. -/
def Ok5 (b : Nat) (w w' : World) : Prop := ∀ k cs t fr, k ≠ b → t ≠ 5 → w.heap[k]? = some (.cells cs t fr) → w'.heap[k]? = some (.cells cs t fr)
theorem ok5_of {b : Nat} {w w' : World} (h : Lib.OthersKept 5 (some b) w w') : Ok5 b w w' := fun k cs t fr hk ht hc =>
  h k _ hc (fun e => hk (by injection e)) (fun c fz e => ht (by injection e))
theorem wstr_calls (N b : Nat) (s t : ByteArray) (w : World) (h : Bld N b s w) (hl : s.size + t.size ≤ 140737488355328) (hN : N ≤ w.heap.size) :
    Calls Tryd.prog 42 #[.pointer (some ⟨b, 0, none⟩), .string t] w fun e w' => e = .returned (.tuple #[.int .i64 t.size, .nilIface]) ∧ Bld N b (s ++ t) w' ∧ Below N w w' ∧ Ok5 b w w' := by
  refine (Any.Builder_WriteString_k { Tryd.lays105 with } Tryd.Builder_Extra_105 N b (Lib.strCells s) t w h (by rw [strCells_len]; exact hl) hN).mono ?_
  rintro e w' ⟨rfl, h1, h2, h3⟩
  exact ⟨rfl, .inr (by rw [strCells_app]; exact h1), h2, ok5_of h3⟩
theorem bstr_calls (N b : Nat) (s : ByteArray) (w : World) (h : Bld N b s w) (hN : N ≤ w.heap.size) :
    Calls Tryd.prog 43 #[.pointer (some ⟨b, 0, none⟩)] w fun e w' => e = .returned (.string s) ∧ Bld N b s w' ∧ Below N w w' ∧ Ok5 b w w' := by
  refine (Tryd.Builder_String_any_k N b s.data.toList w h hN).mono ?_
  rintro e w' ⟨rfl, h1, h2, h3⟩
  exact ⟨rfl, h1, h2, ok5_of h3⟩
theorem blen_calls (N b : Nat) (s : ByteArray) (w : World) (h : Bld N b s w) :
    Calls Tryd.prog 44 #[.pointer (some ⟨b, 0, none⟩)] w fun e w' => e = .returned (.int .i64 s.size) ∧ w = w' := by
  refine (Any.Builder_Len_f Tryd.lays170 N b (Lib.strCells s) w h).mono ?_
  rintro e w' ⟨rfl, rfl⟩
  exact ⟨by rw [strCells_len], rfl⟩
/-- A builder that has just been laid. -/
theorem Bld.fresh {N : Nat} (w : World) (hN : N ≤ w.heap.size) : Bld N w.heap.size ⟨#[]⟩ (w.alloc (.cells #[.pointer none, .slice none 0 0] 92)) := by
  refine .inl ⟨hN, .slice none 0 0, blk_new w _, ?_, by simp [Value.ownBlock]⟩
  exact World.ownsRowF_nil _ _ _ _
/-- A builder stands where its two blocks stand. -/
theorem Bld.keep {N b : Nat} {s : ByteArray} {w w' : World} (h : Bld N b s w) (hk : ∀ k cs t fr, N ≤ k → w.heap[k]? = some (.cells cs t fr) → (t = 92 ∨ t = 5) → w'.heap[k]? = w.heap[k]?) : Bld N b s w' := by
  have go : ∀ p, Lib.BuilderAtF 92 5 N b p (Lib.strCells s) w → Lib.BuilderAtF 92 5 N b p (Lib.strCells s) w' := by
    rintro p ⟨h1, v, h2, ⟨h3, h4⟩, h5⟩
    refine ⟨h1, v, (hk b _ _ _ h1 h2 (.inl rfl)).trans h2, ⟨h3, ?_⟩, h5⟩
    rcases h4 with h4 | ⟨g, cap, cur, fz, hv, hb, hg, rest⟩
    · exact .inl h4
    · exact .inr ⟨g, cap, cur, fz, hv, hb, (hk g _ _ _ hb hg (.inr rfl)).trans hg, rest⟩
  rcases h with h | h
  · exact .inl (go _ h)
  · exact .inr (go _ h)
theorem Bld.below {N b : Nat} {s : ByteArray} {w w' : World} (h : Bld N b s w) (hb : Below w.heap.size w w') : Bld N b s w' :=
  h.keep (fun k cs t fr _ hk _ => hb.block k (blk_lt hk))
end Go.Proofs.YtldkgfhngonnfaaDoor.S
namespace Go.Proofs.YtldkgfhngonnfaaDoor.S
open Go.RowKit Go.Proofs.YtldkgfhngonnfaaDoor.PTopStreams Go.Proofs.YtldkgfhngonnfaaDoorW.PrintWords Go.Proofs.YtldkgfhngonnfaaDoorW.PrintLast Go.Proofs.YtldkgfhngonnfaaDoorW.PrintMore
set_option linter.unusedVariables false
set_option linter.unusedSimpArgs false
/-- Is a sector the i-th cell of a generation? -/
def Sec.isAt (x : Sec) (g i : Nat) : Prop := x.isSome = true ∧ Sec.gen x = g ∧ Sec.idx x = i
instance (x : Sec) (g i : Nat) : Decidable (Sec.isAt x g i) := by unfold Sec.isAt; infer_instance
/-- The data that sectors hold together. -/
def joinF (g : Nat) : Nat → List Sec → ByteArray
  | _, [] => ⟨#[]⟩
  | i, c :: cs => if Sec.isAt c g i then (if (Sec.data c).size < 55 then Sec.data c else Sec.data c ++ joinF g (i + 1) cs) else ⟨#[]⟩
theorem joinF_drop (g i : Nat) (cs : List Sec) (x : Sec) (h : cs[i]? = some x) : joinF g i (cs.drop i) = if Sec.isAt x g i then (if (Sec.data x).size < 55 then Sec.data x else Sec.data x ++ joinF g (i + 1) (cs.drop (i + 1))) else ⟨#[]⟩ := by
  obtain ⟨hi, he⟩ := List.getElem?_eq_some_iff.1 h
  rw [List.drop_eq_getElem_cons hi, he]
  rfl
theorem ba_app_nil (a : ByteArray) : a ++ (⟨#[]⟩ : ByteArray) = a := by
  apply ByteArray.ext
  rw [ByteArray.data_append]
  simp
theorem ba_nil_app (a : ByteArray) : (⟨#[]⟩ : ByteArray) ++ a = a := by
  apply ByteArray.ext
  rw [ByteArray.data_append]
  simp
theorem data_size (x : Sec) (hx : SecOk x) : (Sec.data x).size ≤ 55 := by
  match x, hx with
  | none, _ => exact Nat.zero_le _
  | some (g, i, d), hx => exact hx.2.2.2
set_option maxHeartbeats 2000000 in
set_option maxRecDepth 100000 in
theorem join_calls (cs : List Sec) (hcs : ∀ x ∈ cs, SecOk x) (hl : cs.length < 1000000) (g : Nat) (gi : Int) (hgi : gi = (g : Int)) (A : Option Addr) (c : Nat) (W : World) (hA : Kd.C Kd.string W A cs.length (cs.map secB)) : Calls Tryd.prog 25 #[.slice A cs.length c, .int .i64 gi] W fun e w' => e = .returned (.string (joinF g 0 cs)) ∧ Below W.heap.size W w' := by
  have hu94 := Tryd.underlying94
  have hu9 := Tryd.underlying9
  have HC := Aside0.mk hA
  have HB0 := Aside0.mk (below_alloc (Below.refl W.heap.size W) (.cells #[.pointer none, .slice none 0 0] 92))
  have HL0 := Aside0.mk (Bld.fresh (N := W.heap.size) W (Nat.le_refl _))
  have HK := Aside0.mk hcs
  have HG := Aside0.mk hgi
  obtain ⟨out, hout⟩ : ∃ o, o = joinF g 0 cs := ⟨_, rfl⟩
  rw [← hout]
  have HO := Aside0.mk hout
  clear hA hcs hgi hout
  go_enter Tryd.func25, Tryd.ntmps25
  go_wp2
  go_loopw [12] (fun v12 wr => ∃ (p : Int) (i : Nat) (acc : ByteArray), v12 = .int .i64 p ∧ Aside0 (p = (i : Int)) ∧ i ≤ cs.length ∧ Aside0 (acc.size ≤ i * 55) ∧ Aside0 (out = acc ++ joinF g i (cs.drop i)) ∧ Aside0 (Bld W.heap.size W.heap.size acc wr) ∧ Aside0 (Below W.heap.size W wr)) (fun v12 _ => cs.length - (intOf v12).toNat)
  case atStart => exact ⟨0, 0, ⟨#[]⟩, rfl, Aside0.mk rfl, Nat.zero_le _, Aside0.mk (Nat.zero_le _), Aside0.mk (by rw [HO.out, ba_nil_app]; rfl), HL0, HB0⟩
  case round =>
    clear HB0 HL0
    obtain ⟨p, i, acc, rfl, HP, hi, HS, HE, HL, HB⟩ := hrel
    by_cases hin : i < cs.length
    · have hlt : decide (p < (cs.length : Int)) = true := decide_eq_true (by rw [HP.out]; omega)
      have hp0 : 0 ≤ p := by rw [HP.out]; omega
      have hp1 : p < (cs.length : Int) := by rw [HP.out]; omega
      obtain ⟨x, hx⟩ : ∃ x, cs[i]? = some x := ⟨_, List.getElem?_eq_getElem hin⟩
      have hok := HK.out x (List.mem_of_getElem? hx)
      have hpi : p.toNat = i := by rw [HP.out]; rfl
      have HPC := Aside0.mk (fun w => parse_calls x hok w)
      have HJ := Aside0.mk (joinF_drop g i cs x hx)
      have hds := data_size x hok
      obtain ⟨ad, hA, hcell⟩ := Kd.at_string (Kd.C_below HC.out HB.out) p hp0 hp1
      have hrd : rdOf ByteArray.empty (cs.map secB) p = secB x := by unfold rdOf; rw [hpi]; simp [List.getD_eq_getElem?_getD, hx]
      rw [hrd] at hcell
      subst hA
      clear hrd hpi hx hok
      generalize secB x = s at *
      obtain ⟨gx, hgx⟩ : ∃ y : Int, y = (Sec.gen x : Int) := ⟨_, rfl⟩
      obtain ⟨ix, hix⟩ : ∃ y : Int, y = (Sec.idx x : Int) := ⟨_, rfl⟩
      obtain ⟨dx, hdx⟩ : ∃ y, y = Sec.data x := ⟨_, rfl⟩
      obtain ⟨b, hb⟩ : ∃ y, y = x.isSome := ⟨_, rfl⟩
      rw [← hgx, ← hix, ← hdx, ← hb] at HPC
      rw [← hdx] at HJ hds
      have HAT : Aside0 (Sec.isAt x g i ↔ b = true ∧ gx = gi ∧ ix = p) := Aside0.mk (by
        unfold Sec.isAt
        rw [← hb, hgx, hix, HG.out, HP.out]
        constructor
        · rintro ⟨h1, h2, h3⟩; exact ⟨h1, by omega, by omega⟩
        · rintro ⟨h1, h2, h3⟩; exact ⟨h1, by omega, by omega⟩)
      have HSZ : Aside0 (acc.size + dx.size ≤ 100000000) := Aside0.mk (by have := HS.out; omega)
      clear hgx hix hdx hb
      by_cases hat : b = true ∧ gx = gi ∧ ix = p
      · obtain ⟨rfl, rfl, rfl⟩ := hat
        replace HJ := Aside0.mk (HE.out.trans (congrArg (acc ++ ·) (HJ.out.trans (if_pos (HAT.out.2 ⟨rfl, rfl, rfl⟩)))))
        by_cases h55 : dx.size < 55
        · have HJ2 : Aside0 (out = acc ++ dx) := Aside0.mk (HJ.out.trans (by rw [if_pos h55]))
          have hd5 : decide ((dx.size : Int) < 55) = true := decide_eq_true (by omega)
          clear HJ HAT HE hds h55
          go_wp2_with (first | (go_at_call 41; go_loud (refine (HPC.out _).mono ?_; rintro e w2 ⟨rfl, hb⟩; have HB2 := Aside0.mk (below_step HB.out hb); have HG2 := Aside0.mk (Nat.lt_of_lt_of_le HL.out.lt hb.size); have HB3 := Aside0.mk (below_step HB2.out (below_alloc (Below.refl w2.heap.size w2) (.cells #[.int .i64 gx, .int .i64 ix, .string dx] 94))); have HL3 := Aside0.mk ((HL.out.below hb).below (below_alloc (Below.refl w2.heap.size w2) (.cells #[.int .i64 gx, .int .i64 ix, .string dx] 94))); clear hb hcell)) | (go_at_call 42; go_loud (refine (wstr_calls _ _ acc dx _ HL3.out (by have := HSZ.out; omega) HB3.out.size).mono ?_; rintro e w4 ⟨rfl, hl4, hb4, ho4⟩; have HL4 := Aside0.mk hl4; have HB4 := Aside0.mk (HB3.out.trans hb4); have y4 : w4.cell? ⟨w2.heap.size, 2, none⟩ = some (.string dx) := (blk_cell (ho4 w2.heap.size _ _ _ (Nat.ne_of_gt HG2.out) (by decide) (blk_new w2 (.cells #[.int .i64 gx, .int .i64 ix, .string dx] 94))) 2).trans rfl; clear hl4 hb4 ho4)) | (go_at_call 43; go_loud (refine (bstr_calls _ _ _ _ HL4.out HB4.out.size).mono ?_; rintro e w5 ⟨rfl, hl5, hb5, _⟩; have HB5 := Aside0.mk (HB4.out.trans hb5); clear hl5 hb5)))
          go_ret
          exact ⟨by rw [HJ2.out]; rfl, HB5.out⟩
        · have HJ2 : Aside0 (out = (acc ++ dx) ++ joinF g (i + 1) (cs.drop (i + 1))) := Aside0.mk (HJ.out.trans (by rw [if_neg h55, ByteArray.append_assoc]))
          have hd5 : decide ((dx.size : Int) < 55) = false := decide_eq_false (by omega)
          have HS2 : Aside0 ((acc ++ dx).size ≤ (i + 1) * 55) := Aside0.mk (by have := HS.out; rw [ByteArray.size_append]; omega)
          clear HJ HAT HE hds h55
          go_wp2_with (first | (go_at_call 41; go_loud (refine (HPC.out _).mono ?_; rintro e w2 ⟨rfl, hb⟩; have HB2 := Aside0.mk (below_step HB.out hb); have HG2 := Aside0.mk (Nat.lt_of_lt_of_le HL.out.lt hb.size); have HB3 := Aside0.mk (below_step HB2.out (below_alloc (Below.refl w2.heap.size w2) (.cells #[.int .i64 gx, .int .i64 ix, .string dx] 94))); have HL3 := Aside0.mk ((HL.out.below hb).below (below_alloc (Below.refl w2.heap.size w2) (.cells #[.int .i64 gx, .int .i64 ix, .string dx] 94))); clear hb hcell)) | (go_at_call 42; go_loud (refine (wstr_calls _ _ acc dx _ HL3.out (by have := HSZ.out; omega) HB3.out.size).mono ?_; rintro e w4 ⟨rfl, hl4, hb4, ho4⟩; have HL4 := Aside0.mk hl4; have HB4 := Aside0.mk (HB3.out.trans hb4); have y4 : w4.cell? ⟨w2.heap.size, 2, none⟩ = some (.string dx) := (blk_cell (ho4 w2.heap.size _ _ _ (Nat.ne_of_gt HG2.out) (by decide) (blk_new w2 (.cells #[.int .i64 gx, .int .i64 ix, .string dx] 94))) 2).trans rfl; clear hl4 hb4 ho4)))
          exact ⟨⟨ix + 1, i + 1, _, rfl, Aside0.mk (by have := HP.out; omega), by omega, HS2, HJ2, HL4, HB4⟩, by have := HP.out; simp [intOf]; omega⟩
      · have HJ2 : Aside0 (out = acc) := Aside0.mk (HE.out.trans (by rw [HJ.out, if_neg (fun h => hat (HAT.out.1 h)), ba_app_nil]))
        clear HJ HAT HE
        cases b
        · clear hat
          go_wp2_with (first | (go_at_call 41; go_loud (refine (HPC.out _).mono ?_; rintro e w2 ⟨rfl, hb⟩; have HB2 := Aside0.mk (below_step HB.out hb); have HG2 := Aside0.mk (Nat.lt_of_lt_of_le HL.out.lt hb.size); have HB3 := Aside0.mk (below_step HB2.out (below_alloc (Below.refl w2.heap.size w2) (.cells #[.int .i64 gx, .int .i64 ix, .string dx] 94))); have HL3 := Aside0.mk ((HL.out.below hb).below (below_alloc (Below.refl w2.heap.size w2) (.cells #[.int .i64 gx, .int .i64 ix, .string dx] 94))); clear hb hcell)) | (go_at_call 43; go_loud (refine (bstr_calls _ _ _ _ HL3.out HB3.out.size).mono ?_; rintro e w5 ⟨rfl, hl5, hb5, _⟩; have HB5 := Aside0.mk (HB3.out.trans hb5); clear hl5 hb5)))
          go_ret
          exact ⟨by rw [HJ2.out]; rfl, HB5.out⟩
        · by_cases hge : gx = gi
          · subst hge
            have hne : (ix != p) = true := by rw [bne_iff_ne]; exact fun h => hat ⟨rfl, rfl, h⟩
            clear hat
            go_wp2_with (first | (go_at_call 41; go_loud (refine (HPC.out _).mono ?_; rintro e w2 ⟨rfl, hb⟩; have HB2 := Aside0.mk (below_step HB.out hb); have HG2 := Aside0.mk (Nat.lt_of_lt_of_le HL.out.lt hb.size); have HB3 := Aside0.mk (below_step HB2.out (below_alloc (Below.refl w2.heap.size w2) (.cells #[.int .i64 gx, .int .i64 ix, .string dx] 94))); have HL3 := Aside0.mk ((HL.out.below hb).below (below_alloc (Below.refl w2.heap.size w2) (.cells #[.int .i64 gx, .int .i64 ix, .string dx] 94))); clear hb hcell)) | (go_at_call 43; go_loud (refine (bstr_calls _ _ _ _ HL3.out HB3.out.size).mono ?_; rintro e w5 ⟨rfl, hl5, hb5, _⟩; have HB5 := Aside0.mk (HB3.out.trans hb5); clear hl5 hb5)))
            go_ret
            exact ⟨by rw [HJ2.out]; rfl, HB5.out⟩
          · have hne : (gx != gi) = true := by rw [bne_iff_ne]; exact hge
            clear hat hge
            go_wp2_with (first | (go_at_call 41; go_loud (refine (HPC.out _).mono ?_; rintro e w2 ⟨rfl, hb⟩; have HB2 := Aside0.mk (below_step HB.out hb); have HG2 := Aside0.mk (Nat.lt_of_lt_of_le HL.out.lt hb.size); have HB3 := Aside0.mk (below_step HB2.out (below_alloc (Below.refl w2.heap.size w2) (.cells #[.int .i64 gx, .int .i64 ix, .string dx] 94))); have HL3 := Aside0.mk ((HL.out.below hb).below (below_alloc (Below.refl w2.heap.size w2) (.cells #[.int .i64 gx, .int .i64 ix, .string dx] 94))); clear hb hcell)) | (go_at_call 43; go_loud (refine (bstr_calls _ _ _ _ HL3.out HB3.out.size).mono ?_; rintro e w5 ⟨rfl, hl5, hb5, _⟩; have HB5 := Aside0.mk (HB3.out.trans hb5); clear hl5 hb5)))
            go_ret
            exact ⟨by rw [HJ2.out]; rfl, HB5.out⟩
    · have hlt : decide (p < (cs.length : Int)) = false := decide_eq_false (by rw [HP.out]; omega)
      have HJ2 : Aside0 (out = acc) := Aside0.mk (by
        obtain rfl : i = cs.length := by omega
        rw [HE.out, List.drop_length]
        exact ba_app_nil _)
      go_wp2_with (first | (go_at_call 43; go_loud (refine (bstr_calls _ _ _ _ HL.out HB.out.size).mono ?_; rintro e w5 ⟨rfl, hl5, hb5, _⟩; have HB5 := Aside0.mk (HB.out.trans hb5); clear hl5 hb5)))
      go_ret
      exact ⟨by rw [HJ2.out]; rfl, HB5.out⟩
end Go.Proofs.YtldkgfhngonnfaaDoor.S
namespace Go.Proofs.YtldkgfhngonnfaaDoor.S
open Go
section
variable {P : Program} {ops : Array Oper} {Q : Exit → Act → World → Prop} {md : Region.Mode} {S : World → Prop} {z : Nat}
theorem wpAnyZ_firstp {i : Nat} {oi : Oper} {v : Value} (hi : ops[i]? = some oi) (hsel : ∀ (j : Nat) (o : Oper) cs b, ops[j]? = some o → o.op ≠ .select cs b)
    (hQ : ∀ c a w, Q (.panic c) (a.put oi.dst v) w → Q (.panic c) a w) :
    ∀ (fuel : Nat) (listed : Array Bool) (a : Act) (w : World),
      (∀ j oj, ops[j]? = some oj → j ≠ i → listed.getD j true = false → (∀ e ∈ oj.after, Region.binds md e = true → e.on ≠ i) → oi.apart ops oj = true) →
      i ∈ Region.ready md ops listed → YieldsIf P ops (fun _ => True) oi v a → (listed.getD z true = false → S w) →
      wpAnyZ P md ops Q S z fuel (listed.setIfInBounds i true) (a.put oi.dst v) w → z ≠ i → wpAnyZ P md ops Q S z (fuel + 1) listed a w := by
  intro fuel
  induction fuel with
  | zero =>
    intro listed a w _ hr hy hS H hzi
    refine ⟨fun h => (by rw [h] at hr; cases hr), fun j hj => ?_⟩
    by_cases hji : j = i
    · subst hji; exact hy.wpOp hi trivial ⟨fun h => hS (by rw [getD_set_ne true (Ne.symm hzi)] at h; exact h), H⟩
    · have := ready_mono hj hji
      rw [H.1] at this
      cases this
  | succ fuel ih =>
    intro listed a w hfree hr hy hS H hzi
    refine ⟨fun h => (by rw [h] at hr; cases hr), fun j hj => ?_⟩
    by_cases hji : j = i
    · subst hji; exact hy.wpOp hi trivial ⟨fun h => hS (by rw [getD_set_ne true (Ne.symm hzi)] at h; exact h), H⟩
    · have h1 := H.2 j (ready_mono hj hji)
      obtain ⟨hjun, oj, hoj, hall⟩ := mem_ready.1 hj
      have hnot : ∀ e ∈ oj.after, Region.binds md e = true → e.on ≠ i := fun e he hb heq => by
        have h1 := hall e he hb
        have h0 := (mem_ready.1 hr).1
        rw [heq] at h1
        rcases Nat.lt_or_ge i listed.size with h' | h'
        · simp [h'] at h0 h1; rw [h0] at h1; cases h1
        · simp [Array.getElem?_eq_none h'] at h1
      have h2 := wpOp_putIf hoj (hfree j oj hoj hji hjun hnot) (fun cs b => hsel i oi cs b hi) (fun cs b => hsel j oj cs b hoj) hQ hy h1
      have hfree' : ∀ k ok, ops[k]? = some ok → k ≠ i → (listed.setIfInBounds j true).getD k true = false →
          (∀ e ∈ ok.after, Region.binds md e = true → e.on ≠ i) → oi.apart ops ok = true := fun k ok hk hki hun hno => by
        refine hfree k ok hk hki ?_ hno
        by_cases hjk : j = k
        · subst hjk; exact hjun
        · rw [getD_set_ne true hjk] at hun; exact hun
      refine wpOp_mono (fun a' w' h3 => ?_) h2
      have hz' : (listed.setIfInBounds j true).getD z true = false → S w' := fun h => h3.2.1 (by
        rw [Array.setIfInBounds_comm _ _ (Ne.symm hji), getD_set_ne true (Ne.symm hzi)]
        exact h)
      exact ⟨hz', ih (listed.setIfInBounds j true) a' w' hfree' (ready_mono hr (Ne.symm hji)) h3.1 hz' (by
        rw [Array.setIfInBounds_comm _ _ hji]
        exact h3.2.2) hzi⟩
theorem wpAnyZ_takep {i : Nat} {oi : Oper} {v : Value} {fuel : Nat} {listed : Array Bool} {a : Act} {w : World} (hi : ops[i]? = some oi)
    (hs : Region.noSelect ops = true) (hf : Region.free md ops listed i = true) (hr : (Region.ready md ops listed).contains i = true) (hzi : z ≠ i)
    (hQ : ∀ c a w, Q (.panic c) (a.put oi.dst v) w → Q (.panic c) a w) (hy : YieldsIf P ops (fun _ => True) oi v a) (hS : listed.getD z true = false → S w)
    (h : wpAnyZ P md ops Q S z fuel (listed.setIfInBounds i true) (a.put oi.dst v) w) : wpAnyZ P md ops Q S z (fuel + 1) listed a w :=
  wpAnyZ_firstp hi (Region.noSelect_spec hs) hQ fuel listed a w (Region.free_spec hi hf) (by simpa using hr) hy hS h hzi
end
end Go.Proofs.YtldkgfhngonnfaaDoor.S
namespace Go.Proofs.YtldkgfhngonnfaaDoor.S
open Go.RowKit Go.Proofs.YtldkgfhngonnfaaDoor.PTopStreams Go.Proofs.YtldkgfhngonnfaaDoorW.PrintWords Go.Proofs.YtldkgfhngonnfaaDoorW.PrintLast Go.Proofs.YtldkgfhngonnfaaDoorW.PrintMore
set_option linter.unusedVariables false
set_option linter.unusedSimpArgs false
/-- The frames of bodies, one behind the other. -/
def frms : List ByteArray → ByteArray
  | [] => ⟨#[]⟩
  | b :: bs => frm b ++ frms bs
theorem frms_app (xs ys : List ByteArray) : frms (xs ++ ys) = frms xs ++ frms ys := by
  induction xs with
  | nil => exact (ba_nil_app _).symm
  | cons x xs ih => show frm x ++ frms (xs ++ ys) = frm x ++ frms xs ++ frms ys; rw [ih, ByteArray.append_assoc]
theorem frms_take (xs : List ByteArray) (i : Nat) (x : ByteArray) (h : xs[i]? = some x) : frms (xs.take (i + 1)) = frms (xs.take i) ++ frm x := by
  rw [List.take_add_one, h, Option.toList_some, frms_app]
  show _ ++ (frm x ++ ⟨#[]⟩) = _
  rw [ba_app_nil]
theorem frms_take_le (xs : List ByteArray) (i : Nat) : (frms (xs.take i)).size ≤ (frms xs).size := by
  conv => rhs; rw [← List.take_append_drop i xs]
  rw [frms_app, ByteArray.size_append]
  omega
/-- What Reset comes to: the disk, the error. -/
def Str.res (S : Str) (D : Dsk) (data : ByteArray) : Dsk × Int :=
  let r1 := D.lay S.reg (1 + (1 - S.half) * S.size) (cellsOf (S.gen + 1) 0 (chunks data))
  if r1.2 = 0 then
    let r2 := r1.1.write S.reg 0 (headB (S.gen + 1) (1 - S.half))
    if r2.2 = 0 then r2.1.flush S.reg else r2
  else r1
def Str.turn (S : Str) (data : ByteArray) : Str := ⟨S.reg, S.size, S.gen + 1, 1 - S.half, data, S.broken⟩
theorem flush_err (D : Dsk) (n : Nat) : (D.flush n).2 = 0 ∨ (D.flush n).2 = 11 := lay_err n [] D 0
theorem Rdy.flush {D : Dsk} {n L q : Nat} (h : Rdy D n L q) (he : (D.flush n).2 = 0) : Rdy (D.flush n).1 n L 0 := by
  obtain ⟨R, hR, hL, hq⟩ := h.reg
  have hlt := (List.getElem?_eq_some_iff.1 hR).1
  unfold Dsk.flush at he ⊢
  simp only [h.on, Bool.false_eq_true, if_false, getD_of hR] at he ⊢
  split at he
  · cases he
  · next hf =>
    rw [if_neg hf]
    have ht := tick_tl D n h.t0 h.t1
    refine ⟨put_ok (tick_ok h.ok _) (fun u hu => (by cases hu)), ⟨R.last fun _ => true, ?_, ?_, rfl⟩, ht.1, ht.2, ?_⟩
    · show ((D.tick n).regs.set n _)[n]? = _
      rw [tick_regs, List.getElem?_set_self hlt]
    · show (lastTo _ R.queue R.lasts _).length = L
      rw [lastTo_len, hL]
    · show (D.tick n).off = false
      rw [tick_off]; exact h.on
theorem Rdy.lay {n L : Nat} : ∀ (cs : List ByteArray) (D : Dsk) (s q : Nat), Rdy D n L q → s + cs.length ≤ L → (D.lay n s cs).2 = 0 → Rdy (D.lay n s cs).1 n L 0
  | [], D, s, q, h, _, he => h.flush he
  | c :: cs, D, s, q, h, hl, he => by
    simp only [Dsk.lay] at he ⊢
    rw [List.length_cons] at hl
    split at he
    · next h0 =>
      rw [if_pos h0]
      exact Rdy.lay cs _ _ _ (h.write s (by omega) (by omega) c h0) (by omega) he
    · next h0 => exact absurd he h0
/-- A block that came later is none of the disk's. -/
theorem free_late2 {K : Ad} {N : Nat} {W w : World} {D : Dsk} (h : IsDisk N W K D) {k : Nat} {cs : Array Value} {t : TypeId} {fr : Nat × Nat} (hk : W.heap.size ≤ k) (hc : w.heap[k]? = some (.cells cs t fr)) (ht : t ≠ 119) : Free K w k := by
  obtain ⟨cr, kv, m1, _⟩ := h.main
  obtain ⟨qs, q1, q2, _⟩ := h.regs
  refine ⟨⟨?_, fun x hx => ?_⟩, fun cs' fr' e => ?_⟩
  · have := blk_lt m1; omega
  · obtain ⟨i, hi, rfl⟩ := List.getElem_of_mem hx
    have hR := q2 i _ _ _ (List.getElem?_eq_getElem hi) (List.getElem?_eq_getElem (by rw [h.len]; exact hi)) (List.getElem?_eq_getElem (by rw [q1]; exact hi))
    obtain ⟨_, cl, k1, k2, _⟩ := hR
    have a : K.ps[i].1 < W.heap.size := blk_lt k1
    have b : K.ps[i].2 < W.heap.size := Kd.R_lt k2 _ rfl
    exact ⟨by omega, by omega⟩
  · rw [hc] at e
    injection e with e
    injection e with _ e _
    exact ht e
theorem free_late {K : Ad} {N : Nat} {W w : World} {D : Dsk} (h : IsDisk N W K D) (hb : Below W.heap.size W w) {k : Nat} {cs : Array Value} {t : TypeId} {fr : Nat × Nat} (hk : W.heap.size ≤ k) (hc : w.heap[k]? = some (.cells cs t fr)) (ht : t ≠ 119) : Free K w k := free_late2 h hk hc ht
theorem Fs.late {K : Ad} {sb N : Nat} {W w1 w2 : World} (h : Fs K sb N W w1) (h2 : Below W.heap.size w1 w2) (hN : N ≤ W.heap.size) : Fs K sb N W w2 :=
  ⟨h.below.trans (h2.mono hN), Nat.le_trans h.size h2.size, fun k hk hf hn => by rw [h2.block k hk, h.keep k hk hf hn]⟩
/-- The disk stands where a builder is read. -/
theorem IsDisk.ok5 {N b : Nat} {w w' : World} {K : Ad} {D : Dsk} (h : IsDisk N w K D) (ho : Ok5 b w w') {cs : Array Value} (hb : w.heap[b]? = some (.cells cs 92 (0, 0))) : IsDisk N w' K D := by
  obtain ⟨cr, kv, m1, m2⟩ := h.main
  obtain ⟨rs, r1, r2⟩ := h.row
  obtain ⟨qs, q1, q2, q3⟩ := h.regs
  have go : ∀ {k : Nat} {cs2 : Array Value} {t : TypeId} {fr : Nat × Nat}, w.heap[k]? = some (.cells cs2 t fr) → t ≠ 92 → t ≠ 5 → w'.heap[k]? = some (.cells cs2 t fr) := fun hk h1 h2 => ho _ _ _ _ (fun e => by
    subst e
    rw [hb] at hk
    injection hk with hk
    injection hk with _ e _
    exact h1 e.symm) h2 hk
  have own : ∀ {α : Type} {d : Kd α} {e : TypeId} {v : Value} {xs : List α}, d.E = [] → d.R e w N (fun _ => True) v xs → e ≠ 92 → e ≠ 5 → d.R e w' N (fun _ => True) v xs := fun hE hR h1 h2 => R_own_step hE hR (fun k hk _ => by
    obtain ⟨cells, hc⟩ := Kd.R_typed hR k hk
    rw [hc]
    exact go hc h1 h2)
  refine ⟨h.ndb, h.nd1, h.nd2, ⟨cr, kv, go m1 (by decide) (by decide), own rfl m2 (by decide) (by decide)⟩, ⟨rs, go r1 (by decide) (by decide), r2⟩, h.len, h.short, ⟨qs, q1, fun i x R q a b c => ?_, q3⟩⟩
  obtain ⟨h0, cl, h1, h2, h3⟩ := q2 i x R q a b c
  exact ⟨h0, cl, go h1 (by decide) (by decide), own rfl h2 (by decide) (by decide), own rfl h3 (by decide) (by decide)⟩
set_option maxHeartbeats 4000000 in
set_option maxRecDepth 100000 in
theorem reset_calls (N : Nat) (W : World) (K : Ad) (D : Dsk) (hD : IsDisk N W K D) (hN : N ≤ W.heap.size) (sb : Nat) (S : Str) (hS : IsStr W sb K.db S) (hSN : N ≤ sb) (hSf : Free K W sb) (L : Nat) (hr : Rdy D S.reg L 0) (hb : S.broken = false) (hsz : S.size ≤ 1000) (hh : S.half ≤ 1) (hL : 1 + 2 * S.size ≤ L) (hL9 : L ≤ 5000) (hg2 : S.gen + 1 < 281474976710656)
    (bs : List ByteArray) (hbs : ∀ b ∈ bs, 1 ≤ b.size ∧ b.size ≤ 4096) (hbl : bs.length < 1000000) (A : Option Addr) (c : Nat) (hA : Kd.C Kd.string W A bs.length bs) (hfit : (frms bs).size + 1 ≤ S.size * 55) :
    Calls Tryd.prog 27 #[.pointer (some ⟨sb, 0, none⟩), .slice A bs.length c] W fun e w' => e = .returned (.int .i64 (S.res D (frms bs)).2) ∧ IsDisk N w' K (S.res D (frms bs)).1 ∧ IsStr w' sb K.db (if (S.res D (frms bs)).2 = 0 then S.turn (frms bs) else S.brk) ∧ Fs K sb N W w' := by
  have hu := Tryd.underlying64
  have hu9 := Tryd.underlying9
  have HM := Aside0.mk (may_calls W sb K.db S hS hb)
  have HI := Aside0.mk hS
  have HC := Aside0.mk hA
  have HBS := Aside0.mk hbs
  obtain ⟨data, hdata⟩ : ∃ d, d = frms bs := ⟨_, rfl⟩
  rw [← hdata] at hfit ⊢
  have HDT := Aside0.mk hdata
  obtain ⟨cs, hcs⟩ : ∃ x, x = cellsOf (S.gen + 1) 0 (chunks data) := ⟨_, rfl⟩
  have hcl : cs.length = data.size / 55 + 1 := by rw [hcs, cellsOf_len, chunks_len _ data rfl]
  have h64 : ∀ x ∈ cs, x.size = 64 := by rw [hcs]; exact cellsOf_size _ _ _ (chunks_size _ data rfl)
  obtain ⟨oh, hoh⟩ : ∃ n, n = 1 - S.half := ⟨_, rfl⟩
  have hroom : 1 + oh * S.size + 0 + cs.length ≤ L := by
    have : oh * S.size ≤ S.size := by
      rcases (show oh = 0 ∨ oh = 1 by omega) with e | e <;> rw [e] <;> omega
    omega
  obtain ⟨gi, hgi⟩ : ∃ x : Int, x = (S.gen : Int) := ⟨_, rfl⟩
  have hg1 : gi + 1 = ((S.gen + 1 : Nat) : Int) := by omega
  obtain ⟨hfi, hhf⟩ : ∃ x : Int, x = (S.half : Int) := ⟨_, rfl⟩
  have hoi : 1 - hfi = (oh : Int) := by omega
  obtain ⟨sr, hsr⟩ : ∃ x : Int, x = (S.reg : Int) := ⟨_, rfl⟩
  obtain ⟨P1, hP1⟩ : ∃ x, x = D.lay S.reg (1 + oh * S.size) cs := ⟨_, rfl⟩
  obtain ⟨P2, hP2⟩ : ∃ x, x = P1.1.write S.reg 0 (headB (S.gen + 1) oh) := ⟨_, rfl⟩
  obtain ⟨P3, hP3⟩ : ∃ x, x = P2.1.flush S.reg := ⟨_, rfl⟩
  have hres : S.res D data = if P1.2 = 0 then (if P2.2 = 0 then P3 else P2) else P1 := by
    unfold Str.res
    rw [hP3, hP2, hP1, hcs, hoh]
  have hper : P1.2 = 0 ∨ P1.2 = 11 := by rw [hP1]; exact lay_err _ _ _ _
  have hper2 : P1.2 = 0 → (P2.2 = 0 ∨ P2.2 = 11) := fun _ => by rw [hP2]; exact write_err _ _ _ _
  have hper3 : P1.2 = 0 → P2.2 = 0 → (P3.2 = 0 ∨ P3.2 = 11) := fun _ _ => by rw [hP3]; exact flush_err _ _
  have hr1 : P1.2 = 0 → Rdy P1.1 S.reg L 0 := fun h => by rw [hP1] at h ⊢; exact Rdy.lay cs D _ 0 hr (by omega) h
  have hr2 : P1.2 = 0 → P2.2 = 0 → Rdy P2.1 S.reg L 1 := fun h h2 => by
    rw [hP2] at h2 ⊢
    exact (hr1 h).write 0 (by omega) (by omega) _ h2
  have HSP := Aside0.mk (fun w => split_calls (S.gen + 1) 0 data (gi + 1) 0 hg1 rfl (by omega) (by omega) (by omega) (by omega) w)
  rw [← hcs] at HSP
  have HLY := Aside0.mk (fun (w : World) (D1 : IsDisk N w K D) (n1 : N ≤ w.heap.size) (s1 : IsStr w sb K.db S) (f1 : Free K w sb) (A : Option Addr) (c : Nat) (ok : Nat → Prop) (k1 : Kd.F Kd.string w ok A cs.length cs) (k2 : ∀ k, ok k → Free K w k) => lay_calls N w K D D1 n1 sb S s1 f1 L hr oh 0 (1 - hfi) 0 hoi rfl (by omega) (by omega) A c cs ok k1 k2 h64 hroom hL9)
  rw [Nat.add_zero, ← hP1] at HLY
  have HHD := Aside0.mk (fun w => head_calls (S.gen + 1) oh (gi + 1) (1 - hfi) hg1 hoi hg2 (by omega) w)
  have HWRT : Aside0 (P1.2 = 0 → ∀ w, IsDisk N w K P1.1 → N ≤ w.heap.size → Calls Tryd.prog 45 #[.pointer (some ⟨K.db, 0, none⟩), .int .i64 sr, .int .i64 0, .string (headB (S.gen + 1) oh)] w fun e w' => e = .returned (.int .i64 P2.2) ∧ IsDisk N w' K P2.1 ∧ Fd K N w w') := Aside0.mk (fun h w hd hn => by
    obtain ⟨R, hR, hRL, hRq⟩ := (hr1 h).reg
    rw [hP2]
    exact write_calls N w K P1.1 hd (hr1 h).ok hn sr S.reg hsr R hR 0 (by omega) (by omega) _ (headB_size _ _) (by omega) (hr1 h).t0 (hr1 h).t1)
  have HFLT : Aside0 (P1.2 = 0 → P2.2 = 0 → ∀ w, IsDisk N w K P2.1 → N ≤ w.heap.size → Calls Tryd.prog 46 #[.pointer (some ⟨K.db, 0, none⟩), .int .i64 sr] w fun e w' => e = .returned (.int .i64 P3.2) ∧ IsDisk N w' K P3.1 ∧ Fd K N w w') := Aside0.mk (fun h h2 w hd hn => by
    obtain ⟨R, hR, hRL, hRq⟩ := (hr2 h h2).reg
    rw [hP3]
    exact flush_calls N w K P2.1 hd (hr2 h h2).ok hn sr S.reg hsr R hR (hr2 h h2).t0 (hr2 h h2).t1)
  obtain ⟨RS, hRS⟩ : ∃ x, x = S.res D data := ⟨_, rfl⟩
  rw [← hRS] at hres ⊢
  obtain ⟨ST, hST⟩ : ∃ s : Str, s = (if RS.2 = 0 then S.turn data else S.brk) := ⟨_, rfl⟩
  rw [← hST]
  have HP1 : Aside0 (∀ w, P1.2 = 11 → IsDisk N w K P1.1 → IsStr w sb K.db S.brk → Fs K sb N W w → (Ending.returned (.int .i64 11) = .returned (.int .i64 RS.2) ∧ IsDisk N w K RS.1 ∧ IsStr w sb K.db ST ∧ Fs K sb N W w)) := Aside0.mk (fun w h hd hs hf => by
    have e : RS = P1 := by rw [hres, if_neg (by rw [h]; decide)]
    rw [e, h]
    exact ⟨rfl, hd, by rw [hST, e, h, if_neg (by decide)]; exact hs, hf⟩)
  have HP2 : Aside0 (∀ w, P1.2 = 0 → P2.2 = 11 → IsDisk N w K P2.1 → IsStr w sb K.db S.brk → Fs K sb N W w → (Ending.returned (.int .i64 11) = .returned (.int .i64 RS.2) ∧ IsDisk N w K RS.1 ∧ IsStr w sb K.db ST ∧ Fs K sb N W w)) := Aside0.mk (fun w h1 h hd hs hf => by
    have e : RS = P2 := by rw [hres, if_pos h1, if_neg (by rw [h]; decide)]
    rw [e, h]
    exact ⟨rfl, hd, by rw [hST, e, h, if_neg (by decide)]; exact hs, hf⟩)
  have HP3 : Aside0 (∀ w, P1.2 = 0 → P2.2 = 0 → P3.2 = 11 → IsDisk N w K P3.1 → IsStr w sb K.db S.brk → Fs K sb N W w → (Ending.returned (.int .i64 11) = .returned (.int .i64 RS.2) ∧ IsDisk N w K RS.1 ∧ IsStr w sb K.db ST ∧ Fs K sb N W w)) := Aside0.mk (fun w h1 h2 h hd hs hf => by
    have e : RS = P3 := by rw [hres, if_pos h1, if_pos h2]
    rw [e, h]
    exact ⟨rfl, hd, by rw [hST, e, h, if_neg (by decide)]; exact hs, hf⟩)
  have HP4 : Aside0 (∀ w, P1.2 = 0 → P2.2 = 0 → P3.2 = 0 → IsDisk N w K P3.1 → IsStr w sb K.db (S.turn data) → Fs K sb N W w → (Ending.returned (.int .i64 0) = .returned (.int .i64 RS.2) ∧ IsDisk N w K RS.1 ∧ IsStr w sb K.db ST ∧ Fs K sb N W w)) := Aside0.mk (fun w h1 h2 h hd hs hf => by
    have e : RS = P3 := by rw [hres, if_pos h1, if_pos h2]
    rw [e, h]
    exact ⟨rfl, hd, by rw [hST, e, h, if_pos rfl]; exact hs, hf⟩)
  have hwg : IntKind.i64.wrap (gi + 1) = gi + 1 := by rw [IntKind.wrap_i64]; omega
  have hq1 : decide ((S.size : Int) * 55 - 1 < (data.size : Int)) = false := decide_eq_false (by omega)
  have hgi0 : 0 ≤ gi := by omega
  have hgi9 : gi < 281474976710655 := by omega
  have hq2 : decide (281474976710655 ≤ gi) = false := decide_eq_false (by omega)
  have hh0 : 0 ≤ hfi := by omega
  have hh1 : hfi ≤ 1 := by omega
  have HNU := Aside0.mk (show S.size ≤ 1000 ∧ data.size ≤ 55000 from ⟨hsz, by omega⟩)
  have HBR := Aside0.mk hb
  have HGI := Aside0.mk hgi
  have HHF := Aside0.mk hhf
  have HSR := Aside0.mk hsr
  have HD := Aside0.mk hD
  have HF := Aside0.mk hSf
  have HN := Aside0.mk (show N ≤ W.heap.size ∧ N ≤ sb from ⟨hN, hSN⟩)
  have HOI := Aside0.mk (show 1 - hfi = ((1 - S.half : Nat) : Int) by rw [hoi, hoh])
  have HG1 := Aside0.mk hg1
  have HB0 := Aside0.mk (below_alloc (Below.refl W.heap.size W) (.cells #[.pointer none, .slice none 0 0] 92))
  have HL0 := Aside0.mk (Bld.fresh (N := W.heap.size) W (Nat.le_refl _))
  clear hS hD hSf hN hSN hr hb hsz hL hL9 hg2 hfit hcl hroom hgi hhf hsr hh hres hP1 hP2 hP3 hr1 hr2 hRS hcs h64 hoh hoi hg1 hdata hA hbs hST
  go_enter Tryd.func27, Tryd.ntmps27
  go_wp2_with (first | (go_at_call 28; go_loud (refine HM.out.mono ?_; rintro e w1 ⟨rfl, rfl⟩)))
  go_loopw [24] (fun v24 wr => ∃ (p : Int) (i : Nat), v24 = .int .i64 p ∧ Aside0 (p = (i : Int)) ∧ i ≤ bs.length ∧ Aside0 (Bld W.heap.size W.heap.size (frms (bs.take i)) wr) ∧ Aside0 (Below W.heap.size W wr)) (fun v24 _ => bs.length - (intOf v24).toNat)
  case atStart => exact ⟨0, 0, rfl, Aside0.mk rfl, Nat.zero_le _, HL0, HB0⟩
  case round =>
    clear HB0 HL0
    obtain ⟨p, i, rfl, HP, hi, HL, HB⟩ := hrel
    by_cases hin : i < bs.length
    · have hlt : decide (p < (bs.length : Int)) = true := decide_eq_true (by rw [HP.out]; omega)
      have hp0 : 0 ≤ p := by rw [HP.out]; omega
      have hp1 : p < (bs.length : Int) := by rw [HP.out]; omega
      obtain ⟨x, hx⟩ : ∃ x, bs[i]? = some x := ⟨_, List.getElem?_eq_getElem hin⟩
      obtain ⟨hx1, hx2⟩ := HBS.out x (List.mem_of_getElem? hx)
      have hpi : p.toNat = i := by rw [HP.out]; rfl
      obtain ⟨ad, hA, hcell⟩ := Kd.at_string (Kd.C_below HC.out HB.out) p hp0 hp1
      have hrd : rdOf ByteArray.empty bs p = x := by unfold rdOf; rw [hpi]; simp [List.getD_eq_getElem?_getD, hx]
      rw [hrd] at hcell
      subst hA
      have HPC := Aside0.mk (fun w => fput_calls x hx1 hx2 w)
      have HT := Aside0.mk (frms_take bs i x hx)
      have HSZ : Aside0 ((frms (bs.take i)).size + (frm x).size ≤ 55000) := Aside0.mk (by
        rw [← ByteArray.size_append, ← HT.out]
        have h1 := frms_take_le bs (i + 1)
        rw [← HDT.out] at h1
        exact Nat.le_trans h1 HNU.out.2)
      clear hrd hpi hx hx1 hx2
      generalize frms (bs.take i) = acc at *
      generalize frm x = f at *
      go_wp2_with (first | (go_at_call 29; go_loud (refine (HPC.out _).mono ?_; rintro e w2 ⟨rfl, hb⟩; have HB3 := Aside0.mk (below_step HB.out hb); have HL3 := Aside0.mk (HL.out.below hb); clear hb hcell)) | (go_at_call 42; go_loud (refine (wstr_calls _ _ acc f _ HL3.out (by have := HSZ.out; omega) HB3.out.size).mono ?_; rintro e w4 ⟨rfl, hl4, hb4, _⟩; have HL4 := Aside0.mk hl4; have HB4 := Aside0.mk (HB3.out.trans hb4); clear hl4 hb4)))
      exact ⟨⟨p + 1, i + 1, rfl, Aside0.mk (by have := HP.out; omega), by omega, by rw [HT.out]; exact HL4, HB4⟩, by have := HP.out; simp [intOf]; omega⟩
    · have hlt : decide (p < (bs.length : Int)) = false := decide_eq_false (by rw [HP.out]; omega)
      have HW0 : Aside0 (Bld W.heap.size W.heap.size data wr) := Aside0.mk (by
        obtain rfl : i = bs.length := by omega
        have h := HL.out
        rw [List.take_length, ← HDT.out] at h
        exact h)
      have HI1 := Aside0.mk (HI.out.below HB.out)
      have HLEN := Aside0.mk (blen_calls _ _ data wr HW0.out)
      have HCAP := Aside0.mk (cap_calls wr sb K.db S HI1.out (by have := HNU.out.1; omega))
      obtain ⟨_, _, _, x3, x4, _, _⟩ := HI1.out.at
      rw [← HGI.out] at x3
      rw [← HHF.out] at x4
      go_upto_region 16 with (first | (go_at_call 44; go_loud (refine HLEN.out.mono ?_; rintro e w1 ⟨rfl, rfl⟩)) | (go_at_call 33; go_loud (refine HCAP.out.mono ?_; rintro e w1 ⟨rfl, rfl⟩)))
      have HB2 := Aside0.mk (below_step HB.out (below_drew1 (Below.refl wr.heap.size wr)))
      have HW2 := Aside0.mk (HW0.out.below (below_drew1 (Below.refl wr.heap.size wr)))
      have HI2 := Aside0.mk (HI1.out.below (below_drew1 (Below.refl wr.heap.size wr)))
      refine wp_region_held_drew (S := fun w => w.cell? ⟨sb, 3, none⟩ = some (.int .i64 gi)) (by kernel_rfl) x3 (fun hHeld => ?_)
      clear x3 x4 HB HL HW0 HI1 HLEN HCAP
      generalize wr.drew = w2 at *
      refine wpAnyH_take (i := 0) (oi := { dst := some 56, op := Op.move (Operand.tmp 0), type := 27, pos := "stream.go:136", after := #[], guard := none }) (v := ?va0) rfl (by kernel_rfl) (by kernel_rfl) (by kernel_rfl) (fun _ _ _ h => h) (Or.inl ⟨by rfl, ?ya0⟩) (by assumption) ?_
      case ya0 => (intro w hSw; (try dsimp only at hSw); go_simp; try with_reducible rfl)
      (try simp only [Act.put, List.setIfInBounds_toArray, List.set_cons_zero, List.set_cons_succ])
      refine wpAnyH_take (i := 1) (oi := { dst := some 57, op := Op.nilCheck (Operand.tmp 56), type := 0, pos := "stream.go:136", after := #[{ on := 0, ground := Ground.data }], guard := none }) (v := ?va1) rfl (by kernel_rfl) (by kernel_rfl) (by kernel_rfl) (fun _ _ _ h => h) (Or.inl ⟨by rfl, ?ya1⟩) (by assumption) ?_
      case ya1 => (intro w hSw; (try dsimp only at hSw); go_simp; try with_reducible rfl)
      (try simp only [Act.put, List.setIfInBounds_toArray, List.set_cons_zero, List.set_cons_succ])
      refine wpAnyH_take (i := 2) (oi := { dst := some 58, op := Op.fieldAddr 64 (Operand.tmp 57) 3, type := 0, pos := "stream.go:136", after := #[{ on := 1, ground := Ground.data }], guard := none }) (v := ?va2) rfl (by kernel_rfl) (by kernel_rfl) (by kernel_rfl) (fun _ _ _ h => h) (Or.inl ⟨by rfl, ?ya2⟩) (by assumption) ?_
      case ya2 => (intro w hSw; (try dsimp only at hSw); go_simp; try with_reducible rfl)
      (try simp only [Act.put, List.setIfInBounds_toArray, List.set_cons_zero, List.set_cons_succ])
      refine wpAnyH_take (i := 3) (oi := { dst := some 59, op := Op.load 2 (Operand.tmp 58), type := 2, pos := "stream.go:136", after := #[{ on := 2, ground := Ground.data }], guard := none }) (v := ?va3) rfl (by kernel_rfl) (by kernel_rfl) (by kernel_rfl) (fun _ _ _ h => h) (Or.inl ⟨by rfl, ?ya3⟩) (by assumption) ?_
      case ya3 => (intro w hSw; (try dsimp only at hSw); go_simp; try with_reducible rfl)
      (try simp only [Act.put, List.setIfInBounds_toArray, List.set_cons_zero, List.set_cons_succ])
      refine wpAnyH_take (i := 4) (oi := { dst := some 60, op := Op.binOp BinOp.add 2 (Operand.tmp 59) (Operand.const (Value.int IntKind.i64 1)) 2, type := 2, pos := "stream.go:136", after := #[{ on := 3, ground := Ground.data }], guard := none }) (v := ?va4) rfl (by kernel_rfl) (by kernel_rfl) (by kernel_rfl) (fun _ _ _ h => h) (Or.inl ⟨by rfl, ?ya4⟩) (by assumption) ?_
      case ya4 => (intro w hSw; (try dsimp only at hSw); go_simp; try with_reducible rfl)
      (try simp only [Act.put, List.setIfInBounds_toArray, List.set_cons_zero, List.set_cons_succ])
      refine wpAnyH_ready (rs := [5]) (by kernel_rfl) (by simp) ?_
      refine AllReadyH.cons (o := { dst := some 61, op := Op.call { callee := Callee.value (Operand.func 43), args := #[Operand.tmp 6], argTypes := #[92] }, type := 9, pos := "stream.go:136", after := #[], guard := none }) rfl (fun KK hK => ?_) AllReadyH.nil
      go_simp
      go_at_call 43
      go_loud (refine (bstr_calls _ _ data w2 HW2.out HB2.out.size).mono ?_; rintro e w3 ⟨rfl, hl3, hb3, _⟩)
      have HW3 := Aside0.mk hl3
      have HB3 := Aside0.mk (HB2.out.trans hb3)
      have HI3 := Aside0.mk (HI.out.below HB3.out)
      clear hl3 hb3
      have k3 : w3.cell? ⟨sb, 3, none⟩ = some (.int .i64 gi) := by rw [HGI.out]; exact HI3.out.at.2.2.2.1
      refine hK.out _ _ k3 (fun hHeld2 => ?_)
      clear hK KK hHeld
      have hHeld := hHeld2
      clear hHeld2
      (try simp only [Act.put, List.setIfInBounds_toArray, List.set_cons_zero, List.set_cons_succ])
      refine wpAnyH_ready (rs := [6]) (by kernel_rfl) (by simp) ?_
      refine AllReadyH.cons (o := { dst := some 62, op := Op.call { callee := Callee.value (Operand.func 30), args := #[Operand.tmp 60, Operand.const (Value.int IntKind.i64 0), Operand.tmp 61], argTypes := #[2, 3, 9] }, type := 61, pos := "stream.go:136", after := #[{ on := 4, ground := Ground.data }, { on := 5, ground := Ground.data }, { on := 5, ground := Ground.chain }], guard := none }) rfl (fun KK hK => ?_) AllReadyH.nil
      go_simp
      go_at_call 30
      go_loud (refine (HSP.out w3).mono ?_; rintro e w5 ⟨v, rfl, hr5, hb5⟩)
      have HW5 := Aside0.mk (HW3.out.below hb5)
      have HI5 := Aside0.mk (HI3.out.below hb5)
      have HB5 := Aside0.mk (below_step HB3.out hb5)
      have HR5 := Aside0.mk hr5
      clear hb5 hr5
      have k5 : w5.cell? ⟨sb, 3, none⟩ = some (.int .i64 gi) := by rw [HGI.out]; exact HI5.out.at.2.2.2.1
      obtain ⟨A5, c5, rfl⟩ := Kd.R_slice HR5.out
      refine hK.out _ _ k5 (fun hHeld2 => ?_)
      clear hK KK hHeld
      have hHeld := hHeld2
      clear hHeld2
      (try simp only [Act.put, List.setIfInBounds_toArray, List.set_cons_zero, List.set_cons_succ])
      refine wpAnyH_ready (rs := [7]) (by kernel_rfl) (by simp) ?_
      refine AllReadyH.cons (o := { dst := some 55, op := Op.move (Operand.tmp 62), type := 61, pos := "stream.go:136", after := #[{ on := 6, ground := Ground.data }], guard := none }) rfl (fun KK hK => ?_) AllReadyH.nil
      go_simp
      refine hK.out _ _ k5 (fun hHeld2 => ?_)
      clear hK KK hHeld
      have hHeld := hHeld2
      clear hHeld2
      (try simp only [Act.put, List.setIfInBounds_toArray, List.set_cons_zero, List.set_cons_succ])
      refine wpAnyH_take (i := 8) (oi := { dst := some 63, op := Op.extract (Operand.tmp 55) 0, type := 29, pos := "stream.go:136", after := #[{ on := 7, ground := Ground.data }], guard := none }) (v := ?va8) rfl (by kernel_rfl) (by kernel_rfl) (by kernel_rfl) (fun _ _ _ h => h) (Or.inl ⟨by rfl, ?ya8⟩) (by assumption) ?_
      case ya8 => (intro w hSw; (try dsimp only at hSw); go_simp; try with_reducible rfl)
      (try simp only [Act.put, List.setIfInBounds_toArray, List.set_cons_zero, List.set_cons_succ])
      refine wpAnyH_take (i := 9) (oi := { dst := some 64, op := Op.extract (Operand.tmp 55) 1, type := 36, pos := "stream.go:136", after := #[{ on := 7, ground := Ground.data }, { on := 10, ground := Ground.gcOnly Departure.lateStores }], guard := none }) (v := ?va9) rfl (by kernel_rfl) (by kernel_rfl) (by kernel_rfl) (fun _ _ _ h => h) (Or.inl ⟨by rfl, ?ya9⟩) (by assumption) ?_
      case ya9 => (intro w hSw; (try dsimp only at hSw); go_simp; try with_reducible rfl)
      (try simp only [Act.put, List.setIfInBounds_toArray, List.set_cons_zero, List.set_cons_succ])
      refine wpAnyH_ready (rs := [10]) (by kernel_rfl) (by simp) ?_
      refine AllReadyH.cons (o := { dst := some 12, op := Op.assign (Operand.tmp 63), type := 29, pos := "stream.go:136", after := #[{ on := 8, ground := Ground.data }, { on := 6, ground := Ground.chain }, { on := 0, ground := Ground.phase }, { on := 1, ground := Ground.phase }, { on := 2, ground := Ground.phase }, { on := 3, ground := Ground.phase }, { on := 4, ground := Ground.phase }, { on := 5, ground := Ground.phase }, { on := 6, ground := Ground.phase }, { on := 7, ground := Ground.phase }, { on := 8, ground := Ground.phase }, { on := 9, ground := Ground.textOnly Departure.lateStores }], guard := none }) rfl (fun KK hK => ?_) AllReadyH.nil
      go_simp
      refine hK.out _ _ k5 (fun hHeld2 => ?_)
      clear hK KK hHeld
      have hHeld := hHeld2
      clear hHeld2
      (try simp only [Act.put, List.setIfInBounds_toArray, List.set_cons_zero, List.set_cons_succ])
      refine wpAnyH_ready (rs := [11]) (by kernel_rfl) (by simp) ?_
      refine AllReadyH.cons (o := { dst := some 13, op := Op.assign (Operand.tmp 64), type := 36, pos := "stream.go:136", after := #[{ on := 9, ground := Ground.data }, { on := 10, ground := Ground.chain }, { on := 0, ground := Ground.phase }, { on := 1, ground := Ground.phase }, { on := 2, ground := Ground.phase }, { on := 3, ground := Ground.phase }, { on := 4, ground := Ground.phase }, { on := 5, ground := Ground.phase }, { on := 6, ground := Ground.phase }, { on := 7, ground := Ground.phase }, { on := 8, ground := Ground.phase }, { on := 9, ground := Ground.phase }, { on := 10, ground := Ground.phase }], guard := none }) rfl (fun KK hK => ?_) AllReadyH.nil
      go_simp
      refine hK.out _ _ k5 (fun hHeld2 => ?_)
      clear hK KK hHeld
      have hHeld := hHeld2
      clear hHeld2
      (try simp only [Act.put, List.setIfInBounds_toArray, List.set_cons_zero, List.set_cons_succ])
      refine wpAnyH_done (by kernel_rfl) ?_ _
      have hfree5 : Free K w5 sb := HF.out.step (HB5.out.block sb (blk_lt HI.out))
      have hn5 : N ≤ w5.heap.size := Nat.le_trans HN.out.1 HB5.out.size
      have HL5 := Aside0.mk (HLY.out w5 (HD.out.below HB5.out) hn5 HI5.out hfree5 A5 c5 _ (F_own HR5.out) (fun k hk => free_own HD.out HB5.out ⟨Nat.le_trans HB3.out.size hk.1, hk.2⟩))
      have H6 : Aside0 (∀ w6, Fd K N w5 w6 → IsStr w6 sb K.db S ∧ N ≤ w6.heap.size ∧ W.heap.size ≤ w6.heap.size ∧ Fs K sb N W w6 ∧ Free K w6 sb ∧ Bld W.heap.size W.heap.size data w6) := Aside0.mk (fun w6 h6 => ⟨by
        unfold IsStr
        rw [h6.keep sb (blk_lt HI5.out) hfree5]
        exact HI5.out, Nat.le_trans hn5 h6.size, Nat.le_trans HB5.out.size h6.size, Fs.of_fd ((Fd.of_below HB5.out HN.out.1).trans h6), hfree5.step (h6.keep sb (blk_lt HI5.out) hfree5), HW5.out.keep (fun k cs t fr hk hc ht => h6.keep k (blk_lt hc) (free_late HD.out HB5.out hk hc (by rcases ht with rfl | rfl <;> decide)))⟩)
      clear hHeld k3 k5 hfree5 hn5 HLY HSP HW2 HW3 HI2 HI3 HB2 HB3
      rcases hper with he | he
      case inr =>
        rw [he] at HL5
        have HEE := Aside0.mk he
        clear he
        go_wp2_with (first | (go_at_call 31; go_loud (refine HL5.out.mono ?_; rintro e w6 ⟨rfl, hd6, hf6⟩; obtain ⟨i6, n6, m6, s6, f6, b6⟩ := H6.out w6 hf6; have HI6 := Aside0.mk i6; have HS6 := Aside0.mk s6; have HD6 := Aside0.mk hd6; have HFA := Aside0.mk (failed_calls w6 sb K.db S i6 HBR.out); clear hd6 hf6 i6 s6 f6 b6)) | (go_at_call 32; go_loud (refine HFA.out.mono ?_; rintro e w7 ⟨rfl, i7, g7, rfl⟩; have HI7 := Aside0.mk i7; have HG7 := Aside0.mk g7; clear i7 g7)))
        go_ret
        exact HP1.out _ HEE.out (HD6.out.set64 HI6.out 6 _) HI7.out (HS6.out.trans (Fs.grown HG7.out HN.out.2 n6))
      case inl =>
        rw [he] at HL5
        have HEE := Aside0.mk he
        clear he
        go_upto_region 20 with (first | (go_at_call 31; go_loud (refine HL5.out.mono ?_; rintro e w6 ⟨rfl, hd6, hf6⟩; obtain ⟨i6, n6, m6, s6, f6, b6⟩ := H6.out w6 hf6; have HI6 := Aside0.mk i6; have HS6 := Aside0.mk s6; have HD6 := Aside0.mk hd6; have HW6 := Aside0.mk b6; have HF6 := Aside0.mk f6; clear hd6 hf6 i6 s6 f6 b6)))
        have hb7 := below_drew1 (Below.refl w6.heap.size w6)
        have hz7 : w6.drew.heap.size = w6.heap.size := rfl
        have HI7 := Aside0.mk (HI6.out.below hb7)
        have HS7 := Aside0.mk (HS6.out.trans (Fs.of_fd (Fd.of_below hb7 n6)))
        have HD7 := Aside0.mk (HD6.out.below hb7)
        have HW7 := Aside0.mk (HW6.out.below hb7)
        have HF7 := Aside0.mk (HF6.out.step (hb7.block sb (blk_lt HI6.out)))
        have hk7 := HI7.out.at
        have hk7 : w6.drew.cell? ⟨sb, 0, none⟩ = some (.pointer (some ⟨K.db, 0, none⟩)) ∧ w6.drew.cell? ⟨sb, 1, none⟩ = some (.int .i64 sr) ∧ w6.drew.cell? ⟨sb, 3, none⟩ = some (.int .i64 gi) := ⟨hk7.1, by rw [HSR.out]; exact hk7.2.1, by rw [HGI.out]; exact hk7.2.2.2.1⟩
        refine wp_region_held_drew (S := fun w => w.cell? ⟨sb, 0, none⟩ = some (.pointer (some ⟨K.db, 0, none⟩)) ∧ w.cell? ⟨sb, 1, none⟩ = some (.int .i64 sr) ∧ w.cell? ⟨sb, 3, none⟩ = some (.int .i64 gi)) (by kernel_rfl) hk7 (fun hHeld => ?_)
        clear hk7 hb7 HI6 HS6 HD6 HW6 HF6
        generalize w6.drew = w7 at *
        refine wpAnyH_take (i := 0) (oi := { dst := some 74, op := Op.move (Operand.tmp 0), type := 27, pos := "stream.go:140", after := #[], guard := none }) (v := ?vb0) rfl (by kernel_rfl) (by kernel_rfl) (by kernel_rfl) (fun _ _ _ h => h) (Or.inl ⟨by rfl, ?yb0⟩) (by assumption) ?_
        case yb0 => (intro w hSw; (try dsimp only at hSw); go_simp; try with_reducible rfl)
        (try simp only [Act.put, List.setIfInBounds_toArray, List.set_cons_zero, List.set_cons_succ])
        refine wpAnyH_take (i := 1) (oi := { dst := some 75, op := Op.nilCheck (Operand.tmp 74), type := 0, pos := "stream.go:140", after := #[{ on := 0, ground := Ground.data }], guard := none }) (v := ?vb1) rfl (by kernel_rfl) (by kernel_rfl) (by kernel_rfl) (fun _ _ _ h => h) (Or.inl ⟨by rfl, ?yb1⟩) (by assumption) ?_
        case yb1 => (intro w hSw; (try dsimp only at hSw); go_simp; try with_reducible rfl)
        (try simp only [Act.put, List.setIfInBounds_toArray, List.set_cons_zero, List.set_cons_succ])
        refine wpAnyH_take (i := 2) (oi := { dst := some 76, op := Op.fieldAddr 64 (Operand.tmp 75) 0, type := 0, pos := "stream.go:140", after := #[{ on := 1, ground := Ground.data }], guard := none }) (v := ?vb2) rfl (by kernel_rfl) (by kernel_rfl) (by kernel_rfl) (fun _ _ _ h => h) (Or.inl ⟨by rfl, ?yb2⟩) (by assumption) ?_
        case yb2 => (intro w hSw; (try dsimp only at hSw); go_simp; try with_reducible rfl)
        (try simp only [Act.put, List.setIfInBounds_toArray, List.set_cons_zero, List.set_cons_succ])
        refine wpAnyH_take (i := 3) (oi := { dst := some 77, op := Op.load 25 (Operand.tmp 76), type := 25, pos := "stream.go:140", after := #[{ on := 2, ground := Ground.data }], guard := none }) (v := ?vb3) rfl (by kernel_rfl) (by kernel_rfl) (by kernel_rfl) (fun _ _ _ h => h) (Or.inl ⟨by rfl, ?yb3⟩) (by assumption) ?_
        case yb3 => (intro w hSw; (try dsimp only at hSw); go_simp; try with_reducible rfl)
        (try simp only [Act.put, List.setIfInBounds_toArray, List.set_cons_zero, List.set_cons_succ])
        refine wpAnyH_take (i := 4) (oi := { dst := some 78, op := Op.move (Operand.tmp 0), type := 27, pos := "stream.go:140", after := #[], guard := none }) (v := ?vb4) rfl (by kernel_rfl) (by kernel_rfl) (by kernel_rfl) (fun _ _ _ h => h) (Or.inl ⟨by rfl, ?yb4⟩) (by assumption) ?_
        case yb4 => (intro w hSw; (try dsimp only at hSw); go_simp; try with_reducible rfl)
        (try simp only [Act.put, List.setIfInBounds_toArray, List.set_cons_zero, List.set_cons_succ])
        refine wpAnyH_take (i := 5) (oi := { dst := some 79, op := Op.nilCheck (Operand.tmp 78), type := 0, pos := "stream.go:140", after := #[{ on := 4, ground := Ground.data }], guard := none }) (v := ?vb5) rfl (by kernel_rfl) (by kernel_rfl) (by kernel_rfl) (fun _ _ _ h => h) (Or.inl ⟨by rfl, ?yb5⟩) (by assumption) ?_
        case yb5 => (intro w hSw; (try dsimp only at hSw); go_simp; try with_reducible rfl)
        (try simp only [Act.put, List.setIfInBounds_toArray, List.set_cons_zero, List.set_cons_succ])
        refine wpAnyH_take (i := 6) (oi := { dst := some 80, op := Op.fieldAddr 64 (Operand.tmp 79) 1, type := 0, pos := "stream.go:140", after := #[{ on := 5, ground := Ground.data }], guard := none }) (v := ?vb6) rfl (by kernel_rfl) (by kernel_rfl) (by kernel_rfl) (fun _ _ _ h => h) (Or.inl ⟨by rfl, ?yb6⟩) (by assumption) ?_
        case yb6 => (intro w hSw; (try dsimp only at hSw); go_simp; try with_reducible rfl)
        (try simp only [Act.put, List.setIfInBounds_toArray, List.set_cons_zero, List.set_cons_succ])
        refine wpAnyH_take (i := 7) (oi := { dst := some 81, op := Op.load 3 (Operand.tmp 80), type := 3, pos := "stream.go:140", after := #[{ on := 6, ground := Ground.data }], guard := none }) (v := ?vb7) rfl (by kernel_rfl) (by kernel_rfl) (by kernel_rfl) (fun _ _ _ h => h) (Or.inl ⟨by rfl, ?yb7⟩) (by assumption) ?_
        case yb7 => (intro w hSw; (try dsimp only at hSw); go_simp; try with_reducible rfl)
        (try simp only [Act.put, List.setIfInBounds_toArray, List.set_cons_zero, List.set_cons_succ])
        refine wpAnyH_take (i := 8) (oi := { dst := some 82, op := Op.move (Operand.tmp 0), type := 27, pos := "stream.go:140", after := #[], guard := none }) (v := ?vb8) rfl (by kernel_rfl) (by kernel_rfl) (by kernel_rfl) (fun _ _ _ h => h) (Or.inl ⟨by rfl, ?yb8⟩) (by assumption) ?_
        case yb8 => (intro w hSw; (try dsimp only at hSw); go_simp; try with_reducible rfl)
        (try simp only [Act.put, List.setIfInBounds_toArray, List.set_cons_zero, List.set_cons_succ])
        refine wpAnyH_take (i := 9) (oi := { dst := some 83, op := Op.nilCheck (Operand.tmp 82), type := 0, pos := "stream.go:140", after := #[{ on := 8, ground := Ground.data }], guard := none }) (v := ?vb9) rfl (by kernel_rfl) (by kernel_rfl) (by kernel_rfl) (fun _ _ _ h => h) (Or.inl ⟨by rfl, ?yb9⟩) (by assumption) ?_
        case yb9 => (intro w hSw; (try dsimp only at hSw); go_simp; try with_reducible rfl)
        (try simp only [Act.put, List.setIfInBounds_toArray, List.set_cons_zero, List.set_cons_succ])
        refine wpAnyH_take (i := 10) (oi := { dst := some 84, op := Op.fieldAddr 64 (Operand.tmp 83) 3, type := 0, pos := "stream.go:140", after := #[{ on := 9, ground := Ground.data }], guard := none }) (v := ?vb10) rfl (by kernel_rfl) (by kernel_rfl) (by kernel_rfl) (fun _ _ _ h => h) (Or.inl ⟨by rfl, ?yb10⟩) (by assumption) ?_
        case yb10 => (intro w hSw; (try dsimp only at hSw); go_simp; try with_reducible rfl)
        (try simp only [Act.put, List.setIfInBounds_toArray, List.set_cons_zero, List.set_cons_succ])
        refine wpAnyH_take (i := 11) (oi := { dst := some 85, op := Op.load 2 (Operand.tmp 84), type := 2, pos := "stream.go:140", after := #[{ on := 10, ground := Ground.data }], guard := none }) (v := ?vb11) rfl (by kernel_rfl) (by kernel_rfl) (by kernel_rfl) (fun _ _ _ h => h) (Or.inl ⟨by rfl, ?yb11⟩) (by assumption) ?_
        case yb11 => (intro w hSw; (try dsimp only at hSw); go_simp; try with_reducible rfl)
        (try simp only [Act.put, List.setIfInBounds_toArray, List.set_cons_zero, List.set_cons_succ])
        refine wpAnyH_take (i := 12) (oi := { dst := some 86, op := Op.binOp BinOp.add 2 (Operand.tmp 85) (Operand.const (Value.int IntKind.i64 1)) 2, type := 2, pos := "stream.go:140", after := #[{ on := 11, ground := Ground.data }], guard := none }) (v := ?vb12) rfl (by kernel_rfl) (by kernel_rfl) (by kernel_rfl) (fun _ _ _ h => h) (Or.inl ⟨by rfl, ?yb12⟩) (by assumption) ?_
        case yb12 => (intro w hSw; (try dsimp only at hSw); go_simp; try with_reducible rfl)
        (try simp only [Act.put, List.setIfInBounds_toArray, List.set_cons_zero, List.set_cons_succ])
        refine wpAnyH_take (i := 13) (oi := { dst := some 87, op := Op.move (Operand.tmp 11), type := 3, pos := "stream.go:140", after := #[], guard := none }) (v := ?vb13) rfl (by kernel_rfl) (by kernel_rfl) (by kernel_rfl) (fun _ _ _ h => h) (Or.inl ⟨by rfl, ?yb13⟩) (by assumption) ?_
        case yb13 => (intro w hSw; (try dsimp only at hSw); go_simp; try with_reducible rfl)
        (try simp only [Act.put, List.setIfInBounds_toArray, List.set_cons_zero, List.set_cons_succ])
        refine wpAnyH_ready (rs := [14]) (by kernel_rfl) (by simp) ?_
        refine AllReadyH.cons (o := { dst := some 88, op := Op.call { callee := Callee.value (Operand.func 39), args := #[Operand.tmp 86, Operand.tmp 87], argTypes := #[2, 3] }, type := 9, pos := "stream.go:140", after := #[{ on := 12, ground := Ground.data }, { on := 13, ground := Ground.data }], guard := none }) rfl (fun KK hK => ?_) AllReadyH.nil
        go_simp
        go_at_call 39
        go_loud (refine (HHD.out w7).mono ?_; rintro e w8 ⟨rfl, hb8⟩)
        have HI8 := Aside0.mk (HI7.out.below hb8)
        have HS8 := Aside0.mk (HS7.out.trans (Fs.of_fd (Fd.of_below hb8 (by omega))))
        have HD8 := Aside0.mk (HD7.out.below hb8)
        have HW8 := Aside0.mk (HW7.out.below hb8)
        have HF8 := Aside0.mk (HF7.out.step (hb8.block sb (blk_lt HI7.out)))
        have n8 : N ≤ w8.heap.size := Nat.le_trans (by omega) hb8.size
        have m8 : W.heap.size ≤ w8.heap.size := Nat.le_trans (by omega) hb8.size
        clear hb8 HI7 HS7 HD7 HW7 HF7 hz7
        have hk8 := HI8.out.at
        have hk8 : w8.cell? ⟨sb, 0, none⟩ = some (.pointer (some ⟨K.db, 0, none⟩)) ∧ w8.cell? ⟨sb, 1, none⟩ = some (.int .i64 sr) ∧ w8.cell? ⟨sb, 3, none⟩ = some (.int .i64 gi) := ⟨hk8.1, by rw [HSR.out]; exact hk8.2.1, by rw [HGI.out]; exact hk8.2.2.2.1⟩
        have HWR := Aside0.mk (HWRT.out HEE.out w8 HD8.out n8)
        refine hK.out _ _ hk8 (fun hHeld2 => ?_)
        clear hK KK hHeld
        have hHeld := hHeld2
        clear hHeld2
        (try simp only [Act.put, List.setIfInBounds_toArray, List.set_cons_zero, List.set_cons_succ])
        refine wpAnyH_ready (rs := [15]) (by kernel_rfl) (by simp) ?_
        refine AllReadyH.cons (o := { dst := some 89, op := Op.call { callee := Callee.value (Operand.func 45), args := #[Operand.tmp 77, Operand.tmp 81, Operand.const (Value.int IntKind.i64 0), Operand.tmp 88], argTypes := #[25, 3, 3, 9] }, type := 36, pos := "stream.go:140", after := #[{ on := 3, ground := Ground.data }, { on := 7, ground := Ground.data }, { on := 14, ground := Ground.data }, { on := 14, ground := Ground.chain }], guard := none }) rfl (fun KK hK => ?_) AllReadyH.nil
        go_simp
        go_at_call 45
        go_loud (refine HWR.out.mono ?_; rintro e w9 ⟨rfl, hd9, hf9⟩)
        have HD9 := Aside0.mk hd9
        have HI9 : Aside0 (IsStr w9 sb K.db S) := Aside0.mk (by
          unfold IsStr
          rw [hf9.keep sb (blk_lt HI8.out) HF8.out]
          exact HI8.out)
        have HS9 := Aside0.mk (HS8.out.trans (Fs.of_fd hf9))
        have HF9 := Aside0.mk (HF8.out.step (hf9.keep sb (blk_lt HI8.out) HF8.out))
        have HW9 := Aside0.mk (HW8.out.keep (fun k cs t fr hk hc ht => hf9.keep k (blk_lt hc) (free_late2 HD.out hk hc (by rcases ht with rfl | rfl <;> decide))))
        have n9 : N ≤ w9.heap.size := Nat.le_trans n8 hf9.size
        have m9 : W.heap.size ≤ w9.heap.size := Nat.le_trans m8 hf9.size
        clear hd9 hf9 HD8 HI8 HS8 HF8 HW8 HWR
        have hk9 := HI9.out.at
        have hk9 : w9.cell? ⟨sb, 0, none⟩ = some (.pointer (some ⟨K.db, 0, none⟩)) ∧ w9.cell? ⟨sb, 1, none⟩ = some (.int .i64 sr) ∧ w9.cell? ⟨sb, 3, none⟩ = some (.int .i64 gi) := ⟨hk9.1, by rw [HSR.out]; exact hk9.2.1, by rw [HGI.out]; exact hk9.2.2.2.1⟩
        refine hK.out _ _ hk9 (fun hHeld2 => ?_)
        clear hK KK hHeld
        have hHeld := hHeld2
        clear hHeld2
        (try simp only [Act.put, List.setIfInBounds_toArray, List.set_cons_zero, List.set_cons_succ])
        refine wpAnyH_ready (rs := [16]) (by kernel_rfl) (by simp) ?_
        refine AllReadyH.cons (o := { dst := some 15, op := Op.assign (Operand.tmp 89), type := 36, pos := "stream.go:140", after := #[{ on := 15, ground := Ground.data }, { on := 15, ground := Ground.chain }, { on := 0, ground := Ground.phase }, { on := 1, ground := Ground.phase }, { on := 2, ground := Ground.phase }, { on := 3, ground := Ground.phase }, { on := 4, ground := Ground.phase }, { on := 5, ground := Ground.phase }, { on := 6, ground := Ground.phase }, { on := 7, ground := Ground.phase }, { on := 8, ground := Ground.phase }, { on := 9, ground := Ground.phase }, { on := 10, ground := Ground.phase }, { on := 11, ground := Ground.phase }, { on := 12, ground := Ground.phase }, { on := 13, ground := Ground.phase }, { on := 14, ground := Ground.phase }, { on := 15, ground := Ground.phase }], guard := none }) rfl (fun KK hK => ?_) AllReadyH.nil
        go_simp
        refine hK.out _ _ hk9 (fun hHeld2 => ?_)
        clear hK KK hHeld
        have hHeld := hHeld2
        clear hHeld2
        (try simp only [Act.put, List.setIfInBounds_toArray, List.set_cons_zero, List.set_cons_succ])
        refine wpAnyH_done (by kernel_rfl) ?_ _
        clear hHeld hk8 hk9
        rcases hper2 HEE.out with he2 | he2
        case inr =>
          have HEE2 := Aside0.mk he2
          have HFA := Aside0.mk (failed_calls w9 sb K.db S HI9.out HBR.out)
          rw [he2]
          clear he2
          go_wp2_with (first | (go_at_call 32; go_loud (refine HFA.out.mono ?_; rintro e w10 ⟨rfl, i10, g10, rfl⟩; have HI10 := Aside0.mk i10; have HG10 := Aside0.mk g10; clear i10 g10)))
          go_ret
          exact HP2.out _ HEE.out HEE2.out (HD9.out.set64 HI9.out 6 _) HI10.out (HS9.out.trans (Fs.grown HG10.out HN.out.2 n9))
        case inl =>
          have HEE2 := Aside0.mk he2
          rw [he2]
          clear he2
          go_upto_region 23 with (fail)
          have hb10 := below_drew1 (Below.refl w9.heap.size w9)
          have hz10 : w9.drew.heap.size = w9.heap.size := rfl
          have HI10 := Aside0.mk (HI9.out.below hb10)
          have HS10 := Aside0.mk (HS9.out.trans (Fs.of_fd (Fd.of_below hb10 n9)))
          have HD10 := Aside0.mk (HD9.out.below hb10)
          have HW10 := Aside0.mk (HW9.out.below hb10)
          have HF10 := Aside0.mk (HF9.out.step (hb10.block sb (blk_lt HI9.out)))
          have hk10 := HI10.out.at
          have hk10 : w9.drew.cell? ⟨sb, 0, none⟩ = some (.pointer (some ⟨K.db, 0, none⟩)) ∧ w9.drew.cell? ⟨sb, 1, none⟩ = some (.int .i64 sr) := ⟨hk10.1, by rw [HSR.out]; exact hk10.2.1⟩
          refine wp_region_held_drew (S := fun w => w.cell? ⟨sb, 0, none⟩ = some (.pointer (some ⟨K.db, 0, none⟩)) ∧ w.cell? ⟨sb, 1, none⟩ = some (.int .i64 sr)) (by kernel_rfl) hk10 (fun hHeld => ?_)
          clear hk10 hb10 HI9 HS9 HD9 HW9 HF9
          generalize w9.drew = w10 at *
          have n10 : N ≤ w10.heap.size := by omega
          have m10 : W.heap.size ≤ w10.heap.size := by omega
          have HFL := Aside0.mk (HFLT.out HEE.out HEE2.out w10 HD10.out n10)
          refine wpAnyH_take (i := 0) (oi := { dst := some 95, op := Op.move (Operand.tmp 0), type := 27, pos := "stream.go:143", after := #[], guard := none }) (v := ?vc0) rfl (by kernel_rfl) (by kernel_rfl) (by kernel_rfl) (fun _ _ _ h => h) (Or.inl ⟨by rfl, ?yc0⟩) (by assumption) ?_
          case yc0 => (intro w hSw; (try dsimp only at hSw); go_simp; try with_reducible rfl)
          (try simp only [Act.put, List.setIfInBounds_toArray, List.set_cons_zero, List.set_cons_succ])
          refine wpAnyH_take (i := 1) (oi := { dst := some 96, op := Op.nilCheck (Operand.tmp 95), type := 0, pos := "stream.go:143", after := #[{ on := 0, ground := Ground.data }], guard := none }) (v := ?vc1) rfl (by kernel_rfl) (by kernel_rfl) (by kernel_rfl) (fun _ _ _ h => h) (Or.inl ⟨by rfl, ?yc1⟩) (by assumption) ?_
          case yc1 => (intro w hSw; (try dsimp only at hSw); go_simp; try with_reducible rfl)
          (try simp only [Act.put, List.setIfInBounds_toArray, List.set_cons_zero, List.set_cons_succ])
          refine wpAnyH_take (i := 2) (oi := { dst := some 97, op := Op.fieldAddr 64 (Operand.tmp 96) 0, type := 0, pos := "stream.go:143", after := #[{ on := 1, ground := Ground.data }], guard := none }) (v := ?vc2) rfl (by kernel_rfl) (by kernel_rfl) (by kernel_rfl) (fun _ _ _ h => h) (Or.inl ⟨by rfl, ?yc2⟩) (by assumption) ?_
          case yc2 => (intro w hSw; (try dsimp only at hSw); go_simp; try with_reducible rfl)
          (try simp only [Act.put, List.setIfInBounds_toArray, List.set_cons_zero, List.set_cons_succ])
          refine wpAnyH_take (i := 3) (oi := { dst := some 98, op := Op.load 25 (Operand.tmp 97), type := 25, pos := "stream.go:143", after := #[{ on := 2, ground := Ground.data }], guard := none }) (v := ?vc3) rfl (by kernel_rfl) (by kernel_rfl) (by kernel_rfl) (fun _ _ _ h => h) (Or.inl ⟨by rfl, ?yc3⟩) (by assumption) ?_
          case yc3 => (intro w hSw; (try dsimp only at hSw); go_simp; try with_reducible rfl)
          (try simp only [Act.put, List.setIfInBounds_toArray, List.set_cons_zero, List.set_cons_succ])
          refine wpAnyH_take (i := 4) (oi := { dst := some 99, op := Op.move (Operand.tmp 0), type := 27, pos := "stream.go:143", after := #[], guard := none }) (v := ?vc4) rfl (by kernel_rfl) (by kernel_rfl) (by kernel_rfl) (fun _ _ _ h => h) (Or.inl ⟨by rfl, ?yc4⟩) (by assumption) ?_
          case yc4 => (intro w hSw; (try dsimp only at hSw); go_simp; try with_reducible rfl)
          (try simp only [Act.put, List.setIfInBounds_toArray, List.set_cons_zero, List.set_cons_succ])
          refine wpAnyH_take (i := 5) (oi := { dst := some 100, op := Op.nilCheck (Operand.tmp 99), type := 0, pos := "stream.go:143", after := #[{ on := 4, ground := Ground.data }], guard := none }) (v := ?vc5) rfl (by kernel_rfl) (by kernel_rfl) (by kernel_rfl) (fun _ _ _ h => h) (Or.inl ⟨by rfl, ?yc5⟩) (by assumption) ?_
          case yc5 => (intro w hSw; (try dsimp only at hSw); go_simp; try with_reducible rfl)
          (try simp only [Act.put, List.setIfInBounds_toArray, List.set_cons_zero, List.set_cons_succ])
          refine wpAnyH_take (i := 6) (oi := { dst := some 101, op := Op.fieldAddr 64 (Operand.tmp 100) 1, type := 0, pos := "stream.go:143", after := #[{ on := 5, ground := Ground.data }], guard := none }) (v := ?vc6) rfl (by kernel_rfl) (by kernel_rfl) (by kernel_rfl) (fun _ _ _ h => h) (Or.inl ⟨by rfl, ?yc6⟩) (by assumption) ?_
          case yc6 => (intro w hSw; (try dsimp only at hSw); go_simp; try with_reducible rfl)
          (try simp only [Act.put, List.setIfInBounds_toArray, List.set_cons_zero, List.set_cons_succ])
          refine wpAnyH_take (i := 7) (oi := { dst := some 102, op := Op.load 3 (Operand.tmp 101), type := 3, pos := "stream.go:143", after := #[{ on := 6, ground := Ground.data }], guard := none }) (v := ?vc7) rfl (by kernel_rfl) (by kernel_rfl) (by kernel_rfl) (fun _ _ _ h => h) (Or.inl ⟨by rfl, ?yc7⟩) (by assumption) ?_
          case yc7 => (intro w hSw; (try dsimp only at hSw); go_simp; try with_reducible rfl)
          (try simp only [Act.put, List.setIfInBounds_toArray, List.set_cons_zero, List.set_cons_succ])
          refine wpAnyH_ready (rs := [8]) (by kernel_rfl) (by simp) ?_
          refine AllReadyH.cons (o := { dst := some 103, op := Op.call { callee := Callee.value (Operand.func 46), args := #[Operand.tmp 98, Operand.tmp 102], argTypes := #[25, 3] }, type := 36, pos := "stream.go:143", after := #[{ on := 3, ground := Ground.data }, { on := 7, ground := Ground.data }], guard := none }) rfl (fun KK hK => ?_) AllReadyH.nil
          go_simp
          go_at_call 46
          go_loud (refine HFL.out.mono ?_; rintro e w11 ⟨rfl, hd11, hf11⟩)
          have HD11 := Aside0.mk hd11
          have HI11 : Aside0 (IsStr w11 sb K.db S) := Aside0.mk (by
            unfold IsStr
            rw [hf11.keep sb (blk_lt HI10.out) HF10.out]
            exact HI10.out)
          have HS11 := Aside0.mk (HS10.out.trans (Fs.of_fd hf11))
          have HW11 := Aside0.mk (HW10.out.keep (fun k cs t fr hk hc ht => hf11.keep k (blk_lt hc) (free_late2 HD.out hk hc (by rcases ht with rfl | rfl <;> decide))))
          have n11 : N ≤ w11.heap.size := Nat.le_trans n10 hf11.size
          have m11 : W.heap.size ≤ w11.heap.size := Nat.le_trans m10 hf11.size
          clear hd11 hf11 HD10 HI10 HS10 HF10 HW10 HFL hz10
          have hk11 := HI11.out.at
          have hk11 : w11.cell? ⟨sb, 0, none⟩ = some (.pointer (some ⟨K.db, 0, none⟩)) ∧ w11.cell? ⟨sb, 1, none⟩ = some (.int .i64 sr) := ⟨hk11.1, by rw [HSR.out]; exact hk11.2.1⟩
          refine hK.out _ _ hk11 (fun hHeld2 => ?_)
          clear hK KK hHeld
          have hHeld := hHeld2
          clear hHeld2
          (try simp only [Act.put, List.setIfInBounds_toArray, List.set_cons_zero, List.set_cons_succ])
          refine wpAnyH_ready (rs := [9]) (by kernel_rfl) (by simp) ?_
          refine AllReadyH.cons (o := { dst := some 16, op := Op.assign (Operand.tmp 103), type := 36, pos := "stream.go:143", after := #[{ on := 8, ground := Ground.data }, { on := 8, ground := Ground.chain }, { on := 0, ground := Ground.phase }, { on := 1, ground := Ground.phase }, { on := 2, ground := Ground.phase }, { on := 3, ground := Ground.phase }, { on := 4, ground := Ground.phase }, { on := 5, ground := Ground.phase }, { on := 6, ground := Ground.phase }, { on := 7, ground := Ground.phase }, { on := 8, ground := Ground.phase }], guard := none }) rfl (fun KK hK => ?_) AllReadyH.nil
          go_simp
          refine hK.out _ _ hk11 (fun hHeld2 => ?_)
          clear hK KK hHeld
          have hHeld := hHeld2
          clear hHeld2
          (try simp only [Act.put, List.setIfInBounds_toArray, List.set_cons_zero, List.set_cons_succ])
          refine wpAnyH_done (by kernel_rfl) ?_ _
          clear hHeld hk11
          rcases hper3 HEE.out HEE2.out with he3 | he3
          case inr =>
            have HEE3 := Aside0.mk he3
            have HFA := Aside0.mk (failed_calls w11 sb K.db S HI11.out HBR.out)
            rw [he3]
            clear he3
            go_wp2_with (first | (go_at_call 32; go_loud (refine HFA.out.mono ?_; rintro e w12 ⟨rfl, i12, g12, rfl⟩; have HI12 := Aside0.mk i12; have HG12 := Aside0.mk g12; clear i12 g12)))
            go_ret
            exact HP3.out _ HEE.out HEE2.out HEE3.out (HD11.out.set64 HI11.out 6 _) HI12.out (HS11.out.trans (Fs.grown HG12.out HN.out.2 n11))
          case inl =>
            have HEE3 := Aside0.mk he3
            rw [he3]
            clear he3
            go_upto_region 26 with (fail)
            have hb12 := below_drew1 (Below.refl w11.heap.size w11)
            have hz12 : w11.drew.heap.size = w11.heap.size := rfl
            have HI12 := Aside0.mk (HI11.out.below hb12)
            have HS12 := Aside0.mk (HS11.out.trans (Fs.of_fd (Fd.of_below hb12 n11)))
            have HD12 := Aside0.mk (HD11.out.below hb12)
            have HW12 := Aside0.mk (HW11.out.below hb12)
            have hk12 : w11.drew.cell? ⟨sb, 3, none⟩ = some (.int .i64 gi) := by rw [HGI.out]; exact HI12.out.at.2.2.2.1
            refine wp_region_z_drew (S := fun w => w.cell? ⟨sb, 3, none⟩ = some (.int .i64 gi)) 12 (by kernel_rfl) hk12 (fun hHeld => ?_)
            clear hk12 hb12 HI11 HS11 HD11 HW11
            generalize w11.drew = w12 at *
            have n12 : N ≤ w12.heap.size := by omega
            have m12 : W.heap.size ≤ w12.heap.size := by omega
            refine wpAnyZ_takep (i := 0) (oi := { dst := some 109, op := Op.move (Operand.tmp 0), type := 27, pos := "stream.go:146", after := #[], guard := none }) (v := ?vd0) rfl (by kernel_rfl) (by kernel_rfl) (by kernel_rfl) (by decide) (fun _ _ _ h => h) (Or.inl ⟨by rfl, ?yd0⟩) (fun _ => by assumption) ?_
            case yd0 => (intro w hSw; clear hSw; go_simp; try with_reducible rfl)
            (try simp only [Act.put, List.setIfInBounds_toArray, List.set_cons_zero, List.set_cons_succ])
            refine wpAnyZ_takep (i := 1) (oi := { dst := some 110, op := Op.move (Operand.tmp 0), type := 27, pos := "stream.go:146", after := #[{ on := 12, ground := Ground.gcOnly Departure.lateStores }], guard := none }) (v := ?vd1) rfl (by kernel_rfl) (by kernel_rfl) (by kernel_rfl) (by decide) (fun _ _ _ h => h) (Or.inl ⟨by rfl, ?yd1⟩) (fun _ => by assumption) ?_
            case yd1 => (intro w hSw; clear hSw; go_simp; try with_reducible rfl)
            (try simp only [Act.put, List.setIfInBounds_toArray, List.set_cons_zero, List.set_cons_succ])
            refine wpAnyZ_takep (i := 2) (oi := { dst := some 111, op := Op.move (Operand.tmp 0), type := 27, pos := "stream.go:146", after := #[{ on := 15, ground := Ground.gcOnly Departure.lateStores }], guard := none }) (v := ?vd2) rfl (by kernel_rfl) (by kernel_rfl) (by kernel_rfl) (by decide) (fun _ _ _ h => h) (Or.inl ⟨by rfl, ?yd2⟩) (fun _ => by assumption) ?_
            case yd2 => (intro w hSw; clear hSw; go_simp; try with_reducible rfl)
            (try simp only [Act.put, List.setIfInBounds_toArray, List.set_cons_zero, List.set_cons_succ])
            refine wpAnyZ_takep (i := 3) (oi := { dst := some 112, op := Op.move (Operand.tmp 0), type := 27, pos := "stream.go:146", after := #[], guard := none }) (v := ?vd3) rfl (by kernel_rfl) (by kernel_rfl) (by kernel_rfl) (by decide) (fun _ _ _ h => h) (Or.inl ⟨by rfl, ?yd3⟩) (fun _ => by assumption) ?_
            case yd3 => (intro w hSw; clear hSw; go_simp; try with_reducible rfl)
            (try simp only [Act.put, List.setIfInBounds_toArray, List.set_cons_zero, List.set_cons_succ])
            refine wpAnyZ_takep (i := 4) (oi := { dst := some 113, op := Op.nilCheck (Operand.tmp 112), type := 0, pos := "stream.go:146", after := #[{ on := 3, ground := Ground.data }], guard := none }) (v := ?vd4) rfl (by kernel_rfl) (by kernel_rfl) (by kernel_rfl) (by decide) (fun _ _ _ h => h) (Or.inl ⟨by rfl, ?yd4⟩) (fun _ => by assumption) ?_
            case yd4 => (intro w hSw; clear hSw; go_simp; try with_reducible rfl)
            (try simp only [Act.put, List.setIfInBounds_toArray, List.set_cons_zero, List.set_cons_succ])
            refine wpAnyZ_takep (i := 5) (oi := { dst := some 114, op := Op.fieldAddr 64 (Operand.tmp 113) 3, type := 0, pos := "stream.go:146", after := #[{ on := 4, ground := Ground.data }], guard := none }) (v := ?vd5) rfl (by kernel_rfl) (by kernel_rfl) (by kernel_rfl) (by decide) (fun _ _ _ h => h) (Or.inl ⟨by rfl, ?yd5⟩) (fun _ => by assumption) ?_
            case yd5 => (intro w hSw; clear hSw; go_simp; try with_reducible rfl)
            (try simp only [Act.put, List.setIfInBounds_toArray, List.set_cons_zero, List.set_cons_succ])
            refine wpAnyZ_take (i := 6) (oi := { dst := some 115, op := Op.load 2 (Operand.tmp 114), type := 2, pos := "stream.go:146", after := #[{ on := 5, ground := Ground.data }], guard := none }) (v := ?vd6) rfl (by kernel_rfl) (by kernel_rfl) (by kernel_rfl) (by kernel_rfl) (by kernel_rfl) (fun _ _ _ h => h) (Or.inl ⟨by rfl, ?yd6⟩) (by assumption) ?_
            case yd6 => (intro w hSw; (try dsimp only at hSw); go_simp; try with_reducible rfl)
            (try simp only [Act.put, List.setIfInBounds_toArray, List.set_cons_zero, List.set_cons_succ])
            refine wpAnyZ_takep (i := 7) (oi := { dst := some 116, op := Op.binOp BinOp.add 2 (Operand.tmp 115) (Operand.const (Value.int IntKind.i64 1)) 2, type := 2, pos := "stream.go:146", after := #[{ on := 6, ground := Ground.data }], guard := none }) (v := ?vd7) rfl (by kernel_rfl) (by kernel_rfl) (by kernel_rfl) (by decide) (fun _ _ _ h => h) (Or.inl ⟨by rfl, ?yd7⟩) (fun _ => by assumption) ?_
            case yd7 => (intro w hSw; clear hSw; go_simp; try with_reducible rfl)
            (try simp only [Act.put, List.setIfInBounds_toArray, List.set_cons_zero, List.set_cons_succ])
            refine wpAnyZ_takep (i := 8) (oi := { dst := some 117, op := Op.move (Operand.tmp 11), type := 3, pos := "stream.go:146", after := #[{ on := 12, ground := Ground.gcOnly Departure.lateStores }], guard := none }) (v := ?vd8) rfl (by kernel_rfl) (by kernel_rfl) (by kernel_rfl) (by decide) (fun _ _ _ h => h) (Or.inl ⟨by rfl, ?yd8⟩) (fun _ => by assumption) ?_
            case yd8 => (intro w hSw; clear hSw; go_simp; try with_reducible rfl)
            (try simp only [Act.put, List.setIfInBounds_toArray, List.set_cons_zero, List.set_cons_succ])
            refine wpAnyZ_ready (rs := [9]) (by kernel_rfl) (by simp) ?_
            refine AllReadyZ.cons (o := { dst := some 118, op := Op.call { callee := Callee.value (Operand.func 43), args := #[Operand.tmp 6], argTypes := #[92] }, type := 9, pos := "stream.go:146", after := #[], guard := none }) rfl (fun KK hK => ?_) AllReadyZ.nil
            go_simp
            go_at_call 43
            go_loud (refine (bstr_calls _ _ data w12 HW12.out m12).mono ?_; rintro e w13 ⟨rfl, hl13, hb13, ho13⟩)
            have HI13 : Aside0 (IsStr w13 sb K.db S) := Aside0.mk ((hb13.block sb (blk_lt HI.out)).trans HI12.out)
            obtain ⟨_, _, _, hbb⟩ := HW12.out.parts
            have HD13 := Aside0.mk (HD12.out.ok5 ho13 hbb)
            have HS13 := Aside0.mk (HS12.out.late hb13 HN.out.1)
            have k13 : w13.cell? ⟨sb, 3, none⟩ = some (.int .i64 gi) := by rw [HGI.out]; exact HI13.out.at.2.2.2.1
            have z13 := blk_frozen HI13.out 3
            have n13 : N ≤ w13.heap.size := Nat.le_trans n12 hb13.size
            clear hl13 hb13 ho13 hbb HI12 HD12 HS12 HW12 hz12
            refine hK.out _ _ k13 (fun hHeld2 => ?_)
            clear hK KK hHeld
            have hHeld := hHeld2
            clear hHeld2
            (try simp only [Act.put, List.setIfInBounds_toArray, List.set_cons_zero, List.set_cons_succ])
            refine wpAnyZ_takep (i := 10) (oi := { dst := some 119, op := Op.nilCheck (Operand.tmp 109), type := 0, pos := "stream.go:146", after := #[{ on := 0, ground := Ground.data }, { on := 0, ground := Ground.phase }, { on := 1, ground := Ground.textOnly Departure.lateStores }, { on := 2, ground := Ground.textOnly Departure.lateStores }, { on := 3, ground := Ground.phase }, { on := 4, ground := Ground.phase }, { on := 5, ground := Ground.phase }, { on := 6, ground := Ground.phase }, { on := 7, ground := Ground.phase }, { on := 8, ground := Ground.textOnly Departure.lateStores }, { on := 9, ground := Ground.phase }], guard := none }) (v := ?vd10) rfl (by kernel_rfl) (by kernel_rfl) (by kernel_rfl) (by decide) (fun _ _ _ h => h) (Or.inl ⟨by rfl, ?yd10⟩) (fun _ => by assumption) ?_
            case yd10 => (intro w hSw; clear hSw; go_simp; try with_reducible rfl)
            (try simp only [Act.put, List.setIfInBounds_toArray, List.set_cons_zero, List.set_cons_succ])
            refine wpAnyZ_takep (i := 11) (oi := { dst := some 120, op := Op.fieldAddr 64 (Operand.tmp 119) 3, type := 0, pos := "stream.go:146", after := #[{ on := 10, ground := Ground.data }, { on := 0, ground := Ground.phase }, { on := 1, ground := Ground.textOnly Departure.lateStores }, { on := 2, ground := Ground.textOnly Departure.lateStores }, { on := 3, ground := Ground.phase }, { on := 4, ground := Ground.phase }, { on := 5, ground := Ground.phase }, { on := 6, ground := Ground.phase }, { on := 7, ground := Ground.phase }, { on := 8, ground := Ground.textOnly Departure.lateStores }, { on := 9, ground := Ground.phase }], guard := none }) (v := ?vd11) rfl (by kernel_rfl) (by kernel_rfl) (by kernel_rfl) (by decide) (fun _ _ _ h => h) (Or.inl ⟨by rfl, ?yd11⟩) (fun _ => by assumption) ?_
            case yd11 => (intro w hSw; clear hSw; go_simp; try with_reducible rfl)
            (try simp only [Act.put, List.setIfInBounds_toArray, List.set_cons_zero, List.set_cons_succ])
            refine wpAnyZ_ready (rs := [12]) (by kernel_rfl) (by simp) ?_
            refine AllReadyZ.last (o := { dst := none, op := Op.store 2 (Operand.tmp 120) (Operand.tmp 116), type := 0, pos := "stream.go:146", after := #[{ on := 11, ground := Ground.data }, { on := 7, ground := Ground.data }, { on := 9, ground := Ground.chain }, { on := 0, ground := Ground.phase }, { on := 1, ground := Ground.textOnly Departure.lateStores }, { on := 2, ground := Ground.textOnly Departure.lateStores }, { on := 3, ground := Ground.phase }, { on := 4, ground := Ground.phase }, { on := 5, ground := Ground.phase }, { on := 6, ground := Ground.phase }, { on := 7, ground := Ground.phase }, { on := 8, ground := Ground.textOnly Departure.lateStores }, { on := 9, ground := Ground.phase }], guard := none }) rfl (by kernel_rfl) (fun KK hK => ?_) AllReadyZ.nil
            have HI14 : Aside0 (IsStr (w13.setCell ⟨sb, 3, none⟩ (.int .i64 (gi + 1))) sb K.db ⟨S.reg, S.size, S.gen + 1, S.half, S.data, S.broken⟩) := Aside0.mk (by
              rw [HG1.out]
              exact blk_put (cs := S.cells K.db) HI13.out 3 _ rfl)
            have HD14 := Aside0.mk (HD13.out.set64 HI13.out 3 (.int .i64 (gi + 1)))
            have hg14 := grown_setCell w13 sb 3 (.int .i64 (gi + 1))
            have HS14 := Aside0.mk (HS13.out.trans (Fs.grown hg14 HN.out.2 n13))
            have n14 := Nat.le_trans n13 hg14.size
            have z14 := blk_frozen HI14.out 4
            have k14 := HI14.out.at.2.2.2.2.1
            clear hg14
            go_simp
            generalize w13.setCell ⟨sb, 3, none⟩ (.int .i64 (gi + 1)) = w14 at *
            clear k13 z13 HI13 HD13 HS13 n13
            refine hK.out _ _ trivial (fun hHeld2 => ?_)
            clear hK KK hHeld
            have hHeld := hHeld2
            clear hHeld2
            (try simp only [Act.put, List.setIfInBounds_toArray, List.set_cons_zero, List.set_cons_succ])
            refine wpAnyZ_takep (i := 13) (oi := { dst := some 121, op := Op.nilCheck (Operand.tmp 110), type := 0, pos := "stream.go:146", after := #[{ on := 1, ground := Ground.data }, { on := 0, ground := Ground.phase }, { on := 1, ground := Ground.phase }, { on := 2, ground := Ground.textOnly Departure.lateStores }, { on := 3, ground := Ground.phase }, { on := 4, ground := Ground.phase }, { on := 5, ground := Ground.phase }, { on := 6, ground := Ground.phase }, { on := 7, ground := Ground.phase }, { on := 8, ground := Ground.phase }, { on := 9, ground := Ground.phase }, { on := 10, ground := Ground.phase }, { on := 11, ground := Ground.phase }, { on := 12, ground := Ground.phase }], guard := none }) (v := ?vd13) rfl (by kernel_rfl) (by kernel_rfl) (by kernel_rfl) (by decide) (fun _ _ _ h => h) (Or.inl ⟨by rfl, ?yd13⟩) (fun h => absurd h (by decide)) ?_
            case yd13 => (intro w hSw; clear hSw; go_simp; try with_reducible rfl)
            (try simp only [Act.put, List.setIfInBounds_toArray, List.set_cons_zero, List.set_cons_succ])
            refine wpAnyZ_takep (i := 14) (oi := { dst := some 122, op := Op.fieldAddr 64 (Operand.tmp 121) 4, type := 0, pos := "stream.go:146", after := #[{ on := 13, ground := Ground.data }, { on := 0, ground := Ground.phase }, { on := 1, ground := Ground.phase }, { on := 2, ground := Ground.textOnly Departure.lateStores }, { on := 3, ground := Ground.phase }, { on := 4, ground := Ground.phase }, { on := 5, ground := Ground.phase }, { on := 6, ground := Ground.phase }, { on := 7, ground := Ground.phase }, { on := 8, ground := Ground.phase }, { on := 9, ground := Ground.phase }, { on := 10, ground := Ground.phase }, { on := 11, ground := Ground.phase }, { on := 12, ground := Ground.phase }], guard := none }) (v := ?vd14) rfl (by kernel_rfl) (by kernel_rfl) (by kernel_rfl) (by decide) (fun _ _ _ h => h) (Or.inl ⟨by rfl, ?yd14⟩) (fun h => absurd h (by decide)) ?_
            case yd14 => (intro w hSw; clear hSw; go_simp; try with_reducible rfl)
            (try simp only [Act.put, List.setIfInBounds_toArray, List.set_cons_zero, List.set_cons_succ])
            refine wpAnyZ_ready (rs := [15]) (by kernel_rfl) (by simp) ?_
            refine AllReadyZ.last (o := { dst := none, op := Op.store 3 (Operand.tmp 122) (Operand.tmp 117), type := 0, pos := "stream.go:146", after := #[{ on := 14, ground := Ground.data }, { on := 8, ground := Ground.data }, { on := 12, ground := Ground.chain }, { on := 0, ground := Ground.phase }, { on := 1, ground := Ground.phase }, { on := 2, ground := Ground.textOnly Departure.lateStores }, { on := 3, ground := Ground.phase }, { on := 4, ground := Ground.phase }, { on := 5, ground := Ground.phase }, { on := 6, ground := Ground.phase }, { on := 7, ground := Ground.phase }, { on := 8, ground := Ground.phase }, { on := 9, ground := Ground.phase }, { on := 10, ground := Ground.phase }, { on := 11, ground := Ground.phase }, { on := 12, ground := Ground.phase }], guard := none }) rfl (by kernel_rfl) (fun KK hK => ?_) AllReadyZ.nil
            have HI15 : Aside0 (IsStr (w14.setCell ⟨sb, 4, none⟩ (.int .i64 (1 - hfi))) sb K.db ⟨S.reg, S.size, S.gen + 1, 1 - S.half, S.data, S.broken⟩) := Aside0.mk (by
              rw [HOI.out]
              exact blk_put (cs := Str.cells ⟨S.reg, S.size, S.gen + 1, S.half, S.data, S.broken⟩ K.db) HI14.out 4 _ rfl)
            have HD15 := Aside0.mk (HD14.out.set64 HI14.out 4 (.int .i64 (1 - hfi)))
            have hg15 := grown_setCell w14 sb 4 (.int .i64 (1 - hfi))
            have HS15 := Aside0.mk (HS14.out.trans (Fs.grown hg15 HN.out.2 n14))
            have n15 := Nat.le_trans n14 hg15.size
            have z15 := blk_frozen HI15.out 5
            have k15 := HI15.out.at.2.2.2.2.2.1
            clear hg15
            go_simp
            generalize w14.setCell ⟨sb, 4, none⟩ (.int .i64 (1 - hfi)) = w15 at *
            clear k14 z14 HI14 HD14 HS14 n14
            refine hK.out _ _ trivial (fun hHeld2 => ?_)
            clear hK KK hHeld
            have hHeld := hHeld2
            clear hHeld2
            (try simp only [Act.put, List.setIfInBounds_toArray, List.set_cons_zero, List.set_cons_succ])
            refine wpAnyZ_takep (i := 16) (oi := { dst := some 123, op := Op.nilCheck (Operand.tmp 111), type := 0, pos := "stream.go:146", after := #[{ on := 2, ground := Ground.data }, { on := 0, ground := Ground.phase }, { on := 1, ground := Ground.phase }, { on := 2, ground := Ground.phase }, { on := 3, ground := Ground.phase }, { on := 4, ground := Ground.phase }, { on := 5, ground := Ground.phase }, { on := 6, ground := Ground.phase }, { on := 7, ground := Ground.phase }, { on := 8, ground := Ground.phase }, { on := 9, ground := Ground.phase }, { on := 10, ground := Ground.phase }, { on := 11, ground := Ground.phase }, { on := 12, ground := Ground.phase }, { on := 13, ground := Ground.phase }, { on := 14, ground := Ground.phase }, { on := 15, ground := Ground.phase }], guard := none }) (v := ?vd16) rfl (by kernel_rfl) (by kernel_rfl) (by kernel_rfl) (by decide) (fun _ _ _ h => h) (Or.inl ⟨by rfl, ?yd16⟩) (fun h => absurd h (by decide)) ?_
            case yd16 => (intro w hSw; clear hSw; go_simp; try with_reducible rfl)
            (try simp only [Act.put, List.setIfInBounds_toArray, List.set_cons_zero, List.set_cons_succ])
            refine wpAnyZ_takep (i := 17) (oi := { dst := some 124, op := Op.fieldAddr 64 (Operand.tmp 123) 5, type := 0, pos := "stream.go:146", after := #[{ on := 16, ground := Ground.data }, { on := 0, ground := Ground.phase }, { on := 1, ground := Ground.phase }, { on := 2, ground := Ground.phase }, { on := 3, ground := Ground.phase }, { on := 4, ground := Ground.phase }, { on := 5, ground := Ground.phase }, { on := 6, ground := Ground.phase }, { on := 7, ground := Ground.phase }, { on := 8, ground := Ground.phase }, { on := 9, ground := Ground.phase }, { on := 10, ground := Ground.phase }, { on := 11, ground := Ground.phase }, { on := 12, ground := Ground.phase }, { on := 13, ground := Ground.phase }, { on := 14, ground := Ground.phase }, { on := 15, ground := Ground.phase }], guard := none }) (v := ?vd17) rfl (by kernel_rfl) (by kernel_rfl) (by kernel_rfl) (by decide) (fun _ _ _ h => h) (Or.inl ⟨by rfl, ?yd17⟩) (fun h => absurd h (by decide)) ?_
            case yd17 => (intro w hSw; clear hSw; go_simp; try with_reducible rfl)
            (try simp only [Act.put, List.setIfInBounds_toArray, List.set_cons_zero, List.set_cons_succ])
            refine wpAnyZ_ready (rs := [18]) (by kernel_rfl) (by simp) ?_
            refine AllReadyZ.last (o := { dst := none, op := Op.store 9 (Operand.tmp 124) (Operand.tmp 118), type := 0, pos := "stream.go:146", after := #[{ on := 17, ground := Ground.data }, { on := 9, ground := Ground.data }, { on := 15, ground := Ground.chain }, { on := 0, ground := Ground.phase }, { on := 1, ground := Ground.phase }, { on := 2, ground := Ground.phase }, { on := 3, ground := Ground.phase }, { on := 4, ground := Ground.phase }, { on := 5, ground := Ground.phase }, { on := 6, ground := Ground.phase }, { on := 7, ground := Ground.phase }, { on := 8, ground := Ground.phase }, { on := 9, ground := Ground.phase }, { on := 10, ground := Ground.phase }, { on := 11, ground := Ground.phase }, { on := 12, ground := Ground.phase }, { on := 13, ground := Ground.phase }, { on := 14, ground := Ground.phase }, { on := 15, ground := Ground.phase }], guard := none }) rfl (by kernel_rfl) (fun KK hK => ?_) AllReadyZ.nil
            have HI16 : Aside0 (IsStr (w15.setCell ⟨sb, 5, none⟩ (.string data)) sb K.db (S.turn data)) := Aside0.mk (blk_put (cs := Str.cells ⟨S.reg, S.size, S.gen + 1, 1 - S.half, S.data, S.broken⟩ K.db) HI15.out 5 _ rfl)
            have HD16 := Aside0.mk (HD15.out.set64 HI15.out 5 (.string data))
            have HS16 := Aside0.mk (HS15.out.trans (Fs.grown (grown_setCell w15 sb 5 (.string data)) HN.out.2 n15))
            go_simp
            generalize w15.setCell ⟨sb, 5, none⟩ (.string data) = w16 at *
            clear k15 z15 HI15 HD15 HS15 n15
            refine hK.out _ _ trivial (fun hHeld2 => ?_)
            clear hK KK hHeld
            have hHeld := hHeld2
            clear hHeld2
            (try simp only [Act.put, List.setIfInBounds_toArray, List.set_cons_zero, List.set_cons_succ])
            refine wpAnyZ_done (by kernel_rfl) ?_ _
            clear hHeld
            go_wp2
            go_ret
            exact HP4.out _ HEE.out HEE2.out HEE3.out HD16.out HI16.out HS16.out
end Go.Proofs.YtldkgfhngonnfaaDoor.S
namespace Go.Proofs.YtldkgfhngonnfaaDoor.S
open Go.RowKit Go.Proofs.YtldkgfhngonnfaaDoor.PTopStreams Go.Proofs.YtldkgfhngonnfaaDoorW.PrintWords Go.Proofs.YtldkgfhngonnfaaDoorW.PrintLast Go.Proofs.YtldkgfhngonnfaaDoorW.PrintMore
set_option linter.unusedVariables false
set_option linter.unusedSimpArgs false
/-- What a region's first sector tells: nothing, or a generation and a half. -/
abbrev Hd := Option (Nat × Nat)
def hdB : Hd → ByteArray
  | none => zeros 64
  | some (g, h) => headB g h
def HdOk : Hd → Prop
  | none => True
  | some (g, h) => 1 ≤ g ∧ g < 281474976710656 ∧ h ≤ 1
def hdGen (x : Hd) : Nat := match x with | none => 0 | some (g, _) => g
def hdHalf (x : Hd) : Nat := match x with | none => 1 | some (_, h) => h
/-- The bytes that the told half holds; the records in them. -/
def recB (H : Nat) (x : Hd) (cs : List Sec) : ByteArray := match x with | none => ⟨#[]⟩ | some (g, h) => joinF g 0 ((cs.drop (h * H)).take H)
def recs (H : Nat) (x : Hd) (cs : List Sec) : List ByteArray := match x with | none => [] | some y => framesF (recB H (some y) cs) 0
/-- The stream that Open makes, ahead of its Reset. -/
def openS (n H : Nat) (x : Hd) (cs : List Sec) : Str := ⟨n, H, max (hdGen x) (newest cs), hdHalf x, ⟨#[]⟩, false⟩
theorem res_err (S : Str) (D : Dsk) (d : ByteArray) : (S.res D d).2 = 0 ∨ (S.res D d).2 = 11 := by
  unfold Str.res
  dsimp only
  split
  · split
    · exact flush_err _ _
    · exact write_err _ _ _ _
  · exact lay_err _ _ _ _
def OpenPost (N : Nat) (W : World) (K : Ad) (P : Dsk × Int) (S : Str) (rs : List ByteArray) (e : Ending) (w' : World) : Prop :=
  IsDisk N w' K P.1 ∧ Fd K N W w' ∧ ((P.2 = 0 ∧ ∃ sb v, e = .returned (.tuple #[.pointer (some ⟨sb, 0, none⟩), v, .int .i64 0]) ∧ W.heap.size ≤ sb ∧ IsStr w' sb K.db S ∧ Kd.R Kd.string 9 w' W.heap.size (fun _ => True) v rs) ∨
    (P.2 = 11 ∧ e = .returned (.tuple #[.pointer none, .slice none 0 0, .int .i64 11])))
theorem getF_body {s : ByteArray} {n n' : Nat} {b : ByteArray} (h : getF s n = some (b, n')) : 1 ≤ b.size ∧ b.size ≤ 4096 := by
  unfold getF at h
  split at h
  · cases h
  · split at h
    · cases h
    · split at h
      · cases h
      · split at h
        · cases h
        · split at h
          · injection h with h
            injection h with h1 h2
            rw [← h1, ByteArray.size_extract]
            omega
          · cases h
theorem allF_body (s : ByteArray) : ∀ (k n : Nat), ∀ b ∈ allF s k n, 1 ≤ b.size ∧ b.size ≤ 4096
  | 0, n, b, hb => by cases hb
  | k + 1, n, b, hb => by
    unfold allF at hb
    split at hb
    · next b' n' he =>
      rcases List.mem_cons.1 hb with rfl | hb
      · exact getF_body he
      · exact allF_body s k n' b hb
    · cases hb
theorem recs_body (H : Nat) (x : Hd) (cs : List Sec) : ∀ b ∈ recs H x cs, 1 ≤ b.size ∧ b.size ≤ 4096 := by
  match x with
  | none => intro b hb; cases hb
  | some y => exact allF_body _ _ _
theorem size_calls (H : Nat) (hH : H ≤ 2000) (w : World) : Calls Tryd.prog 19 #[.int .i64 ((1 + 2 * H : Nat) : Int)] w fun e w' => e = .returned (.int .i64 (H : Int)) ∧ Below w.heap.size w w' := by
  have h : stream_size.f ((1 + 2 * H : Nat) : Int) = some (H : Int) := by
    unfold stream_size.f mx mn
    congr 1
    split <;> split <;> omega
  refine (stream_size.calls _ _ w h).mono ?_
  rintro e w' ⟨rfl, hd⟩
  exact ⟨rfl, hd⟩
theorem add0 (a : Addr) : a.add 0 = a := by
  obtain ⟨b, o, i⟩ := a
  unfold Addr.add
  split <;> simp_all
theorem joinF_size (g : Nat) : ∀ (cs : List Sec) (i : Nat), (∀ s ∈ cs, SecOk s) → (joinF g i cs).size ≤ cs.length * 55
  | [], i, _ => by show (0 : Nat) ≤ _; omega
  | c :: cs, i, h => by
    have h1 := data_size c (h c (by simp))
    have h2 := joinF_size g cs (i + 1) (fun s hs => h s (by simp [hs]))
    unfold joinF
    rw [List.length_cons]
    split
    · split
      · omega
      · rw [ByteArray.size_append]; omega
    · show (0 : Nat) ≤ _; omega
theorem Fd.late {K : Ad} {N sb : Nat} {W wc wd : World} {D : Dsk} (h : IsDisk N W K D) (hb : Below W.heap.size W wc) (hs : W.heap.size ≤ sb) (hf : Fs K sb N wc wd) (hN : N ≤ W.heap.size) : Fd K N W wd :=
  ⟨(hb.mono hN).trans hf.below, Nat.le_trans hb.size hf.size, fun k hk hfr => by
    have e := hb.block k hk
    rw [hf.keep k (Nat.lt_of_lt_of_le hk hb.size) (hfr.step e) (by omega), e]⟩
theorem sub_rows {w : World} {ad : Addr} {rws : List ByteArray} {lo m c8 : Nat} (hC : Kd.C Kd.string w (some ad) rws.length rws) (h : lo + m ≤ rws.length) (hc : rws.length ≤ c8) (h0 : lo < c8) : Kd.C Kd.string w (some (ad.add lo)) ((rws.drop lo).take m).length ((rws.drop lo).take m) := by
  have h2 := Kd.C_mid (lo := lo) (hi := lo + m) (c := c8) hC (by omega) h hc
  rw [if_neg (by omega), show lo * Kd.string.sz = lo from Nat.mul_one lo, List.drop_take, show lo + m - lo = m by omega] at h2
  exact h2
theorem rows_cut (b : ByteArray) (cs : List Sec) (k m : Nat) : ((b :: cs.map secB).drop (1 + k)).take m = ((cs.drop k).take m).map secB := by
  rw [Nat.add_comm, List.drop_succ_cons, List.map_take, List.map_drop]
set_option maxHeartbeats 600000 in
set_option maxRecDepth 100000 in
theorem open_calls (N : Nat) (W : World) (K : Ad) (D : Dsk) (hD : IsDisk N W K D) (hN : N ≤ W.heap.size) (p : Int) (n : Nat) (hp : p = (n : Int)) (R : Reg) (hR : D.regs[n]? = some R) (H : Nat) (h1 : 1 ≤ H) (h2 : H ≤ 1000) (x : Hd) (hx : HdOk x) (cs : List Sec) (hcs : ∀ s ∈ cs, SecOk s) (hl : cs.length = 2 * H) (hla : R.lasts = hdB x :: cs.map secB) (hq : R.queue = []) (hr : Rdy D n (1 + 2 * H) 0)
    (hg : max (hdGen x) (newest cs) + 1 < 281474976710656) (hfit : (frms (recs H x cs)).size + 1 ≤ H * 55) (hrl : (recs H x cs).length < 1000000) :
    Calls Tryd.prog 9 #[.pointer (some ⟨K.db, 0, none⟩), .int .i64 p] W fun e w' => OpenPost N W K ((openS n H x cs).res D (frms (recs H x cs))) ((openS n H x cs).turn (frms (recs H x cs))) (recs H x cs) e w' := by
  have hu := Tryd.underlying64
  have hu9 := Tryd.underlying9
  have hu29 := Tryd.underlying29
  have hLe : R.lasts.length = 1 + 2 * H := by rw [hla, List.length_cons, List.length_map, hl]; omega
  have hRS : R.lasts.length ≤ 5000 := by omega
  have HS := Aside0.mk (sectors_calls N W K D hD p n hp R hR)
  have HZ := Aside0.mk (size_calls H (by omega) W)
  have HRD := Aside0.mk (fun w (h : IsDisk N w K D) => sread_calls N w K D h p n hp R hR hq hr.on hRS)
  obtain ⟨L, hL⟩ : ∃ L, L = R.lasts.length := ⟨_, rfl⟩
  have hLH : L = 1 + 2 * H := hL.trans hLe
  rw [← hL] at HS
  rw [← hLH] at HZ
  obtain ⟨z, hz⟩ : ∃ z : Int, z = (H : Int) := ⟨_, rfl⟩
  rw [← hz] at HZ
  have hz1 : 1 ≤ z := by omega
  have hz2 : z ≤ 1000 := by omega
  have hzn : (z == 0) = false := by rw [beq_eq_false_iff_ne]; omega
  have hL0 : (0 : Int) < (L : Int) := by omega
  have hxg : hdGen x < 281474976710656 := by omega
  have hxh : hdHalf x ≤ 1 := by
    match x, hx with
    | none, _ => exact Nat.le_refl _
    | some (g, h), hx => exact hx.2.2
  obtain ⟨rs, hrs⟩ : ∃ rs, rs = recs H x cs := ⟨_, rfl⟩
  have hbody := recs_body H x cs
  rw [← hrs] at hfit hrl hbody ⊢
  obtain ⟨PW, hPW⟩ : ∃ q, q = (openS n H x cs).res D (frms rs) := ⟨_, rfl⟩
  have hper : PW.2 = 0 ∨ PW.2 = 11 := by rw [hPW]; exact res_err _ _ _
  obtain ⟨S1, hS1⟩ : ∃ s, s = (openS n H x cs).turn (frms rs) := ⟨_, rfl⟩
  rw [← hPW, ← hS1]
  have HRE := Aside0.mk (fun (w : World) (hd : IsDisk N w K D) (hn : N ≤ w.heap.size) (sb : Nat) (hs : IsStr w sb K.db (openS n H x cs)) (hsn : N ≤ sb) (hf : Free K w sb) (A : Option Addr) (c : Nat) (hA : Kd.C Kd.string w A rs.length rs) => reset_calls N w K D hd hn sb (openS n H x cs) hs hsn hf (1 + 2 * H) hr rfl h2 hxh (Nat.le_refl _) (by omega) hg rs hbody hrl A c hA hfit)
  rw [← hPW, ← hS1] at HRE
  have HNE := Aside0.mk (fun (A : Option Addr) (c : Nat) (W : World) (hA : Kd.C Kd.string W A cs.length (cs.map secB)) => newest_calls cs hcs (by omega) A c W hA)
  have HD := Aside0.mk hD
  have HN := Aside0.mk hN
  have HP := Aside0.mk hp
  have HZI := Aside0.mk hz
  obtain ⟨rws, hrw⟩ : ∃ r, r = hdB x :: cs.map secB := ⟨_, rfl⟩
  have HLA := Aside0.mk (show R.lasts = rws ∧ L = R.lasts.length ∧ cs.length = 2 * H ∧ rws = hdB x :: cs.map secB from ⟨hla.trans hrw.symm, hL, hl, hrw⟩)
  have hrl2 : rws.length = 1 + 2 * H := by rw [hrw, List.length_cons, List.length_map, hl]; omega
  have hrl0 : (0 : Int) < (rws.length : Int) := by omega
  have hrl1 : (rws.length : Int) = 1 + 2 * z := by omega
  have HRS := Aside0.mk hrs
  have HCS := Aside0.mk hcs
  have HX := Aside0.mk hx
  have HB0 := Aside0.mk (Below.refl W.heap.size W)
  have HNUM := Aside0.mk (show 1 ≤ H ∧ H ≤ 1000 ∧ hdGen x < 281474976710656 ∧ hdHalf x ≤ 1 ∧ max (hdGen x) (newest cs) + 1 < 281474976710656 from ⟨h1, h2, hxg, hxh, hg⟩)
  have HRL := Aside0.mk hrl1
  clear hD hN hp hz hla hrw hrl1 hrl2 hq hr hg hfit hrl hLe hRS hbody hPW hS1 hrs hcs hx hR
  clear h1 h2 hxg hxh hl hLH hL
  go_enter Tryd.func9, Tryd.ntmps9
  go_upto_region 11 with (first | (go_at_call 20; go_loud (refine HS.out.mono ?_; rintro e w' ⟨rfl, rfl⟩)) | (go_at_call 19; go_loud (refine HZ.out.mono ?_; rintro e w1 ⟨rfl, hb⟩; have HB1 := Aside0.mk hb; clear hb)) | (go_at_call 21; go_loud (refine (HRD.out w1 (HD.out.below HB1.out)).mono ?_; rintro e w2 ⟨v, rfl, hr2, hb⟩; have HB2 := Aside0.mk (below_step HB1.out hb); have HR2 := Aside0.mk hr2; rw [HLA.out.1] at HR2; obtain ⟨A8, c8, rfl⟩ := Kd.R_slice HR2.out; clear hb hr2)))
  have hb3 := below_alloc (Below.refl w2.heap.size w2) (.cells #[.pointer (some ⟨K.db, 0, none⟩), .int .i64 p, .int .i64 z, .int .i64 0, .int .i64 1, .string ⟨#[]⟩, .bool false] 64)
  have HI3 : Aside0 (IsStr (w2.alloc (.cells #[.pointer (some ⟨K.db, 0, none⟩), .int .i64 p, .int .i64 z, .int .i64 0, .int .i64 1, .string ⟨#[]⟩, .bool false] 64)) w2.heap.size K.db ⟨n, H, 0, 1, ⟨#[]⟩, false⟩) := Aside0.mk (by
    rw [HP.out, HZI.out]
    exact blk_new w2 _)
  have HB3 := Aside0.mk (below_step HB2.out hb3)
  have HR3 := Aside0.mk (Kd.R_lower (Kd.R_below HR2.out hb3) HB1.out.size)
  have HSB := Aside0.mk HB2.out.size
  clear hb3 HR2 HB2
  generalize w2.alloc (.cells #[.pointer (some ⟨K.db, 0, none⟩), .int .i64 p, .int .i64 z, .int .i64 0, .int .i64 1, .string ⟨#[]⟩, .bool false] 64) = w3 at *
  generalize w2.heap.size = sb at *
  obtain ⟨ad, hA, hcell⟩ := Kd.at_string (Kd.R_reads' HR3.out).2.2 0 (by omega) hrl0
  subst hA
  have hrd : rdOf ByteArray.empty rws 0 = hdB x := by rw [HLA.out.2.2.2]; rfl
  rw [hrd, show (0 : Int).toNat = 0 from rfl, add0] at hcell
  clear hrd
  cases x with
  | none =>
    have HPC := Aside0.mk (hparse_none w3)
    replace hcell : w3.cell? ad = some (.string (zeros 64)) := hcell
    generalize zeros 64 = s0 at *
    go_upto_region 16 with (first | (go_at_call 22; go_loud (refine HPC.out.mono ?_; rintro e w9 ⟨rfl, hb⟩; have HB9 := Aside0.mk (below_step HB3.out hb); have HI9 := Aside0.mk (HI3.out.below hb); have HR9 := Aside0.mk (Kd.R_below HR3.out hb); have HV9 := Aside0.mk (Kd.R_nil Kd.string 9 w9 W.heap.size (fun _ => True)); clear hb hcell)))
    have hrs0 : rs = [] := HRS.out
    subst hrs0
    have HRC : Aside0 (∀ w, IsDisk N w K D → N ≤ w.heap.size → IsStr w sb K.db (openS n H none cs) → Free K w sb → Kd.R Kd.string 9 w W.heap.size (fun _ => True) (.slice none 0 0) [] → Calls Tryd.prog 27 #[.pointer (some ⟨sb, 0, none⟩), .slice none 0 0] w fun e w' => e = .returned (.int .i64 PW.2) ∧ IsDisk N w' K PW.1 ∧ IsStr w' sb K.db (if PW.2 = 0 then S1 else (openS n H none cs).brk) ∧ Fs K sb N w w') := Aside0.mk (fun w hd hn hs hf hR => HRE.out w hd hn sb hs (Nat.le_trans HN.out HSB.out) hf _ _ (Kd.R_reads' hR).2.2)
    have HNW : Aside0 (∀ w, Kd.R Kd.string 9 w W.heap.size (fun _ => True) (.slice (some ad) rws.length c8) rws → Calls Tryd.prog 26 #[.slice (if c8 = 1 then some ad else some { block := ad.block, off := ad.off + 1 }) ((1 + 2 * z).toNat - 1) (c8 - 1)] w fun e w' => e = .returned (.int .i64 (newest cs : Int)) ∧ Below w.heap.size w w') := Aside0.mk (fun w hR => by
      have hC := (Kd.R_reads' hR).2.2
      have hc8 := (Kd.R_reads' hR).2.1
      have hln : rws.length = 1 + 2 * H := by have := HRL.out; have := HZI.out; omega
      have h3 := sub_rows (lo := 1) (m := 2 * H) hC (by omega) hc8 (by have := HNUM.out.1; omega)
      have h4 := rows_cut (hdB none) cs 0 (2 * H)
      rw [Nat.add_zero, List.drop_zero] at h4
      rw [HLA.out.2.2.2, h4, List.take_of_length_le (by rw [HLA.out.2.2.1]; omega), List.length_map] at h3
      have e1 : (1 + 2 * z).toNat - 1 = cs.length := by rw [HLA.out.2.2.1]; have := HZI.out; omega
      rw [e1, if_neg (by have := HNUM.out.1; omega)]
      exact HNE.out _ _ w h3)
    obtain ⟨nw, hnw⟩ : ∃ q : Int, (newest cs : Int) = q := ⟨_, rfl⟩
    rw [hnw] at HNW
    obtain ⟨gm, hgm⟩ : ∃ q : Int, max 0 nw = q := ⟨_, rfl⟩
    have HGM : Aside0 (gm = ((max (hdGen none) (newest cs) : Nat) : Int)) := Aside0.mk (by
      rw [← hgm, ← hnw]
      skip
      show _ = ((max 0 (newest cs) : Nat) : Int)
      omega)
    have hcz : (1 : Int) + 2 * z ≤ (c8 : Int) := by have := HRL.out; have := (Kd.R_reads' HR9.out).2.1; omega
    have hw2 : IntKind.i64.wrap (2 * z) = 2 * z := by rw [IntKind.wrap_i64]; omega
    have hw3 : IntKind.i64.wrap (1 + 2 * z) = 1 + 2 * z := by rw [IntKind.wrap_i64]; omega
    have h13 : (1 : Int) ≤ 1 + 2 * z := by omega
    have h03 : (0 : Int) ≤ 1 + 2 * z := by omega
    have HBa := Aside0.mk (below_step HB9.out (below_drew1 (Below.refl w9.heap.size w9)))
    have HIa := Aside0.mk (HI9.out.below (below_drew1 (Below.refl w9.heap.size w9)))
    have HRa := Aside0.mk (Kd.R_below HR9.out (below_drew1 (Below.refl w9.heap.size w9)))
    have HVa := Aside0.mk (Kd.R_below HV9.out (below_drew1 (Below.refl w9.heap.size w9)))
    have ka : w9.drew.cell? ⟨sb, 3, none⟩ = some (.int .i64 (0)) := by
      have := HIa.out.at.2.2.2.1
      exact this
    refine wp_region_z_drew (S := fun w => w.cell? ⟨sb, 3, none⟩ = some (.int .i64 (0))) 14 (by kernel_rfl) ka (fun hHeld => ?_)
    clear ka hnw
    generalize w9.drew = wa at *
    refine wpAnyZ_take (i := 0) (oi := { dst := some 72, op := Op.move (Operand.tmp 10), type := 27, pos := "stream.go:82", after := #[], guard := none }) (v := ?va0) rfl (by kernel_rfl) (by kernel_rfl) (by kernel_rfl) (by kernel_rfl) (by kernel_rfl) (fun _ _ _ h => h) (Or.inl ⟨by rfl, ?ya0⟩) (by assumption) ?_
    case ya0 => (intro w hSw; (try dsimp only at hSw); go_simp; try with_reducible rfl)
    (try simp only [Act.put, List.setIfInBounds_toArray, List.set_cons_zero, List.set_cons_succ])
    refine wpAnyZ_take (i := 1) (oi := { dst := some 73, op := Op.move (Operand.tmp 10), type := 27, pos := "stream.go:82", after := #[], guard := none }) (v := ?va1) rfl (by kernel_rfl) (by kernel_rfl) (by kernel_rfl) (by kernel_rfl) (by kernel_rfl) (fun _ _ _ h => h) (Or.inl ⟨by rfl, ?ya1⟩) (by assumption) ?_
    case ya1 => (intro w hSw; (try dsimp only at hSw); go_simp; try with_reducible rfl)
    (try simp only [Act.put, List.setIfInBounds_toArray, List.set_cons_zero, List.set_cons_succ])
    refine wpAnyZ_take (i := 2) (oi := { dst := some 74, op := Op.nilCheck (Operand.tmp 73), type := 0, pos := "stream.go:82", after := #[{ on := 1, ground := Ground.data }], guard := none }) (v := ?va2) rfl (by kernel_rfl) (by kernel_rfl) (by kernel_rfl) (by kernel_rfl) (by kernel_rfl) (fun _ _ _ h => h) (Or.inl ⟨by rfl, ?ya2⟩) (by assumption) ?_
    case ya2 => (intro w hSw; (try dsimp only at hSw); go_simp; try with_reducible rfl)
    (try simp only [Act.put, List.setIfInBounds_toArray, List.set_cons_zero, List.set_cons_succ])
    refine wpAnyZ_take (i := 3) (oi := { dst := some 75, op := Op.fieldAddr 64 (Operand.tmp 74) 3, type := 0, pos := "stream.go:82", after := #[{ on := 2, ground := Ground.data }], guard := none }) (v := ?va3) rfl (by kernel_rfl) (by kernel_rfl) (by kernel_rfl) (by kernel_rfl) (by kernel_rfl) (fun _ _ _ h => h) (Or.inl ⟨by rfl, ?ya3⟩) (by assumption) ?_
    case ya3 => (intro w hSw; (try dsimp only at hSw); go_simp; try with_reducible rfl)
    (try simp only [Act.put, List.setIfInBounds_toArray, List.set_cons_zero, List.set_cons_succ])
    refine wpAnyZ_take (i := 4) (oi := { dst := some 76, op := Op.load 2 (Operand.tmp 75), type := 2, pos := "stream.go:82", after := #[{ on := 3, ground := Ground.data }], guard := none }) (v := ?va4) rfl (by kernel_rfl) (by kernel_rfl) (by kernel_rfl) (by kernel_rfl) (by kernel_rfl) (fun _ _ _ h => h) (Or.inl ⟨by rfl, ?ya4⟩) (by assumption) ?_
    case ya4 => (intro w hSw; (try dsimp only at hSw); go_simp; try with_reducible rfl)
    (try simp only [Act.put, List.setIfInBounds_toArray, List.set_cons_zero, List.set_cons_succ])
    refine wpAnyZ_take (i := 5) (oi := { dst := some 77, op := Op.move (Operand.tmp 8), type := 29, pos := "stream.go:82", after := #[], guard := none }) (v := ?va5) rfl (by kernel_rfl) (by kernel_rfl) (by kernel_rfl) (by kernel_rfl) (by kernel_rfl) (fun _ _ _ h => h) (Or.inl ⟨by rfl, ?ya5⟩) (by assumption) ?_
    case ya5 => (intro w hSw; (try dsimp only at hSw); go_simp; try with_reducible rfl)
    (try simp only [Act.put, List.setIfInBounds_toArray, List.set_cons_zero, List.set_cons_succ])
    refine wpAnyZ_take (i := 6) (oi := { dst := some 78, op := Op.move (Operand.tmp 7), type := 3, pos := "stream.go:82", after := #[], guard := none }) (v := ?va6) rfl (by kernel_rfl) (by kernel_rfl) (by kernel_rfl) (by kernel_rfl) (by kernel_rfl) (fun _ _ _ h => h) (Or.inl ⟨by rfl, ?ya6⟩) (by assumption) ?_
    case ya6 => (intro w hSw; (try dsimp only at hSw); go_simp; try with_reducible rfl)
    (try simp only [Act.put, List.setIfInBounds_toArray, List.set_cons_zero, List.set_cons_succ])
    refine wpAnyZ_take (i := 7) (oi := { dst := some 79, op := Op.binOp BinOp.mul 3 (Operand.const (Value.int IntKind.i64 2)) (Operand.tmp 78) 3, type := 3, pos := "stream.go:82", after := #[{ on := 6, ground := Ground.data }], guard := none }) (v := ?va7) rfl (by kernel_rfl) (by kernel_rfl) (by kernel_rfl) (by kernel_rfl) (by kernel_rfl) (fun _ _ _ h => h) (Or.inl ⟨by rfl, ?ya7⟩) (by assumption) ?_
    case ya7 => (intro w hSw; (try dsimp only at hSw); go_simp; try with_reducible rfl)
    (try simp only [Act.put, List.setIfInBounds_toArray, List.set_cons_zero, List.set_cons_succ])
    refine wpAnyZ_take (i := 8) (oi := { dst := some 80, op := Op.binOp BinOp.add 3 (Operand.const (Value.int IntKind.i64 1)) (Operand.tmp 79) 3, type := 3, pos := "stream.go:82", after := #[{ on := 7, ground := Ground.data }], guard := none }) (v := ?va8) rfl (by kernel_rfl) (by kernel_rfl) (by kernel_rfl) (by kernel_rfl) (by kernel_rfl) (fun _ _ _ h => h) (Or.inl ⟨by rfl, ?ya8⟩) (by assumption) ?_
    case ya8 => (intro w hSw; (try dsimp only at hSw); go_simp; try with_reducible rfl)
    (try simp only [Act.put, List.setIfInBounds_toArray, List.set_cons_zero, List.set_cons_succ])
    refine wpAnyZ_take (i := 9) (oi := { dst := some 81, op := Op.slice 29 (Operand.tmp 77) (some (Operand.const (Value.int IntKind.i64 1))) (some (Operand.tmp 80)) none, type := 29, pos := "stream.go:82", after := #[{ on := 5, ground := Ground.data }, { on := 8, ground := Ground.data }], guard := none }) (v := ?va9) rfl (by kernel_rfl) (by kernel_rfl) (by kernel_rfl) (by kernel_rfl) (by kernel_rfl) (fun _ _ _ h => h) (Or.inl ⟨by rfl, ?ya9⟩) (by assumption) ?_
    case ya9 => (intro w hSw; (try dsimp only at hSw); go_simp; try with_reducible rfl)
    (try simp only [Act.put, List.setIfInBounds_toArray, List.set_cons_zero, List.set_cons_succ])
    refine wpAnyZ_ready (rs := [10]) (by kernel_rfl) (by simp) ?_
    refine AllReadyZ.cons (o := { dst := some 82, op := Op.call { callee := Callee.value (Operand.func 26), args := #[Operand.tmp 81], argTypes := #[29] }, type := 2, pos := "stream.go:82", after := #[{ on := 9, ground := Ground.data }], guard := none }) rfl (fun KK hK => ?_) AllReadyZ.nil
    go_simp
    go_at_call 26
    go_loud (refine (HNW.out wa HRa.out).mono ?_; rintro e wb ⟨rfl, hb⟩)
    have HBb := Aside0.mk (below_step HBa.out hb)
    have HIb := Aside0.mk (HIa.out.below hb)
    have HVb := Aside0.mk (Kd.R_below HVa.out hb)
    have kb : wb.cell? ⟨sb, 3, none⟩ = some (.int .i64 (0)) := by
      have := HIb.out.at.2.2.2.1
      exact this
    have zb := blk_frozen HIb.out 3
    clear hb
    refine hK.out _ _ kb (fun hHeld2 => ?_)
    clear hK KK hHeld
    have hHeld := hHeld2
    clear hHeld2
    (try simp only [Act.put, List.setIfInBounds_toArray, List.set_cons_zero, List.set_cons_succ])
    refine wpAnyZ_take (i := 11) (oi := { dst := some 83, op := Op.call { callee := Callee.builtin Builtin.max, args := #[Operand.tmp 76, Operand.tmp 82], argTypes := #[2, 2] }, type := 2, pos := "stream.go:82", after := #[{ on := 4, ground := Ground.data }, { on := 10, ground := Ground.data }], guard := none }) (v := ?va11) rfl (by kernel_rfl) (by kernel_rfl) (by kernel_rfl) (by kernel_rfl) (by kernel_rfl) (fun _ _ _ h => h) (Or.inl ⟨by rfl, ?ya11⟩) (by assumption) ?_
    case ya11 => (intro w hSw; (try dsimp only at hSw); go_simp; try with_reducible rfl)
    (try simp only [Act.put, List.setIfInBounds_toArray, List.set_cons_zero, List.set_cons_succ])
    refine wpAnyZ_takep (i := 12) (oi := { dst := some 84, op := Op.nilCheck (Operand.tmp 72), type := 0, pos := "stream.go:82", after := #[{ on := 0, ground := Ground.data }, { on := 0, ground := Ground.phase }, { on := 1, ground := Ground.phase }, { on := 2, ground := Ground.phase }, { on := 3, ground := Ground.phase }, { on := 4, ground := Ground.phase }, { on := 5, ground := Ground.phase }, { on := 6, ground := Ground.phase }, { on := 7, ground := Ground.phase }, { on := 8, ground := Ground.phase }, { on := 9, ground := Ground.phase }, { on := 10, ground := Ground.phase }, { on := 11, ground := Ground.phase }], guard := none }) (v := ?va12) rfl (by kernel_rfl) (by kernel_rfl) (by kernel_rfl) (by decide) (fun _ _ _ h => h) (Or.inl ⟨by rfl, ?ya12⟩) (fun _ => by assumption) ?_
    case ya12 => (intro w hSw; clear hSw; go_simp; try with_reducible rfl)
    (try simp only [Act.put, List.setIfInBounds_toArray, List.set_cons_zero, List.set_cons_succ])
    refine wpAnyZ_takep (i := 13) (oi := { dst := some 85, op := Op.fieldAddr 64 (Operand.tmp 84) 3, type := 0, pos := "stream.go:82", after := #[{ on := 12, ground := Ground.data }, { on := 0, ground := Ground.phase }, { on := 1, ground := Ground.phase }, { on := 2, ground := Ground.phase }, { on := 3, ground := Ground.phase }, { on := 4, ground := Ground.phase }, { on := 5, ground := Ground.phase }, { on := 6, ground := Ground.phase }, { on := 7, ground := Ground.phase }, { on := 8, ground := Ground.phase }, { on := 9, ground := Ground.phase }, { on := 10, ground := Ground.phase }, { on := 11, ground := Ground.phase }], guard := none }) (v := ?va13) rfl (by kernel_rfl) (by kernel_rfl) (by kernel_rfl) (by decide) (fun _ _ _ h => h) (Or.inl ⟨by rfl, ?ya13⟩) (fun _ => by assumption) ?_
    case ya13 => (intro w hSw; clear hSw; go_simp; try with_reducible rfl)
    (try simp only [Act.put, List.setIfInBounds_toArray, List.set_cons_zero, List.set_cons_succ])
    refine wpAnyZ_ready (rs := [14]) (by kernel_rfl) (by simp) ?_
    refine AllReadyZ.last (o := { dst := none, op := Op.store 2 (Operand.tmp 85) (Operand.tmp 83), type := 0, pos := "stream.go:82", after := #[{ on := 13, ground := Ground.data }, { on := 11, ground := Ground.data }, { on := 10, ground := Ground.chain }, { on := 0, ground := Ground.phase }, { on := 1, ground := Ground.phase }, { on := 2, ground := Ground.phase }, { on := 3, ground := Ground.phase }, { on := 4, ground := Ground.phase }, { on := 5, ground := Ground.phase }, { on := 6, ground := Ground.phase }, { on := 7, ground := Ground.phase }, { on := 8, ground := Ground.phase }, { on := 9, ground := Ground.phase }, { on := 10, ground := Ground.phase }, { on := 11, ground := Ground.phase }], guard := none }) rfl (by kernel_rfl) (fun KK hK => ?_) AllReadyZ.nil
    have HIc : Aside0 (IsStr (wb.setCell ⟨sb, 3, none⟩ (.int .i64 gm)) sb K.db (openS n H none cs)) := Aside0.mk (by
      rw [HGM.out]
      exact blk_put (cs := Str.cells ⟨n, H, 0, 1, ⟨#[]⟩, false⟩ K.db) HIb.out 3 _ rfl)
    have HVc := Aside0.mk (Kd.R_set HVb.out HIb.out (by rw [show Kd.string.E = [] from rfl]; simp) 3 (.int .i64 gm))
    have HBc := Aside0.mk (HBb.out.setCell (p := ⟨sb, 3, none⟩) HSB.out (.int .i64 gm))
    go_simp
    generalize wb.setCell ⟨sb, 3, none⟩ (.int .i64 gm) = wc at *
    clear kb zb HIb HVb HBb
    refine hK.out _ _ trivial (fun hHeld2 => ?_)
    clear hK KK hHeld
    have hHeld := hHeld2
    clear hHeld2
    (try simp only [Act.put, List.setIfInBounds_toArray, List.set_cons_zero, List.set_cons_succ])
    refine wpAnyZ_done (by kernel_rfl) ?_ _
    clear hHeld hgm
    have hnc : N ≤ wc.heap.size := Nat.le_trans HN.out HBc.out.size
    have HR17 := Aside0.mk (HRC.out wc (HD.out.below HBc.out) hnc HIc.out (free_late2 HD.out HSB.out HIc.out (by decide)) HVc.out)
    have HFIN : Aside0 (∀ wd, PW.2 = 0 → IsDisk N wd K PW.1 → IsStr wd sb K.db (if PW.2 = 0 then S1 else (openS n H none cs).brk) → Fs K sb N wc wd → OpenPost N W K PW S1 [] (.returned (.tuple #[.pointer (some ⟨sb, 0, none⟩), .slice none 0 0, .int .i64 0])) wd) := Aside0.mk (fun wd h0 hd hs hf => by
      rw [if_pos h0] at hs
      refine ⟨hd, Fd.late HD.out HBc.out HSB.out hf HN.out, .inl ⟨h0, sb, _, rfl, HSB.out, hs, ?_⟩⟩
      exact R_own_step rfl HVc.out (fun k hk hlt => by
        obtain ⟨cells, hc⟩ := Kd.R_typed HVc.out k hk
        exact hf.keep k hlt (free_late2 HD.out (Kd.R_base HVc.out k hk) hc (by decide)) (fun e => blk_ne hc HIc.out (by decide) e)))
    have HFIF : Aside0 (∀ wd, PW.2 = 11 → IsDisk N wd K PW.1 → Fs K sb N wc wd → OpenPost N W K PW S1 [] (.returned (.tuple #[.pointer none, .slice none 0 0, .int .i64 11])) wd) := Aside0.mk (fun wd h0 hd hf =>
      ⟨hd, Fd.late HD.out HBc.out HSB.out hf HN.out, .inr ⟨h0, rfl⟩⟩)
    clear HRC HNW HNE HRE HIc HVc HRa HVa HIa HBa HB9 HI9 HR9 HV9
    rcases hper with he | he
    · have HEE := Aside0.mk he
      obtain ⟨ST, hST⟩ : ∃ s : Str, s = (if PW.2 = 0 then S1 else (openS n H none cs).brk) := ⟨_, rfl⟩
      rw [← hST] at HFIN HR17
      rw [he] at HR17
      clear he hST
      go_wp2_with (first | (go_at_call 27; go_loud (refine HR17.out.mono ?_; rintro e wd ⟨rfl, hd, hs, hf⟩; have HDd := Aside0.mk hd; have HId := Aside0.mk hs; have HFd := Aside0.mk hf; clear hd hs hf)))
      go_ret3
      exact HFIN.out wd HEE.out HDd.out HId.out HFd.out
    · have HEE := Aside0.mk he
      rw [he] at HR17
      clear he
      go_wp2_with (first | (go_at_call 27; go_loud (refine HR17.out.mono ?_; rintro e wd ⟨rfl, hd, hs, hf⟩; have HDd := Aside0.mk hd; have HFd := Aside0.mk hf; clear hd hs hf)))
      go_ret3
      exact HFIF.out wd HEE.out HDd.out HFd.out
  | some gh =>
    obtain ⟨g, h⟩ := gh
    obtain ⟨gi, hgi⟩ : ∃ q : Int, q = (g : Int) := ⟨_, rfl⟩
    obtain ⟨hi, hhi⟩ : ∃ q : Int, q = (h : Int) := ⟨_, rfl⟩
    have HPC := Aside0.mk (hparse_some g h HX.out.1 HX.out.2.1 HX.out.2.2 w3)
    rw [← hgi, ← hhi] at HPC
    have HGI := Aside0.mk hgi
    have HHI := Aside0.mk hhi
    clear hgi hhi
    replace hcell : w3.cell? ad = some (.string (headB g h)) := hcell
    generalize headB g h = s0 at *
    go_upto_region 13 with (first | (go_at_call 22; go_loud (refine HPC.out.mono ?_; rintro e w4 ⟨rfl, hb⟩; have HB4 := Aside0.mk (below_step HB3.out hb); have HI4 := Aside0.mk (HI3.out.below hb); have HR4 := Aside0.mk (Kd.R_below HR3.out hb); clear hb hcell)))
    have k3 := HI4.out.at.2.2.2.1
    have k4 := HI4.out.at.2.2.2.2.1
    have z3 := blk_frozen HI4.out 3
    have z4 := blk_frozen HI4.out 4
    go_upto_region 14 with (fail)
    have g3 := grown_setCell w4 sb 3 (.int .i64 gi)
    have i3 : IsStr (w4.setCell ⟨sb, 3, none⟩ (.int .i64 gi)) sb K.db ⟨n, H, g, 1, ⟨#[]⟩, false⟩ := by
      rw [HGI.out]
      exact blk_put (cs := Str.cells ⟨n, H, 0, 1, ⟨#[]⟩, false⟩ K.db) HI4.out 3 _ rfl
    have r3 := Kd.R_set HR4.out HI4.out (by rw [show Kd.string.E = [] from rfl]; simp) 3 (.int .i64 gi)
    have b3 := HB4.out.setCell (p := ⟨sb, 3, none⟩) HSB.out (.int .i64 gi)
    clear g3 HB4 HI4 HR4 k3 k4 z3 z4
    generalize w4.setCell ⟨sb, 3, none⟩ (.int .i64 gi) = w5 at *
    have HI5 : Aside0 (IsStr (w5.setCell ⟨sb, 4, none⟩ (.int .i64 hi)) sb K.db ⟨n, H, g, h, ⟨#[]⟩, false⟩) := Aside0.mk (by
      rw [HHI.out]
      exact blk_put (cs := Str.cells ⟨n, H, g, 1, ⟨#[]⟩, false⟩ K.db) i3 4 _ rfl)
    have HR5 := Aside0.mk (Kd.R_set r3 i3 (by rw [show Kd.string.E = [] from rfl]; simp) 4 (.int .i64 hi))
    have HB5 := Aside0.mk (b3.setCell (p := ⟨sb, 4, none⟩) HSB.out (.int .i64 hi))
    clear i3 r3 b3
    generalize w5.setCell ⟨sb, 4, none⟩ (.int .i64 hi) = w6 at *
    obtain ⟨f, hf⟩ : ∃ q : Int, 1 + (h : Int) * (H : Int) = q := ⟨_, rfl⟩
    have HFR := Aside0.mk (from_calls w6 sb K.db _ HI5.out (by show H ≤ 5000; have := HNUM.out; omega) HX.out.2.2)
    have HFR : Aside0 (Calls Tryd.prog 23 #[.pointer (some ⟨sb, 0, none⟩)] w6 fun e w' => e = .returned (.int .i64 f) ∧ Below w6.heap.size w6 w') := Aside0.mk (by rw [← hf]; exact HFR.out)
    have hf2 : 1 ≤ f ∧ f + z ≤ 1 + 2 * z ∧ f.toNat = 1 + h * H := by
      have hh := HX.out.2.2
      have hzi := HZI.out
      rcases (show h = 0 ∨ h = 1 by omega) with e | e
      · subst e; simp at hf; omega
      · subst e; simp at hf; omega
    obtain ⟨hf1, hf2, hf3⟩ := hf2
    have hc8 := (Kd.R_reads' HR5.out).2.1
    have hfc : f + z ≤ (c8 : Int) := by have := HRL.out; omega
    have hwf : IntKind.i64.wrap (f + z) = f + z := by rw [IntKind.wrap_i64]; omega
    have hff : f ≤ f + z := by omega
    have hf0 : 0 ≤ f := by omega
    have HFF := Aside0.mk (show f.toNat = 1 + h * H ∧ rws.length ≤ c8 ∧ f + z ≤ 1 + 2 * z from ⟨hf3, hc8, hf2⟩)
    have HJT : Aside0 (∀ w, Kd.R Kd.string 9 w W.heap.size (fun _ => True) (.slice (some ad) rws.length c8) rws → Calls Tryd.prog 25 #[.slice (some (ad.add f.toNat)) ((f + z).toNat - f.toNat) (c8 - f.toNat), .int .i64 gi] w fun e w' => e = .returned (.string (recB H (some (g, h)) cs)) ∧ Below w.heap.size w w') := Aside0.mk (fun w hR => by
      have hC := (Kd.R_reads' hR).2.2
      have hln : rws.length = 1 + 2 * H := by have := HRL.out; have := HZI.out; omega
      have hlo : 1 + h * H + H ≤ rws.length := by have := HZI.out; omega
      have h3 := sub_rows hC hlo hc8 (by have := HNUM.out.1; omega)
      rw [HLA.out.2.2.2, rows_cut] at h3
      have hcl : ((cs.drop (h * H)).take H).length = H := by rw [List.length_take, List.length_drop, HLA.out.2.2.1]; omega
      rw [List.length_map] at h3
      have e1 : (f + z).toNat - f.toNat = ((cs.drop (h * H)).take H).length := by rw [hcl]; have := HZI.out; omega
      rw [e1, hf3]
      exact join_calls _ (fun s hs => HCS.out s (List.mem_of_mem_drop (List.mem_of_mem_take hs))) (by rw [hcl]; have := HNUM.out; omega) g gi HGI.out _ _ w h3)
    have HFAL : Aside0 (∀ w, Calls Tryd.prog 24 #[.string (recB H (some (g, h)) cs)] w fun e w' => ∃ v n, e = .returned (.tuple #[v, .int .i64 n]) ∧ Kd.R Kd.string 9 w' w.heap.size (fun _ => True) v rs ∧ Below w.heap.size w w') := Aside0.mk (fun w => by
      rw [HRS.out]
      refine fall_calls _ ?_ w
      have h3 := joinF_size g ((cs.drop (h * H)).take H) 0 (fun s hs => HCS.out s (List.mem_of_mem_drop (List.mem_of_mem_take hs)))
      have hcl : ((cs.drop (h * H)).take H).length ≤ H := by rw [List.length_take]; omega
      have h4 : (recB H (some (g, h)) cs).size ≤ ((cs.drop (h * H)).take H).length * 55 := h3
      have := HNUM.out
      omega)
    generalize recB H (some (g, h)) cs = rb at *
    clear hf hf2 hf3 hc8
    go_upto_region 16 with (first | (go_at_call 23; go_loud (refine HFR.out.mono ?_; rintro e w7 ⟨rfl, hb⟩; have HB7 := Aside0.mk (below_step HB5.out hb); have HI7 := Aside0.mk (HI5.out.below hb); have HR7 := Aside0.mk (Kd.R_below HR5.out hb); clear hb)) | (go_at_call 25; go_loud (refine (HJT.out w7 HR7.out).mono ?_; rintro e w8 ⟨rfl, hb⟩; have HB8 := Aside0.mk (below_step HB7.out hb); have HI8 := Aside0.mk (HI7.out.below hb); have HR8 := Aside0.mk (Kd.R_below HR7.out hb); clear hb)) | (go_at_call 24; go_loud (refine (HFAL.out w8).mono ?_; rintro e w9 ⟨v9, n9, rfl, hr9, hb⟩; have HB9 := Aside0.mk (below_step HB8.out hb); have HI9 := Aside0.mk (HI8.out.below hb); have HR9 := Aside0.mk (Kd.R_below HR8.out hb); have HV9 := Aside0.mk (Kd.R_lower hr9 HB8.out.size); clear hb hr9)))
    obtain ⟨A9, c9, rfl⟩ := Kd.R_slice HV9.out
    have HRC : Aside0 (∀ w, IsDisk N w K D → N ≤ w.heap.size → IsStr w sb K.db (openS n H (some (g, h)) cs) → Free K w sb → Kd.R Kd.string 9 w W.heap.size (fun _ => True) (.slice A9 rs.length c9) rs → Calls Tryd.prog 27 #[.pointer (some ⟨sb, 0, none⟩), .slice A9 rs.length c9] w fun e w' => e = .returned (.int .i64 PW.2) ∧ IsDisk N w' K PW.1 ∧ IsStr w' sb K.db (if PW.2 = 0 then S1 else (openS n H (some (g, h)) cs).brk) ∧ Fs K sb N w w') := Aside0.mk (fun w hd hn hs hf hR => HRE.out w hd hn sb hs (Nat.le_trans HN.out HSB.out) hf _ _ (Kd.R_reads' hR).2.2)
    have HNW : Aside0 (∀ w, Kd.R Kd.string 9 w W.heap.size (fun _ => True) (.slice (some ad) rws.length c8) rws → Calls Tryd.prog 26 #[.slice (if c8 = 1 then some ad else some { block := ad.block, off := ad.off + 1 }) ((1 + 2 * z).toNat - 1) (c8 - 1)] w fun e w' => e = .returned (.int .i64 (newest cs : Int)) ∧ Below w.heap.size w w') := Aside0.mk (fun w hR => by
      have hC := (Kd.R_reads' hR).2.2
      have hc8 := (Kd.R_reads' hR).2.1
      have hln : rws.length = 1 + 2 * H := by have := HRL.out; have := HZI.out; omega
      have h3 := sub_rows (lo := 1) (m := 2 * H) hC (by omega) hc8 (by have := HNUM.out.1; omega)
      have h4 := rows_cut (hdB (some (g, h))) cs 0 (2 * H)
      rw [Nat.add_zero, List.drop_zero] at h4
      rw [HLA.out.2.2.2, h4, List.take_of_length_le (by rw [HLA.out.2.2.1]; omega), List.length_map] at h3
      have e1 : (1 + 2 * z).toNat - 1 = cs.length := by rw [HLA.out.2.2.1]; have := HZI.out; omega
      rw [e1, if_neg (by have := HNUM.out.1; omega)]
      exact HNE.out _ _ w h3)
    obtain ⟨nw, hnw⟩ : ∃ q : Int, (newest cs : Int) = q := ⟨_, rfl⟩
    rw [hnw] at HNW
    obtain ⟨gm, hgm⟩ : ∃ q : Int, max gi nw = q := ⟨_, rfl⟩
    have HGM : Aside0 (gm = ((max (hdGen (some (g, h))) (newest cs) : Nat) : Int)) := Aside0.mk (by
      rw [← hgm, ← hnw]
      rw [HGI.out]
      show _ = ((max g (newest cs) : Nat) : Int)
      omega)
    have hcz : (1 : Int) + 2 * z ≤ (c8 : Int) := by have := HRL.out; have := (Kd.R_reads' HR9.out).2.1; omega
    have hw2 : IntKind.i64.wrap (2 * z) = 2 * z := by rw [IntKind.wrap_i64]; omega
    have hw3 : IntKind.i64.wrap (1 + 2 * z) = 1 + 2 * z := by rw [IntKind.wrap_i64]; omega
    have h13 : (1 : Int) ≤ 1 + 2 * z := by omega
    have h03 : (0 : Int) ≤ 1 + 2 * z := by omega
    have HBa := Aside0.mk (below_step HB9.out (below_drew1 (Below.refl w9.heap.size w9)))
    have HIa := Aside0.mk (HI9.out.below (below_drew1 (Below.refl w9.heap.size w9)))
    have HRa := Aside0.mk (Kd.R_below HR9.out (below_drew1 (Below.refl w9.heap.size w9)))
    have HVa := Aside0.mk (Kd.R_below HV9.out (below_drew1 (Below.refl w9.heap.size w9)))
    have ka : w9.drew.cell? ⟨sb, 3, none⟩ = some (.int .i64 (gi)) := by
      have := HIa.out.at.2.2.2.1
      rw [HGI.out]; exact this
    refine wp_region_z_drew (S := fun w => w.cell? ⟨sb, 3, none⟩ = some (.int .i64 (gi))) 14 (by kernel_rfl) ka (fun hHeld => ?_)
    clear ka hnw
    generalize w9.drew = wa at *
    refine wpAnyZ_take (i := 0) (oi := { dst := some 72, op := Op.move (Operand.tmp 10), type := 27, pos := "stream.go:82", after := #[], guard := none }) (v := ?vb0) rfl (by kernel_rfl) (by kernel_rfl) (by kernel_rfl) (by kernel_rfl) (by kernel_rfl) (fun _ _ _ h => h) (Or.inl ⟨by rfl, ?yb0⟩) (by assumption) ?_
    case yb0 => (intro w hSw; (try dsimp only at hSw); go_simp; try with_reducible rfl)
    (try simp only [Act.put, List.setIfInBounds_toArray, List.set_cons_zero, List.set_cons_succ])
    refine wpAnyZ_take (i := 1) (oi := { dst := some 73, op := Op.move (Operand.tmp 10), type := 27, pos := "stream.go:82", after := #[], guard := none }) (v := ?vb1) rfl (by kernel_rfl) (by kernel_rfl) (by kernel_rfl) (by kernel_rfl) (by kernel_rfl) (fun _ _ _ h => h) (Or.inl ⟨by rfl, ?yb1⟩) (by assumption) ?_
    case yb1 => (intro w hSw; (try dsimp only at hSw); go_simp; try with_reducible rfl)
    (try simp only [Act.put, List.setIfInBounds_toArray, List.set_cons_zero, List.set_cons_succ])
    refine wpAnyZ_take (i := 2) (oi := { dst := some 74, op := Op.nilCheck (Operand.tmp 73), type := 0, pos := "stream.go:82", after := #[{ on := 1, ground := Ground.data }], guard := none }) (v := ?vb2) rfl (by kernel_rfl) (by kernel_rfl) (by kernel_rfl) (by kernel_rfl) (by kernel_rfl) (fun _ _ _ h => h) (Or.inl ⟨by rfl, ?yb2⟩) (by assumption) ?_
    case yb2 => (intro w hSw; (try dsimp only at hSw); go_simp; try with_reducible rfl)
    (try simp only [Act.put, List.setIfInBounds_toArray, List.set_cons_zero, List.set_cons_succ])
    refine wpAnyZ_take (i := 3) (oi := { dst := some 75, op := Op.fieldAddr 64 (Operand.tmp 74) 3, type := 0, pos := "stream.go:82", after := #[{ on := 2, ground := Ground.data }], guard := none }) (v := ?vb3) rfl (by kernel_rfl) (by kernel_rfl) (by kernel_rfl) (by kernel_rfl) (by kernel_rfl) (fun _ _ _ h => h) (Or.inl ⟨by rfl, ?yb3⟩) (by assumption) ?_
    case yb3 => (intro w hSw; (try dsimp only at hSw); go_simp; try with_reducible rfl)
    (try simp only [Act.put, List.setIfInBounds_toArray, List.set_cons_zero, List.set_cons_succ])
    refine wpAnyZ_take (i := 4) (oi := { dst := some 76, op := Op.load 2 (Operand.tmp 75), type := 2, pos := "stream.go:82", after := #[{ on := 3, ground := Ground.data }], guard := none }) (v := ?vb4) rfl (by kernel_rfl) (by kernel_rfl) (by kernel_rfl) (by kernel_rfl) (by kernel_rfl) (fun _ _ _ h => h) (Or.inl ⟨by rfl, ?yb4⟩) (by assumption) ?_
    case yb4 => (intro w hSw; (try dsimp only at hSw); go_simp; try with_reducible rfl)
    (try simp only [Act.put, List.setIfInBounds_toArray, List.set_cons_zero, List.set_cons_succ])
    refine wpAnyZ_take (i := 5) (oi := { dst := some 77, op := Op.move (Operand.tmp 8), type := 29, pos := "stream.go:82", after := #[], guard := none }) (v := ?vb5) rfl (by kernel_rfl) (by kernel_rfl) (by kernel_rfl) (by kernel_rfl) (by kernel_rfl) (fun _ _ _ h => h) (Or.inl ⟨by rfl, ?yb5⟩) (by assumption) ?_
    case yb5 => (intro w hSw; (try dsimp only at hSw); go_simp; try with_reducible rfl)
    (try simp only [Act.put, List.setIfInBounds_toArray, List.set_cons_zero, List.set_cons_succ])
    refine wpAnyZ_take (i := 6) (oi := { dst := some 78, op := Op.move (Operand.tmp 7), type := 3, pos := "stream.go:82", after := #[], guard := none }) (v := ?vb6) rfl (by kernel_rfl) (by kernel_rfl) (by kernel_rfl) (by kernel_rfl) (by kernel_rfl) (fun _ _ _ h => h) (Or.inl ⟨by rfl, ?yb6⟩) (by assumption) ?_
    case yb6 => (intro w hSw; (try dsimp only at hSw); go_simp; try with_reducible rfl)
    (try simp only [Act.put, List.setIfInBounds_toArray, List.set_cons_zero, List.set_cons_succ])
    refine wpAnyZ_take (i := 7) (oi := { dst := some 79, op := Op.binOp BinOp.mul 3 (Operand.const (Value.int IntKind.i64 2)) (Operand.tmp 78) 3, type := 3, pos := "stream.go:82", after := #[{ on := 6, ground := Ground.data }], guard := none }) (v := ?vb7) rfl (by kernel_rfl) (by kernel_rfl) (by kernel_rfl) (by kernel_rfl) (by kernel_rfl) (fun _ _ _ h => h) (Or.inl ⟨by rfl, ?yb7⟩) (by assumption) ?_
    case yb7 => (intro w hSw; (try dsimp only at hSw); go_simp; try with_reducible rfl)
    (try simp only [Act.put, List.setIfInBounds_toArray, List.set_cons_zero, List.set_cons_succ])
    refine wpAnyZ_take (i := 8) (oi := { dst := some 80, op := Op.binOp BinOp.add 3 (Operand.const (Value.int IntKind.i64 1)) (Operand.tmp 79) 3, type := 3, pos := "stream.go:82", after := #[{ on := 7, ground := Ground.data }], guard := none }) (v := ?vb8) rfl (by kernel_rfl) (by kernel_rfl) (by kernel_rfl) (by kernel_rfl) (by kernel_rfl) (fun _ _ _ h => h) (Or.inl ⟨by rfl, ?yb8⟩) (by assumption) ?_
    case yb8 => (intro w hSw; (try dsimp only at hSw); go_simp; try with_reducible rfl)
    (try simp only [Act.put, List.setIfInBounds_toArray, List.set_cons_zero, List.set_cons_succ])
    refine wpAnyZ_take (i := 9) (oi := { dst := some 81, op := Op.slice 29 (Operand.tmp 77) (some (Operand.const (Value.int IntKind.i64 1))) (some (Operand.tmp 80)) none, type := 29, pos := "stream.go:82", after := #[{ on := 5, ground := Ground.data }, { on := 8, ground := Ground.data }], guard := none }) (v := ?vb9) rfl (by kernel_rfl) (by kernel_rfl) (by kernel_rfl) (by kernel_rfl) (by kernel_rfl) (fun _ _ _ h => h) (Or.inl ⟨by rfl, ?yb9⟩) (by assumption) ?_
    case yb9 => (intro w hSw; (try dsimp only at hSw); go_simp; try with_reducible rfl)
    (try simp only [Act.put, List.setIfInBounds_toArray, List.set_cons_zero, List.set_cons_succ])
    refine wpAnyZ_ready (rs := [10]) (by kernel_rfl) (by simp) ?_
    refine AllReadyZ.cons (o := { dst := some 82, op := Op.call { callee := Callee.value (Operand.func 26), args := #[Operand.tmp 81], argTypes := #[29] }, type := 2, pos := "stream.go:82", after := #[{ on := 9, ground := Ground.data }], guard := none }) rfl (fun KK hK => ?_) AllReadyZ.nil
    go_simp
    go_at_call 26
    go_loud (refine (HNW.out wa HRa.out).mono ?_; rintro e wb ⟨rfl, hb⟩)
    have HBb := Aside0.mk (below_step HBa.out hb)
    have HIb := Aside0.mk (HIa.out.below hb)
    have HVb := Aside0.mk (Kd.R_below HVa.out hb)
    have kb : wb.cell? ⟨sb, 3, none⟩ = some (.int .i64 (gi)) := by
      have := HIb.out.at.2.2.2.1
      rw [HGI.out]; exact this
    have zb := blk_frozen HIb.out 3
    clear hb
    refine hK.out _ _ kb (fun hHeld2 => ?_)
    clear hK KK hHeld
    have hHeld := hHeld2
    clear hHeld2
    (try simp only [Act.put, List.setIfInBounds_toArray, List.set_cons_zero, List.set_cons_succ])
    refine wpAnyZ_take (i := 11) (oi := { dst := some 83, op := Op.call { callee := Callee.builtin Builtin.max, args := #[Operand.tmp 76, Operand.tmp 82], argTypes := #[2, 2] }, type := 2, pos := "stream.go:82", after := #[{ on := 4, ground := Ground.data }, { on := 10, ground := Ground.data }], guard := none }) (v := ?vb11) rfl (by kernel_rfl) (by kernel_rfl) (by kernel_rfl) (by kernel_rfl) (by kernel_rfl) (fun _ _ _ h => h) (Or.inl ⟨by rfl, ?yb11⟩) (by assumption) ?_
    case yb11 => (intro w hSw; (try dsimp only at hSw); go_simp; try with_reducible rfl)
    (try simp only [Act.put, List.setIfInBounds_toArray, List.set_cons_zero, List.set_cons_succ])
    refine wpAnyZ_takep (i := 12) (oi := { dst := some 84, op := Op.nilCheck (Operand.tmp 72), type := 0, pos := "stream.go:82", after := #[{ on := 0, ground := Ground.data }, { on := 0, ground := Ground.phase }, { on := 1, ground := Ground.phase }, { on := 2, ground := Ground.phase }, { on := 3, ground := Ground.phase }, { on := 4, ground := Ground.phase }, { on := 5, ground := Ground.phase }, { on := 6, ground := Ground.phase }, { on := 7, ground := Ground.phase }, { on := 8, ground := Ground.phase }, { on := 9, ground := Ground.phase }, { on := 10, ground := Ground.phase }, { on := 11, ground := Ground.phase }], guard := none }) (v := ?vb12) rfl (by kernel_rfl) (by kernel_rfl) (by kernel_rfl) (by decide) (fun _ _ _ h => h) (Or.inl ⟨by rfl, ?yb12⟩) (fun _ => by assumption) ?_
    case yb12 => (intro w hSw; clear hSw; go_simp; try with_reducible rfl)
    (try simp only [Act.put, List.setIfInBounds_toArray, List.set_cons_zero, List.set_cons_succ])
    refine wpAnyZ_takep (i := 13) (oi := { dst := some 85, op := Op.fieldAddr 64 (Operand.tmp 84) 3, type := 0, pos := "stream.go:82", after := #[{ on := 12, ground := Ground.data }, { on := 0, ground := Ground.phase }, { on := 1, ground := Ground.phase }, { on := 2, ground := Ground.phase }, { on := 3, ground := Ground.phase }, { on := 4, ground := Ground.phase }, { on := 5, ground := Ground.phase }, { on := 6, ground := Ground.phase }, { on := 7, ground := Ground.phase }, { on := 8, ground := Ground.phase }, { on := 9, ground := Ground.phase }, { on := 10, ground := Ground.phase }, { on := 11, ground := Ground.phase }], guard := none }) (v := ?vb13) rfl (by kernel_rfl) (by kernel_rfl) (by kernel_rfl) (by decide) (fun _ _ _ h => h) (Or.inl ⟨by rfl, ?yb13⟩) (fun _ => by assumption) ?_
    case yb13 => (intro w hSw; clear hSw; go_simp; try with_reducible rfl)
    (try simp only [Act.put, List.setIfInBounds_toArray, List.set_cons_zero, List.set_cons_succ])
    refine wpAnyZ_ready (rs := [14]) (by kernel_rfl) (by simp) ?_
    refine AllReadyZ.last (o := { dst := none, op := Op.store 2 (Operand.tmp 85) (Operand.tmp 83), type := 0, pos := "stream.go:82", after := #[{ on := 13, ground := Ground.data }, { on := 11, ground := Ground.data }, { on := 10, ground := Ground.chain }, { on := 0, ground := Ground.phase }, { on := 1, ground := Ground.phase }, { on := 2, ground := Ground.phase }, { on := 3, ground := Ground.phase }, { on := 4, ground := Ground.phase }, { on := 5, ground := Ground.phase }, { on := 6, ground := Ground.phase }, { on := 7, ground := Ground.phase }, { on := 8, ground := Ground.phase }, { on := 9, ground := Ground.phase }, { on := 10, ground := Ground.phase }, { on := 11, ground := Ground.phase }], guard := none }) rfl (by kernel_rfl) (fun KK hK => ?_) AllReadyZ.nil
    have HIc : Aside0 (IsStr (wb.setCell ⟨sb, 3, none⟩ (.int .i64 gm)) sb K.db (openS n H (some (g, h)) cs)) := Aside0.mk (by
      rw [HGM.out]
      exact blk_put (cs := Str.cells ⟨n, H, g, h, ⟨#[]⟩, false⟩ K.db) HIb.out 3 _ rfl)
    have HVc := Aside0.mk (Kd.R_set HVb.out HIb.out (by rw [show Kd.string.E = [] from rfl]; simp) 3 (.int .i64 gm))
    have HBc := Aside0.mk (HBb.out.setCell (p := ⟨sb, 3, none⟩) HSB.out (.int .i64 gm))
    go_simp
    generalize wb.setCell ⟨sb, 3, none⟩ (.int .i64 gm) = wc at *
    clear kb zb HIb HVb HBb
    refine hK.out _ _ trivial (fun hHeld2 => ?_)
    clear hK KK hHeld
    have hHeld := hHeld2
    clear hHeld2
    (try simp only [Act.put, List.setIfInBounds_toArray, List.set_cons_zero, List.set_cons_succ])
    refine wpAnyZ_done (by kernel_rfl) ?_ _
    clear hHeld hgm
    have hnc : N ≤ wc.heap.size := Nat.le_trans HN.out HBc.out.size
    have HR17 := Aside0.mk (HRC.out wc (HD.out.below HBc.out) hnc HIc.out (free_late2 HD.out HSB.out HIc.out (by decide)) HVc.out)
    have HFIN : Aside0 (∀ wd, PW.2 = 0 → IsDisk N wd K PW.1 → IsStr wd sb K.db (if PW.2 = 0 then S1 else (openS n H (some (g, h)) cs).brk) → Fs K sb N wc wd → OpenPost N W K PW S1 rs (.returned (.tuple #[.pointer (some ⟨sb, 0, none⟩), .slice A9 rs.length c9, .int .i64 0])) wd) := Aside0.mk (fun wd h0 hd hs hf => by
      rw [if_pos h0] at hs
      refine ⟨hd, Fd.late HD.out HBc.out HSB.out hf HN.out, .inl ⟨h0, sb, _, rfl, HSB.out, hs, ?_⟩⟩
      exact R_own_step rfl HVc.out (fun k hk hlt => by
        obtain ⟨cells, hc⟩ := Kd.R_typed HVc.out k hk
        exact hf.keep k hlt (free_late2 HD.out (Kd.R_base HVc.out k hk) hc (by decide)) (fun e => blk_ne hc HIc.out (by decide) e)))
    have HFIF : Aside0 (∀ wd, PW.2 = 11 → IsDisk N wd K PW.1 → Fs K sb N wc wd → OpenPost N W K PW S1 rs (.returned (.tuple #[.pointer none, .slice none 0 0, .int .i64 11])) wd) := Aside0.mk (fun wd h0 hd hf =>
      ⟨hd, Fd.late HD.out HBc.out HSB.out hf HN.out, .inr ⟨h0, rfl⟩⟩)
    clear HRC HNW HNE HRE HIc HVc HRa HVa HIa HBa HB9 HI9 HR9 HV9
    rcases hper with he | he
    · have HEE := Aside0.mk he
      obtain ⟨ST, hST⟩ : ∃ s : Str, s = (if PW.2 = 0 then S1 else (openS n H (some (g, h)) cs).brk) := ⟨_, rfl⟩
      rw [← hST] at HFIN HR17
      rw [he] at HR17
      clear he hST
      go_wp2_with (first | (go_at_call 27; go_loud (refine HR17.out.mono ?_; rintro e wd ⟨rfl, hd, hs, hf⟩; have HDd := Aside0.mk hd; have HId := Aside0.mk hs; have HFd := Aside0.mk hf; clear hd hs hf)))
      go_ret3
      exact HFIN.out wd HEE.out HDd.out HId.out HFd.out
    · have HEE := Aside0.mk he
      rw [he] at HR17
      clear he
      go_wp2_with (first | (go_at_call 27; go_loud (refine HR17.out.mono ?_; rintro e wd ⟨rfl, hd, hs, hf⟩; have HDd := Aside0.mk hd; have HFd := Aside0.mk hf; clear hd hs hf)))
      go_ret3
      exact HFIF.out wd HEE.out HDd.out HFd.out
end Go.Proofs.YtldkgfhngonnfaaDoor.S
