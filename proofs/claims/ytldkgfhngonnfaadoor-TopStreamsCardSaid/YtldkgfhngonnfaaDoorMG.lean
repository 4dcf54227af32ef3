/- The law's variables in memory; arm. The law's arm. The state of the law's inner loop. A record more in what the law has been told. The law's open. The law's outer loop: what a record's Append comes to. TopStreams: the law's walk. The law's arguments opened: a row of records, a row of cuts. No condition. -/
import Derived.Test.YtldkgfhngonnfaaDoorMF
import Derived.BigQuiet
import Derived.StillTailTactics
import Derived.Laws.EntriesVeiled
import Derived.Deep.SlicePairs
import Derived.Deep.Strs
import Derived.OpenShut
namespace Go.Proofs.YtldkgfhngonnfaaDoor.S
open Go.RowKit Go.Proofs.YtldkgfhngonnfaaDoor.PTopStreams Go.Proofs.YtldkgfhngonnfaaDoorW.PrintWords Go.Proofs.YtldkgfhngonnfaaDoorW.PrintLast Go.Proofs.YtldkgfhngonnfaaDoorW.PrintMore
set_option linter.unusedVariables false
set_option linter.unusedSimpArgs false
abbrev ptr (b : Nat) : Value := .pointer (some ⟨b, 0, none⟩)
/-- Where the law's variables lie. -/
structure Vars where
  cB : Nat
  dB : Nat
  sB : Nat
  tB : Nat
  mB : Nat
  lB : Nat
  aB : Nat
structure TopM (V : Vars) (K : Ad) (M0 : Nat) (cv : Value) (w : World) (lost : Int) (sv tv : Nat → Value) (m : Nat → ByteArray) (told : Nat → List ByteArray) : Prop where
  c : w.heap[V.cB]? = some (.cells #[cv] 23 (0, 0))
  d : w.heap[V.dB]? = some (.cells #[ptr K.db] 25 (0, 0))
  s : w.heap[V.sB]? = some (.cells #[sv 0, sv 1] 28 (0, 0))
  t : w.heap[V.tB]? = some (.cells #[tv 0, tv 1] 30 (0, 0))
  m : w.heap[V.mB]? = some (.cells #[.string (m 0), .string (m 1)] 31 (0, 0))
  l : w.heap[V.lB]? = some (.cells #[.int .i64 lost] 3 (0, 0))
  a : w.heap[V.aB]? = some (.cells #[.func (Fn.func 6) #[] #[ptr V.lB, ptr V.cB, ptr V.dB]] 1 (0, 0))
  told : ∀ k, k < 2 → Kd.R Kd.string 9 w M0 (fun _ => True) (tv k) (told k)
  apart : ∀ k, (tv 0).ownBlock = some k → (tv 1).ownBlock ≠ some k
section
variable {V : Vars} {K : Ad} {M0 : Nat} {cv : Value} {w w' : World} {lost : Int} {sv tv : Nat → Value} {m : Nat → ByteArray} {told : Nat → List ByteArray}
theorem TopM.keep (h : TopM V K M0 cv w lost sv tv m told) (hk : ∀ k cs t, w.heap[k]? = some (.cells cs t (0, 0)) → (t = 23 ∨ t = 25 ∨ t = 28 ∨ t = 30 ∨ t = 31 ∨ t = 3 ∨ t = 1 ∨ (t = 9 ∧ M0 ≤ k)) → w'.heap[k]? = w.heap[k]?) : TopM V K M0 cv w' lost sv tv m told :=
  ⟨(hk _ _ _ h.c (by simp)).trans h.c, (hk _ _ _ h.d (by simp)).trans h.d, (hk _ _ _ h.s (by simp)).trans h.s, (hk _ _ _ h.t (by simp)).trans h.t, (hk _ _ _ h.m (by simp)).trans h.m, (hk _ _ _ h.l (by simp)).trans h.l, (hk _ _ _ h.a (by simp)).trans h.a,
    fun k hk2 => R_own_step rfl (h.told k hk2) (fun b hb _ => by
      obtain ⟨cells, hc⟩ := Kd.R_typed (h.told k hk2) b hb
      exact hk _ _ _ hc (by simp [Kd.R_base (h.told k hk2) b hb])), h.apart⟩
theorem TopM.below (h : TopM V K M0 cv w lost sv tv m told) (hb : Below w.heap.size w w') : TopM V K M0 cv w' lost sv tv m told := h.keep (fun k cs t hk _ => hb.block k (blk_lt hk))
/-- The disk's blocks lie below. -/
def KLt (K : Ad) (M0 : Nat) : Prop := ∀ k, M0 ≤ k → k ≠ K.db ∧ ∀ x ∈ K.ps, k ≠ x.1 ∧ k ≠ x.2
theorem KLt.of {N : Nat} {W : World} {D : Dsk} (h : IsDisk N W K D) (hM : W.heap.size ≤ M0) : KLt K M0 := fun k hk => by
  obtain ⟨cr, kv, m1, _⟩ := h.main
  obtain ⟨qs, q1, q2, _⟩ := h.regs
  refine ⟨?_, fun x hx => ?_⟩
  · have := blk_lt m1; omega
  · obtain ⟨i, hi, rfl⟩ := List.getElem_of_mem hx
    have hR := q2 i _ _ _ (List.getElem?_eq_getElem hi) (List.getElem?_eq_getElem (by rw [h.len]; exact hi)) (List.getElem?_eq_getElem (by rw [q1]; exact hi))
    obtain ⟨_, cl, k1, k2, _⟩ := hR
    have a : K.ps[i].1 < W.heap.size := blk_lt k1
    have b : K.ps[i].2 < W.heap.size := Kd.R_lt k2 _ rfl
    exact ⟨by omega, by omega⟩
theorem KLt.free {k : Nat} {cs : Array Value} {t : TypeId} {fr : Nat × Nat} (h : KLt K M0) (hk : M0 ≤ k) (hc : w.heap[k]? = some (.cells cs t fr)) (ht : t ≠ 119) : Free K w k :=
  ⟨h k hk, fun cs' fr' e => by
    rw [hc] at e
    injection e with e
    injection e with _ e _
    exact ht e⟩
/-- What the law's variables are made of is none of the disk's. -/
theorem top_free {N : Nat} {D : Dsk} (hd : IsDisk N w K D) (hK : KLt K M0) {k : Nat} {cs : Array Value} {t : TypeId} (hc : w.heap[k]? = some (.cells cs t (0, 0))) (ht : t = 23 ∨ t = 25 ∨ t = 28 ∨ t = 30 ∨ t = 31 ∨ t = 3 ∨ t = 1 ∨ (t = 9 ∧ M0 ≤ k)) : Free K w k := by
  rcases ht with rfl | rfl | rfl | rfl | rfl | rfl | rfl | ⟨rfl, hk⟩
  · exact hd.free hc (by decide) (by decide) (by decide) (by decide)
  · exact hd.free hc (by decide) (by decide) (by decide) (by decide)
  · exact hd.free hc (by decide) (by decide) (by decide) (by decide)
  · exact hd.free hc (by decide) (by decide) (by decide) (by decide)
  · exact hd.free hc (by decide) (by decide) (by decide) (by decide)
  · exact hd.free hc (by decide) (by decide) (by decide) (by decide)
  · exact hd.free hc (by decide) (by decide) (by decide) (by decide)
  · exact hK.free hk hc (by decide)
theorem TopM.fd {N : Nat} {D : Dsk} (h : TopM V K M0 cv w lost sv tv m told) (hd : IsDisk N w K D) (hK : KLt K M0) (hf : Fd K N w w') : TopM V K M0 cv w' lost sv tv m told :=
  h.keep (fun k cs t hk ht => hf.keep k (blk_lt hk) (top_free hd hK hk ht))
theorem TopM.fs {N sb : Nat} {D : Dsk} {cs : Array Value} (h : TopM V K M0 cv w lost sv tv m told) (hd : IsDisk N w K D) (hK : KLt K M0) (hs : w.heap[sb]? = some (.cells cs 64 (0, 0))) (hf : Fs K sb N w w') : TopM V K M0 cv w' lost sv tv m told :=
  h.keep (fun k cs t hk ht => hf.keep k (blk_lt hk) (top_free hd hK hk ht) (blk_ne hk hs (by rcases ht with rfl | rfl | rfl | rfl | rfl | rfl | rfl | ⟨rfl, _⟩ <;> decide)))
/-- A block that is neither the disk's nor the law's is written. -/
theorem IsDisk.setT {N : Nat} {D : Dsk} (h : IsDisk N w K D) {b : Nat} {cs : Array Value} {t : TypeId} (hb : w.heap[b]? = some (.cells cs t (0, 0))) (ht : t ≠ 51 ∧ t ≠ 52 ∧ t ≠ 57 ∧ t ≠ 9 ∧ t ≠ 119 ∧ t ≠ 32) (j : Nat) (v : Value) : IsDisk N (w.setCell ⟨b, j, none⟩ v) K D := by
  obtain ⟨h1, h2, h3, h4, h5, h6⟩ := ht
  obtain ⟨cr, kv, m1, m2⟩ := h.main
  obtain ⟨rs, r1, r2⟩ := h.row
  obtain ⟨qs, q1, q2, q3⟩ := h.regs
  refine ⟨h.ndb, h.nd1, h.nd2, ⟨cr, kv, blk_far (p := ⟨b, j, none⟩) m1 (blk_ne m1 hb (Ne.symm h1)) v, Kd.R_set m2 hb (by rw [show (Kd.int .u64).E = [] from rfl]; simp; exact Ne.symm h6) j v⟩, ⟨rs, blk_far (p := ⟨b, j, none⟩) r1 (blk_ne r1 hb (Ne.symm h2)) v, r2⟩, h.len, h.short, ⟨qs, q1, fun i x R q a c d => ?_, q3⟩⟩
  obtain ⟨g0, cl, g1, g2, g3⟩ := q2 i x R q a c d
  exact ⟨g0, cl, blk_far (p := ⟨b, j, none⟩) g1 (blk_ne g1 hb (Ne.symm h3)) v, Kd.R_set g2 hb (by rw [show Kd.string.E = [] from rfl]; simp; exact Ne.symm h4) j v, Kd.R_set g3 hb (by rw [show KW.E = [] from rfl]; simp; exact Ne.symm h5) j v⟩
def upd {α : Type} (f : Nat → α) (k : Nat) (a : α) : Nat → α := fun i => if i = k then a else f i
theorem upd_same {α : Type} (f : Nat → α) (k : Nat) (a : α) : upd f k a k = a := if_pos rfl
theorem upd_other {α : Type} (f : Nat → α) (k : Nat) (a : α) (j : Nat) (h : j ≠ k) : upd f k a j = f j := if_neg h
theorem R_far {b t j : Nat} {cs : Array Value} {v u : Value} {xs : List ByteArray} (h : Kd.R Kd.string 9 w M0 (fun _ => True) v xs) (hb : w.heap[b]? = some (.cells cs t (0, 0))) (ht : t ≠ 9) : Kd.R Kd.string 9 (w.setCell ⟨b, j, none⟩ u) M0 (fun _ => True) v xs :=
  Kd.R_set h hb (by rw [show Kd.string.E = [] from rfl]; simp; exact Ne.symm ht) j u
theorem TopM.setS (h : TopM V K M0 cv w lost sv tv m told) (k : Nat) (hk : k < 2) (v : Value) : TopM V K M0 cv (w.setCell ⟨V.sB, k, none⟩ v) lost (upd sv k v) tv m told := by
  refine ⟨blk_far (p := ⟨V.sB, k, none⟩) h.c (blk_ne h.c h.s (by decide)) v, blk_far (p := ⟨V.sB, k, none⟩) h.d (blk_ne h.d h.s (by decide)) v, ?_, blk_far (p := ⟨V.sB, k, none⟩) h.t (blk_ne h.t h.s (by decide)) v, blk_far (p := ⟨V.sB, k, none⟩) h.m (blk_ne h.m h.s (by decide)) v, blk_far (p := ⟨V.sB, k, none⟩) h.l (blk_ne h.l h.s (by decide)) v, blk_far (p := ⟨V.sB, k, none⟩) h.a (blk_ne h.a h.s (by decide)) v, fun j hj => R_far (h.told j hj) h.s (by decide), h.apart⟩
  rcases (show k = 0 ∨ k = 1 by omega) with rfl | rfl
  · exact blk_put h.s 0 v rfl
  · exact blk_put h.s 1 v rfl
theorem TopM.setM (h : TopM V K M0 cv w lost sv tv m told) (k : Nat) (hk : k < 2) (b : ByteArray) : TopM V K M0 cv (w.setCell ⟨V.mB, k, none⟩ (.string b)) lost sv tv (upd m k b) told := by
  refine ⟨blk_far (p := ⟨V.mB, k, none⟩) h.c (blk_ne h.c h.m (by decide)) _, blk_far (p := ⟨V.mB, k, none⟩) h.d (blk_ne h.d h.m (by decide)) _, blk_far (p := ⟨V.mB, k, none⟩) h.s (blk_ne h.s h.m (by decide)) _, blk_far (p := ⟨V.mB, k, none⟩) h.t (blk_ne h.t h.m (by decide)) _, ?_, blk_far (p := ⟨V.mB, k, none⟩) h.l (blk_ne h.l h.m (by decide)) _, blk_far (p := ⟨V.mB, k, none⟩) h.a (blk_ne h.a h.m (by decide)) _, fun j hj => R_far (h.told j hj) h.m (by decide), h.apart⟩
  rcases (show k = 0 ∨ k = 1 by omega) with rfl | rfl
  · exact blk_put h.m 0 _ rfl
  · exact blk_put h.m 1 _ rfl
theorem TopM.setL (h : TopM V K M0 cv w lost sv tv m told) (l : Int) : TopM V K M0 cv (w.setCell ⟨V.lB, 0, none⟩ (.int .i64 l)) l sv tv m told := by
  refine ⟨blk_far (p := ⟨V.lB, 0, none⟩) h.c (blk_ne h.c h.l (by decide)) _, blk_far (p := ⟨V.lB, 0, none⟩) h.d (blk_ne h.d h.l (by decide)) _, blk_far (p := ⟨V.lB, 0, none⟩) h.s (blk_ne h.s h.l (by decide)) _, blk_far (p := ⟨V.lB, 0, none⟩) h.t (blk_ne h.t h.l (by decide)) _, blk_far (p := ⟨V.lB, 0, none⟩) h.m (blk_ne h.m h.l (by decide)) _, blk_put h.l 0 _ rfl, blk_far (p := ⟨V.lB, 0, none⟩) h.a (blk_ne h.a h.l (by decide)) _, fun j hj => R_far (h.told j hj) h.l (by decide), h.apart⟩
/-- One of the two rows of records has become another. -/
theorem TopM.setT (h : TopM V K M0 cv w lost sv tv m told) (k : Nat) (hk : k < 2) (v : Value) (xs : List ByteArray) (hR : Kd.R Kd.string 9 w M0 (fun _ => True) v xs) (hap : ∀ j, j < 2 → j ≠ k → ∀ b, v.ownBlock = some b → (tv j).ownBlock ≠ some b) : TopM V K M0 cv (w.setCell ⟨V.tB, k, none⟩ v) lost sv (upd tv k v) m (upd told k xs) := by
  refine ⟨blk_far (p := ⟨V.tB, k, none⟩) h.c (blk_ne h.c h.t (by decide)) _, blk_far (p := ⟨V.tB, k, none⟩) h.d (blk_ne h.d h.t (by decide)) _, blk_far (p := ⟨V.tB, k, none⟩) h.s (blk_ne h.s h.t (by decide)) _, ?_, blk_far (p := ⟨V.tB, k, none⟩) h.m (blk_ne h.m h.t (by decide)) _, blk_far (p := ⟨V.tB, k, none⟩) h.l (blk_ne h.l h.t (by decide)) _, blk_far (p := ⟨V.tB, k, none⟩) h.a (blk_ne h.a h.t (by decide)) _, fun j hj => ?_, ?_⟩
  · rcases (show k = 0 ∨ k = 1 by omega) with rfl | rfl
    · exact blk_put h.t 0 v rfl
    · exact blk_put h.t 1 v rfl
  · by_cases e : j = k
    · subst e
      rw [upd_same, upd_same]
      exact R_far hR h.t (by decide)
    · rw [upd_other _ _ _ _ e, upd_other _ _ _ _ e]
      exact R_far (h.told j hj) h.t (by decide)
  · rcases (show k = 0 ∨ k = 1 by omega) with rfl | rfl
    · intro b hb
      rw [upd_other _ _ _ _ (by decide : (1 : Nat) ≠ 0)]
      exact hap 1 (by decide) (by decide) b hb
    · intro b hb
      rw [upd_same]
      intro hv
      rw [upd_other _ _ _ _ (by decide : (0 : Nat) ≠ 1)] at hb
      exact hap 0 (by decide) (by decide) b hv hb
end
/-- What the law's inner functions leave of the rest: streams stand, and so does what was there ahead of the law. -/
structure Ft (N : Nat) (w w' : World) : Prop where
  below : Below N w w'
  size : w.heap.size ≤ w'.heap.size
  str : ∀ (k : Nat) (cs : Array Value), w.heap[k]? = some (.cells cs 64 (0, 0)) → w'.heap[k]? = some (.cells cs 64 (0, 0))
theorem Ft.trans {N : Nat} {w1 w2 w3 : World} (h : Ft N w1 w2) (h2 : Ft N w2 w3) : Ft N w1 w3 := ⟨h.below.trans h2.below, Nat.le_trans h.size h2.size, fun k cs hk => h2.str k cs (h.str k cs hk)⟩
theorem Ft.of_below {N : Nat} {w w' : World} (h : Below w.heap.size w w') (hN : N ≤ w.heap.size) : Ft N w w' := ⟨h.mono hN, h.size, fun k cs hk => (h.block k (blk_lt hk)).trans hk⟩
theorem Ft.of_fd {N : Nat} {w w' : World} {K : Ad} {D : Dsk} (hd : IsDisk N w K D) (h : Fd K N w w') : Ft N w w' := ⟨h.below, h.size, fun k cs hk => (h.keep k (blk_lt hk) (hd.free hk (by decide) (by decide) (by decide) (by decide))).trans hk⟩
theorem Ft.set {N b t j : Nat} {w : World} {cs : Array Value} (hb : w.heap[b]? = some (.cells cs t (0, 0))) (ht : t ≠ 64) (hN : N ≤ b) (v : Value) : Ft N w (w.setCell ⟨b, j, none⟩ v) :=
  ⟨(Below.refl N w).setCell (p := ⟨b, j, none⟩) hN v, by simp [World.setCell], fun k cs' hk => blk_far (p := ⟨b, j, none⟩) hk (blk_ne hk hb (Ne.symm ht)) v⟩
abbrev CutT := Int × Int × Int
def KCut : Kd CutT := Kd.pair (Kd.int .i64) (Kd.pair (Kd.int .i64) (Kd.int .u64))
theorem at_Cut {w : World} {A : Option Addr} {n : Nat} {xs : List CutT} (h : Kd.C KCut w A n xs) (p : Int) (h0 : 0 ≤ p) (h1 : p < n) :
    ∃ ad, A = some ad ∧ w.cell? (ad.add (p.toNat * 3)) = some (.int .i64 (xs.getD p.toNat (0, 0, 0)).1) ∧ w.cell? ⟨(ad.add (p.toNat * 3)).block, (ad.add (p.toNat * 3)).off + 1, none⟩ = some (.int .i64 (xs.getD p.toNat (0, 0, 0)).2.1) ∧
      w.cell? ⟨(ad.add (p.toNat * 3)).block, (ad.add (p.toNat * 3)).off + 2, none⟩ = some (.int .u64 (xs.getD p.toNat (0, 0, 0)).2.2) := by
  obtain ⟨ad, c, e, _, hK, hc0⟩ := Kd.C_get h (0, 0, 0) p h0 h1
  have hc : ∀ j u, c[j]? = some u → w.cell? (ad.add (p.toNat * 3 + j)) = some u := hc0
  obtain ⟨_, _, rfl, rfl, _, _, rfl, rfl, rfl⟩ := hK
  exact ⟨ad, e, hc 0 _ rfl, by rw [← add_field _ _ 1 (by omega)]; exact hc 1 _ rfl, by rw [← add_field _ _ 2 (by omega)]; exact hc 2 _ rfl⟩
/-- How often the power may fail from here on, and a bit. -/
def pot (lost t : Int) : Int := 2 * (8 - lost) + (if t = 0 then 0 else 1)
/-- The law's variables, the disk and the cuts. -/
structure Env (N : Nat) (V : Vars) (K : Ad) (M0 : Nat) (cuts : List CutT) (cv : Value) : Prop where
  len : K.ps.length = 2
  klt : KLt K M0
  low : N ≤ V.dB ∧ N ≤ V.sB ∧ N ≤ V.tB ∧ N ≤ V.mB ∧ N ≤ V.lB ∧ N ≤ M0
  wf : ∀ x ∈ cuts, (Lit.int .i64 x.2.1).wf = true
end Go.Proofs.YtldkgfhngonnfaaDoor.S
namespace Go.Proofs.YtldkgfhngonnfaaDoor.S
open Go.RowKit Go.Proofs.YtldkgfhngonnfaaDoor.PTopStreams Go.Proofs.YtldkgfhngonnfaaDoorW.PrintWords Go.Proofs.YtldkgfhngonnfaaDoorW.PrintLast Go.Proofs.YtldkgfhngonnfaaDoorW.PrintMore
set_option linter.unusedVariables false
set_option linter.unusedSimpArgs false
def ArmR (N : Nat) (V : Vars) (K : Ad) (M0 : Nat) (cv : Value) (w : World) (D : Dsk) (lost : Int) (sv tv : Nat → Value) (m : Nat → ByteArray) (told : Nat → List ByteArray) (w' : World) : Prop :=
  ∃ (D' : Dsk) (lost' : Int), IsDisk N w' K D' ∧ D'.regs = D.regs ∧ D'.off = D.off ∧ 0 ≤ D'.tl ∧ D'.tl ≤ 9223372036854775807 ∧ 0 ≤ lost' ∧ lost' ≤ 8 ∧ pot lost' D'.tl ≤ pot lost D.tl ∧ TopM V K M0 cv w' lost' sv tv m told ∧ Ft N w w'
set_option maxHeartbeats 1000000 in
set_option maxRecDepth 100000 in
theorem arm_calls (N : Nat) (V : Vars) (K : Ad) (M0 : Nat) (cuts : List CutT) (cv : Value) (E : Env N V K M0 cuts cv) (A : Option Addr) (c : Nat) (hcv : cv = .slice A cuts.length c) (w : World) (hC : Kd.C KCut w A cuts.length cuts) (D : Dsk) (hd : IsDisk N w K D) (hN : N ≤ w.heap.size) (lost : Int) (hl0 : 0 ≤ lost) (hl : lost ≤ 8) (sv tv : Nat → Value) (m : Nat → ByteArray) (told : Nat → List ByteArray) (h : TopM V K M0 cv w lost sv tv m told) (ht0 : 0 ≤ D.tl) (ht1 : D.tl ≤ 9223372036854775807) :
    Calls Tryd.prog 6 #[ptr V.lB, ptr V.cB, ptr V.dB] w fun e w' => e = .returned (.tuple #[]) ∧ ArmR N V K M0 cv w D lost sv tv m told w' := by
  have hu34 := Tryd.underlying34
  have xc : w.cell? ⟨V.cB, 0, none⟩ = some (.slice A cuts.length c) := by rw [← hcv]; exact (blk_cell h.c 0).trans rfl
  have xd : w.cell? ⟨V.dB, 0, none⟩ = some (ptr K.db) := (blk_cell h.d 0).trans rfl
  have xl : w.cell? ⟨V.lB, 0, none⟩ = some (.int .i64 lost) := (blk_cell h.l 0).trans rfl
  have hsame : ArmR N V K M0 cv w D lost sv tv m told w := ⟨D, lost, hd, rfl, rfl, ht0, ht1, hl0, hl, Int.le_refl _, h, Ft.of_below (Below.refl _ _) hN⟩
  by_cases h1 : lost < (cuts.length : Int)
  · by_cases h2 : lost < 8
    · have hq1 : decide (lost < (cuts.length : Int)) = true := decide_eq_true h1
      have hq2 : decide (lost < 8) = true := decide_eq_true h2
      obtain ⟨ad, hA, y0, y1, y2⟩ := at_Cut hC lost hl0 h1
      have hmem : cuts.getD lost.toNat (0, 0, 0) ∈ cuts := by
        rw [List.getD_eq_getElem?_getD, List.getElem?_eq_getElem (by omega)]
        exact List.getElem_mem (by omega)
      have hwf := E.wf _ hmem
      generalize cuts.getD lost.toNat (0, 0, 0) = x at *
      obtain ⟨r, left, ke⟩ := x
      subst hA
      have H := Aside0.mk h
      have HD := Aside0.mk hd
      have HE := Aside0.mk E
      have HN := Aside0.mk hN
      have HWF := Aside0.mk hwf
      clear h hd E hcv hC hsame hmem hwf h2
      simp only at y0 y1 y2
      go_enter Tryd.func6, Tryd.ntmps6
      go_upto_region 2 with (fail)
      have hb1 := below_alloc (Below.refl w.heap.size w) (.cells #[.int .i64 r, .int .i64 left, .int .u64 ke] 34)
      have H1 := Aside0.mk (H.out.below hb1)
      have HD1 := Aside0.mk (HD.out.below hb1)
      have HF1 := Aside0.mk (Ft.of_below (N := N) hb1 HN.out)
      have k1 := blk_new w (.cells #[.int .i64 r, .int .i64 left, .int .u64 ke] 34)
      clear hb1 xc xd xl y0 y1 y2
      generalize w.alloc (.cells #[.int .i64 r, .int .i64 left, .int .u64 ke] 34) = w1 at *
      have xd : w1.cell? ⟨V.dB, 0, none⟩ = some (ptr K.db) := (blk_cell H1.out.d 0).trans rfl
      have y0 : w1.cell? ⟨w.heap.size, 0, none⟩ = some (.int .i64 r) := (blk_cell k1 0).trans rfl
      have y1 : w1.cell? ⟨w.heap.size, 1, none⟩ = some (.int .i64 left) := (blk_cell k1 1).trans rfl
      have y2 : w1.cell? ⟨w.heap.size, 2, none⟩ = some (.int .u64 ke) := (blk_cell k1 2).trans rfl
      clear k1
      have hb2 := below_alloc (Below.refl w1.heap.size w1) (.cells #[.int .u64 ke, .int .u64 ke] 32)
      have H2 := Aside0.mk (H1.out.below hb2)
      have HD2 := Aside0.mk (HD1.out.below hb2)
      have HN1 : N ≤ w1.heap.size := Nat.le_trans hN HF1.out.size
      have HF2 := Aside0.mk (HF1.out.trans (Ft.of_below (N := N) hb2 HN1))
      have hkb := blk_new w1 (.cells #[.int .u64 ke, .int .u64 ke] 32)
      have hne : w1.heap.size ≠ K.db := by
        obtain ⟨cr, kv, hm, _⟩ := HD1.out.main
        have := blk_lt hm; omega
      have HCUT := Aside0.mk (cut_calls N _ K D HD2.out (Nat.le_trans HN1 hb2.size) (max 0 r % 2) (max 0 r % 2).toNat (by omega) (by rw [HE.out.len]; omega) left w1.heap.size ke ke hkb hne)
      have hqm : 0 ≤ max 0 r := by omega
      clear hb2 hkb hne HN1
      go_upto_region 3 with (first | (go_at_call 7; go_loud (refine HCUT.out.mono ?_; rintro e w4 ⟨rfl, hd4, hf4⟩; have HD4 := Aside0.mk hd4; have H4 := Aside0.mk (H2.out.fd HD2.out HE.out.klt hf4); have HF4 := Aside0.mk (HF2.out.trans (Ft.of_fd HD2.out hf4)); clear hd4 hf4)))
      have xl : w4.cell? ⟨V.lB, 0, none⟩ = some (.int .i64 lost) := (blk_cell H4.out.l 0).trans rfl
      have zl := blk_frozen H4.out.l 0
      have H5 := Aside0.mk (H4.out.setL (lost + 1))
      have HD5 := Aside0.mk (HD4.out.setT H4.out.l (by decide) 0 (.int .i64 (lost + 1)))
      have HF5 := Aside0.mk (HF4.out.trans (Ft.set (N := N) (j := 0) H4.out.l (by decide) HE.out.low.2.2.2.2.1 (.int .i64 (lost + 1))))
      go_wp2
      go_end0
      refine ⟨rfl, _, lost + 1, HD5.out, ?_, ?_, ?_, ?_, by omega, by have := of_decide_eq_true hq2; omega, ?_, H5.out, HF5.out⟩
      · unfold Dsk.cut; split <;> rfl
      · unfold Dsk.cut; split <;> rfl
      · unfold Dsk.cut; split
        · next hc => exact Int.le_of_lt hc
        · exact Int.le_refl _
      · have hw := HWF.out
        have hw2 : left ≤ 9223372036854775807 := by
          simp only [Lit.wf, Bool.and_eq_true, decide_eq_true_eq] at hw
          have e : IntKind.i64.max = 9223372036854775807 := by decide
          rw [e] at hw
          exact hw.2
        unfold Dsk.cut; split
        · exact hw2
        · exact (by decide : (0 : Int) ≤ 9223372036854775807)
      · unfold pot
        have := of_decide_eq_true hq2
        split <;> split <;> omega
    · have hq1 : decide (lost < (cuts.length : Int)) = true := decide_eq_true h1
      have hq2 : decide (lost < 8) = false := decide_eq_false h2
      have HS := Aside0.mk hsame
      clear h hd E hcv hC hsame h1 h2
      go_enter Tryd.func6, Tryd.ntmps6
      go_wp2
      go_end0
      exact ⟨rfl, HS.out⟩
  · have hq1 : decide (lost < (cuts.length : Int)) = false := decide_eq_false h1
    have HS := Aside0.mk hsame
    clear h hd E hcv hC hsame h1
    go_enter Tryd.func6, Tryd.ntmps6
    go_wp2
    go_end0
    exact ⟨rfl, HS.out⟩
end Go.Proofs.YtldkgfhngonnfaaDoor.S
namespace Go.Proofs.YtldkgfhngonnfaaDoor.S
open Go.RowKit Go.Proofs.YtldkgfhngonnfaaDoor.PTopStreams Go.Proofs.YtldkgfhngonnfaaDoorW.PrintWords Go.Proofs.YtldkgfhngonnfaaDoorW.PrintLast Go.Proofs.YtldkgfhngonnfaaDoorW.PrintMore
set_option linter.unusedVariables false
set_option linter.unusedSimpArgs false
/-- What Open comes to, its results as letters. -/
def OutR (N : Nat) (W : World) (K : Ad) (D : Dsk) (n H B : Nat) (rs : List ByteArray) (x v : Value) (er : Int) (D' : Dsk) (w' : World) : Prop :=
  Sound H (B + 1) D' ∧ (∀ j, j ≠ n → D'.regs[j]? = D.regs[j]?) ∧
  ((er = 0 ∧ D'.off = false ∧ D'.tl ≤ D.tl ∧ ∃ sb S x' cs', x = ptr sb ∧ W.heap.size ≤ sb ∧ IsStr w' sb K.db S ∧ Kd.R Kd.string 9 w' W.heap.size (fun _ => True) v rs ∧ D'.regs[n]? = some ⟨rows x' cs', []⟩ ∧ RegC H (B + 1) x' cs' ∧ Live H S n rs x' cs') ∨
   (er = 11 ∧ D'.off = true ∧ D'.tl = 0 ∧ D.tl ≠ 0 ∧ ∃ x' cs', D'.regs[n]? = some ⟨rows x' cs', []⟩ ∧ RegC H (B + 1) x' cs' ∧ recs H x' cs' = rs))
theorem open_out (N : Nat) (W : World) (K : Ad) (D : Dsk) (hD : IsDisk N W K D) (hN : N ≤ W.heap.size) (p : Int) (n H B : Nat) (hp : p = (n : Int)) (h1 : 1 ≤ H) (h2 : H ≤ 1000) (hs : Sound H B D) (hoff : D.off = false) (x : Hd) (cs : List Sec) (hr : D.regs[n]? = some ⟨rows x cs, []⟩) (hc : RegC H B x cs) (hB : B + 1 < 281474976710656) (rs : List ByteArray) (hrs : recs H x cs = rs) (hfit : (frms rs).size + 1 ≤ H * 55) :
    Calls Tryd.prog 9 #[.pointer (some ⟨K.db, 0, none⟩), .int .i64 p] W fun e w' => ∃ x v er D', e = .returned (.tuple #[x, v, .int .i64 er]) ∧ IsDisk N w' K D' ∧ Fd K N W w' ∧ OutR N W K D n H B rs x v er D' w' := by
  refine (open_law N W K D hD hN p n H B hp h1 h2 hs hoff x cs hr hc hB rs hrs hfit).mono ?_
  rintro e w' ⟨D', a, b, c, c2, d⟩
  rcases d with ⟨d0, d1, sb, v, S, x', cs', d2, d3, d4, d5, d6, d7, d8⟩ | ⟨d0, d1, d2, d3, x', cs', d4, d5, d6⟩
  · exact ⟨_, _, _, D', d2, a, b, c, c2, .inl ⟨rfl, d0, d1, sb, S, x', cs', rfl, d3, d4, d5, d6, d7, d8⟩⟩
  · exact ⟨_, _, _, D', d3, a, b, c, c2, .inr ⟨rfl, d0, d1, d2, x', cs', d4, d5, d6⟩⟩
/-- A region whose records are what was told of it, and perhaps the one that was under way. -/
def Seen (H B n : Nat) (D : Dsk) (told : List ByteArray) (mb : ByteArray) : Prop :=
  ∃ x cs, D.regs[n]? = some ⟨rows x cs, []⟩ ∧ RegC H B x cs ∧ (recs H x cs = told ∨ (1 ≤ mb.size ∧ recs H x cs = told ++ [mb])) ∧ (frms (recs H x cs)).size + 1 ≤ H * 55
/-- A region beside which a stream stands. -/
def Alive (H B n N : Nat) (w : World) (D : Dsk) (K : Ad) (told : List ByteArray) (sval : Value) : Prop :=
  ∃ sb S x cs, sval = ptr sb ∧ N ≤ sb ∧ IsStr w sb K.db S ∧ D.regs[n]? = some ⟨rows x cs, []⟩ ∧ RegC H B x cs ∧ Live H S n told x cs
theorem Seen.of {H B B' n : Nat} {D D' : Dsk} {told : List ByteArray} {mb : ByteArray} (h : Seen H B n D told mb) (hr : D'.regs[n]? = D.regs[n]?) (hB : B ≤ B') : Seen H B' n D' told mb := by
  obtain ⟨x, cs, a, b, c, d⟩ := h
  exact ⟨x, cs, hr.trans a, b.up hB, c, d⟩
theorem Alive.of {H B B' n N : Nat} {w w' : World} {D D' : Dsk} {K : Ad} {told : List ByteArray} {sval : Value} (h : Alive H B n N w D K told sval) (hr : D'.regs[n]? = D.regs[n]?) (hB : B ≤ B') (hf : Ft N w w') : Alive H B' n N w' D' K told sval := by
  obtain ⟨sb, S, x, cs, a, b, c, d, e, f⟩ := h
  exact ⟨sb, S, x, cs, a, b, hf.str _ _ c, hr.trans d, e.up hB, f⟩
theorem Alive.seen {H B n N : Nat} {w : World} {D : Dsk} {K : Ad} {told : List ByteArray} {sval : Value} (h : Alive H B n N w D K told sval) (mb : ByteArray) : Seen H B n D told mb := by
  obtain ⟨sb, S, x, cs, a, b, c, d, e, f⟩ := h
  have hr := f.recs
  exact ⟨x, cs, d, e, .inl hr, by rw [hr, ← f.data]; exact f.hlf.fit⟩
structure OpSt (N : Nat) (V : Vars) (K : Ad) (M0 : Nat) (cv : Value) (w : World) (D : Dsk) (B : Nat) (lost : Int) (sv tv : Nat → Value) (m : Nat → ByteArray) (told : Nat → List ByteArray) (k : Nat) : Prop where
  disk : IsDisk N w K D
  sound : Sound 30 B D
  on : D.off = false
  l0 : 0 ≤ lost
  l8 : lost ≤ 8
  top : TopM V K M0 cv w lost sv tv m told
  seen : ∀ j, j < 2 → k ≤ j → Seen 30 B j D (told j) (m j)
  live : ∀ j, j < k → j < 2 → m j = ⟨#[]⟩ ∧ Alive 30 B j N w D K (told j) (sv j)
  ap : 2 ≤ k → sv 0 ≠ sv 1
  size : N ≤ w.heap.size
  sizeM : M0 ≤ w.heap.size
  hk : k ≤ 2
theorem pot_nonneg {lost t : Int} (h : lost ≤ 8) : 0 ≤ pot lost t := by unfold pot; split <;> omega
theorem pot_le {lost t t' : Int} (h0 : 0 ≤ t') (h : t' ≤ t) : pot lost t' ≤ pot lost t := by
  unfold pot
  split
  · split <;> omega
  · rw [if_neg (by omega)]; omega
section
variable {N : Nat} {V : Vars} {K : Ad} {M0 : Nat} {cv : Value} {w w2 w3 w4 : World} {D D2 : Dsk} {B k : Nat} {lost : Int} {sv tv : Nat → Value} {m : Nat → ByteArray} {told : Nat → List ByteArray}
/-- The power failed while the k-th stream was opened: it is on again. -/
theorem OpSt.again (h : OpSt N V K M0 cv w D B lost sv tv m told k) (hk : k < 2) {rs : List ByteArray} (hrs : ∀ x cs, recs 30 x cs = rs → (recs 30 x cs = told k ∨ (1 ≤ (m k).size ∧ recs 30 x cs = told k ++ [m k]))) (hfit : (frms rs).size + 1 ≤ 30 * 55) {x v : Value}
    (hs : Sound 30 (B + 1) D2) (ho : ∀ j, j ≠ k → D2.regs[j]? = D.regs[j]?) (hx : ∃ x' cs', D2.regs[k]? = some ⟨rows x' cs', []⟩ ∧ RegC 30 (B + 1) x' cs' ∧ recs 30 x' cs' = rs)
    (D4 : Dsk) (lost4 : Int) (hd : IsDisk N w4 K D4) (hr : D4.regs = D2.regs) (hoff : D4.off = false) (ht0 : 0 ≤ D4.tl) (ht1 : D4.tl ≤ 9223372036854775807) (hl0 : 0 ≤ lost4) (hl8 : lost4 ≤ 8) (hT : TopM V K M0 cv w4 lost4 sv tv m told) (hsz : N ≤ w4.heap.size) (hszM : M0 ≤ w4.heap.size) :
    OpSt N V K M0 cv w4 D4 (B + 1) lost4 sv tv m told 0 := by
  refine ⟨hd, ⟨by rw [hr]; exact hs.regs, ht0, ht1⟩, hoff, hl0, hl8, hT, fun j hj _ => ?_, fun j hj => absurd hj (Nat.not_lt_zero _), fun hc => absurd hc (by decide), hsz, hszM, by decide⟩
  by_cases e : j = k
  · subst e
    obtain ⟨x', cs', a, b, c⟩ := hx
    exact ⟨x', cs', by rw [hr]; exact a, b, hrs x' cs' c, by rw [c]; exact hfit⟩
  · have hj2 : D4.regs[j]? = D.regs[j]? := by rw [hr]; exact ho j e
    by_cases hlt : j < k
    · obtain ⟨_, h2⟩ := h.live j hlt hj
      exact (h2.seen (m j)).of hj2 (Nat.le_succ B)
    · exact (h.seen j hj (by omega)).of hj2 (Nat.le_succ B)
/-- The k-th stream stands. -/
theorem OpSt.next (h : OpSt N V K M0 cv w D B lost sv tv m told k) (hk : k < 2) {rs : List ByteArray} {sb : Nat} {S : Str} {x' : Hd} {cs' : List Sec}
    (hs : Sound 30 (B + 1) D2) (ho : ∀ j, j ≠ k → D2.regs[j]? = D.regs[j]?) (hoff : D2.off = false) (hsb : w.heap.size ≤ sb) (hS : IsStr w4 sb K.db S) (hr : D2.regs[k]? = some ⟨rows x' cs', []⟩) (hc : RegC 30 (B + 1) x' cs') (hl : Live 30 S k rs x' cs')
    (hd : IsDisk N w4 K D2) {tv' : Nat → Value} (hT : TopM V K M0 cv w4 lost (upd sv k (ptr sb)) tv' (upd m k ⟨#[]⟩) (upd told k rs)) (hf : Ft N w w4) :
    OpSt N V K M0 cv w4 D2 (B + 1) lost (upd sv k (ptr sb)) tv' (upd m k ⟨#[]⟩) (upd told k rs) (k + 1) := by
  have hsN : N ≤ sb := Nat.le_trans h.size hsb
  refine ⟨hd, hs, hoff, h.l0, h.l8, hT, fun j hj hkj => ?_, fun j hj hj2 => ?_, fun hk2 => ?_, Nat.le_trans h.size hf.size, Nat.le_trans h.sizeM hf.size, by omega⟩
  · have e : j ≠ k := by omega
    rw [upd_other _ _ _ _ e, upd_other _ _ _ _ e]
    exact (h.seen j hj (by omega)).of (ho j e) (Nat.le_succ B)
  · by_cases e : j = k
    · subst e
      rw [upd_same, upd_same, upd_same]
      exact ⟨rfl, sb, S, x', cs', rfl, hsN, hS, hr, hc, hl⟩
    · rw [upd_other _ _ _ _ e, upd_other _ _ _ _ e, upd_other _ _ _ _ e]
      obtain ⟨h1, h2⟩ := h.live j (by omega) hj2
      exact ⟨h1, h2.of (ho j e) (Nat.le_succ B) hf⟩
  · have e : k = 1 := by omega
    subst e
    obtain ⟨_, sb0, S0, _, _, q1, _, q2, _⟩ := h.live 0 (by decide) (by decide)
    rw [upd_same, upd_other _ _ _ _ (by decide), q1]
    intro hc
    have : sb0 = sb := by
      injection hc with hc
      injection hc with hc
      injection hc
    have := blk_lt q2
    omega
end
end Go.Proofs.YtldkgfhngonnfaaDoor.S
namespace Go.Proofs.YtldkgfhngonnfaaDoor.S
open Go.RowKit Go.Proofs.YtldkgfhngonnfaaDoor.PTopStreams Go.Proofs.YtldkgfhngonnfaaDoorW.PrintWords Go.Proofs.YtldkgfhngonnfaaDoorW.PrintLast Go.Proofs.YtldkgfhngonnfaaDoorW.PrintMore
set_option linter.unusedVariables false
set_option linter.unusedSimpArgs false
section
variable {V : Vars} {K : Ad} {M0 N : Nat} {cv : Value} {w w1 : World} {D : Dsk} {lost : Int} {sv tv : Nat → Value} {m : Nat → ByteArray} {told : Nat → List ByteArray}
/-- A row's own block, told from a block of another type. -/
theorem own9_ne {v : Value} {xs : List ByteArray} {b t : Nat} {cs : Array Value} {fr : Nat × Nat} (hR : Kd.R Kd.string 9 w M0 (fun _ => True) v xs) (hb : w.heap[b]? = some (.cells cs t fr)) (ht : t ≠ 9) : some b ≠ v.ownBlock := by
  intro e
  obtain ⟨cells, hc⟩ := Kd.R_typed hR b e.symm
  rw [hb] at hc
  injection hc with hc
  injection hc with _ hc _
  exact ht hc
theorem grown_blk {b t : Nat} {cs : Array Value} {fr : Nat × Nat} {row : Option Nat} (hb : w.heap[b]? = some (.cells cs t fr)) (hg : w.grownBy w1 row) (hne : some b ≠ row) : w1.heap[b]? = some (.cells cs t fr) := (hg.block b (blk_lt hb) hne).trans hb
theorem TopM.push (h : TopM V K M0 cv w lost sv tv m told) (k : Nat) (hk : k < 2) (hg : w.grownBy w1 (tv k).ownBlock) (v1 : Value) (xs : List ByteArray) (hR : Kd.R Kd.string 9 w1 M0 (fun _ => True) v1 xs) (hat : v1.ownBlock = (tv k).ownBlock ∨ ∃ b, v1.ownBlock = some b ∧ w.heap.size ≤ b) :
    TopM V K M0 cv (w1.setCell ⟨V.tB, k, none⟩ v1) lost sv (upd tv k v1) m (upd told k xs) := by
  have go : ∀ {b t : Nat} {cs : Array Value}, w.heap[b]? = some (.cells cs t (0, 0)) → t ≠ 9 → w1.heap[b]? = some (.cells cs t (0, 0)) := fun hb ht => grown_blk hb hg (own9_ne (h.told k hk) hb ht)
  have ht := go h.t (by decide)
  have far : ∀ {b t : Nat} {cs : Array Value}, w.heap[b]? = some (.cells cs t (0, 0)) → t ≠ 9 → t ≠ 30 → (w1.setCell ⟨V.tB, k, none⟩ v1).heap[b]? = some (.cells cs t (0, 0)) := fun hb h9 h30 => blk_far (p := ⟨V.tB, k, none⟩) (go hb h9) (blk_ne hb h.t h30) v1
  have hap : ∀ j, j < 2 → j ≠ k → ∀ b, v1.ownBlock = some b → (tv j).ownBlock ≠ some b := fun j hj hjk b hb e => by
    rcases hat with h1 | ⟨b', h1, h2⟩
    · rw [h1] at hb
      rcases (show (j = 0 ∧ k = 1) ∨ (j = 1 ∧ k = 0) by omega) with ⟨rfl, rfl⟩ | ⟨rfl, rfl⟩
      · exact h.apart b e hb
      · exact h.apart b hb e
    · rw [h1] at hb
      injection hb with hb
      have := Kd.R_lt (h.told j hj) b e
      omega
  refine ⟨far h.c (by decide) (by decide), far h.d (by decide) (by decide), far h.s (by decide) (by decide), ?_, far h.m (by decide) (by decide), far h.l (by decide) (by decide), far h.a (by decide) (by decide), fun j hj => ?_, ?_⟩
  · rcases (show k = 0 ∨ k = 1 by omega) with rfl | rfl
    · exact blk_put ht 0 v1 rfl
    · exact blk_put ht 1 v1 rfl
  · by_cases e : j = k
    · subst e
      rw [upd_same, upd_same]
      exact R_far hR ht (by decide)
    · rw [upd_other _ _ _ _ e, upd_other _ _ _ _ e]
      refine R_far (R_own_step rfl (h.told j hj) (fun b hb hlt => hg.block b hlt (fun e2 => ?_))) ht (by decide)
      rcases (show (j = 0 ∧ k = 1) ∨ (j = 1 ∧ k = 0) by omega) with ⟨rfl, rfl⟩ | ⟨rfl, rfl⟩
      · exact h.apart b hb e2.symm
      · exact h.apart b e2.symm hb
  · rcases (show k = 0 ∨ k = 1 by omega) with rfl | rfl
    · intro b hb
      rw [upd_other _ _ _ _ (by decide : (1 : Nat) ≠ 0)]
      exact hap 1 (by decide) (by decide) b hb
    · intro b hb
      rw [upd_same]
      intro hv
      rw [upd_other _ _ _ _ (by decide : (0 : Nat) ≠ 1)] at hb
      exact hap 0 (by decide) (by decide) b hv hb
/-- The disk stands where a row of texts that is not its own grows. -/
theorem IsDisk.grown9 (h : IsDisk N w K D) (hK : KLt K M0) {v : Value} {xs : List ByteArray} (hR : Kd.R Kd.string 9 w M0 (fun _ => True) v xs) (hg : w.grownBy w1 v.ownBlock) : IsDisk N w1 K D := by
  obtain ⟨cr, kv, m1, m2⟩ := h.main
  obtain ⟨rs, r1, r2⟩ := h.row
  obtain ⟨qs, q1, q2, q3⟩ := h.regs
  have go : ∀ {b t : Nat} {cs : Array Value} {fr : Nat × Nat}, w.heap[b]? = some (.cells cs t fr) → t ≠ 9 → w1.heap[b]? = some (.cells cs t fr) := fun hb ht => grown_blk hb hg (own9_ne hR hb ht)
  have own : ∀ {α : Type} {d : Kd α} {e : TypeId} {v : Value} {xs : List α}, d.E = [] → d.R e w N (fun _ => True) v xs → e ≠ 9 → d.R e w1 N (fun _ => True) v xs := fun hE hR2 h1 => R_own_step hE hR2 (fun k hk _ => by
    obtain ⟨cells, hc⟩ := Kd.R_typed hR2 k hk
    rw [hc]
    exact go hc h1)
  refine ⟨h.ndb, h.nd1, h.nd2, ⟨cr, kv, go m1 (by decide), own rfl m2 (by decide)⟩, ⟨rs, go r1 (by decide), r2⟩, h.len, h.short, ⟨qs, q1, fun i x R q a b c => ?_, q3⟩⟩
  obtain ⟨h0, cl, h1, h2, h3⟩ := q2 i x R q a b c
  refine ⟨h0, cl, go h1 (by decide), R_own_step rfl h2 (fun k hk hlt => hg.block k hlt (fun e => ?_)), own rfl h3 (by decide)⟩
  have hx2 : x.2 = k := by injection hk
  have hM := Kd.R_base hR k e.symm
  exact ((hK k hM).2 x (List.mem_of_getElem? a)).2 hx2.symm
theorem Ft.grown9 {v : Value} {xs : List ByteArray} (hN : N ≤ M0) (hNw : N ≤ w.heap.size) (hR : Kd.R Kd.string 9 w M0 (fun _ => True) v xs) (hg : w.grownBy w1 v.ownBlock) : Ft N w w1 :=
  ⟨(Below.refl N w).grown hg hNw (fun k e => Nat.le_trans hN (Kd.R_base hR k e)), hg.size, fun k cs hk => grown_blk hk hg (own9_ne hR hk (by decide))⟩
end
end Go.Proofs.YtldkgfhngonnfaaDoor.S
namespace Go.Proofs.YtldkgfhngonnfaaDoor.S
open Go.RowKit Go.Proofs.YtldkgfhngonnfaaDoor.PTopStreams Go.Proofs.YtldkgfhngonnfaaDoorW.PrintWords Go.Proofs.YtldkgfhngonnfaaDoorW.PrintLast Go.Proofs.YtldkgfhngonnfaaDoorW.PrintMore
set_option linter.unusedVariables false
set_option linter.unusedSimpArgs false
theorem notEmpty (b : ByteArray) (h : 1 ≤ b.size) : b.toList.isEmpty = false := by
  rw [ByteArray.toList_eq]
  cases e : b.data.toList with
  | nil =>
    have : b.data.toList.length = b.size := by rw [Array.length_toList]; rfl
    rw [e] at this
    simp at this
    omega
  | cons => rfl
theorem emptyB : (⟨#[]⟩ : ByteArray).toList.isEmpty = true := by rw [ByteArray.toList_eq]; rfl
theorem cell2 {w : World} {b t k : Nat} {kk : Int} {u v : Value} (h : w.heap[b]? = some (.cells #[u, v] t (0, 0))) (hk : k < 2) (hkk : kk.toNat = k) : w.cell? ⟨b, kk.toNat, none⟩ = some (if k = 0 then u else v) := by
  rw [hkk, blk_cell h k]
  rcases (show k = 0 ∨ k = 1 by omega) with rfl | rfl <;> rfl
/-- The number in a cell. -/
def cellI (w : World) (a : Addr) : Int := match w.cell? a with
  | some v => intOf v
  | none => 0
theorem cellI_of {w : World} {a : Addr} {k : IntKind} {n : Int} (h : w.cell? a = some (.int k n)) : cellI w a = n := by unfold cellI; rw [h]; rfl
theorem disk_tl {N : Nat} {w : World} {K : Ad} {D : Dsk} (h : IsDisk N w K D) : cellI w ⟨K.db, 3, none⟩ = D.tl := by
  obtain ⟨_, _, _, _, _, x, _⟩ := h.cells
  exact cellI_of x
def Open8R (N : Nat) (V : Vars) (K : Ad) (M0 : Nat) (cv : Value) (w : World) (C : Int) (w' : World) : Prop :=
  ∃ D' B' lost' sv' tv' m' told', OpSt N V K M0 cv w' D' B' lost' sv' tv' m' told' 2 ∧ (B' : Int) + 2 * pot lost' D'.tl ≤ C ∧ Ft N w w'
set_option maxHeartbeats 1000000 in
set_option maxRecDepth 100000 in
theorem open8_calls (N : Nat) (V : Vars) (K : Ad) (M0 : Nat) (cuts : List CutT) (cv : Value) (E : Env N V K M0 cuts cv) (W0 : World) (A : Option Addr) (c : Nat) (hcv : cv = .slice A cuts.length c) (hC : Kd.C KCut W0 A cuts.length cuts) (hW0 : W0.heap.size ≤ N)
    (w : World) (D : Dsk) (B : Nat) (lost : Int) (sv tv : Nat → Value) (m : Nat → ByteArray) (told : Nat → List ByteArray) (h : OpSt N V K M0 cv w D B lost sv tv m told 0) (hB0 : Below W0.heap.size W0 w) (C : Int) (hb : (B : Int) + 2 * pot lost D.tl + 2 ≤ C) (hCC : C ≤ 1000) :
    Calls Tryd.prog 8 #[ptr V.dB, ptr V.aB, ptr V.mB, ptr V.tB, ptr V.sB] w fun e w' => e = .returned (.bool true) ∧ Open8R N V K M0 cv w C w' := by
  have hu9 := Tryd.underlying9
  have hu29 := Tryd.underlying29
  have hu28 := Tryd.underlying28
  have hu30 := Tryd.underlying30
  have hu31 := Tryd.underlying31
  have HE := Aside0.mk E
  have HB := Aside0.mk hB0
  have HN := Aside0.mk h.size
  have HNM := Aside0.mk h.sizeM
  have HARM := Aside0.mk (fun (w1 : World) (hf : Ft N w w1) (D1 : Dsk) (hd : IsDisk N w1 K D1) (lost1 : Int) (h0 : 0 ≤ lost1) (h8 : lost1 ≤ 8) (sv1 tv1 : Nat → Value) (m1 : Nat → ByteArray) (told1 : Nat → List ByteArray) (hT : TopM V K M0 cv w1 lost1 sv1 tv1 m1 told1) (ht : D1.tl = 0) => arm_calls N V K M0 cuts cv E A c hcv w1 (Kd.C_below hC (hB0.trans (hf.below.mono hW0))) D1 hd (Nat.le_trans h.size hf.size) lost1 h0 h8 sv1 tv1 m1 told1 hT (by omega) (by omega))
  have HREL : Aside0 (OpSt N V K M0 cv w D B lost sv tv m told 0 ∧ (B : Int) + 2 * pot lost D.tl + 2 ≤ C ∧ Ft N w w) := Aside0.mk ⟨h, hb, Ft.of_below (Below.refl _ _) h.size⟩
  have HCC := Aside0.mk hCC
  clear E hcv hC hW0 h hB0 hb hCC
  go_enter Tryd.func8, Tryd.ntmps8
  go_wp2
  go_loopw [6] (fun v6 wr => ∃ (kk : Int) (k Bk : Nat) (Dk : Dsk) (lk : Int) (svk tvk : Nat → Value) (mk : Nat → ByteArray) (tk : Nat → List ByteArray), v6 = .int .i64 kk ∧ kk = (k : Int) ∧ Aside0 (OpSt N V K M0 cv wr Dk Bk lk svk tvk mk tk k) ∧ Aside0 ((Bk : Int) + 2 * pot lk Dk.tl + (2 - kk) ≤ C) ∧ Aside0 (Ft N w wr)) (fun v6 wr => (3 * pot (cellI wr ⟨V.lB, 0, none⟩) (cellI wr ⟨K.db, 3, none⟩) + (2 - intOf v6)).toNat)
  case atStart => exact ⟨0, 0, B, D, lost, sv, tv, m, told, rfl, rfl, Aside0.mk HREL.out.1, Aside0.mk HREL.out.2.1, Aside0.mk HREL.out.2.2⟩
  case round =>
    clear HREL
    obtain ⟨kk, k, Bk, Dk, lk, svk, tvk, mk, tk, rfl, hkk, HS, HC, HF⟩ := hrel
    have hme : cellI wr ⟨V.lB, 0, none⟩ = lk := cellI_of ((blk_cell HS.out.top.l 0).trans rfl)
    have hmt : cellI wr ⟨K.db, 3, none⟩ = Dk.tl := disk_tl HS.out.disk
    rw [hme, hmt]
    have hk0 : 0 ≤ kk := by omega
    have HKK := Aside0.mk hkk
    by_cases hk2 : k < 2
    · have hlt : decide (kk < 2) = true := decide_eq_true (by omega)
      have hkk2 : kk < 2 := by omega
      obtain ⟨x0, cs0, q1, q2, q3, q4⟩ := HS.out.seen k hk2 (Nat.le_refl _)
      obtain ⟨rs, hrs⟩ : ∃ rs, rs = recs 30 x0 cs0 := ⟨_, rfl⟩
      rw [← hrs] at q3 q4
      have HRS := Aside0.mk q3
      have HFT := Aside0.mk q4
      have HBB : Aside0 (Bk + 1 < 281474976710656) := Aside0.mk (by have := HC.out; have := pot_nonneg (t := Dk.tl) HS.out.l8; have := HCC.out; omega)
      have HO := Aside0.mk (open_out N wr K Dk HS.out.disk HS.out.size kk k 30 Bk HKK.out (by decide) (by decide) HS.out.sound HS.out.on x0 cs0 q1 q2 HBB.out rs hrs.symm q4)
      clear q1 q2 q3 q4 hrs hkk
      have xd : wr.cell? ⟨V.dB, 0, none⟩ = some (ptr K.db) := (blk_cell HS.out.top.d 0).trans rfl
      go_upto_region 4 with (first | (go_at_call 9; go_loud (refine HO.out.mono ?_; rintro e w2 ⟨x, v, er, D2, rfl, hd2, hf2, ho2⟩; have HD2 := Aside0.mk hd2; have HF2 := Aside0.mk hf2; have HO2 := Aside0.mk ho2; clear hd2 hf2 ho2)))
      clear xd
      have HT2 := Aside0.mk (HS.out.top.fd HS.out.disk HE.out.klt HF2.out)
      have HG2 := Aside0.mk (HF.out.trans (Ft.of_fd HS.out.disk HF2.out))
      have hn2 : N ≤ w2.heap.size := Nat.le_trans HN.out HG2.out.size
      have xd : w2.cell? ⟨V.dB, 0, none⟩ = some (ptr K.db) := (blk_cell HT2.out.d 0).trans rfl
      rcases HO2.out.2.2 with ⟨he, p1, p2, sb, S, x', cs', p3, p4, p5, p6, p7, p8, p9⟩ | ⟨he, p1, p2, p3, p4⟩
      case inr =>
        subst he
        have HP := Aside0.mk (show D2.off = true ∧ D2.tl = 0 ∧ Dk.tl ≠ 0 ∧ _ from ⟨p1, p2, p3, p4⟩)
        have HOF := Aside0.mk (off_calls N w2 K D2 HD2.out)
        rw [p1] at HOF
        have HON := Aside0.mk (on_calls N w2 K D2 HD2.out hn2)
        clear p1 p2 p3 p4 HO
        go_upto_region 6 with (first | (go_at_call 10; go_loud (refine HOF.out.mono ?_; rintro e w3 ⟨rfl, rfl⟩)) | (go_at_call 11; go_loud (refine HON.out.mono ?_; rintro e w3 ⟨rfl, hd3, hf3⟩; have HD3 := Aside0.mk hd3; have HF3 := Aside0.mk hf3; clear hd3 hf3)))
        have HT3 := Aside0.mk (HT2.out.fd HD2.out HE.out.klt HF3.out)
        have HG3 := Aside0.mk (HG2.out.trans (Ft.of_fd HD2.out HF3.out))
        have HA3 := Aside0.mk (HARM.out w3 HG3.out _ HD3.out lk HS.out.l0 HS.out.l8 svk tvk mk tk HT3.out rfl)
        clear xd
        have xa : w3.cell? ⟨V.aB, 0, none⟩ = some (.func (Fn.func 6) #[] #[ptr V.lB, ptr V.cB, ptr V.dB]) := (blk_cell HT3.out.a 0).trans rfl
        go_wp2_with (first | (go_at_call 6; go_loud (refine HA3.out.mono ?_; rintro e w4 ⟨rfl, ha4⟩; have HA4 := Aside0.mk ha4; clear ha4)))
        obtain ⟨D4, l4, a1, a2, a3, a4, a5, a6, a7, a8, a9, a10⟩ := HA4.out
        have hG4 := HG3.out.trans a10
        have hp0 : pot lk (0 : Int) = 2 * (8 - lk) := by unfold pot; rw [if_pos rfl]; omega
        have hp1 : pot lk Dk.tl = 2 * (8 - lk) + 1 := by unfold pot; rw [if_neg HP.out.2.2.1]
        have hp2 : pot l4 D4.tl ≤ pot lk 0 := a8
        have hp3 := pot_nonneg (t := D4.tl) a7
        have hm1 : cellI w4 ⟨V.lB, 0, none⟩ = l4 := cellI_of ((blk_cell a9.l 0).trans rfl)
        have hm2 : cellI w4 ⟨K.db, 3, none⟩ = D4.tl := disk_tl a1
        have hcc := HC.out
        rw [hm1, hm2]
        refine ⟨⟨0, 0, Bk + 1, D4, l4, svk, tvk, mk, tk, rfl, rfl, Aside0.mk (HS.out.again hk2 (x := .int .i64 0) (v := .int .i64 0) (rs := rs) (fun x cs e => by rw [e]; exact HRS.out) HFT.out HO2.out.1 HO2.out.2.1 HP.out.2.2.2 D4 l4 a1 a2 a3 a4 a5 a6 a7 a9 (Nat.le_trans HN.out hG4.size) (Nat.le_trans HNM.out hG4.size)), Aside0.mk ?_, Aside0.mk hG4⟩, ?_⟩
        · push_cast
          omega
        · simp only [intOf]
          omega
      case inl =>
        subst he p3
        have HS5 := Aside0.mk p5
        have HR5 := Aside0.mk p6
        have HP := Aside0.mk (show D2.off = false ∧ D2.tl ≤ Dk.tl ∧ wr.heap.size ≤ sb ∧ D2.regs[k]? = some ⟨rows x' cs', []⟩ ∧ RegC 30 (Bk + 1) x' cs' ∧ Live 30 S k rs x' cs' from ⟨p1, p2, p4, p7, p8, p9⟩)
        obtain ⟨A2, c2, rfl⟩ := Kd.R_slice p6
        clear p1 p2 p4 p5 p6 p7 p8 p9 HO
        go_upto_region 10 with (fail)
        clear xd
        have hkn : kk.toNat = k := by rw [HKK.out]; rfl
        have xm : w2.cell? ⟨V.mB, kk.toNat, none⟩ = some (.string (mk k)) := by
          rw [hkn, blk_cell HT2.out.m k]
          rcases (show k = 0 ∨ k = 1 by omega) with rfl | rfl <;> rfl
        have hRt := HT2.out.told k hk2
        obtain ⟨A3, c3, htv⟩ := Kd.R_slice hRt
        rw [htv] at hRt
        have HRT := Aside0.mk hRt
        have xt : w2.cell? ⟨V.tB, kk.toNat, none⟩ = some (.slice A3 (tk k).length c3) := by
          rw [hkn, blk_cell HT2.out.t k, ← htv]
          rcases (show k = 0 ∨ k = 1 by omega) with rfl | rfl <;> rfl
        have HTV := Aside0.mk htv
        have HKN := Aside0.mk hkn
        have htl : (tk k).length ≤ rs.length := by
          rcases HRS.out with h | ⟨_, h⟩
          · rw [h]; exact Nat.le_refl _
          · rw [h]; simp
        have hrl : rs.length ≤ 1650 := by have := frms_len rs; have := HFT.out; omega
        obtain ⟨bb, hbb⟩ : ∃ bb : Bool, (bb = true ∧ 1 ≤ (mk k).size ∧ rs = tk k ++ [mk k]) ∨ (bb = false ∧ rs = tk k) := by
          rcases HRS.out with h | ⟨h1, h2⟩
          · exact ⟨false, .inr ⟨rfl, h⟩⟩
          · exact ⟨true, .inl ⟨rfl, h1, h2⟩⟩
        have HBBB := Aside0.mk hbb
        clear htv hkn hRt hbb
        go_cut [60] (fun v60 wx => v60 = .bool bb ∧ Aside0 (Below w2.heap.size w2 wx))
        case first =>
          rcases HBBB.out with ⟨rfl, hm1, hrs1⟩ | ⟨rfl, hrs1⟩
          · have hmn : (mk k).toList.isEmpty = false := notEmpty _ hm1
            have hln : (rs.length : Int) = ((tk k).length : Int) + 1 := by rw [hrs1]; simp
            have hle : ((rs.length : Int) == ((tk k).length : Int) + 1) = true := by rw [hln]; simp
            obtain ⟨ad, hA, hcell⟩ := Kd.at_string (Kd.R_reads' HR5.out).2.2 ((tk k).length : Int) (by omega) (by omega)
            have hrd : rdOf ByteArray.empty rs ((tk k).length : Int) = mk k := by
              unfold rdOf
              rw [hrs1]
              simp
            rw [hrd, Int.toNat_natCast] at hcell
            subst hA
            have hw1 : IntKind.i64.wrap (((tk k).length : Int) + 1) = ((tk k).length : Int) + 1 := by rw [IntKind.wrap_i64]; omega
            have hlt2 : ((tk k).length : Int) < (rs.length : Int) := by omega
            have hl0 : (0 : Int) ≤ ((tk k).length : Int) := by omega
            clear hrd hm1 hrs1 hln
            go_quiet (fail)
            go_wp2
            go_meet
            case rel => exact ⟨rfl, Aside0.mk (pw_below_drewN (Below.refl _ _) _)⟩
          · have hle : ((rs.length : Int) == ((tk k).length : Int) + 1) = false := by
              rw [hrs1, beq_eq_false_iff_ne]
              omega
            have hw1 : IntKind.i64.wrap (((tk k).length : Int) + 1) = ((tk k).length : Int) + 1 := by rw [IntKind.wrap_i64]; omega
            cases hmn : (mk k).toList.isEmpty
            · clear hrs1
              go_quiet (fail)
              go_wp2
              go_meet
              case rel => exact ⟨rfl, Aside0.mk (pw_below_drewN (Below.refl _ _) _)⟩
            · clear hrs1
              go_quiet (fail)
              go_wp2
              go_meet
              case rel => exact ⟨rfl, Aside0.mk (pw_below_drewN (Below.refl _ _) _)⟩
        case rest =>
          obtain ⟨rfl, HBX⟩ := hcut
          have HT3 := Aside0.mk (HT2.out.below HBX.out)
          have HD3 := Aside0.mk (HD2.out.below HBX.out)
          have HS3 := Aside0.mk (HS5.out.below HBX.out)
          have HR3 := Aside0.mk (Kd.R_below HR5.out HBX.out)
          have HG3 := Aside0.mk (Ft.of_below (N := N) HBX.out hn2)
          clear xm xt
          go_upto_if 60 with (fail)
          go_cut [] (fun wy => ∃ tv', Aside0 (TopM V K M0 cv wy lk svk tv' mk (upd tk k rs)) ∧ Aside0 (IsDisk N wy K D2) ∧ Aside0 (Ft N w2 wy) ∧ Aside0 (IsStr wy sb K.db S) ∧ Aside0 (Kd.R Kd.string 9 wy wr.heap.size (fun _ => True) (.slice A2 rs.length c2) rs))
          case first =>
            rcases HBBB.out with ⟨rfl, hm1, hrs1⟩ | ⟨rfl, hrs1⟩
            · have HRS1 := Aside0.mk hrs1
              clear hm1 hrs1
              have hkn2 := HKN.out
              have hRt2 := Kd.R_below HRT.out HBX.out
              have xm : wc.cell? ⟨V.mB, kk.toNat, none⟩ = some (.string (mk k)) := by
                rw [hkn2, blk_cell HT3.out.m k]
                rcases (show k = 0 ∨ k = 1 by omega) with rfl | rfl <;> rfl
              have xt : wc.cell? ⟨V.tB, kk.toNat, none⟩ = some (.slice A3 (tk k).length c3) := by
                rw [hkn2, blk_cell HT3.out.t k, ← HTV.out]
                rcases (show k = 0 ∨ k = 1 by omega) with rfl | rfl <;> rfl
              have hbd := below_drew1 (Below.refl wc.heap.size wc)
              have HT4 := Aside0.mk (HT3.out.below hbd)
              have HD4 := Aside0.mk (HD3.out.below hbd)
              have HS4 := Aside0.mk (HS3.out.below hbd)
              have HR4 := Aside0.mk (Kd.R_below HR3.out hbd)
              have HG4 := Aside0.mk (HG3.out.trans (Ft.of_below (N := N) hbd (Nat.le_trans hn2 HG3.out.size)))
              have HRT4 := Aside0.mk (Kd.R_below hRt2 hbd)
              have hM4 : M0 ≤ wc.drew.heap.size := Nat.le_trans HNM.out (Nat.le_trans HG2.out.size HG4.out.size)
              have hLB : ((tk k).length + 1) * 16 ≤ 140737488355328 := by omega
              clear hbd hRt2 hkn2
              go_upto_region 11 with (fail)
              refine wp_region_z_drew (S := fun w => w.cell? ⟨V.tB, kk.toNat, none⟩ = some (.slice A3 (tk k).length c3) ∧ w.cell? ⟨V.mB, kk.toNat, none⟩ = some (.string (mk k))) 10 (by kernel_rfl) ⟨xt, xm⟩ (fun hHeld => ?_)
              clear xm xt
              generalize wc.drew = wd at *
              refine wpAnyZ_take (i := 0) (oi := { dst := some 61, op := Op.move (Operand.tmp 6), type := 3, pos := "top08.go:63", after := #[], guard := none }) (v := ?vg0) rfl (by kernel_rfl) (by kernel_rfl) (by kernel_rfl) (by kernel_rfl) (by kernel_rfl) (fun _ _ _ h => h) (Or.inl ⟨by rfl, ?yg0⟩) (by assumption) ?_
              case yg0 => (intro w hSw; (try dsimp only at hSw); go_simp; try with_reducible rfl)
              (try simp only [Act.put, List.setIfInBounds_toArray, List.set_cons_zero, List.set_cons_succ])
              refine wpAnyZ_take (i := 1) (oi := { dst := some 62, op := Op.move (Operand.tmp 6), type := 3, pos := "top08.go:63", after := #[], guard := none }) (v := ?vg1) rfl (by kernel_rfl) (by kernel_rfl) (by kernel_rfl) (by kernel_rfl) (by kernel_rfl) (fun _ _ _ h => h) (Or.inl ⟨by rfl, ?yg1⟩) (by assumption) ?_
              case yg1 => (intro w hSw; (try dsimp only at hSw); go_simp; try with_reducible rfl)
              (try simp only [Act.put, List.setIfInBounds_toArray, List.set_cons_zero, List.set_cons_succ])
              refine wpAnyZ_take (i := 2) (oi := { dst := some 63, op := Op.indexAddr 30 (Operand.tmp 3) (Operand.tmp 62), type := 0, pos := "top08.go:63", after := #[{ on := 1, ground := Ground.data }], guard := none }) (v := ?vg2) rfl (by kernel_rfl) (by kernel_rfl) (by kernel_rfl) (by kernel_rfl) (by kernel_rfl) (fun _ _ _ h => h) (Or.inl ⟨by rfl, ?yg2⟩) (by assumption) ?_
              case yg2 => (intro w hSw; (try dsimp only at hSw); go_simp; try with_reducible rfl)
              (try simp only [Act.put, List.setIfInBounds_toArray, List.set_cons_zero, List.set_cons_succ])
              refine wpAnyZ_take (i := 3) (oi := { dst := some 64, op := Op.load 29 (Operand.tmp 63), type := 29, pos := "top08.go:63", after := #[{ on := 2, ground := Ground.data }], guard := none }) (v := ?vg3) rfl (by kernel_rfl) (by kernel_rfl) (by kernel_rfl) (by kernel_rfl) (by kernel_rfl) (fun _ _ _ h => h) (Or.inl ⟨by rfl, ?yg3⟩) (by assumption) ?_
              case yg3 => (intro w hSw; (try dsimp only at hSw); go_simp; try with_reducible rfl)
              (try simp only [Act.put, List.setIfInBounds_toArray, List.set_cons_zero, List.set_cons_succ])
              refine wpAnyZ_take (i := 4) (oi := { dst := some 65, op := Op.move (Operand.tmp 6), type := 3, pos := "top08.go:63", after := #[], guard := none }) (v := ?vg4) rfl (by kernel_rfl) (by kernel_rfl) (by kernel_rfl) (by kernel_rfl) (by kernel_rfl) (fun _ _ _ h => h) (Or.inl ⟨by rfl, ?yg4⟩) (by assumption) ?_
              case yg4 => (intro w hSw; (try dsimp only at hSw); go_simp; try with_reducible rfl)
              (try simp only [Act.put, List.setIfInBounds_toArray, List.set_cons_zero, List.set_cons_succ])
              refine wpAnyZ_take (i := 5) (oi := { dst := some 66, op := Op.indexAddr 31 (Operand.tmp 2) (Operand.tmp 65), type := 0, pos := "top08.go:63", after := #[{ on := 4, ground := Ground.data }], guard := none }) (v := ?vg5) rfl (by kernel_rfl) (by kernel_rfl) (by kernel_rfl) (by kernel_rfl) (by kernel_rfl) (fun _ _ _ h => h) (Or.inl ⟨by rfl, ?yg5⟩) (by assumption) ?_
              case yg5 => (intro w hSw; (try dsimp only at hSw); go_simp; try with_reducible rfl)
              (try simp only [Act.put, List.setIfInBounds_toArray, List.set_cons_zero, List.set_cons_succ])
              refine wpAnyZ_take (i := 6) (oi := { dst := some 67, op := Op.load 9 (Operand.tmp 66), type := 9, pos := "top08.go:63", after := #[{ on := 5, ground := Ground.data }], guard := none }) (v := ?vg6) rfl (by kernel_rfl) (by kernel_rfl) (by kernel_rfl) (by kernel_rfl) (by kernel_rfl) (fun _ _ _ h => h) (Or.inl ⟨by rfl, ?yg6⟩) (by assumption) ?_
              case yg6 => (intro w hSw; (try dsimp only at hSw); go_simp; try with_reducible rfl)
              (try simp only [Act.put, List.setIfInBounds_toArray, List.set_cons_zero, List.set_cons_succ])
              refine wpAnyZ_ready (rs := [7]) (by kernel_rfl) (by simp) ?_
              refine AllReadyZ.cons (o := { dst := some 68, op := Op.buildSlice 29 1 #[(0, Operand.tmp 67)], type := 29, pos := "top08.go:63", after := #[{ on := 6, ground := Ground.data }], guard := none }) rfl (fun KK hK => ?_) AllReadyZ.nil
              go_simp
              have hbA := below_alloc (Below.refl wd.heap.size wd) (.cells #[.string (mk k)] 9)
              have kA : (wd.alloc (.cells #[.string (mk k)] 9)).cell? ⟨V.tB, kk.toNat, none⟩ = some (.slice A3 (tk k).length c3) ∧ (wd.alloc (.cells #[.string (mk k)] 9)).cell? ⟨V.mB, kk.toNat, none⟩ = some (.string (mk k)) :=
                ⟨pw_cell_below hbA hHeld.1, pw_cell_below hbA hHeld.2⟩
              clear hbA
              refine hK.out _ _ kA (fun hHeld2 => ?_)
              clear hK KK hHeld
              have hHeld := hHeld2
              clear hHeld2
              (try simp only [Act.put, List.setIfInBounds_toArray, List.set_cons_zero, List.set_cons_succ])
              refine wpAnyZ_ready (rs := [8]) (by kernel_rfl) (by simp) ?_
              refine AllReadyZ.cons (o := { dst := some 69, op := Op.call { callee := Callee.builtin Builtin.append, args := #[Operand.tmp 64, Operand.tmp 68], argTypes := #[29, 29] }, type := 29, pos := "top08.go:63", after := #[{ on := 3, ground := Ground.data }, { on := 7, ground := Ground.data }], guard := none }) rfl (fun KK hK => ?_) AllReadyZ.nil
              refine Kd.R_append_step Kd.string (w0 := wd) (W := wd) M0 rfl (.tmp 64) (.tmp 68) 29 9 (.string ⟨#[]⟩) 16 rfl Tryd.underlying29 info9 rfl (by decide) (by decide) (.slice A3 (tk k).length c3) (tk k) (mk k) [.string (mk k)] (fun _ => True) (fun _ => False) rfl rfl rfl (fun _ h => h.elim) (fun _ _ => trivial) HRT4.out (Below.refl _ _) hM4 hLB ?_
              intro v1 w1 hq1 hb1 hg1 hat1
              obtain ⟨A4, c4, rfl⟩ := Kd.R_slice hq1
              have ht1 := grown_blk HT4.out.t hg1 (own9_ne HRT4.out HT4.out.t (by decide))
              have hm1 := grown_blk HT4.out.m hg1 (own9_ne HRT4.out HT4.out.m (by decide))
              have kB : w1.cell? ⟨V.tB, kk.toNat, none⟩ = some (.slice A3 (tk k).length c3) ∧ w1.cell? ⟨V.mB, kk.toNat, none⟩ = some (.string (mk k)) := ⟨by
                rw [cell2 ht1 hk2 HKN.out, ← HTV.out]
                rcases (show k = 0 ∨ k = 1 by omega) with e | e <;> rw [e] <;> rfl, by
                rw [cell2 hm1 hk2 HKN.out]
                rcases (show k = 0 ∨ k = 1 by omega) with e | e <;> rw [e] <;> rfl⟩
              have zB := blk_frozen ht1 kk.toNat
              have HR5 := Aside0.mk hq1
              have HGR := Aside0.mk hg1
              have HAT := Aside0.mk hat1
              clear ht1 hm1 hq1 hg1 hat1 hb1
              refine hK.out _ _ kB (fun hHeld2 => ?_)
              clear hK KK hHeld
              have hHeld := hHeld2
              clear hHeld2
              (try simp only [Act.put, List.setIfInBounds_toArray, List.set_cons_zero, List.set_cons_succ])
              refine wpAnyZ_takep (i := 9) (oi := { dst := some 70, op := Op.indexAddr 30 (Operand.tmp 3) (Operand.tmp 61), type := 0, pos := "top08.go:63", after := #[{ on := 0, ground := Ground.data }, { on := 0, ground := Ground.phase }, { on := 1, ground := Ground.phase }, { on := 2, ground := Ground.phase }, { on := 3, ground := Ground.phase }, { on := 4, ground := Ground.phase }, { on := 5, ground := Ground.phase }, { on := 6, ground := Ground.phase }, { on := 7, ground := Ground.phase }, { on := 8, ground := Ground.phase }], guard := none }) (v := ?vg9) rfl (by kernel_rfl) (by kernel_rfl) (by kernel_rfl) (by decide) (fun _ _ _ h => h) (Or.inl ⟨by rfl, ?yg9⟩) (fun _ => by assumption) ?_
              case yg9 => (intro w hSw; clear hSw; go_simp; try with_reducible rfl)
              (try simp only [Act.put, List.setIfInBounds_toArray, List.set_cons_zero, List.set_cons_succ])
              refine wpAnyZ_ready (rs := [10]) (by kernel_rfl) (by simp) ?_
              refine AllReadyZ.last (o := { dst := none, op := Op.store 29 (Operand.tmp 70) (Operand.tmp 69), type := 0, pos := "top08.go:63", after := #[{ on := 9, ground := Ground.data }, { on := 8, ground := Ground.data }, { on := 8, ground := Ground.chain }, { on := 0, ground := Ground.phase }, { on := 1, ground := Ground.phase }, { on := 2, ground := Ground.phase }, { on := 3, ground := Ground.phase }, { on := 4, ground := Ground.phase }, { on := 5, ground := Ground.phase }, { on := 6, ground := Ground.phase }, { on := 7, ground := Ground.phase }, { on := 8, ground := Ground.phase }], guard := none }) rfl (by kernel_rfl) (fun KK hK => ?_) AllReadyZ.nil
              have zt1 := zB
              have xt1 := kB.1
              clear kB kA
              go_simp
              refine hK.out _ _ trivial (fun hHeld2 => ?_)
              clear hK KK hHeld
              have hHeld := hHeld2
              clear hHeld2
              (try simp only [Act.put, List.setIfInBounds_toArray, List.set_cons_zero, List.set_cons_succ])
              refine wpAnyZ_done (by kernel_rfl) ?_ _
              clear hHeld
              have HT6 : Aside0 (TopM V K M0 cv (w1.setCell ⟨V.tB, kk.toNat, none⟩ (.slice A4 (tk k ++ [mk k]).length c4)) lk svk (upd tvk k (.slice A4 (tk k ++ [mk k]).length c4)) mk (upd tk k (tk k ++ [mk k]))) := Aside0.mk (by
                rw [HKN.out]
                exact HT4.out.push k hk2 (by rw [HTV.out]; exact HGR.out) _ _ HR5.out (by rw [HTV.out]; exact HAT.out))
              have ht1 := grown_blk HT4.out.t HGR.out (own9_ne HRT4.out HT4.out.t (by decide))
              have HF5 := Aside0.mk (HG4.out.trans (Ft.grown9 HE.out.low.2.2.2.2.2 (Nat.le_trans hn2 HG4.out.size) HRT4.out HGR.out))
              have HF6 := Aside0.mk (HF5.out.trans (Ft.set (N := N) (j := kk.toNat) ht1 (by decide) HE.out.low.2.2.1 (.slice A4 (tk k ++ [mk k]).length c4)))
              have HD6 := Aside0.mk ((HD4.out.grown9 HE.out.klt HRT4.out HGR.out).setT ht1 (by decide) kk.toNat (.slice A4 (tk k ++ [mk k]).length c4))
              have HS6 := Aside0.mk (HF6.out.str _ _ HS5.out)
              have HC6 : Aside0 (Kd.R Kd.string 9 (w1.setCell ⟨V.tB, kk.toNat, none⟩ (.slice A4 (tk k ++ [mk k]).length c4)) wr.heap.size (fun _ => True) (.slice A2 rs.length c2) rs) := Aside0.mk (by
                have h1 := R_own_step rfl HR4.out (fun b hb hlt => HGR.out.block b hlt (fun e => by
                  have h2 := Kd.R_base HR4.out b hb
                  have h3 := Kd.R_lt (HS.out.top.told k hk2) b (by rw [HTV.out]; exact e.symm)
                  omega))
                exact R_far h1 ht1 (by decide))
              rw [List.length_append, List.length_cons, List.length_nil] at HT6 HF6 HD6 HS6 HC6
              clear ht1 xt1 zt1 zB hLB hM4
              generalize w1.setCell ⟨V.tB, kk.toNat, none⟩ (.slice A4 ((tk k).length + (0 + 1)) c4) = w6 at *
              go_wp2
              go_meet
              case rel => exact ⟨_, Aside0.mk (by rw [HRS1.out]; exact HT6.out), HD6, HF6, HS6, HC6⟩
            · have hut : upd tk k rs = tk := by
                funext j
                by_cases e : j = k
                · subst e; rw [upd_same]; exact hrs1
                · rw [upd_other _ _ _ _ e]
              have HX : Aside0 (TopM V K M0 cv wc lk svk tvk mk (upd tk k rs)) := Aside0.mk (by rw [hut]; exact HT3.out)
              have HC3 := HR3
              clear hrs1 hut
              go_wp2
              go_meet
              case rel => exact ⟨tvk, HX, HD3, HG3, HS3, HC3⟩
          case rest =>
            obtain ⟨tv', HT6, HD6, HF6, HS6, HC6⟩ := hcut
            clear HBX HT3 HD3 HS3 HR3 HG3
            have hn6 : N ≤ wc.heap.size := Nat.le_trans hn2 HF6.out.size
            have xm := cell2 (kk := kk) HT6.out.m hk2 HKN.out
            have zm := blk_frozen HT6.out.m kk.toNat
            have HT7 : Aside0 (TopM V K M0 cv (wc.setCell ⟨V.mB, kk.toNat, none⟩ (.string ⟨#[]⟩)) lk svk tv' (upd mk k ⟨#[]⟩) (upd tk k rs)) := Aside0.mk (by rw [HKN.out]; exact HT6.out.setM k hk2 ⟨#[]⟩)
            have HD7 := Aside0.mk (HD6.out.setT HT6.out.m (by decide) kk.toNat (.string ⟨#[]⟩))
            have HF7 := Aside0.mk (HF6.out.trans (Ft.set (N := N) (j := kk.toNat) HT6.out.m (by decide) HE.out.low.2.2.2.1 (.string ⟨#[]⟩)))
            have HS7 := Aside0.mk (HF7.out.str _ _ HS5.out)
            have HC7 := Aside0.mk (R_far (j := kk.toNat) (u := .string ⟨#[]⟩) HC6.out HT6.out.m (by decide))
            go_upto_region 13 with (fail)
            clear xm zm HT6 HD6 HF6 HS6 HC6 hn6
            generalize wc.setCell ⟨V.mB, kk.toNat, none⟩ (.string ⟨#[]⟩) = w7 at *
            have hRt := HT7.out.told k hk2
            rw [upd_same] at hRt
            obtain ⟨A5, c5, htv⟩ := Kd.R_slice hRt
            rw [htv] at hRt
            have HRT7 := Aside0.mk hRt
            have xt : w7.cell? ⟨V.tB, kk.toNat, none⟩ = some (.slice A5 rs.length c5) := by
              rw [cell2 (kk := kk) HT7.out.t hk2 HKN.out, ← htv]
              rcases (show k = 0 ∨ k = 1 by omega) with e | e <;> rw [e] <;> rfl
            have HXT := Aside0.mk xt
            have HB7 := Aside0.mk (Below.refl w7.heap.size w7)
            clear hRt htv
            go_wp2
            clear xt
            go_loopw [82] (fun v82 wz => ∃ (q : Int) (i : Nat), v82 = .int .i64 q ∧ Aside0 (q = (i : Int)) ∧ i ≤ rs.length ∧ Aside0 (Below w7.heap.size w7 wz)) (fun v82 _ => rs.length - (intOf v82).toNat)
            case atStart => exact ⟨0, 0, rfl, Aside0.mk rfl, Nat.zero_le _, HB7⟩
            case round =>
              clear HB7
              obtain ⟨q, i, rfl, HQ, hi, HBz⟩ := hrel
              have HC8 := Aside0.mk (Kd.R_below HC7.out HBz.out)
              have HRT8 := Aside0.mk (Kd.R_below HRT7.out HBz.out)
              have xt := pw_cell_below HBz.out HXT.out
              by_cases hin : i < rs.length
              · have hlt2 : decide (q < (rs.length : Int)) = true := decide_eq_true (by rw [HQ.out]; omega)
                have hq0 : 0 ≤ q := by rw [HQ.out]; omega
                have hq1 : q < (rs.length : Int) := by rw [HQ.out]; omega
                obtain ⟨ad1, hA1, y1⟩ := Kd.at_string (Kd.R_reads' HC8.out).2.2 q hq0 hq1
                obtain ⟨ad2, hA2, y2⟩ := Kd.at_string (Kd.R_reads' HRT8.out).2.2 q hq0 hq1
                subst hA1 hA2
                generalize rdOf ByteArray.empty rs q = txt at *
                go_upto_region 18 with (fail)
                go_quiet (fail)
                go_wp2
                exact ⟨⟨q + 1, i + 1, rfl, Aside0.mk (by have := HQ.out; omega), by omega, Aside0.mk (pw_below_drewN HBz.out _)⟩, by have := HQ.out; simp [intOf]; omega⟩
              · have hlt2 : decide (q < (rs.length : Int)) = false := decide_eq_false (by rw [HQ.out]; omega)
                have HT8 := Aside0.mk (HT7.out.below HBz.out)
                have HD8 := Aside0.mk (HD7.out.below HBz.out)
                have HF8 := Aside0.mk (HF7.out.trans (Ft.of_below (N := N) HBz.out (Nat.le_trans hn2 HF7.out.size)))
                clear xt
                have xs := cell2 (kk := kk) HT8.out.s hk2 HKN.out
                have zs := blk_frozen HT8.out.s kk.toNat
                have HT9 : Aside0 (TopM V K M0 cv (World.setCell _ ⟨V.sB, kk.toNat, none⟩ (ptr sb)) lk (upd svk k (ptr sb)) tv' (upd mk k ⟨#[]⟩) (upd tk k rs)) := Aside0.mk (by rw [HKN.out]; exact HT8.out.setS k hk2 (ptr sb))
                have HD9 := Aside0.mk (HD8.out.setT HT8.out.s (by decide) kk.toNat (ptr sb))
                have HF9 := Aside0.mk (HF8.out.trans (Ft.set (N := N) (j := kk.toNat) HT8.out.s (by decide) HE.out.low.2.1 (ptr sb)))
                have HS9 := Aside0.mk (HF9.out.str _ _ HS5.out)
                have HFW := Aside0.mk ((Ft.of_fd HS.out.disk HF2.out).trans HF9.out)
                go_wp2
                have hm1 : cellI (World.setCell _ ⟨V.sB, kk.toNat, none⟩ (ptr sb)) ⟨V.lB, 0, none⟩ = lk := cellI_of ((blk_cell HT9.out.l 0).trans rfl)
                have hm2 : cellI (World.setCell _ ⟨V.sB, kk.toNat, none⟩ (ptr sb)) ⟨K.db, 3, none⟩ = D2.tl := disk_tl HD9.out
                have hcc := HC.out
                have hp := pot_le (lost := lk) HO2.out.1.t0 HP.out.2.1
                have hp3 := pot_nonneg (t := D2.tl) HS.out.l8
                rw [hm1, hm2]
                refine ⟨⟨kk + 1, k + 1, Bk + 1, D2, lk, upd svk k (ptr sb), tv', upd mk k ⟨#[]⟩, upd tk k rs, rfl, by have := HKK.out; omega, Aside0.mk (HS.out.next hk2 HO2.out.1 HO2.out.2.1 HP.out.1 HP.out.2.2.1 HS9.out HP.out.2.2.2.1 HP.out.2.2.2.2.1 HP.out.2.2.2.2.2 HD9.out HT9.out HFW.out), Aside0.mk ?_, Aside0.mk (HF.out.trans HFW.out)⟩, ?_⟩
                · push_cast
                  omega
                · simp only [intOf]
                  omega
    · have hlt : decide (kk < 2) = false := decide_eq_false (by omega)
      have HR : Aside0 (Open8R N V K M0 cv w C wr) := Aside0.mk (by
        obtain rfl : k = 2 := by have := HS.out.hk; omega
        exact ⟨Dk, Bk, lk, svk, tvk, mk, tk, HS.out, by have := HC.out; omega, HF.out⟩)
      clear HS HC hme hmt hkk
      go_wp2
      go_ret
      exact ⟨rfl, HR.out⟩
end Go.Proofs.YtldkgfhngonnfaaDoor.S
namespace Go.Proofs.YtldkgfhngonnfaaDoor.S
open Go.RowKit Go.Proofs.YtldkgfhngonnfaaDoor.PTopStreams Go.Proofs.YtldkgfhngonnfaaDoorW.PrintWords Go.Proofs.YtldkgfhngonnfaaDoorW.PrintLast Go.Proofs.YtldkgfhngonnfaaDoorW.PrintMore
set_option linter.unusedVariables false
set_option linter.unusedSimpArgs false
section
variable {N : Nat} {V : Vars} {K : Ad} {M0 : Nat} {cv : Value} {w w2 w3 w4 : World} {D D2 D4 : Dsk} {B k : Nat} {lost lost4 : Int} {sv tv tv' : Nat → Value} {m : Nat → ByteArray} {told : Nat → List ByteArray}
/-- What an Append leaves of the rest. -/
structure Fa (N sb : Nat) (w w' : World) : Prop where
  below : Below N w w'
  size : w.heap.size ≤ w'.heap.size
  str : ∀ (k : Nat) (cs : Array Value), k ≠ sb → w.heap[k]? = some (.cells cs 64 (0, 0)) → w'.heap[k]? = some (.cells cs 64 (0, 0))
theorem Fa.of_fs {sb : Nat} (hd : IsDisk N w K D) (h : Fs K sb N w w2) : Fa N sb w w2 := ⟨h.below, h.size, fun k cs hk hc => (h.keep k (blk_lt hc) (hd.free hc (by decide) (by decide) (by decide) (by decide)) hk).trans hc⟩
theorem Fa.ft {sb : Nat} (h : Fa N sb w w2) (h2 : Ft N w2 w3) : Fa N sb w w3 := ⟨h.below.trans h2.below, Nat.le_trans h.size h2.size, fun k cs hk hc => h2.str k cs (h.str k cs hk hc)⟩
theorem Ft.fa {sb : Nat} (h : Ft N w w2) (h2 : Fa N sb w2 w3) : Fa N sb w w3 := ⟨h.below.trans h2.below, Nat.le_trans h.size h2.size, fun k cs hk hc => h2.str k cs hk (h.str k cs hc)⟩
/-- The record lasts. -/
theorem OpSt.more (h : OpSt N V K M0 cv w D B lost sv tv m told 2) (hk : k < 2) {b : ByteArray} {sb : Nat} {S : Str} {x' : Hd} {cs' : List Sec} (hsv : sv k = ptr sb) (hsN : N ≤ sb)
    (hs : Sound 30 B D2) (ho : ∀ j, j ≠ k → D2.regs[j]? = D.regs[j]?) (hoff : D2.off = false) (hS : IsStr w4 sb K.db S) (hr : D2.regs[k]? = some ⟨rows x' cs', []⟩) (hc : RegC 30 B x' cs') (hl : Live 30 S k (told k ++ [b]) x' cs')
    (hd : IsDisk N w4 K D2) (hT : TopM V K M0 cv w4 lost sv tv' m (upd told k (told k ++ [b]))) (hf : Fa N sb w w4) :
    OpSt N V K M0 cv w4 D2 B lost sv tv' m (upd told k (told k ++ [b])) 2 := by
  refine ⟨hd, hs, hoff, h.l0, h.l8, hT, fun j hj hkj => by omega, fun j hj hj2 => ?_, h.ap, Nat.le_trans h.size hf.size, Nat.le_trans h.sizeM hf.size, by decide⟩
  obtain ⟨h1, h2⟩ := h.live j hj hj2
  refine ⟨h1, ?_⟩
  by_cases e : j = k
  · subst e
    rw [upd_same]
    exact ⟨sb, S, x', cs', hsv, hsN, hS, hr, hc, hl⟩
  · rw [upd_other _ _ _ _ e]
    obtain ⟨sb2, S2, x2, cs2, q1, q2, q3, q4, q5, q6⟩ := h2
    refine ⟨sb2, S2, x2, cs2, q1, q2, hf.str _ _ ?_ q3, (ho j e).trans q4, q5, q6⟩
    intro hb
    subst hb
    have hap := h.ap (Nat.le_refl 2)
    rcases (show (j = 0 ∧ k = 1) ∨ (j = 1 ∧ k = 0) by omega) with ⟨rfl, rfl⟩ | ⟨rfl, rfl⟩
    · exact hap (q1.trans hsv.symm)
    · exact hap (hsv.trans q1.symm)
/-- The power failed while a record was under way. -/
theorem OpSt.fell (h : OpSt N V K M0 cv w D B lost sv tv m told 2) (hk : k < 2) {b : ByteArray} (hb : 1 ≤ b.size)
    (hs : Sound 30 B D2) (ho : ∀ j, j ≠ k → D2.regs[j]? = D.regs[j]?) (hx : ∃ x' cs', D2.regs[k]? = some ⟨rows x' cs', []⟩ ∧ RegC 30 B x' cs' ∧ (recs 30 x' cs' = told k ∨ recs 30 x' cs' = told k ++ [b]) ∧ (frms (told k ++ [b])).size + 1 ≤ 30 * 55)
    (hd : IsDisk N w4 K D4) (hr : D4.regs = D2.regs) (hoff : D4.off = false) (ht0 : 0 ≤ D4.tl) (ht1 : D4.tl ≤ 9223372036854775807) (hl0 : 0 ≤ lost4) (hl8 : lost4 ≤ 8) (hT : TopM V K M0 cv w4 lost4 sv tv (upd m k b) told) (hf : w.heap.size ≤ w4.heap.size) :
    OpSt N V K M0 cv w4 D4 B lost4 sv tv (upd m k b) told 0 := by
  refine ⟨hd, ⟨by rw [hr]; exact hs.regs, ht0, ht1⟩, hoff, hl0, hl8, hT, fun j hj _ => ?_, fun j hj => absurd hj (Nat.not_lt_zero _), fun hc => absurd hc (by decide), Nat.le_trans h.size hf, Nat.le_trans h.sizeM hf, by decide⟩
  by_cases e : j = k
  · subst e
    obtain ⟨x', cs', q1, q2, q3, q4⟩ := hx
    rw [upd_same]
    refine ⟨x', cs', by rw [hr]; exact q1, q2, ?_, ?_⟩
    · rcases q3 with q3 | q3
      · exact .inl q3
      · exact .inr ⟨hb, q3⟩
    · rcases q3 with q3 | q3
      · rw [q3]
        rw [frms_app, ByteArray.size_append] at q4
        omega
      · rw [q3]; exact q4
  · rw [upd_other _ _ _ _ e]
    obtain ⟨_, h2⟩ := h.live j hj hj
    exact (h2.seen (m j)).of (by rw [hr]; exact ho j e) (Nat.le_refl B)
end
/-- What Append comes to, its result as a letter. -/
def OutA (D : Dsk) (n H B sb : Nat) (K : Ad) (told : List ByteArray) (b : ByteArray) (er : Int) (D' : Dsk) (w' : World) : Prop :=
  Sound H B D' ∧ (∀ j, j ≠ n → D'.regs[j]? = D.regs[j]?) ∧
  ((er = 0 ∧ D'.off = false ∧ D'.tl ≤ D.tl ∧ ∃ S x' cs', IsStr w' sb K.db S ∧ D'.regs[n]? = some ⟨rows x' cs', []⟩ ∧ RegC H B x' cs' ∧ Live H S n (told ++ [b]) x' cs') ∨
   (er = 11 ∧ D'.off = true ∧ D'.tl = 0 ∧ D.tl ≠ 0 ∧ ∃ x' cs', D'.regs[n]? = some ⟨rows x' cs', []⟩ ∧ RegC H B x' cs' ∧ (recs H x' cs' = told ∨ recs H x' cs' = told ++ [b]) ∧ (frms (told ++ [b])).size + 1 ≤ H * 55))
theorem append_out (N : Nat) (W : World) (K : Ad) (D : Dsk) (hD : IsDisk N W K D) (hN : N ≤ W.heap.size) (n H B sb : Nat) (h2 : H ≤ 1000) (hs : Sound H B D) (hoff : D.off = false) (hB : B < 281474976710656) (S : Str) (hS : IsStr W sb K.db S) (hSN : N ≤ sb) (told : List ByteArray) (x : Hd) (cs : List Sec) (hr : D.regs[n]? = some ⟨rows x cs, []⟩) (hc : RegC H B x cs) (hl : Live H S n told x cs)
    (b : ByteArray) (h3 : 1 ≤ b.size) (h4 : b.size ≤ 4096) (hfit : S.data.size + (frm b).size + 1 ≤ H * 55) :
    Calls Tryd.prog 12 #[.pointer (some ⟨sb, 0, none⟩), .string b] W fun e w' => ∃ er D', e = .returned (.int .i64 er) ∧ IsDisk N w' K D' ∧ Fs K sb N W w' ∧ OutA D n H B sb K told b er D' w' := by
  refine (append_law N W K D hD hN n H B sb h2 hs hoff hB S hS hSN (hD.free hS (by decide) (by decide) (by decide) (by decide)) told x cs hr hc hl b h3 h4 hfit).mono ?_
  rintro e w' ⟨D', a, q, c, o, d⟩
  rcases d with ⟨d0, d1, d2, S', x', cs', d3, d4, d5, d6⟩ | ⟨d0, d1, d2, d3, d4⟩
  · exact ⟨_, D', d2, a, q, c, o, .inl ⟨rfl, d0, d1, S', x', cs', d3, d4, d5, d6⟩⟩
  · exact ⟨_, D', d3, a, q, c, o, .inr ⟨rfl, d0, d1, d2, d4⟩⟩
abbrev PutT := Bool × ByteArray
def KPut : Kd PutT := Kd.pair Kd.bool Kd.string
theorem at_Put {w : World} {A : Option Addr} {n : Nat} {xs : List PutT} (h : Kd.C KPut w A n xs) (p : Int) (h0 : 0 ≤ p) (h1 : p < n) :
    ∃ ad, A = some ad ∧ w.cell? (ad.add (p.toNat * 2)) = some (.bool (xs.getD p.toNat (false, ⟨#[]⟩)).1) ∧ w.cell? ⟨(ad.add (p.toNat * 2)).block, (ad.add (p.toNat * 2)).off + 1, none⟩ = some (.string (xs.getD p.toNat (false, ⟨#[]⟩)).2) := by
  obtain ⟨ad, c, e, _, hK, hc0⟩ := Kd.C_get h (false, ⟨#[]⟩) p h0 h1
  have hc : ∀ j u, c[j]? = some u → w.cell? (ad.add (p.toNat * 2 + j)) = some u := hc0
  obtain ⟨_, _, rfl, rfl, rfl⟩ := hK
  exact ⟨ad, e, hc 0 _ rfl, by rw [← add_field _ _ 1 (by omega)]; exact hc 1 _ rfl⟩
theorem TopM.cells {V : Vars} {K : Ad} {M0 : Nat} {cv : Value} {w : World} {lost : Int} {sv tv : Nat → Value} {m : Nat → ByteArray} {told : Nat → List ByteArray} {cB dB sB tB mB lB aB : Nat} (h : TopM V K M0 cv w lost sv tv m told) (hV : V = ⟨cB, dB, sB, tB, mB, lB, aB⟩) :
    w.heap[dB]? = some (.cells #[ptr K.db] 25 (0, 0)) ∧ w.heap[sB]? = some (.cells #[sv 0, sv 1] 28 (0, 0)) ∧ w.heap[tB]? = some (.cells #[tv 0, tv 1] 30 (0, 0)) ∧ w.heap[mB]? = some (.cells #[.string (m 0), .string (m 1)] 31 (0, 0)) ∧ w.heap[aB]? = some (.cells #[.func (Fn.func 6) #[] #[ptr lB, ptr cB, ptr dB]] 1 (0, 0)) := by
  subst hV
  exact ⟨h.d, h.s, h.t, h.m, h.a⟩
theorem OpSt.below {N : Nat} {V : Vars} {K : Ad} {M0 : Nat} {cv : Value} {w w2 : World} {D : Dsk} {B k : Nat} {lost : Int} {sv tv : Nat → Value} {m : Nat → ByteArray} {told : Nat → List ByteArray} (h : OpSt N V K M0 cv w D B lost sv tv m told k) (hb : Below w.heap.size w w2) : OpSt N V K M0 cv w2 D B lost sv tv m told k :=
  ⟨h.disk.below hb, h.sound, h.on, h.l0, h.l8, h.top.below hb, h.seen, fun j hj hj2 => by
    obtain ⟨h1, h2⟩ := h.live j hj hj2
    exact ⟨h1, h2.of rfl (Nat.le_refl B) (Ft.of_below hb h.size)⟩, h.ap, Nat.le_trans h.size hb.size, Nat.le_trans h.sizeM hb.size, h.hk⟩
/-- What arm leaves. -/
theorem OpSt.arm {N : Nat} {V : Vars} {K : Ad} {M0 : Nat} {cv : Value} {w w2 : World} {D : Dsk} {B k : Nat} {lost : Int} {sv tv : Nat → Value} {m : Nat → ByteArray} {told : Nat → List ByteArray} (h : OpSt N V K M0 cv w D B lost sv tv m told k) (ha : ArmR N V K M0 cv w D lost sv tv m told w2) :
    ∃ (D' : Dsk) (lost' : Int), OpSt N V K M0 cv w2 D' B lost' sv tv m told k ∧ pot lost' D'.tl ≤ pot lost D.tl ∧ Ft N w w2 := by
  obtain ⟨D', lost', a1, a2, a3, a4, a5, a6, a7, a8, a9, a10⟩ := ha
  refine ⟨D', lost', ⟨a1, ⟨by rw [a2]; exact h.sound.regs, a4, a5⟩, a3.trans h.on, a6, a7, a9, fun j hj hk => (h.seen j hj hk).of (by rw [a2]) (Nat.le_refl B), fun j hj hj2 => ?_, h.ap, Nat.le_trans h.size a10.size, Nat.le_trans h.sizeM a10.size, h.hk⟩, a8, a10⟩
  obtain ⟨h1, h2⟩ := h.live j hj hj2
  exact ⟨h1, h2.of (by rw [a2]) (Nat.le_refl B) a10⟩
/-- The law's variables as they are first laid. -/
theorem top_new (w : World) (K : Ad) (cB M0 : Nat) (cv : Value) (hc : w.heap[cB]? = some (.cells #[cv] 23 (0, 0))) (w' : World)
    (hw : w' = (((((w.alloc (.cells #[ptr K.db] 25)).alloc (.cells #[.pointer none, .pointer none] 28)).alloc (.cells #[.slice none 0 0, .slice none 0 0] 30)).alloc (.cells #[.string ⟨#[]⟩, .string ⟨#[]⟩] 31)).alloc (.cells #[.int .i64 0] 3)).alloc (.cells #[.func (Fn.func 6) #[] #[ptr (w.heap.size + 1 + 1 + 1 + 1), ptr cB, ptr w.heap.size]] 1)) :
    TopM ⟨cB, w.heap.size, w.heap.size + 1, w.heap.size + 1 + 1, w.heap.size + 1 + 1 + 1, w.heap.size + 1 + 1 + 1 + 1, w.heap.size + 1 + 1 + 1 + 1 + 1⟩ K M0 cv w' 0 (fun _ => .pointer none) (fun _ => .slice none 0 0) (fun _ => ⟨#[]⟩) (fun _ => []) := by
  have sz : ∀ (v : World) (o : Obj), (v.alloc o).heap.size = v.heap.size + 1 := fun v o => by simp
  subst hw
  refine ⟨?_, ?_, ?_, ?_, ?_, ?_, ?_, fun k _ => Kd.R_nil _ _ _ _ _, fun k hk => by simp [Value.ownBlock] at hk⟩
  · exact blk_alloc (blk_alloc (blk_alloc (blk_alloc (blk_alloc (blk_alloc hc _) _) _) _) _) _
  · exact blk_alloc (blk_alloc (blk_alloc (blk_alloc (blk_alloc (blk_new w _) _) _) _) _) _
  · have h := blk_new (w.alloc (.cells #[ptr K.db] 25)) (.cells #[.pointer none, .pointer none] 28)
    rw [sz] at h
    exact blk_alloc (blk_alloc (blk_alloc (blk_alloc h _) _) _) _
  · have h := blk_new ((w.alloc (.cells #[ptr K.db] 25)).alloc (.cells #[.pointer none, .pointer none] 28)) (.cells #[.slice none 0 0, .slice none 0 0] 30)
    rw [sz, sz] at h
    exact blk_alloc (blk_alloc (blk_alloc h _) _) _
  · have h := blk_new (((w.alloc (.cells #[ptr K.db] 25)).alloc (.cells #[.pointer none, .pointer none] 28)).alloc (.cells #[.slice none 0 0, .slice none 0 0] 30)) (.cells #[.string ⟨#[]⟩, .string ⟨#[]⟩] 31)
    rw [sz, sz, sz] at h
    exact blk_alloc (blk_alloc h _) _
  · have h := blk_new ((((w.alloc (.cells #[ptr K.db] 25)).alloc (.cells #[.pointer none, .pointer none] 28)).alloc (.cells #[.slice none 0 0, .slice none 0 0] 30)).alloc (.cells #[.string ⟨#[]⟩, .string ⟨#[]⟩] 31)) (.cells #[.int .i64 0] 3)
    rw [sz, sz, sz, sz] at h
    exact blk_alloc h _
  · have h := blk_new (((((w.alloc (.cells #[ptr K.db] 25)).alloc (.cells #[.pointer none, .pointer none] 28)).alloc (.cells #[.slice none 0 0, .slice none 0 0] 30)).alloc (.cells #[.string ⟨#[]⟩, .string ⟨#[]⟩] 31)).alloc (.cells #[.int .i64 0] 3)) (.cells #[.func (Fn.func 6) #[] #[ptr (w.heap.size + 1 + 1 + 1 + 1), ptr cB, ptr w.heap.size]] 1)
    rw [sz, sz, sz, sz, sz] at h
    exact h
end Go.Proofs.YtldkgfhngonnfaaDoor.S
namespace Go.Proofs.YtldkgfhngonnfaaDoor.S
open Go.RowKit Go.Proofs.YtldkgfhngonnfaaDoor.PTopStreams Go.Proofs.YtldkgfhngonnfaaDoorW.PrintWords Go.Proofs.YtldkgfhngonnfaaDoorW.PrintLast Go.Proofs.YtldkgfhngonnfaaDoorW.PrintMore
set_option linter.unusedVariables false
set_option linter.unusedSimpArgs false
set_option maxHeartbeats 1000000 in
set_option maxRecDepth 100000 in
theorem tops_calls (W : World) (puts : List PutT) (A1 : Option Addr) (c1 : Nat) (hP : Kd.C KPut W A1 puts.length puts) (hc1 : puts.length ≤ c1) (cuts : List CutT) (A2 : Option Addr) (c2 : Nat) (hC : Kd.C KCut W A2 cuts.length cuts) (hwf : ∀ x ∈ cuts, (Lit.int .i64 x.2.1).wf = true) :
    Calls Tryd.prog 3 #[.slice A1 puts.length c1, .slice A2 cuts.length c2] W fun e w' => e = .returned (.bool true) ∧ Below W.heap.size W w' := by
  have hu9 := Tryd.underlying9
  have hu22 := Tryd.underlying22
  have hu29 := Tryd.underlying29
  have hu28 := Tryd.underlying28
  have hu30 := Tryd.underlying30
  have hu31 := Tryd.underlying31
  have hu40 := Tryd.underlying40
  have HP := Aside0.mk hP
  have HC := Aside0.mk hC
  obtain ⟨nn, hnn⟩ : ∃ nn : Nat, nn = min puts.length 40 := ⟨_, rfl⟩
  have hn40 : min (puts.length : Int) 40 = (nn : Int) := by omega
  have hnc : (nn : Int) ≤ (c1 : Int) := by omega
  have hn0 : (0 : Int) ≤ (nn : Int) := by omega
  have HNN := Aside0.mk (show nn ≤ puts.length ∧ nn ≤ 40 by omega)
  clear hnn hc1
  have HWF := Aside0.mk hwf
  obtain ⟨cv, hcv⟩ : ∃ cv : Value, cv = .slice A2 cuts.length c2 := ⟨_, rfl⟩
  have HB1 := Aside0.mk (below_alloc (Below.refl W.heap.size W) (.cells #[.slice A2 cuts.length c2] 23))
  have HC1 := Aside0.mk (blk_new W (.cells #[.slice A2 cuts.length c2] 23))
  have HST := Aside0.mk (fun w => streams_calls w)
  have HNEW : Aside0 (∀ w : World, Calls Tryd.prog 5 #[.slice (some ⟨w.heap.size, 0, none⟩) 2 2] (w.alloc (.cells #[.int .i64 61, .int .i64 61] 3)) fun e W' => ∃ K : Ad, e = .returned (.pointer (some ⟨K.db, 0, none⟩)) ∧ K.ps.length = 2 ∧ IsDisk (w.alloc (.cells #[.int .i64 61, .int .i64 61] 3)).heap.size W' K ⟨[freshR (1 + 2 * 30), freshR (1 + 2 * 30)], false, 0, 0, []⟩ ∧ Below (w.alloc (.cells #[.int .i64 61, .int .i64 61] 3)).heap.size (w.alloc (.cells #[.int .i64 61, .int .i64 61] 3)) W') := Aside0.mk (fun w => by
    have h := new_calls w.heap.size [61, 61] (w.alloc (.cells #[.int .i64 61, .int .i64 61] 3)) (ints_new w [61, 61] 3 (by decide)) (by decide) (by decide) (by decide)
    exact h)
  clear hP hC hwf
  go_enter Tryd.func3, Tryd.ntmps3
  go_upto_region 10 with (first
    | (go_at_call 4; go_loud (refine (HST.out _).mono ?_; rintro e w2 ⟨rfl, hb⟩; have HB2 := Aside0.mk (below_step HB1.out hb); have HC2 := Aside0.mk (blk_below HC1.out hb); clear hb))
    | (go_at_call 5; go_loud (refine (HNEW.out w2).mono ?_; rintro e w3 ⟨K, rfl, hl, hd, hb⟩; have hz := (below_alloc (Below.refl w2.heap.size w2) (.cells #[.int .i64 61, .int .i64 61] 3)); have HB3 := Aside0.mk (below_step (below_step HB2.out hz) hb); have HD3 := Aside0.mk hd; have HL3 := Aside0.mk hl; have HC3 := Aside0.mk (blk_below (blk_below HC2.out hz) hb); have HN3 := Aside0.mk hb.size; have HW3 := Aside0.mk (Nat.le_trans HB2.out.size hz.size); clear hb hd hl hz)))
  generalize hw4 : (((((w3.alloc (.cells #[.pointer (some ⟨K.db, 0, none⟩)] 25)).alloc (.cells #[.pointer none, .pointer none] 28)).alloc (.cells #[.slice none 0 0, .slice none 0 0] 30)).alloc (.cells #[.string ⟨#[]⟩, .string ⟨#[]⟩] 31)).alloc (.cells #[.int .i64 0] 3)).alloc (.cells #[.func (Fn.func 6) #[] #[.pointer (some ⟨w3.heap.size + 1 + 1 + 1 + 1, 0, none⟩), .pointer (some ⟨W.heap.size, 0, none⟩), .pointer (some ⟨w3.heap.size, 0, none⟩)]] 1) = w4
  have hT4 := top_new w3 K W.heap.size w3.heap.size (.slice A2 cuts.length c2) HC3.out w4 hw4.symm
  have hb4 : Below w3.heap.size w3 w4 := by
    rw [← hw4]
    exact below_alloc (below_alloc (below_alloc (below_alloc (below_alloc (below_alloc (Below.refl _ _) _) _) _) _) _) _
  clear hw4
  obtain ⟨N, hN⟩ : ∃ N, N = (w2.alloc (.cells #[.int .i64 61, .int .i64 61] 3)).heap.size := ⟨_, rfl⟩
  rw [← hN] at HD3 HN3 HW3
  obtain ⟨V, hV⟩ : ∃ V : Vars, V = ⟨W.heap.size, w3.heap.size, w3.heap.size + 1, w3.heap.size + 1 + 1, w3.heap.size + 1 + 1 + 1, w3.heap.size + 1 + 1 + 1 + 1, w3.heap.size + 1 + 1 + 1 + 1 + 1⟩ := ⟨_, rfl⟩
  rw [← hV] at hT4
  have hE : Env N V K w3.heap.size cuts (.slice A2 cuts.length c2) := by
    have := HN3.out
    refine ⟨HL3.out, KLt.of HD3.out (Nat.le_refl _), ?_, HWF.out⟩
    rw [hV]
    exact ⟨by omega, by show N ≤ w3.heap.size + 1; omega, by show N ≤ w3.heap.size + 1 + 1; omega, by show N ≤ w3.heap.size + 1 + 1 + 1; omega, by show N ≤ w3.heap.size + 1 + 1 + 1 + 1; omega, this⟩
  have hs0 : Sound 30 0 ⟨[freshR (1 + 2 * 30), freshR (1 + 2 * 30)], false, 0, 0, []⟩ := fresh_sound 30 [1 + 2 * 30, 1 + 2 * 30] (fun n hn => by simp at hn; exact hn)
  have hst : OpSt N V K w3.heap.size (.slice A2 cuts.length c2) w4 ⟨[freshR (1 + 2 * 30), freshR (1 + 2 * 30)], false, 0, 0, []⟩ 0 0 (fun _ => .pointer none) (fun _ => .slice none 0 0) (fun _ => ⟨#[]⟩) (fun _ => []) 0 := by
    refine ⟨HD3.out.below hb4, hs0, rfl, by decide, by decide, hT4, fun j hj _ => ?_, fun j hj => absurd hj (Nat.not_lt_zero _), fun hc => absurd hc (by decide), Nat.le_trans HN3.out hb4.size, hb4.size, by decide⟩
    refine ⟨none, blank 30, ?_, blank_reg 30, .inl rfl, by decide⟩
    rw [← freshR_rows]
    rcases (show j = 0 ∨ j = 1 by omega) with rfl | rfl <;> rfl
  have HOPT := Aside0.mk (fun (w : World) (D : Dsk) (B : Nat) (lost : Int) (sv tv : Nat → Value) (m : Nat → ByteArray) (told : Nat → List ByteArray) (h : OpSt N V K w3.heap.size (.slice A2 cuts.length c2) w D B lost sv tv m told 0) (hB : Below W.heap.size W w) (C : Int) (hb : (B : Int) + 2 * pot lost D.tl + 2 ≤ C) (hCC : C ≤ 1000) => open8_calls N V K w3.heap.size cuts _ hE W A2 c2 rfl HC.out HW3.out w D B lost sv tv m told h hB C hb hCC)
  have HARM := Aside0.mk (fun (w : World) (hB : Below W.heap.size W w) (D : Dsk) (hd : IsDisk N w K D) (hn : N ≤ w.heap.size) (lost : Int) (h0 : 0 ≤ lost) (h8 : lost ≤ 8) (sv tv : Nat → Value) (m : Nat → ByteArray) (told : Nat → List ByteArray) (hT : TopM V K w3.heap.size (.slice A2 cuts.length c2) w lost sv tv m told) (ht0 : 0 ≤ D.tl) (ht1 : D.tl ≤ 9223372036854775807) => arm_calls N V K w3.heap.size cuts _ hE A2 c2 rfl w (Kd.C_below HC.out hB) D hd hn lost h0 h8 sv tv m told hT ht0 ht1)
  have HB4 := Aside0.mk (below_step HB3.out hb4)
  have HST4 := Aside0.mk hst
  have HE := Aside0.mk hE
  have HVV := Aside0.mk hV
  have HVN := Aside0.mk HW3.out
  clear hst hs0 hE hb4 hT4 HC3 HD3 HN3 HL3 HB3 HC2 HB2 HC1 HB1 HST HNEW HWF HW3 hN hcv
  generalize Value.slice A2 cuts.length c2 = cw at HOPT HARM HST4 HE
  generalize w3.heap.size + 1 + 1 + 1 + 1 + 1 = aB at *
  generalize w3.heap.size + 1 + 1 + 1 + 1 = lB at *
  generalize w3.heap.size + 1 + 1 + 1 = mB at *
  generalize w3.heap.size + 1 + 1 = tB at *
  generalize w3.heap.size + 1 = sB at *
  have HOPV : Aside0 (∀ (w : World) (D : Dsk) (B : Nat) (lost : Int) (sv tv : Nat → Value) (m : Nat → ByteArray) (told : Nat → List ByteArray) (h : OpSt N V K w3.heap.size cw w D B lost sv tv m told 0) (hB : Below W.heap.size W w) (C : Int) (hb : (B : Int) + 2 * pot lost D.tl + 2 ≤ C) (hCC : C ≤ 1000), Calls Tryd.prog 8 #[ptr w3.heap.size, ptr aB, ptr mB, ptr tB, ptr sB] w fun e w' => e = .returned (.bool true) ∧ Open8R N V K w3.heap.size cw w C w') := Aside0.mk (by
    have h := HOPT.out
    rw [HVV.out] at h ⊢
    exact h)
  have HARV : Aside0 (∀ (w : World) (hB : Below W.heap.size W w) (D : Dsk) (hd : IsDisk N w K D) (hn : N ≤ w.heap.size) (lost : Int) (h0 : 0 ≤ lost) (h8 : lost ≤ 8) (sv tv : Nat → Value) (m : Nat → ByteArray) (told : Nat → List ByteArray) (hT : TopM V K w3.heap.size cw w lost sv tv m told) (ht0 : 0 ≤ D.tl) (ht1 : D.tl ≤ 9223372036854775807), Calls Tryd.prog 6 #[ptr lB, ptr W.heap.size, ptr w3.heap.size] w fun e w' => e = .returned (.tuple #[]) ∧ ArmR N V K w3.heap.size cw w D lost sv tv m told w') := Aside0.mk (by
    have h := HARM.out
    rw [HVV.out] at h ⊢
    exact h)
  clear HOPT HARM
  have HO5 := Aside0.mk (HOPV.out w4 _ 0 0 _ _ _ _ HST4.out HB4.out 34 (by unfold pot; decide) (by decide))
  generalize w3.heap.size = dB at *
  go_upto_region 12 with (first | (go_at_call 8; go_loud (refine HO5.out.mono ?_; rintro e w5 ⟨rfl, ho⟩; have HR5 := Aside0.mk ho; clear ho)))
  obtain ⟨D5, B5, l5, sv5, tv5, m5, told5, q1, q2, q3⟩ := HR5.out
  have HS5 := Aside0.mk q1
  have HP5 := Aside0.mk q2
  have hwn : W.heap.size ≤ N := HVN.out
  have HB5 := Aside0.mk (HB4.out.trans (q3.below.mono hwn))
  have xa : w5.cell? ⟨aB, 0, none⟩ = some (.func (Fn.func 6) #[] #[ptr lB, ptr W.heap.size, ptr dB]) := (blk_cell (q1.top.cells HVV.out).2.2.2.2 0).trans rfl
  have HA5 := Aside0.mk (HARV.out w5 HB5.out D5 q1.disk q1.size l5 q1.l0 q1.l8 sv5 tv5 m5 told5 q1.top q1.sound.t0 q1.sound.t1)
  clear q1 q2 q3 HR5 HO5 HST4
  go_upto_region 13 with (first | (go_at_call 6; go_loud (refine HA5.out.mono ?_; rintro e w6 ⟨rfl, ho⟩; have HR6 := Aside0.mk ho; clear ho)))
  clear xa
  obtain ⟨D6, l6, q1, q2, q3⟩ := HS5.out.arm HR6.out
  have HS6 := Aside0.mk q1
  have HP6 : Aside0 ((B5 : Int) + 2 * pot l6 D6.tl ≤ 34) := Aside0.mk (by have := HP5.out; omega)
  have HB6 := Aside0.mk (HB5.out.trans (q3.below.mono hwn))
  clear q1 q2 q3 HR6 HA5 HS5 HP5 HB5 HB4
  go_wp2
  go_loopw [34] (fun v34 wr => ∃ (q : Int) (i B : Nat) (D : Dsk) (lost : Int) (sv tv : Nat → Value) (m : Nat → ByteArray) (told : Nat → List ByteArray), v34 = .int .i64 q ∧ Aside0 (q = (i : Int)) ∧ i ≤ nn ∧ Aside0 (OpSt N V K dB cw wr D B lost sv tv m told 2) ∧ Aside0 ((B : Int) + 2 * pot lost D.tl ≤ 34) ∧ Aside0 (Below W.heap.size W wr)) (fun v34 _ => nn - (intOf v34).toNat)
  case atStart => exact ⟨0, 0, B5, D6, l6, sv5, tv5, m5, told5, rfl, Aside0.mk rfl, Nat.zero_le _, HS6, HP6, HB6⟩
  case round =>
    clear HS6 HP6 HB6
    obtain ⟨q, i, B, D, lost, sv, tv, m, told, rfl, HQ, hi, HS, HPT, HB⟩ := hrel
    by_cases hin : i < nn
    · have hlt : decide (q < (nn : Int)) = true := decide_eq_true (by rw [HQ.out]; omega)
      have hq0 : 0 ≤ q := by rw [HQ.out]; omega
      have hq1 : q < (nn : Int) := by rw [HQ.out]; omega
      have hqn : q < (puts.length : Int) := by have := HNN.out; omega
      obtain ⟨ad, hA, y0, y1⟩ := at_Put (Kd.C_below HP.out HB.out) q hq0 hqn
      generalize puts.getD q.toNat (false, ⟨#[]⟩) = x at *
      obtain ⟨sec, body⟩ := x
      simp only at y0 y1
      subst hA
      go_upto_region 16 with (fail)
      have hb1 := below_alloc (Below.refl wr.heap.size wr) (.cells #[.bool sec, .string body] 40)
      have HB1 := Aside0.mk (below_step HB.out hb1)
      have HG1 := Aside0.mk (Ft.of_below (N := N) hb1 HS.out.size)
      have HT1 := Aside0.mk (HS.out.top.below hb1)
      have HD1 := Aside0.mk (HS.out.disk.below hb1)
      have HS1 := Aside0.mk (HS.out.below hb1)
      have k1 := blk_new wr (.cells #[.bool sec, .string body] 40)
      have hsz1 : wr.heap.size < (wr.alloc (.cells #[.bool sec, .string body] 40)).heap.size := blk_lt k1
      clear hb1 y0 y1
      generalize wr.alloc (.cells #[.bool sec, .string body] 40) = w1 at *
      have z0 : w1.cell? ⟨wr.heap.size, 0, none⟩ = some (.bool sec) := (blk_cell k1 0).trans rfl
      have z1 : w1.cell? ⟨wr.heap.size, 1, none⟩ = some (.string body) := (blk_cell k1 1).trans rfl
      obtain ⟨kk, hkk⟩ : ∃ kk : Int, (sec = true ∧ kk = 1) ∨ (sec = false ∧ kk = 0) := by
        cases sec
        · exact ⟨0, .inr ⟨rfl, rfl⟩⟩
        · exact ⟨1, .inl ⟨rfl, rfl⟩⟩
      obtain ⟨k, hk⟩ : ∃ k : Nat, k = kk.toNat := ⟨_, rfl⟩
      have hk2 : k < 2 := by rcases hkk with ⟨_, h⟩ | ⟨_, h⟩ <;> rw [h] at hk <;> simp at hk <;> omega
      have hkk0 : 0 ≤ kk := by rcases hkk with ⟨_, h⟩ | ⟨_, h⟩ <;> omega
      have hkk2 : kk < 2 := by rcases hkk with ⟨_, h⟩ | ⟨_, h⟩ <;> omega
      have HKN : Aside0 (kk.toNat = k) := Aside0.mk hk.symm
      clear hk k1
      go_upto_if 39 with (fail)
      go_cut [14] (fun v14 wx => v14 = .int .i64 kk ∧ wx = w1)
      case first =>
        rcases hkk with ⟨rfl, rfl⟩ | ⟨rfl, rfl⟩
        · go_wp2
          go_meet
          case rel => exact ⟨rfl, rfl⟩
        · go_wp2
          go_meet
          case rel => exact ⟨rfl, rfl⟩
      case rest =>
        obtain ⟨rfl, rfl⟩ := hcut
        clear hkk z0
        obtain ⟨bn, hbn⟩ : ∃ bn : Nat, bn = min body.size 200 := ⟨_, rfl⟩
        have hbm : min (body.size : Int) 200 = (bn : Int) := by omega
        have hb0 : (0 : Int) ≤ (bn : Int) := by omega
        have hbs : (bn : Int) ≤ (body.size : Int) := by omega
        obtain ⟨b, hb⟩ : ∃ b, body.extract 0 bn = b := ⟨_, rfl⟩
        have hbz : b.size = bn := by rw [← hb, ext_len]; omega
        have HBZ := Aside0.mk (show b.size ≤ 200 by omega)
        clear hbn hbz
        go_upto_region 20 with (fail)
        clear z1 hbm hb0 hbs hb
        obtain ⟨_, sb, S, x', cs', s1, s2, s3, s4, s5, s6⟩ := HS.out.live k hk2 hk2
        have hcs := HT1.out.cells HVV.out
        have xs : wc.cell? ⟨sB, kk.toNat, none⟩ = some (ptr sb) := by
          rw [cell2 (kk := kk) hcs.2.1 hk2 HKN.out, ← s1]
          rcases (show k = 0 ∨ k = 1 by omega) with e | e <;> rw [e] <;> rfl
        have HS3 : Aside0 (IsStr wc sb K.db S) := Aside0.mk (HG1.out.str _ _ s3)
        have HSV := Aside0.mk s1
        have HSP := Aside0.mk (show N ≤ sb ∧ D.regs[k]? = some ⟨rows x' cs', []⟩ ∧ RegC 30 B x' cs' ∧ Live 30 S k (told k) x' cs' from ⟨s2, s4, s5, s6⟩)
        have HBN : Aside0 (B ≤ 100) := Aside0.mk (by have := HPT.out; have := pot_nonneg (t := D.tl) HS.out.l8; omega)
        clear s1 s2 s3 s4 s5 s6 hcs
        have hn1 : N ≤ wc.heap.size := Nat.le_trans HS.out.size HG1.out.size
        by_cases hb1 : b.size = 0
        · obtain rfl : b = ⟨#[]⟩ := by
            apply ByteArray.ext
            exact Array.eq_empty_of_size_eq_zero hb1
          have HAP := Aside0.mk (append_empty wc sb K.db S HS3.out HSP.out.2.2.2.ok)
          have heb := emptyB
          go_wp2_with (first | (go_at_call 12; go_loud (refine HAP.out.mono ?_; rintro e w7 ⟨rfl, rfl⟩)))
          exact ⟨⟨q + 1, i + 1, B, D, lost, sv, tv, m, told, rfl, Aside0.mk (by have := HQ.out; omega), by omega, HS1, HPT, HB1⟩, by have := HQ.out; simp [intOf]; omega⟩
        · have hb2 : 1 ≤ b.size := by omega
          have HSD : Aside0 (S.size = 30 ∧ S.data.size + 1 ≤ 30 * 55) := Aside0.mk ⟨HSP.out.2.2.2.size, HSP.out.2.2.2.hlf.fit⟩
          have HFS := Aside0.mk (frm_size b)
          have heb := notEmpty b hb2
          by_cases hfit : S.data.size + (frm b).size + 1 ≤ 30 * 55
          · have HAP := Aside0.mk (append_out N wc K D HD1.out hn1 k 30 B sb (by decide) HS1.out.sound HS1.out.on (by have := HBN.out; omega) S HS3.out HSP.out.1 (told k) x' cs' HSP.out.2.1 HSP.out.2.2.1 HSP.out.2.2.2 b hb2 (by have := HBZ.out; omega) hfit)
            clear hfit hb1
            go_upto_region 21 with (first | (go_at_call 12; go_loud (refine HAP.out.mono ?_; rintro e w7 ⟨er, D7, rfl, hd7, hf7, ho7⟩; have HD7 := Aside0.mk hd7; have HF7 := Aside0.mk (Fa.of_fs HD1.out hf7); have HT7 := Aside0.mk (HT1.out.fs HD1.out HE.out.klt HS3.out hf7); have HO7 := Aside0.mk ho7; clear hd7 hf7 ho7)))
            clear xs
            have hn7 : N ≤ w7.heap.size := Nat.le_trans hn1 HF7.out.size
            have hcs := HT7.out.cells HVV.out
            rcases HO7.out.2.2 with ⟨rfl, p1, p2, S7, x7, cs7, p3, p4, p5, p6⟩ | ⟨rfl, p1, p2, p3, p4⟩
            · have HP7 := Aside0.mk (show D7.off = false ∧ D7.tl ≤ D.tl ∧ IsStr w7 sb K.db S7 ∧ D7.regs[k]? = some ⟨rows x7 cs7, []⟩ ∧ RegC 30 B x7 cs7 ∧ Live 30 S7 k (told k ++ [b]) x7 cs7 from ⟨p1, p2, p3, p4, p5, p6⟩)
              clear p1 p2 p3 p4 p5 p6
              have hRt := HT7.out.told k hk2
              obtain ⟨A3, c3, htv⟩ := Kd.R_slice hRt
              rw [htv] at hRt
              have HRT := Aside0.mk hRt
              have HTV := Aside0.mk htv
              have htl : (told k).length ≤ 1650 := by
                have h1 := frms_len (told k)
                have h2 := HSD.out.2
                rw [HSP.out.2.2.2.data] at h2
                omega
              have hLB : ((told k).length + 1) * 16 ≤ 140737488355328 := by omega
              have hM7 : dB ≤ w7.heap.size := Nat.le_trans HS.out.sizeM (Nat.le_trans HG1.out.size HF7.out.size)
              have xt : w7.cell? ⟨tB, kk.toNat, none⟩ = some (.slice A3 (told k).length c3) := by
                rw [cell2 (kk := kk) hcs.2.2.1 hk2 HKN.out, ← htv]
                rcases (show k = 0 ∨ k = 1 by omega) with e | e <;> rw [e] <;> rfl
              have HCS := Aside0.mk hcs
              clear hcs htv hRt htl
              go_upto_region 35 with (first | ((with_reducible refine gate_dst (N := 61) rfl ?_); go_loud (refine Kd.R_append Kd.string (w0 := w7) (W := w7) dB rfl (.tmp 58) (.tmp 60) 29 9 (.string ⟨#[]⟩) 16 rfl Tryd.underlying29 info9 rfl (by decide) (by decide) (.slice A3 (told k).length c3) (told k) b [.string b] (fun _ => True) (fun _ => False) (by first | rfl | (go_simp; done)) (by first | rfl | (go_simp; done)) rfl (fun _ h => h.elim) (fun _ _ => trivial) HRT.out (Below.refl _ _) hM7 hLB ?_; intro v1 w8 hq1 hb1 hg1 hat1; obtain ⟨A4, c4, rfl⟩ := Kd.R_slice hq1; have ht1 := grown_blk HCS.out.2.2.1 hg1 (own9_ne HRT.out HCS.out.2.2.1 (by decide)); have xt1 := cell2 (kk := kk) ht1 hk2 HKN.out; have zt1 := blk_frozen ht1 kk.toNat; clear ht1 xt; have HR8 := Aside0.mk hq1; have HGR := Aside0.mk hg1; have HAT := Aside0.mk hat1; clear hq1 hb1 hg1 hat1)))
              have hvb : V.tB = tB := by rw [HVV.out]
              have HT9 : Aside0 (TopM V K dB cw (w8.setCell ⟨tB, kk.toNat, none⟩ (.slice A4 (told k ++ [b]).length c4)) lost sv (upd tv k (.slice A4 (told k ++ [b]).length c4)) m (upd told k (told k ++ [b]))) := Aside0.mk (by
                have h := HT7.out.push k hk2 (w1 := w8) (by rw [HTV.out]; exact HGR.out) _ _ HR8.out (by rw [HTV.out]; exact HAT.out)
                rw [hvb] at h
                rw [HKN.out]
                exact h)
              have ht1 := grown_blk HCS.out.2.2.1 HGR.out (own9_ne HRT.out HCS.out.2.2.1 (by decide))
              have hlow : N ≤ tB := by have := HE.out.low.2.2.1; rw [hvb] at this; exact this
              have HF9 := Aside0.mk ((Ft.grown9 HE.out.low.2.2.2.2.2 hn7 HRT.out HGR.out).trans (Ft.set (N := N) (j := kk.toNat) ht1 (by decide) hlow (.slice A4 (told k ++ [b]).length c4)))
              have HD9 := Aside0.mk ((HD7.out.grown9 HE.out.klt HRT.out HGR.out).setT ht1 (by decide) kk.toNat (.slice A4 (told k ++ [b]).length c4))
              have HX9 := Aside0.mk (HF9.out.str _ _ HP7.out.2.2.1)
              have HFA := Aside0.mk ((HG1.out.fa HF7.out).ft HF9.out)
              have HB9 := Aside0.mk (HB.out.trans (HFA.out.below.mono hwn))
              have HS9 := Aside0.mk (HS.out.more hk2 HSV.out HSP.out.1 HO7.out.1 HO7.out.2.1 HP7.out.1 HX9.out HP7.out.2.2.2.1 HP7.out.2.2.2.2.1 HP7.out.2.2.2.2.2 HD9.out HT9.out HFA.out)
              have HP9 : Aside0 ((B : Int) + 2 * pot lost D7.tl ≤ 34) := Aside0.mk (by have := HPT.out; have := pot_le (lost := lost) HO7.out.1.t0 HP7.out.2.1; omega)
              rw [List.length_append, List.length_cons, List.length_nil] at HS9 HB9
              clear ht1 xt1 zt1 hLB hM7
              generalize w8.setCell ⟨tB, kk.toNat, none⟩ (.slice A4 ((told k).length + (0 + 1)) c4) = w9 at *
              go_wp2
              exact ⟨⟨q + 1, i + 1, B, D7, lost, sv, _, m, _, rfl, Aside0.mk (by have := HQ.out; omega), by omega, HS9, HP9, HB9⟩, by have := HQ.out; simp [intOf]; omega⟩
            · have HP7 := Aside0.mk (show D7.off = true ∧ D7.tl = 0 ∧ D.tl ≠ 0 ∧ _ from ⟨p1, p2, p3, p4⟩)
              clear p1 p2 p3 p4
              have xm := cell2 (kk := kk) hcs.2.2.2.1 hk2 HKN.out
              have zm := blk_frozen hcs.2.2.2.1 kk.toNat
              have hvm : V.mB = mB := by rw [HVV.out]
              have HT8 : Aside0 (TopM V K dB cw (w7.setCell ⟨mB, kk.toNat, none⟩ (.string b)) lost sv tv (upd m k b) told) := Aside0.mk (by
                have h := HT7.out.setM k hk2 b
                rw [hvm] at h
                rw [HKN.out]
                exact h)
              have hlow : N ≤ mB := by have := HE.out.low.2.2.2.1; rw [hvm] at this; exact this
              have HF8 := Aside0.mk ((HG1.out.fa HF7.out).ft (Ft.set (N := N) (j := kk.toNat) hcs.2.2.2.1 (by decide) hlow (.string b)))
              have HD8 := Aside0.mk (HD7.out.setT hcs.2.2.2.1 (by decide) kk.toNat (.string b))
              go_upto_region 27 with (fail)
              clear xm zm hcs hvm hlow
              generalize w7.setCell ⟨mB, kk.toNat, none⟩ (.string b) = w8 at *
              have hn8 : N ≤ w8.heap.size := Nat.le_trans HS.out.size HF8.out.size
              have xd : w8.cell? ⟨dB, 0, none⟩ = some (ptr K.db) := (blk_cell (HT8.out.cells HVV.out).1 0).trans rfl
              have HON := Aside0.mk (on_calls N w8 K D7 HD8.out hn8)
              go_upto_region 28 with (first | (go_at_call 11; go_loud (refine HON.out.mono ?_; rintro e w9 ⟨rfl, hd9, hf9⟩; have HD9 := Aside0.mk hd9; have HT9 := Aside0.mk (HT8.out.fd HD8.out HE.out.klt hf9); have HF9 := Aside0.mk (HF8.out.ft (Ft.of_fd HD8.out hf9)); clear hd9 hf9)))
              clear xd HON
              have hn9 : N ≤ w9.heap.size := Nat.le_trans HS.out.size HF9.out.size
              have HB9 := Aside0.mk (HB.out.trans (HF9.out.below.mono hwn))
              have xa : w9.cell? ⟨aB, 0, none⟩ = some (.func (Fn.func 6) #[] #[ptr lB, ptr W.heap.size, ptr dB]) := (blk_cell (HT9.out.cells HVV.out).2.2.2.2 0).trans rfl
              have HA9 := Aside0.mk (HARV.out w9 HB9.out _ HD9.out hn9 lost HS.out.l0 HS.out.l8 sv tv (upd m k b) told HT9.out (Int.le_refl _) (by show (0 : Int) ≤ 9223372036854775807; decide))
              go_upto_region 29 with (first | (go_at_call 6; go_loud (refine HA9.out.mono ?_; rintro e w10 ⟨rfl, ho⟩; have HR10 := Aside0.mk ho; clear ho)))
              clear xa HA9
              obtain ⟨D10, l10, a1, a2, a3, a4, a5, a6, a7, a8, a9, a10⟩ := HR10.out
              have HF10 := Aside0.mk (HF9.out.ft a10)
              have HB10 := Aside0.mk (HB.out.trans (HF10.out.below.mono hwn))
              have HS10 := Aside0.mk (HS.out.fell hk2 hb2 HO7.out.1 HO7.out.2.1 HP7.out.2.2.2 a1 a2 a3 a4 a5 a6 a7 a9 HF10.out.size)
              have hpp : (B : Int) + 2 * pot l10 D10.tl + 2 ≤ 34 := by
                have h1 : pot lost (0 : Int) = 2 * (8 - lost) := by unfold pot; rw [if_pos rfl]; omega
                have h2 : pot lost D.tl = 2 * (8 - lost) + 1 := by unfold pot; rw [if_neg HP7.out.2.2.1]
                have h3 : pot l10 D10.tl ≤ pot lost 0 := a8
                have := HPT.out
                omega
              have HO10 := Aside0.mk (HOPV.out w10 D10 B l10 sv tv (upd m k b) told HS10.out HB10.out 34 hpp (by decide))
              clear a1 a2 a3 a4 a5 a6 a7 a8 a9 a10 hpp
              go_wp2_with (first | (go_at_call 8; go_loud (refine HO10.out.mono ?_; rintro e w11 ⟨rfl, ho⟩; have HR11 := Aside0.mk ho; clear ho)))
              obtain ⟨D11, B11, l11, sv11, tv11, m11, told11, r1, r2, r3⟩ := HR11.out
              exact ⟨⟨q + 1, i + 1, B11, D11, l11, sv11, tv11, m11, told11, rfl, Aside0.mk (by have := HQ.out; omega), by omega, Aside0.mk r1, Aside0.mk r2, Aside0.mk (HB10.out.trans (r3.below.mono hwn))⟩, by have := HQ.out; simp [intOf]; omega⟩
          · have HAP := Aside0.mk (append_full wc sb K.db S HS3.out HSP.out.2.2.2.ok b hb2 (by have := HBZ.out; omega) (by have := HSD.out; omega) (by have := HSD.out; omega) (by have := HSD.out; omega))
            have HLF := Aside0.mk (fun w (h : IsStr w sb K.db S) => left_calls w sb K.db S h (by have := HSD.out; omega) (by have := HSD.out; omega))
            have hle : decide ((b.size : Int) + 6 ≤ (S.size : Int) * 55 - 1 - (S.data.size : Int)) = false := decide_eq_false (by have := HSD.out; have := HFS.out; omega)
            have hw6 : IntKind.i64.wrap ((b.size : Int) + 6) = (b.size : Int) + 6 := by rw [IntKind.wrap_i64]; have := HBZ.out; omega
            clear hfit hb1
            go_upto_region 33 with (first | (go_at_call 12; go_loud (refine HAP.out.mono ?_; rintro e w7 ⟨rfl, hb7⟩; have HB7 := Aside0.mk hb7; clear hb7)))
            clear xs
            have HS7 := Aside0.mk (HS1.out.below HB7.out)
            have HX7 := Aside0.mk (HS3.out.below HB7.out)
            have HB8 := Aside0.mk (below_step HB1.out HB7.out)
            have xs : w7.cell? ⟨sB, kk.toNat, none⟩ = some (ptr sb) := by
              rw [cell2 (kk := kk) (HS7.out.top.cells HVV.out).2.1 hk2 HKN.out, ← HSV.out]
              rcases (show k = 0 ∨ k = 1 by omega) with e | e <;> rw [e] <;> rfl
            go_wp2_with (first | (go_at_call 13; go_loud (refine (HLF.out w7 HX7.out).mono ?_; rintro e w8 ⟨rfl, hb8⟩; have HS9 := Aside0.mk (HS7.out.below hb8); have HB9 := Aside0.mk (below_step HB8.out hb8); clear hb8)))
            exact ⟨⟨q + 1, i + 1, B, D, lost, sv, tv, m, told, rfl, Aside0.mk (by have := HQ.out; omega), by omega, HS9, HPT, HB9⟩, by have := HQ.out; simp [intOf]; omega⟩
    · have hlt : decide (q < (nn : Int)) = false := decide_eq_false (by rw [HQ.out]; omega)
      have hn0 : N ≤ wr.heap.size := HS.out.size
      have xd : wr.cell? ⟨dB, 0, none⟩ = some (ptr K.db) := (blk_cell (HS.out.top.cells HVV.out).1 0).trans rfl
      have HON := Aside0.mk (on_calls N wr K D HS.out.disk hn0)
      go_upto_region 37 with (first | (go_at_call 11; go_loud (refine HON.out.mono ?_; rintro e w9 ⟨rfl, hd9, hf9⟩; have HD9 := Aside0.mk hd9; have HT9 := Aside0.mk (HS.out.top.fd HS.out.disk HE.out.klt hf9); have HF9 := Aside0.mk (Ft.of_fd HS.out.disk hf9); clear hd9 hf9)))
      clear xd HON
      have HS9 : Aside0 (OpSt N V K dB cw w9 ⟨D.regs, false, 0, 0, []⟩ B lost sv tv m told 0) := Aside0.mk ⟨HD9.out, ⟨HS.out.sound.regs, Int.le_refl _, (by decide : (0 : Int) ≤ 9223372036854775807)⟩, rfl, HS.out.l0, HS.out.l8, HT9.out, fun j hj _ => (HS.out.live j hj hj).2.seen (m j), fun j hj => absurd hj (Nat.not_lt_zero _), fun hc => absurd hc (by decide), Nat.le_trans hn0 HF9.out.size, Nat.le_trans HS.out.sizeM HF9.out.size, by decide⟩
      have HB9 := Aside0.mk (HB.out.trans (HF9.out.below.mono hwn))
      have HO9 := Aside0.mk (HOPV.out w9 _ B lost sv tv m told HS9.out HB9.out 40 (by
        have h1 : pot lost (0 : Int) ≤ pot lost D.tl := pot_le (Int.le_refl _) HS.out.sound.t0
        have := HPT.out
        show (B : Int) + 2 * pot lost 0 + 2 ≤ 40
        omega) (by decide))
      go_wp2_with (first | (go_at_call 8; go_loud (refine HO9.out.mono ?_; rintro e w11 ⟨rfl, ho⟩; have HR11 := Aside0.mk ho; clear ho)))
      go_ret
      obtain ⟨_, _, _, _, _, _, _, _, _, r3⟩ := HR11.out
      exact ⟨rfl, HB9.out.trans (r3.below.mono hwn)⟩
end Go.Proofs.YtldkgfhngonnfaaDoor.S
namespace Go.Proofs.YtldkgfhngonnfaaDoor.S
open Go.ChangeShapes Go.WideShapes Go.RowKit Go.Proofs.YtldkgfhngonnfaaDoorW.PrintWords
set_option linter.unusedVariables false
set_option linter.unusedSimpArgs false
theorem list3 {α : Type} (l : List α) (h : l.length = 3) : ∃ a b c, l = [a, b, c] := by
  match l, h with
  | [a, b, c], _ => exact ⟨a, b, c, rfl⟩
theorem cells3 : Tryd.prog.cellsOf 3 = 1 := by kernel_rfl
theorem cells32 : Tryd.prog.cellsOf 32 = 1 := by kernel_rfl
theorem cells34 : Tryd.prog.cellsOf 34 = 3 := by kernel_rfl
/-- A row of records. -/
theorem open_puts {H : Type} {enc : TypeId × Value → H} {W : World} {b0 : Nat} {spare : Nat → Bool} {held : Bool} {A : Option Addr} {len cap : Nat} {d : DataW H} {p : List MemPlace}
    (h : DataW.Trod enc Tryd.prog W b0 spare held 22 (.slice A len cap) d p) : ∃ xs : List PutT, xs.length = len ∧ Kd.C KPut W A len xs ∧ len ≤ cap := by
  obtain ⟨fuel, hf⟩ := h
  rcases Go.Deep.open_slice_pairs Tryd.underlying22 Tryd.underlying40 (by kernel_rfl) rfl rfl (by kernel_rfl) (by kernel_rfl) hf with ⟨hcs, _⟩ | ⟨a, l, c, m, n, V0, V1, D0, D1, P0, P1, hcs, _, hl, hm, hmm, _, hel⟩
  · simp [Value.cells] at hcs
    obtain ⟨rfl, rfl, rfl⟩ := hcs
    exact ⟨[], rfl, ⟨rfl, by omega, fun h => by omega⟩, Nat.le_refl _⟩
  · simp [Value.cells] at hcs
    obtain ⟨rfl, rfl, rfl⟩ := hcs
    have hlm : len ≤ m := by rw [hmm]; split <;> omega
    have each : ∀ i, i < m → ∃ x : PutT, W.cell? (a.add (i * 2)) = some (.bool x.1) ∧ W.cell? (a.add (i * 2 + 1)) = some (.string x.2) := fun i hi => by
      obtain ⟨h1, h2, h3, h4⟩ := hel i hi
      obtain ⟨x0, e0, _⟩ := DataW.trod_bool Tryd.underlying4 h3
      obtain ⟨x1, e1, _, _⟩ := DataW.trod_string Tryd.underlying9 h4
      simp at e0 e1
      rw [e0] at h1; rw [e1] at h2
      exact ⟨(x0, x1), h1, h2⟩
    obtain ⟨f, hf2⟩ := Go.Deep.choose_lt each
    refine ⟨(List.range len).map f, by simp, ⟨by simp, by have : maxLen = 9223372036854775807 := rfl; omega, fun _ => ⟨a, rfl, fun j x hj => ?_⟩⟩, hl⟩
    rw [List.getElem?_map] at hj
    obtain ⟨k, hk, rfl⟩ := Option.map_eq_some_iff.1 hj
    obtain ⟨hk1, hk2⟩ := List.getElem?_eq_some_iff.1 hk
    simp at hk1 hk2
    subst hk2
    obtain ⟨h1, h2⟩ := hf2 j (by omega)
    refine ⟨[.bool (f j).1, .string (f j).2], rfl, ⟨[.bool (f j).1], [.string (f j).2], rfl, rfl, rfl⟩, fun i u hu => ?_⟩
    match i, hu with
    | 0, hu => cases hu; exact h1
    | 1, hu => cases hu; exact h2
/-- A row of cuts. -/
theorem open_cuts {H : Type} {enc : TypeId × Value → H} {W : World} {b0 : Nat} {spare : Nat → Bool} {held : Bool} {A : Option Addr} {len cap : Nat} {d : DataW H} {p : List MemPlace}
    (h : DataW.Trod enc Tryd.prog W b0 spare held 23 (.slice A len cap) d p) : ∃ xs : List CutT, xs.length = len ∧ Kd.C KCut W A len xs ∧ len ≤ cap ∧ ∀ x ∈ xs, (Lit.int .i64 x.2.1).wf = true := by
  obtain ⟨fuel, hf⟩ := h
  rcases Go.Deep.open_slice Tryd.underlying23 hf with ⟨hcs, _⟩ | ⟨a, l, c, m, n, D, Pl, hcs, _, hl, hm, hmm, _, hel⟩
  · simp [Value.cells] at hcs
    obtain ⟨rfl, rfl, rfl⟩ := hcs
    exact ⟨[], rfl, ⟨rfl, by omega, fun h => by omega⟩, Nat.le_refl _, by simp⟩
  · simp [Value.cells] at hcs
    obtain ⟨rfl, rfl, rfl⟩ := hcs
    have hlm : len ≤ m := by rw [hmm]; split <;> omega
    have each : ∀ i, i < m → ∃ x : CutT, (Lit.int .i64 x.2.1).wf = true ∧ W.cell? (a.add (i * 3)) = some (.int .i64 x.1) ∧ W.cell? (a.add (i * 3 + 1)) = some (.int .i64 x.2.1) ∧ W.cell? (a.add (i * 3 + 2)) = some (.int .u64 x.2.2) := fun i hi => by
      obtain ⟨cs', h1, h2⟩ := hel i hi
      rw [cells34] at h1
      obtain ⟨_, hlen, hcell⟩ := World.cells?_some h1
      obtain ⟨c0, c1, c2, rfl⟩ := list3 cs' hlen
      obtain ⟨y0, y1, y2, k, _, _, g0, g1, g2⟩ := Go.Deep.trod_struct3 Tryd.underlying34 h2
      simp [cells3, cells32] at g0 g1 g2
      obtain ⟨x0, e0, _, w0⟩ := DataW.trod_int Tryd.underlying3 g0
      obtain ⟨x1, e1, _, w1⟩ := DataW.trod_int Tryd.underlying3 g1
      obtain ⟨x2, e2, _, w2⟩ := DataW.trod_int Tryd.underlying32 g2
      simp at e0 e1 e2
      subst e0 e1 e2
      have f0 := hcell 0 (by omega)
      have f1 := hcell 1 (by omega)
      have f2 := hcell 2 (by omega)
      rw [add_add] at f0 f1 f2
      exact ⟨(x0, x1, x2), w1, by simpa using f0, by simpa using f1, by simpa using f2⟩
    obtain ⟨f, hf2⟩ := Go.Deep.choose_lt each
    refine ⟨(List.range len).map f, by simp, ⟨by simp, by have : maxLen = 9223372036854775807 := rfl; omega, fun _ => ⟨a, rfl, fun j x hj => ?_⟩⟩, hl, fun x hx => ?_⟩
    · rw [List.getElem?_map] at hj
      obtain ⟨k, hk, rfl⟩ := Option.map_eq_some_iff.1 hj
      obtain ⟨hk1, hk2⟩ := List.getElem?_eq_some_iff.1 hk
      simp at hk1 hk2
      subst hk2
      obtain ⟨_, h1, h2, h3⟩ := hf2 j (by omega)
      refine ⟨[.int .i64 (f j).1, .int .i64 (f j).2.1, .int .u64 (f j).2.2], rfl, ⟨[.int .i64 (f j).1], [.int .i64 (f j).2.1, .int .u64 (f j).2.2], rfl, rfl, [.int .i64 (f j).2.1], [.int .u64 (f j).2.2], rfl, rfl, rfl⟩, fun i u hu => ?_⟩
      match i, hu with
      | 0, hu => cases hu; exact h1
      | 1, hu => cases hu; exact h2
      | 2, hu => cases hu; exact h3
    · obtain ⟨k, hk, rfl⟩ := List.mem_map.1 hx
      exact (hf2 k (by have := List.mem_range.1 hk; omega)).1
end Go.Proofs.YtldkgfhngonnfaaDoor.S
