/- A region that draws its order, within a round of a loop over an iterator: all its operations but the last few only read: one walk, in the text's order. No condition. -/
import Derived.StillTailTactics
import Derived.OrdersIn
import Derived.ControlIn
namespace Go.Proofs.YtfkljcnkghakaaaDoor.Masks
open Go

section
variable {P : Program} {ops : Array Oper} {Q : Exit → Act → World → Prop} {l n : Nat}
theorem oper_round {o : Oper} {a : Act} {w : World} {K K' : Act → World → Prop} (hd : ∀ c, o.op ≠ .defer c) (hK : ∀ a w, K a w → K' a w) (h : o.wp P a w K Q) : o.wpIn (Fence.wide.inRound l) n P a w K' Q := by
  refine ⟨fun _ _ => trivial, ?_⟩
  rw [Oper.semAt_eq _ _ _ hd]
  unfold Oper.wp at h
  generalize (execOp a.eval o).run P w = r at *
  cases r with
  | ok x w' =>
    cases x with
    | value v => exact hK _ _ h
    | skip => exact hK _ _ h
    | defer d => exact hK _ _ h
    | enter f args =>
      refine ⟨fun h => by simp [Fence.wide, Fence.inRound] at h, trivial, fun cs _ => ?_⟩
      obtain ⟨e, w', fr, r, s, x⟩ := h cs
      refine ⟨e, w', fr, ?_, comesIn_wide.2 s, x⟩
      cases e <;> first | exact hK _ _ r | exact r
    | row nm args =>
      refine ⟨fun h => by simp [Fence.wide, Fence.inRound] at h, fun c cs _ => ?_⟩
      obtain ⟨v, w', r, s⟩ := h c cs
      exact ⟨v, w', hK _ _ r, stepsIn_wide.2 s⟩
    | _ => exact h.elim
  | halt x w' => cases x <;> exact h
theorem op_round {i : Nat} {a : Act} {w : World} {K K' : Act → World → Prop} (hd : ∀ (j : Nat) (o : Oper) c, ops[j]? = some o → o.op ≠ .defer c) (hout : ¬ LetsOut Q) (hK : ∀ a w, K a w → K' a w) (h : wpOp P ops Q i K a w) : wpOpIn (Fence.wide.inRound l) n P ops Q i K' a w := by
  unfold wpOp at h
  unfold wpOpIn
  cases ho : ops[i]? with
  | none => simp only [ho] at h ⊢; exact hK _ _ h
  | some o =>
    simp only [ho] at h ⊢
    split
    · rename_i hw
      rw [if_pos hw] at h
      rcases h with h | h
      · exact oper_round (fun c => hd i o c ho) hK h
      · exact absurd h.2 hout
    · rename_i hw
      rw [if_neg hw] at h
      exact ⟨fun _ _ => trivial, hK _ _ h⟩
theorem any_round {md : Region.Mode} (hd : ∀ (j : Nat) (o : Oper) c, ops[j]? = some o → o.op ≠ .defer c) (hout : ¬ LetsOut Q) : ∀ (fuel : Nat) (listed : Array Bool) (a : Act) (w : World), wpAny P md ops Q fuel listed a w → wpAnyIn (Fence.wide.inRound l) n P md ops Q fuel listed a w := by
  intro fuel
  induction fuel with
  | zero => intro listed a w h; exact h
  | succ fuel ih =>
    intro listed a w h
    exact ⟨h.1, fun i hi => op_round hd hout (ih _) (h.2 i hi)⟩
/-- All but the last few only read. -/
theorem region_round_tail {id : Nat} {a : Act} {w : World} {os : List Oper} (k : Nat) (hm : P.follows .mixedOrders = true) (hB : Region.lexTailB .any os.toArray k = true) (hout : ¬ LetsOut Q) (hd : ∀ o ∈ os, ∀ c, o.op ≠ .defer c)
    (h : wpStill P os.toArray { w with drawn := w.drawn + 1 } (fun a' => wpList P os.toArray Q (os.drop k) a' { w with drawn := w.drawn + 1 }) (os.take k) a) : (Code.region id os.toArray true).wpIn (Fence.wide.inRound l) n P Q a w := by
  simp only [Region.lexTailB, Bool.and_eq_true, decide_eq_true_eq] at hB
  obtain ⟨⟨⟨⟨hsel, hn⟩, hs⟩, hc⟩, hlex⟩ := hB
  have hn' : k < os.length := by simpa using hn
  have htl : (os.take k).length = k := by simp; omega
  have hdl : (os.drop k).length = os.toArray.size - k := by simp
  have inv0 : HeadInv .any os.toArray k (Array.replicate os.toArray.size false) :=
    ⟨by simp, fun j oj _ hl => (by rw [getD_replicate_false] at hl; cases hl), fun t _ ht => getD_in (by simpa using ht) (getD_replicate_false _ _)⟩
  have H := wpAnyL_lex (md := .any) (g := os.toArray.size - k) hsel hs hc hn (os.take k) 0 _ a (fun j hj => by
    have hj' : j < k := by rw [htl] at hj; exact hj
    simp [hj']) (by simpa using htl) inv0 (by rw [htl]; exact hlex) h
  refine wpIn_region_any hm (any_round (fun j o c ho => hd o (by simpa using Array.mem_of_getElem? ho) c) hout _ _ _ _ ?_)
  have := wpAny_of_head (Q' := Q) (g := os.toArray.size - k) (fun listed a' hL => by
    have := wpAny_of_seq (md := .any) (Q' := Q) (os.drop k) k listed a' { w with drawn := w.drawn + 1 } (fun j => by simp [List.getElem?_drop]) (by rw [hdl]; exact hL.1) hL.2
    rwa [hdl] at this) _ _ _ H
  rw [htl, show k + (os.toArray.size - k) = os.toArray.size by omega] at this
  exact this
end
end Go.Proofs.YtfkljcnkghakaaaDoor.Masks
