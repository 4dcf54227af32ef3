/- The flow made for the law, as a plain list. A run's status; the law's small functions: good, runs. The list of what is open: a row of numbers, perhaps cut short of its block's room; append onto it. The plain law: what the loop keeps, and what follows of it at its end. What the law's loop has at hand, in memory. What the law's loop does to the memory at hand: the run's step, the node taken, what is open. -/
import Derived.Test.YtiipbibbppgbgaaMC
import Derived.Test.YtiipbibbppgbgaaPTopFatesx2
namespace Go.Proofs.Ytiipbibbppgbgaa.T
open Go.RowKit Go.Proofs.Ytiipbibbppgbgaa.PTopFates Go.Proofs.YtiipbibbppgbgaaW.PrintWords Go.Proofs.YtiipbibbppgbgaaW.PrintLast Go.Proofs.YtiipbibbppgbgaaW.PrintMore
set_option linter.unusedVariables false
set_option linter.unusedSimpArgs false

/-- Is bit k set in the mask? -/
def depB (m : Int) (k : Nat) : Bool := decide (Go.bits .and .u32 (shr .u32 m (k : Int)) 1 = 1)
def depsTo (m : Int) (i : Nat) : List Nat := (List.range i).filter (depB m)
/-- The i-th node of the flow. -/
def nodeOf (a2 : Int) (a3 : ByteArray) (i : Nat) (x : S50) : S43 :=
  ⟨nm i, (depsTo x.f0 i).map nm, if x.f1 = true ∧ a2 ≥ 0 then 1 else 1 + ((mx 0 x.f2) % 4), 1 + ((mx 0 x.f3) % 50), if x.f1 = true ∧ a2 ≥ 0 then a2 else -1, if x.f1 = true ∧ a2 ≥ 0 then a3 else ⟨#[]⟩⟩
def node0 : S43 := ⟨nm 0, [], 1, 1, -1, ⟨#[]⟩⟩
def flowL (a2 : Int) (a3 : ByteArray) (l : List S50) : List S43 := if l = [] then [node0] else (List.range (min l.length 12)).map fun i => nodeOf a2 a3 i (l.getD i z50)
def depsL (l : List S50) (i : Nat) : List Nat := depsTo (l.getD i z50).f0 i
theorem depsTo_len (m : Int) (i : Nat) : (depsTo m i).length ≤ i := Nat.le_trans (List.length_filter_le _ _) (by simp)
theorem flow_l1 (a2 : Int) (a3 : ByteArray) (ys : List S50) (n22 : Int) (a0 : ByteArray) (acc : List S43) (m : Int) (b : Bool) (p3 p4 : Int) (q0 : ByteArray) (q2 q3 q4 : Int) (q5 : ByteArray) (i : Nat) (x22 : Int) (hi : i < 12) (hacc : acc.length ≤ 12) (n : Nat) :
    ∀ (d j : Nat) (dd : List ByteArray), j + d = i → dd.length ≤ j → precincttop_flow.l1 (n + d + 1) a2 a3 ys n22 x22 (i : Int) (j : Int) a0 acc m b p3 p4 q0 dd q2 q3 q4 q5 =
      precincttop_flow.l0 n a2 a3 ys n22 (wrap64 (x22 + 1)) a0 (acc ++ [⟨q0, dd ++ (((List.range i).drop j).filter (depB m)).map nm, q2, q3, q4, q5⟩]) := by
  intro d
  induction d with
  | zero =>
    intro j dd hj hd
    have : j = i := by omega
    subst this
    unfold precincttop_flow.l1
    rw [if_neg (by omega), if_pos (by omega), List.drop_eq_nil_of_le (by simp)]
    simp
  | succ d ih =>
    intro j dd hj hd
    rw [show n + (d + 1) + 1 = (n + d + 1) + 1 by omega]
    unfold precincttop_flow.l1
    have hdr : (List.range i).drop j = j :: (List.range i).drop (j + 1) := by
      rw [List.drop_eq_getElem_cons (by simp; omega)]
      simp
    rw [if_pos (by omega), if_pos (by omega), wrap_small (by omega), hdr, List.filter_cons]
    by_cases hb : Go.bits .and .u32 (shr .u32 m (j : Int)) 1 = 1
    · have hdb : depB m j = true := decide_eq_true hb
      rw [if_pos hb, name_f j (by omega), if_pos hdb]
      simp only [Option.bind_some]
      rw [if_pos (by omega), ih (j + 1) (dd ++ [nm j]) (by omega) (by simp; omega)]
      simp
    · have hdb : depB m j = false := decide_eq_false hb
      rw [if_neg hb, if_neg (by simp [hdb])]
      exact ih (j + 1) dd (by omega) (by omega)
theorem flow_l0 (a2 : Int) (a3 : ByteArray) (ys : List S50) (a0 : ByteArray) (i : Nat) (acc : List S43) (hi : i < ys.length) (h12 : ys.length ≤ 12) (hacc : acc.length ≤ 12) (n : Nat) :
    precincttop_flow.l0 (n + i + 4) a2 a3 ys (ys.length : Int) (i : Int) a0 acc = precincttop_flow.l0 n a2 a3 ys (ys.length : Int) ((i + 1 : Nat) : Int) a0 (acc ++ [nodeOf a2 a3 i (ys.getD i z50)]) := by
  rw [show n + i + 4 = (n + i + 3) + 1 by omega]
  conv => lhs; unfold precincttop_flow.l0
  have hrd : rd_T50 ys (i : Int) = ys.getD i z50 := rfl
  rw [if_pos (by omega), if_pos (by omega), if_pos (by omega), name_f i (by omega), hrd]
  simp only [Option.bind_some]
  generalize ys.getD i z50 = x
  have key := fun q2 q4 q5 => flow_l1 a2 a3 ys (ys.length : Int) a0 acc x.f0 x.f1 x.f2 x.f3 (nm i) q2 (1 + ((mx 0 x.f3) % 50)) q4 q5 i (i : Int) (by omega) hacc n i 0 [] (by omega) (by simp)
  rw [wrap_small (by omega)] at key
  by_cases hf : x.f1 = true
  · rw [if_pos hf, show n + i + 3 = (n + i + 2) + 1 by omega]
    unfold precincttop_flow.j1
    by_cases ha : a2 ≥ 0
    · rw [if_pos (decide_eq_true ha), show n + i + 2 = (n + i + 1) + 1 by omega]
      unfold precincttop_flow.j2
      have := key 1 a2 a3
      rw [show ((0 : Nat) : Int) = 0 from rfl] at this
      rw [this]
      simp [nodeOf, hf, ha, depsTo]
    · rw [if_neg (by simp [ha]), show n + i + 2 = (n + i + 1) + 1 by omega]
      unfold precincttop_flow.j2
      have := key (1 + ((mx 0 x.f2) % 4)) (-1) ⟨#[]⟩
      rw [show ((0 : Nat) : Int) = 0 from rfl] at this
      rw [this]
      simp [nodeOf, ha, depsTo]
  · rw [if_neg hf, show n + i + 3 = (n + i + 2) + 1 by omega]
    unfold precincttop_flow.j1
    rw [if_neg (by simp), show n + i + 2 = (n + i + 1) + 1 by omega]
    unfold precincttop_flow.j2
    have := key (1 + ((mx 0 x.f2) % 4)) (-1) ⟨#[]⟩
    rw [show ((0 : Nat) : Int) = 0 from rfl] at this
    rw [this]
    simp [nodeOf, hf, depsTo]
theorem flow_end (a2 : Int) (a3 : ByteArray) (ys : List S50) (a0 : ByteArray) (acc : List S43) (n : Nat) : precincttop_flow.l0 (n + 1) a2 a3 ys (ys.length : Int) (ys.length : Int) a0 acc = some (a0, if acc = [] then [node0] else acc) := by
  unfold precincttop_flow.l0
  rw [if_neg (by omega)]
  by_cases h : acc = []
  · subst h
    rw [if_pos (by simp), show (0 : Int) = ((0 : Nat) : Int) from rfl, name_f 0 (by omega)]
    simp [node0]
  · rw [if_neg (by simpa using h), if_neg h]
theorem flow_go (a2 : Int) (a3 : ByteArray) (ys : List S50) (a0 : ByteArray) (h12 : ys.length ≤ 12) : ∀ (d i : Nat) (acc : List S43), i + d = ys.length → acc.length = i → ∃ K, precincttop_flow.l0 K a2 a3 ys (ys.length : Int) (i : Int) a0 acc =
    some (a0, if acc ++ ((List.range ys.length).drop i).map (fun j => nodeOf a2 a3 j (ys.getD j z50)) = [] then [node0] else acc ++ ((List.range ys.length).drop i).map (fun j => nodeOf a2 a3 j (ys.getD j z50))) := by
  intro d
  induction d with
  | zero =>
    intro i acc hi ha
    have : i = ys.length := by omega
    subst this
    refine ⟨1, ?_⟩
    rw [List.drop_eq_nil_of_le (by simp), List.map_nil, List.append_nil]
    exact flow_end a2 a3 ys a0 acc 0
  | succ d ih =>
    intro i acc hi ha
    obtain ⟨K, hK⟩ := ih (i + 1) (acc ++ [nodeOf a2 a3 i (ys.getD i z50)]) (by omega) (by simp; omega)
    refine ⟨K + i + 4, ?_⟩
    rw [flow_l0 a2 a3 ys a0 i acc (by omega) h12 (by omega) K, hK]
    have hdr : (List.range ys.length).drop i = i :: (List.range ys.length).drop (i + 1) := by
      rw [List.drop_eq_getElem_cons (by simp; omega)]
      simp
    rw [hdr]
    simp
theorem flowL_take (a2 : Int) (a3 : ByteArray) (l : List S50) (h : l ≠ []) : (List.range (l.take 12).length).map (fun j => nodeOf a2 a3 j ((l.take 12).getD j z50)) = flowL a2 a3 l := by
  unfold flowL
  rw [if_neg h, List.length_take, Nat.min_comm]
  apply List.map_congr_left
  intro j hj
  rw [List.mem_range] at hj
  have : j < 12 := by omega
  simp [List.getD_eq_getElem?_getD, List.getElem?_take, this]
theorem flow_spec (a0 : ByteArray) (l : List S50) (a2 : Int) (a3 : ByteArray) : ∃ K, precincttop_flow.f K a0 l a2 a3 = some (a0, flowL a2 a3 l) := by
  have hmn : (mn (l.length : Int) 12).toNat = min l.length 12 := by unfold mn; split <;> omega
  have hm0 : 0 ≤ mn (l.length : Int) 12 := by unfold mn; split <;> omega
  have hm1 : mn (l.length : Int) 12 ≤ (l.length : Int) := by unfold mn; split <;> omega
  have htk : l.take (mn (l.length : Int) 12).toNat = l.take 12 := by
    rw [hmn]
    rcases Nat.lt_or_ge l.length 12 with h | h
    · rw [Nat.min_eq_left (by omega), List.take_length, List.take_of_length_le (by omega)]
    · rw [Nat.min_eq_right h]
  obtain ⟨K, hK⟩ := flow_go a2 a3 (l.take 12) a0 (by simp; omega) (l.take 12).length 0 [] (by omega) rfl
  refine ⟨K, ?_⟩
  unfold precincttop_flow.f
  rw [if_pos hm0, if_pos hm1, htk]
  simp only [Option.bind_some]
  rw [show ((0 : Nat) : Int) = 0 from rfl] at hK
  rw [hK]
  rw [List.drop_zero, List.nil_append]
  by_cases h : l = []
  · subst h; simp [flowL]
  · rw [flowL_take a2 a3 l h, if_neg]
    unfold flowL
    rw [if_neg h]
    intro he
    have h9 := congrArg List.length he
    simp only [List.length_map, List.length_range, List.length_nil] at h9
    have : 0 < l.length := List.length_pos_iff.2 h
    omega
theorem flowL_nil (a2 : Int) (a3 : ByteArray) : flowL a2 a3 [] = [node0] := by simp [flowL]
theorem flowL_len (a2 : Int) (a3 : ByteArray) (l : List S50) (h : l ≠ []) : (flowL a2 a3 l).length = min l.length 12 := by simp [flowL, h]
theorem flowL_get (a2 : Int) (a3 : ByteArray) (l : List S50) (h : l ≠ []) (i : Nat) (hi : i < (flowL a2 a3 l).length) : (flowL a2 a3 l).getD i z43 = nodeOf a2 a3 i (l.getD i z50) := by
  rw [flowL_len a2 a3 l h] at hi
  unfold flowL
  rw [if_neg h]
  simp [hi]
theorem mod_rng (a b : Int) (hb : 0 < b) : 0 ≤ a % b ∧ a % b < b := ⟨Int.emod_nonneg _ (by omega), Int.emod_lt_of_pos _ hb⟩
theorem good_node (i : Nat) (hi : i < 12) (x : S50) : GoodN (nodeOf 1 ⟨#[103]⟩ i x) := by
  have h4 := mod_rng (mx 0 x.f2) 4 (by omega)
  have h5 := mod_rng (mx 0 x.f3) 50 (by omega)
  have hl := depsTo_len x.f0 i
  unfold GoodN nodeOf
  by_cases hf : x.f1 = true
  · simp [hf]; omega
  · simp [hf]; omega
theorem flow_ok (l : List S50) : FlowOk (flowL 1 ⟨#[103]⟩ l) (depsL l) := by
  by_cases h : l = []
  · subst h
    rw [flowL_nil]
    refine ⟨?_, by simp, by simp, ?_, ?_, ?_⟩
    · intro j hj
      have : j = 0 := by simp at hj; exact hj
      subst this; rfl
    · intro j hj
      have : j = 0 := by simp at hj; exact hj
      subst this
      refine ⟨by simp [node0, depsL, depsTo], ?_, by simp [depsL, depsTo]⟩
      intro d hd; simp [depsL, depsTo] at hd
    · intro j hj
      have : j = 0 := by simp at hj; exact hj
      subst this; simp [depsL, depsTo]
    · intro j hj
      have : j = 0 := by simp at hj; exact hj
      subst this
      unfold GoodN
      simp [node0]
  · have hlen := flowL_len 1 ⟨#[103]⟩ l h
    have hp : 0 < l.length := List.length_pos_iff.2 h
    refine ⟨?_, by omega, by omega, ?_, ?_, ?_⟩
    · intro j hj
      rw [flowL_get _ _ l h j hj]; rfl
    · intro j hj
      rw [flowL_get _ _ l h j hj]
      refine ⟨rfl, ?_, ?_⟩
      · intro d hd
        unfold depsL depsTo at hd
        exact List.mem_range.1 (List.mem_filter.1 hd).1
      · exact Nat.le_trans (depsTo_len _ _) (by omega)
    · intro j hj
      exact (List.nodup_range).sublist List.filter_sublist
    · intro j hj
      rw [flowL_get _ _ l h j hj]
      exact good_node j (by omega) _
theorem flow_ok0 : FlowOk (flowL (-1) ⟨#[]⟩ []) (depsL []) := by
  have := flow_ok []
  rw [flowL_nil] at this ⊢
  exact this
end Go.Proofs.Ytiipbibbppgbgaa.T
namespace Go.Proofs.Ytiipbibbppgbgaa.T
open Go.RowKit Go.Proofs.Ytiipbibbppgbgaa.PTopFates Go.Proofs.YtiipbibbppgbgaaW.PrintWords Go.Proofs.YtiipbibbppgbgaaW.PrintLast Go.Proofs.YtiipbibbppgbgaaW.PrintMore
set_option linter.unusedVariables false
set_option linter.unusedSimpArgs false

def OverP (p : Int) : Prop := p = 4 ∨ p = 5 ∨ p = 6
def allD (n : Nat) (P : Nat → Int) : Bool := (List.range n).all fun i => P i == 4
theorem allD_succ (n : Nat) (P : Nat → Int) : allD (n + 1) P = (allD n P && (P n == 4)) := by simp [allD, List.range_succ, List.all_append]
def statV (n : Nat) (P : Nat → Int) : Int := if allD n P = true then 1 else 2
theorem status_l (ns : List S43) (P T : Nat → Int) (hl : ns.length ≤ 12) (ho : ∀ i, i < ns.length → OverP (P i)) : ∀ (f k : Nat), k ≤ ns.length → ns.length - k < f → run_Run_Status.l0 f (statV k P) (stL ns P T) (ns.length : Int) (k : Int) = some (statV ns.length P) := by
  intro f
  induction f with
  | zero => intro k _ h; omega
  | succ f ih =>
    intro k hk hf
    unfold run_Run_Status.l0
    by_cases hkn : k < ns.length
    · have hrd : rd_T53 (stL ns P T) (k : Int) = mkS (P k) (T k) (ns.getD k z43).f3 := stL_get ns P T k hkn
      rw [if_pos (by omega), if_pos (by omega), if_pos (by rw [stL_len]; omega), hrd, wrap_small (by omega)]
      have hih := ih (k + 1) (by omega) (by omega)
      have hov : node_State_Over.f (mkS (P k) (T k) (ns.getD k z43).f3).f0 (mkS (P k) (T k) (ns.getD k z43).f3).f1 (mkS (P k) (T k) (ns.getD k z43).f3).f2 (mkS (P k) (T k) (ns.getD k z43).f3).f3 = some true := by
        unfold node_State_Over.f
        show (if P k = 4 then _ else _) = _
        rcases ho k hkn with h | h | h <;> simp [h, mkS]
      rw [hov]
      simp only [Option.bind_some, if_true]
      show (if P k = 4 then _ else _) = _
      rw [← hih]
      unfold statV
      rw [allD_succ]
      by_cases h4 : P k = 4
      · rw [if_pos h4]; simp [h4]
      · rw [if_neg h4]; simp [h4]
    · have : k = ns.length := by omega
      subst this
      rw [if_neg (by omega)]
theorem status_over (i0 i1 i2 : Int) (t : ByteArray) (ns : List S43) (P T : Nat → Int) (hl : ns.length ≤ 12) (ho : ∀ i, i < ns.length → OverP (P i)) : run_Run_Status.f 20 i0 i1 i2 t ns (stL ns P T) = some (statV ns.length P) := by
  unfold run_Run_Status.f
  rw [stL_len]
  exact status_l ns P T hl ho 20 0 (by omega) (by omega)
theorem status_run (i0 i1 i2 : Int) (t : ByteArray) (ns : List S43) (P T : Nat → Int) (h1 : 1 ≤ ns.length) (ho : P 0 = 1) : run_Run_Status.f 20 i0 i1 i2 t ns (stL ns P T) = some 0 := by
  unfold run_Run_Status.f
  rw [stL_len]
  unfold run_Run_Status.l0
  have hrd : rd_T53 (stL ns P T) 0 = mkS (P 0) (T 0) (ns.getD 0 z43).f3 := stL_get ns P T 0 h1
  rw [if_pos (by omega), if_pos (by omega), if_pos (by rw [stL_len]; omega), hrd]
  have hov : node_State_Over.f (mkS (P 0) (T 0) (ns.getD 0 z43).f3).f0 (mkS (P 0) (T 0) (ns.getD 0 z43).f3).f1 (mkS (P 0) (T 0) (ns.getD 0 z43).f3).f2 (mkS (P 0) (T 0) (ns.getD 0 z43).f3).f3 = some false := by
    unfold node_State_Over.f
    show (if P 0 = 4 then _ else _) = _
    simp [ho, mkS]
  rw [hov]
  rfl
theorem status_calls (i0 i1 i2 r : Int) (t : ByteArray) (A : Option Addr) (c : Nat) (B : Option Addr) (cb : Nat) (ns : List S43) (P T : Nat → Int) (okF okS : Nat → Prop) (w : World) (hr : IsRun w okF okS ns P T A c B cb) (h : run_Run_Status.f 20 i0 i1 i2 t ns (stL ns P T) = some r) :
    Calls Try.prog 11 #[.agg #[.int .i64 i0, .int .i64 i1, .int .i64 i2, .string t, .slice A ns.length c, .slice B ns.length cb]] w fun e w' => e = .returned (.int .i64 r) ∧ Below w.heap.size w w' := by
  have := run_Run_Status.calls 20 i0 i1 i2 t A c ns B cb (stL ns P T) r w (Kd.F_now hr.1) hr.2.1 (by rw [stL_len]; exact Kd.F_now hr.2.2.1) (by rw [stL_len]; exact hr.2.2.2) h
  rwa [stL_len] at this
/-- Does node i go well? -/
def goodB (well : List Bool) (i : Nat) : Bool := well.getD i true
set_option maxHeartbeats 2000000 in
set_option maxRecDepth 100000 in
theorem good_calls (p : Int) (i : Nat) (wb : Nat) (AW : Option Addr) (cW : Nat) (well : List Bool) (w : World) (hp : p = (i : Int)) (hb : w.heap[wb]? = some (.cells #[.slice AW well.length cW] 23 (0, 0))) (hC : Kd.C Kd.bool w AW well.length well) :
    Calls Try.prog 7 #[.int .i64 p, .pointer (some ⟨wb, 0, none⟩)] w fun e w' => e = .returned (.bool (goodB well i)) ∧ Below w.heap.size w w' := by
  have hx : w.cell? ⟨wb, 0, none⟩ = some (.slice AW well.length cW) := (blk_cell hb 0).trans rfl
  have HP := Aside0.mk hp
  have HB := Aside0.mk (Below.refl w.heap.size w)
  by_cases hin : i < well.length
  · have hge : decide (p ≥ (well.length : Int)) = false := decide_eq_false (by omega)
    have hge2 : decide ((well.length : Int) ≤ p) = false := decide_eq_false (by omega)
    have hp0 : 0 ≤ p := by omega
    have hp1 : p < (well.length : Int) := by omega
    obtain ⟨ad, e, hc⟩ := Kd.at_bool hC p hp0 hp1
    subst e
    have hg : rdOf false well p = goodB well i := by unfold rdOf goodB; rw [hp]; simp [hin]
    rw [hg] at hc
    generalize goodB well i = gb at *
    clear hg hp hin hC
    go_enter Try.func7, Try.ntmps7
    go_wp2
    go_ret
    exact ⟨rfl, HB.out⟩
  · have hge : decide (p ≥ (well.length : Int)) = true := decide_eq_true (by omega)
    have hge2 : decide ((well.length : Int) ≤ p) = true := decide_eq_true (by omega)
    have hg : goodB well i = true := by unfold goodB; rw [List.getD_eq_getElem?_getD, List.getElem?_eq_none (by omega)]; rfl
    rw [hg]
    clear hg hp hin hC
    go_enter Try.func7, Try.ntmps7
    go_wp2
    go_ret
    exact ⟨rfl, HB.out⟩
theorem letters_f : Letters ⟨#[102]⟩ := ⟨by decide, by decide, fun i h => by
  have h2 : i < 1 := h
  match i, h2 with
  | 0, _ => exact ⟨(by show 97 ≤ 102; omega), (by show 102 ≤ 122; omega)⟩⟩
set_option maxHeartbeats 4000000 in
set_option maxRecDepth 100000 in
theorem runs_calls (W : World) : Calls Try.prog 6 #[] W fun e W' => e = .returned (.bool true) ∧ Below W.heap.size W W' := by
  have hu33 := Try.underlying33
  have hu35 := Try.underlying35
  obtain ⟨K, hK⟩ := flow_spec ⟨#[102]⟩ [] (-1) ⟨#[]⟩
  have HFC := Aside0.mk (precincttop_flow.calls K ⟨#[102]⟩ none 0 [] (-1) ⟨#[]⟩ _ _ W (Kd.C_nil _ _) (by simp) hK)
  have hf0 := flow_ok0
  have hlen : (flowL (-1) ⟨#[]⟩ []).length = 1 := by rw [flowL_nil]; rfl
  have hD0 : depsL [] 0 = [] := rfl
  have hcall : wakeP (flowL (-1) ⟨#[]⟩ []) 0 = 1 := by rw [flowL_nil]; rfl
  generalize flowL (-1) ⟨#[]⟩ [] = ns at *
  have HF0 := Aside0.mk hf0
  have HLN := Aside0.mk hlen
  have HD0 := Aside0.mk hD0
  have HWK := Aside0.mk hcall
  clear hK hf0 hlen hD0 hcall
  have HB0 := Aside0.mk (Below.refl W.heap.size W)
  go_enter Try.func6, Try.ntmps6
  go_upto_region 2 with (first
    | (go_at_call 4; go_loud (refine HFC.out.mono ?_; rintro e w1 ⟨v1, rfl, hS, hb⟩; obtain ⟨A1, c1, rfl⟩ := Kd.R_slice (Kd.S_R hS); have HS := Aside0.mk hS; have HB1 := Aside0.mk hb; clear hS hb))
    | (go_at_call 5; go_loud (have hcl := begin_calls 1 (-1) 0 ⟨#[102]⟩ A1 c1 ns (depsL []) _ w1 (Kd.S_F HS.out) (Kd.R_reads' (Kd.S_R HS.out)).2.1 letters_f HF0.out; refine hcl.mono ?_; rintro e w2 ⟨v, rfl, ⟨P, A, c, B, cb, AR, cR, AC, cC, rfl, hM, hSt, hRun, hLR, hLC⟩, hb⟩; have HM := Aside0.mk hM; have HST := Aside0.mk hSt; have HRUN := Aside0.mk hRun; have HB2 := Aside0.mk (below_step HB1.out hb); clear hcl hM hSt hRun hLR hLC hb)))
  have hP0 : P 0 = 1 := by
    have h1 : 0 < ns.length := by rw [HLN.out]; omega
    have hmid := (HM.out 0 h1).2 rfl
    have hst := HST.out 0 h1
    rcases hmid with h | ⟨_, d, hd, _⟩ | ⟨h, _⟩
    · exact absurd (fun d hd => by rw [HD0.out] at hd; cases hd) (hst h).2
    · rw [HD0.out] at hd; cases hd
    · rw [h]; exact HWK.out
  have hL : (came ns.length (fun _ => 0) P 1).length = 1 := by
    rw [HLN.out]
    simp [came, hP0]
  have hst := status_run 1 (-1) 0 ⟨#[102]⟩ ns P (fun _ => 0) (by rw [HLN.out]; exact Nat.le_refl _) hP0
  have hb3 := below_alloc (Below.refl w2.heap.size w2) (.cells #[.int .i64 1, .int .i64 (-1), .int .i64 0, .string ⟨#[102]⟩, .slice A ns.length c, .slice B ns.length cb, .slice AR (came ns.length (fun _ => 0) P 1).length cR, .slice AC (came ns.length (fun _ => 0) P 3).length cC] 35)
  have hk3 := blk_new w2 (.cells #[.int .i64 1, .int .i64 (-1), .int .i64 0, .string ⟨#[102]⟩, .slice A ns.length c, .slice B ns.length cb, .slice AR (came ns.length (fun _ => 0) P 1).length cR, .slice AC (came ns.length (fun _ => 0) P 3).length cC] 35)
  have HB3 := Aside0.mk (below_step HB2.out hb3)
  have HK3 := Aside0.mk hk3
  have HSC := Aside0.mk (status_calls 1 (-1) 0 0 ⟨#[102]⟩ A c B cb ns P (fun _ => 0) _ _ (w2.alloc (.cells #[.int .i64 1, .int .i64 (-1), .int .i64 0, .string ⟨#[102]⟩, .slice A ns.length c, .slice B ns.length cb, .slice AR (came ns.length (fun _ => 0) P 1).length cR, .slice AC (came ns.length (fun _ => 0) P 3).length cC] 35)) ⟨Kd.F_below HRUN.out.1 hb3, HRUN.out.2.1, Kd.F_below HRUN.out.2.2.1 hb3, HRUN.out.2.2.2⟩ hst)
  clear hst hb3 hk3 hP0
  generalize w2.alloc (.cells #[.int .i64 1, .int .i64 (-1), .int .i64 0, .string ⟨#[102]⟩, .slice A ns.length c, .slice B ns.length cb, .slice AR (came ns.length (fun _ => 0) P 1).length cR, .slice AC (came ns.length (fun _ => 0) P 3).length cC] 35) = w3 at *
  have hx0 : w3.cell? ⟨w2.heap.size, 0, none⟩ = some (.int .i64 1) := (blk_cell HK3.out 0).trans rfl
  have hx1 : w3.cell? ⟨w2.heap.size, 1, none⟩ = some (.int .i64 (-1)) := (blk_cell HK3.out 1).trans rfl
  have hx2 : w3.cell? ⟨w2.heap.size, 2, none⟩ = some (.int .i64 0) := (blk_cell HK3.out 2).trans rfl
  have hx3 : w3.cell? ⟨w2.heap.size, 3, none⟩ = some (.string ⟨#[102]⟩) := (blk_cell HK3.out 3).trans rfl
  have hx4 : w3.cell? ⟨w2.heap.size, 4, none⟩ = some (.slice A ns.length c) := (blk_cell HK3.out 4).trans rfl
  have hx5 : w3.cell? ⟨w2.heap.size, 5, none⟩ = some (.slice B ns.length cb) := (blk_cell HK3.out 5).trans rfl
  have hx6 : w3.cell? ⟨w2.heap.size, 6, none⟩ = some (.slice AR 1 cR) := by rw [← hL]; exact (blk_cell HK3.out 6).trans rfl
  clear hL
  go_wp2_with (first | (go_at_call 11; go_loud (refine HSC.out.mono ?_; rintro e w4 ⟨rfl, hb⟩; have HB4 := Aside0.mk (below_step HB3.out hb); clear hb)))
  go_ret
  exact ⟨rfl, HB4.out⟩
end Go.Proofs.Ytiipbibbppgbgaa.T
namespace Go.Proofs.Ytiipbibbppgbgaa.T
open Go.RowKit Go.Proofs.Ytiipbibbppgbgaa.PTopFates Go.Proofs.YtiipbibbppgbgaaW.PrintWords Go.Proofs.YtiipbibbppgbgaaW.PrintLast Go.Proofs.YtiipbibbppgbgaaW.PrintMore
set_option linter.unusedVariables false
set_option linter.unusedSimpArgs false

def OpenRow (w : World) (bb : Nat) (v : Value) (L : List Int) : Prop :=
  ∃ A c, v = .slice A L.length c ∧ L.length ≤ c ∧ Kd.C (Kd.int .i64) w A L.length L ∧ ((A = none ∧ c = 0) ∨ ∃ g o cells, A = some ⟨g, o, none⟩ ∧ bb ≤ g ∧ w.heap[g]? = some (.cells cells 3 (0, 0)) ∧ o + c ≤ cells.size)
theorem OpenRow.nil (w : World) (bb : Nat) : OpenRow w bb (.slice none 0 0) [] := ⟨none, 0, rfl, Nat.le_refl _, Kd.C_nil _ _, .inl ⟨rfl, rfl⟩⟩
theorem OpenRow.below {w w' : World} {bb : Nat} {v : Value} {L : List Int} (h : OpenRow w bb v L) (hb : Below w.heap.size w w') : OpenRow w' bb v L := by
  obtain ⟨A, c, h1, h2, h3, h4⟩ := h
  refine ⟨A, c, h1, h2, Kd.C_below h3 hb, ?_⟩
  rcases h4 with h4 | ⟨g, o, cells, h5, h6, h7, h8⟩
  · exact .inl h4
  · exact .inr ⟨g, o, cells, h5, h6, blk_below h7 hb, h8⟩
theorem OpenRow.base {w : World} {bb : Nat} {v : Value} {L : List Int} (h : OpenRow w bb v L) : ∀ k, v.ownBlock = some k → bb ≤ k ∧ k < w.heap.size := by
  obtain ⟨A, c, rfl, h2, h3, h4⟩ := h
  rcases h4 with ⟨rfl, rfl⟩ | ⟨g, o, cells, rfl, h6, h7, h8⟩
  · intro k hk; simp [Value.ownBlock] at hk
  · intro k hk
    simp [Value.ownBlock] at hk
    subst hk
    exact ⟨h6, blk_lt h7⟩
theorem cells_int {w : World} {A : Option Addr} {X : List Int} (h : Kd.C (Kd.int .i64) w A X.length X) {ad : Addr} (e : A = some ad) : ∀ j u, (X.map (fun x => Value.int .i64 x))[j]? = some u → w.cell? (ad.add j) = some u := by
  intro j u hu
  have hj : j < X.length := by have := (List.getElem?_eq_some_iff.1 hu).1; simpa using this
  obtain ⟨ad', e', hc⟩ := Kd.at_int h ((j : Nat) : Int) (by omega) (by omega)
  rw [e] at e'
  cases e'
  rw [Int.toNat_natCast] at hc
  rw [hc]
  rw [List.getElem?_map, List.getElem?_eq_getElem hj] at hu
  rw [← Option.some.inj hu]
  simp [rd, hj]
theorem C_int_of {w : World} {g o : Nat} {X : List Int} (hm : X.length ≤ 1000) (h : ∀ j u, (X.map (fun x => Value.int .i64 x))[j]? = some u → w.cell? ⟨g, o + j, none⟩ = some u) : Kd.C (Kd.int .i64) w (some ⟨g, o, none⟩) X.length X := by
  refine ⟨rfl, by omega, fun _ => ⟨⟨g, o, none⟩, rfl, fun j p hj => ?_⟩⟩
  refine ⟨[.int .i64 p], rfl, rfl, fun i u hu => ?_⟩
  have hi : i = 0 := by
    have := (List.getElem?_eq_some_iff.1 hu).1
    simp at this
    exact this
  subst hi
  have hc := h j (.int .i64 p) (by rw [List.getElem?_map, hj]; rfl)
  have : u = .int .i64 p := by simpa using hu.symm
  subst this
  rw [add_at]
  show w.cell? ⟨g, o + (j * 1 + 0), none⟩ = _
  rw [Nat.mul_one, Nat.add_zero]
  exact hc
theorem OpenRow.of_own {w : World} {base : Nat} {v : Value} {X : List Int} (h : w.ownsRow base 3 1 v X.length (X.map (fun x => Value.int .i64 x))) : OpenRow w base v X ∧ (v.ownBlock = none ∨ ∃ b, v.ownBlock = some b ∧ base ≤ b) := by
  have hR : (Kd.int .i64).R 3 w base (fun _ => True) v X := Kd.R_of_own h (fun _ _ => trivial)
  refine ⟨?_, Kd.R_base2 hR⟩
  obtain ⟨A, c, rfl, h1, h2⟩ := Kd.R_reads hR
  refine ⟨A, c, rfl, h1, h2, ?_⟩
  rcases h.2 with ⟨e, _⟩ | ⟨g, cap, cur, e, hb, hh, hnc, hcm, hcs, _⟩
  · injection e with e1 e2 e3
    exact .inl ⟨e1, e3⟩
  · injection e with e1 e2 e3
    subst e1; subst e3
    exact .inr ⟨g, 0, cur, rfl, hb, hh, by omega⟩
/-- append(v, X...). -/
theorem OpenRow.append {w : World} {bb : Nat} {v : Value} {L X : List Int} {AX : Option Addr} (cX : Nat) (ty : TypeId) (h : OpenRow w bb v L) (hX : Kd.C (Kd.int .i64) w AX X.length X) (hl : L.length ≤ 100) (hx : X.length ≤ 100) (hbb : bb ≤ w.heap.size) :
    ∃ v' w', (Builtin.append_ #[24, 24] ty #[v, .slice AX X.length cX]).run Try.prog w = .ok v' w' ∧ OpenRow w' bb v' (L ++ X) ∧ w.grownBy w' v.ownBlock ∧ (v'.ownBlock = v.ownBlock ∨ ∃ b, v'.ownBlock = some b ∧ w.heap.size ≤ b) := by
  obtain ⟨A, c, rfl, hLc, hC, hA⟩ := h
  obtain ⟨i0, hi, hzz⟩ := Option.map_eq_some_iff.1 info3
  simp only [Prod.mk.injEq] at hzz
  obtain ⟨hz0, hz1, hz2⟩ := hzz
  have ht : Try.prog.underlying 24 = some (.slice 3) := Try.underlying24
  have hone : ∀ u ∈ X.map (fun x => Value.int .i64 x), u.oneCell' = true := by
    intro u hu
    obtain ⟨x, _, rfl⟩ := List.mem_map.1 hu
    rfl
  rcases Nat.eq_zero_or_pos X.length with hm | hm
  · -- nothing comes on
    obtain rfl : X = [] := List.eq_nil_of_length_eq_zero hm
    refine ⟨.slice A L.length c, w, ?_, ?_, World.grownBy.refl w _, .inl rfl⟩
    · rcases hA with ⟨rfl, rfl⟩ | ⟨g, o, cells, rfl, h6, h7, h8⟩
      · obtain rfl : L = [] := List.eq_nil_of_length_eq_zero (by omega)
        cases AX with
        | none => simp [Builtin.append_, run_underlying ht, sizeOf, typeInfo, hi, Builtin.lenOf, Builtin.firstCells]
        | some ax =>
          have hlc := run_loadCells_list (P := Try.prog) (w := w) ax [] (by simp)
          simp at hlc
          simp [Builtin.append_, run_underlying ht, sizeOf, typeInfo, hi, Builtin.lenOf, Builtin.firstCells, hlc]
      · cases AX with
        | none => simp [Builtin.append_, run_underlying ht, sizeOf, typeInfo, hi, Builtin.lenOf, Builtin.firstCells, hLc, storeCells]
        | some ax =>
          have hlc := run_loadCells_list (P := Try.prog) (w := w) ax [] (by simp)
          simp at hlc
          simp [Builtin.append_, run_underlying ht, sizeOf, typeInfo, hi, Builtin.lenOf, Builtin.firstCells, hLc, storeCells, hlc]
    · rw [List.append_nil]
      exact ⟨A, c, rfl, hLc, hC, hA⟩
  · obtain ⟨ax, rfl, _⟩ := hX.2.2 hm
    have hnews := cells_int hX rfl
    have hnl : (X.map (fun x => Value.int .i64 x)).length = X.length * i0.size := by rw [hz1]; simp
    rcases hA with ⟨rfl, rfl⟩ | ⟨g, o, cells, rfl, h6, h7, h8⟩
    · -- onto nothing
      obtain rfl : L = [] := List.eq_nil_of_length_eq_zero (by omega)
      obtain ⟨v', w', hrun, r1, r2, _⟩ := run_append_own (P := Try.prog) w w.heap.size 24 ty 3 i0 (.int .i64 0) 1 8 ht hi hz0 hz1 hz2 rfl (by decide) (.slice none 0 0) 0 [] (World.ownsRow_nil w _ 3 1) ax X.length cX (X.map (fun x => Value.int .i64 x)) (by simp) hnews hone (by simp only [maxLen]; omega) (by omega) (Nat.le_refl _)
      rw [Nat.zero_add, List.nil_append] at r1
      obtain ⟨h9, h10⟩ := OpenRow.of_own r1
      refine ⟨v', w', hrun, ?_, r2, ?_⟩
      · rw [List.nil_append]
        obtain ⟨A', c', e1, e2, e3, e4⟩ := h9
        refine ⟨A', c', e1, e2, e3, ?_⟩
        rcases e4 with e4 | ⟨g', o', cells', f1, f2, f3, f4⟩
        · exact .inl e4
        · exact .inr ⟨g', o', cells', f1, Nat.le_trans hbb f2, f3, f4⟩
      · rcases h10 with h10 | h10
        · exact .inl h10
        · exact .inr h10
    · have holds := cells_int hC rfl
      by_cases hr : L.length + X.length ≤ c
      · -- in its own room
        have hsz : i0.size = 1 := hz1
        have hpos : o + L.length * i0.size = o + L.length := by rw [hsz, Nat.mul_one]
        have hrun := run_append_room_cells (P := Try.prog) w 24 ty 3 i0 ht hi g o L.length c ax X.length cX (X.map (fun x => Value.int .i64 x)) hnl hnews hone hr
          (fun j hj => by rw [hpos, cell_of_row w g _ cells 3 (0, 0) h7]; simp at hj ⊢; omega) (fun j _ => blk_frozen h7 _)
        rw [hpos] at hrun
        obtain ⟨cur', k1, k2, k3⟩ := setCells_row (X.map (fun x => Value.int .i64 x)) (o + L.length) w cells h7 (by simp; omega)
        obtain ⟨s1, s2, s3, s4⟩ := setCells_same g (X.map (fun x => Value.int .i64 x)) (o + L.length) w
        refine ⟨_, _, hrun, ?_, ⟨s1, s2, s3, by rw [s4]; exact Nat.le_refl _, fun k _ hk => setCells_far _ _ k (fun e => hk (by rw [e]; rfl))⟩, .inl rfl⟩
        refine ⟨some ⟨g, o, none⟩, c, by rw [List.length_append], by rw [List.length_append]; exact hr, ?_, .inr ⟨g, o, cur', rfl, h6, k1, by rw [k2]; exact h8⟩⟩
        refine C_int_of (by rw [List.length_append]; omega) (fun j u hu => ?_)
        rw [List.map_append] at hu
        rcases Nat.lt_or_ge j L.length with hj | hj
        · rw [List.getElem?_append_left (by simpa using hj)] at hu
          have hc := holds j u hu
          rw [add_at] at hc
          rw [World.cell?_setCells_out g _ _ _ _ (fun _ _ => .inl (by show o + j < o + L.length; omega))]
          exact hc
        · rw [List.getElem?_append_right (by simpa using hj)] at hu
          simp only [List.length_map] at hu
          have hjx : j - L.length < (X.map (fun x => Value.int .i64 x)).length := (List.getElem?_eq_some_iff.1 hu).1
          have hin := World.cell?_setCells_in g (X.map (fun x => Value.int .i64 x)) (o + L.length) w (fun i hi' => by rw [cell_of_row w g _ cells 3 (0, 0) h7]; simp at hi' ⊢; omega) (j - L.length) hjx
          rw [show o + L.length + (j - L.length) = o + j by omega] at hin
          rw [hin]
          rw [List.getElem?_eq_getElem hjx] at hu
          exact hu
      · obtain ⟨v', w', hrun, r1, r2⟩ := run_append_arg_grows (P := Try.prog) w 24 ty 3 i0 (.int .i64 0) 1 8 ht hi hz0 hz1 hz2 rfl (by decide) ⟨g, o, none⟩ L.length c (L.map (fun x => Value.int .i64 x)) (by simp) holds ax X.length cX (X.map (fun x => Value.int .i64 x)) (by simp) hnews (by omega) (by simp only [maxLen]; omega) (by omega)
        rw [← List.map_append, ← List.length_append] at r1
        obtain ⟨h9, h10⟩ := OpenRow.of_own r1
        refine ⟨v', w', hrun, ?_, ⟨r2.os, r2.tape, r2.output, r2.size, fun k hk _ => r2.block k hk (by simp)⟩, ?_⟩
        · obtain ⟨A', c', e1, e2, e3, e4⟩ := h9
          refine ⟨A', c', e1, e2, e3, ?_⟩
          rcases e4 with e4 | ⟨g', o', cells', f1, f2, f3, f4⟩
          · exact .inl e4
          · exact .inr ⟨g', o', cells', f1, Nat.le_trans hbb f2, f3, f4⟩
        · rcases h10 with h10 | h10
          · exfalso
            obtain ⟨A', c', e1, e2, e3, e4⟩ := h9
            rw [e1] at h10
            rcases e4 with ⟨f1, f2⟩ | ⟨g', o', cells', f1, _⟩
            · rw [List.length_append] at e2; omega
            · rw [f1] at h10; cases h10
          · exact .inr h10
theorem OpenRow.cut {w : World} {bb : Nat} {A : Option Addr} {c : Nat} {L : List Int} (h : OpenRow w bb (.slice A L.length c) L) {m : Nat} (hm : m ≤ L.length) : OpenRow w bb (.slice A m m) (L.take m) := by
  obtain ⟨A', c', e, h2, h3, h4⟩ := h
  injection e with e1 e2 e3
  subst e1; subst e3
  have hlen : (L.take m).length = m := by rw [List.length_take]; omega
  refine ⟨A, m, by rw [hlen], by rw [hlen]; exact Nat.le_refl _, Kd.C_take (m := m) h3 hm, ?_⟩
  rcases h4 with ⟨rfl, rfl⟩ | ⟨g, o, cells, rfl, h6, h7, h8⟩
  · exact .inl ⟨rfl, by omega⟩
  · exact .inr ⟨g, o, cells, rfl, h6, h7, by omega⟩
theorem info3_at : ∃ i : TypeInfo, Try.prog.info? 3 = some i ∧ i.size = 1 := by
  obtain ⟨i0, hi, hzz⟩ := Option.map_eq_some_iff.1 info3
  simp only [Prod.mk.injEq] at hzz
  exact ⟨i0, hi, hzz.2.1⟩
theorem append_hrun {a : Act} {o : Oper} {W W' : World} (s x : Operand) (ho : o.op = .call { callee := .builtin .append, args := #[s, x], argTypes := #[24, 24] }) {v vx r : Value} (hs : a.eval s = v) (hx : a.eval x = vx)
    (hr : (Builtin.append_ #[24, 24] o.type #[v, vx]).run Try.prog W = .ok r W') : (execOp a.eval o).run Try.prog W = .ok (.value r) W' := by
  unfold execOp
  simp only [ho, resolve, invoke, builtin, Sem.run_bind, Sem.run_pure, Result.andThen_ok, List.map_toArray, List.map_cons, List.map_nil, hs, hx, hr]
end Go.Proofs.Ytiipbibbppgbgaa.T
namespace Go.Proofs.Ytiipbibbppgbgaa.T
open Go.RowKit Go.Proofs.Ytiipbibbppgbgaa.PTopFates Go.Proofs.YtiipbibbppgbgaaW.PrintWords Go.Proofs.YtiipbibbppgbgaaW.PrintLast Go.Proofs.YtiipbibbppgbgaaW.PrintMore
set_option linter.unusedVariables false
set_option linter.unusedSimpArgs false

/-- Which nodes come to be done, by a plain walk. -/
def doneL (D : Nat → List Nat) (good : Nat → Bool) : Nat → List Bool
  | 0 => []
  | n + 1 => doneL D good n ++ [(D n).all (fun d => (doneL D good n).getD d false) && good n]
theorem doneL_len (D : Nat → List Nat) (good : Nat → Bool) (n : Nat) : (doneL D good n).length = n := by
  induction n with
  | zero => rfl
  | succ n ih => simp [doneL, ih]
theorem doneL_pre (D : Nat → List Nat) (good : Nat → Bool) (m n i : Nat) (hi : i < m) (hmn : m ≤ n) : (doneL D good n).getD i false = (doneL D good m).getD i false := by
  induction n with
  | zero => omega
  | succ n ih =>
    rcases Nat.lt_or_ge n m with h | h
    · have : m = n + 1 := by omega
      rw [this]
    · rw [← ih h]
      simp only [doneL]
      rw [List.getD_eq_getElem?_getD, List.getElem?_append_left (by rw [doneL_len]; omega), ← List.getD_eq_getElem?_getD]
def dn (D : Nat → List Nat) (good : Nat → Bool) (n i : Nat) : Bool := (doneL D good n).getD i false
def rdy (D : Nat → List Nat) (good : Nat → Bool) (n i : Nat) : Bool := (D i).all (dn D good n)
theorem dn_eq (D : Nat → List Nat) (good : Nat → Bool) (n i : Nat) (hi : i < n) (hd : ∀ d ∈ D i, d < i) : dn D good n i = (rdy D good n i && good i) := by
  unfold dn
  rw [doneL_pre D good (i + 1) n i (by omega) (by omega)]
  simp only [doneL]
  rw [List.getD_eq_getElem?_getD, List.getElem?_append_right (by rw [doneL_len]; exact Nat.le_refl _), doneL_len, Nat.sub_self]
  simp only [List.getElem?_cons_zero, Option.getD_some]
  congr 1
  unfold rdy
  have h : ∀ l : List Nat, (∀ d ∈ l, d < i) → l.all (fun d => (doneL D good i).getD d false) = l.all (dn D good n) := by
    intro l hl
    induction l with
    | nil => rfl
    | cons d l ih =>
      rw [List.all_cons, List.all_cons, ih (fun x hx => hl x (by simp [hx]))]
      congr 1
      exact (doneL_pre D good i n d (hl d (by simp)) (by omega)).symm
  exact h _ hd
def fate (D : Nat → List Nat) (good : Nat → Bool) (n i : Nat) : Int := if dn D good n i then 4 else if rdy D good n i then 5 else 6
def tries (ns : List S43) (i : Nat) : Int := (ns.getD i z43).f2
def times (ns : List S43) (D : Nat → List Nat) (good : Nat → Bool) (i : Nat) : Int := if dn D good ns.length i then 1 else if rdy D good ns.length i then tries ns i else 0
structure Inv (ns : List S43) (D : Nat → List Nat) (good : Nat → Bool) (P T tk : Nat → Int) (op : List Int) : Prop where
  ph : ∀ i, i < ns.length → P i = 0 ∨ P i = 1 ∨ P i = 3 ∨ OverP (P i)
  over : ∀ i, i < ns.length → OverP (P i) → P i = fate D good ns.length i ∧ tk i = times ns D good i
  act : ∀ i, i < ns.length → (P i = 1 ∨ P i = 3) → P i = wakeP ns i ∧ rdy D good ns.length i = true
  still : ∀ i, i < ns.length → Still D P i
  t0 : ∀ i, i < ns.length → P i = 0 → T i = 0 ∧ tk i = 0
  t1 : ∀ i, i < ns.length → P i = 1 → T i = tk i ∧ 0 ≤ tk i ∧ tk i < tries ns i ∧ (0 < tk i → good i = false)
  t3 : ∀ i, i < ns.length → P i = 3 → tk i = 0
  mem : ∀ x, x ∈ op ↔ ∃ i : Nat, i < ns.length ∧ x = (i : Int) ∧ (P i = 1 ∨ P i = 3)
  nd : op.Nodup
theorem tries_rng {ns : List S43} {D : Nat → List Nat} (hf : FlowOk ns D) (i : Nat) (hi : i < ns.length) : 1 ≤ tries ns i ∧ tries ns i ≤ 4 ∧ (isCall ns i = true → tries ns i = 1) := by
  obtain ⟨g1, g2, g3, g4, g5, g6⟩ := hf.good i hi
  refine ⟨g2, g3, fun hc => ?_⟩
  unfold isCall at hc
  rcases g6 with ⟨h, _⟩ | ⟨_, _, h⟩
  · rw [h] at hc; simp at hc
  · exact h
theorem Inv.tk_rng {ns : List S43} {D : Nat → List Nat} {good : Nat → Bool} {P T tk : Nat → Int} {op : List Int} (h : Inv ns D good P T tk op) (hf : FlowOk ns D) (i : Nat) (hi : i < ns.length) : 0 ≤ tk i ∧ tk i ≤ 4 := by
  have ht := tries_rng hf i hi
  rcases h.ph i hi with h0 | h0 | h0 | h0
  · have := (h.t0 i hi h0).2; omega
  · have := h.t1 i hi h0; omega
  · have := h.t3 i hi h0; omega
  · have := (h.over i hi h0).2
    unfold times at this
    split at this
    · omega
    · split at this <;> omega
def total (f : Nat → Int) : Nat → Int
  | 0 => 0
  | n + 1 => total f n + f n
theorem total_ge (f : Nat → Int) (n i : Nat) (v : Int) (hi : n ≤ i) : total (upd f i v) n = total f n := by
  induction n with
  | zero => rfl
  | succ n ih => simp only [total]; rw [ih (by omega), upd_ne _ _ _ (by omega)]
theorem total_upd (f : Nat → Int) (n i : Nat) (v : Int) (hi : i < n) : total (upd f i v) n = total f n + (v - f i) := by
  induction n with
  | zero => omega
  | succ n ih =>
    simp only [total]
    by_cases h : i = n
    · subst h; rw [total_ge _ _ _ _ (Nat.le_refl _), upd_same]; omega
    · rw [ih (by omega), upd_ne _ _ _ (by omega)]; omega
theorem total_le (f : Nat → Int) (n : Nat) (h : ∀ i, i < n → 0 ≤ f i ∧ f i ≤ 4) : 0 ≤ total f n ∧ total f n ≤ 4 * n := by
  induction n with
  | zero => simp [total]
  | succ n ih =>
    have := ih (fun i hi => h i (by omega))
    have := h n (by omega)
    simp only [total]
    omega
theorem total_zero (n : Nat) : total (fun _ => 0) n = 0 := by
  induction n with
  | zero => rfl
  | succ n ih => simp [total, ih]
/-- At the end nobody waits any more. -/
theorem Inv.end_ {ns : List S43} {D : Nat → List Nat} {good : Nat → Bool} {P T tk : Nat → Int} (h : Inv ns D good P T tk []) (hf : FlowOk ns D) : ∀ i, i < ns.length → OverP (P i) := by
  intro i
  induction i using Nat.strongRecOn with
  | ind i ih =>
    intro hi
    have hno : ∀ j, j < ns.length → ¬ (P j = 1 ∨ P j = 3) := fun j hj hx => by
      have := (h.mem (j : Int)).2 ⟨j, hj, rfl, hx⟩
      cases this
    rcases h.ph i hi with h0 | h0 | h0 | h0
    · exfalso
      obtain ⟨hl, hd⟩ := h.still i hi h0
      refine hd (fun d hdm => ?_)
      have hdi := (hf.deps i hi).2.1 d hdm
      rcases ih d hdi (by omega) with h4 | h5 | h6
      · exact h4
      · exact absurd ⟨d, hdm, .inl h5⟩ hl
      · exact absurd ⟨d, hdm, .inr h6⟩ hl
    · exact absurd (.inl h0) (hno i hi)
    · exact absurd (.inr h0) (hno i hi)
    · exact h0
theorem mem_came {n : Nat} {P0 P : Nat → Int} {p x : Int} : x ∈ came n P0 P p ↔ ∃ i : Nat, i < n ∧ x = (i : Int) ∧ P i ≠ P0 i ∧ P i = p := by
  unfold came
  rw [List.mem_map]
  constructor
  · rintro ⟨i, hi, rfl⟩
    rw [List.mem_filter, List.mem_range] at hi
    simp at hi
    exact ⟨i, hi.1, rfl, hi.2.1, hi.2.2⟩
  · rintro ⟨i, hi, rfl, h1, h2⟩
    refine ⟨i, ?_, rfl⟩
    rw [List.mem_filter, List.mem_range]
    simp [hi, h1, h2]
    exact fun e => h1 (h2.trans e)
theorem nodup_came (n : Nat) (P0 P : Nat → Int) (p : Int) : (came n P0 P p).Nodup := by
  unfold came
  refine List.Pairwise.map _ (fun a b hab e => hab ?_) ((List.nodup_range).sublist List.filter_sublist)
  have e' : ((a : Nat) : Int) = (b : Int) := e
  omega
theorem mem_erase {op : List Int} (hn : op.Nodup) {m : Nat} (hm : m < op.length) (x : Int) : x ∈ op.eraseIdx m ↔ x ∈ op ∧ x ≠ op[m]'hm := by
  rw [List.mem_eraseIdx_iff_getElem]
  constructor
  · rintro ⟨i, hi, hne, rfl⟩
    refine ⟨List.getElem_mem hi, fun e => ?_⟩
    rcases Nat.lt_or_gt_of_ne hne with h | h
    · exact List.pairwise_iff_getElem.1 hn i m hi hm h e
    · exact List.pairwise_iff_getElem.1 hn m i hm hi h e.symm
  · rintro ⟨hx, hne⟩
    obtain ⟨i, hi, rfl⟩ := List.getElem_of_mem hx
    exact ⟨i, hi, fun e => hne (by subst e; rfl), rfl⟩
theorem wakeP_val (ns : List S43) (i : Nat) : (wakeP ns i = 1 ∧ isCall ns i = false) ∨ (wakeP ns i = 3 ∧ isCall ns i = true) := by
  unfold wakeP
  cases h : isCall ns i
  · exact .inl ⟨by simp, rfl⟩
  · exact .inr ⟨by simp, rfl⟩
theorem Inv.step {ns : List S43} {D : Nat → List Nat} {good : Nat → Bool} {P T tk : Nat → Int} {op : List Int} (h : Inv ns D good P T tk op) (hf : FlowOk ns D) (i : Nat) (hi : i < ns.length) (m : Nat) (hm : m < op.length) (hmi : op[m]'hm = (i : Int)) (P0 P' T1 : Nat → Int) (p2 : Int)
    (hcase : (P i = 3 ∧ P0 = P ∧ T1 = T ∧ p2 = if good i then 4 else 5) ∨ (P i = 1 ∧ P0 = upd P i 2 ∧ T1 = upd T i (T i + 1) ∧ p2 = if good i then 4 else if T i + 1 < tries ns i then 1 else 5))
    (hM : Mid ns D (upd P i p2) P') (hS : ∀ j, j < ns.length → Still D P' j) :
    Inv ns D good P' T1 (upd tk i (tk i + 1)) (op.eraseIdx m ++ came ns.length P0 P' 1 ++ came ns.length P0 P' 3) := by
  have hdi : ∀ j, j < ns.length → ∀ d ∈ D j, d < j := fun j hj => (hf.deps j hj).2.1
  have hdn : ∀ j, j < ns.length → dn D good ns.length j = (rdy D good ns.length j && good j) := fun j hj => dn_eq D good ns.length j hj (hdi j hj)
  have hact : wakeP ns i = P i ∧ rdy D good ns.length i = true := by
    rcases hcase with ⟨h3, _⟩ | ⟨h1, _⟩
    · have := h.act i hi (.inr h3); exact ⟨this.1.symm, this.2⟩
    · have := h.act i hi (.inl h1); exact ⟨this.1.symm, this.2⟩
  have htr := tries_rng hf i hi
  -- what the phase comes to
  have hp2 : (p2 = 4 ∧ good i = true) ∨ (p2 = 5 ∧ good i = false) ∨ (p2 = 1 ∧ P i = 1 ∧ good i = false ∧ T i + 1 < tries ns i) := by
    rcases hcase with ⟨h3, _, _, hp⟩ | ⟨h1, _, _, hp⟩
    · cases hg : good i
      · rw [hg] at hp; exact .inr (.inl ⟨by simpa using hp, rfl⟩)
      · rw [hg] at hp; exact .inl ⟨by simpa using hp, rfl⟩
    · cases hg : good i
      · rw [hg] at hp
        by_cases ht : T i + 1 < tries ns i
        · exact .inr (.inr ⟨by simpa [ht] using hp, h1, rfl, ht⟩)
        · exact .inr (.inl ⟨by simpa [ht] using hp, rfl⟩)
      · rw [hg] at hp; exact .inl ⟨by simpa using hp, rfl⟩
  have hF1 : OverP p2 → p2 = fate D good ns.length i ∧ tk i + 1 = times ns D good i := by
    intro ho
    unfold fate times
    rw [hdn i hi, hact.2]
    rcases hp2 with ⟨e, hg⟩ | ⟨e, hg⟩ | ⟨e, _⟩
    · rw [hg]
      refine ⟨by simpa using e, ?_⟩
      rcases hcase with ⟨h3, _⟩ | ⟨h1, _⟩
      · have := h.t3 i hi h3; simp [this]
      · have := h.t1 i hi h1
        have h0 : tk i = 0 := Classical.byContradiction fun hne => by have := this.2.2.2 (by omega); rw [hg] at this; cases this
        simp [h0]
    · rw [hg]
      refine ⟨by simpa using e, ?_⟩
      simp
      rcases hcase with ⟨h3, _⟩ | ⟨h1, _, _, hp⟩
      · have h0 := h.t3 i hi h3
        have hc : isCall ns i = true := by
          rcases wakeP_val ns i with h9 | h9
          · have := hact.1; omega
          · exact h9.2
        have := htr.2.2 hc
        omega
      · have h9 := h.t1 i hi h1
        rw [hg] at hp
        by_cases ht : T i + 1 < tries ns i
        · simp [ht] at hp; omega
        · omega
    · rcases ho with h9 | h9 | h9 <;> omega
  have hp20 : p2 ≠ 0 := by omega
  have hP1 : ∀ j, j ≠ i → upd P i p2 j = P j := fun j hj => upd_ne _ _ _ hj
  have hP1i : upd P i p2 i = p2 := upd_same _ _ _
  have hPi : P' i = p2 := by have := (hM i hi).1 (by rw [hP1i]; exact hp20); rw [this, hP1i]
  have hne0 : ∀ j, j < ns.length → j ≠ i → P j ≠ 0 → P' j = P j := fun j hj hji h0 => by have := (hM j hj).1 (by rw [hP1 j hji]; exact h0); rw [this, hP1 j hji]
  have hz : ∀ j, j < ns.length → j ≠ i → P j = 0 → P' j = 0 ∨ (P' j = 6 ∧ Lost D P' j) ∨ (P' j = wakeP ns j ∧ AllDone D P' j) := fun j hj hji h0 => (hM j hj).2 (by rw [hP1 j hji]; exact h0)
  have hover : ∀ j, j < ns.length → OverP (P' j) → P' j = fate D good ns.length j ∧ upd tk i (tk i + 1) j = times ns D good j := by
    intro j
    induction j using Nat.strongRecOn with
    | ind j ih =>
      intro hj ho
      by_cases hji : j = i
      · subst hji
        rw [hPi] at ho ⊢
        rw [upd_same]
        exact hF1 ho
      · rw [upd_ne _ _ _ hji]
        by_cases h0 : P j = 0
        · rcases hz j hj hji h0 with h9 | ⟨h9, d, hd, hl⟩ | ⟨h9, _⟩
          · rw [h9] at ho; rcases ho with h | h | h <;> omega
          · have hdj := hdi j hj d hd
            have hfd := (ih d hdj (by omega) (by rcases hl with hl | hl <;> rw [hl] <;> simp [OverP])).1
            have hdnf : dn D good ns.length d = false := by
              cases hq : dn D good ns.length d
              · rfl
              · unfold fate at hfd; rw [hq] at hfd; simp at hfd; omega
            have hr : rdy D good ns.length j = false := by
              unfold rdy
              rw [List.all_eq_false]
              exact ⟨d, hd, by simp [hdnf]⟩
            have hdj' : dn D good ns.length j = false := by rw [hdn j hj, hr]; rfl
            have ht := (h.t0 j hj h0).2
            unfold fate times
            rw [hdj', hr]
            exact ⟨by simpa using h9, by simpa using ht⟩
          · rcases wakeP_val ns j with ⟨h8, _⟩ | ⟨h8, _⟩ <;> rw [h9, h8] at ho <;> rcases ho with h | h | h <;> omega
        · rw [hne0 j hj hji h0] at ho ⊢
          exact h.over j hj ho
  have hrdyD : ∀ j, j < ns.length → AllDone D P' j → rdy D good ns.length j = true := fun j hj ha => by
    unfold rdy
    rw [List.all_eq_true]
    intro d hd
    have h4 := ha d hd
    have hdj := hdi j hj d hd
    have hfd := (hover d (by omega) (by rw [h4]; simp [OverP])).1
    rw [h4] at hfd
    unfold fate at hfd
    split at hfd
    · rename_i hq; exact hq
    · split at hfd <;> omega
  refine ⟨?_, hover, ?_, hS, ?_, ?_, ?_, ?_, ?_⟩
  · -- ph
    intro j hj
    by_cases hji : j = i
    · subst hji
      rw [hPi]
      rcases hp2 with ⟨e, _⟩ | ⟨e, _⟩ | ⟨e, _⟩
      · exact .inr (.inr (.inr (.inl e)))
      · exact .inr (.inr (.inr (.inr (.inl e))))
      · exact .inr (.inl e)
    · by_cases h0 : P j = 0
      · rcases hz j hj hji h0 with h9 | ⟨h9, _⟩ | ⟨h9, _⟩
        · exact .inl h9
        · exact .inr (.inr (.inr (.inr (.inr h9))))
        · rcases wakeP_val ns j with ⟨h8, _⟩ | ⟨h8, _⟩
          · exact .inr (.inl (h9.trans h8))
          · exact .inr (.inr (.inl (h9.trans h8)))
      · rw [hne0 j hj hji h0]; exact h.ph j hj
  · -- act
    intro j hj hp
    by_cases hji : j = i
    · subst hji
      rw [hPi] at hp ⊢
      rcases hp2 with ⟨e, _⟩ | ⟨e, _⟩ | ⟨e, h1, _⟩
      · omega
      · omega
      · exact ⟨by rw [e, hact.1, h1], hact.2⟩
    · by_cases h0 : P j = 0
      · rcases hz j hj hji h0 with h9 | ⟨h9, _⟩ | ⟨h9, ha⟩
        · omega
        · omega
        · exact ⟨h9, hrdyD j hj ha⟩
      · rw [hne0 j hj hji h0] at hp ⊢; exact h.act j hj hp
  · -- t0
    intro j hj hp
    have hji : j ≠ i := fun e => by subst e; rw [hPi] at hp; exact hp20 hp
    have h0 : P j = 0 := Classical.byContradiction fun hne => by rw [hne0 j hj hji hne] at hp; exact hne hp
    have ht := h.t0 j hj h0
    rw [upd_ne _ _ _ hji]
    refine ⟨?_, ht.2⟩
    rcases hcase with ⟨_, _, hT, _⟩ | ⟨_, _, hT, _⟩
    · rw [hT]; exact ht.1
    · rw [hT, upd_ne _ _ _ hji]; exact ht.1
  · -- t1
    intro j hj hp
    by_cases hji : j = i
    · subst hji
      rw [hPi] at hp
      rcases hp2 with ⟨e, _⟩ | ⟨e, _⟩ | ⟨e, h1, hg, ht⟩
      · omega
      · omega
      · rcases hcase with ⟨h3, _⟩ | ⟨_, _, hT, _⟩
        · omega
        · have h9 := h.t1 j hj h1
          rw [hT, upd_same, upd_same]
          exact ⟨by omega, by omega, by omega, fun _ => hg⟩
    · rw [upd_ne _ _ _ hji]
      have hTj : T1 j = T j := by
        rcases hcase with ⟨_, _, hT, _⟩ | ⟨_, _, hT, _⟩
        · rw [hT]
        · rw [hT, upd_ne _ _ _ hji]
      rw [hTj]
      by_cases h0 : P j = 0
      · have ht := h.t0 j hj h0
        have := tries_rng hf j hj
        exact ⟨by omega, by omega, by omega, fun hgt => by omega⟩
      · rw [hne0 j hj hji h0] at hp; exact h.t1 j hj hp
  · -- t3
    intro j hj hp
    have hji : j ≠ i := fun e => by subst e; rw [hPi] at hp; omega
    rw [upd_ne _ _ _ hji]
    by_cases h0 : P j = 0
    · exact (h.t0 j hj h0).2
    · rw [hne0 j hj hji h0] at hp; exact h.t3 j hj hp
  · -- mem
    intro x
    rw [List.mem_append, List.mem_append, mem_erase h.nd hm, mem_came, mem_came, hmi]
    constructor
    · rintro ((⟨hx, hne⟩ | ⟨j, hj, rfl, _, hp⟩) | ⟨j, hj, rfl, _, hp⟩)
      · obtain ⟨j, hj, rfl, hp⟩ := (h.mem x).1 hx
        have hji : j ≠ i := fun e => hne (by rw [e])
        exact ⟨j, hj, rfl, by rw [hne0 j hj hji (by omega)]; exact hp⟩
      · exact ⟨j, hj, rfl, .inl hp⟩
      · exact ⟨j, hj, rfl, .inr hp⟩
    · rintro ⟨j, hj, rfl, hp⟩
      by_cases hji : j = i
      · subst hji
        rw [hPi] at hp
        rcases hp2 with ⟨e, _⟩ | ⟨e, _⟩ | ⟨e, h1, _⟩
        · omega
        · omega
        · refine .inl (.inr ⟨j, hj, rfl, ?_, by rw [hPi]; exact e⟩)
          rcases hcase with ⟨h3, _⟩ | ⟨_, hP0, _⟩
          · omega
          · rw [hPi, hP0, upd_same, e]; omega
      · have hP0j : P0 j = P j := by
          rcases hcase with ⟨_, hP0, _⟩ | ⟨_, hP0, _⟩
          · rw [hP0]
          · rw [hP0, upd_ne _ _ _ hji]
        by_cases he : P' j = P j
        · exact .inl (.inl ⟨(h.mem _).2 ⟨j, hj, rfl, by rw [← he]; exact hp⟩, fun e => hji (by omega)⟩)
        · rcases hp with hp | hp
          · exact .inl (.inr ⟨j, hj, rfl, by rw [hP0j]; exact he, hp⟩)
          · exact .inr ⟨j, hj, rfl, by rw [hP0j]; exact he, hp⟩
  · -- nodup
    have hsep : ∀ x, x ∈ op.eraseIdx m → ∀ p, x ∉ came ns.length P0 P' p := fun x hx p hc => by
      rw [mem_erase h.nd hm, hmi] at hx
      obtain ⟨j, hj, rfl, hp⟩ := (h.mem x).1 hx.1
      have hji : j ≠ i := fun e => hx.2 (by rw [e])
      obtain ⟨j', hj', e, hne, _⟩ := mem_came.1 hc
      have : j' = j := by omega
      subst this
      have hP0j : P0 j' = P j' := by
        rcases hcase with ⟨_, hP0, _⟩ | ⟨_, hP0, _⟩
        · rw [hP0]
        · rw [hP0, upd_ne _ _ _ hji]
      exact hne (by rw [hP0j]; exact hne0 j' hj hji (by omega))
    rw [List.nodup_append, List.nodup_append]
    refine ⟨⟨h.nd.sublist (List.eraseIdx_sublist _ _), nodup_came _ _ _ _, fun a ha b hb e => hsep a ha 1 (e ▸ hb)⟩, nodup_came _ _ _ _, fun a ha b hb e => ?_⟩
    subst e
    rcases List.mem_append.1 ha with ha | ha
    · exact hsep a ha 3 hb
    · obtain ⟨j, _, e1, _, p1⟩ := mem_came.1 ha
      obtain ⟨j', _, e2, _, p3⟩ := mem_came.1 hb
      have : j = j' := by omega
      subst this
      omega
theorem Inv.init {ns : List S43} {D : Nat → List Nat} (good : Nat → Bool) {P : Nat → Int} (hf : FlowOk ns D) (hM : Mid ns D (fun _ => 0) P) (hS : ∀ j, j < ns.length → Still D P j) :
    Inv ns D good P (fun _ => 0) (fun _ => 0) (came ns.length (fun _ => 0) P 1 ++ came ns.length (fun _ => 0) P 3) := by
  have hdi : ∀ j, j < ns.length → ∀ d ∈ D j, d < j := fun j hj => (hf.deps j hj).2.1
  have hdn : ∀ j, j < ns.length → dn D good ns.length j = (rdy D good ns.length j && good j) := fun j hj => dn_eq D good ns.length j hj (hdi j hj)
  have hz : ∀ j, j < ns.length → P j = 0 ∨ (P j = 6 ∧ Lost D P j) ∨ (P j = wakeP ns j ∧ AllDone D P j) := fun j hj => (hM j hj).2 rfl
  have hover : ∀ j, j < ns.length → OverP (P j) → P j = fate D good ns.length j ∧ (0 : Int) = times ns D good j := by
    intro j
    induction j using Nat.strongRecOn with
    | ind j ih =>
      intro hj ho
      rcases hz j hj with h9 | ⟨h9, d, hd, hl⟩ | ⟨h9, _⟩
      · rw [h9] at ho; rcases ho with h | h | h <;> omega
      · have hdj := hdi j hj d hd
        have hfd := (ih d hdj (by omega) (by rcases hl with hl | hl <;> rw [hl] <;> simp [OverP])).1
        have hdnf : dn D good ns.length d = false := by
          cases hq : dn D good ns.length d
          · rfl
          · unfold fate at hfd; rw [hq] at hfd; simp at hfd; omega
        have hr : rdy D good ns.length j = false := by
          unfold rdy
          rw [List.all_eq_false]
          exact ⟨d, hd, by simp [hdnf]⟩
        have hdj' : dn D good ns.length j = false := by rw [hdn j hj, hr]; rfl
        unfold fate times
        rw [hdj', hr]
        exact ⟨by simpa using h9, by simp⟩
      · rcases wakeP_val ns j with ⟨h8, _⟩ | ⟨h8, _⟩ <;> rw [h9, h8] at ho <;> rcases ho with h | h | h <;> omega
  have hrdyD : ∀ j, j < ns.length → AllDone D P j → rdy D good ns.length j = true := fun j hj ha => by
    unfold rdy
    rw [List.all_eq_true]
    intro d hd
    have h4 := ha d hd
    have hdj := hdi j hj d hd
    have hfd := (hover d (by omega) (by rw [h4]; simp [OverP])).1
    rw [h4] at hfd
    unfold fate at hfd
    split at hfd
    · rename_i hq; exact hq
    · split at hfd <;> omega
  refine ⟨?_, hover, ?_, hS, fun _ _ _ => ⟨rfl, rfl⟩, ?_, fun _ _ _ => rfl, ?_, ?_⟩
  · intro j hj
    rcases hz j hj with h9 | ⟨h9, _⟩ | ⟨h9, _⟩
    · exact .inl h9
    · exact .inr (.inr (.inr (.inr (.inr h9))))
    · rcases wakeP_val ns j with ⟨h8, _⟩ | ⟨h8, _⟩
      · exact .inr (.inl (h9.trans h8))
      · exact .inr (.inr (.inl (h9.trans h8)))
  · intro j hj hp
    rcases hz j hj with h9 | ⟨h9, _⟩ | ⟨h9, ha⟩
    · omega
    · omega
    · exact ⟨h9, hrdyD j hj ha⟩
  · intro j hj hp
    have := tries_rng hf j hj
    exact ⟨rfl, by omega, by omega, fun hgt => by omega⟩
  · intro x
    rw [List.mem_append, mem_came, mem_came]
    constructor
    · rintro (⟨j, hj, rfl, _, hp⟩ | ⟨j, hj, rfl, _, hp⟩)
      · exact ⟨j, hj, rfl, .inl hp⟩
      · exact ⟨j, hj, rfl, .inr hp⟩
    · rintro ⟨j, hj, rfl, hp⟩
      rcases hp with hp | hp
      · exact .inl ⟨j, hj, rfl, by omega, hp⟩
      · exact .inr ⟨j, hj, rfl, by omega, hp⟩
  · rw [List.nodup_append]
    refine ⟨nodup_came _ _ _ _, nodup_came _ _ _ _, fun a ha b hb e => ?_⟩
    subst e
    obtain ⟨j, _, e1, _, p1⟩ := mem_came.1 ha
    obtain ⟨j', _, e2, _, p3⟩ := mem_came.1 hb
    have : j = j' := by omega
    subst this
    omega
/-- The phases that the law wants at the end, and how often each node must be taken. -/
theorem Inv.final {ns : List S43} {D : Nat → List Nat} {good : Nat → Bool} {P T tk : Nat → Int} (h : Inv ns D good P T tk []) (hf : FlowOk ns D) (i : Nat) (hi : i < ns.length) : P i = fate D good ns.length i ∧ tk i = times ns D good i :=
  h.over i hi (h.end_ hf i hi)
theorem Inv.allDone {ns : List S43} {D : Nat → List Nat} {good : Nat → Bool} {P T tk : Nat → Int} (h : Inv ns D good P T tk []) (hf : FlowOk ns D) : allD ns.length P = (List.range ns.length).all (dn D good ns.length) := by
  unfold allD
  rw [Bool.eq_iff_iff, List.all_eq_true, List.all_eq_true]
  constructor
  · intro hx i hi
    have hin := List.mem_range.1 hi
    have h4 := hx i hi
    rw [(h.final hf i hin).1] at h4
    unfold fate at h4
    split at h4
    · rename_i hq; exact hq
    · split at h4 <;> simp at h4
  · intro hx i hi
    have hin := List.mem_range.1 hi
    have h4 := hx i hi
    rw [(h.final hf i hin).1]
    unfold fate
    rw [h4]
    rfl
end Go.Proofs.Ytiipbibbppgbgaa.T
namespace Go.Proofs.Ytiipbibbppgbgaa.T
open Go.RowKit Go.Proofs.Ytiipbibbppgbgaa.PTopFates Go.Proofs.YtiipbibbppgbgaaW.PrintWords Go.Proofs.YtiipbibbppgbgaaW.PrintLast Go.Proofs.YtiipbibbppgbgaaW.PrintMore
set_option linter.unusedVariables false
set_option linter.unusedSimpArgs false

def tkL (n : Nat) (tk : Nat → Int) : List Int := (List.range n).map tk
theorem tkL_len (n : Nat) (tk : Nat → Int) : (tkL n tk).length = n := by simp [tkL]
theorem tkL_set (n : Nat) (tk : Nat → Int) (i : Nat) (v : Int) (hi : i < n) : (tkL n tk).set i v = tkL n (upd tk i v) := by
  apply List.ext_getElem
  · simp [tkL]
  · intro j h1 h2
    rw [List.getElem_set]
    by_cases hj : i = j
    · subst hj; simp [tkL, upd]
    · rw [if_neg hj]; simp [tkL, upd, Ne.symm hj]
theorem tkL_rd (n : Nat) (tk : Nat → Int) (i : Nat) (hi : i < n) (p : Int) (hp : p = (i : Int)) (d : Int) : rdOf d (tkL n tk) p = tk i := by
  subst hp; unfold rdOf tkL; simp [hi]
theorem tkL_zero (n : Nat) : tkL n (fun _ => 0) = List.replicate n 0 := by
  apply List.ext_getElem
  · simp [tkL]
  · intro j h1 h2; simp [tkL]
theorem came_len (n : Nat) (P0 P : Nat → Int) (p : Int) : (came n P0 P p).length ≤ n := by
  unfold came
  rw [List.length_map]
  exact Nat.le_trans (List.length_filter_le _ _) (by simp)
structure Cx where
  W : World
  well : List Bool
  AW : Option Addr
  cW : Nat
  ns : List S43
  A0 : Option Addr
  c0 : Nat
  b7 : Nat
  b8 : Nat
  g11 : Nat
  c11 : Nat
def Cx.ok (C : Cx) (v : Value) (k : Nat) : Prop := k ≠ C.b8 ∧ k ≠ C.g11 ∧ some k ≠ v.ownBlock
structure TS (C : Cx) (w : World) (P T tk : Nat → Int) (op : List Int) (v : Value) : Prop where
  below : Below C.W.heap.size C.W w
  b4 : w.heap[C.W.heap.size]? = some (.cells #[.slice C.AW C.well.length C.cW] 23 (0, 0))
  b7 : w.heap[C.b7]? = some (.cells #[.string (⟨#[102]⟩ : ByteArray), .slice C.A0 C.ns.length C.c0] 27 (0, 0))
  flow : Kd.F k43 w (C.ok v) C.A0 C.ns.length C.ns
  taken : Kd.R (Kd.int .i64) 3 w C.W.heap.size (fun _ => True) (.slice (some ⟨C.g11, 0, none⟩) C.ns.length C.c11) (tkL C.ns.length tk)
  run : ∃ A c B cb vr vc, w.heap[C.b8]? = some (.cells #[.int .i64 1, .int .i64 (-1), .int .i64 0, .string (⟨#[102]⟩ : ByteArray), .slice A C.ns.length c, .slice B C.ns.length cb, vr, vc] 35 (0, 0)) ∧ IsRun w (C.ok v) (C.ok v) C.ns P T A c B cb
  open_ : OpenRow w C.W.heap.size v op
  ap : ∀ k, v.ownBlock = some k → k ≠ C.g11
  hb8 : C.W.heap.size ≤ C.b8
theorem IsRun.step {w w' : World} {okF okS : Nat → Prop} {ns : List S43} {P T : Nat → Int} {A B : Option Addr} {c cb : Nat} (h : IsRun w okF okS ns P T A c B cb) (hF : ∀ k, okF k → k < w.heap.size → w'.heap[k]? = w.heap[k]?) (hS : ∀ k, okS k → k < w.heap.size → w'.heap[k]? = w.heap[k]?) : IsRun w' okF okS ns P T A c B cb :=
  ⟨Kd.F_step h.1 hF, h.2.1, Kd.F_step h.2.2.1 hS, h.2.2.2⟩
theorem IsRun.bound {w : World} {okF okS : Nat → Prop} {ns : List S43} {P T : Nat → Int} {A B : Option Addr} {c cb : Nat} (h : IsRun w okF okS ns P T A c B cb) : IsRun w (fun k => okF k ∧ k < w.heap.size) (fun k => okS k ∧ k < w.heap.size) ns P T A c B cb :=
  ⟨Kd.F_bound h.1, h.2.1, Kd.F_bound h.2.2.1, h.2.2.2⟩
theorem IsRun.mono {w : World} {okF okS okF' okS' : Nat → Prop} {ns : List S43} {P T : Nat → Int} {A B : Option Addr} {c cb : Nat} (h : IsRun w okF okS ns P T A c B cb) (hF : ∀ k, okF k → okF' k) (hS : ∀ k, okS k → okS' k) : IsRun w okF' okS' ns P T A c B cb :=
  ⟨Kd.F_mono h.1 hF, h.2.1, Kd.F_mono h.2.2.1 hS, h.2.2.2⟩
theorem TS.step {C : Cx} {w w' : World} {P T tk : Nat → Int} {op : List Int} {v : Value} (h : TS C w P T tk op v) (hb : Below w.heap.size w w') : TS C w' P T tk op v := by
  obtain ⟨A, c, B, cb, vr, vc, h1, h2⟩ := h.run
  have hk : ∀ k, k < w.heap.size → w'.heap[k]? = w.heap[k]? := fun k hk => hb.block k hk
  exact ⟨below_step h.below hb, blk_below h.b4 hb, blk_below h.b7 hb, Kd.F_below h.flow hb, Kd.R_below h.taken hb, ⟨A, c, B, cb, vr, vc, blk_below h1 hb, h2.step (fun k _ hlt => hk k hlt) (fun k _ hlt => hk k hlt)⟩, h.open_.below hb, h.ap, h.hb8⟩
theorem OpenRow.grown {w w' : World} {bb : Nat} {v : Value} {L : List Int} {b : Nat} (h : OpenRow w bb v L) (hg : w.grownBy w' (some b)) (hne : v.ownBlock ≠ some b) : OpenRow w' bb v L := by
  obtain ⟨A, c, rfl, h2, h3, h4⟩ := h
  refine ⟨A, c, rfl, h2, ?_, ?_⟩
  · refine ⟨h3.1, h3.2.1, fun hp => ?_⟩
    obtain ⟨ad, e, hh⟩ := h3.2.2 hp
    refine ⟨ad, e, fun j p hj => ?_⟩
    obtain ⟨cs, k1, k2, k3⟩ := hh j p hj
    refine ⟨cs, k1, k2, fun i u hu => ?_⟩
    refine hg.cell (k3 i u hu) (fun e2 => hne ?_)
    subst e
    have hadd : ∀ (a : Addr) (j : Nat), (a.add j).block = a.block := fun a j => by unfold Addr.add; split <;> rfl
    rw [hadd] at e2
    exact e2
  · rcases h4 with h4 | ⟨g, o, cells, rfl, h6, h7, h8⟩
    · exact .inl h4
    · exact .inr ⟨g, o, cells, rfl, h6, blk_grown h7 hg (fun e => hne (by rw [← e]; rfl)), h8⟩
theorem TS.typed11 {C : Cx} {w : World} {P T tk : Nat → Int} {op : List Int} {v : Value} (h : TS C w P T tk op v) (h1 : 1 ≤ C.ns.length) : ∃ cells, w.heap[C.g11]? = some (.cells cells 3 (0, 0)) := by
  obtain ⟨g', cap, he, _, _, hc⟩ := Kd.R_form h.taken (by rw [tkL_len]; omega)
  injection he with he
  injection he with he
  injection he with he
  subst he
  exact hc
/-- One node has been taken once more. -/
theorem TS.took {C : Cx} {w w' : World} {P T tk tk' : Nat → Int} {op : List Int} {v : Value} (h : TS C w P T tk op v) (h1 : 1 ≤ C.ns.length) (hg : w.grownBy w' (some C.g11)) (hR : Kd.R (Kd.int .i64) 3 w' C.W.heap.size (fun _ => True) (.slice (some ⟨C.g11, 0, none⟩) C.ns.length C.c11) (tkL C.ns.length tk')) : TS C w' P T tk' op v := by
  obtain ⟨cs, hcs⟩ := h.typed11 h1
  obtain ⟨A, c, B, cb, vr, vc, k1, k2⟩ := h.run
  have hok : ∀ k, C.ok v k → k < w.heap.size → w'.heap[k]? = w.heap[k]? := fun k hk hlt => hg.block k hlt (fun e => hk.2.1 (by injection e))
  have hge : C.W.heap.size ≤ C.g11 := Kd.R_base h.taken C.g11 rfl
  exact ⟨h.below.grown hg h.below.size (fun k e => by injection e with e; omega), blk_grown h.b4 hg (fun e => blk_ne h.b4 hcs (by decide) (by injection e)), blk_grown h.b7 hg (fun e => blk_ne h.b7 hcs (by decide) (by injection e)), Kd.F_step h.flow hok, hR, ⟨A, c, B, cb, vr, vc, blk_grown k1 hg (fun e => blk_ne k1 hcs (by decide) (by injection e)), k2.step hok hok⟩, h.open_.grown hg (fun e => h.ap _ e rfl), h.ap, h.hb8⟩
/-- The run has become another. -/
theorem TS.ran {C : Cx} {w w' : World} {P T tk P' T' : Nat → Int} {op : List Int} {v : Value} {A B : Option Addr} {c cb : Nat} {vr vc : Value} (h : TS C w P T tk op v) (hg : w.grownBy w' (some C.b8))
    (hk : w'.heap[C.b8]? = some (.cells #[.int .i64 1, .int .i64 (-1), .int .i64 0, .string (⟨#[102]⟩ : ByteArray), .slice A C.ns.length c, .slice B C.ns.length cb, vr, vc] 35 (0, 0))) (hr : IsRun w (C.ok v) (C.ok v) C.ns P' T' A c B cb) : TS C w' P' T' tk op v := by
  obtain ⟨A1, c1, B1, cb1, vr1, vc1, k1, k2⟩ := h.run
  have hok : ∀ k, C.ok v k → k < w.heap.size → w'.heap[k]? = w.heap[k]? := fun k hk hlt => hg.block k hlt (fun e => hk.1 (by injection e))
  refine ⟨h.below.grown hg h.below.size (fun k e => by injection e with e; have := h.hb8; omega), blk_grown h.b4 hg (fun e => blk_ne h.b4 k1 (by decide) (by injection e)), blk_grown h.b7 hg (fun e => blk_ne h.b7 k1 (by decide) (by injection e)), Kd.F_step h.flow hok, ?_, ⟨A, c, B, cb, vr, vc, hk, hr.step hok hok⟩, ?_, h.ap, h.hb8⟩
  · exact Kd.R_mono (Kd.R_grown (Kd.R_types h.taken k1 (t := 35) (by rw [show (Kd.int .i64).E = [] from rfl]; simp)) hg (fun k hk e => hk.2 (by injection e))) (fun _ _ => trivial)
  · refine h.open_.grown hg (fun e => ?_)
    obtain ⟨A2, c2, rfl, _, _, h4⟩ := h.open_
    rcases h4 with ⟨rfl, _⟩ | ⟨g, o, cells, rfl, _, h7, _⟩
    · simp [Value.ownBlock] at e
    · simp [Value.ownBlock] at e
      exact blk_ne k1 h7 (by decide) e.symm
/-- The list of what is open has become another. -/
theorem TS.opened {C : Cx} {w w' : World} {P T tk : Nat → Int} {op op' : List Int} {v v' : Value} (h : TS C w P T tk op v) (hg : w.grownBy w' v.ownBlock) (ho : OpenRow w' C.W.heap.size v' op') (hat : v'.ownBlock = v.ownBlock ∨ ∃ b, v'.ownBlock = some b ∧ w.heap.size ≤ b) : TS C w' P T tk op' v' := by
  obtain ⟨A1, c1, B1, cb1, vr1, vc1, k1, k2⟩ := h.run
  have hty : ∀ {g : Nat} {t : TypeId} {cs : Array Value}, w.heap[g]? = some (.cells cs t (0, 0)) → t ≠ 3 → some g ≠ v.ownBlock := fun hb ht e => by
    obtain ⟨A2, c2, rfl, _, _, h4⟩ := h.open_
    rcases h4 with ⟨rfl, _⟩ | ⟨g', o, cells, rfl, _, h7, _⟩
    · simp [Value.ownBlock] at e
    · simp [Value.ownBlock] at e
      exact blk_ne hb h7 ht e
  have hok : ∀ k, C.ok v k → k < w.heap.size → w'.heap[k]? = w.heap[k]? := fun k hk hlt => hg.block k hlt hk.2.2
  have hnew : ∀ k, C.ok v k ∧ k < w.heap.size → C.ok v' k := fun k hk => by
    refine ⟨hk.1.1, hk.1.2.1, fun e => ?_⟩
    rcases hat with hat | ⟨b, hb, hle⟩
    · exact hk.1.2.2 (e.trans hat)
    · rw [hb] at e; injection e with e; have := hk.2; omega
  have hlt11 := Kd.R_lt h.taken C.g11 rfl
  refine ⟨h.below.grown hg h.below.size (fun k e => (h.open_.base k e).1), blk_grown h.b4 hg (hty h.b4 (by decide)), blk_grown h.b7 hg (hty h.b7 (by decide)), Kd.F_mono (Kd.F_step (Kd.F_bound h.flow) (fun k hk hlt => hok k hk.1 hlt)) hnew, ?_, ⟨A1, c1, B1, cb1, vr1, vc1, blk_grown k1 hg (hty k1 (by decide)), (k2.bound.step (fun k hk hlt => hok k hk.1 hlt) (fun k hk hlt => hok k hk.1 hlt)).mono hnew hnew⟩, ho, ?_, h.hb8⟩
  · exact Kd.R_grown2 h.taken rfl hg (fun k e e2 => h.ap k e (by simpa [Value.ownBlock] using e2))
  · intro k e
    rcases hat with hat | ⟨b, hb, hle⟩
    · exact h.ap k (hat ▸ e)
    · rw [hb] at e; injection e with e; omega
end Go.Proofs.Ytiipbibbppgbgaa.T
namespace Go.Proofs.Ytiipbibbppgbgaa.T
open Go.RowKit Go.Proofs.Ytiipbibbppgbgaa.PTopFates Go.Proofs.YtiipbibbppgbgaaW.PrintWords Go.Proofs.YtiipbibbppgbgaaW.PrintLast Go.Proofs.YtiipbibbppgbgaaW.PrintMore
set_option linter.unusedVariables false
set_option linter.unusedSimpArgs false

theorem upd_upd (P : Nat → Int) (i : Nat) (u v : Int) : upd (upd P i u) i v = upd P i v := by
  funext j
  unfold upd
  by_cases h : j = i
  · rw [if_pos h, if_pos h]
  · rw [if_neg h, if_neg h, if_neg h]
/-- A Change lies in the law's variable. -/
def TC (C : Cx) (w : World) (P0 P T tk : Nat → Int) (op : List Int) (v : Value) : Prop :=
  TS C w P T tk op v ∧ ∃ A c B cb AR cR AC cC, w.heap[C.b8]? = some (.cells #[.int .i64 1, .int .i64 (-1), .int .i64 0, .string (⟨#[102]⟩ : ByteArray), .slice A C.ns.length c, .slice B C.ns.length cb, .slice AR (came C.ns.length P0 P 1).length cR, .slice AC (came C.ns.length P0 P 3).length cC] 35 (0, 0)) ∧
    IsList w (C.ok v) AR cR (came C.ns.length P0 P 1) ∧ IsList w (C.ok v) AC cC (came C.ns.length P0 P 3)
theorem TS.new {C : Cx} {w : World} {P T tk : Nat → Int} {op : List Int} {v : Value} (h : TS C w P T tk op v) : ∀ k, w.heap.size ≤ k → C.ok v k := fun k hk => by
  obtain ⟨A, c, B, cb, vr, vc, h1, h2⟩ := h.run
  refine ⟨fun e => ?_, fun e => ?_, fun e => ?_⟩
  · have := blk_lt h1; omega
  · have := Kd.R_lt h.taken C.g11 rfl; omega
  · have := (h.open_.base k e.symm).2; omega
theorem TS.chg {C : Cx} {w w2 w3 : World} {P T tk P0 P' T' : Nat → Int} {op : List Int} {v : Value} {A B AR AC : Option Addr} {c cb cR cC : Nat} (h : TS C w P T tk op v) (hb : Below w.heap.size w w2)
    (hr : IsRun w2 (fun k => C.ok v k ∨ w.heap.size ≤ k) (fun k => w.heap.size ≤ k) C.ns P' T' A c B cb) (hR : IsList w2 (fun k => w.heap.size ≤ k) AR cR (came C.ns.length P0 P' 1)) (hC : IsList w2 (fun k => w.heap.size ≤ k) AC cC (came C.ns.length P0 P' 3))
    (hg : w2.grownBy w3 (some C.b8)) (hk : w3.heap[C.b8]? = some (.cells #[.int .i64 1, .int .i64 (-1), .int .i64 0, .string (⟨#[102]⟩ : ByteArray), .slice A C.ns.length c, .slice B C.ns.length cb, .slice AR (came C.ns.length P0 P' 1).length cR, .slice AC (came C.ns.length P0 P' 3).length cC] 35 (0, 0))) : TC C w3 P0 P' T' tk op v := by
  have hn := h.new
  have hF : ∀ k, C.ok v k ∨ w.heap.size ≤ k → C.ok v k := fun k hk => hk.elim id (hn k)
  have hl : ∀ {A c L}, IsList w2 (fun k => w.heap.size ≤ k) A c L → IsList w3 (C.ok v) A c L := fun hL => ⟨Kd.F_mono (Kd.F_grown hL.1 hg (fun k hk e => (hn k hk).1 (by injection e))) hn, hL.2⟩
  exact ⟨(h.step hb).ran hg hk (hr.mono hF hn), A, c, B, cb, AR, cR, AC, cC, hk, hl hR, hl hC⟩
theorem TC.step {C : Cx} {w w' : World} {P0 P T tk : Nat → Int} {op : List Int} {v : Value} (h : TC C w P0 P T tk op v) (hb : Below w.heap.size w w') : TC C w' P0 P T tk op v := by
  obtain ⟨h1, A, c, B, cb, AR, cR, AC, cC, h2, h3, h4⟩ := h
  exact ⟨h1.step hb, A, c, B, cb, AR, cR, AC, cC, blk_below h2 hb, ⟨Kd.F_below h3.1 hb, h3.2⟩, ⟨Kd.F_below h4.1 hb, h4.2⟩⟩
theorem TS.b8_ne {C : Cx} {w : World} {P T tk : Nat → Int} {op : List Int} {v : Value} (h : TS C w P T tk op v) : some C.b8 ≠ v.ownBlock := fun e => by
  obtain ⟨A, c, B, cb, vr, vc, h2, _⟩ := h.run
  obtain ⟨A2, c2, rfl, _, _, h5⟩ := h.open_
  rcases h5 with ⟨rfl, _⟩ | ⟨g', o, cells, rfl, _, h7, _⟩
  · simp [Value.ownBlock] at e
  · simp [Value.ownBlock] at e
    exact blk_ne h2 h7 (by decide) e
theorem TC.opened {C : Cx} {w w' : World} {P0 P T tk : Nat → Int} {op op' : List Int} {v v' : Value} (h : TC C w P0 P T tk op v) (hg : w.grownBy w' v.ownBlock) (ho : OpenRow w' C.W.heap.size v' op') (hat : v'.ownBlock = v.ownBlock ∨ ∃ b, v'.ownBlock = some b ∧ w.heap.size ≤ b) : TC C w' P0 P T tk op' v' := by
  obtain ⟨h1, A, c, B, cb, AR, cR, AC, cC, h2, h3, h4⟩ := h
  have hty : some C.b8 ≠ v.ownBlock := fun e => by
    obtain ⟨A2, c2, rfl, _, _, h5⟩ := h1.open_
    rcases h5 with ⟨rfl, _⟩ | ⟨g', o, cells, rfl, _, h7, _⟩
    · simp [Value.ownBlock] at e
    · simp [Value.ownBlock] at e
      exact blk_ne h2 h7 (by decide) e
  have hnew : ∀ k, C.ok v k ∧ k < w.heap.size → C.ok v' k := fun k hk => by
    refine ⟨hk.1.1, hk.1.2.1, fun e => ?_⟩
    rcases hat with hat | ⟨b, hb, hle⟩
    · exact hk.1.2.2 (e.trans hat)
    · rw [hb] at e; injection e with e; have := hk.2; omega
  have hl : ∀ {A c L}, IsList w (C.ok v) A c L → IsList w' (C.ok v') A c L := fun hL => ⟨Kd.F_mono (Kd.F_grown (Kd.F_bound hL.1) hg (fun k hk => hk.1.2.2)) hnew, hL.2⟩
  exact ⟨h1.opened hg ho hat, A, c, B, cb, AR, cR, AC, cC, blk_grown h2 hg hty, hl h3, hl h4⟩
/-- The cell of a node's count, and what a store there leaves. -/
theorem TS.cell {C : Cx} {w : World} {P T tk : Nat → Int} {op : List Int} {v : Value} (h : TS C w P T tk op v) (p : Int) (i : Nat) (hp : p = (i : Int)) (hi : i < C.ns.length) : w.cell? ⟨C.g11, p.toNat, none⟩ = some (.int .i64 (tk i)) ∧ w.frozen? ⟨C.g11, p.toNat, none⟩ = false := by
  have := Kd.R_celln (d := (0 : Int)) h.taken p (by omega) (by omega)
  rwa [tkL_rd _ _ i hi p hp] at this
theorem TS.take {C : Cx} {w : World} {P T tk : Nat → Int} {op : List Int} {v : Value} (h : TS C w P T tk op v) (p : Int) (i : Nat) (hp : p = (i : Int)) (hi : i < C.ns.length) : TS C (w.setCell ⟨C.g11, p.toNat, none⟩ (.int .i64 (tk i + 1))) P T (upd tk i (tk i + 1)) op v := by
  obtain ⟨h1, h2⟩ := Kd.R_putg h.taken p (tk i + 1)
  refine h.took (by omega) h2 ?_
  rw [← tkL_set _ _ i _ hi]
  have e : p.toNat = i := by omega
  rw [e] at h1 ⊢
  exact h1
/-- The flow's node at p. -/
theorem TS.node {C : Cx} {w : World} {P T tk : Nat → Int} {op : List Int} {v : Value} (h : TS C w P T tk op v) (p : Int) (i : Nat) (hp : p = (i : Int)) (hi : i < C.ns.length) : ∃ ad A1 c1, C.A0 = some ad ∧
    w.cell? (ad.add (p.toNat * 6)) = some (.string (C.ns.getD i z43).f0) ∧ w.cell? ⟨(ad.add (p.toNat * 6)).block, (ad.add (p.toNat * 6)).off + 1, none⟩ = some (.slice A1 (C.ns.getD i z43).f1.length c1) ∧ w.cell? ⟨(ad.add (p.toNat * 6)).block, (ad.add (p.toNat * 6)).off + 2, none⟩ = some (.int .i64 (C.ns.getD i z43).f2) ∧ w.cell? ⟨(ad.add (p.toNat * 6)).block, (ad.add (p.toNat * 6)).off + 3, none⟩ = some (.int .i64 (C.ns.getD i z43).f3) ∧ w.cell? ⟨(ad.add (p.toNat * 6)).block, (ad.add (p.toNat * 6)).off + 4, none⟩ = some (.int .i64 (C.ns.getD i z43).f4) ∧ w.cell? ⟨(ad.add (p.toNat * 6)).block, (ad.add (p.toNat * 6)).off + 5, none⟩ = some (.string (C.ns.getD i z43).f5) := by
  have h9 := at_T43 (Kd.F_now h.flow) p (by omega) (by omega)
  have e2 : rd_T43 C.ns p = C.ns.getD i z43 := by unfold rd_T43; rw [show p.toNat = i by omega]
  rw [e2] at h9
  obtain ⟨ad, A1, c1, e, k0, k1, k2, k3, k4, k5, _⟩ := h9
  exact ⟨ad, A1, c1, e, k0, k1, k2, k3, k4, k5⟩
theorem cut_tail (A : Option Addr) (n c : Nat) (j : Int) (h0 : 0 ≤ j) (hn : j ≤ n) :
    ∀ W : World, (Instr.slice 24 (.slice A n c) (some (.int .i64 j)) none none).run Try.prog W = .ok (.slice (if c = j.toNat then A else A.map fun x => x.add j.toNat) (n - j.toNat) (c - j.toNat)) W := by
  intro W
  obtain ⟨i, hi, hs⟩ := info3_at
  have hel : Try.prog.elem 24 = 3 := by simp [Program.elem, Try.underlying24]
  have hu : Try.prog.underlying 24 = some (.slice (Try.prog.elem 24)) := by rw [hel]; exact Try.underlying24
  rw [run_slice_l W 24 A n c hu .i64 j h0 hn, hel]
  by_cases h : c = j.toNat <;> cases A <;> simp [sizeOf, typeInfo, hi, sliced, Result.andThen, hs, h]
theorem OpenRow.append' {w : World} {bb : Nat} {v : Value} {L X : List Int} {AX : Option Addr} (cX n : Nat) (ty : TypeId) (hn : n = X.length) (h : OpenRow w bb v L) (hX : Kd.C (Kd.int .i64) w AX X.length X) (hl : L.length ≤ 100) (hx : X.length ≤ 100) (hbb : bb ≤ w.heap.size) :
    ∃ v' w', (Builtin.append_ #[24, 24] ty #[v, .slice AX n cX]).run Try.prog w = .ok v' w' ∧ OpenRow w' bb v' (L ++ X) ∧ w.grownBy w' v.ownBlock ∧ (v'.ownBlock = v.ownBlock ∨ ∃ b, v'.ownBlock = some b ∧ w.heap.size ≤ b) := by
  subst hn
  exact OpenRow.append cX ty h hX hl hx hbb
/-- What stands behind the element at q. -/
theorem open_tail {w : World} {A : Option Addr} {c : Nat} {op : List Int} (hC : Kd.C (Kd.int .i64) w A op.length op) (hc : op.length ≤ c) (k : Nat) (hk : k ≤ op.length) : Kd.C (Kd.int .i64) w (if c = k then A else A.map (fun x => x.add k)) (op.drop k).length (op.drop k) := by
  have := Kd.C_drop hC hk hc
  rwa [show k * (Kd.int .i64).sz = k from Nat.mul_one k] at this
theorem open_cut (op : List Int) (q : Int) (m : Nat) (hq : q = (m : Int)) : op.take q.toNat ++ op.drop (q + 1).toNat = op.eraseIdx m := by
  rw [List.eraseIdx_eq_take_drop_succ]
  rw [show q.toNat = m by omega, show (q + 1).toNat = m + 1 by omega]
/-- The element at q. -/
theorem open_at {w : World} {A : Option Addr} {op : List Int} (hC : Kd.C (Kd.int .i64) w A op.length op) (q : Int) (m : Nat) (hq : q = (m : Int)) (hm : m < op.length) : ∃ ad, A = some ad ∧ w.cell? (ad.add q.toNat) = some (.int .i64 (op[m]'hm)) := by
  obtain ⟨ad, e, h⟩ := Kd.at_int hC q (by omega) (by omega)
  refine ⟨ad, e, ?_⟩
  rw [h]
  unfold rd
  rw [show q.toNat = m by omega]
  simp [hm]
/-- The nodes that the law's second walk has come by. -/
def dnL (D : Nat → List Nat) (good : Nat → Bool) (n i : Nat) : List Bool := (List.range n).map fun j => decide (j < i) && dn D good n j
theorem dnL_len (D : Nat → List Nat) (good : Nat → Bool) (n i : Nat) : (dnL D good n i).length = n := by simp [dnL]
theorem dnL_zero (D : Nat → List Nat) (good : Nat → Bool) (n : Nat) : dnL D good n 0 = List.replicate n false := by
  apply List.ext_getElem
  · simp [dnL]
  · intro j h1 h2; simp [dnL]
theorem dnL_set (D : Nat → List Nat) (good : Nat → Bool) (n i : Nat) (hi : i < n) : (dnL D good n i).set i (dn D good n i) = dnL D good n (i + 1) := by
  apply List.ext_getElem
  · simp [dnL]
  · intro j h1 h2
    rw [List.getElem_set]
    by_cases hj : i = j
    · subst hj; simp [dnL]
    · rw [if_neg hj]
      have : (decide (j < i) : Bool) = decide (j < i + 1) := by
        rw [Bool.eq_iff_iff]; simp; omega
      simp [dnL, this]
theorem dnL_rd (D : Nat → List Nat) (good : Nat → Bool) (n i j : Nat) (hj : j < n) (p : Int) (hp : p = (j : Int)) : rdOf false (dnL D good n i) p = (decide (j < i) && dn D good n j) := by
  subst hp; unfold rdOf dnL; simp [hj]
theorem dn_cell {w : World} {base g c n : Nat} {D : Nat → List Nat} {good : Nat → Bool} {j : Nat} (h : Kd.R Kd.bool 4 w base (fun _ => True) (.slice (some ⟨g, 0, none⟩) n c) (dnL D good n j)) (p : Int) (i : Nat) (hp : p = (i : Int)) (hi : i < n) : w.cell? ⟨g, p.toNat, none⟩ = some (.bool (decide (i < j) && dn D good n i)) ∧ w.frozen? ⟨g, p.toNat, none⟩ = false := by
  have := Kd.R_celln (d := false) h p (by omega) (by omega)
  rwa [dnL_rd _ _ _ _ i hi p hp] at this
theorem dn_store {w : World} {base g c n : Nat} {D : Nat → List Nat} {good : Nat → Bool} {i : Nat} (h : Kd.R Kd.bool 4 w base (fun _ => True) (.slice (some ⟨g, 0, none⟩) n c) (dnL D good n i)) (p : Int) (hp : p = (i : Int)) (hi : i < n) (d : Bool) (hd : d = dn D good n i) :
    Kd.R Kd.bool 4 (w.setCell ⟨g, p.toNat, none⟩ (.bool d)) base (fun _ => True) (.slice (some ⟨g, 0, none⟩) n c) (dnL D good n (i + 1)) ∧ w.grownBy (w.setCell ⟨g, p.toNat, none⟩ (.bool d)) (some g) := by
  obtain ⟨h1, h2⟩ := Kd.R_putg h p d
  refine ⟨?_, h2⟩
  rw [← dnL_set _ _ _ i hi, ← hd]
  have e : p.toNat = i := by omega
  rw [e] at h1 ⊢
  exact h1
theorem all_succ (f : Nat → Bool) (i : Nat) : (List.range (i + 1)).all f = ((List.range i).all f && f i) := by simp [List.range_succ, List.all_append]
/-- Is the node ready as far as the walk has come? -/
def rdK (m : Int) (f : Nat → Bool) (k : Nat) : Bool := (depsTo m k).all f
theorem rdK_succ (m : Int) (f : Nat → Bool) (k : Nat) : rdK m f (k + 1) = (rdK m f k && (!depB m k || f k)) := by
  unfold rdK depsTo
  rw [List.range_succ, List.filter_append, List.all_append]
  congr 1
  cases h : depB m k <;> simp [h]
theorem info4 : (Try.prog.info? 4).map (fun i => (i.zero, i.size, i.bytes)) = some (some (.bool false), 1, 1) := by kernel_rfl
theorem TS.nodeL {C : Cx} {w : World} {P T tk : Nat → Int} {op : List Int} {v : Value} (h : TS C w P T tk op v) (p : Int) (i : Nat) (hp : p = (i : Int)) (hi : i < C.ns.length) : ∃ (ad : Addr) (A1 : Option Addr) (c1 : Nat) (n0 : ByteArray) (n1 : Nat) (n2 n3 n4 : Int) (n5 : ByteArray), C.A0 = some ad ∧ n2 = tries C.ns i ∧
    w.cell? (ad.add (p.toNat * 6)) = some (.string n0) ∧ w.cell? ⟨(ad.add (p.toNat * 6)).block, (ad.add (p.toNat * 6)).off + 1, none⟩ = some (.slice A1 n1 c1) ∧ w.cell? ⟨(ad.add (p.toNat * 6)).block, (ad.add (p.toNat * 6)).off + 2, none⟩ = some (.int .i64 n2) ∧ w.cell? ⟨(ad.add (p.toNat * 6)).block, (ad.add (p.toNat * 6)).off + 3, none⟩ = some (.int .i64 n3) ∧ w.cell? ⟨(ad.add (p.toNat * 6)).block, (ad.add (p.toNat * 6)).off + 4, none⟩ = some (.int .i64 n4) ∧ w.cell? ⟨(ad.add (p.toNat * 6)).block, (ad.add (p.toNat * 6)).off + 5, none⟩ = some (.string n5) := by
  obtain ⟨ad, A1, c1, e, k0, k1, k2, k3, k4, k5⟩ := h.node p i hp hi
  exact ⟨ad, A1, c1, _, _, _, _, _, _, e, rfl, k0, k1, k2, k3, k4, k5⟩
theorem TS.phase {C : Cx} {w : World} {P T tk : Nat → Int} {op : List Int} {v : Value} (h : TS C w P T tk op v) (p : Int) (i : Nat) (hp : p = (i : Int)) (hi : i < C.ns.length) : ∃ B cb, w.cell? ⟨C.b8, 5, none⟩ = some (.slice (some B) C.ns.length cb) ∧ w.cell? (B.add (p.toNat * 4)) = some (.int .i64 (P i)) := by
  obtain ⟨A, c, B, cb, vr, vc, h1, h2⟩ := h.run
  have h9 := at_T53 (Kd.F_now h2.2.2.1) p (by omega) (by omega)
  have e2 : rd_T53 (stL C.ns P T) p = mkS (P i) (T i) (C.ns.getD i z43).f3 := by unfold rd_T53; rw [show p.toNat = i by omega]; exact stL_get C.ns P T i hi
  rw [e2] at h9
  obtain ⟨ad, e, k0, _⟩ := h9
  subst e
  exact ⟨ad, cb, (blk_cell h1 5).trans rfl, k0⟩
theorem nodup_len : ∀ (n : Nat) (l : List Int), l.Nodup → (∀ x ∈ l, 0 ≤ x ∧ x < (n : Int)) → l.length ≤ n := by
  intro n
  induction n with
  | zero =>
    intro l _ hl
    cases l with
    | nil => simp
    | cons x l => have := hl x (by simp); omega
  | succ n ih =>
    intro l hn hl
    by_cases hm : (n : Int) ∈ l
    · have h1 := ih (l.erase (n : Int)) (hn.erase _) (fun x hx => by
        have h2 := (List.Nodup.mem_erase_iff hn).1 hx
        have h3 := hl x h2.2
        have := h2.1
        omega)
      rw [List.length_erase_of_mem hm] at h1
      omega
    · have := ih l hn (fun x hx => by
        have h3 := hl x hx
        have : x ≠ (n : Int) := fun e => hm (e ▸ hx)
        omega)
      omega
theorem Inv.op_len {ns : List S43} {D : Nat → List Nat} {good : Nat → Bool} {P T tk : Nat → Int} {op : List Int} (h : Inv ns D good P T tk op) : op.length ≤ ns.length :=
  nodup_len _ _ h.nd (fun x hx => by obtain ⟨i, hi, e, _⟩ := (h.mem x).1 hx; omega)
end Go.Proofs.Ytiipbibbppgbgaa.T
