/-
  No cell of these rows narrows 'for every input' (looked for: loops, veiled, ifaces, maps, wideKeys, modest, calm, conditions, laid).
  DERIVED. THE GIVEN ROWS OF THIS SEAT. 5 by the template 'for every input the law returns true; each argument reads behind the call as it read before'; 0 by the template 'total and deterministic' (their statements: YteffgoaadoeinaaTotals.lean).
  GIVEN WITH THE SEED: the statements are not yours to turn. If you find one false, say at which input.
  Laid BY PROGRAM, IN A SANDBOX (cutbox-rows.mjs): the forced cells as the released guide's own fill.sh prints them over the translation cc67e802dac3d910… (all of the seat's roots in one cut). By AI agents, Wed Nov 11 2026. No macro, syntax, notation, axiom, sorry.
-/
import Derived.Test.YteffgoaadoeinaaChecked
import GoSem.Claim
import GoSem.ClaimJoined
import GoSem.ClaimMapViews
import Derived.JoinedTies
import Derived.KernelRfl
namespace Go.Proofs.Yteffgoaadoeinaa
/- THE CELL 'sum', in the pinned program and in every row, IS THE sha256 OF THE DUMP (.gsa) THAT YteffgoaadoeinaaProg.lean LOADS. Nothing in Lean hashes anything: it is a label: what it is worth is what the hold of that sum in a sandbox is worth. -/
noncomputable def Try.pinned : Pinned := { name := "yteffgoaadoeinaa", sum := "cc67e802dac3d9105cf7c06a258aa49ae54af3573f1980d1c09561728b4033a4", checked := Try.checked }
namespace Rows
def none {H : Type} : Left H := { results := [], args := [] }

/-- 'precinctlaw17.SlotBounds': WHATEVER THE INPUT: true; the input reads as it did. -/
def slotBoundsSpec : ChangeSpec := { name := "slotBounds", fn := fun _ => fun
  | [d1, d2, d3] => { results := [.lit (.bool true)], args := [d1, d2, d3] }
  | _ => none }
def slotBoundsRow : OpenClaim := { program := "yteffgoaadoeinaa", sum := "cc67e802dac3d9105cf7c06a258aa49ae54af3573f1980d1c09561728b4033a4", func := "precinct/precinctlaw17.SlotBounds", spec := "slotBounds", apart := false }
def SlotBoundsSaid : Prop := slotBoundsRow.holds Try.pinned (OpenSpec.ofChange slotBoundsSpec)

/-- ITS FALSE NEIGHBOUR: 'it returns false'. Refute it at one input. -/
def slotBoundsWrong : ChangeSpec := { name := "slotBounds", fn := fun _ => fun
  | [d1, d2, d3] => { results := [.lit (.bool false)], args := [d1, d2, d3] }
  | _ => none }
def SlotBoundsWrongFalsely : Prop := slotBoundsRow.holds Try.pinned (OpenSpec.ofChange slotBoundsWrong)

/-- 'precinctlaw17.SlotRounds': WHATEVER THE INPUT: true; the input reads as it did. -/
def slotRoundsSpec : ChangeSpec := { name := "slotRounds", fn := fun _ => fun
  | [d1, d2, d3] => { results := [.lit (.bool true)], args := [d1, d2, d3] }
  | _ => none }
def slotRoundsRow : OpenClaim := { program := "yteffgoaadoeinaa", sum := "cc67e802dac3d9105cf7c06a258aa49ae54af3573f1980d1c09561728b4033a4", func := "precinct/precinctlaw17.SlotRounds", spec := "slotRounds", apart := false }
def SlotRoundsSaid : Prop := slotRoundsRow.holds Try.pinned (OpenSpec.ofChange slotRoundsSpec)

/-- ITS FALSE NEIGHBOUR: 'it returns false'. Refute it at one input. -/
def slotRoundsWrong : ChangeSpec := { name := "slotRounds", fn := fun _ => fun
  | [d1, d2, d3] => { results := [.lit (.bool false)], args := [d1, d2, d3] }
  | _ => none }
def SlotRoundsWrongFalsely : Prop := slotRoundsRow.holds Try.pinned (OpenSpec.ofChange slotRoundsWrong)

/-- 'precinctlaw17.SlotBudgets': WHATEVER THE INPUT: true; the input reads as it did. -/
def slotBudgetsSpec : ChangeSpec := { name := "slotBudgets", fn := fun _ => fun
  | [d1, d2] => { results := [.lit (.bool true)], args := [d1, d2] }
  | _ => none }
def slotBudgetsRow : OpenClaim := { program := "yteffgoaadoeinaa", sum := "cc67e802dac3d9105cf7c06a258aa49ae54af3573f1980d1c09561728b4033a4", func := "precinct/precinctlaw17.SlotBudgets", spec := "slotBudgets", apart := false }
def SlotBudgetsSaid : Prop := slotBudgetsRow.holds Try.pinned (OpenSpec.ofChange slotBudgetsSpec)

/-- ITS FALSE NEIGHBOUR: 'it returns false'. Refute it at one input. -/
def slotBudgetsWrong : ChangeSpec := { name := "slotBudgets", fn := fun _ => fun
  | [d1, d2] => { results := [.lit (.bool false)], args := [d1, d2] }
  | _ => none }
def SlotBudgetsWrongFalsely : Prop := slotBudgetsRow.holds Try.pinned (OpenSpec.ofChange slotBudgetsWrong)

/-- 'precinctlaw17.SlotOwners': WHATEVER THE INPUT: true; the input reads as it did. -/
def slotOwnersSpec : ChangeSpec := { name := "slotOwners", fn := fun _ => fun
  | [d1, d2, d3] => { results := [.lit (.bool true)], args := [d1, d2, d3] }
  | _ => none }
def slotOwnersRow : OpenClaim := { program := "yteffgoaadoeinaa", sum := "cc67e802dac3d9105cf7c06a258aa49ae54af3573f1980d1c09561728b4033a4", func := "precinct/precinctlaw17.SlotOwners", spec := "slotOwners", apart := false }
def SlotOwnersSaid : Prop := slotOwnersRow.holds Try.pinned (OpenSpec.ofChange slotOwnersSpec)

/-- ITS FALSE NEIGHBOUR: 'it returns false'. Refute it at one input. -/
def slotOwnersWrong : ChangeSpec := { name := "slotOwners", fn := fun _ => fun
  | [d1, d2, d3] => { results := [.lit (.bool false)], args := [d1, d2, d3] }
  | _ => none }
def SlotOwnersWrongFalsely : Prop := slotOwnersRow.holds Try.pinned (OpenSpec.ofChange slotOwnersWrong)

/-- 'precinctlaw17.SlotServed': WHATEVER THE INPUT: true; the input reads as it did. -/
def slotServedSpec : ChangeSpec := { name := "slotServed", fn := fun _ => fun
  | [d1, d2, d3] => { results := [.lit (.bool true)], args := [d1, d2, d3] }
  | _ => none }
def slotServedRow : OpenClaim := { program := "yteffgoaadoeinaa", sum := "cc67e802dac3d9105cf7c06a258aa49ae54af3573f1980d1c09561728b4033a4", func := "precinct/precinctlaw17.SlotServed", spec := "slotServed", apart := false }
def SlotServedSaid : Prop := slotServedRow.holds Try.pinned (OpenSpec.ofChange slotServedSpec)

/-- ITS FALSE NEIGHBOUR: 'it returns false'. Refute it at one input. -/
def slotServedWrong : ChangeSpec := { name := "slotServed", fn := fun _ => fun
  | [d1, d2, d3] => { results := [.lit (.bool false)], args := [d1, d2, d3] }
  | _ => none }
def SlotServedWrongFalsely : Prop := slotServedRow.holds Try.pinned (OpenSpec.ofChange slotServedWrong)

/- THE SECOND FORM. 'bulk': how many values and letters a reading holds, each counted each time it is reached (what is shared counts as often as it is met; a slice's spare places count too). A statement '..UptoSaid' is the law's where the arguments, and the package variables that the reading takes, are together of bulk at most 1048576: NARROWER than '..Said'. Prove '..Said' where nothing that the law and all that it calls make is longer than what came in: it says more and counts as full. Else prove '..UptoSaid'. A law counts once. -/
mutual
def uptoBulk {H : Type} : DataW H → Nat
  | .lit (.string bytes) => bytes.length + 1
  | .lit _ => 1
  | .nil => 1
  | .ptr d => uptoBulk d + 1
  | .slice elems spare => uptoBulkAll elems + uptoBulkAll spare + 1
  | .agg parts => uptoBulkAll parts + 1
  | .iface _ d => uptoBulk d + 1
  | .map entries => uptoBulkEntries entries + 1
  | .held _ => 1
def uptoBulkAll {H : Type} : List (DataW H) → Nat
  | [] => 0
  | d :: r => uptoBulk d + uptoBulkAll r
def uptoBulkEntries {H : Type} : List (Lit × DataW H) → Nat
  | [] => 0
  | x :: r => uptoBulkEntry x + uptoBulkEntries r
def uptoBulkEntry {H : Type} : Lit × DataW H → Nat
  | (.string bytes, d) => bytes.length + uptoBulk d + 1
  | (_, d) => uptoBulk d + 1
 end
def uptoSmall : (H : Type) → List (DataW H) → Bool := fun _ ds => decide (uptoBulkAll ds ≤ 1048576)
def OpenSpec.upto (s : _root_.Go.ChangeSpec) : _root_.Go.OpenSpec := { _root_.Go.OpenSpec.ofChange s with cond := some uptoSmall }

/-- 'precinctlaw17.SlotBounds', WHERE WHAT IT READS IS OF BULK AT MOST 1048576: true; the input reads as it did. -/
def slotBoundsUptoRow : OpenClaim := { program := "yteffgoaadoeinaa", sum := "cc67e802dac3d9105cf7c06a258aa49ae54af3573f1980d1c09561728b4033a4", func := "precinct/precinctlaw17.SlotBounds", spec := "slotBounds", apart := false, narrowed := true }
def SlotBoundsUptoSaid : Prop := slotBoundsUptoRow.holds Try.pinned (OpenSpec.upto slotBoundsSpec)

/-- 'precinctlaw17.SlotRounds', WHERE WHAT IT READS IS OF BULK AT MOST 1048576: true; the input reads as it did. -/
def slotRoundsUptoRow : OpenClaim := { program := "yteffgoaadoeinaa", sum := "cc67e802dac3d9105cf7c06a258aa49ae54af3573f1980d1c09561728b4033a4", func := "precinct/precinctlaw17.SlotRounds", spec := "slotRounds", apart := false, narrowed := true }
def SlotRoundsUptoSaid : Prop := slotRoundsUptoRow.holds Try.pinned (OpenSpec.upto slotRoundsSpec)

/-- 'precinctlaw17.SlotBudgets', WHERE WHAT IT READS IS OF BULK AT MOST 1048576: true; the input reads as it did. -/
def slotBudgetsUptoRow : OpenClaim := { program := "yteffgoaadoeinaa", sum := "cc67e802dac3d9105cf7c06a258aa49ae54af3573f1980d1c09561728b4033a4", func := "precinct/precinctlaw17.SlotBudgets", spec := "slotBudgets", apart := false, narrowed := true }
def SlotBudgetsUptoSaid : Prop := slotBudgetsUptoRow.holds Try.pinned (OpenSpec.upto slotBudgetsSpec)

/-- 'precinctlaw17.SlotOwners', WHERE WHAT IT READS IS OF BULK AT MOST 1048576: true; the input reads as it did. -/
def slotOwnersUptoRow : OpenClaim := { program := "yteffgoaadoeinaa", sum := "cc67e802dac3d9105cf7c06a258aa49ae54af3573f1980d1c09561728b4033a4", func := "precinct/precinctlaw17.SlotOwners", spec := "slotOwners", apart := false, narrowed := true }
def SlotOwnersUptoSaid : Prop := slotOwnersUptoRow.holds Try.pinned (OpenSpec.upto slotOwnersSpec)

/-- 'precinctlaw17.SlotServed', WHERE WHAT IT READS IS OF BULK AT MOST 1048576: true; the input reads as it did. -/
def slotServedUptoRow : OpenClaim := { program := "yteffgoaadoeinaa", sum := "cc67e802dac3d9105cf7c06a258aa49ae54af3573f1980d1c09561728b4033a4", func := "precinct/precinctlaw17.SlotServed", spec := "slotServed", apart := false, narrowed := true }
def SlotServedUptoSaid : Prop := slotServedUptoRow.holds Try.pinned (OpenSpec.upto slotServedSpec)

end Rows
end Go.Proofs.Yteffgoaadoeinaa
