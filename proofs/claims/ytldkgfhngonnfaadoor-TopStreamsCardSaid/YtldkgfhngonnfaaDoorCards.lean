/-
  DERIVED. GIVEN WITH THE SEED: THE CARDS: each row of YtldkgfhngonnfaaDoorRows.lean that lists a variable, with what it lists TIED to the program's text (the seventh form; the later family's looks); each row that meets fmt, with fmt's text TOLD by the authors' own Lean function (tested against real Go, not proved from fmt's source: count such statements apart). THE CARD IS WHAT COUNTS. Prove the row's statement (the work); the ties are given (YtldkgfhngonnfaaDoorTie.lean); close each card by the builder's one call (the guide's Derived/Test/ToyasCard.lean, 'card_holds'). Laid BY PROGRAM, IN A SANDBOX (cutbox-door.mjs). By AI agents, Wed Nov 11 2026. No macro, syntax, notation, axiom, sorry.
-/
import Derived.Test.YtldkgfhngonnfaaDoorRows
import GoSem.ClaimSeven
namespace Go.Proofs.YtldkgfhngonnfaaDoor
namespace Rows

/-- THE TIED CARD OF 'precincttop.TopStreams'. -/
def topStreamsCard : Claim7 := { stood := { row := topStreamsRow, standIns := [], harness := (true, "8636a5d3d900c353af3eda7e14f8a32e9ca87f874904ad6cb7e3d8c39b747680"), looks := false }, kinds := [], alts := [], laidByText := true, laidKinds := [.data, .pinned], laidTests := true, laidLooks := .later }
def TopStreamsCardSaid : Prop := Claim7.holds Tryd.pinned (.plain (OpenSpec.ofChange topStreamsSpec)) topStreamsCard

/-- THE SECOND FORM's CARD OF 'precincttop.TopStreams'. -/
def topStreamsUptoCard : Claim7 := { stood := { row := topStreamsUptoRow, standIns := [], harness := (true, "8636a5d3d900c353af3eda7e14f8a32e9ca87f874904ad6cb7e3d8c39b747680"), looks := false }, kinds := [], alts := [], laidByText := true, laidKinds := [.data, .pinned], laidTests := true, laidLooks := .later }
def TopStreamsUptoCardSaid : Prop := Claim7.holds Tryd.pinned (.plain (OpenSpec.upto topStreamsSpec)) topStreamsUptoCard
end Rows
end Go.Proofs.YtldkgfhngonnfaaDoor
