/-
  DERIVED. GIVEN WITH THE SEED: THE CARDS: each row of YtfkljcnkghakaaaDoorRows.lean that lists a variable, with what it lists TIED to the program's text (the seventh form; the later family's looks); each row that meets fmt, with fmt's text TOLD by the authors' own Lean function (tested against real Go, not proved from fmt's source: count such statements apart). THE CARD IS WHAT COUNTS. Prove the row's statement (the work); the ties are given (YtfkljcnkghakaaaDoorTie.lean); close each card by the builder's one call (the guide's Derived/Test/ToyasCard.lean, 'card_holds'). Laid BY PROGRAM, IN A SANDBOX (cutbox-door.mjs). By AI agents, Wed Nov 11 2026. No macro, syntax, notation, axiom, sorry.
-/
import Derived.Test.YtfkljcnkghakaaaDoorRows
import GoSem.ClaimSeven
namespace Go.Proofs.YtfkljcnkghakaaaDoor
namespace Rows

/-- THE TIED CARD OF 'precinctlaw13.ReadyOrders'. -/
def readyOrdersCard : Claim7 := { stood := { row := readyOrdersRow, standIns := [], harness := (true, "6e958e2f4705552c830bcf25b30a49065cbf4597c229db9ca52bd63f230be617"), looks := false }, kinds := [], alts := [], laidByText := true, laidKinds := [.data], laidTests := true, laidLooks := .later }
def ReadyOrdersCardSaid : Prop := Claim7.holds Tryd.pinned (.plain (OpenSpec.ofChange readyOrdersSpec)) readyOrdersCard

/-- THE TIED CARD OF 'precinctlaw13.ReadyReady'. -/
def readyReadyCard : Claim7 := { stood := { row := readyReadyRow, standIns := [], harness := (true, "6e958e2f4705552c830bcf25b30a49065cbf4597c229db9ca52bd63f230be617"), looks := false }, kinds := [], alts := [], laidByText := true, laidKinds := [.data], laidTests := true, laidLooks := .later }
def ReadyReadyCardSaid : Prop := Claim7.holds Tryd.pinned (.plain (OpenSpec.ofChange readyReadySpec)) readyReadyCard

/-- THE TIED CARD OF 'precinctlaw13.ReadyBehind'. -/
def readyBehindCard : Claim7 := { stood := { row := readyBehindRow, standIns := [], harness := (true, "6e958e2f4705552c830bcf25b30a49065cbf4597c229db9ca52bd63f230be617"), looks := false }, kinds := [], alts := [], laidByText := true, laidKinds := [.data], laidTests := true, laidLooks := .later }
def ReadyBehindCardSaid : Prop := Claim7.holds Tryd.pinned (.plain (OpenSpec.ofChange readyBehindSpec)) readyBehindCard

/-- THE TIED CARD OF 'precinctlaw13.ReadyWhole'. -/
def readyWholeCard : Claim7 := { stood := { row := readyWholeRow, standIns := [], harness := (true, "6e958e2f4705552c830bcf25b30a49065cbf4597c229db9ca52bd63f230be617"), looks := false }, kinds := [], alts := [], laidByText := true, laidKinds := [.data], laidTests := true, laidLooks := .later }
def ReadyWholeCardSaid : Prop := Claim7.holds Tryd.pinned (.plain (OpenSpec.ofChange readyWholeSpec)) readyWholeCard

/-- THE TIED CARD OF 'precinctlaw13.ReadyDeep'. -/
def readyDeepCard : Claim7 := { stood := { row := readyDeepRow, standIns := [], harness := (true, "6e958e2f4705552c830bcf25b30a49065cbf4597c229db9ca52bd63f230be617"), looks := false }, kinds := [], alts := [], laidByText := true, laidKinds := [.data], laidTests := true, laidLooks := .later }
def ReadyDeepCardSaid : Prop := Claim7.holds Tryd.pinned (.plain (OpenSpec.ofChange readyDeepSpec)) readyDeepCard

/-- THE TIED CARD OF 'precinctlaw13.ReadyMore'. -/
def readyMoreCard : Claim7 := { stood := { row := readyMoreRow, standIns := [], harness := (true, "6e958e2f4705552c830bcf25b30a49065cbf4597c229db9ca52bd63f230be617"), looks := false }, kinds := [], alts := [], laidByText := true, laidKinds := [.data], laidTests := true, laidLooks := .later }
def ReadyMoreCardSaid : Prop := Claim7.holds Tryd.pinned (.plain (OpenSpec.ofChange readyMoreSpec)) readyMoreCard

/-- THE SECOND FORM's CARD OF 'precinctlaw13.ReadyOrders'. -/
def readyOrdersUptoCard : Claim7 := { stood := { row := readyOrdersUptoRow, standIns := [], harness := (true, "6e958e2f4705552c830bcf25b30a49065cbf4597c229db9ca52bd63f230be617"), looks := false }, kinds := [], alts := [], laidByText := true, laidKinds := [.data], laidTests := true, laidLooks := .later }
def ReadyOrdersUptoCardSaid : Prop := Claim7.holds Tryd.pinned (.plain (OpenSpec.upto readyOrdersSpec)) readyOrdersUptoCard

/-- THE SECOND FORM's CARD OF 'precinctlaw13.ReadyReady'. -/
def readyReadyUptoCard : Claim7 := { stood := { row := readyReadyUptoRow, standIns := [], harness := (true, "6e958e2f4705552c830bcf25b30a49065cbf4597c229db9ca52bd63f230be617"), looks := false }, kinds := [], alts := [], laidByText := true, laidKinds := [.data], laidTests := true, laidLooks := .later }
def ReadyReadyUptoCardSaid : Prop := Claim7.holds Tryd.pinned (.plain (OpenSpec.upto readyReadySpec)) readyReadyUptoCard

/-- THE SECOND FORM's CARD OF 'precinctlaw13.ReadyBehind'. -/
def readyBehindUptoCard : Claim7 := { stood := { row := readyBehindUptoRow, standIns := [], harness := (true, "6e958e2f4705552c830bcf25b30a49065cbf4597c229db9ca52bd63f230be617"), looks := false }, kinds := [], alts := [], laidByText := true, laidKinds := [.data], laidTests := true, laidLooks := .later }
def ReadyBehindUptoCardSaid : Prop := Claim7.holds Tryd.pinned (.plain (OpenSpec.upto readyBehindSpec)) readyBehindUptoCard

/-- THE SECOND FORM's CARD OF 'precinctlaw13.ReadyWhole'. -/
def readyWholeUptoCard : Claim7 := { stood := { row := readyWholeUptoRow, standIns := [], harness := (true, "6e958e2f4705552c830bcf25b30a49065cbf4597c229db9ca52bd63f230be617"), looks := false }, kinds := [], alts := [], laidByText := true, laidKinds := [.data], laidTests := true, laidLooks := .later }
def ReadyWholeUptoCardSaid : Prop := Claim7.holds Tryd.pinned (.plain (OpenSpec.upto readyWholeSpec)) readyWholeUptoCard

/-- THE SECOND FORM's CARD OF 'precinctlaw13.ReadyDeep'. -/
def readyDeepUptoCard : Claim7 := { stood := { row := readyDeepUptoRow, standIns := [], harness := (true, "6e958e2f4705552c830bcf25b30a49065cbf4597c229db9ca52bd63f230be617"), looks := false }, kinds := [], alts := [], laidByText := true, laidKinds := [.data], laidTests := true, laidLooks := .later }
def ReadyDeepUptoCardSaid : Prop := Claim7.holds Tryd.pinned (.plain (OpenSpec.upto readyDeepSpec)) readyDeepUptoCard

/-- THE SECOND FORM's CARD OF 'precinctlaw13.ReadyMore'. -/
def readyMoreUptoCard : Claim7 := { stood := { row := readyMoreUptoRow, standIns := [], harness := (true, "6e958e2f4705552c830bcf25b30a49065cbf4597c229db9ca52bd63f230be617"), looks := false }, kinds := [], alts := [], laidByText := true, laidKinds := [.data], laidTests := true, laidLooks := .later }
def ReadyMoreUptoCardSaid : Prop := Claim7.holds Tryd.pinned (.plain (OpenSpec.upto readyMoreSpec)) readyMoreUptoCard
end Rows
end Go.Proofs.YtfkljcnkghakaaaDoor
