/-
  DERIVED. GIVEN WITH THE SEED: THE CARDS: each row of YtiifihionnholaaDoorRows.lean that lists a variable, with what it lists TIED to the program's text (the seventh form; the later family's looks); each row that meets fmt, with fmt's text TOLD by the authors' own Lean function (tested against real Go, not proved from fmt's source: count such statements apart). THE CARD IS WHAT COUNTS. Prove the row's statement (the work); the ties are given (YtiifihionnholaaDoorTie.lean); close each card by the builder's one call (the guide's Derived/Test/ToyasCard.lean, 'card_holds'). Laid BY PROGRAM, IN A SANDBOX (cutbox-door.mjs). By AI agents, Wed Nov 11 2026. No macro, syntax, notation, axiom, sorry.
-/
import Derived.Test.YtiifihionnholaaDoorRows
import GoSem.ClaimSeven
namespace Go.Proofs.YtiifihionnholaaDoor
namespace Rows

/-- THE TIED CARD OF 'precinctlaw10.RoleAllows'. -/
def roleAllowsCard : Claim7 := { stood := { row := roleAllowsRow, standIns := [], harness := (true, "8c779540e806555056a543bd019aec173d639b291c92627e98c546d41b597456"), looks := false }, kinds := [], alts := [], laidByText := true, laidKinds := [.data], laidTests := true, laidLooks := .later }
def RoleAllowsCardSaid : Prop := Claim7.holds Tryd.pinned (.plain (OpenSpec.ofChange roleAllowsSpec)) roleAllowsCard

/-- THE TIED CARD OF 'precinctlaw10.RoleMasks'. -/
def roleMasksCard : Claim7 := { stood := { row := roleMasksRow, standIns := [], harness := (true, "8c779540e806555056a543bd019aec173d639b291c92627e98c546d41b597456"), looks := false }, kinds := [], alts := [], laidByText := true, laidKinds := [.data], laidTests := true, laidLooks := .later }
def RoleMasksCardSaid : Prop := Claim7.holds Tryd.pinned (.plain (OpenSpec.ofChange roleMasksSpec)) roleMasksCard

/-- THE TIED CARD OF 'precinctlaw10.RoleRises'. -/
def roleRisesCard : Claim7 := { stood := { row := roleRisesRow, standIns := [], harness := (true, "8c779540e806555056a543bd019aec173d639b291c92627e98c546d41b597456"), looks := false }, kinds := [], alts := [], laidByText := true, laidKinds := [.data], laidTests := true, laidLooks := .later }
def RoleRisesCardSaid : Prop := Claim7.holds Tryd.pinned (.plain (OpenSpec.ofChange roleRisesSpec)) roleRisesCard

/-- THE TIED CARD OF 'precinctlaw10.RoleNames'. -/
def roleNamesCard : Claim7 := { stood := { row := roleNamesRow, standIns := [], harness := (true, "8c779540e806555056a543bd019aec173d639b291c92627e98c546d41b597456"), looks := false }, kinds := [], alts := [], laidByText := true, laidKinds := [.widerDeep], laidTests := true, laidLooks := .later }
def RoleNamesCardSaid : Prop := Claim7.holds Tryd.pinned (.plain (OpenSpec.ofChange roleNamesSpec)) roleNamesCard

/-- THE SECOND FORM's CARD OF 'precinctlaw10.RoleAllows'. -/
def roleAllowsUptoCard : Claim7 := { stood := { row := roleAllowsUptoRow, standIns := [], harness := (true, "8c779540e806555056a543bd019aec173d639b291c92627e98c546d41b597456"), looks := false }, kinds := [], alts := [], laidByText := true, laidKinds := [.data], laidTests := true, laidLooks := .later }
def RoleAllowsUptoCardSaid : Prop := Claim7.holds Tryd.pinned (.plain (OpenSpec.upto roleAllowsSpec)) roleAllowsUptoCard

/-- THE SECOND FORM's CARD OF 'precinctlaw10.RoleMasks'. -/
def roleMasksUptoCard : Claim7 := { stood := { row := roleMasksUptoRow, standIns := [], harness := (true, "8c779540e806555056a543bd019aec173d639b291c92627e98c546d41b597456"), looks := false }, kinds := [], alts := [], laidByText := true, laidKinds := [.data], laidTests := true, laidLooks := .later }
def RoleMasksUptoCardSaid : Prop := Claim7.holds Tryd.pinned (.plain (OpenSpec.upto roleMasksSpec)) roleMasksUptoCard

/-- THE SECOND FORM's CARD OF 'precinctlaw10.RoleRises'. -/
def roleRisesUptoCard : Claim7 := { stood := { row := roleRisesUptoRow, standIns := [], harness := (true, "8c779540e806555056a543bd019aec173d639b291c92627e98c546d41b597456"), looks := false }, kinds := [], alts := [], laidByText := true, laidKinds := [.data], laidTests := true, laidLooks := .later }
def RoleRisesUptoCardSaid : Prop := Claim7.holds Tryd.pinned (.plain (OpenSpec.upto roleRisesSpec)) roleRisesUptoCard

/-- THE SECOND FORM's CARD OF 'precinctlaw10.RoleNames'. -/
def roleNamesUptoCard : Claim7 := { stood := { row := roleNamesUptoRow, standIns := [], harness := (true, "8c779540e806555056a543bd019aec173d639b291c92627e98c546d41b597456"), looks := false }, kinds := [], alts := [], laidByText := true, laidKinds := [.widerDeep], laidTests := true, laidLooks := .later }
def RoleNamesUptoCardSaid : Prop := Claim7.holds Tryd.pinned (.plain (OpenSpec.upto roleNamesSpec)) roleNamesUptoCard
end Rows
end Go.Proofs.YtiifihionnholaaDoor
