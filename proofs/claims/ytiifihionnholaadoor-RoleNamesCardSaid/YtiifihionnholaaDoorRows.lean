/-
  NARROWER THAN 'FOR EVERY INPUT', by the rows' own cells (each row's printed sentence says how): RoleAllows: laid · RoleMasks: laid · RoleRises: laid · RoleNames: laid.
  DERIVED. THE GIVEN ROWS OF THIS SEAT. 4 by the template 'for every input the law returns true; each argument reads behind the call as it read before'; 0 by the template 'total and deterministic' (their statements: YtiifihionnholaaDoorTotals.lean).
  GIVEN WITH THE SEED: the statements are not yours to turn. If you find one false, say at which input.
  Laid BY PROGRAM, IN A SANDBOX (cutbox-rows.mjs): the forced cells as the released guide's own fill.sh prints them over the translation aab4aea0717f7c6f… (all of the seat's roots in one cut). By AI agents, Wed Nov 11 2026. No macro, syntax, notation, axiom, sorry.
-/
import Derived.Test.YtiifihionnholaaDoorChecked
import GoSem.Claim
import GoSem.ClaimJoined
import GoSem.ClaimMapViews
import Derived.JoinedTies
import Derived.KernelRfl
namespace Go.Proofs.YtiifihionnholaaDoor
/- THE CELL 'sum', in the pinned program and in every row, IS THE sha256 OF THE DUMP (.gsa) THAT YtiifihionnholaaDoorProg.lean LOADS. Nothing in Lean hashes anything: it is a label: what it is worth is what the hold of that sum in a sandbox is worth. -/
noncomputable def Tryd.pinned : Pinned := { name := "ytiifihionnholaadoor", sum := "aab4aea0717f7c6ff926c1595186eb636898a3b2e55d53222bbe7b5c004ba842", checked := Tryd.checked }
namespace Rows
def none {H : Type} : Left H := { results := [], args := [] }

/- WHAT THE LISTED PACKAGE-LEVEL VARIABLES READ AS WHEN THE CALL BEGINS. Each datum BY PROGRAM (the guide's laid-datum.mjs) off the statement by which the dump's own 'gosem.cut.vars' lays the variable. In a bare row this is a premise. The card (YtiifihionnholaaDoorCards.lean) ties it to the program's text. -/
def laid_precinct_role_count {H : Type} : DataW H := .agg [.lit (.int .i64 0), .lit (.int .i64 1), .lit (.int .i64 3), .lit (.int .i64 5), .lit (.int .i64 10)]
def laid_precinct_role_names {H : Type} : DataW H := .agg [.lit (.string [113, 117, 101, 114, 121]), .lit (.string [112, 111, 108, 108]), .lit (.string [99, 111, 109, 112, 108, 101, 116, 101]), .lit (.string [115, 116, 97, 114, 116]), .lit (.string [100, 101, 102, 105, 110, 101]), .lit (.string [109, 105, 110, 116]), .lit (.string [97, 115, 115, 105, 103, 110]), .lit (.string [114, 101, 118, 111, 107, 101]), .lit (.string [103, 114, 97, 110, 116]), .lit (.string [117, 110, 103, 114, 97, 110, 116])]

/-- 'precinctlaw10.RoleAllows': WHATEVER THE INPUT: true; the input reads as it did. -/
def roleAllowsSpec : ChangeSpec := { name := "roleAllows", fn := fun _ => fun
  | [d1, d2] => { results := [.lit (.bool true)], args := [d1, d2] }
  | _ => none }
def roleAllowsRow : OpenClaim := { program := "ytiifihionnholaadoor", sum := "aab4aea0717f7c6ff926c1595186eb636898a3b2e55d53222bbe7b5c004ba842", func := "precinct/precinctlaw10.RoleAllows", spec := "roleAllows", named := ["precinct/role.count"], apart := false, laid := [("precinct/role.count", laid_precinct_role_count)] }
def RoleAllowsSaid : Prop := roleAllowsRow.holds Tryd.pinned (OpenSpec.ofChange roleAllowsSpec)

/-- ITS FALSE NEIGHBOUR: 'it returns false'. Refute it at one input. -/
def roleAllowsWrong : ChangeSpec := { name := "roleAllows", fn := fun _ => fun
  | [d1, d2] => { results := [.lit (.bool false)], args := [d1, d2] }
  | _ => none }
def RoleAllowsWrongFalsely : Prop := roleAllowsRow.holds Tryd.pinned (OpenSpec.ofChange roleAllowsWrong)

/-- 'precinctlaw10.RoleMasks': WHATEVER THE INPUT: true; the input reads as it did. -/
def roleMasksSpec : ChangeSpec := { name := "roleMasks", fn := fun _ => fun
  | [d1, d2] => { results := [.lit (.bool true)], args := [d1, d2] }
  | _ => none }
def roleMasksRow : OpenClaim := { program := "ytiifihionnholaadoor", sum := "aab4aea0717f7c6ff926c1595186eb636898a3b2e55d53222bbe7b5c004ba842", func := "precinct/precinctlaw10.RoleMasks", spec := "roleMasks", named := ["precinct/role.count"], apart := false, laid := [("precinct/role.count", laid_precinct_role_count)] }
def RoleMasksSaid : Prop := roleMasksRow.holds Tryd.pinned (OpenSpec.ofChange roleMasksSpec)

/-- ITS FALSE NEIGHBOUR: 'it returns false'. Refute it at one input. -/
def roleMasksWrong : ChangeSpec := { name := "roleMasks", fn := fun _ => fun
  | [d1, d2] => { results := [.lit (.bool false)], args := [d1, d2] }
  | _ => none }
def RoleMasksWrongFalsely : Prop := roleMasksRow.holds Tryd.pinned (OpenSpec.ofChange roleMasksWrong)

/-- 'precinctlaw10.RoleRises': WHATEVER THE INPUT: true; the input reads as it did. -/
def roleRisesSpec : ChangeSpec := { name := "roleRises", fn := fun _ => fun
  | [d1, d2, d3] => { results := [.lit (.bool true)], args := [d1, d2, d3] }
  | _ => none }
def roleRisesRow : OpenClaim := { program := "ytiifihionnholaadoor", sum := "aab4aea0717f7c6ff926c1595186eb636898a3b2e55d53222bbe7b5c004ba842", func := "precinct/precinctlaw10.RoleRises", spec := "roleRises", named := ["precinct/role.count"], apart := false, laid := [("precinct/role.count", laid_precinct_role_count)] }
def RoleRisesSaid : Prop := roleRisesRow.holds Tryd.pinned (OpenSpec.ofChange roleRisesSpec)

/-- ITS FALSE NEIGHBOUR: 'it returns false'. Refute it at one input. -/
def roleRisesWrong : ChangeSpec := { name := "roleRises", fn := fun _ => fun
  | [d1, d2, d3] => { results := [.lit (.bool false)], args := [d1, d2, d3] }
  | _ => none }
def RoleRisesWrongFalsely : Prop := roleRisesRow.holds Tryd.pinned (OpenSpec.ofChange roleRisesWrong)

/-- 'precinctlaw10.RoleNames': WHATEVER THE INPUT: true; the input reads as it did. -/
def roleNamesSpec : ChangeSpec := { name := "roleNames", fn := fun _ => fun
  | [d1, d2] => { results := [.lit (.bool true)], args := [d1, d2] }
  | _ => none }
def roleNamesRow : OpenClaim := { program := "ytiifihionnholaadoor", sum := "aab4aea0717f7c6ff926c1595186eb636898a3b2e55d53222bbe7b5c004ba842", func := "precinct/precinctlaw10.RoleNames", spec := "roleNames", named := ["precinct/role.names"], apart := false, laid := [("precinct/role.names", laid_precinct_role_names)] }
def RoleNamesSaid : Prop := roleNamesRow.holds Tryd.pinned (OpenSpec.ofChange roleNamesSpec)

/-- ITS FALSE NEIGHBOUR: 'it returns false'. Refute it at one input. -/
def roleNamesWrong : ChangeSpec := { name := "roleNames", fn := fun _ => fun
  | [d1, d2] => { results := [.lit (.bool false)], args := [d1, d2] }
  | _ => none }
def RoleNamesWrongFalsely : Prop := roleNamesRow.holds Tryd.pinned (OpenSpec.ofChange roleNamesWrong)

/- THE SECOND FORM. 'bulk': how many values and letters a reading holds, each counted each time it is reached (what is shared counts as often as it is met; a slice's spare places count too). A statement '..UptoSaid' is the law's where the arguments, and the package variables that the reading takes, are together of bulk at most 1048576: NARROWER than '..Said'. Prove '..Said' where nothing that the law and all that it calls make is longer than what came in: it says more and counts as full. Else prove '..UptoSaid'. A law counts once. -/
mutual
def uptoBulk {H : Type} : DataW H → Nat
  | .lit (.string bytes) => bytes.length + 1
  | .lit _ => 1
  | .nil => 1
  | .ptr d => uptoBulk d + 1
  | .slice elems spare => uptoBulkAll elems + uptoBulkAll spare + 1
  | .agg parts => uptoBulkAll parts + 1
  | .iface _ d => uptoBulk d + 1
  | .map entries => uptoBulkEntries entries + 1
  | .held _ => 1
def uptoBulkAll {H : Type} : List (DataW H) → Nat
  | [] => 0
  | d :: r => uptoBulk d + uptoBulkAll r
def uptoBulkEntries {H : Type} : List (Lit × DataW H) → Nat
  | [] => 0
  | x :: r => uptoBulkEntry x + uptoBulkEntries r
def uptoBulkEntry {H : Type} : Lit × DataW H → Nat
  | (.string bytes, d) => bytes.length + uptoBulk d + 1
  | (_, d) => uptoBulk d + 1
 end
def uptoSmall : (H : Type) → List (DataW H) → Bool := fun _ ds => decide (uptoBulkAll ds ≤ 1048576)
def OpenSpec.upto (s : _root_.Go.ChangeSpec) : _root_.Go.OpenSpec := { _root_.Go.OpenSpec.ofChange s with cond := some uptoSmall }

/-- 'precinctlaw10.RoleAllows', WHERE WHAT IT READS IS OF BULK AT MOST 1048576: true; the input reads as it did. -/
def roleAllowsUptoRow : OpenClaim := { program := "ytiifihionnholaadoor", sum := "aab4aea0717f7c6ff926c1595186eb636898a3b2e55d53222bbe7b5c004ba842", func := "precinct/precinctlaw10.RoleAllows", spec := "roleAllows", named := ["precinct/role.count"], apart := false, laid := [("precinct/role.count", laid_precinct_role_count)], narrowed := true }
def RoleAllowsUptoSaid : Prop := roleAllowsUptoRow.holds Tryd.pinned (OpenSpec.upto roleAllowsSpec)

/-- 'precinctlaw10.RoleMasks', WHERE WHAT IT READS IS OF BULK AT MOST 1048576: true; the input reads as it did. -/
def roleMasksUptoRow : OpenClaim := { program := "ytiifihionnholaadoor", sum := "aab4aea0717f7c6ff926c1595186eb636898a3b2e55d53222bbe7b5c004ba842", func := "precinct/precinctlaw10.RoleMasks", spec := "roleMasks", named := ["precinct/role.count"], apart := false, laid := [("precinct/role.count", laid_precinct_role_count)], narrowed := true }
def RoleMasksUptoSaid : Prop := roleMasksUptoRow.holds Tryd.pinned (OpenSpec.upto roleMasksSpec)

/-- 'precinctlaw10.RoleRises', WHERE WHAT IT READS IS OF BULK AT MOST 1048576: true; the input reads as it did. -/
def roleRisesUptoRow : OpenClaim := { program := "ytiifihionnholaadoor", sum := "aab4aea0717f7c6ff926c1595186eb636898a3b2e55d53222bbe7b5c004ba842", func := "precinct/precinctlaw10.RoleRises", spec := "roleRises", named := ["precinct/role.count"], apart := false, laid := [("precinct/role.count", laid_precinct_role_count)], narrowed := true }
def RoleRisesUptoSaid : Prop := roleRisesUptoRow.holds Tryd.pinned (OpenSpec.upto roleRisesSpec)

/-- 'precinctlaw10.RoleNames', WHERE WHAT IT READS IS OF BULK AT MOST 1048576: true; the input reads as it did. -/
def roleNamesUptoRow : OpenClaim := { program := "ytiifihionnholaadoor", sum := "aab4aea0717f7c6ff926c1595186eb636898a3b2e55d53222bbe7b5c004ba842", func := "precinct/precinctlaw10.RoleNames", spec := "roleNames", named := ["precinct/role.names"], apart := false, laid := [("precinct/role.names", laid_precinct_role_names)], narrowed := true }
def RoleNamesUptoSaid : Prop := roleNamesUptoRow.holds Tryd.pinned (OpenSpec.upto roleNamesSpec)

end Rows
end Go.Proofs.YtiifihionnholaaDoor
