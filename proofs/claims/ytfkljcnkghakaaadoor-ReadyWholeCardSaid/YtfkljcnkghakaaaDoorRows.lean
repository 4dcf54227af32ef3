/-
  NARROWER THAN 'FOR EVERY INPUT', by the rows' own cells (each row's printed sentence says how): ReadyOrders: laid · ReadyReady: laid · ReadyBehind: laid · ReadyWhole: laid · ReadyDeep: laid · ReadyMore: laid.
  DERIVED. THE GIVEN ROWS OF THIS SEAT. 6 by the template 'for every input the law returns true; each argument reads behind the call as it read before'; 0 by the template 'total and deterministic' (their statements: YtfkljcnkghakaaaDoorTotals.lean).
  GIVEN WITH THE SEED: the statements are not yours to turn. If you find one false, say at which input.
  Laid BY PROGRAM, IN A SANDBOX (cutbox-rows.mjs): the forced cells as the released guide's own fill.sh prints them over the translation 1114f2e136a95d82… (all of the seat's roots in one cut). By AI agents, Wed Nov 11 2026. No macro, syntax, notation, axiom, sorry.
-/
import Derived.Test.YtfkljcnkghakaaaDoorChecked
import GoSem.Claim
import GoSem.ClaimJoined
import GoSem.ClaimMapViews
import Derived.JoinedTies
import Derived.KernelRfl
namespace Go.Proofs.YtfkljcnkghakaaaDoor
/- THE CELL 'sum', in the pinned program and in every row, IS THE sha256 OF THE DUMP (.gsa) THAT YtfkljcnkghakaaaDoorProg.lean LOADS. Nothing in Lean hashes anything: it is a label: what it is worth is what the hold of that sum in a sandbox is worth. -/
noncomputable def Tryd.pinned : Pinned := { name := "ytfkljcnkghakaaadoor", sum := "1114f2e136a95d82502f7ff9191533c084aff24af45c2658f4a15f580d656d01", checked := Tryd.checked }
namespace Rows
def none {H : Type} : Left H := { results := [], args := [] }

/- WHAT THE LISTED PACKAGE-LEVEL VARIABLES READ AS WHEN THE CALL BEGINS. Each datum BY PROGRAM (the guide's laid-datum.mjs) off the statement by which the dump's own 'gosem.cut.vars' lays the variable. In a bare row this is a premise. The card (YtfkljcnkghakaaaDoorCards.lean) ties it to the program's text. -/
def laid_math_bits_deBruijn32tab {H : Type} : DataW H := .agg [.lit (.int .u8 0), .lit (.int .u8 1), .lit (.int .u8 28), .lit (.int .u8 2), .lit (.int .u8 29), .lit (.int .u8 14), .lit (.int .u8 24), .lit (.int .u8 3), .lit (.int .u8 30), .lit (.int .u8 22), .lit (.int .u8 20), .lit (.int .u8 15), .lit (.int .u8 25), .lit (.int .u8 17), .lit (.int .u8 4), .lit (.int .u8 8), .lit (.int .u8 31), .lit (.int .u8 27), .lit (.int .u8 13), .lit (.int .u8 23), .lit (.int .u8 21), .lit (.int .u8 19), .lit (.int .u8 16), .lit (.int .u8 7), .lit (.int .u8 26), .lit (.int .u8 12), .lit (.int .u8 18), .lit (.int .u8 6), .lit (.int .u8 11), .lit (.int .u8 5), .lit (.int .u8 10), .lit (.int .u8 9)]

/-- 'precinctlaw13.ReadyOrders': WHATEVER THE INPUT: true; the input reads as it did. -/
def readyOrdersSpec : ChangeSpec := { name := "readyOrders", fn := fun _ => fun
  | [d] => { results := [.lit (.bool true)], args := [d] }
  | _ => none }
def readyOrdersRow : OpenClaim := { program := "ytfkljcnkghakaaadoor", sum := "1114f2e136a95d82502f7ff9191533c084aff24af45c2658f4a15f580d656d01", func := "precinct/precinctlaw13.ReadyOrders", spec := "readyOrders", unfollowed := true, recurses := true, named := ["math/bits.deBruijn32tab"], apart := false, laid := [("math/bits.deBruijn32tab", laid_math_bits_deBruijn32tab)] }
def ReadyOrdersSaid : Prop := readyOrdersRow.holds Tryd.pinned (OpenSpec.ofChange readyOrdersSpec)

/-- ITS FALSE NEIGHBOUR: 'it returns false'. Refute it at one input. -/
def readyOrdersWrong : ChangeSpec := { name := "readyOrders", fn := fun _ => fun
  | [d] => { results := [.lit (.bool false)], args := [d] }
  | _ => none }
def ReadyOrdersWrongFalsely : Prop := readyOrdersRow.holds Tryd.pinned (OpenSpec.ofChange readyOrdersWrong)

/-- 'precinctlaw13.ReadyReady': WHATEVER THE INPUT: true; the input reads as it did. -/
def readyReadySpec : ChangeSpec := { name := "readyReady", fn := fun _ => fun
  | [d1, d2] => { results := [.lit (.bool true)], args := [d1, d2] }
  | _ => none }
def readyReadyRow : OpenClaim := { program := "ytfkljcnkghakaaadoor", sum := "1114f2e136a95d82502f7ff9191533c084aff24af45c2658f4a15f580d656d01", func := "precinct/precinctlaw13.ReadyReady", spec := "readyReady", unfollowed := true, recurses := true, named := ["math/bits.deBruijn32tab"], apart := false, laid := [("math/bits.deBruijn32tab", laid_math_bits_deBruijn32tab)] }
def ReadyReadySaid : Prop := readyReadyRow.holds Tryd.pinned (OpenSpec.ofChange readyReadySpec)

/-- ITS FALSE NEIGHBOUR: 'it returns false'. Refute it at one input. -/
def readyReadyWrong : ChangeSpec := { name := "readyReady", fn := fun _ => fun
  | [d1, d2] => { results := [.lit (.bool false)], args := [d1, d2] }
  | _ => none }
def ReadyReadyWrongFalsely : Prop := readyReadyRow.holds Tryd.pinned (OpenSpec.ofChange readyReadyWrong)

/-- 'precinctlaw13.ReadyBehind': WHATEVER THE INPUT: true; the input reads as it did. -/
def readyBehindSpec : ChangeSpec := { name := "readyBehind", fn := fun _ => fun
  | [d1, d2] => { results := [.lit (.bool true)], args := [d1, d2] }
  | _ => none }
def readyBehindRow : OpenClaim := { program := "ytfkljcnkghakaaadoor", sum := "1114f2e136a95d82502f7ff9191533c084aff24af45c2658f4a15f580d656d01", func := "precinct/precinctlaw13.ReadyBehind", spec := "readyBehind", unfollowed := true, recurses := true, named := ["math/bits.deBruijn32tab"], apart := false, laid := [("math/bits.deBruijn32tab", laid_math_bits_deBruijn32tab)] }
def ReadyBehindSaid : Prop := readyBehindRow.holds Tryd.pinned (OpenSpec.ofChange readyBehindSpec)

/-- ITS FALSE NEIGHBOUR: 'it returns false'. Refute it at one input. -/
def readyBehindWrong : ChangeSpec := { name := "readyBehind", fn := fun _ => fun
  | [d1, d2] => { results := [.lit (.bool false)], args := [d1, d2] }
  | _ => none }
def ReadyBehindWrongFalsely : Prop := readyBehindRow.holds Tryd.pinned (OpenSpec.ofChange readyBehindWrong)

/-- 'precinctlaw13.ReadyWhole': WHATEVER THE INPUT: true; the input reads as it did. -/
def readyWholeSpec : ChangeSpec := { name := "readyWhole", fn := fun _ => fun
  | [d1, d2] => { results := [.lit (.bool true)], args := [d1, d2] }
  | _ => none }
def readyWholeRow : OpenClaim := { program := "ytfkljcnkghakaaadoor", sum := "1114f2e136a95d82502f7ff9191533c084aff24af45c2658f4a15f580d656d01", func := "precinct/precinctlaw13.ReadyWhole", spec := "readyWhole", unfollowed := true, recurses := true, named := ["math/bits.deBruijn32tab"], apart := false, laid := [("math/bits.deBruijn32tab", laid_math_bits_deBruijn32tab)] }
def ReadyWholeSaid : Prop := readyWholeRow.holds Tryd.pinned (OpenSpec.ofChange readyWholeSpec)

/-- ITS FALSE NEIGHBOUR: 'it returns false'. Refute it at one input. -/
def readyWholeWrong : ChangeSpec := { name := "readyWhole", fn := fun _ => fun
  | [d1, d2] => { results := [.lit (.bool false)], args := [d1, d2] }
  | _ => none }
def ReadyWholeWrongFalsely : Prop := readyWholeRow.holds Tryd.pinned (OpenSpec.ofChange readyWholeWrong)

/-- 'precinctlaw13.ReadyDeep': WHATEVER THE INPUT: true; the input reads as it did. -/
def readyDeepSpec : ChangeSpec := { name := "readyDeep", fn := fun _ => fun
  | [d] => { results := [.lit (.bool true)], args := [d] }
  | _ => none }
def readyDeepRow : OpenClaim := { program := "ytfkljcnkghakaaadoor", sum := "1114f2e136a95d82502f7ff9191533c084aff24af45c2658f4a15f580d656d01", func := "precinct/precinctlaw13.ReadyDeep", spec := "readyDeep", unfollowed := true, recurses := true, named := ["math/bits.deBruijn32tab"], apart := false, laid := [("math/bits.deBruijn32tab", laid_math_bits_deBruijn32tab)] }
def ReadyDeepSaid : Prop := readyDeepRow.holds Tryd.pinned (OpenSpec.ofChange readyDeepSpec)

/-- ITS FALSE NEIGHBOUR: 'it returns false'. Refute it at one input. -/
def readyDeepWrong : ChangeSpec := { name := "readyDeep", fn := fun _ => fun
  | [d] => { results := [.lit (.bool false)], args := [d] }
  | _ => none }
def ReadyDeepWrongFalsely : Prop := readyDeepRow.holds Tryd.pinned (OpenSpec.ofChange readyDeepWrong)

/-- 'precinctlaw13.ReadyMore': WHATEVER THE INPUT: true; the input reads as it did. -/
def readyMoreSpec : ChangeSpec := { name := "readyMore", fn := fun _ => fun
  | [d1, d2, d3] => { results := [.lit (.bool true)], args := [d1, d2, d3] }
  | _ => none }
def readyMoreRow : OpenClaim := { program := "ytfkljcnkghakaaadoor", sum := "1114f2e136a95d82502f7ff9191533c084aff24af45c2658f4a15f580d656d01", func := "precinct/precinctlaw13.ReadyMore", spec := "readyMore", unfollowed := true, recurses := true, named := ["math/bits.deBruijn32tab"], apart := false, laid := [("math/bits.deBruijn32tab", laid_math_bits_deBruijn32tab)] }
def ReadyMoreSaid : Prop := readyMoreRow.holds Tryd.pinned (OpenSpec.ofChange readyMoreSpec)

/-- ITS FALSE NEIGHBOUR: 'it returns false'. Refute it at one input. -/
def readyMoreWrong : ChangeSpec := { name := "readyMore", fn := fun _ => fun
  | [d1, d2, d3] => { results := [.lit (.bool false)], args := [d1, d2, d3] }
  | _ => none }
def ReadyMoreWrongFalsely : Prop := readyMoreRow.holds Tryd.pinned (OpenSpec.ofChange readyMoreWrong)

/- THE SECOND FORM. 'bulk': how many values and letters a reading holds, each counted each time it is reached (what is shared counts as often as it is met; a slice's spare places count too). A statement '..UptoSaid' is the law's where the arguments, and the package variables that the reading takes, are together of bulk at most 1048576: NARROWER than '..Said'. Prove '..Said' where nothing that the law and all that it calls make is longer than what came in: it says more and counts as full. Else prove '..UptoSaid'. A law counts once. -/
mutual
def uptoBulk {H : Type} : DataW H → Nat
  | .lit (.string bytes) => bytes.length + 1
  | .lit _ => 1
  | .nil => 1
  | .ptr d => uptoBulk d + 1
  | .slice elems spare => uptoBulkAll elems + uptoBulkAll spare + 1
  | .agg parts => uptoBulkAll parts + 1
  | .iface _ d => uptoBulk d + 1
  | .map entries => uptoBulkEntries entries + 1
  | .held _ => 1
def uptoBulkAll {H : Type} : List (DataW H) → Nat
  | [] => 0
  | d :: r => uptoBulk d + uptoBulkAll r
def uptoBulkEntries {H : Type} : List (Lit × DataW H) → Nat
  | [] => 0
  | x :: r => uptoBulkEntry x + uptoBulkEntries r
def uptoBulkEntry {H : Type} : Lit × DataW H → Nat
  | (.string bytes, d) => bytes.length + uptoBulk d + 1
  | (_, d) => uptoBulk d + 1
 end
def uptoSmall : (H : Type) → List (DataW H) → Bool := fun _ ds => decide (uptoBulkAll ds ≤ 1048576)
def OpenSpec.upto (s : _root_.Go.ChangeSpec) : _root_.Go.OpenSpec := { _root_.Go.OpenSpec.ofChange s with cond := some uptoSmall }

/-- 'precinctlaw13.ReadyOrders', WHERE WHAT IT READS IS OF BULK AT MOST 1048576: true; the input reads as it did. -/
def readyOrdersUptoRow : OpenClaim := { program := "ytfkljcnkghakaaadoor", sum := "1114f2e136a95d82502f7ff9191533c084aff24af45c2658f4a15f580d656d01", func := "precinct/precinctlaw13.ReadyOrders", spec := "readyOrders", unfollowed := true, recurses := true, named := ["math/bits.deBruijn32tab"], apart := false, laid := [("math/bits.deBruijn32tab", laid_math_bits_deBruijn32tab)], narrowed := true }
def ReadyOrdersUptoSaid : Prop := readyOrdersUptoRow.holds Tryd.pinned (OpenSpec.upto readyOrdersSpec)

/-- 'precinctlaw13.ReadyReady', WHERE WHAT IT READS IS OF BULK AT MOST 1048576: true; the input reads as it did. -/
def readyReadyUptoRow : OpenClaim := { program := "ytfkljcnkghakaaadoor", sum := "1114f2e136a95d82502f7ff9191533c084aff24af45c2658f4a15f580d656d01", func := "precinct/precinctlaw13.ReadyReady", spec := "readyReady", unfollowed := true, recurses := true, named := ["math/bits.deBruijn32tab"], apart := false, laid := [("math/bits.deBruijn32tab", laid_math_bits_deBruijn32tab)], narrowed := true }
def ReadyReadyUptoSaid : Prop := readyReadyUptoRow.holds Tryd.pinned (OpenSpec.upto readyReadySpec)

/-- 'precinctlaw13.ReadyBehind', WHERE WHAT IT READS IS OF BULK AT MOST 1048576: true; the input reads as it did. -/
def readyBehindUptoRow : OpenClaim := { program := "ytfkljcnkghakaaadoor", sum := "1114f2e136a95d82502f7ff9191533c084aff24af45c2658f4a15f580d656d01", func := "precinct/precinctlaw13.ReadyBehind", spec := "readyBehind", unfollowed := true, recurses := true, named := ["math/bits.deBruijn32tab"], apart := false, laid := [("math/bits.deBruijn32tab", laid_math_bits_deBruijn32tab)], narrowed := true }
def ReadyBehindUptoSaid : Prop := readyBehindUptoRow.holds Tryd.pinned (OpenSpec.upto readyBehindSpec)

/-- 'precinctlaw13.ReadyWhole', WHERE WHAT IT READS IS OF BULK AT MOST 1048576: true; the input reads as it did. -/
def readyWholeUptoRow : OpenClaim := { program := "ytfkljcnkghakaaadoor", sum := "1114f2e136a95d82502f7ff9191533c084aff24af45c2658f4a15f580d656d01", func := "precinct/precinctlaw13.ReadyWhole", spec := "readyWhole", unfollowed := true, recurses := true, named := ["math/bits.deBruijn32tab"], apart := false, laid := [("math/bits.deBruijn32tab", laid_math_bits_deBruijn32tab)], narrowed := true }
def ReadyWholeUptoSaid : Prop := readyWholeUptoRow.holds Tryd.pinned (OpenSpec.upto readyWholeSpec)

/-- 'precinctlaw13.ReadyDeep', WHERE WHAT IT READS IS OF BULK AT MOST 1048576: true; the input reads as it did. -/
def readyDeepUptoRow : OpenClaim := { program := "ytfkljcnkghakaaadoor", sum := "1114f2e136a95d82502f7ff9191533c084aff24af45c2658f4a15f580d656d01", func := "precinct/precinctlaw13.ReadyDeep", spec := "readyDeep", unfollowed := true, recurses := true, named := ["math/bits.deBruijn32tab"], apart := false, laid := [("math/bits.deBruijn32tab", laid_math_bits_deBruijn32tab)], narrowed := true }
def ReadyDeepUptoSaid : Prop := readyDeepUptoRow.holds Tryd.pinned (OpenSpec.upto readyDeepSpec)

/-- 'precinctlaw13.ReadyMore', WHERE WHAT IT READS IS OF BULK AT MOST 1048576: true; the input reads as it did. -/
def readyMoreUptoRow : OpenClaim := { program := "ytfkljcnkghakaaadoor", sum := "1114f2e136a95d82502f7ff9191533c084aff24af45c2658f4a15f580d656d01", func := "precinct/precinctlaw13.ReadyMore", spec := "readyMore", unfollowed := true, recurses := true, named := ["math/bits.deBruijn32tab"], apart := false, laid := [("math/bits.deBruijn32tab", laid_math_bits_deBruijn32tab)], narrowed := true }
def ReadyMoreUptoSaid : Prop := readyMoreUptoRow.holds Tryd.pinned (OpenSpec.upto readyMoreSpec)

end Rows
end Go.Proofs.YtfkljcnkghakaaaDoor
