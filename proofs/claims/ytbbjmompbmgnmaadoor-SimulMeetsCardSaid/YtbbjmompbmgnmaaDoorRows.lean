/-
  NARROWER THAN 'FOR EVERY INPUT', by the rows' own cells (each row's printed sentence says how): WitnessFails: laid · SimulOrder: laid · SimulMeets: laid · CyclesEdges: laid · GraphCuts: laid · CyclesNone: laid.
  DERIVED. THE GIVEN ROWS OF THIS SEAT. 6 by the template 'for every input the law returns true; each argument reads behind the call as it read before'; 0 by the template 'total and deterministic' (their statements: YtbbjmompbmgnmaaDoorTotals.lean).
  GIVEN WITH THE SEED: the statements are not yours to turn. If you find one false, say at which input.
  Laid BY PROGRAM, IN A SANDBOX (cutbox-rows.mjs): the forced cells as the released guide's own fill.sh prints them over the translation 36fedb1978733540… (all of the seat's roots in one cut). By AI agents, Wed Nov 11 2026. No macro, syntax, notation, axiom, sorry.
-/
import Derived.Test.YtbbjmompbmgnmaaDoorChecked
import GoSem.Claim
import GoSem.ClaimJoined
import GoSem.ClaimMapViews
import Derived.JoinedTies
import Derived.KernelRfl
namespace Go.Proofs.YtbbjmompbmgnmaaDoor
/- THE CELL 'sum', in the pinned program and in every row, IS THE sha256 OF THE DUMP (.gsa) THAT YtbbjmompbmgnmaaDoorProg.lean LOADS. Nothing in Lean hashes anything: it is a label: what it is worth is what the hold of that sum in a sandbox is worth. -/
noncomputable def Tryd.pinned : Pinned := { name := "ytbbjmompbmgnmaadoor", sum := "36fedb1978733540ca0c298ef2bf4f51c62d16617e2c7faf9e75c07eb640f365", checked := Tryd.checked }
namespace Rows
def none {H : Type} : Left H := { results := [], args := [] }

/- WHAT THE LISTED PACKAGE-LEVEL VARIABLES READ AS WHEN THE CALL BEGINS. Each datum BY PROGRAM (the guide's laid-datum.mjs) off the statement by which the dump's own 'gosem.cut.vars' lays the variable. In a bare row this is a premise. The card (YtbbjmompbmgnmaaDoorCards.lean) ties it to the program's text. -/
def laid_errors_errorType {H : Type} : DataW H := .iface "internal/reflectlite.rtype" (.agg [.ptr (.lit (.string [101, 114, 114, 111, 114]))])
def laid_semblance_api_ErrSystem {H : Type} : DataW H := .iface "*errors.errorString" (.ptr (.agg [.lit (.string [97, 32, 115, 121, 115, 116, 101, 109, 32, 116, 104, 97, 116, 32, 105, 115, 32, 110, 111, 110, 101])]))
def laid_semblance_api_ErrClasses {H : Type} : DataW H := .iface "*errors.errorString" (.ptr (.agg [.lit (.string [99, 108, 97, 115, 115, 101, 115, 32, 116, 104, 97, 116, 32, 97, 114, 101, 32, 110, 111, 110, 101])]))
def laid_math_bits_deBruijn64tab {H : Type} : DataW H := .agg [.lit (.int .u8 0), .lit (.int .u8 1), .lit (.int .u8 56), .lit (.int .u8 2), .lit (.int .u8 57), .lit (.int .u8 49), .lit (.int .u8 28), .lit (.int .u8 3), .lit (.int .u8 61), .lit (.int .u8 58), .lit (.int .u8 42), .lit (.int .u8 50), .lit (.int .u8 38), .lit (.int .u8 29), .lit (.int .u8 17), .lit (.int .u8 4), .lit (.int .u8 62), .lit (.int .u8 47), .lit (.int .u8 59), .lit (.int .u8 36), .lit (.int .u8 45), .lit (.int .u8 43), .lit (.int .u8 51), .lit (.int .u8 22), .lit (.int .u8 53), .lit (.int .u8 39), .lit (.int .u8 33), .lit (.int .u8 30), .lit (.int .u8 24), .lit (.int .u8 18), .lit (.int .u8 12), .lit (.int .u8 5), .lit (.int .u8 63), .lit (.int .u8 55), .lit (.int .u8 48), .lit (.int .u8 27), .lit (.int .u8 60), .lit (.int .u8 41), .lit (.int .u8 37), .lit (.int .u8 16), .lit (.int .u8 46), .lit (.int .u8 35), .lit (.int .u8 44), .lit (.int .u8 21), .lit (.int .u8 52), .lit (.int .u8 32), .lit (.int .u8 23), .lit (.int .u8 11), .lit (.int .u8 54), .lit (.int .u8 26), .lit (.int .u8 40), .lit (.int .u8 15), .lit (.int .u8 34), .lit (.int .u8 20), .lit (.int .u8 31), .lit (.int .u8 10), .lit (.int .u8 25), .lit (.int .u8 14), .lit (.int .u8 19), .lit (.int .u8 9), .lit (.int .u8 13), .lit (.int .u8 8), .lit (.int .u8 7), .lit (.int .u8 6)]
def laid_semblance_api_ErrLong {H : Type} : DataW H := .iface "*errors.errorString" (.ptr (.agg [.lit (.string [116, 111, 111, 32, 108, 111, 110, 103, 44, 32, 111, 114, 32, 116, 111, 111, 32, 109, 97, 110, 121])]))
def laid_semblance_api_ErrIndex {H : Type} : DataW H := .iface "*errors.errorString" (.ptr (.agg [.lit (.string [97, 32, 110, 117, 109, 98, 101, 114, 32, 116, 104, 97, 116, 32, 105, 115, 32, 110, 111, 116, 32, 116, 104, 101, 114, 101])]))

/-- 'semblancelaw19.WitnessFails': WHATEVER THE INPUT: true; the input reads as it did. -/
def witnessFailsSpec : ChangeSpec := { name := "witnessFails", fn := fun _ => fun
  | [d1, d2] => { results := [.lit (.bool true)], args := [d1, d2] }
  | _ => none }
def witnessFailsRow : OpenClaim := { program := "ytbbjmompbmgnmaadoor", sum := "36fedb1978733540ca0c298ef2bf4f51c62d16617e2c7faf9e75c07eb640f365", func := "semblance/semblancelaw19.WitnessFails", spec := "witnessFails", inPlace := ["internal/reflectlite.ValueOf", "(internal/reflectlite.Value).Type", "(internal/reflectlite.Value).IsNil", "internal/reflectlite.TypeOf", "(internal/reflectlite.Value).Elem", "(internal/reflectlite.Value).Set"], unfollowed := true, recurses := true, named := ["semblance/api.ErrClasses", "semblance/api.ErrSystem", "errors.errorType"], plainKeys := false, apart := false, laid := [("errors.errorType", laid_errors_errorType), ("semblance/api.ErrSystem", laid_semblance_api_ErrSystem), ("semblance/api.ErrClasses", laid_semblance_api_ErrClasses)] }
def WitnessFailsSaid : Prop := witnessFailsRow.holds Tryd.pinned (OpenSpec.ofChange witnessFailsSpec)

/-- ITS FALSE NEIGHBOUR: 'it returns false'. Refute it at one input. -/
def witnessFailsWrong : ChangeSpec := { name := "witnessFails", fn := fun _ => fun
  | [d1, d2] => { results := [.lit (.bool false)], args := [d1, d2] }
  | _ => none }
def WitnessFailsWrongFalsely : Prop := witnessFailsRow.holds Tryd.pinned (OpenSpec.ofChange witnessFailsWrong)

/-- 'semblancelaw17.SimulOrder': WHATEVER THE INPUT: true; the input reads as it did. -/
def simulOrderSpec : ChangeSpec := { name := "simulOrder", fn := fun _ => fun
  | [d] => { results := [.lit (.bool true)], args := [d] }
  | _ => none }
def simulOrderRow : OpenClaim := { program := "ytbbjmompbmgnmaadoor", sum := "36fedb1978733540ca0c298ef2bf4f51c62d16617e2c7faf9e75c07eb640f365", func := "semblance/semblancelaw17.SimulOrder", spec := "simulOrder", inPlace := ["internal/reflectlite.ValueOf", "(internal/reflectlite.Value).Type", "(internal/reflectlite.Value).IsNil", "internal/reflectlite.TypeOf", "(internal/reflectlite.Value).Elem", "(internal/reflectlite.Value).Set"], unfollowed := true, recurses := true, named := ["semblance/api.ErrSystem", "semblance/api.ErrIndex", "semblance/api.ErrLong", "errors.errorType", "math/bits.deBruijn64tab"], plainKeys := false, apart := false, laid := [("math/bits.deBruijn64tab", laid_math_bits_deBruijn64tab), ("errors.errorType", laid_errors_errorType), ("semblance/api.ErrLong", laid_semblance_api_ErrLong), ("semblance/api.ErrIndex", laid_semblance_api_ErrIndex), ("semblance/api.ErrSystem", laid_semblance_api_ErrSystem)] }
def SimulOrderSaid : Prop := simulOrderRow.holds Tryd.pinned (OpenSpec.ofChange simulOrderSpec)

/-- ITS FALSE NEIGHBOUR: 'it returns false'. Refute it at one input. -/
def simulOrderWrong : ChangeSpec := { name := "simulOrder", fn := fun _ => fun
  | [d] => { results := [.lit (.bool false)], args := [d] }
  | _ => none }
def SimulOrderWrongFalsely : Prop := simulOrderRow.holds Tryd.pinned (OpenSpec.ofChange simulOrderWrong)

/-- 'semblancelaw17.SimulMeets': WHATEVER THE INPUT: true; the input reads as it did. -/
def simulMeetsSpec : ChangeSpec := { name := "simulMeets", fn := fun _ => fun
  | [d] => { results := [.lit (.bool true)], args := [d] }
  | _ => none }
def simulMeetsRow : OpenClaim := { program := "ytbbjmompbmgnmaadoor", sum := "36fedb1978733540ca0c298ef2bf4f51c62d16617e2c7faf9e75c07eb640f365", func := "semblance/semblancelaw17.SimulMeets", spec := "simulMeets", inPlace := ["internal/reflectlite.ValueOf", "(internal/reflectlite.Value).Type", "(internal/reflectlite.Value).IsNil", "internal/reflectlite.TypeOf", "(internal/reflectlite.Value).Elem", "(internal/reflectlite.Value).Set"], unfollowed := true, recurses := true, named := ["semblance/api.ErrSystem", "semblance/api.ErrIndex", "semblance/api.ErrLong", "errors.errorType", "math/bits.deBruijn64tab"], plainKeys := false, apart := false, laid := [("math/bits.deBruijn64tab", laid_math_bits_deBruijn64tab), ("errors.errorType", laid_errors_errorType), ("semblance/api.ErrLong", laid_semblance_api_ErrLong), ("semblance/api.ErrIndex", laid_semblance_api_ErrIndex), ("semblance/api.ErrSystem", laid_semblance_api_ErrSystem)] }
def SimulMeetsSaid : Prop := simulMeetsRow.holds Tryd.pinned (OpenSpec.ofChange simulMeetsSpec)

/-- ITS FALSE NEIGHBOUR: 'it returns false'. Refute it at one input. -/
def simulMeetsWrong : ChangeSpec := { name := "simulMeets", fn := fun _ => fun
  | [d] => { results := [.lit (.bool false)], args := [d] }
  | _ => none }
def SimulMeetsWrongFalsely : Prop := simulMeetsRow.holds Tryd.pinned (OpenSpec.ofChange simulMeetsWrong)

/-- 'semblancelaw11.CyclesEdges': WHATEVER THE INPUT: true; the input reads as it did. -/
def cyclesEdgesSpec : ChangeSpec := { name := "cyclesEdges", fn := fun _ => fun
  | [d] => { results := [.lit (.bool true)], args := [d] }
  | _ => none }
def cyclesEdgesRow : OpenClaim := { program := "ytbbjmompbmgnmaadoor", sum := "36fedb1978733540ca0c298ef2bf4f51c62d16617e2c7faf9e75c07eb640f365", func := "semblance/semblancelaw11.CyclesEdges", spec := "cyclesEdges", inPlace := ["internal/reflectlite.ValueOf", "(internal/reflectlite.Value).Type", "(internal/reflectlite.Value).IsNil", "internal/reflectlite.TypeOf", "(internal/reflectlite.Value).Elem", "(internal/reflectlite.Value).Set"], unfollowed := true, recurses := true, named := ["semblance/api.ErrSystem", "errors.errorType"], plainKeys := false, apart := false, laid := [("errors.errorType", laid_errors_errorType), ("semblance/api.ErrSystem", laid_semblance_api_ErrSystem)] }
def CyclesEdgesSaid : Prop := cyclesEdgesRow.holds Tryd.pinned (OpenSpec.ofChange cyclesEdgesSpec)

/-- ITS FALSE NEIGHBOUR: 'it returns false'. Refute it at one input. -/
def cyclesEdgesWrong : ChangeSpec := { name := "cyclesEdges", fn := fun _ => fun
  | [d] => { results := [.lit (.bool false)], args := [d] }
  | _ => none }
def CyclesEdgesWrongFalsely : Prop := cyclesEdgesRow.holds Tryd.pinned (OpenSpec.ofChange cyclesEdgesWrong)

/-- 'semblancelaw7.GraphCuts': WHATEVER THE INPUT: true; the input reads as it did. -/
def graphCutsSpec : ChangeSpec := { name := "graphCuts", fn := fun _ => fun
  | [d] => { results := [.lit (.bool true)], args := [d] }
  | _ => none }
def graphCutsRow : OpenClaim := { program := "ytbbjmompbmgnmaadoor", sum := "36fedb1978733540ca0c298ef2bf4f51c62d16617e2c7faf9e75c07eb640f365", func := "semblance/semblancelaw7.GraphCuts", spec := "graphCuts", unfollowed := true, recurses := true, named := ["semblance/api.ErrSystem"], plainKeys := false, apart := false, laid := [("semblance/api.ErrSystem", laid_semblance_api_ErrSystem)] }
def GraphCutsSaid : Prop := graphCutsRow.holds Tryd.pinned (OpenSpec.ofChange graphCutsSpec)

/-- ITS FALSE NEIGHBOUR: 'it returns false'. Refute it at one input. -/
def graphCutsWrong : ChangeSpec := { name := "graphCuts", fn := fun _ => fun
  | [d] => { results := [.lit (.bool false)], args := [d] }
  | _ => none }
def GraphCutsWrongFalsely : Prop := graphCutsRow.holds Tryd.pinned (OpenSpec.ofChange graphCutsWrong)

/-- 'semblancelaw11.CyclesNone': WHATEVER THE INPUT: true; the input reads as it did. -/
def cyclesNoneSpec : ChangeSpec := { name := "cyclesNone", fn := fun _ => fun
  | [d] => { results := [.lit (.bool true)], args := [d] }
  | _ => none }
def cyclesNoneRow : OpenClaim := { program := "ytbbjmompbmgnmaadoor", sum := "36fedb1978733540ca0c298ef2bf4f51c62d16617e2c7faf9e75c07eb640f365", func := "semblance/semblancelaw11.CyclesNone", spec := "cyclesNone", inPlace := ["internal/reflectlite.ValueOf", "(internal/reflectlite.Value).Type", "(internal/reflectlite.Value).IsNil", "internal/reflectlite.TypeOf", "(internal/reflectlite.Value).Elem", "(internal/reflectlite.Value).Set"], unfollowed := true, recurses := true, named := ["semblance/api.ErrSystem", "errors.errorType"], plainKeys := false, apart := false, laid := [("errors.errorType", laid_errors_errorType), ("semblance/api.ErrSystem", laid_semblance_api_ErrSystem)] }
def CyclesNoneSaid : Prop := cyclesNoneRow.holds Tryd.pinned (OpenSpec.ofChange cyclesNoneSpec)

/-- ITS FALSE NEIGHBOUR: 'it returns false'. Refute it at one input. -/
def cyclesNoneWrong : ChangeSpec := { name := "cyclesNone", fn := fun _ => fun
  | [d] => { results := [.lit (.bool false)], args := [d] }
  | _ => none }
def CyclesNoneWrongFalsely : Prop := cyclesNoneRow.holds Tryd.pinned (OpenSpec.ofChange cyclesNoneWrong)

/- THE SECOND FORM. 'bulk': how many values and letters a reading holds, each counted each time it is reached (what is shared counts as often as it is met; a slice's spare places count too). A statement '..UptoSaid' is the law's where the arguments, and the package variables that the reading takes, are together of bulk at most 1048576: NARROWER than '..Said'. Prove '..Said' where nothing that the law and all that it calls make is longer than what came in: it says more and counts as full. Else prove '..UptoSaid'. A law counts once. -/
mutual
def uptoBulk {H : Type} : DataW H → Nat
  | .lit (.string bytes) => bytes.length + 1
  | .lit _ => 1
  | .nil => 1
  | .ptr d => uptoBulk d + 1
  | .slice elems spare => uptoBulkAll elems + uptoBulkAll spare + 1
  | .agg parts => uptoBulkAll parts + 1
  | .iface _ d => uptoBulk d + 1
  | .map entries => uptoBulkEntries entries + 1
  | .held _ => 1
def uptoBulkAll {H : Type} : List (DataW H) → Nat
  | [] => 0
  | d :: r => uptoBulk d + uptoBulkAll r
def uptoBulkEntries {H : Type} : List (Lit × DataW H) → Nat
  | [] => 0
  | x :: r => uptoBulkEntry x + uptoBulkEntries r
def uptoBulkEntry {H : Type} : Lit × DataW H → Nat
  | (.string bytes, d) => bytes.length + uptoBulk d + 1
  | (_, d) => uptoBulk d + 1
 end
def uptoSmall : (H : Type) → List (DataW H) → Bool := fun _ ds => decide (uptoBulkAll ds ≤ 1048576)
def OpenSpec.upto (s : _root_.Go.ChangeSpec) : _root_.Go.OpenSpec := { _root_.Go.OpenSpec.ofChange s with cond := some uptoSmall }

/-- 'semblancelaw19.WitnessFails', WHERE WHAT IT READS IS OF BULK AT MOST 1048576: true; the input reads as it did. -/
def witnessFailsUptoRow : OpenClaim := { program := "ytbbjmompbmgnmaadoor", sum := "36fedb1978733540ca0c298ef2bf4f51c62d16617e2c7faf9e75c07eb640f365", func := "semblance/semblancelaw19.WitnessFails", spec := "witnessFails", inPlace := ["internal/reflectlite.ValueOf", "(internal/reflectlite.Value).Type", "(internal/reflectlite.Value).IsNil", "internal/reflectlite.TypeOf", "(internal/reflectlite.Value).Elem", "(internal/reflectlite.Value).Set"], unfollowed := true, recurses := true, named := ["semblance/api.ErrClasses", "semblance/api.ErrSystem", "errors.errorType"], plainKeys := false, apart := false, laid := [("errors.errorType", laid_errors_errorType), ("semblance/api.ErrSystem", laid_semblance_api_ErrSystem), ("semblance/api.ErrClasses", laid_semblance_api_ErrClasses)], narrowed := true }
def WitnessFailsUptoSaid : Prop := witnessFailsUptoRow.holds Tryd.pinned (OpenSpec.upto witnessFailsSpec)

/-- 'semblancelaw17.SimulOrder', WHERE WHAT IT READS IS OF BULK AT MOST 1048576: true; the input reads as it did. -/
def simulOrderUptoRow : OpenClaim := { program := "ytbbjmompbmgnmaadoor", sum := "36fedb1978733540ca0c298ef2bf4f51c62d16617e2c7faf9e75c07eb640f365", func := "semblance/semblancelaw17.SimulOrder", spec := "simulOrder", inPlace := ["internal/reflectlite.ValueOf", "(internal/reflectlite.Value).Type", "(internal/reflectlite.Value).IsNil", "internal/reflectlite.TypeOf", "(internal/reflectlite.Value).Elem", "(internal/reflectlite.Value).Set"], unfollowed := true, recurses := true, named := ["semblance/api.ErrSystem", "semblance/api.ErrIndex", "semblance/api.ErrLong", "errors.errorType", "math/bits.deBruijn64tab"], plainKeys := false, apart := false, laid := [("math/bits.deBruijn64tab", laid_math_bits_deBruijn64tab), ("errors.errorType", laid_errors_errorType), ("semblance/api.ErrLong", laid_semblance_api_ErrLong), ("semblance/api.ErrIndex", laid_semblance_api_ErrIndex), ("semblance/api.ErrSystem", laid_semblance_api_ErrSystem)], narrowed := true }
def SimulOrderUptoSaid : Prop := simulOrderUptoRow.holds Tryd.pinned (OpenSpec.upto simulOrderSpec)

/-- 'semblancelaw17.SimulMeets', WHERE WHAT IT READS IS OF BULK AT MOST 1048576: true; the input reads as it did. -/
def simulMeetsUptoRow : OpenClaim := { program := "ytbbjmompbmgnmaadoor", sum := "36fedb1978733540ca0c298ef2bf4f51c62d16617e2c7faf9e75c07eb640f365", func := "semblance/semblancelaw17.SimulMeets", spec := "simulMeets", inPlace := ["internal/reflectlite.ValueOf", "(internal/reflectlite.Value).Type", "(internal/reflectlite.Value).IsNil", "internal/reflectlite.TypeOf", "(internal/reflectlite.Value).Elem", "(internal/reflectlite.Value).Set"], unfollowed := true, recurses := true, named := ["semblance/api.ErrSystem", "semblance/api.ErrIndex", "semblance/api.ErrLong", "errors.errorType", "math/bits.deBruijn64tab"], plainKeys := false, apart := false, laid := [("math/bits.deBruijn64tab", laid_math_bits_deBruijn64tab), ("errors.errorType", laid_errors_errorType), ("semblance/api.ErrLong", laid_semblance_api_ErrLong), ("semblance/api.ErrIndex", laid_semblance_api_ErrIndex), ("semblance/api.ErrSystem", laid_semblance_api_ErrSystem)], narrowed := true }
def SimulMeetsUptoSaid : Prop := simulMeetsUptoRow.holds Tryd.pinned (OpenSpec.upto simulMeetsSpec)

/-- 'semblancelaw11.CyclesEdges', WHERE WHAT IT READS IS OF BULK AT MOST 1048576: true; the input reads as it did. -/
def cyclesEdgesUptoRow : OpenClaim := { program := "ytbbjmompbmgnmaadoor", sum := "36fedb1978733540ca0c298ef2bf4f51c62d16617e2c7faf9e75c07eb640f365", func := "semblance/semblancelaw11.CyclesEdges", spec := "cyclesEdges", inPlace := ["internal/reflectlite.ValueOf", "(internal/reflectlite.Value).Type", "(internal/reflectlite.Value).IsNil", "internal/reflectlite.TypeOf", "(internal/reflectlite.Value).Elem", "(internal/reflectlite.Value).Set"], unfollowed := true, recurses := true, named := ["semblance/api.ErrSystem", "errors.errorType"], plainKeys := false, apart := false, laid := [("errors.errorType", laid_errors_errorType), ("semblance/api.ErrSystem", laid_semblance_api_ErrSystem)], narrowed := true }
def CyclesEdgesUptoSaid : Prop := cyclesEdgesUptoRow.holds Tryd.pinned (OpenSpec.upto cyclesEdgesSpec)

/-- 'semblancelaw7.GraphCuts', WHERE WHAT IT READS IS OF BULK AT MOST 1048576: true; the input reads as it did. -/
def graphCutsUptoRow : OpenClaim := { program := "ytbbjmompbmgnmaadoor", sum := "36fedb1978733540ca0c298ef2bf4f51c62d16617e2c7faf9e75c07eb640f365", func := "semblance/semblancelaw7.GraphCuts", spec := "graphCuts", unfollowed := true, recurses := true, named := ["semblance/api.ErrSystem"], plainKeys := false, apart := false, laid := [("semblance/api.ErrSystem", laid_semblance_api_ErrSystem)], narrowed := true }
def GraphCutsUptoSaid : Prop := graphCutsUptoRow.holds Tryd.pinned (OpenSpec.upto graphCutsSpec)

/-- 'semblancelaw11.CyclesNone', WHERE WHAT IT READS IS OF BULK AT MOST 1048576: true; the input reads as it did. -/
def cyclesNoneUptoRow : OpenClaim := { program := "ytbbjmompbmgnmaadoor", sum := "36fedb1978733540ca0c298ef2bf4f51c62d16617e2c7faf9e75c07eb640f365", func := "semblance/semblancelaw11.CyclesNone", spec := "cyclesNone", inPlace := ["internal/reflectlite.ValueOf", "(internal/reflectlite.Value).Type", "(internal/reflectlite.Value).IsNil", "internal/reflectlite.TypeOf", "(internal/reflectlite.Value).Elem", "(internal/reflectlite.Value).Set"], unfollowed := true, recurses := true, named := ["semblance/api.ErrSystem", "errors.errorType"], plainKeys := false, apart := false, laid := [("errors.errorType", laid_errors_errorType), ("semblance/api.ErrSystem", laid_semblance_api_ErrSystem)], narrowed := true }
def CyclesNoneUptoSaid : Prop := cyclesNoneUptoRow.holds Tryd.pinned (OpenSpec.upto cyclesNoneSpec)

end Rows
end Go.Proofs.YtbbjmompbmgnmaaDoor
