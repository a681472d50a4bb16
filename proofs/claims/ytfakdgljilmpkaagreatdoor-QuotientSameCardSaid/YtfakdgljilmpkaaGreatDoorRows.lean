/-
  NARROWER THAN 'FOR EVERY INPUT', by the rows' own cells (each row's printed sentence says how): WeakSilence: laid · StrongGauge: laid · StrongNamed: laid · StrongEdges: laid · StrongApart: laid · QuotientSame: laid · StrongRelates: laid · WitnessJoined: laid · SimulStrong: laid · StrongEnds: laid · WitnessSimulates: laid.
  DERIVED. THE GIVEN ROWS OF THIS SEAT. 11 by the template 'for every input the law returns true; each argument reads behind the call as it read before'; 0 by the template 'total and deterministic' (their statements: YtfakdgljilmpkaaGreatDoorTotals.lean).
  GIVEN WITH THE SEED: the statements are not yours to turn. If you find one false, say at which input.
  Laid BY PROGRAM, IN A SANDBOX (cutbox-rows.mjs): the forced cells as the released guide's own fill.sh prints them over the translation 2b3dff3b6d1854d1… (all of the seat's roots in one cut). By AI agents, Wed Nov 11 2026. No macro, syntax, notation, axiom, sorry.
-/
import Derived.Test.YtfakdgljilmpkaaGreatDoorChecked
import GoSem.Claim
import GoSem.ClaimJoined
import GoSem.ClaimMapViews
import Derived.JoinedTies
import Derived.KernelRfl
namespace Go.Proofs.YtfakdgljilmpkaaGreatDoor
/- THE CELL 'sum', in the pinned program and in every row, IS THE sha256 OF THE DUMP (.gsa) THAT YtfakdgljilmpkaaGreatDoorProg.lean LOADS. Nothing in Lean hashes anything: it is a label: what it is worth is what the hold of that sum in a sandbox is worth. -/
noncomputable def Tryz.pinned : Pinned := { name := "ytfakdgljilmpkaagreatdoor", sum := "2b3dff3b6d1854d1f4846e33f512b0bb39dd5bfc7a9a8dfdb8656465192d6432", checked := Tryz.checked }
namespace Rows
def none {H : Type} : Left H := { results := [], args := [] }

/- WHAT THE LISTED PACKAGE-LEVEL VARIABLES READ AS WHEN THE CALL BEGINS. Each datum BY PROGRAM (the guide's laid-datum.mjs) off the statement by which the dump's own 'gosem.cut.vars' lays the variable. In a bare row this is a premise. The card (YtfakdgljilmpkaaGreatDoorCards.lean) ties it to the program's text. -/
def laid_math_bits_deBruijn64tab {H : Type} : DataW H := .agg [.lit (.int .u8 0), .lit (.int .u8 1), .lit (.int .u8 56), .lit (.int .u8 2), .lit (.int .u8 57), .lit (.int .u8 49), .lit (.int .u8 28), .lit (.int .u8 3), .lit (.int .u8 61), .lit (.int .u8 58), .lit (.int .u8 42), .lit (.int .u8 50), .lit (.int .u8 38), .lit (.int .u8 29), .lit (.int .u8 17), .lit (.int .u8 4), .lit (.int .u8 62), .lit (.int .u8 47), .lit (.int .u8 59), .lit (.int .u8 36), .lit (.int .u8 45), .lit (.int .u8 43), .lit (.int .u8 51), .lit (.int .u8 22), .lit (.int .u8 53), .lit (.int .u8 39), .lit (.int .u8 33), .lit (.int .u8 30), .lit (.int .u8 24), .lit (.int .u8 18), .lit (.int .u8 12), .lit (.int .u8 5), .lit (.int .u8 63), .lit (.int .u8 55), .lit (.int .u8 48), .lit (.int .u8 27), .lit (.int .u8 60), .lit (.int .u8 41), .lit (.int .u8 37), .lit (.int .u8 16), .lit (.int .u8 46), .lit (.int .u8 35), .lit (.int .u8 44), .lit (.int .u8 21), .lit (.int .u8 52), .lit (.int .u8 32), .lit (.int .u8 23), .lit (.int .u8 11), .lit (.int .u8 54), .lit (.int .u8 26), .lit (.int .u8 40), .lit (.int .u8 15), .lit (.int .u8 34), .lit (.int .u8 20), .lit (.int .u8 31), .lit (.int .u8 10), .lit (.int .u8 25), .lit (.int .u8 14), .lit (.int .u8 19), .lit (.int .u8 9), .lit (.int .u8 13), .lit (.int .u8 8), .lit (.int .u8 7), .lit (.int .u8 6)]
def laid_errors_errorType {H : Type} : DataW H := .iface "internal/reflectlite.rtype" (.agg [.ptr (.lit (.string [101, 114, 114, 111, 114]))])
def laid_semblance_api_ErrLong {H : Type} : DataW H := .iface "*errors.errorString" (.ptr (.agg [.lit (.string [116, 111, 111, 32, 108, 111, 110, 103, 44, 32, 111, 114, 32, 116, 111, 111, 32, 109, 97, 110, 121])]))
def laid_semblance_api_ErrEdges {H : Type} : DataW H := .iface "*errors.errorString" (.ptr (.agg [.lit (.string [116, 111, 111, 32, 109, 97, 110, 121, 32, 101, 100, 103, 101, 115])]))
def laid_semblance_api_ErrSystem {H : Type} : DataW H := .iface "*errors.errorString" (.ptr (.agg [.lit (.string [97, 32, 115, 121, 115, 116, 101, 109, 32, 116, 104, 97, 116, 32, 105, 115, 32, 110, 111, 110, 101])]))
def laid_semblance_weak_errGreat {H : Type} : DataW H := .iface "*errors.errorString" (.ptr (.agg [.lit (.string [97, 32, 115, 121, 115, 116, 101, 109, 32, 116, 104, 97, 116, 32, 105, 115, 32, 116, 111, 111, 32, 103, 114, 101, 97, 116])]))
def laid_semblance_api_ErrArg {H : Type} : DataW H := .iface "*errors.errorString" (.ptr (.agg [.lit (.string [97, 110, 32, 97, 114, 103, 117, 109, 101, 110, 116, 32, 116, 104, 97, 116, 32, 99, 97, 110, 39, 116, 32, 98, 101])]))
def laid_semblance_api_ErrIndex {H : Type} : DataW H := .iface "*errors.errorString" (.ptr (.agg [.lit (.string [97, 32, 110, 117, 109, 98, 101, 114, 32, 116, 104, 97, 116, 32, 105, 115, 32, 110, 111, 116, 32, 116, 104, 101, 114, 101])]))
def laid_semblance_api_ErrClasses {H : Type} : DataW H := .iface "*errors.errorString" (.ptr (.agg [.lit (.string [99, 108, 97, 115, 115, 101, 115, 32, 116, 104, 97, 116, 32, 97, 114, 101, 32, 110, 111, 110, 101])]))
def laid_semblance_api_ErrWord {H : Type} : DataW H := .iface "*errors.errorString" (.ptr (.agg [.lit (.string [97, 32, 99, 104, 97, 114, 97, 99, 116, 101, 114, 32, 116, 104, 97, 116, 32, 98, 101, 103, 105, 110, 115, 32, 110, 111, 32, 119, 111, 114, 100])]))
def laid_semblance_api_ErrSyntax {H : Type} : DataW H := .iface "*errors.errorString" (.ptr (.agg [.lit (.string [97, 32, 119, 111, 114, 100, 32, 116, 104, 97, 116, 32, 99, 97, 110, 39, 116, 32, 115, 116, 97, 110, 100, 32, 116, 104, 101, 114, 101])]))
def laid_semblance_api_ErrDeep {H : Type} : DataW H := .iface "*errors.errorString" (.ptr (.agg [.lit (.string [98, 114, 97, 99, 107, 101, 116, 115, 32, 116, 104, 97, 116, 32, 115, 116, 97, 110, 100, 32, 116, 111, 111, 32, 100, 101, 101, 112])]))
def laid_semblance_api_ErrTwice {H : Type} : DataW H := .iface "*errors.errorString" (.ptr (.agg [.lit (.string [115, 111, 109, 101, 116, 104, 105, 110, 103, 32, 116, 104, 97, 116, 32, 115, 116, 97, 110, 100, 115, 32, 116, 104, 101, 114, 101, 32, 97, 108, 114, 101, 97, 100, 121])]))
def laid_semblance_api_ErrUnknown {H : Type} : DataW H := .iface "*errors.errorString" (.ptr (.agg [.lit (.string [97, 32, 110, 97, 109, 101, 32, 116, 104, 97, 116, 32, 105, 115, 32, 110, 111, 116, 32, 116, 104, 101, 114, 101])]))
def laid_semblance_api_ErrSilent {H : Type} : DataW H := .iface "*errors.errorString" (.ptr (.agg [.lit (.string [116, 104, 101, 32, 115, 105, 108, 101, 110, 116, 32, 97, 99, 116, 105, 111, 110, 44, 32, 119, 104, 101, 114, 101, 32, 105, 116, 32, 99, 97, 110, 39, 116, 32, 115, 116, 97, 110, 100])]))
def laid_semblance_api_ErrUnguarded {H : Type} : DataW H := .iface "*errors.errorString" (.ptr (.agg [.lit (.string [97, 32, 99, 111, 110, 115, 116, 97, 110, 116, 32, 116, 104, 97, 116, 32, 110, 101, 101, 100, 115, 32, 105, 116, 115, 101, 108, 102, 32, 102, 105, 114, 115, 116])]))
def laid_semblance_api_ErrSteps {H : Type} : DataW H := .iface "*errors.errorString" (.ptr (.agg [.lit (.string [97, 32, 116, 101, 114, 109, 32, 119, 105, 116, 104, 32, 116, 111, 111, 32, 109, 97, 110, 121, 32, 115, 116, 101, 112, 115])]))
def laid_semblance_api_ErrStates {H : Type} : DataW H := .iface "*errors.errorString" (.ptr (.agg [.lit (.string [116, 111, 111, 32, 109, 97, 110, 121, 32, 115, 116, 97, 116, 101, 115])]))
def laid_semblance_api_ErrFormula {H : Type} : DataW H := .iface "*errors.errorString" (.ptr (.agg [.lit (.string [97, 32, 102, 111, 114, 109, 117, 108, 97, 32, 116, 104, 97, 116, 32, 105, 115, 32, 110, 111, 110, 101])]))
def laid_semblance_api_ErrLimit {H : Type} : DataW H := .iface "*errors.errorString" (.ptr (.agg [.lit (.string [97, 32, 102, 111, 114, 109, 117, 108, 97, 32, 116, 104, 97, 116, 32, 119, 111, 117, 108, 100, 32, 98, 101, 32, 116, 111, 111, 32, 103, 114, 101, 97, 116])]))
def laid_semblance_api_ErrNone {H : Type} : DataW H := .iface "*errors.errorString" (.ptr (.agg [.lit (.string [116, 104, 101, 114, 101, 32, 105, 115, 32, 110, 111, 110, 101])]))
def laid_semblance_api_ErrScript {H : Type} : DataW H := .iface "*errors.errorString" (.ptr (.agg [.lit (.string [97, 32, 115, 99, 114, 105, 112, 116, 32, 116, 104, 97, 116, 32, 105, 115, 32, 110, 111, 110, 101])]))

/-- 'semblancelaw13.WeakSilence': WHATEVER THE INPUT: true; the input reads as it did. -/
def weakSilenceSpec : ChangeSpec := { name := "weakSilence", fn := fun _ => fun
  | [d] => { results := [.lit (.bool true)], args := [d] }
  | _ => none }
def weakSilenceRow : OpenClaim := { program := "ytfakdgljilmpkaagreatdoor", sum := "2b3dff3b6d1854d1f4846e33f512b0bb39dd5bfc7a9a8dfdb8656465192d6432", func := "semblance/semblancelaw13.WeakSilence", spec := "weakSilence", inPlace := ["internal/reflectlite.ValueOf", "(internal/reflectlite.Value).Type", "(internal/reflectlite.Value).IsNil", "internal/reflectlite.TypeOf", "(internal/reflectlite.Value).Elem", "(internal/reflectlite.Value).Set", "internal/abi.NoEscape"], unfollowed := true, recurses := true, named := ["semblance/weak.errGreat", "semblance/api.ErrLong", "semblance/api.ErrSystem", "errors.errorType", "math/bits.deBruijn64tab", "semblance/api.ErrEdges"], plainKeys := false, apart := false, laid := [("math/bits.deBruijn64tab", laid_math_bits_deBruijn64tab), ("errors.errorType", laid_errors_errorType), ("semblance/api.ErrLong", laid_semblance_api_ErrLong), ("semblance/api.ErrEdges", laid_semblance_api_ErrEdges), ("semblance/api.ErrSystem", laid_semblance_api_ErrSystem), ("semblance/weak.errGreat", laid_semblance_weak_errGreat)] }
def WeakSilenceSaid : Prop := weakSilenceRow.holds Tryz.pinned (OpenSpec.ofChange weakSilenceSpec)

/-- ITS FALSE NEIGHBOUR: 'it returns false'. Refute it at one input. -/
def weakSilenceWrong : ChangeSpec := { name := "weakSilence", fn := fun _ => fun
  | [d] => { results := [.lit (.bool false)], args := [d] }
  | _ => none }
def WeakSilenceWrongFalsely : Prop := weakSilenceRow.holds Tryz.pinned (OpenSpec.ofChange weakSilenceWrong)

/-- 'semblancelaw9.StrongGauge': WHATEVER THE INPUT: true; the input reads as it did. -/
def strongGaugeSpec : ChangeSpec := { name := "strongGauge", fn := fun _ => fun
  | [d] => { results := [.lit (.bool true)], args := [d] }
  | _ => none }
def strongGaugeRow : OpenClaim := { program := "ytfakdgljilmpkaagreatdoor", sum := "2b3dff3b6d1854d1f4846e33f512b0bb39dd5bfc7a9a8dfdb8656465192d6432", func := "semblance/semblancelaw9.StrongGauge", spec := "strongGauge", inPlace := ["internal/reflectlite.ValueOf", "(internal/reflectlite.Value).Type", "(internal/reflectlite.Value).IsNil", "internal/reflectlite.TypeOf", "(internal/reflectlite.Value).Elem", "(internal/reflectlite.Value).Set"], unfollowed := true, recurses := true, named := ["semblance/api.ErrSystem", "errors.errorType", "semblance/api.ErrArg", "semblance/api.ErrIndex", "semblance/api.ErrClasses"], plainKeys := false, apart := false, laid := [("errors.errorType", laid_errors_errorType), ("semblance/api.ErrArg", laid_semblance_api_ErrArg), ("semblance/api.ErrIndex", laid_semblance_api_ErrIndex), ("semblance/api.ErrSystem", laid_semblance_api_ErrSystem), ("semblance/api.ErrClasses", laid_semblance_api_ErrClasses)] }
def StrongGaugeSaid : Prop := strongGaugeRow.holds Tryz.pinned (OpenSpec.ofChange strongGaugeSpec)

/-- ITS FALSE NEIGHBOUR: 'it returns false'. Refute it at one input. -/
def strongGaugeWrong : ChangeSpec := { name := "strongGauge", fn := fun _ => fun
  | [d] => { results := [.lit (.bool false)], args := [d] }
  | _ => none }
def StrongGaugeWrongFalsely : Prop := strongGaugeRow.holds Tryz.pinned (OpenSpec.ofChange strongGaugeWrong)

/-- 'semblancelaw9.StrongNamed': WHATEVER THE INPUT: true; the input reads as it did. -/
def strongNamedSpec : ChangeSpec := { name := "strongNamed", fn := fun _ => fun
  | [d1, d2] => { results := [.lit (.bool true)], args := [d1, d2] }
  | _ => none }
def strongNamedRow : OpenClaim := { program := "ytfakdgljilmpkaagreatdoor", sum := "2b3dff3b6d1854d1f4846e33f512b0bb39dd5bfc7a9a8dfdb8656465192d6432", func := "semblance/semblancelaw9.StrongNamed", spec := "strongNamed", inPlace := ["internal/reflectlite.ValueOf", "(internal/reflectlite.Value).Type", "(internal/reflectlite.Value).IsNil", "internal/reflectlite.TypeOf", "(internal/reflectlite.Value).Elem", "(internal/reflectlite.Value).Set"], unfollowed := true, recurses := true, named := ["semblance/api.ErrSystem", "errors.errorType", "semblance/api.ErrArg", "semblance/api.ErrIndex", "semblance/api.ErrClasses"], plainKeys := false, apart := false, laid := [("errors.errorType", laid_errors_errorType), ("semblance/api.ErrArg", laid_semblance_api_ErrArg), ("semblance/api.ErrIndex", laid_semblance_api_ErrIndex), ("semblance/api.ErrSystem", laid_semblance_api_ErrSystem), ("semblance/api.ErrClasses", laid_semblance_api_ErrClasses)] }
def StrongNamedSaid : Prop := strongNamedRow.holds Tryz.pinned (OpenSpec.ofChange strongNamedSpec)

/-- ITS FALSE NEIGHBOUR: 'it returns false'. Refute it at one input. -/
def strongNamedWrong : ChangeSpec := { name := "strongNamed", fn := fun _ => fun
  | [d1, d2] => { results := [.lit (.bool false)], args := [d1, d2] }
  | _ => none }
def StrongNamedWrongFalsely : Prop := strongNamedRow.holds Tryz.pinned (OpenSpec.ofChange strongNamedWrong)

/-- 'semblancelaw9.StrongEdges': WHATEVER THE INPUT: true; the input reads as it did. -/
def strongEdgesSpec : ChangeSpec := { name := "strongEdges", fn := fun _ => fun
  | [d1, d2] => { results := [.lit (.bool true)], args := [d1, d2] }
  | _ => none }
def strongEdgesRow : OpenClaim := { program := "ytfakdgljilmpkaagreatdoor", sum := "2b3dff3b6d1854d1f4846e33f512b0bb39dd5bfc7a9a8dfdb8656465192d6432", func := "semblance/semblancelaw9.StrongEdges", spec := "strongEdges", inPlace := ["internal/reflectlite.ValueOf", "(internal/reflectlite.Value).Type", "(internal/reflectlite.Value).IsNil", "internal/reflectlite.TypeOf", "(internal/reflectlite.Value).Elem", "(internal/reflectlite.Value).Set"], unfollowed := true, recurses := true, named := ["semblance/api.ErrSystem", "errors.errorType", "semblance/api.ErrArg", "semblance/api.ErrIndex", "semblance/api.ErrClasses"], plainKeys := false, apart := false, laid := [("errors.errorType", laid_errors_errorType), ("semblance/api.ErrArg", laid_semblance_api_ErrArg), ("semblance/api.ErrIndex", laid_semblance_api_ErrIndex), ("semblance/api.ErrSystem", laid_semblance_api_ErrSystem), ("semblance/api.ErrClasses", laid_semblance_api_ErrClasses)] }
def StrongEdgesSaid : Prop := strongEdgesRow.holds Tryz.pinned (OpenSpec.ofChange strongEdgesSpec)

/-- ITS FALSE NEIGHBOUR: 'it returns false'. Refute it at one input. -/
def strongEdgesWrong : ChangeSpec := { name := "strongEdges", fn := fun _ => fun
  | [d1, d2] => { results := [.lit (.bool false)], args := [d1, d2] }
  | _ => none }
def StrongEdgesWrongFalsely : Prop := strongEdgesRow.holds Tryz.pinned (OpenSpec.ofChange strongEdgesWrong)

/-- 'semblancelaw9.StrongApart': WHATEVER THE INPUT: true; the input reads as it did. -/
def strongApartSpec : ChangeSpec := { name := "strongApart", fn := fun _ => fun
  | [d] => { results := [.lit (.bool true)], args := [d] }
  | _ => none }
def strongApartRow : OpenClaim := { program := "ytfakdgljilmpkaagreatdoor", sum := "2b3dff3b6d1854d1f4846e33f512b0bb39dd5bfc7a9a8dfdb8656465192d6432", func := "semblance/semblancelaw9.StrongApart", spec := "strongApart", inPlace := ["internal/reflectlite.ValueOf", "(internal/reflectlite.Value).Type", "(internal/reflectlite.Value).IsNil", "internal/reflectlite.TypeOf", "(internal/reflectlite.Value).Elem", "(internal/reflectlite.Value).Set"], unfollowed := true, recurses := true, named := ["semblance/api.ErrSystem", "errors.errorType", "semblance/api.ErrArg", "semblance/api.ErrIndex", "semblance/api.ErrClasses"], plainKeys := false, apart := false, laid := [("errors.errorType", laid_errors_errorType), ("semblance/api.ErrArg", laid_semblance_api_ErrArg), ("semblance/api.ErrIndex", laid_semblance_api_ErrIndex), ("semblance/api.ErrSystem", laid_semblance_api_ErrSystem), ("semblance/api.ErrClasses", laid_semblance_api_ErrClasses)] }
def StrongApartSaid : Prop := strongApartRow.holds Tryz.pinned (OpenSpec.ofChange strongApartSpec)

/-- ITS FALSE NEIGHBOUR: 'it returns false'. Refute it at one input. -/
def strongApartWrong : ChangeSpec := { name := "strongApart", fn := fun _ => fun
  | [d] => { results := [.lit (.bool false)], args := [d] }
  | _ => none }
def StrongApartWrongFalsely : Prop := strongApartRow.holds Tryz.pinned (OpenSpec.ofChange strongApartWrong)

/-- 'semblancelaw14.QuotientSame': WHATEVER THE INPUT: true; the input reads as it did. -/
def quotientSameSpec : ChangeSpec := { name := "quotientSame", fn := fun _ => fun
  | [d1, d2] => { results := [.lit (.bool true)], args := [d1, d2] }
  | _ => none }
def quotientSameRow : OpenClaim := { program := "ytfakdgljilmpkaagreatdoor", sum := "2b3dff3b6d1854d1f4846e33f512b0bb39dd5bfc7a9a8dfdb8656465192d6432", func := "semblance/semblancelaw14.QuotientSame", spec := "quotientSame", inPlace := ["internal/reflectlite.ValueOf", "(internal/reflectlite.Value).Type", "(internal/reflectlite.Value).IsNil", "internal/reflectlite.TypeOf", "(internal/reflectlite.Value).Elem", "(internal/reflectlite.Value).Set"], unfollowed := true, recurses := true, named := ["semblance/api.ErrSystem", "errors.errorType", "semblance/api.ErrClasses", "semblance/api.ErrArg", "semblance/api.ErrIndex"], plainKeys := false, apart := false, laid := [("errors.errorType", laid_errors_errorType), ("semblance/api.ErrArg", laid_semblance_api_ErrArg), ("semblance/api.ErrIndex", laid_semblance_api_ErrIndex), ("semblance/api.ErrSystem", laid_semblance_api_ErrSystem), ("semblance/api.ErrClasses", laid_semblance_api_ErrClasses)] }
def QuotientSameSaid : Prop := quotientSameRow.holds Tryz.pinned (OpenSpec.ofChange quotientSameSpec)

/-- ITS FALSE NEIGHBOUR: 'it returns false'. Refute it at one input. -/
def quotientSameWrong : ChangeSpec := { name := "quotientSame", fn := fun _ => fun
  | [d1, d2] => { results := [.lit (.bool false)], args := [d1, d2] }
  | _ => none }
def QuotientSameWrongFalsely : Prop := quotientSameRow.holds Tryz.pinned (OpenSpec.ofChange quotientSameWrong)

/-- 'semblancelaw9.StrongRelates': WHATEVER THE INPUT: true; the input reads as it did. -/
def strongRelatesSpec : ChangeSpec := { name := "strongRelates", fn := fun _ => fun
  | [d] => { results := [.lit (.bool true)], args := [d] }
  | _ => none }
def strongRelatesRow : OpenClaim := { program := "ytfakdgljilmpkaagreatdoor", sum := "2b3dff3b6d1854d1f4846e33f512b0bb39dd5bfc7a9a8dfdb8656465192d6432", func := "semblance/semblancelaw9.StrongRelates", spec := "strongRelates", inPlace := ["internal/reflectlite.ValueOf", "(internal/reflectlite.Value).Type", "(internal/reflectlite.Value).IsNil", "internal/reflectlite.TypeOf", "(internal/reflectlite.Value).Elem", "(internal/reflectlite.Value).Set"], unfollowed := true, recurses := true, named := ["semblance/api.ErrSystem", "errors.errorType", "semblance/api.ErrArg", "semblance/api.ErrIndex", "semblance/api.ErrClasses"], plainKeys := false, apart := false, laid := [("errors.errorType", laid_errors_errorType), ("semblance/api.ErrArg", laid_semblance_api_ErrArg), ("semblance/api.ErrIndex", laid_semblance_api_ErrIndex), ("semblance/api.ErrSystem", laid_semblance_api_ErrSystem), ("semblance/api.ErrClasses", laid_semblance_api_ErrClasses)] }
def StrongRelatesSaid : Prop := strongRelatesRow.holds Tryz.pinned (OpenSpec.ofChange strongRelatesSpec)

/-- ITS FALSE NEIGHBOUR: 'it returns false'. Refute it at one input. -/
def strongRelatesWrong : ChangeSpec := { name := "strongRelates", fn := fun _ => fun
  | [d] => { results := [.lit (.bool false)], args := [d] }
  | _ => none }
def StrongRelatesWrongFalsely : Prop := strongRelatesRow.holds Tryz.pinned (OpenSpec.ofChange strongRelatesWrong)

/-- 'semblancelaw19.WitnessJoined': WHATEVER THE INPUT: true; the input reads as it did. -/
def witnessJoinedSpec : ChangeSpec := { name := "witnessJoined", fn := fun _ => fun
  | [d1, d2, d3] => { results := [.lit (.bool true)], args := [d1, d2, d3] }
  | _ => none }
def witnessJoinedRow : OpenClaim := { program := "ytfakdgljilmpkaagreatdoor", sum := "2b3dff3b6d1854d1f4846e33f512b0bb39dd5bfc7a9a8dfdb8656465192d6432", func := "semblance/semblancelaw19.WitnessJoined", spec := "witnessJoined", inPlace := ["internal/reflectlite.ValueOf", "(internal/reflectlite.Value).Type", "(internal/reflectlite.Value).IsNil", "internal/reflectlite.TypeOf", "(internal/reflectlite.Value).Elem", "(internal/reflectlite.Value).Set"], unfollowed := true, recurses := true, named := ["semblance/api.ErrClasses", "semblance/api.ErrSystem", "errors.errorType", "semblance/api.ErrArg", "semblance/api.ErrIndex"], plainKeys := false, apart := false, laid := [("errors.errorType", laid_errors_errorType), ("semblance/api.ErrArg", laid_semblance_api_ErrArg), ("semblance/api.ErrIndex", laid_semblance_api_ErrIndex), ("semblance/api.ErrSystem", laid_semblance_api_ErrSystem), ("semblance/api.ErrClasses", laid_semblance_api_ErrClasses)] }
def WitnessJoinedSaid : Prop := witnessJoinedRow.holds Tryz.pinned (OpenSpec.ofChange witnessJoinedSpec)

/-- ITS FALSE NEIGHBOUR: 'it returns false'. Refute it at one input. -/
def witnessJoinedWrong : ChangeSpec := { name := "witnessJoined", fn := fun _ => fun
  | [d1, d2, d3] => { results := [.lit (.bool false)], args := [d1, d2, d3] }
  | _ => none }
def WitnessJoinedWrongFalsely : Prop := witnessJoinedRow.holds Tryz.pinned (OpenSpec.ofChange witnessJoinedWrong)

/-- 'semblancelaw17.SimulStrong': WHATEVER THE INPUT: true; the input reads as it did. -/
def simulStrongSpec : ChangeSpec := { name := "simulStrong", fn := fun _ => fun
  | [d1, d2] => { results := [.lit (.bool true)], args := [d1, d2] }
  | _ => none }
def simulStrongRow : OpenClaim := { program := "ytfakdgljilmpkaagreatdoor", sum := "2b3dff3b6d1854d1f4846e33f512b0bb39dd5bfc7a9a8dfdb8656465192d6432", func := "semblance/semblancelaw17.SimulStrong", spec := "simulStrong", inPlace := ["internal/reflectlite.ValueOf", "(internal/reflectlite.Value).Type", "(internal/reflectlite.Value).IsNil", "internal/reflectlite.TypeOf", "(internal/reflectlite.Value).Elem", "(internal/reflectlite.Value).Set"], unfollowed := true, recurses := true, named := ["semblance/api.ErrSystem", "semblance/api.ErrIndex", "semblance/api.ErrLong", "errors.errorType", "math/bits.deBruijn64tab", "semblance/api.ErrArg"], plainKeys := false, apart := false, laid := [("math/bits.deBruijn64tab", laid_math_bits_deBruijn64tab), ("errors.errorType", laid_errors_errorType), ("semblance/api.ErrArg", laid_semblance_api_ErrArg), ("semblance/api.ErrLong", laid_semblance_api_ErrLong), ("semblance/api.ErrIndex", laid_semblance_api_ErrIndex), ("semblance/api.ErrSystem", laid_semblance_api_ErrSystem)] }
def SimulStrongSaid : Prop := simulStrongRow.holds Tryz.pinned (OpenSpec.ofChange simulStrongSpec)

/-- ITS FALSE NEIGHBOUR: 'it returns false'. Refute it at one input. -/
def simulStrongWrong : ChangeSpec := { name := "simulStrong", fn := fun _ => fun
  | [d1, d2] => { results := [.lit (.bool false)], args := [d1, d2] }
  | _ => none }
def SimulStrongWrongFalsely : Prop := simulStrongRow.holds Tryz.pinned (OpenSpec.ofChange simulStrongWrong)

/-- 'semblancelaw9.StrongEnds': WHATEVER THE INPUT: true; the input reads as it did. -/
def strongEndsSpec : ChangeSpec := { name := "strongEnds", fn := fun _ => fun
  | [d1, d2] => { results := [.lit (.bool true)], args := [d1, d2] }
  | _ => none }
def strongEndsRow : OpenClaim := { program := "ytfakdgljilmpkaagreatdoor", sum := "2b3dff3b6d1854d1f4846e33f512b0bb39dd5bfc7a9a8dfdb8656465192d6432", func := "semblance/semblancelaw9.StrongEnds", spec := "strongEnds", inPlace := ["internal/reflectlite.ValueOf", "(internal/reflectlite.Value).Type", "(internal/reflectlite.Value).IsNil", "internal/reflectlite.TypeOf", "(internal/reflectlite.Value).Elem", "(internal/reflectlite.Value).Set"], unfollowed := true, recurses := true, named := ["semblance/api.ErrSystem", "errors.errorType", "semblance/api.ErrArg", "semblance/api.ErrIndex", "semblance/api.ErrClasses", "semblance/api.ErrLong", "semblance/api.ErrWord", "semblance/api.ErrSyntax", "semblance/api.ErrDeep", "semblance/api.ErrTwice", "semblance/api.ErrUnknown", "semblance/api.ErrSilent", "semblance/api.ErrUnguarded", "semblance/api.ErrSteps", "semblance/api.ErrStates", "semblance/api.ErrEdges", "semblance/api.ErrFormula", "semblance/api.ErrLimit", "semblance/api.ErrNone", "semblance/api.ErrScript"], plainKeys := false, apart := false, laid := [("errors.errorType", laid_errors_errorType), ("semblance/api.ErrArg", laid_semblance_api_ErrArg), ("semblance/api.ErrLong", laid_semblance_api_ErrLong), ("semblance/api.ErrIndex", laid_semblance_api_ErrIndex), ("semblance/api.ErrWord", laid_semblance_api_ErrWord), ("semblance/api.ErrSyntax", laid_semblance_api_ErrSyntax), ("semblance/api.ErrDeep", laid_semblance_api_ErrDeep), ("semblance/api.ErrTwice", laid_semblance_api_ErrTwice), ("semblance/api.ErrUnknown", laid_semblance_api_ErrUnknown), ("semblance/api.ErrSilent", laid_semblance_api_ErrSilent), ("semblance/api.ErrUnguarded", laid_semblance_api_ErrUnguarded), ("semblance/api.ErrSteps", laid_semblance_api_ErrSteps), ("semblance/api.ErrStates", laid_semblance_api_ErrStates), ("semblance/api.ErrEdges", laid_semblance_api_ErrEdges), ("semblance/api.ErrSystem", laid_semblance_api_ErrSystem), ("semblance/api.ErrClasses", laid_semblance_api_ErrClasses), ("semblance/api.ErrFormula", laid_semblance_api_ErrFormula), ("semblance/api.ErrLimit", laid_semblance_api_ErrLimit), ("semblance/api.ErrNone", laid_semblance_api_ErrNone), ("semblance/api.ErrScript", laid_semblance_api_ErrScript)] }
def StrongEndsSaid : Prop := strongEndsRow.holds Tryz.pinned (OpenSpec.ofChange strongEndsSpec)

/-- ITS FALSE NEIGHBOUR: 'it returns false'. Refute it at one input. -/
def strongEndsWrong : ChangeSpec := { name := "strongEnds", fn := fun _ => fun
  | [d1, d2] => { results := [.lit (.bool false)], args := [d1, d2] }
  | _ => none }
def StrongEndsWrongFalsely : Prop := strongEndsRow.holds Tryz.pinned (OpenSpec.ofChange strongEndsWrong)

/-- 'semblancelaw19.WitnessSimulates': WHATEVER THE INPUT: true; the input reads as it did. -/
def witnessSimulatesSpec : ChangeSpec := { name := "witnessSimulates", fn := fun _ => fun
  | [d] => { results := [.lit (.bool true)], args := [d] }
  | _ => none }
def witnessSimulatesRow : OpenClaim := { program := "ytfakdgljilmpkaagreatdoor", sum := "2b3dff3b6d1854d1f4846e33f512b0bb39dd5bfc7a9a8dfdb8656465192d6432", func := "semblance/semblancelaw19.WitnessSimulates", spec := "witnessSimulates", inPlace := ["internal/reflectlite.ValueOf", "(internal/reflectlite.Value).Type", "(internal/reflectlite.Value).IsNil", "internal/reflectlite.TypeOf", "(internal/reflectlite.Value).Elem", "(internal/reflectlite.Value).Set"], unfollowed := true, recurses := true, named := ["semblance/api.ErrClasses", "semblance/api.ErrSystem", "errors.errorType", "semblance/api.ErrLong", "math/bits.deBruijn64tab", "semblance/api.ErrArg", "semblance/api.ErrIndex"], plainKeys := false, apart := false, laid := [("math/bits.deBruijn64tab", laid_math_bits_deBruijn64tab), ("errors.errorType", laid_errors_errorType), ("semblance/api.ErrArg", laid_semblance_api_ErrArg), ("semblance/api.ErrLong", laid_semblance_api_ErrLong), ("semblance/api.ErrIndex", laid_semblance_api_ErrIndex), ("semblance/api.ErrSystem", laid_semblance_api_ErrSystem), ("semblance/api.ErrClasses", laid_semblance_api_ErrClasses)] }
def WitnessSimulatesSaid : Prop := witnessSimulatesRow.holds Tryz.pinned (OpenSpec.ofChange witnessSimulatesSpec)

/-- ITS FALSE NEIGHBOUR: 'it returns false'. Refute it at one input. -/
def witnessSimulatesWrong : ChangeSpec := { name := "witnessSimulates", fn := fun _ => fun
  | [d] => { results := [.lit (.bool false)], args := [d] }
  | _ => none }
def WitnessSimulatesWrongFalsely : Prop := witnessSimulatesRow.holds Tryz.pinned (OpenSpec.ofChange witnessSimulatesWrong)

/- THE SECOND FORM. 'bulk': how many values and letters a reading holds, each counted each time it is reached (what is shared counts as often as it is met; a slice's spare places count too). A statement '..UptoSaid' is the law's where the arguments, and the package variables that the reading takes, are together of bulk at most 1048576: NARROWER than '..Said'. Prove '..Said' where nothing that the law and all that it calls make is longer than what came in: it says more and counts as full. Else prove '..UptoSaid'. A law counts once. -/
mutual
def uptoBulk {H : Type} : DataW H → Nat
  | .lit (.string bytes) => bytes.length + 1
  | .lit _ => 1
  | .nil => 1
  | .ptr d => uptoBulk d + 1
  | .slice elems spare => uptoBulkAll elems + uptoBulkAll spare + 1
  | .agg parts => uptoBulkAll parts + 1
  | .iface _ d => uptoBulk d + 1
  | .map entries => uptoBulkEntries entries + 1
  | .held _ => 1
def uptoBulkAll {H : Type} : List (DataW H) → Nat
  | [] => 0
  | d :: r => uptoBulk d + uptoBulkAll r
def uptoBulkEntries {H : Type} : List (Lit × DataW H) → Nat
  | [] => 0
  | x :: r => uptoBulkEntry x + uptoBulkEntries r
def uptoBulkEntry {H : Type} : Lit × DataW H → Nat
  | (.string bytes, d) => bytes.length + uptoBulk d + 1
  | (_, d) => uptoBulk d + 1
 end
def uptoSmall : (H : Type) → List (DataW H) → Bool := fun _ ds => decide (uptoBulkAll ds ≤ 1048576)
def OpenSpec.upto (s : _root_.Go.ChangeSpec) : _root_.Go.OpenSpec := { _root_.Go.OpenSpec.ofChange s with cond := some uptoSmall }

/-- 'semblancelaw13.WeakSilence', WHERE WHAT IT READS IS OF BULK AT MOST 1048576: true; the input reads as it did. -/
def weakSilenceUptoRow : OpenClaim := { program := "ytfakdgljilmpkaagreatdoor", sum := "2b3dff3b6d1854d1f4846e33f512b0bb39dd5bfc7a9a8dfdb8656465192d6432", func := "semblance/semblancelaw13.WeakSilence", spec := "weakSilence", inPlace := ["internal/reflectlite.ValueOf", "(internal/reflectlite.Value).Type", "(internal/reflectlite.Value).IsNil", "internal/reflectlite.TypeOf", "(internal/reflectlite.Value).Elem", "(internal/reflectlite.Value).Set", "internal/abi.NoEscape"], unfollowed := true, recurses := true, named := ["semblance/weak.errGreat", "semblance/api.ErrLong", "semblance/api.ErrSystem", "errors.errorType", "math/bits.deBruijn64tab", "semblance/api.ErrEdges"], plainKeys := false, apart := false, laid := [("math/bits.deBruijn64tab", laid_math_bits_deBruijn64tab), ("errors.errorType", laid_errors_errorType), ("semblance/api.ErrLong", laid_semblance_api_ErrLong), ("semblance/api.ErrEdges", laid_semblance_api_ErrEdges), ("semblance/api.ErrSystem", laid_semblance_api_ErrSystem), ("semblance/weak.errGreat", laid_semblance_weak_errGreat)], narrowed := true }
def WeakSilenceUptoSaid : Prop := weakSilenceUptoRow.holds Tryz.pinned (OpenSpec.upto weakSilenceSpec)

/-- 'semblancelaw9.StrongGauge', WHERE WHAT IT READS IS OF BULK AT MOST 1048576: true; the input reads as it did. -/
def strongGaugeUptoRow : OpenClaim := { program := "ytfakdgljilmpkaagreatdoor", sum := "2b3dff3b6d1854d1f4846e33f512b0bb39dd5bfc7a9a8dfdb8656465192d6432", func := "semblance/semblancelaw9.StrongGauge", spec := "strongGauge", inPlace := ["internal/reflectlite.ValueOf", "(internal/reflectlite.Value).Type", "(internal/reflectlite.Value).IsNil", "internal/reflectlite.TypeOf", "(internal/reflectlite.Value).Elem", "(internal/reflectlite.Value).Set"], unfollowed := true, recurses := true, named := ["semblance/api.ErrSystem", "errors.errorType", "semblance/api.ErrArg", "semblance/api.ErrIndex", "semblance/api.ErrClasses"], plainKeys := false, apart := false, laid := [("errors.errorType", laid_errors_errorType), ("semblance/api.ErrArg", laid_semblance_api_ErrArg), ("semblance/api.ErrIndex", laid_semblance_api_ErrIndex), ("semblance/api.ErrSystem", laid_semblance_api_ErrSystem), ("semblance/api.ErrClasses", laid_semblance_api_ErrClasses)], narrowed := true }
def StrongGaugeUptoSaid : Prop := strongGaugeUptoRow.holds Tryz.pinned (OpenSpec.upto strongGaugeSpec)

/-- 'semblancelaw9.StrongNamed', WHERE WHAT IT READS IS OF BULK AT MOST 1048576: true; the input reads as it did. -/
def strongNamedUptoRow : OpenClaim := { program := "ytfakdgljilmpkaagreatdoor", sum := "2b3dff3b6d1854d1f4846e33f512b0bb39dd5bfc7a9a8dfdb8656465192d6432", func := "semblance/semblancelaw9.StrongNamed", spec := "strongNamed", inPlace := ["internal/reflectlite.ValueOf", "(internal/reflectlite.Value).Type", "(internal/reflectlite.Value).IsNil", "internal/reflectlite.TypeOf", "(internal/reflectlite.Value).Elem", "(internal/reflectlite.Value).Set"], unfollowed := true, recurses := true, named := ["semblance/api.ErrSystem", "errors.errorType", "semblance/api.ErrArg", "semblance/api.ErrIndex", "semblance/api.ErrClasses"], plainKeys := false, apart := false, laid := [("errors.errorType", laid_errors_errorType), ("semblance/api.ErrArg", laid_semblance_api_ErrArg), ("semblance/api.ErrIndex", laid_semblance_api_ErrIndex), ("semblance/api.ErrSystem", laid_semblance_api_ErrSystem), ("semblance/api.ErrClasses", laid_semblance_api_ErrClasses)], narrowed := true }
def StrongNamedUptoSaid : Prop := strongNamedUptoRow.holds Tryz.pinned (OpenSpec.upto strongNamedSpec)

/-- 'semblancelaw9.StrongEdges', WHERE WHAT IT READS IS OF BULK AT MOST 1048576: true; the input reads as it did. -/
def strongEdgesUptoRow : OpenClaim := { program := "ytfakdgljilmpkaagreatdoor", sum := "2b3dff3b6d1854d1f4846e33f512b0bb39dd5bfc7a9a8dfdb8656465192d6432", func := "semblance/semblancelaw9.StrongEdges", spec := "strongEdges", inPlace := ["internal/reflectlite.ValueOf", "(internal/reflectlite.Value).Type", "(internal/reflectlite.Value).IsNil", "internal/reflectlite.TypeOf", "(internal/reflectlite.Value).Elem", "(internal/reflectlite.Value).Set"], unfollowed := true, recurses := true, named := ["semblance/api.ErrSystem", "errors.errorType", "semblance/api.ErrArg", "semblance/api.ErrIndex", "semblance/api.ErrClasses"], plainKeys := false, apart := false, laid := [("errors.errorType", laid_errors_errorType), ("semblance/api.ErrArg", laid_semblance_api_ErrArg), ("semblance/api.ErrIndex", laid_semblance_api_ErrIndex), ("semblance/api.ErrSystem", laid_semblance_api_ErrSystem), ("semblance/api.ErrClasses", laid_semblance_api_ErrClasses)], narrowed := true }
def StrongEdgesUptoSaid : Prop := strongEdgesUptoRow.holds Tryz.pinned (OpenSpec.upto strongEdgesSpec)

/-- 'semblancelaw9.StrongApart', WHERE WHAT IT READS IS OF BULK AT MOST 1048576: true; the input reads as it did. -/
def strongApartUptoRow : OpenClaim := { program := "ytfakdgljilmpkaagreatdoor", sum := "2b3dff3b6d1854d1f4846e33f512b0bb39dd5bfc7a9a8dfdb8656465192d6432", func := "semblance/semblancelaw9.StrongApart", spec := "strongApart", inPlace := ["internal/reflectlite.ValueOf", "(internal/reflectlite.Value).Type", "(internal/reflectlite.Value).IsNil", "internal/reflectlite.TypeOf", "(internal/reflectlite.Value).Elem", "(internal/reflectlite.Value).Set"], unfollowed := true, recurses := true, named := ["semblance/api.ErrSystem", "errors.errorType", "semblance/api.ErrArg", "semblance/api.ErrIndex", "semblance/api.ErrClasses"], plainKeys := false, apart := false, laid := [("errors.errorType", laid_errors_errorType), ("semblance/api.ErrArg", laid_semblance_api_ErrArg), ("semblance/api.ErrIndex", laid_semblance_api_ErrIndex), ("semblance/api.ErrSystem", laid_semblance_api_ErrSystem), ("semblance/api.ErrClasses", laid_semblance_api_ErrClasses)], narrowed := true }
def StrongApartUptoSaid : Prop := strongApartUptoRow.holds Tryz.pinned (OpenSpec.upto strongApartSpec)

/-- 'semblancelaw14.QuotientSame', WHERE WHAT IT READS IS OF BULK AT MOST 1048576: true; the input reads as it did. -/
def quotientSameUptoRow : OpenClaim := { program := "ytfakdgljilmpkaagreatdoor", sum := "2b3dff3b6d1854d1f4846e33f512b0bb39dd5bfc7a9a8dfdb8656465192d6432", func := "semblance/semblancelaw14.QuotientSame", spec := "quotientSame", inPlace := ["internal/reflectlite.ValueOf", "(internal/reflectlite.Value).Type", "(internal/reflectlite.Value).IsNil", "internal/reflectlite.TypeOf", "(internal/reflectlite.Value).Elem", "(internal/reflectlite.Value).Set"], unfollowed := true, recurses := true, named := ["semblance/api.ErrSystem", "errors.errorType", "semblance/api.ErrClasses", "semblance/api.ErrArg", "semblance/api.ErrIndex"], plainKeys := false, apart := false, laid := [("errors.errorType", laid_errors_errorType), ("semblance/api.ErrArg", laid_semblance_api_ErrArg), ("semblance/api.ErrIndex", laid_semblance_api_ErrIndex), ("semblance/api.ErrSystem", laid_semblance_api_ErrSystem), ("semblance/api.ErrClasses", laid_semblance_api_ErrClasses)], narrowed := true }
def QuotientSameUptoSaid : Prop := quotientSameUptoRow.holds Tryz.pinned (OpenSpec.upto quotientSameSpec)

/-- 'semblancelaw9.StrongRelates', WHERE WHAT IT READS IS OF BULK AT MOST 1048576: true; the input reads as it did. -/
def strongRelatesUptoRow : OpenClaim := { program := "ytfakdgljilmpkaagreatdoor", sum := "2b3dff3b6d1854d1f4846e33f512b0bb39dd5bfc7a9a8dfdb8656465192d6432", func := "semblance/semblancelaw9.StrongRelates", spec := "strongRelates", inPlace := ["internal/reflectlite.ValueOf", "(internal/reflectlite.Value).Type", "(internal/reflectlite.Value).IsNil", "internal/reflectlite.TypeOf", "(internal/reflectlite.Value).Elem", "(internal/reflectlite.Value).Set"], unfollowed := true, recurses := true, named := ["semblance/api.ErrSystem", "errors.errorType", "semblance/api.ErrArg", "semblance/api.ErrIndex", "semblance/api.ErrClasses"], plainKeys := false, apart := false, laid := [("errors.errorType", laid_errors_errorType), ("semblance/api.ErrArg", laid_semblance_api_ErrArg), ("semblance/api.ErrIndex", laid_semblance_api_ErrIndex), ("semblance/api.ErrSystem", laid_semblance_api_ErrSystem), ("semblance/api.ErrClasses", laid_semblance_api_ErrClasses)], narrowed := true }
def StrongRelatesUptoSaid : Prop := strongRelatesUptoRow.holds Tryz.pinned (OpenSpec.upto strongRelatesSpec)

/-- 'semblancelaw19.WitnessJoined', WHERE WHAT IT READS IS OF BULK AT MOST 1048576: true; the input reads as it did. -/
def witnessJoinedUptoRow : OpenClaim := { program := "ytfakdgljilmpkaagreatdoor", sum := "2b3dff3b6d1854d1f4846e33f512b0bb39dd5bfc7a9a8dfdb8656465192d6432", func := "semblance/semblancelaw19.WitnessJoined", spec := "witnessJoined", inPlace := ["internal/reflectlite.ValueOf", "(internal/reflectlite.Value).Type", "(internal/reflectlite.Value).IsNil", "internal/reflectlite.TypeOf", "(internal/reflectlite.Value).Elem", "(internal/reflectlite.Value).Set"], unfollowed := true, recurses := true, named := ["semblance/api.ErrClasses", "semblance/api.ErrSystem", "errors.errorType", "semblance/api.ErrArg", "semblance/api.ErrIndex"], plainKeys := false, apart := false, laid := [("errors.errorType", laid_errors_errorType), ("semblance/api.ErrArg", laid_semblance_api_ErrArg), ("semblance/api.ErrIndex", laid_semblance_api_ErrIndex), ("semblance/api.ErrSystem", laid_semblance_api_ErrSystem), ("semblance/api.ErrClasses", laid_semblance_api_ErrClasses)], narrowed := true }
def WitnessJoinedUptoSaid : Prop := witnessJoinedUptoRow.holds Tryz.pinned (OpenSpec.upto witnessJoinedSpec)

/-- 'semblancelaw17.SimulStrong', WHERE WHAT IT READS IS OF BULK AT MOST 1048576: true; the input reads as it did. -/
def simulStrongUptoRow : OpenClaim := { program := "ytfakdgljilmpkaagreatdoor", sum := "2b3dff3b6d1854d1f4846e33f512b0bb39dd5bfc7a9a8dfdb8656465192d6432", func := "semblance/semblancelaw17.SimulStrong", spec := "simulStrong", inPlace := ["internal/reflectlite.ValueOf", "(internal/reflectlite.Value).Type", "(internal/reflectlite.Value).IsNil", "internal/reflectlite.TypeOf", "(internal/reflectlite.Value).Elem", "(internal/reflectlite.Value).Set"], unfollowed := true, recurses := true, named := ["semblance/api.ErrSystem", "semblance/api.ErrIndex", "semblance/api.ErrLong", "errors.errorType", "math/bits.deBruijn64tab", "semblance/api.ErrArg"], plainKeys := false, apart := false, laid := [("math/bits.deBruijn64tab", laid_math_bits_deBruijn64tab), ("errors.errorType", laid_errors_errorType), ("semblance/api.ErrArg", laid_semblance_api_ErrArg), ("semblance/api.ErrLong", laid_semblance_api_ErrLong), ("semblance/api.ErrIndex", laid_semblance_api_ErrIndex), ("semblance/api.ErrSystem", laid_semblance_api_ErrSystem)], narrowed := true }
def SimulStrongUptoSaid : Prop := simulStrongUptoRow.holds Tryz.pinned (OpenSpec.upto simulStrongSpec)

/-- 'semblancelaw9.StrongEnds', WHERE WHAT IT READS IS OF BULK AT MOST 1048576: true; the input reads as it did. -/
def strongEndsUptoRow : OpenClaim := { program := "ytfakdgljilmpkaagreatdoor", sum := "2b3dff3b6d1854d1f4846e33f512b0bb39dd5bfc7a9a8dfdb8656465192d6432", func := "semblance/semblancelaw9.StrongEnds", spec := "strongEnds", inPlace := ["internal/reflectlite.ValueOf", "(internal/reflectlite.Value).Type", "(internal/reflectlite.Value).IsNil", "internal/reflectlite.TypeOf", "(internal/reflectlite.Value).Elem", "(internal/reflectlite.Value).Set"], unfollowed := true, recurses := true, named := ["semblance/api.ErrSystem", "errors.errorType", "semblance/api.ErrArg", "semblance/api.ErrIndex", "semblance/api.ErrClasses", "semblance/api.ErrLong", "semblance/api.ErrWord", "semblance/api.ErrSyntax", "semblance/api.ErrDeep", "semblance/api.ErrTwice", "semblance/api.ErrUnknown", "semblance/api.ErrSilent", "semblance/api.ErrUnguarded", "semblance/api.ErrSteps", "semblance/api.ErrStates", "semblance/api.ErrEdges", "semblance/api.ErrFormula", "semblance/api.ErrLimit", "semblance/api.ErrNone", "semblance/api.ErrScript"], plainKeys := false, apart := false, laid := [("errors.errorType", laid_errors_errorType), ("semblance/api.ErrArg", laid_semblance_api_ErrArg), ("semblance/api.ErrLong", laid_semblance_api_ErrLong), ("semblance/api.ErrIndex", laid_semblance_api_ErrIndex), ("semblance/api.ErrWord", laid_semblance_api_ErrWord), ("semblance/api.ErrSyntax", laid_semblance_api_ErrSyntax), ("semblance/api.ErrDeep", laid_semblance_api_ErrDeep), ("semblance/api.ErrTwice", laid_semblance_api_ErrTwice), ("semblance/api.ErrUnknown", laid_semblance_api_ErrUnknown), ("semblance/api.ErrSilent", laid_semblance_api_ErrSilent), ("semblance/api.ErrUnguarded", laid_semblance_api_ErrUnguarded), ("semblance/api.ErrSteps", laid_semblance_api_ErrSteps), ("semblance/api.ErrStates", laid_semblance_api_ErrStates), ("semblance/api.ErrEdges", laid_semblance_api_ErrEdges), ("semblance/api.ErrSystem", laid_semblance_api_ErrSystem), ("semblance/api.ErrClasses", laid_semblance_api_ErrClasses), ("semblance/api.ErrFormula", laid_semblance_api_ErrFormula), ("semblance/api.ErrLimit", laid_semblance_api_ErrLimit), ("semblance/api.ErrNone", laid_semblance_api_ErrNone), ("semblance/api.ErrScript", laid_semblance_api_ErrScript)], narrowed := true }
def StrongEndsUptoSaid : Prop := strongEndsUptoRow.holds Tryz.pinned (OpenSpec.upto strongEndsSpec)

/-- 'semblancelaw19.WitnessSimulates', WHERE WHAT IT READS IS OF BULK AT MOST 1048576: true; the input reads as it did. -/
def witnessSimulatesUptoRow : OpenClaim := { program := "ytfakdgljilmpkaagreatdoor", sum := "2b3dff3b6d1854d1f4846e33f512b0bb39dd5bfc7a9a8dfdb8656465192d6432", func := "semblance/semblancelaw19.WitnessSimulates", spec := "witnessSimulates", inPlace := ["internal/reflectlite.ValueOf", "(internal/reflectlite.Value).Type", "(internal/reflectlite.Value).IsNil", "internal/reflectlite.TypeOf", "(internal/reflectlite.Value).Elem", "(internal/reflectlite.Value).Set"], unfollowed := true, recurses := true, named := ["semblance/api.ErrClasses", "semblance/api.ErrSystem", "errors.errorType", "semblance/api.ErrLong", "math/bits.deBruijn64tab", "semblance/api.ErrArg", "semblance/api.ErrIndex"], plainKeys := false, apart := false, laid := [("math/bits.deBruijn64tab", laid_math_bits_deBruijn64tab), ("errors.errorType", laid_errors_errorType), ("semblance/api.ErrArg", laid_semblance_api_ErrArg), ("semblance/api.ErrLong", laid_semblance_api_ErrLong), ("semblance/api.ErrIndex", laid_semblance_api_ErrIndex), ("semblance/api.ErrSystem", laid_semblance_api_ErrSystem), ("semblance/api.ErrClasses", laid_semblance_api_ErrClasses)], narrowed := true }
def WitnessSimulatesUptoSaid : Prop := witnessSimulatesUptoRow.holds Tryz.pinned (OpenSpec.upto witnessSimulatesSpec)

end Rows
end Go.Proofs.YtfakdgljilmpkaaGreatDoor
