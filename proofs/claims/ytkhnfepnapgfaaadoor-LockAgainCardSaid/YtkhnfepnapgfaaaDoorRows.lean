/-
  NARROWER THAN 'FOR EVERY INPUT', by the rows' own cells (each row's printed sentence says how): LockAlone: laid · LockEnds: laid · LockAgain: laid · PathChecks: laid · PathBytes: laid · PathShort: laid · PathBeneath: laid · PathJoins: laid · PathSets: laid · LockPlays: laid · LockMany: laid · PathLimits: laid.
  DERIVED. THE GIVEN ROWS OF THIS SEAT. 12 by the template 'for every input the law returns true; each argument reads behind the call as it read before'; 0 by the template 'total and deterministic' (their statements: YtkhnfepnapgfaaaDoorTotals.lean).
  GIVEN WITH THE SEED: the statements are not yours to turn. If you find one false, say at which input.
  Laid BY PROGRAM, IN A SANDBOX (cutbox-rows.mjs): the forced cells as the released guide's own fill.sh prints them over the translation 0afc672b932ffe8f… (all of the seat's roots in one cut). By AI agents, Wed Nov 11 2026. No macro, syntax, notation, axiom, sorry.
-/
import Derived.Test.YtkhnfepnapgfaaaDoorChecked
import GoSem.PinnedTables
import GoSem.Claim
import GoSem.ClaimJoined
import GoSem.ClaimMapViews
import Derived.JoinedTies
import Derived.KernelRfl
namespace Go.Proofs.YtkhnfepnapgfaaaDoor
/- THE CELL 'sum', in the pinned program and in every row, IS THE sha256 OF THE DUMP (.gsa) THAT YtkhnfepnapgfaaaDoorProg.lean LOADS. Nothing in Lean hashes anything: it is a label: what it is worth is what the hold of that sum in a sandbox is worth. -/
noncomputable def Tryd.pinned : Pinned := { name := "ytkhnfepnapgfaaadoor", sum := "0afc672b932ffe8f175d16830f36c41459429c3c059bda4f01cc1403e137098c", checked := Tryd.checked }
namespace Rows
def none {H : Type} : Left H := { results := [], args := [] }

/- WHAT THE LISTED PACKAGE-LEVEL VARIABLES READ AS WHEN THE CALL BEGINS. Each datum BY PROGRAM (the guide's laid-datum.mjs) off the statement by which the dump's own 'gosem.cut.vars' lays the variable. In a bare row this is a premise. The card (YtkhnfepnapgfaaaDoorCards.lean) ties it to the program's text. -/
def laid_unicode_utf8_acceptRanges {H : Type} : DataW H := .agg [.agg [.lit (.int .u8 128), .lit (.int .u8 191)], .agg [.lit (.int .u8 160), .lit (.int .u8 191)], .agg [.lit (.int .u8 128), .lit (.int .u8 159)], .agg [.lit (.int .u8 144), .lit (.int .u8 191)], .agg [.lit (.int .u8 128), .lit (.int .u8 143)], .agg [.lit (.int .u8 0), .lit (.int .u8 0)], .agg [.lit (.int .u8 0), .lit (.int .u8 0)], .agg [.lit (.int .u8 0), .lit (.int .u8 0)], .agg [.lit (.int .u8 0), .lit (.int .u8 0)], .agg [.lit (.int .u8 0), .lit (.int .u8 0)], .agg [.lit (.int .u8 0), .lit (.int .u8 0)], .agg [.lit (.int .u8 0), .lit (.int .u8 0)], .agg [.lit (.int .u8 0), .lit (.int .u8 0)], .agg [.lit (.int .u8 0), .lit (.int .u8 0)], .agg [.lit (.int .u8 0), .lit (.int .u8 0)], .agg [.lit (.int .u8 0), .lit (.int .u8 0)]]
/-- One of Go's own tables, pinned by name: the form's constant. -/
def laid_unicode_utf8_first : DataW Unit := Go.Pinned.utf8First
def laid_errors_errorType {H : Type} : DataW H := .iface "internal/reflectlite.rtype" (.agg [.ptr (.lit (.string [101, 114, 114, 111, 114]))])

/-- 'wharfingerlaw12.LockAlone': WHATEVER THE INPUT: true; the input reads as it did. -/
def lockAloneSpec : ChangeSpec := { name := "lockAlone", fn := fun _ => fun
  | [d] => { results := [.lit (.bool true)], args := [d] }
  | _ => none }
def lockAloneRow : OpenClaim := { program := "ytkhnfepnapgfaaadoor", sum := "0afc672b932ffe8f175d16830f36c41459429c3c059bda4f01cc1403e137098c", func := "wharfinger/wharfingerlaw12.LockAlone", spec := "lockAlone", inPlace := ["internal/bytealg.CountString", "internal/bytealg.IndexByteString", "internal/bytealg.IndexString"], unfollowed := true, recurses := true, named := ["unicode/utf8.first", "unicode/utf8.acceptRanges", "internal/bytealg.MaxLen"], apart := false, laid := [("unicode/utf8.acceptRanges", laid_unicode_utf8_acceptRanges), ("unicode/utf8.first", laid_unicode_utf8_first)] }
def LockAloneSaid : Prop := lockAloneRow.holds Tryd.pinned (OpenSpec.ofChange lockAloneSpec)

/-- ITS FALSE NEIGHBOUR: 'it returns false'. Refute it at one input. -/
def lockAloneWrong : ChangeSpec := { name := "lockAlone", fn := fun _ => fun
  | [d] => { results := [.lit (.bool false)], args := [d] }
  | _ => none }
def LockAloneWrongFalsely : Prop := lockAloneRow.holds Tryd.pinned (OpenSpec.ofChange lockAloneWrong)

/-- 'wharfingerlaw12.LockEnds': WHATEVER THE INPUT: true; the input reads as it did. -/
def lockEndsSpec : ChangeSpec := { name := "lockEnds", fn := fun _ => fun
  | [d1, d2] => { results := [.lit (.bool true)], args := [d1, d2] }
  | _ => none }
def lockEndsRow : OpenClaim := { program := "ytkhnfepnapgfaaadoor", sum := "0afc672b932ffe8f175d16830f36c41459429c3c059bda4f01cc1403e137098c", func := "wharfinger/wharfingerlaw12.LockEnds", spec := "lockEnds", inPlace := ["internal/bytealg.CountString", "internal/bytealg.IndexByteString", "internal/bytealg.IndexString"], unfollowed := true, recurses := true, named := ["unicode/utf8.first", "unicode/utf8.acceptRanges", "internal/bytealg.MaxLen"], apart := false, laid := [("unicode/utf8.acceptRanges", laid_unicode_utf8_acceptRanges), ("unicode/utf8.first", laid_unicode_utf8_first)] }
def LockEndsSaid : Prop := lockEndsRow.holds Tryd.pinned (OpenSpec.ofChange lockEndsSpec)

/-- ITS FALSE NEIGHBOUR: 'it returns false'. Refute it at one input. -/
def lockEndsWrong : ChangeSpec := { name := "lockEnds", fn := fun _ => fun
  | [d1, d2] => { results := [.lit (.bool false)], args := [d1, d2] }
  | _ => none }
def LockEndsWrongFalsely : Prop := lockEndsRow.holds Tryd.pinned (OpenSpec.ofChange lockEndsWrong)

/-- 'wharfingerlaw12.LockAgain': WHATEVER THE INPUT: true; the input reads as it did. -/
def lockAgainSpec : ChangeSpec := { name := "lockAgain", fn := fun _ => fun
  | [d] => { results := [.lit (.bool true)], args := [d] }
  | _ => none }
def lockAgainRow : OpenClaim := { program := "ytkhnfepnapgfaaadoor", sum := "0afc672b932ffe8f175d16830f36c41459429c3c059bda4f01cc1403e137098c", func := "wharfinger/wharfingerlaw12.LockAgain", spec := "lockAgain", inPlace := ["internal/bytealg.CountString", "internal/bytealg.IndexByteString", "internal/bytealg.IndexString"], unfollowed := true, recurses := true, named := ["unicode/utf8.first", "unicode/utf8.acceptRanges", "internal/bytealg.MaxLen"], apart := false, laid := [("unicode/utf8.acceptRanges", laid_unicode_utf8_acceptRanges), ("unicode/utf8.first", laid_unicode_utf8_first)] }
def LockAgainSaid : Prop := lockAgainRow.holds Tryd.pinned (OpenSpec.ofChange lockAgainSpec)

/-- ITS FALSE NEIGHBOUR: 'it returns false'. Refute it at one input. -/
def lockAgainWrong : ChangeSpec := { name := "lockAgain", fn := fun _ => fun
  | [d] => { results := [.lit (.bool false)], args := [d] }
  | _ => none }
def LockAgainWrongFalsely : Prop := lockAgainRow.holds Tryd.pinned (OpenSpec.ofChange lockAgainWrong)

/-- 'wharfingerlaw09.PathChecks': WHATEVER THE INPUT: true; the input reads as it did. -/
def pathChecksSpec : ChangeSpec := { name := "pathChecks", fn := fun _ => fun
  | [d] => { results := [.lit (.bool true)], args := [d] }
  | _ => none }
def pathChecksRow : OpenClaim := { program := "ytkhnfepnapgfaaadoor", sum := "0afc672b932ffe8f175d16830f36c41459429c3c059bda4f01cc1403e137098c", func := "wharfinger/wharfingerlaw09.PathChecks", spec := "pathChecks", inPlace := ["internal/bytealg.CountString", "internal/bytealg.IndexByteString", "internal/bytealg.IndexString", "internal/reflectlite.TypeOf", "internal/reflectlite.ValueOf", "(internal/reflectlite.Value).Type", "(internal/reflectlite.Value).IsNil", "(internal/reflectlite.Value).Elem", "(internal/reflectlite.Value).Set"], unfollowed := true, recurses := true, named := ["unicode/utf8.first", "unicode/utf8.acceptRanges", "internal/bytealg.MaxLen", "errors.errorType"], apart := false, laid := [("unicode/utf8.acceptRanges", laid_unicode_utf8_acceptRanges), ("errors.errorType", laid_errors_errorType), ("unicode/utf8.first", laid_unicode_utf8_first)] }
def PathChecksSaid : Prop := pathChecksRow.holds Tryd.pinned (OpenSpec.ofChange pathChecksSpec)

/-- ITS FALSE NEIGHBOUR: 'it returns false'. Refute it at one input. -/
def pathChecksWrong : ChangeSpec := { name := "pathChecks", fn := fun _ => fun
  | [d] => { results := [.lit (.bool false)], args := [d] }
  | _ => none }
def PathChecksWrongFalsely : Prop := pathChecksRow.holds Tryd.pinned (OpenSpec.ofChange pathChecksWrong)

/-- 'wharfingerlaw09.PathBytes': WHATEVER THE INPUT: true; the input reads as it did. -/
def pathBytesSpec : ChangeSpec := { name := "pathBytes", fn := fun _ => fun
  | [d] => { results := [.lit (.bool true)], args := [d] }
  | _ => none }
def pathBytesRow : OpenClaim := { program := "ytkhnfepnapgfaaadoor", sum := "0afc672b932ffe8f175d16830f36c41459429c3c059bda4f01cc1403e137098c", func := "wharfinger/wharfingerlaw09.PathBytes", spec := "pathBytes", inPlace := ["internal/bytealg.CountString", "internal/bytealg.IndexByteString", "internal/bytealg.IndexString", "internal/reflectlite.TypeOf", "internal/reflectlite.ValueOf", "(internal/reflectlite.Value).Type", "(internal/reflectlite.Value).IsNil", "(internal/reflectlite.Value).Elem", "(internal/reflectlite.Value).Set"], unfollowed := true, recurses := true, named := ["unicode/utf8.first", "unicode/utf8.acceptRanges", "internal/bytealg.MaxLen", "errors.errorType"], apart := false, laid := [("unicode/utf8.acceptRanges", laid_unicode_utf8_acceptRanges), ("errors.errorType", laid_errors_errorType), ("unicode/utf8.first", laid_unicode_utf8_first)] }
def PathBytesSaid : Prop := pathBytesRow.holds Tryd.pinned (OpenSpec.ofChange pathBytesSpec)

/-- ITS FALSE NEIGHBOUR: 'it returns false'. Refute it at one input. -/
def pathBytesWrong : ChangeSpec := { name := "pathBytes", fn := fun _ => fun
  | [d] => { results := [.lit (.bool false)], args := [d] }
  | _ => none }
def PathBytesWrongFalsely : Prop := pathBytesRow.holds Tryd.pinned (OpenSpec.ofChange pathBytesWrong)

/-- 'wharfingerlaw09.PathShort': WHATEVER THE INPUT: true; the input reads as it did. -/
def pathShortSpec : ChangeSpec := { name := "pathShort", fn := fun _ => fun
  | [d1, d2] => { results := [.lit (.bool true)], args := [d1, d2] }
  | _ => none }
def pathShortRow : OpenClaim := { program := "ytkhnfepnapgfaaadoor", sum := "0afc672b932ffe8f175d16830f36c41459429c3c059bda4f01cc1403e137098c", func := "wharfinger/wharfingerlaw09.PathShort", spec := "pathShort", inPlace := ["internal/bytealg.CountString", "internal/bytealg.IndexByteString", "internal/bytealg.IndexString", "internal/reflectlite.TypeOf", "internal/reflectlite.ValueOf", "(internal/reflectlite.Value).Type", "(internal/reflectlite.Value).IsNil", "(internal/reflectlite.Value).Elem", "(internal/reflectlite.Value).Set"], unfollowed := true, recurses := true, named := ["unicode/utf8.first", "unicode/utf8.acceptRanges", "internal/bytealg.MaxLen", "errors.errorType"], apart := false, laid := [("unicode/utf8.acceptRanges", laid_unicode_utf8_acceptRanges), ("errors.errorType", laid_errors_errorType), ("unicode/utf8.first", laid_unicode_utf8_first)] }
def PathShortSaid : Prop := pathShortRow.holds Tryd.pinned (OpenSpec.ofChange pathShortSpec)

/-- ITS FALSE NEIGHBOUR: 'it returns false'. Refute it at one input. -/
def pathShortWrong : ChangeSpec := { name := "pathShort", fn := fun _ => fun
  | [d1, d2] => { results := [.lit (.bool false)], args := [d1, d2] }
  | _ => none }
def PathShortWrongFalsely : Prop := pathShortRow.holds Tryd.pinned (OpenSpec.ofChange pathShortWrong)

/-- 'wharfingerlaw09.PathBeneath': WHATEVER THE INPUT: true; the input reads as it did. -/
def pathBeneathSpec : ChangeSpec := { name := "pathBeneath", fn := fun _ => fun
  | [d1, d2] => { results := [.lit (.bool true)], args := [d1, d2] }
  | _ => none }
def pathBeneathRow : OpenClaim := { program := "ytkhnfepnapgfaaadoor", sum := "0afc672b932ffe8f175d16830f36c41459429c3c059bda4f01cc1403e137098c", func := "wharfinger/wharfingerlaw09.PathBeneath", spec := "pathBeneath", inPlace := ["internal/bytealg.CountString", "internal/bytealg.IndexByteString", "internal/bytealg.IndexString", "internal/reflectlite.TypeOf", "internal/reflectlite.ValueOf", "(internal/reflectlite.Value).Type", "(internal/reflectlite.Value).IsNil", "(internal/reflectlite.Value).Elem", "(internal/reflectlite.Value).Set"], unfollowed := true, recurses := true, named := ["unicode/utf8.first", "unicode/utf8.acceptRanges", "internal/bytealg.MaxLen", "errors.errorType"], apart := false, laid := [("unicode/utf8.acceptRanges", laid_unicode_utf8_acceptRanges), ("errors.errorType", laid_errors_errorType), ("unicode/utf8.first", laid_unicode_utf8_first)] }
def PathBeneathSaid : Prop := pathBeneathRow.holds Tryd.pinned (OpenSpec.ofChange pathBeneathSpec)

/-- ITS FALSE NEIGHBOUR: 'it returns false'. Refute it at one input. -/
def pathBeneathWrong : ChangeSpec := { name := "pathBeneath", fn := fun _ => fun
  | [d1, d2] => { results := [.lit (.bool false)], args := [d1, d2] }
  | _ => none }
def PathBeneathWrongFalsely : Prop := pathBeneathRow.holds Tryd.pinned (OpenSpec.ofChange pathBeneathWrong)

/-- 'wharfingerlaw09.PathJoins': WHATEVER THE INPUT: true; the input reads as it did. -/
def pathJoinsSpec : ChangeSpec := { name := "pathJoins", fn := fun _ => fun
  | [d1, d2] => { results := [.lit (.bool true)], args := [d1, d2] }
  | _ => none }
def pathJoinsRow : OpenClaim := { program := "ytkhnfepnapgfaaadoor", sum := "0afc672b932ffe8f175d16830f36c41459429c3c059bda4f01cc1403e137098c", func := "wharfinger/wharfingerlaw09.PathJoins", spec := "pathJoins", inPlace := ["internal/bytealg.CountString", "internal/bytealg.IndexByteString", "internal/bytealg.IndexString", "internal/reflectlite.TypeOf", "internal/reflectlite.ValueOf", "(internal/reflectlite.Value).Type", "(internal/reflectlite.Value).IsNil", "(internal/reflectlite.Value).Elem", "(internal/reflectlite.Value).Set"], unfollowed := true, recurses := true, named := ["unicode/utf8.first", "unicode/utf8.acceptRanges", "internal/bytealg.MaxLen", "errors.errorType"], apart := false, laid := [("unicode/utf8.acceptRanges", laid_unicode_utf8_acceptRanges), ("errors.errorType", laid_errors_errorType), ("unicode/utf8.first", laid_unicode_utf8_first)] }
def PathJoinsSaid : Prop := pathJoinsRow.holds Tryd.pinned (OpenSpec.ofChange pathJoinsSpec)

/-- ITS FALSE NEIGHBOUR: 'it returns false'. Refute it at one input. -/
def pathJoinsWrong : ChangeSpec := { name := "pathJoins", fn := fun _ => fun
  | [d1, d2] => { results := [.lit (.bool false)], args := [d1, d2] }
  | _ => none }
def PathJoinsWrongFalsely : Prop := pathJoinsRow.holds Tryd.pinned (OpenSpec.ofChange pathJoinsWrong)

/-- 'wharfingerlaw09.PathSets': WHATEVER THE INPUT: true; the input reads as it did. -/
def pathSetsSpec : ChangeSpec := { name := "pathSets", fn := fun _ => fun
  | [d] => { results := [.lit (.bool true)], args := [d] }
  | _ => none }
def pathSetsRow : OpenClaim := { program := "ytkhnfepnapgfaaadoor", sum := "0afc672b932ffe8f175d16830f36c41459429c3c059bda4f01cc1403e137098c", func := "wharfinger/wharfingerlaw09.PathSets", spec := "pathSets", inPlace := ["internal/bytealg.CountString", "internal/bytealg.IndexByteString", "internal/bytealg.IndexString", "internal/reflectlite.TypeOf", "internal/reflectlite.ValueOf", "(internal/reflectlite.Value).Type", "(internal/reflectlite.Value).IsNil", "(internal/reflectlite.Value).Elem", "(internal/reflectlite.Value).Set"], unfollowed := true, recurses := true, named := ["unicode/utf8.first", "unicode/utf8.acceptRanges", "internal/bytealg.MaxLen", "errors.errorType"], apart := false, laid := [("unicode/utf8.acceptRanges", laid_unicode_utf8_acceptRanges), ("errors.errorType", laid_errors_errorType), ("unicode/utf8.first", laid_unicode_utf8_first)] }
def PathSetsSaid : Prop := pathSetsRow.holds Tryd.pinned (OpenSpec.ofChange pathSetsSpec)

/-- ITS FALSE NEIGHBOUR: 'it returns false'. Refute it at one input. -/
def pathSetsWrong : ChangeSpec := { name := "pathSets", fn := fun _ => fun
  | [d] => { results := [.lit (.bool false)], args := [d] }
  | _ => none }
def PathSetsWrongFalsely : Prop := pathSetsRow.holds Tryd.pinned (OpenSpec.ofChange pathSetsWrong)

/-- 'wharfingerlaw12.LockPlays': WHATEVER THE INPUT: true; the input reads as it did. -/
def lockPlaysSpec : ChangeSpec := { name := "lockPlays", fn := fun _ => fun
  | [d1, d2] => { results := [.lit (.bool true)], args := [d1, d2] }
  | _ => none }
def lockPlaysRow : OpenClaim := { program := "ytkhnfepnapgfaaadoor", sum := "0afc672b932ffe8f175d16830f36c41459429c3c059bda4f01cc1403e137098c", func := "wharfinger/wharfingerlaw12.LockPlays", spec := "lockPlays", inPlace := ["internal/bytealg.CountString", "internal/bytealg.IndexByteString", "internal/bytealg.IndexString", "internal/reflectlite.ValueOf", "(internal/reflectlite.Value).Type", "(internal/reflectlite.Value).IsNil", "internal/reflectlite.TypeOf", "(internal/reflectlite.Value).Elem", "(internal/reflectlite.Value).Set"], unfollowed := true, recurses := true, named := ["unicode/utf8.first", "unicode/utf8.acceptRanges", "internal/bytealg.MaxLen", "errors.errorType"], apart := false, laid := [("unicode/utf8.acceptRanges", laid_unicode_utf8_acceptRanges), ("errors.errorType", laid_errors_errorType), ("unicode/utf8.first", laid_unicode_utf8_first)] }
def LockPlaysSaid : Prop := lockPlaysRow.holds Tryd.pinned (OpenSpec.ofChange lockPlaysSpec)

/-- ITS FALSE NEIGHBOUR: 'it returns false'. Refute it at one input. -/
def lockPlaysWrong : ChangeSpec := { name := "lockPlays", fn := fun _ => fun
  | [d1, d2] => { results := [.lit (.bool false)], args := [d1, d2] }
  | _ => none }
def LockPlaysWrongFalsely : Prop := lockPlaysRow.holds Tryd.pinned (OpenSpec.ofChange lockPlaysWrong)

/-- 'wharfingerlaw12.LockMany': WHATEVER THE INPUT: true; the input reads as it did. -/
def lockManySpec : ChangeSpec := { name := "lockMany", fn := fun _ => fun
  | [d] => { results := [.lit (.bool true)], args := [d] }
  | _ => none }
def lockManyRow : OpenClaim := { program := "ytkhnfepnapgfaaadoor", sum := "0afc672b932ffe8f175d16830f36c41459429c3c059bda4f01cc1403e137098c", func := "wharfinger/wharfingerlaw12.LockMany", spec := "lockMany", inPlace := ["internal/bytealg.CountString", "internal/bytealg.IndexByteString", "internal/bytealg.IndexString", "internal/reflectlite.ValueOf", "(internal/reflectlite.Value).Type", "(internal/reflectlite.Value).IsNil", "internal/reflectlite.TypeOf", "(internal/reflectlite.Value).Elem", "(internal/reflectlite.Value).Set"], unfollowed := true, recurses := true, named := ["unicode/utf8.first", "unicode/utf8.acceptRanges", "internal/bytealg.MaxLen", "errors.errorType"], apart := false, laid := [("unicode/utf8.acceptRanges", laid_unicode_utf8_acceptRanges), ("errors.errorType", laid_errors_errorType), ("unicode/utf8.first", laid_unicode_utf8_first)] }
def LockManySaid : Prop := lockManyRow.holds Tryd.pinned (OpenSpec.ofChange lockManySpec)

/-- ITS FALSE NEIGHBOUR: 'it returns false'. Refute it at one input. -/
def lockManyWrong : ChangeSpec := { name := "lockMany", fn := fun _ => fun
  | [d] => { results := [.lit (.bool false)], args := [d] }
  | _ => none }
def LockManyWrongFalsely : Prop := lockManyRow.holds Tryd.pinned (OpenSpec.ofChange lockManyWrong)

/-- 'wharfingerlaw09.PathLimits': WHATEVER THE INPUT: true; the input reads as it did. -/
def pathLimitsSpec : ChangeSpec := { name := "pathLimits", fn := fun _ => fun
  | [d1, d2] => { results := [.lit (.bool true)], args := [d1, d2] }
  | _ => none }
def pathLimitsRow : OpenClaim := { program := "ytkhnfepnapgfaaadoor", sum := "0afc672b932ffe8f175d16830f36c41459429c3c059bda4f01cc1403e137098c", func := "wharfinger/wharfingerlaw09.PathLimits", spec := "pathLimits", inPlace := ["internal/bytealg.CountString", "internal/bytealg.IndexByteString", "internal/bytealg.IndexString", "internal/reflectlite.TypeOf", "internal/reflectlite.ValueOf", "(internal/reflectlite.Value).Type", "(internal/reflectlite.Value).IsNil", "(internal/reflectlite.Value).Elem", "(internal/reflectlite.Value).Set", "internal/abi.NoEscape", "internal/bytealg.MakeNoZero"], unfollowed := true, recurses := true, named := ["unicode/utf8.first", "unicode/utf8.acceptRanges", "internal/bytealg.MaxLen", "errors.errorType"], apart := false, laid := [("unicode/utf8.acceptRanges", laid_unicode_utf8_acceptRanges), ("errors.errorType", laid_errors_errorType), ("unicode/utf8.first", laid_unicode_utf8_first)] }
def PathLimitsSaid : Prop := pathLimitsRow.holds Tryd.pinned (OpenSpec.ofChange pathLimitsSpec)

/-- ITS FALSE NEIGHBOUR: 'it returns false'. Refute it at one input. -/
def pathLimitsWrong : ChangeSpec := { name := "pathLimits", fn := fun _ => fun
  | [d1, d2] => { results := [.lit (.bool false)], args := [d1, d2] }
  | _ => none }
def PathLimitsWrongFalsely : Prop := pathLimitsRow.holds Tryd.pinned (OpenSpec.ofChange pathLimitsWrong)

/- THE SECOND FORM. 'bulk': how many values and letters a reading holds, each counted each time it is reached (what is shared counts as often as it is met; a slice's spare places count too). A statement '..UptoSaid' is the law's where the arguments, and the package variables that the reading takes, are together of bulk at most 1048576: NARROWER than '..Said'. Prove '..Said' where nothing that the law and all that it calls make is longer than what came in: it says more and counts as full. Else prove '..UptoSaid'. A law counts once. -/
mutual
def uptoBulk {H : Type} : DataW H → Nat
  | .lit (.string bytes) => bytes.length + 1
  | .lit _ => 1
  | .nil => 1
  | .ptr d => uptoBulk d + 1
  | .slice elems spare => uptoBulkAll elems + uptoBulkAll spare + 1
  | .agg parts => uptoBulkAll parts + 1
  | .iface _ d => uptoBulk d + 1
  | .map entries => uptoBulkEntries entries + 1
  | .held _ => 1
def uptoBulkAll {H : Type} : List (DataW H) → Nat
  | [] => 0
  | d :: r => uptoBulk d + uptoBulkAll r
def uptoBulkEntries {H : Type} : List (Lit × DataW H) → Nat
  | [] => 0
  | x :: r => uptoBulkEntry x + uptoBulkEntries r
def uptoBulkEntry {H : Type} : Lit × DataW H → Nat
  | (.string bytes, d) => bytes.length + uptoBulk d + 1
  | (_, d) => uptoBulk d + 1
 end
def uptoSmall : (H : Type) → List (DataW H) → Bool := fun _ ds => decide (uptoBulkAll ds ≤ 1048576)
def OpenSpec.upto (s : _root_.Go.ChangeSpec) : _root_.Go.OpenSpec := { _root_.Go.OpenSpec.ofChange s with cond := some uptoSmall }

/-- 'wharfingerlaw12.LockAlone', WHERE WHAT IT READS IS OF BULK AT MOST 1048576: true; the input reads as it did. -/
def lockAloneUptoRow : OpenClaim := { program := "ytkhnfepnapgfaaadoor", sum := "0afc672b932ffe8f175d16830f36c41459429c3c059bda4f01cc1403e137098c", func := "wharfinger/wharfingerlaw12.LockAlone", spec := "lockAlone", inPlace := ["internal/bytealg.CountString", "internal/bytealg.IndexByteString", "internal/bytealg.IndexString"], unfollowed := true, recurses := true, named := ["unicode/utf8.first", "unicode/utf8.acceptRanges", "internal/bytealg.MaxLen"], apart := false, laid := [("unicode/utf8.acceptRanges", laid_unicode_utf8_acceptRanges), ("unicode/utf8.first", laid_unicode_utf8_first)], narrowed := true }
def LockAloneUptoSaid : Prop := lockAloneUptoRow.holds Tryd.pinned (OpenSpec.upto lockAloneSpec)

/-- 'wharfingerlaw12.LockEnds', WHERE WHAT IT READS IS OF BULK AT MOST 1048576: true; the input reads as it did. -/
def lockEndsUptoRow : OpenClaim := { program := "ytkhnfepnapgfaaadoor", sum := "0afc672b932ffe8f175d16830f36c41459429c3c059bda4f01cc1403e137098c", func := "wharfinger/wharfingerlaw12.LockEnds", spec := "lockEnds", inPlace := ["internal/bytealg.CountString", "internal/bytealg.IndexByteString", "internal/bytealg.IndexString"], unfollowed := true, recurses := true, named := ["unicode/utf8.first", "unicode/utf8.acceptRanges", "internal/bytealg.MaxLen"], apart := false, laid := [("unicode/utf8.acceptRanges", laid_unicode_utf8_acceptRanges), ("unicode/utf8.first", laid_unicode_utf8_first)], narrowed := true }
def LockEndsUptoSaid : Prop := lockEndsUptoRow.holds Tryd.pinned (OpenSpec.upto lockEndsSpec)

/-- 'wharfingerlaw12.LockAgain', WHERE WHAT IT READS IS OF BULK AT MOST 1048576: true; the input reads as it did. -/
def lockAgainUptoRow : OpenClaim := { program := "ytkhnfepnapgfaaadoor", sum := "0afc672b932ffe8f175d16830f36c41459429c3c059bda4f01cc1403e137098c", func := "wharfinger/wharfingerlaw12.LockAgain", spec := "lockAgain", inPlace := ["internal/bytealg.CountString", "internal/bytealg.IndexByteString", "internal/bytealg.IndexString"], unfollowed := true, recurses := true, named := ["unicode/utf8.first", "unicode/utf8.acceptRanges", "internal/bytealg.MaxLen"], apart := false, laid := [("unicode/utf8.acceptRanges", laid_unicode_utf8_acceptRanges), ("unicode/utf8.first", laid_unicode_utf8_first)], narrowed := true }
def LockAgainUptoSaid : Prop := lockAgainUptoRow.holds Tryd.pinned (OpenSpec.upto lockAgainSpec)

/-- 'wharfingerlaw09.PathChecks', WHERE WHAT IT READS IS OF BULK AT MOST 1048576: true; the input reads as it did. -/
def pathChecksUptoRow : OpenClaim := { program := "ytkhnfepnapgfaaadoor", sum := "0afc672b932ffe8f175d16830f36c41459429c3c059bda4f01cc1403e137098c", func := "wharfinger/wharfingerlaw09.PathChecks", spec := "pathChecks", inPlace := ["internal/bytealg.CountString", "internal/bytealg.IndexByteString", "internal/bytealg.IndexString", "internal/reflectlite.TypeOf", "internal/reflectlite.ValueOf", "(internal/reflectlite.Value).Type", "(internal/reflectlite.Value).IsNil", "(internal/reflectlite.Value).Elem", "(internal/reflectlite.Value).Set"], unfollowed := true, recurses := true, named := ["unicode/utf8.first", "unicode/utf8.acceptRanges", "internal/bytealg.MaxLen", "errors.errorType"], apart := false, laid := [("unicode/utf8.acceptRanges", laid_unicode_utf8_acceptRanges), ("errors.errorType", laid_errors_errorType), ("unicode/utf8.first", laid_unicode_utf8_first)], narrowed := true }
def PathChecksUptoSaid : Prop := pathChecksUptoRow.holds Tryd.pinned (OpenSpec.upto pathChecksSpec)

/-- 'wharfingerlaw09.PathBytes', WHERE WHAT IT READS IS OF BULK AT MOST 1048576: true; the input reads as it did. -/
def pathBytesUptoRow : OpenClaim := { program := "ytkhnfepnapgfaaadoor", sum := "0afc672b932ffe8f175d16830f36c41459429c3c059bda4f01cc1403e137098c", func := "wharfinger/wharfingerlaw09.PathBytes", spec := "pathBytes", inPlace := ["internal/bytealg.CountString", "internal/bytealg.IndexByteString", "internal/bytealg.IndexString", "internal/reflectlite.TypeOf", "internal/reflectlite.ValueOf", "(internal/reflectlite.Value).Type", "(internal/reflectlite.Value).IsNil", "(internal/reflectlite.Value).Elem", "(internal/reflectlite.Value).Set"], unfollowed := true, recurses := true, named := ["unicode/utf8.first", "unicode/utf8.acceptRanges", "internal/bytealg.MaxLen", "errors.errorType"], apart := false, laid := [("unicode/utf8.acceptRanges", laid_unicode_utf8_acceptRanges), ("errors.errorType", laid_errors_errorType), ("unicode/utf8.first", laid_unicode_utf8_first)], narrowed := true }
def PathBytesUptoSaid : Prop := pathBytesUptoRow.holds Tryd.pinned (OpenSpec.upto pathBytesSpec)

/-- 'wharfingerlaw09.PathShort', WHERE WHAT IT READS IS OF BULK AT MOST 1048576: true; the input reads as it did. -/
def pathShortUptoRow : OpenClaim := { program := "ytkhnfepnapgfaaadoor", sum := "0afc672b932ffe8f175d16830f36c41459429c3c059bda4f01cc1403e137098c", func := "wharfinger/wharfingerlaw09.PathShort", spec := "pathShort", inPlace := ["internal/bytealg.CountString", "internal/bytealg.IndexByteString", "internal/bytealg.IndexString", "internal/reflectlite.TypeOf", "internal/reflectlite.ValueOf", "(internal/reflectlite.Value).Type", "(internal/reflectlite.Value).IsNil", "(internal/reflectlite.Value).Elem", "(internal/reflectlite.Value).Set"], unfollowed := true, recurses := true, named := ["unicode/utf8.first", "unicode/utf8.acceptRanges", "internal/bytealg.MaxLen", "errors.errorType"], apart := false, laid := [("unicode/utf8.acceptRanges", laid_unicode_utf8_acceptRanges), ("errors.errorType", laid_errors_errorType), ("unicode/utf8.first", laid_unicode_utf8_first)], narrowed := true }
def PathShortUptoSaid : Prop := pathShortUptoRow.holds Tryd.pinned (OpenSpec.upto pathShortSpec)

/-- 'wharfingerlaw09.PathBeneath', WHERE WHAT IT READS IS OF BULK AT MOST 1048576: true; the input reads as it did. -/
def pathBeneathUptoRow : OpenClaim := { program := "ytkhnfepnapgfaaadoor", sum := "0afc672b932ffe8f175d16830f36c41459429c3c059bda4f01cc1403e137098c", func := "wharfinger/wharfingerlaw09.PathBeneath", spec := "pathBeneath", inPlace := ["internal/bytealg.CountString", "internal/bytealg.IndexByteString", "internal/bytealg.IndexString", "internal/reflectlite.TypeOf", "internal/reflectlite.ValueOf", "(internal/reflectlite.Value).Type", "(internal/reflectlite.Value).IsNil", "(internal/reflectlite.Value).Elem", "(internal/reflectlite.Value).Set"], unfollowed := true, recurses := true, named := ["unicode/utf8.first", "unicode/utf8.acceptRanges", "internal/bytealg.MaxLen", "errors.errorType"], apart := false, laid := [("unicode/utf8.acceptRanges", laid_unicode_utf8_acceptRanges), ("errors.errorType", laid_errors_errorType), ("unicode/utf8.first", laid_unicode_utf8_first)], narrowed := true }
def PathBeneathUptoSaid : Prop := pathBeneathUptoRow.holds Tryd.pinned (OpenSpec.upto pathBeneathSpec)

/-- 'wharfingerlaw09.PathJoins', WHERE WHAT IT READS IS OF BULK AT MOST 1048576: true; the input reads as it did. -/
def pathJoinsUptoRow : OpenClaim := { program := "ytkhnfepnapgfaaadoor", sum := "0afc672b932ffe8f175d16830f36c41459429c3c059bda4f01cc1403e137098c", func := "wharfinger/wharfingerlaw09.PathJoins", spec := "pathJoins", inPlace := ["internal/bytealg.CountString", "internal/bytealg.IndexByteString", "internal/bytealg.IndexString", "internal/reflectlite.TypeOf", "internal/reflectlite.ValueOf", "(internal/reflectlite.Value).Type", "(internal/reflectlite.Value).IsNil", "(internal/reflectlite.Value).Elem", "(internal/reflectlite.Value).Set"], unfollowed := true, recurses := true, named := ["unicode/utf8.first", "unicode/utf8.acceptRanges", "internal/bytealg.MaxLen", "errors.errorType"], apart := false, laid := [("unicode/utf8.acceptRanges", laid_unicode_utf8_acceptRanges), ("errors.errorType", laid_errors_errorType), ("unicode/utf8.first", laid_unicode_utf8_first)], narrowed := true }
def PathJoinsUptoSaid : Prop := pathJoinsUptoRow.holds Tryd.pinned (OpenSpec.upto pathJoinsSpec)

/-- 'wharfingerlaw09.PathSets', WHERE WHAT IT READS IS OF BULK AT MOST 1048576: true; the input reads as it did. -/
def pathSetsUptoRow : OpenClaim := { program := "ytkhnfepnapgfaaadoor", sum := "0afc672b932ffe8f175d16830f36c41459429c3c059bda4f01cc1403e137098c", func := "wharfinger/wharfingerlaw09.PathSets", spec := "pathSets", inPlace := ["internal/bytealg.CountString", "internal/bytealg.IndexByteString", "internal/bytealg.IndexString", "internal/reflectlite.TypeOf", "internal/reflectlite.ValueOf", "(internal/reflectlite.Value).Type", "(internal/reflectlite.Value).IsNil", "(internal/reflectlite.Value).Elem", "(internal/reflectlite.Value).Set"], unfollowed := true, recurses := true, named := ["unicode/utf8.first", "unicode/utf8.acceptRanges", "internal/bytealg.MaxLen", "errors.errorType"], apart := false, laid := [("unicode/utf8.acceptRanges", laid_unicode_utf8_acceptRanges), ("errors.errorType", laid_errors_errorType), ("unicode/utf8.first", laid_unicode_utf8_first)], narrowed := true }
def PathSetsUptoSaid : Prop := pathSetsUptoRow.holds Tryd.pinned (OpenSpec.upto pathSetsSpec)

/-- 'wharfingerlaw12.LockPlays', WHERE WHAT IT READS IS OF BULK AT MOST 1048576: true; the input reads as it did. -/
def lockPlaysUptoRow : OpenClaim := { program := "ytkhnfepnapgfaaadoor", sum := "0afc672b932ffe8f175d16830f36c41459429c3c059bda4f01cc1403e137098c", func := "wharfinger/wharfingerlaw12.LockPlays", spec := "lockPlays", inPlace := ["internal/bytealg.CountString", "internal/bytealg.IndexByteString", "internal/bytealg.IndexString", "internal/reflectlite.ValueOf", "(internal/reflectlite.Value).Type", "(internal/reflectlite.Value).IsNil", "internal/reflectlite.TypeOf", "(internal/reflectlite.Value).Elem", "(internal/reflectlite.Value).Set"], unfollowed := true, recurses := true, named := ["unicode/utf8.first", "unicode/utf8.acceptRanges", "internal/bytealg.MaxLen", "errors.errorType"], apart := false, laid := [("unicode/utf8.acceptRanges", laid_unicode_utf8_acceptRanges), ("errors.errorType", laid_errors_errorType), ("unicode/utf8.first", laid_unicode_utf8_first)], narrowed := true }
def LockPlaysUptoSaid : Prop := lockPlaysUptoRow.holds Tryd.pinned (OpenSpec.upto lockPlaysSpec)

/-- 'wharfingerlaw12.LockMany', WHERE WHAT IT READS IS OF BULK AT MOST 1048576: true; the input reads as it did. -/
def lockManyUptoRow : OpenClaim := { program := "ytkhnfepnapgfaaadoor", sum := "0afc672b932ffe8f175d16830f36c41459429c3c059bda4f01cc1403e137098c", func := "wharfinger/wharfingerlaw12.LockMany", spec := "lockMany", inPlace := ["internal/bytealg.CountString", "internal/bytealg.IndexByteString", "internal/bytealg.IndexString", "internal/reflectlite.ValueOf", "(internal/reflectlite.Value).Type", "(internal/reflectlite.Value).IsNil", "internal/reflectlite.TypeOf", "(internal/reflectlite.Value).Elem", "(internal/reflectlite.Value).Set"], unfollowed := true, recurses := true, named := ["unicode/utf8.first", "unicode/utf8.acceptRanges", "internal/bytealg.MaxLen", "errors.errorType"], apart := false, laid := [("unicode/utf8.acceptRanges", laid_unicode_utf8_acceptRanges), ("errors.errorType", laid_errors_errorType), ("unicode/utf8.first", laid_unicode_utf8_first)], narrowed := true }
def LockManyUptoSaid : Prop := lockManyUptoRow.holds Tryd.pinned (OpenSpec.upto lockManySpec)

/-- 'wharfingerlaw09.PathLimits', WHERE WHAT IT READS IS OF BULK AT MOST 1048576: true; the input reads as it did. -/
def pathLimitsUptoRow : OpenClaim := { program := "ytkhnfepnapgfaaadoor", sum := "0afc672b932ffe8f175d16830f36c41459429c3c059bda4f01cc1403e137098c", func := "wharfinger/wharfingerlaw09.PathLimits", spec := "pathLimits", inPlace := ["internal/bytealg.CountString", "internal/bytealg.IndexByteString", "internal/bytealg.IndexString", "internal/reflectlite.TypeOf", "internal/reflectlite.ValueOf", "(internal/reflectlite.Value).Type", "(internal/reflectlite.Value).IsNil", "(internal/reflectlite.Value).Elem", "(internal/reflectlite.Value).Set", "internal/abi.NoEscape", "internal/bytealg.MakeNoZero"], unfollowed := true, recurses := true, named := ["unicode/utf8.first", "unicode/utf8.acceptRanges", "internal/bytealg.MaxLen", "errors.errorType"], apart := false, laid := [("unicode/utf8.acceptRanges", laid_unicode_utf8_acceptRanges), ("errors.errorType", laid_errors_errorType), ("unicode/utf8.first", laid_unicode_utf8_first)], narrowed := true }
def PathLimitsUptoSaid : Prop := pathLimitsUptoRow.holds Tryd.pinned (OpenSpec.upto pathLimitsSpec)

end Rows
end Go.Proofs.YtkhnfepnapgfaaaDoor
