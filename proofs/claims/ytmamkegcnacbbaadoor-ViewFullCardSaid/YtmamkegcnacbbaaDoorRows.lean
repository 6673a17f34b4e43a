/-
  NARROWER THAN 'FOR EVERY INPUT', by the rows' own cells (each row's printed sentence says how): StoryPaths: laid · StoryBegins: laid · StoryPushes: laid · StoryReads: laid · TreeAll: laid · TreeOwn: laid · TreeCounts: laid · TreeStays: laid · TreeEmpty: laid · ViewFull: laid.
  DERIVED. THE GIVEN ROWS OF THIS SEAT. 10 by the template 'for every input the law returns true; each argument reads behind the call as it read before'; 0 by the template 'total and deterministic' (their statements: YtmamkegcnacbbaaDoorTotals.lean).
  GIVEN WITH THE SEED: the statements are not yours to turn. If you find one false, say at which input.
  Laid BY PROGRAM, IN A SANDBOX (cutbox-rows.mjs): the forced cells as the released guide's own fill.sh prints them over the translation 2cbe9e8c35ef64a1… (all of the seat's roots in one cut). By AI agents, Wed Nov 11 2026. No macro, syntax, notation, axiom, sorry.
-/
import Derived.Test.YtmamkegcnacbbaaDoorChecked
import GoSem.PinnedTables
import GoSem.Claim
import GoSem.ClaimJoined
import GoSem.ClaimMapViews
import Derived.JoinedTies
import Derived.KernelRfl
namespace Go.Proofs.YtmamkegcnacbbaaDoor
/- THE CELL 'sum', in the pinned program and in every row, IS THE sha256 OF THE DUMP (.gsa) THAT YtmamkegcnacbbaaDoorProg.lean LOADS. Nothing in Lean hashes anything: it is a label: what it is worth is what the hold of that sum in a sandbox is worth. -/
noncomputable def Tryd.pinned : Pinned := { name := "ytmamkegcnacbbaadoor", sum := "2cbe9e8c35ef64a11fda8ba472f5cff0cf5fc11b259264aab60f370ab264c712", checked := Tryd.checked }
namespace Rows
def none {H : Type} : Left H := { results := [], args := [] }

/- WHAT THE LISTED PACKAGE-LEVEL VARIABLES READ AS WHEN THE CALL BEGINS. Each datum BY PROGRAM (the guide's laid-datum.mjs) off the statement by which the dump's own 'gosem.cut.vars' lays the variable. In a bare row this is a premise. The card (YtmamkegcnacbbaaDoorCards.lean) ties it to the program's text. -/
def laid_errors_errorType {H : Type} : DataW H := .iface "internal/reflectlite.rtype" (.agg [.ptr (.lit (.string [101, 114, 114, 111, 114]))])
def laid_unicode_utf8_acceptRanges {H : Type} : DataW H := .agg [.agg [.lit (.int .u8 128), .lit (.int .u8 191)], .agg [.lit (.int .u8 160), .lit (.int .u8 191)], .agg [.lit (.int .u8 128), .lit (.int .u8 159)], .agg [.lit (.int .u8 144), .lit (.int .u8 191)], .agg [.lit (.int .u8 128), .lit (.int .u8 143)], .agg [.lit (.int .u8 0), .lit (.int .u8 0)], .agg [.lit (.int .u8 0), .lit (.int .u8 0)], .agg [.lit (.int .u8 0), .lit (.int .u8 0)], .agg [.lit (.int .u8 0), .lit (.int .u8 0)], .agg [.lit (.int .u8 0), .lit (.int .u8 0)], .agg [.lit (.int .u8 0), .lit (.int .u8 0)], .agg [.lit (.int .u8 0), .lit (.int .u8 0)], .agg [.lit (.int .u8 0), .lit (.int .u8 0)], .agg [.lit (.int .u8 0), .lit (.int .u8 0)], .agg [.lit (.int .u8 0), .lit (.int .u8 0)], .agg [.lit (.int .u8 0), .lit (.int .u8 0)]]
/-- One of Go's own tables, pinned by name: the form's constant. -/
def laid_unicode_utf8_first : DataW Unit := Go.Pinned.utf8First

/-- 'wharfingerlaw23.StoryPaths': WHATEVER THE INPUT: true; the input reads as it did. -/
def storyPathsSpec : ChangeSpec := { name := "storyPaths", fn := fun _ => fun
  | [d] => { results := [.lit (.bool true)], args := [d] }
  | _ => none }
def storyPathsRow : OpenClaim := { program := "ytmamkegcnacbbaadoor", sum := "2cbe9e8c35ef64a11fda8ba472f5cff0cf5fc11b259264aab60f370ab264c712", func := "wharfinger/wharfingerlaw23.StoryPaths", spec := "storyPaths", inPlace := ["maps.clone", "internal/reflectlite.ValueOf", "(internal/reflectlite.Value).Type", "(internal/reflectlite.Value).IsNil", "internal/reflectlite.TypeOf", "(internal/reflectlite.Value).Elem", "(internal/reflectlite.Value).Set"], unfollowed := true, recurses := true, named := ["errors.errorType"], apart := false, laid := [("errors.errorType", laid_errors_errorType)] }
def StoryPathsSaid : Prop := storyPathsRow.holds Tryd.pinned (OpenSpec.ofChange storyPathsSpec)

/-- ITS FALSE NEIGHBOUR: 'it returns false'. Refute it at one input. -/
def storyPathsWrong : ChangeSpec := { name := "storyPaths", fn := fun _ => fun
  | [d] => { results := [.lit (.bool false)], args := [d] }
  | _ => none }
def StoryPathsWrongFalsely : Prop := storyPathsRow.holds Tryd.pinned (OpenSpec.ofChange storyPathsWrong)

/-- 'wharfingerlaw23.StoryBegins': WHATEVER THE INPUT: true; the input reads as it did. -/
def storyBeginsSpec : ChangeSpec := { name := "storyBegins", fn := fun _ => fun
  | [d1, d2] => { results := [.lit (.bool true)], args := [d1, d2] }
  | _ => none }
def storyBeginsRow : OpenClaim := { program := "ytmamkegcnacbbaadoor", sum := "2cbe9e8c35ef64a11fda8ba472f5cff0cf5fc11b259264aab60f370ab264c712", func := "wharfinger/wharfingerlaw23.StoryBegins", spec := "storyBegins", inPlace := ["maps.clone", "internal/reflectlite.ValueOf", "(internal/reflectlite.Value).Type", "(internal/reflectlite.Value).IsNil", "internal/reflectlite.TypeOf", "(internal/reflectlite.Value).Elem", "(internal/reflectlite.Value).Set"], unfollowed := true, recurses := true, named := ["errors.errorType"], apart := false, laid := [("errors.errorType", laid_errors_errorType)] }
def StoryBeginsSaid : Prop := storyBeginsRow.holds Tryd.pinned (OpenSpec.ofChange storyBeginsSpec)

/-- ITS FALSE NEIGHBOUR: 'it returns false'. Refute it at one input. -/
def storyBeginsWrong : ChangeSpec := { name := "storyBegins", fn := fun _ => fun
  | [d1, d2] => { results := [.lit (.bool false)], args := [d1, d2] }
  | _ => none }
def StoryBeginsWrongFalsely : Prop := storyBeginsRow.holds Tryd.pinned (OpenSpec.ofChange storyBeginsWrong)

/-- 'wharfingerlaw23.StoryPushes': WHATEVER THE INPUT: true; the input reads as it did. -/
def storyPushesSpec : ChangeSpec := { name := "storyPushes", fn := fun _ => fun
  | [d] => { results := [.lit (.bool true)], args := [d] }
  | _ => none }
def storyPushesRow : OpenClaim := { program := "ytmamkegcnacbbaadoor", sum := "2cbe9e8c35ef64a11fda8ba472f5cff0cf5fc11b259264aab60f370ab264c712", func := "wharfinger/wharfingerlaw23.StoryPushes", spec := "storyPushes", inPlace := ["maps.clone", "internal/reflectlite.ValueOf", "(internal/reflectlite.Value).Type", "(internal/reflectlite.Value).IsNil", "internal/reflectlite.TypeOf", "(internal/reflectlite.Value).Elem", "(internal/reflectlite.Value).Set"], unfollowed := true, recurses := true, named := ["errors.errorType"], apart := false, laid := [("errors.errorType", laid_errors_errorType)] }
def StoryPushesSaid : Prop := storyPushesRow.holds Tryd.pinned (OpenSpec.ofChange storyPushesSpec)

/-- ITS FALSE NEIGHBOUR: 'it returns false'. Refute it at one input. -/
def storyPushesWrong : ChangeSpec := { name := "storyPushes", fn := fun _ => fun
  | [d] => { results := [.lit (.bool false)], args := [d] }
  | _ => none }
def StoryPushesWrongFalsely : Prop := storyPushesRow.holds Tryd.pinned (OpenSpec.ofChange storyPushesWrong)

/-- 'wharfingerlaw23.StoryReads': WHATEVER THE INPUT: true; the input reads as it did. -/
def storyReadsSpec : ChangeSpec := { name := "storyReads", fn := fun _ => fun
  | [d1, d2] => { results := [.lit (.bool true)], args := [d1, d2] }
  | _ => none }
def storyReadsRow : OpenClaim := { program := "ytmamkegcnacbbaadoor", sum := "2cbe9e8c35ef64a11fda8ba472f5cff0cf5fc11b259264aab60f370ab264c712", func := "wharfinger/wharfingerlaw23.StoryReads", spec := "storyReads", inPlace := ["maps.clone", "internal/reflectlite.ValueOf", "(internal/reflectlite.Value).Type", "(internal/reflectlite.Value).IsNil", "internal/reflectlite.TypeOf", "(internal/reflectlite.Value).Elem", "(internal/reflectlite.Value).Set"], unfollowed := true, recurses := true, named := ["errors.errorType"], apart := false, laid := [("errors.errorType", laid_errors_errorType)] }
def StoryReadsSaid : Prop := storyReadsRow.holds Tryd.pinned (OpenSpec.ofChange storyReadsSpec)

/-- ITS FALSE NEIGHBOUR: 'it returns false'. Refute it at one input. -/
def storyReadsWrong : ChangeSpec := { name := "storyReads", fn := fun _ => fun
  | [d1, d2] => { results := [.lit (.bool false)], args := [d1, d2] }
  | _ => none }
def StoryReadsWrongFalsely : Prop := storyReadsRow.holds Tryd.pinned (OpenSpec.ofChange storyReadsWrong)

/-- 'wharfingerlaw10.TreeAll': WHATEVER THE INPUT: true; the input reads as it did. -/
def treeAllSpec : ChangeSpec := { name := "treeAll", fn := fun _ => fun
  | [d1, d2] => { results := [.lit (.bool true)], args := [d1, d2] }
  | _ => none }
def treeAllRow : OpenClaim := { program := "ytmamkegcnacbbaadoor", sum := "2cbe9e8c35ef64a11fda8ba472f5cff0cf5fc11b259264aab60f370ab264c712", func := "wharfinger/wharfingerlaw10.TreeAll", spec := "treeAll", inPlace := ["internal/bytealg.CountString", "internal/bytealg.IndexByteString", "internal/bytealg.IndexString"], recurses := true, named := ["unicode/utf8.first", "unicode/utf8.acceptRanges", "internal/bytealg.MaxLen"], apart := false, laid := [("unicode/utf8.acceptRanges", laid_unicode_utf8_acceptRanges), ("unicode/utf8.first", laid_unicode_utf8_first)] }
def TreeAllSaid : Prop := treeAllRow.holds Tryd.pinned (OpenSpec.ofChange treeAllSpec)

/-- ITS FALSE NEIGHBOUR: 'it returns false'. Refute it at one input. -/
def treeAllWrong : ChangeSpec := { name := "treeAll", fn := fun _ => fun
  | [d1, d2] => { results := [.lit (.bool false)], args := [d1, d2] }
  | _ => none }
def TreeAllWrongFalsely : Prop := treeAllRow.holds Tryd.pinned (OpenSpec.ofChange treeAllWrong)

/-- 'wharfingerlaw10.TreeOwn': WHATEVER THE INPUT: true; the input reads as it did. -/
def treeOwnSpec : ChangeSpec := { name := "treeOwn", fn := fun _ => fun
  | [d] => { results := [.lit (.bool true)], args := [d] }
  | _ => none }
def treeOwnRow : OpenClaim := { program := "ytmamkegcnacbbaadoor", sum := "2cbe9e8c35ef64a11fda8ba472f5cff0cf5fc11b259264aab60f370ab264c712", func := "wharfinger/wharfingerlaw10.TreeOwn", spec := "treeOwn", inPlace := ["internal/bytealg.CountString", "internal/bytealg.IndexByteString", "internal/bytealg.IndexString"], recurses := true, named := ["unicode/utf8.first", "unicode/utf8.acceptRanges", "internal/bytealg.MaxLen"], apart := false, laid := [("unicode/utf8.acceptRanges", laid_unicode_utf8_acceptRanges), ("unicode/utf8.first", laid_unicode_utf8_first)] }
def TreeOwnSaid : Prop := treeOwnRow.holds Tryd.pinned (OpenSpec.ofChange treeOwnSpec)

/-- ITS FALSE NEIGHBOUR: 'it returns false'. Refute it at one input. -/
def treeOwnWrong : ChangeSpec := { name := "treeOwn", fn := fun _ => fun
  | [d] => { results := [.lit (.bool false)], args := [d] }
  | _ => none }
def TreeOwnWrongFalsely : Prop := treeOwnRow.holds Tryd.pinned (OpenSpec.ofChange treeOwnWrong)

/-- 'wharfingerlaw10.TreeCounts': WHATEVER THE INPUT: true; the input reads as it did. -/
def treeCountsSpec : ChangeSpec := { name := "treeCounts", fn := fun _ => fun
  | [d] => { results := [.lit (.bool true)], args := [d] }
  | _ => none }
def treeCountsRow : OpenClaim := { program := "ytmamkegcnacbbaadoor", sum := "2cbe9e8c35ef64a11fda8ba472f5cff0cf5fc11b259264aab60f370ab264c712", func := "wharfinger/wharfingerlaw10.TreeCounts", spec := "treeCounts", inPlace := ["internal/bytealg.CountString", "internal/bytealg.IndexByteString", "internal/bytealg.IndexString"], recurses := true, named := ["unicode/utf8.first", "unicode/utf8.acceptRanges", "internal/bytealg.MaxLen"], apart := false, laid := [("unicode/utf8.acceptRanges", laid_unicode_utf8_acceptRanges), ("unicode/utf8.first", laid_unicode_utf8_first)] }
def TreeCountsSaid : Prop := treeCountsRow.holds Tryd.pinned (OpenSpec.ofChange treeCountsSpec)

/-- ITS FALSE NEIGHBOUR: 'it returns false'. Refute it at one input. -/
def treeCountsWrong : ChangeSpec := { name := "treeCounts", fn := fun _ => fun
  | [d] => { results := [.lit (.bool false)], args := [d] }
  | _ => none }
def TreeCountsWrongFalsely : Prop := treeCountsRow.holds Tryd.pinned (OpenSpec.ofChange treeCountsWrong)

/-- 'wharfingerlaw10.TreeStays': WHATEVER THE INPUT: true; the input reads as it did. -/
def treeStaysSpec : ChangeSpec := { name := "treeStays", fn := fun _ => fun
  | [d1, d2] => { results := [.lit (.bool true)], args := [d1, d2] }
  | _ => none }
def treeStaysRow : OpenClaim := { program := "ytmamkegcnacbbaadoor", sum := "2cbe9e8c35ef64a11fda8ba472f5cff0cf5fc11b259264aab60f370ab264c712", func := "wharfinger/wharfingerlaw10.TreeStays", spec := "treeStays", inPlace := ["internal/bytealg.CountString", "internal/bytealg.IndexByteString", "internal/bytealg.IndexString"], recurses := true, named := ["unicode/utf8.first", "unicode/utf8.acceptRanges", "internal/bytealg.MaxLen"], apart := false, laid := [("unicode/utf8.acceptRanges", laid_unicode_utf8_acceptRanges), ("unicode/utf8.first", laid_unicode_utf8_first)] }
def TreeStaysSaid : Prop := treeStaysRow.holds Tryd.pinned (OpenSpec.ofChange treeStaysSpec)

/-- ITS FALSE NEIGHBOUR: 'it returns false'. Refute it at one input. -/
def treeStaysWrong : ChangeSpec := { name := "treeStays", fn := fun _ => fun
  | [d1, d2] => { results := [.lit (.bool false)], args := [d1, d2] }
  | _ => none }
def TreeStaysWrongFalsely : Prop := treeStaysRow.holds Tryd.pinned (OpenSpec.ofChange treeStaysWrong)

/-- 'wharfingerlaw10.TreeEmpty': WHATEVER THE INPUT: true; the input reads as it did. -/
def treeEmptySpec : ChangeSpec := { name := "treeEmpty", fn := fun _ => fun
  | [d1, d2] => { results := [.lit (.bool true)], args := [d1, d2] }
  | _ => none }
def treeEmptyRow : OpenClaim := { program := "ytmamkegcnacbbaadoor", sum := "2cbe9e8c35ef64a11fda8ba472f5cff0cf5fc11b259264aab60f370ab264c712", func := "wharfinger/wharfingerlaw10.TreeEmpty", spec := "treeEmpty", inPlace := ["internal/bytealg.CountString", "internal/bytealg.IndexByteString", "internal/bytealg.IndexString", "internal/reflectlite.ValueOf", "(internal/reflectlite.Value).Type", "(internal/reflectlite.Value).IsNil", "internal/reflectlite.TypeOf", "(internal/reflectlite.Value).Elem", "(internal/reflectlite.Value).Set"], unfollowed := true, recurses := true, named := ["unicode/utf8.first", "unicode/utf8.acceptRanges", "internal/bytealg.MaxLen", "errors.errorType"], apart := false, laid := [("unicode/utf8.acceptRanges", laid_unicode_utf8_acceptRanges), ("errors.errorType", laid_errors_errorType), ("unicode/utf8.first", laid_unicode_utf8_first)] }
def TreeEmptySaid : Prop := treeEmptyRow.holds Tryd.pinned (OpenSpec.ofChange treeEmptySpec)

/-- ITS FALSE NEIGHBOUR: 'it returns false'. Refute it at one input. -/
def treeEmptyWrong : ChangeSpec := { name := "treeEmpty", fn := fun _ => fun
  | [d1, d2] => { results := [.lit (.bool false)], args := [d1, d2] }
  | _ => none }
def TreeEmptyWrongFalsely : Prop := treeEmptyRow.holds Tryd.pinned (OpenSpec.ofChange treeEmptyWrong)

/-- 'wharfingerlaw11.ViewFull': WHATEVER THE INPUT: true; the input reads as it did. -/
def viewFullSpec : ChangeSpec := { name := "viewFull", fn := fun _ => fun
  | [d1, d2] => { results := [.lit (.bool true)], args := [d1, d2] }
  | _ => none }
def viewFullRow : OpenClaim := { program := "ytmamkegcnacbbaadoor", sum := "2cbe9e8c35ef64a11fda8ba472f5cff0cf5fc11b259264aab60f370ab264c712", func := "wharfinger/wharfingerlaw11.ViewFull", spec := "viewFull", inPlace := ["internal/bytealg.CountString", "internal/bytealg.IndexByteString", "internal/bytealg.IndexString"], unfollowed := true, recurses := true, named := ["unicode/utf8.first", "unicode/utf8.acceptRanges", "internal/bytealg.MaxLen"], apart := false, laid := [("unicode/utf8.acceptRanges", laid_unicode_utf8_acceptRanges), ("unicode/utf8.first", laid_unicode_utf8_first)] }
def ViewFullSaid : Prop := viewFullRow.holds Tryd.pinned (OpenSpec.ofChange viewFullSpec)

/-- ITS FALSE NEIGHBOUR: 'it returns false'. Refute it at one input. -/
def viewFullWrong : ChangeSpec := { name := "viewFull", fn := fun _ => fun
  | [d1, d2] => { results := [.lit (.bool false)], args := [d1, d2] }
  | _ => none }
def ViewFullWrongFalsely : Prop := viewFullRow.holds Tryd.pinned (OpenSpec.ofChange viewFullWrong)

/- THE SECOND FORM. 'bulk': how many values and letters a reading holds, each counted each time it is reached (what is shared counts as often as it is met; a slice's spare places count too). A statement '..UptoSaid' is the law's where the arguments, and the package variables that the reading takes, are together of bulk at most 1048576: NARROWER than '..Said'. Prove '..Said' where nothing that the law and all that it calls make is longer than what came in: it says more and counts as full. Else prove '..UptoSaid'. A law counts once. -/
mutual
def uptoBulk {H : Type} : DataW H → Nat
  | .lit (.string bytes) => bytes.length + 1
  | .lit _ => 1
  | .nil => 1
  | .ptr d => uptoBulk d + 1
  | .slice elems spare => uptoBulkAll elems + uptoBulkAll spare + 1
  | .agg parts => uptoBulkAll parts + 1
  | .iface _ d => uptoBulk d + 1
  | .map entries => uptoBulkEntries entries + 1
  | .held _ => 1
def uptoBulkAll {H : Type} : List (DataW H) → Nat
  | [] => 0
  | d :: r => uptoBulk d + uptoBulkAll r
def uptoBulkEntries {H : Type} : List (Lit × DataW H) → Nat
  | [] => 0
  | x :: r => uptoBulkEntry x + uptoBulkEntries r
def uptoBulkEntry {H : Type} : Lit × DataW H → Nat
  | (.string bytes, d) => bytes.length + uptoBulk d + 1
  | (_, d) => uptoBulk d + 1
 end
def uptoSmall : (H : Type) → List (DataW H) → Bool := fun _ ds => decide (uptoBulkAll ds ≤ 1048576)
def OpenSpec.upto (s : _root_.Go.ChangeSpec) : _root_.Go.OpenSpec := { _root_.Go.OpenSpec.ofChange s with cond := some uptoSmall }

/-- 'wharfingerlaw23.StoryPaths', WHERE WHAT IT READS IS OF BULK AT MOST 1048576: true; the input reads as it did. -/
def storyPathsUptoRow : OpenClaim := { program := "ytmamkegcnacbbaadoor", sum := "2cbe9e8c35ef64a11fda8ba472f5cff0cf5fc11b259264aab60f370ab264c712", func := "wharfinger/wharfingerlaw23.StoryPaths", spec := "storyPaths", inPlace := ["maps.clone", "internal/reflectlite.ValueOf", "(internal/reflectlite.Value).Type", "(internal/reflectlite.Value).IsNil", "internal/reflectlite.TypeOf", "(internal/reflectlite.Value).Elem", "(internal/reflectlite.Value).Set"], unfollowed := true, recurses := true, named := ["errors.errorType"], apart := false, laid := [("errors.errorType", laid_errors_errorType)], narrowed := true }
def StoryPathsUptoSaid : Prop := storyPathsUptoRow.holds Tryd.pinned (OpenSpec.upto storyPathsSpec)

/-- 'wharfingerlaw23.StoryBegins', WHERE WHAT IT READS IS OF BULK AT MOST 1048576: true; the input reads as it did. -/
def storyBeginsUptoRow : OpenClaim := { program := "ytmamkegcnacbbaadoor", sum := "2cbe9e8c35ef64a11fda8ba472f5cff0cf5fc11b259264aab60f370ab264c712", func := "wharfinger/wharfingerlaw23.StoryBegins", spec := "storyBegins", inPlace := ["maps.clone", "internal/reflectlite.ValueOf", "(internal/reflectlite.Value).Type", "(internal/reflectlite.Value).IsNil", "internal/reflectlite.TypeOf", "(internal/reflectlite.Value).Elem", "(internal/reflectlite.Value).Set"], unfollowed := true, recurses := true, named := ["errors.errorType"], apart := false, laid := [("errors.errorType", laid_errors_errorType)], narrowed := true }
def StoryBeginsUptoSaid : Prop := storyBeginsUptoRow.holds Tryd.pinned (OpenSpec.upto storyBeginsSpec)

/-- 'wharfingerlaw23.StoryPushes', WHERE WHAT IT READS IS OF BULK AT MOST 1048576: true; the input reads as it did. -/
def storyPushesUptoRow : OpenClaim := { program := "ytmamkegcnacbbaadoor", sum := "2cbe9e8c35ef64a11fda8ba472f5cff0cf5fc11b259264aab60f370ab264c712", func := "wharfinger/wharfingerlaw23.StoryPushes", spec := "storyPushes", inPlace := ["maps.clone", "internal/reflectlite.ValueOf", "(internal/reflectlite.Value).Type", "(internal/reflectlite.Value).IsNil", "internal/reflectlite.TypeOf", "(internal/reflectlite.Value).Elem", "(internal/reflectlite.Value).Set"], unfollowed := true, recurses := true, named := ["errors.errorType"], apart := false, laid := [("errors.errorType", laid_errors_errorType)], narrowed := true }
def StoryPushesUptoSaid : Prop := storyPushesUptoRow.holds Tryd.pinned (OpenSpec.upto storyPushesSpec)

/-- 'wharfingerlaw23.StoryReads', WHERE WHAT IT READS IS OF BULK AT MOST 1048576: true; the input reads as it did. -/
def storyReadsUptoRow : OpenClaim := { program := "ytmamkegcnacbbaadoor", sum := "2cbe9e8c35ef64a11fda8ba472f5cff0cf5fc11b259264aab60f370ab264c712", func := "wharfinger/wharfingerlaw23.StoryReads", spec := "storyReads", inPlace := ["maps.clone", "internal/reflectlite.ValueOf", "(internal/reflectlite.Value).Type", "(internal/reflectlite.Value).IsNil", "internal/reflectlite.TypeOf", "(internal/reflectlite.Value).Elem", "(internal/reflectlite.Value).Set"], unfollowed := true, recurses := true, named := ["errors.errorType"], apart := false, laid := [("errors.errorType", laid_errors_errorType)], narrowed := true }
def StoryReadsUptoSaid : Prop := storyReadsUptoRow.holds Tryd.pinned (OpenSpec.upto storyReadsSpec)

/-- 'wharfingerlaw10.TreeAll', WHERE WHAT IT READS IS OF BULK AT MOST 1048576: true; the input reads as it did. -/
def treeAllUptoRow : OpenClaim := { program := "ytmamkegcnacbbaadoor", sum := "2cbe9e8c35ef64a11fda8ba472f5cff0cf5fc11b259264aab60f370ab264c712", func := "wharfinger/wharfingerlaw10.TreeAll", spec := "treeAll", inPlace := ["internal/bytealg.CountString", "internal/bytealg.IndexByteString", "internal/bytealg.IndexString"], recurses := true, named := ["unicode/utf8.first", "unicode/utf8.acceptRanges", "internal/bytealg.MaxLen"], apart := false, laid := [("unicode/utf8.acceptRanges", laid_unicode_utf8_acceptRanges), ("unicode/utf8.first", laid_unicode_utf8_first)], narrowed := true }
def TreeAllUptoSaid : Prop := treeAllUptoRow.holds Tryd.pinned (OpenSpec.upto treeAllSpec)

/-- 'wharfingerlaw10.TreeOwn', WHERE WHAT IT READS IS OF BULK AT MOST 1048576: true; the input reads as it did. -/
def treeOwnUptoRow : OpenClaim := { program := "ytmamkegcnacbbaadoor", sum := "2cbe9e8c35ef64a11fda8ba472f5cff0cf5fc11b259264aab60f370ab264c712", func := "wharfinger/wharfingerlaw10.TreeOwn", spec := "treeOwn", inPlace := ["internal/bytealg.CountString", "internal/bytealg.IndexByteString", "internal/bytealg.IndexString"], recurses := true, named := ["unicode/utf8.first", "unicode/utf8.acceptRanges", "internal/bytealg.MaxLen"], apart := false, laid := [("unicode/utf8.acceptRanges", laid_unicode_utf8_acceptRanges), ("unicode/utf8.first", laid_unicode_utf8_first)], narrowed := true }
def TreeOwnUptoSaid : Prop := treeOwnUptoRow.holds Tryd.pinned (OpenSpec.upto treeOwnSpec)

/-- 'wharfingerlaw10.TreeCounts', WHERE WHAT IT READS IS OF BULK AT MOST 1048576: true; the input reads as it did. -/
def treeCountsUptoRow : OpenClaim := { program := "ytmamkegcnacbbaadoor", sum := "2cbe9e8c35ef64a11fda8ba472f5cff0cf5fc11b259264aab60f370ab264c712", func := "wharfinger/wharfingerlaw10.TreeCounts", spec := "treeCounts", inPlace := ["internal/bytealg.CountString", "internal/bytealg.IndexByteString", "internal/bytealg.IndexString"], recurses := true, named := ["unicode/utf8.first", "unicode/utf8.acceptRanges", "internal/bytealg.MaxLen"], apart := false, laid := [("unicode/utf8.acceptRanges", laid_unicode_utf8_acceptRanges), ("unicode/utf8.first", laid_unicode_utf8_first)], narrowed := true }
def TreeCountsUptoSaid : Prop := treeCountsUptoRow.holds Tryd.pinned (OpenSpec.upto treeCountsSpec)

/-- 'wharfingerlaw10.TreeStays', WHERE WHAT IT READS IS OF BULK AT MOST 1048576: true; the input reads as it did. -/
def treeStaysUptoRow : OpenClaim := { program := "ytmamkegcnacbbaadoor", sum := "2cbe9e8c35ef64a11fda8ba472f5cff0cf5fc11b259264aab60f370ab264c712", func := "wharfinger/wharfingerlaw10.TreeStays", spec := "treeStays", inPlace := ["internal/bytealg.CountString", "internal/bytealg.IndexByteString", "internal/bytealg.IndexString"], recurses := true, named := ["unicode/utf8.first", "unicode/utf8.acceptRanges", "internal/bytealg.MaxLen"], apart := false, laid := [("unicode/utf8.acceptRanges", laid_unicode_utf8_acceptRanges), ("unicode/utf8.first", laid_unicode_utf8_first)], narrowed := true }
def TreeStaysUptoSaid : Prop := treeStaysUptoRow.holds Tryd.pinned (OpenSpec.upto treeStaysSpec)

/-- 'wharfingerlaw10.TreeEmpty', WHERE WHAT IT READS IS OF BULK AT MOST 1048576: true; the input reads as it did. -/
def treeEmptyUptoRow : OpenClaim := { program := "ytmamkegcnacbbaadoor", sum := "2cbe9e8c35ef64a11fda8ba472f5cff0cf5fc11b259264aab60f370ab264c712", func := "wharfinger/wharfingerlaw10.TreeEmpty", spec := "treeEmpty", inPlace := ["internal/bytealg.CountString", "internal/bytealg.IndexByteString", "internal/bytealg.IndexString", "internal/reflectlite.ValueOf", "(internal/reflectlite.Value).Type", "(internal/reflectlite.Value).IsNil", "internal/reflectlite.TypeOf", "(internal/reflectlite.Value).Elem", "(internal/reflectlite.Value).Set"], unfollowed := true, recurses := true, named := ["unicode/utf8.first", "unicode/utf8.acceptRanges", "internal/bytealg.MaxLen", "errors.errorType"], apart := false, laid := [("unicode/utf8.acceptRanges", laid_unicode_utf8_acceptRanges), ("errors.errorType", laid_errors_errorType), ("unicode/utf8.first", laid_unicode_utf8_first)], narrowed := true }
def TreeEmptyUptoSaid : Prop := treeEmptyUptoRow.holds Tryd.pinned (OpenSpec.upto treeEmptySpec)

/-- 'wharfingerlaw11.ViewFull', WHERE WHAT IT READS IS OF BULK AT MOST 1048576: true; the input reads as it did. -/
def viewFullUptoRow : OpenClaim := { program := "ytmamkegcnacbbaadoor", sum := "2cbe9e8c35ef64a11fda8ba472f5cff0cf5fc11b259264aab60f370ab264c712", func := "wharfinger/wharfingerlaw11.ViewFull", spec := "viewFull", inPlace := ["internal/bytealg.CountString", "internal/bytealg.IndexByteString", "internal/bytealg.IndexString"], unfollowed := true, recurses := true, named := ["unicode/utf8.first", "unicode/utf8.acceptRanges", "internal/bytealg.MaxLen"], apart := false, laid := [("unicode/utf8.acceptRanges", laid_unicode_utf8_acceptRanges), ("unicode/utf8.first", laid_unicode_utf8_first)], narrowed := true }
def ViewFullUptoSaid : Prop := viewFullUptoRow.holds Tryd.pinned (OpenSpec.upto viewFullSpec)

end Rows
end Go.Proofs.YtmamkegcnacbbaaDoor
