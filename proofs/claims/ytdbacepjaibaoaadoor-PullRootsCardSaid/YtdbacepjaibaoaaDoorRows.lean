/-
  NARROWER THAN 'FOR EVERY INPUT', by the rows' own cells (each row's printed sentence says how): StoryPaths: laid · StoryBegins: laid · StoryPushes: laid · StoryReads: laid · PullRoots: laid.
  DERIVED. THE GIVEN ROWS OF THIS SEAT. 5 by the template 'for every input the law returns true; each argument reads behind the call as it read before'; 0 by the template 'total and deterministic' (their statements: YtdbacepjaibaoaaDoorTotals.lean).
  GIVEN WITH THE SEED: the statements are not yours to turn. If you find one false, say at which input.
  Laid BY PROGRAM, IN A SANDBOX (cutbox-rows.mjs): the forced cells as the released guide's own fill.sh prints them over the translation c37b6da79655ad0e… (all of the seat's roots in one cut). By AI agents, Wed Nov 11 2026. No macro, syntax, notation, axiom, sorry.
-/
import Derived.Test.YtdbacepjaibaoaaDoorChecked
import GoSem.PinnedTables
import GoSem.Claim
import GoSem.ClaimJoined
import GoSem.ClaimMapViews
import Derived.JoinedTies
import Derived.KernelRfl
namespace Go.Proofs.YtdbacepjaibaoaaDoor
/- THE CELL 'sum', in the pinned program and in every row, IS THE sha256 OF THE DUMP (.gsa) THAT YtdbacepjaibaoaaDoorProg.lean LOADS. Nothing in Lean hashes anything: it is a label: what it is worth is what the hold of that sum in a sandbox is worth. -/
noncomputable def Tryd.pinned : Pinned := { name := "ytdbacepjaibaoaadoor", sum := "c37b6da79655ad0e060bd27972448b1ef16b79645edf4d59b0971c3128be4806", checked := Tryd.checked }
namespace Rows
def none {H : Type} : Left H := { results := [], args := [] }

/- WHAT THE LISTED PACKAGE-LEVEL VARIABLES READ AS WHEN THE CALL BEGINS. Each datum BY PROGRAM (the guide's laid-datum.mjs) off the statement by which the dump's own 'gosem.cut.vars' lays the variable. In a bare row this is a premise. The card (YtdbacepjaibaoaaDoorCards.lean) ties it to the program's text. -/
def laid_errors_errorType {H : Type} : DataW H := .iface "internal/reflectlite.rtype" (.agg [.ptr (.lit (.string [101, 114, 114, 111, 114]))])
def laid_unicode_utf8_acceptRanges {H : Type} : DataW H := .agg [.agg [.lit (.int .u8 128), .lit (.int .u8 191)], .agg [.lit (.int .u8 160), .lit (.int .u8 191)], .agg [.lit (.int .u8 128), .lit (.int .u8 159)], .agg [.lit (.int .u8 144), .lit (.int .u8 191)], .agg [.lit (.int .u8 128), .lit (.int .u8 143)], .agg [.lit (.int .u8 0), .lit (.int .u8 0)], .agg [.lit (.int .u8 0), .lit (.int .u8 0)], .agg [.lit (.int .u8 0), .lit (.int .u8 0)], .agg [.lit (.int .u8 0), .lit (.int .u8 0)], .agg [.lit (.int .u8 0), .lit (.int .u8 0)], .agg [.lit (.int .u8 0), .lit (.int .u8 0)], .agg [.lit (.int .u8 0), .lit (.int .u8 0)], .agg [.lit (.int .u8 0), .lit (.int .u8 0)], .agg [.lit (.int .u8 0), .lit (.int .u8 0)], .agg [.lit (.int .u8 0), .lit (.int .u8 0)], .agg [.lit (.int .u8 0), .lit (.int .u8 0)]]
/-- One of Go's own tables, pinned by name: the form's constant. -/
def laid_unicode_utf8_first : DataW Unit := Go.Pinned.utf8First

/-- 'wharfingerlaw23.StoryPaths': WHATEVER THE INPUT: true; the input reads as it did. -/
def storyPathsSpec : ChangeSpec := { name := "storyPaths", fn := fun _ => fun
  | [d] => { results := [.lit (.bool true)], args := [d] }
  | _ => none }
def storyPathsRow : OpenClaim := { program := "ytdbacepjaibaoaadoor", sum := "c37b6da79655ad0e060bd27972448b1ef16b79645edf4d59b0971c3128be4806", func := "wharfinger/wharfingerlaw23.StoryPaths", spec := "storyPaths", inPlace := ["maps.clone", "internal/reflectlite.ValueOf", "(internal/reflectlite.Value).Type", "(internal/reflectlite.Value).IsNil", "internal/reflectlite.TypeOf", "(internal/reflectlite.Value).Elem", "(internal/reflectlite.Value).Set"], unfollowed := true, recurses := true, named := ["errors.errorType"], apart := false, laid := [("errors.errorType", laid_errors_errorType)] }
def StoryPathsSaid : Prop := storyPathsRow.holds Tryd.pinned (OpenSpec.ofChange storyPathsSpec)

/-- ITS FALSE NEIGHBOUR: 'it returns false'. Refute it at one input. -/
def storyPathsWrong : ChangeSpec := { name := "storyPaths", fn := fun _ => fun
  | [d] => { results := [.lit (.bool false)], args := [d] }
  | _ => none }
def StoryPathsWrongFalsely : Prop := storyPathsRow.holds Tryd.pinned (OpenSpec.ofChange storyPathsWrong)

/-- 'wharfingerlaw23.StoryBegins': WHATEVER THE INPUT: true; the input reads as it did. -/
def storyBeginsSpec : ChangeSpec := { name := "storyBegins", fn := fun _ => fun
  | [d1, d2] => { results := [.lit (.bool true)], args := [d1, d2] }
  | _ => none }
def storyBeginsRow : OpenClaim := { program := "ytdbacepjaibaoaadoor", sum := "c37b6da79655ad0e060bd27972448b1ef16b79645edf4d59b0971c3128be4806", func := "wharfinger/wharfingerlaw23.StoryBegins", spec := "storyBegins", inPlace := ["maps.clone", "internal/reflectlite.ValueOf", "(internal/reflectlite.Value).Type", "(internal/reflectlite.Value).IsNil", "internal/reflectlite.TypeOf", "(internal/reflectlite.Value).Elem", "(internal/reflectlite.Value).Set"], unfollowed := true, recurses := true, named := ["errors.errorType"], apart := false, laid := [("errors.errorType", laid_errors_errorType)] }
def StoryBeginsSaid : Prop := storyBeginsRow.holds Tryd.pinned (OpenSpec.ofChange storyBeginsSpec)

/-- ITS FALSE NEIGHBOUR: 'it returns false'. Refute it at one input. -/
def storyBeginsWrong : ChangeSpec := { name := "storyBegins", fn := fun _ => fun
  | [d1, d2] => { results := [.lit (.bool false)], args := [d1, d2] }
  | _ => none }
def StoryBeginsWrongFalsely : Prop := storyBeginsRow.holds Tryd.pinned (OpenSpec.ofChange storyBeginsWrong)

/-- 'wharfingerlaw23.StoryPushes': WHATEVER THE INPUT: true; the input reads as it did. -/
def storyPushesSpec : ChangeSpec := { name := "storyPushes", fn := fun _ => fun
  | [d] => { results := [.lit (.bool true)], args := [d] }
  | _ => none }
def storyPushesRow : OpenClaim := { program := "ytdbacepjaibaoaadoor", sum := "c37b6da79655ad0e060bd27972448b1ef16b79645edf4d59b0971c3128be4806", func := "wharfinger/wharfingerlaw23.StoryPushes", spec := "storyPushes", inPlace := ["maps.clone", "internal/reflectlite.ValueOf", "(internal/reflectlite.Value).Type", "(internal/reflectlite.Value).IsNil", "internal/reflectlite.TypeOf", "(internal/reflectlite.Value).Elem", "(internal/reflectlite.Value).Set"], unfollowed := true, recurses := true, named := ["errors.errorType"], apart := false, laid := [("errors.errorType", laid_errors_errorType)] }
def StoryPushesSaid : Prop := storyPushesRow.holds Tryd.pinned (OpenSpec.ofChange storyPushesSpec)

/-- ITS FALSE NEIGHBOUR: 'it returns false'. Refute it at one input. -/
def storyPushesWrong : ChangeSpec := { name := "storyPushes", fn := fun _ => fun
  | [d] => { results := [.lit (.bool false)], args := [d] }
  | _ => none }
def StoryPushesWrongFalsely : Prop := storyPushesRow.holds Tryd.pinned (OpenSpec.ofChange storyPushesWrong)

/-- 'wharfingerlaw23.StoryReads': WHATEVER THE INPUT: true; the input reads as it did. -/
def storyReadsSpec : ChangeSpec := { name := "storyReads", fn := fun _ => fun
  | [d1, d2] => { results := [.lit (.bool true)], args := [d1, d2] }
  | _ => none }
def storyReadsRow : OpenClaim := { program := "ytdbacepjaibaoaadoor", sum := "c37b6da79655ad0e060bd27972448b1ef16b79645edf4d59b0971c3128be4806", func := "wharfinger/wharfingerlaw23.StoryReads", spec := "storyReads", inPlace := ["maps.clone", "internal/reflectlite.ValueOf", "(internal/reflectlite.Value).Type", "(internal/reflectlite.Value).IsNil", "internal/reflectlite.TypeOf", "(internal/reflectlite.Value).Elem", "(internal/reflectlite.Value).Set"], unfollowed := true, recurses := true, named := ["errors.errorType"], apart := false, laid := [("errors.errorType", laid_errors_errorType)] }
def StoryReadsSaid : Prop := storyReadsRow.holds Tryd.pinned (OpenSpec.ofChange storyReadsSpec)

/-- ITS FALSE NEIGHBOUR: 'it returns false'. Refute it at one input. -/
def storyReadsWrong : ChangeSpec := { name := "storyReads", fn := fun _ => fun
  | [d1, d2] => { results := [.lit (.bool false)], args := [d1, d2] }
  | _ => none }
def StoryReadsWrongFalsely : Prop := storyReadsRow.holds Tryd.pinned (OpenSpec.ofChange storyReadsWrong)

/-- 'wharfingerlaw18.PullRoots': WHATEVER THE INPUT: true; the input reads as it did. -/
def pullRootsSpec : ChangeSpec := { name := "pullRoots", fn := fun _ => fun
  | [d] => { results := [.lit (.bool true)], args := [d] }
  | _ => none }
def pullRootsRow : OpenClaim := { program := "ytdbacepjaibaoaadoor", sum := "c37b6da79655ad0e060bd27972448b1ef16b79645edf4d59b0971c3128be4806", func := "wharfinger/wharfingerlaw18.PullRoots", spec := "pullRoots", inPlace := ["internal/bytealg.CountString", "internal/bytealg.IndexByteString", "internal/bytealg.IndexString"], unfollowed := true, recurses := true, named := ["unicode/utf8.first", "unicode/utf8.acceptRanges", "internal/bytealg.MaxLen"], apart := false, laid := [("unicode/utf8.acceptRanges", laid_unicode_utf8_acceptRanges), ("unicode/utf8.first", laid_unicode_utf8_first)] }
def PullRootsSaid : Prop := pullRootsRow.holds Tryd.pinned (OpenSpec.ofChange pullRootsSpec)

/-- ITS FALSE NEIGHBOUR: 'it returns false'. Refute it at one input. -/
def pullRootsWrong : ChangeSpec := { name := "pullRoots", fn := fun _ => fun
  | [d] => { results := [.lit (.bool false)], args := [d] }
  | _ => none }
def PullRootsWrongFalsely : Prop := pullRootsRow.holds Tryd.pinned (OpenSpec.ofChange pullRootsWrong)

/- THE SECOND FORM. 'bulk': how many values and letters a reading holds, each counted each time it is reached (what is shared counts as often as it is met; a slice's spare places count too). A statement '..UptoSaid' is the law's where the arguments, and the package variables that the reading takes, are together of bulk at most 1048576: NARROWER than '..Said'. Prove '..Said' where nothing that the law and all that it calls make is longer than what came in: it says more and counts as full. Else prove '..UptoSaid'. A law counts once. -/
mutual
def uptoBulk {H : Type} : DataW H → Nat
  | .lit (.string bytes) => bytes.length + 1
  | .lit _ => 1
  | .nil => 1
  | .ptr d => uptoBulk d + 1
  | .slice elems spare => uptoBulkAll elems + uptoBulkAll spare + 1
  | .agg parts => uptoBulkAll parts + 1
  | .iface _ d => uptoBulk d + 1
  | .map entries => uptoBulkEntries entries + 1
  | .held _ => 1
def uptoBulkAll {H : Type} : List (DataW H) → Nat
  | [] => 0
  | d :: r => uptoBulk d + uptoBulkAll r
def uptoBulkEntries {H : Type} : List (Lit × DataW H) → Nat
  | [] => 0
  | x :: r => uptoBulkEntry x + uptoBulkEntries r
def uptoBulkEntry {H : Type} : Lit × DataW H → Nat
  | (.string bytes, d) => bytes.length + uptoBulk d + 1
  | (_, d) => uptoBulk d + 1
 end
def uptoSmall : (H : Type) → List (DataW H) → Bool := fun _ ds => decide (uptoBulkAll ds ≤ 1048576)
def OpenSpec.upto (s : _root_.Go.ChangeSpec) : _root_.Go.OpenSpec := { _root_.Go.OpenSpec.ofChange s with cond := some uptoSmall }

/-- 'wharfingerlaw23.StoryPaths', WHERE WHAT IT READS IS OF BULK AT MOST 1048576: true; the input reads as it did. -/
def storyPathsUptoRow : OpenClaim := { program := "ytdbacepjaibaoaadoor", sum := "c37b6da79655ad0e060bd27972448b1ef16b79645edf4d59b0971c3128be4806", func := "wharfinger/wharfingerlaw23.StoryPaths", spec := "storyPaths", inPlace := ["maps.clone", "internal/reflectlite.ValueOf", "(internal/reflectlite.Value).Type", "(internal/reflectlite.Value).IsNil", "internal/reflectlite.TypeOf", "(internal/reflectlite.Value).Elem", "(internal/reflectlite.Value).Set"], unfollowed := true, recurses := true, named := ["errors.errorType"], apart := false, laid := [("errors.errorType", laid_errors_errorType)], narrowed := true }
def StoryPathsUptoSaid : Prop := storyPathsUptoRow.holds Tryd.pinned (OpenSpec.upto storyPathsSpec)

/-- 'wharfingerlaw23.StoryBegins', WHERE WHAT IT READS IS OF BULK AT MOST 1048576: true; the input reads as it did. -/
def storyBeginsUptoRow : OpenClaim := { program := "ytdbacepjaibaoaadoor", sum := "c37b6da79655ad0e060bd27972448b1ef16b79645edf4d59b0971c3128be4806", func := "wharfinger/wharfingerlaw23.StoryBegins", spec := "storyBegins", inPlace := ["maps.clone", "internal/reflectlite.ValueOf", "(internal/reflectlite.Value).Type", "(internal/reflectlite.Value).IsNil", "internal/reflectlite.TypeOf", "(internal/reflectlite.Value).Elem", "(internal/reflectlite.Value).Set"], unfollowed := true, recurses := true, named := ["errors.errorType"], apart := false, laid := [("errors.errorType", laid_errors_errorType)], narrowed := true }
def StoryBeginsUptoSaid : Prop := storyBeginsUptoRow.holds Tryd.pinned (OpenSpec.upto storyBeginsSpec)

/-- 'wharfingerlaw23.StoryPushes', WHERE WHAT IT READS IS OF BULK AT MOST 1048576: true; the input reads as it did. -/
def storyPushesUptoRow : OpenClaim := { program := "ytdbacepjaibaoaadoor", sum := "c37b6da79655ad0e060bd27972448b1ef16b79645edf4d59b0971c3128be4806", func := "wharfinger/wharfingerlaw23.StoryPushes", spec := "storyPushes", inPlace := ["maps.clone", "internal/reflectlite.ValueOf", "(internal/reflectlite.Value).Type", "(internal/reflectlite.Value).IsNil", "internal/reflectlite.TypeOf", "(internal/reflectlite.Value).Elem", "(internal/reflectlite.Value).Set"], unfollowed := true, recurses := true, named := ["errors.errorType"], apart := false, laid := [("errors.errorType", laid_errors_errorType)], narrowed := true }
def StoryPushesUptoSaid : Prop := storyPushesUptoRow.holds Tryd.pinned (OpenSpec.upto storyPushesSpec)

/-- 'wharfingerlaw23.StoryReads', WHERE WHAT IT READS IS OF BULK AT MOST 1048576: true; the input reads as it did. -/
def storyReadsUptoRow : OpenClaim := { program := "ytdbacepjaibaoaadoor", sum := "c37b6da79655ad0e060bd27972448b1ef16b79645edf4d59b0971c3128be4806", func := "wharfinger/wharfingerlaw23.StoryReads", spec := "storyReads", inPlace := ["maps.clone", "internal/reflectlite.ValueOf", "(internal/reflectlite.Value).Type", "(internal/reflectlite.Value).IsNil", "internal/reflectlite.TypeOf", "(internal/reflectlite.Value).Elem", "(internal/reflectlite.Value).Set"], unfollowed := true, recurses := true, named := ["errors.errorType"], apart := false, laid := [("errors.errorType", laid_errors_errorType)], narrowed := true }
def StoryReadsUptoSaid : Prop := storyReadsUptoRow.holds Tryd.pinned (OpenSpec.upto storyReadsSpec)

/-- 'wharfingerlaw18.PullRoots', WHERE WHAT IT READS IS OF BULK AT MOST 1048576: true; the input reads as it did. -/
def pullRootsUptoRow : OpenClaim := { program := "ytdbacepjaibaoaadoor", sum := "c37b6da79655ad0e060bd27972448b1ef16b79645edf4d59b0971c3128be4806", func := "wharfinger/wharfingerlaw18.PullRoots", spec := "pullRoots", inPlace := ["internal/bytealg.CountString", "internal/bytealg.IndexByteString", "internal/bytealg.IndexString"], unfollowed := true, recurses := true, named := ["unicode/utf8.first", "unicode/utf8.acceptRanges", "internal/bytealg.MaxLen"], apart := false, laid := [("unicode/utf8.acceptRanges", laid_unicode_utf8_acceptRanges), ("unicode/utf8.first", laid_unicode_utf8_first)], narrowed := true }
def PullRootsUptoSaid : Prop := pullRootsUptoRow.holds Tryd.pinned (OpenSpec.upto pullRootsSpec)

end Rows
end Go.Proofs.YtdbacepjaibaoaaDoor
