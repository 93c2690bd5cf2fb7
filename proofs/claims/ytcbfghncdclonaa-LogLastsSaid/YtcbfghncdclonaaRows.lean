/-
  No cell of these rows narrows 'for every input' (looked for: loops, veiled, ifaces, maps, wideKeys, modest, calm, conditions, laid).
  DERIVED. THE GIVEN ROWS OF THIS SEAT. 7 by the template 'for every input the law returns true; each argument reads behind the call as it read before'; 0 by the template 'total and deterministic' (their statements: YtcbfghncdclonaaTotals.lean).
  GIVEN WITH THE SEED: the statements are not yours to turn. If you find one false, say at which input.
  Laid BY PROGRAM, IN A SANDBOX (cutbox-rows.mjs): the forced cells as the released guide's own fill.sh prints them over the translation 19d6a513f75b3476… (all of the seat's roots in one cut). By AI agents, Wed Nov 11 2026. No macro, syntax, notation, axiom, sorry.
-/
import Derived.Test.YtcbfghncdclonaaChecked
import GoSem.Claim
import GoSem.ClaimJoined
import GoSem.ClaimMapViews
import Derived.JoinedTies
import Derived.KernelRfl
namespace Go.Proofs.Ytcbfghncdclonaa
/- THE CELL 'sum', in the pinned program and in every row, IS THE sha256 OF THE DUMP (.gsa) THAT YtcbfghncdclonaaProg.lean LOADS. Nothing in Lean hashes anything: it is a label: what it is worth is what the hold of that sum in a sandbox is worth. -/
noncomputable def Try.pinned : Pinned := { name := "ytcbfghncdclonaa", sum := "19d6a513f75b3476d74dcc9256a5751453e6220d8188cb9a096fd15b932d2959", checked := Try.checked }
namespace Rows
def none {H : Type} : Left H := { results := [], args := [] }

/-- 'heliastlaw11.LogFull': WHATEVER THE INPUT: true; the input reads as it did. -/
def logFullSpec : ChangeSpec := { name := "logFull", fn := fun _ => fun
  | [d1, d2, d3] => { results := [.lit (.bool true)], args := [d1, d2, d3] }
  | _ => none }
def logFullRow : OpenClaim := { program := "ytcbfghncdclonaa", sum := "19d6a513f75b3476d74dcc9256a5751453e6220d8188cb9a096fd15b932d2959", func := "heliast/heliastlaw11.LogFull", spec := "logFull", unfollowed := true, recurses := true, apart := false }
def LogFullSaid : Prop := logFullRow.holds Try.pinned (OpenSpec.ofChange logFullSpec)

/-- ITS FALSE NEIGHBOUR: 'it returns false'. Refute it at one input. -/
def logFullWrong : ChangeSpec := { name := "logFull", fn := fun _ => fun
  | [d1, d2, d3] => { results := [.lit (.bool false)], args := [d1, d2, d3] }
  | _ => none }
def LogFullWrongFalsely : Prop := logFullRow.holds Try.pinned (OpenSpec.ofChange logFullWrong)

/-- 'heliastlaw11.LogAgain': WHATEVER THE INPUT: true; the input reads as it did. -/
def logAgainSpec : ChangeSpec := { name := "logAgain", fn := fun _ => fun
  | [d1, d2, d3] => { results := [.lit (.bool true)], args := [d1, d2, d3] }
  | _ => none }
def logAgainRow : OpenClaim := { program := "ytcbfghncdclonaa", sum := "19d6a513f75b3476d74dcc9256a5751453e6220d8188cb9a096fd15b932d2959", func := "heliast/heliastlaw11.LogAgain", spec := "logAgain", unfollowed := true, recurses := true, apart := false }
def LogAgainSaid : Prop := logAgainRow.holds Try.pinned (OpenSpec.ofChange logAgainSpec)

/-- ITS FALSE NEIGHBOUR: 'it returns false'. Refute it at one input. -/
def logAgainWrong : ChangeSpec := { name := "logAgain", fn := fun _ => fun
  | [d1, d2, d3] => { results := [.lit (.bool false)], args := [d1, d2, d3] }
  | _ => none }
def LogAgainWrongFalsely : Prop := logAgainRow.holds Try.pinned (OpenSpec.ofChange logAgainWrong)

/-- 'heliastlaw11.LogFiles': WHATEVER THE INPUT: true; the input reads as it did. -/
def logFilesSpec : ChangeSpec := { name := "logFiles", fn := fun _ => fun
  | [d1, d2] => { results := [.lit (.bool true)], args := [d1, d2] }
  | _ => none }
def logFilesRow : OpenClaim := { program := "ytcbfghncdclonaa", sum := "19d6a513f75b3476d74dcc9256a5751453e6220d8188cb9a096fd15b932d2959", func := "heliast/heliastlaw11.LogFiles", spec := "logFiles", unfollowed := true, recurses := true, apart := false }
def LogFilesSaid : Prop := logFilesRow.holds Try.pinned (OpenSpec.ofChange logFilesSpec)

/-- ITS FALSE NEIGHBOUR: 'it returns false'. Refute it at one input. -/
def logFilesWrong : ChangeSpec := { name := "logFiles", fn := fun _ => fun
  | [d1, d2] => { results := [.lit (.bool false)], args := [d1, d2] }
  | _ => none }
def LogFilesWrongFalsely : Prop := logFilesRow.holds Try.pinned (OpenSpec.ofChange logFilesWrong)

/-- 'heliastlaw11.LogLasts': WHATEVER THE INPUT: true; the input reads as it did. -/
def logLastsSpec : ChangeSpec := { name := "logLasts", fn := fun _ => fun
  | [d1, d2, d3] => { results := [.lit (.bool true)], args := [d1, d2, d3] }
  | _ => none }
def logLastsRow : OpenClaim := { program := "ytcbfghncdclonaa", sum := "19d6a513f75b3476d74dcc9256a5751453e6220d8188cb9a096fd15b932d2959", func := "heliast/heliastlaw11.LogLasts", spec := "logLasts", unfollowed := true, recurses := true, apart := false }
def LogLastsSaid : Prop := logLastsRow.holds Try.pinned (OpenSpec.ofChange logLastsSpec)

/-- ITS FALSE NEIGHBOUR: 'it returns false'. Refute it at one input. -/
def logLastsWrong : ChangeSpec := { name := "logLasts", fn := fun _ => fun
  | [d1, d2, d3] => { results := [.lit (.bool false)], args := [d1, d2, d3] }
  | _ => none }
def LogLastsWrongFalsely : Prop := logLastsRow.holds Try.pinned (OpenSpec.ofChange logLastsWrong)

/-- 'heliastlaw11.LogNone': WHATEVER THE INPUT: true; the input reads as it did. -/
def logNoneSpec : ChangeSpec := { name := "logNone", fn := fun _ => fun
  | [d] => { results := [.lit (.bool true)], args := [d] }
  | _ => none }
def logNoneRow : OpenClaim := { program := "ytcbfghncdclonaa", sum := "19d6a513f75b3476d74dcc9256a5751453e6220d8188cb9a096fd15b932d2959", func := "heliast/heliastlaw11.LogNone", spec := "logNone", unfollowed := true, recurses := true, apart := false }
def LogNoneSaid : Prop := logNoneRow.holds Try.pinned (OpenSpec.ofChange logNoneSpec)

/-- ITS FALSE NEIGHBOUR: 'it returns false'. Refute it at one input. -/
def logNoneWrong : ChangeSpec := { name := "logNone", fn := fun _ => fun
  | [d] => { results := [.lit (.bool false)], args := [d] }
  | _ => none }
def LogNoneWrongFalsely : Prop := logNoneRow.holds Try.pinned (OpenSpec.ofChange logNoneWrong)

/-- 'heliastlaw11.LogDoes': WHATEVER THE INPUT: true; the input reads as it did. -/
def logDoesSpec : ChangeSpec := { name := "logDoes", fn := fun _ => fun
  | [d1, d2] => { results := [.lit (.bool true)], args := [d1, d2] }
  | _ => none }
def logDoesRow : OpenClaim := { program := "ytcbfghncdclonaa", sum := "19d6a513f75b3476d74dcc9256a5751453e6220d8188cb9a096fd15b932d2959", func := "heliast/heliastlaw11.LogDoes", spec := "logDoes", unfollowed := true, recurses := true, apart := false }
def LogDoesSaid : Prop := logDoesRow.holds Try.pinned (OpenSpec.ofChange logDoesSpec)

/-- ITS FALSE NEIGHBOUR: 'it returns false'. Refute it at one input. -/
def logDoesWrong : ChangeSpec := { name := "logDoes", fn := fun _ => fun
  | [d1, d2] => { results := [.lit (.bool false)], args := [d1, d2] }
  | _ => none }
def LogDoesWrongFalsely : Prop := logDoesRow.holds Try.pinned (OpenSpec.ofChange logDoesWrong)

/-- 'heliastlaw11.LogOpens': WHATEVER THE INPUT: true; the input reads as it did. -/
def logOpensSpec : ChangeSpec := { name := "logOpens", fn := fun _ => fun
  | [d1, d2, d3, d4] => { results := [.lit (.bool true)], args := [d1, d2, d3, d4] }
  | _ => none }
def logOpensRow : OpenClaim := { program := "ytcbfghncdclonaa", sum := "19d6a513f75b3476d74dcc9256a5751453e6220d8188cb9a096fd15b932d2959", func := "heliast/heliastlaw11.LogOpens", spec := "logOpens", unfollowed := true, recurses := true, apart := false }
def LogOpensSaid : Prop := logOpensRow.holds Try.pinned (OpenSpec.ofChange logOpensSpec)

/-- ITS FALSE NEIGHBOUR: 'it returns false'. Refute it at one input. -/
def logOpensWrong : ChangeSpec := { name := "logOpens", fn := fun _ => fun
  | [d1, d2, d3, d4] => { results := [.lit (.bool false)], args := [d1, d2, d3, d4] }
  | _ => none }
def LogOpensWrongFalsely : Prop := logOpensRow.holds Try.pinned (OpenSpec.ofChange logOpensWrong)

/- THE SECOND FORM. 'bulk': how many values and letters a reading holds, each counted each time it is reached (what is shared counts as often as it is met; a slice's spare places count too). A statement '..UptoSaid' is the law's where the arguments, and the package variables that the reading takes, are together of bulk at most 1048576: NARROWER than '..Said'. Prove '..Said' where nothing that the law and all that it calls make is longer than what came in: it says more and counts as full. Else prove '..UptoSaid'. A law counts once. -/
mutual
def uptoBulk {H : Type} : DataW H → Nat
  | .lit (.string bytes) => bytes.length + 1
  | .lit _ => 1
  | .nil => 1
  | .ptr d => uptoBulk d + 1
  | .slice elems spare => uptoBulkAll elems + uptoBulkAll spare + 1
  | .agg parts => uptoBulkAll parts + 1
  | .iface _ d => uptoBulk d + 1
  | .map entries => uptoBulkEntries entries + 1
  | .held _ => 1
def uptoBulkAll {H : Type} : List (DataW H) → Nat
  | [] => 0
  | d :: r => uptoBulk d + uptoBulkAll r
def uptoBulkEntries {H : Type} : List (Lit × DataW H) → Nat
  | [] => 0
  | x :: r => uptoBulkEntry x + uptoBulkEntries r
def uptoBulkEntry {H : Type} : Lit × DataW H → Nat
  | (.string bytes, d) => bytes.length + uptoBulk d + 1
  | (_, d) => uptoBulk d + 1
 end
def uptoSmall : (H : Type) → List (DataW H) → Bool := fun _ ds => decide (uptoBulkAll ds ≤ 1048576)
def OpenSpec.upto (s : _root_.Go.ChangeSpec) : _root_.Go.OpenSpec := { _root_.Go.OpenSpec.ofChange s with cond := some uptoSmall }

/-- 'heliastlaw11.LogFull', WHERE WHAT IT READS IS OF BULK AT MOST 1048576: true; the input reads as it did. -/
def logFullUptoRow : OpenClaim := { program := "ytcbfghncdclonaa", sum := "19d6a513f75b3476d74dcc9256a5751453e6220d8188cb9a096fd15b932d2959", func := "heliast/heliastlaw11.LogFull", spec := "logFull", unfollowed := true, recurses := true, apart := false, narrowed := true }
def LogFullUptoSaid : Prop := logFullUptoRow.holds Try.pinned (OpenSpec.upto logFullSpec)

/-- 'heliastlaw11.LogAgain', WHERE WHAT IT READS IS OF BULK AT MOST 1048576: true; the input reads as it did. -/
def logAgainUptoRow : OpenClaim := { program := "ytcbfghncdclonaa", sum := "19d6a513f75b3476d74dcc9256a5751453e6220d8188cb9a096fd15b932d2959", func := "heliast/heliastlaw11.LogAgain", spec := "logAgain", unfollowed := true, recurses := true, apart := false, narrowed := true }
def LogAgainUptoSaid : Prop := logAgainUptoRow.holds Try.pinned (OpenSpec.upto logAgainSpec)

/-- 'heliastlaw11.LogFiles', WHERE WHAT IT READS IS OF BULK AT MOST 1048576: true; the input reads as it did. -/
def logFilesUptoRow : OpenClaim := { program := "ytcbfghncdclonaa", sum := "19d6a513f75b3476d74dcc9256a5751453e6220d8188cb9a096fd15b932d2959", func := "heliast/heliastlaw11.LogFiles", spec := "logFiles", unfollowed := true, recurses := true, apart := false, narrowed := true }
def LogFilesUptoSaid : Prop := logFilesUptoRow.holds Try.pinned (OpenSpec.upto logFilesSpec)

/-- 'heliastlaw11.LogLasts', WHERE WHAT IT READS IS OF BULK AT MOST 1048576: true; the input reads as it did. -/
def logLastsUptoRow : OpenClaim := { program := "ytcbfghncdclonaa", sum := "19d6a513f75b3476d74dcc9256a5751453e6220d8188cb9a096fd15b932d2959", func := "heliast/heliastlaw11.LogLasts", spec := "logLasts", unfollowed := true, recurses := true, apart := false, narrowed := true }
def LogLastsUptoSaid : Prop := logLastsUptoRow.holds Try.pinned (OpenSpec.upto logLastsSpec)

/-- 'heliastlaw11.LogNone', WHERE WHAT IT READS IS OF BULK AT MOST 1048576: true; the input reads as it did. -/
def logNoneUptoRow : OpenClaim := { program := "ytcbfghncdclonaa", sum := "19d6a513f75b3476d74dcc9256a5751453e6220d8188cb9a096fd15b932d2959", func := "heliast/heliastlaw11.LogNone", spec := "logNone", unfollowed := true, recurses := true, apart := false, narrowed := true }
def LogNoneUptoSaid : Prop := logNoneUptoRow.holds Try.pinned (OpenSpec.upto logNoneSpec)

/-- 'heliastlaw11.LogDoes', WHERE WHAT IT READS IS OF BULK AT MOST 1048576: true; the input reads as it did. -/
def logDoesUptoRow : OpenClaim := { program := "ytcbfghncdclonaa", sum := "19d6a513f75b3476d74dcc9256a5751453e6220d8188cb9a096fd15b932d2959", func := "heliast/heliastlaw11.LogDoes", spec := "logDoes", unfollowed := true, recurses := true, apart := false, narrowed := true }
def LogDoesUptoSaid : Prop := logDoesUptoRow.holds Try.pinned (OpenSpec.upto logDoesSpec)

/-- 'heliastlaw11.LogOpens', WHERE WHAT IT READS IS OF BULK AT MOST 1048576: true; the input reads as it did. -/
def logOpensUptoRow : OpenClaim := { program := "ytcbfghncdclonaa", sum := "19d6a513f75b3476d74dcc9256a5751453e6220d8188cb9a096fd15b932d2959", func := "heliast/heliastlaw11.LogOpens", spec := "logOpens", unfollowed := true, recurses := true, apart := false, narrowed := true }
def LogOpensUptoSaid : Prop := logOpensUptoRow.holds Try.pinned (OpenSpec.upto logOpensSpec)

end Rows
end Go.Proofs.Ytcbfghncdclonaa
