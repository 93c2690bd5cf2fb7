/-
  No cell of these rows narrows 'for every input' (looked for: loops, veiled, ifaces, maps, wideKeys, modest, calm, conditions, laid).
  DERIVED. THE GIVEN ROWS OF THIS SEAT. 6 by the template 'for every input the law returns true; each argument reads behind the call as it read before'; 0 by the template 'total and deterministic' (their statements: YtdbdikgjelhfbaaTotals.lean).
  GIVEN WITH THE SEED: the statements are not yours to turn. If you find one false, say at which input.
  Laid BY PROGRAM, IN A SANDBOX (cutbox-rows.mjs): the forced cells as the released guide's own fill.sh prints them over the translation fe472762f03b1b99… (all of the seat's roots in one cut). By AI agents, Wed Nov 11 2026. No macro, syntax, notation, axiom, sorry.
-/
import Derived.Test.YtdbdikgjelhfbaaChecked
import GoSem.Claim
import GoSem.ClaimJoined
import GoSem.ClaimMapViews
import Derived.JoinedTies
import Derived.KernelRfl
namespace Go.Proofs.Ytdbdikgjelhfbaa
/- THE CELL 'sum', in the pinned program and in every row, IS THE sha256 OF THE DUMP (.gsa) THAT YtdbdikgjelhfbaaProg.lean LOADS. Nothing in Lean hashes anything: it is a label: what it is worth is what the hold of that sum in a sandbox is worth. -/
noncomputable def Try.pinned : Pinned := { name := "ytdbdikgjelhfbaa", sum := "fe472762f03b1b99cc37984677b11a819a3e2b529f6fc7b0e58dd0f2dd6fcd6f", checked := Try.checked }
namespace Rows
def none {H : Type} : Left H := { results := [], args := [] }

/-- 'heliastlaw04.DigestPieces': WHATEVER THE INPUT: true; the input reads as it did. -/
def digestPiecesSpec : ChangeSpec := { name := "digestPieces", fn := fun _ => fun
  | [d1, d2] => { results := [.lit (.bool true)], args := [d1, d2] }
  | _ => none }
def digestPiecesRow : OpenClaim := { program := "ytdbdikgjelhfbaa", sum := "fe472762f03b1b99cc37984677b11a819a3e2b529f6fc7b0e58dd0f2dd6fcd6f", func := "heliast/heliastlaw04.DigestPieces", spec := "digestPieces", unfollowed := true, recurses := true, apart := false }
def DigestPiecesSaid : Prop := digestPiecesRow.holds Try.pinned (OpenSpec.ofChange digestPiecesSpec)

/-- ITS FALSE NEIGHBOUR: 'it returns false'. Refute it at one input. -/
def digestPiecesWrong : ChangeSpec := { name := "digestPieces", fn := fun _ => fun
  | [d1, d2] => { results := [.lit (.bool false)], args := [d1, d2] }
  | _ => none }
def DigestPiecesWrongFalsely : Prop := digestPiecesRow.holds Try.pinned (OpenSpec.ofChange digestPiecesWrong)

/-- 'heliastlaw04.DigestTails': WHATEVER THE INPUT: true; the input reads as it did. -/
def digestTailsSpec : ChangeSpec := { name := "digestTails", fn := fun _ => fun
  | [d1, d2] => { results := [.lit (.bool true)], args := [d1, d2] }
  | _ => none }
def digestTailsRow : OpenClaim := { program := "ytdbdikgjelhfbaa", sum := "fe472762f03b1b99cc37984677b11a819a3e2b529f6fc7b0e58dd0f2dd6fcd6f", func := "heliast/heliastlaw04.DigestTails", spec := "digestTails", unfollowed := true, recurses := true, apart := false }
def DigestTailsSaid : Prop := digestTailsRow.holds Try.pinned (OpenSpec.ofChange digestTailsSpec)

/-- ITS FALSE NEIGHBOUR: 'it returns false'. Refute it at one input. -/
def digestTailsWrong : ChangeSpec := { name := "digestTails", fn := fun _ => fun
  | [d1, d2] => { results := [.lit (.bool false)], args := [d1, d2] }
  | _ => none }
def DigestTailsWrongFalsely : Prop := digestTailsRow.holds Try.pinned (OpenSpec.ofChange digestTailsWrong)

/-- 'heliastlaw04.DigestBlocks': WHATEVER THE INPUT: true; the input reads as it did. -/
def digestBlocksSpec : ChangeSpec := { name := "digestBlocks", fn := fun _ => fun
  | [d] => { results := [.lit (.bool true)], args := [d] }
  | _ => none }
def digestBlocksRow : OpenClaim := { program := "ytdbdikgjelhfbaa", sum := "fe472762f03b1b99cc37984677b11a819a3e2b529f6fc7b0e58dd0f2dd6fcd6f", func := "heliast/heliastlaw04.DigestBlocks", spec := "digestBlocks", unfollowed := true, recurses := true, apart := false }
def DigestBlocksSaid : Prop := digestBlocksRow.holds Try.pinned (OpenSpec.ofChange digestBlocksSpec)

/-- ITS FALSE NEIGHBOUR: 'it returns false'. Refute it at one input. -/
def digestBlocksWrong : ChangeSpec := { name := "digestBlocks", fn := fun _ => fun
  | [d] => { results := [.lit (.bool false)], args := [d] }
  | _ => none }
def DigestBlocksWrongFalsely : Prop := digestBlocksRow.holds Try.pinned (OpenSpec.ofChange digestBlocksWrong)

/-- 'heliastlaw04.DigestSums': WHATEVER THE INPUT: true; the input reads as it did. -/
def digestSumsSpec : ChangeSpec := { name := "digestSums", fn := fun _ => fun
  | [d1, d2] => { results := [.lit (.bool true)], args := [d1, d2] }
  | _ => none }
def digestSumsRow : OpenClaim := { program := "ytdbdikgjelhfbaa", sum := "fe472762f03b1b99cc37984677b11a819a3e2b529f6fc7b0e58dd0f2dd6fcd6f", func := "heliast/heliastlaw04.DigestSums", spec := "digestSums", unfollowed := true, recurses := true, apart := false }
def DigestSumsSaid : Prop := digestSumsRow.holds Try.pinned (OpenSpec.ofChange digestSumsSpec)

/-- ITS FALSE NEIGHBOUR: 'it returns false'. Refute it at one input. -/
def digestSumsWrong : ChangeSpec := { name := "digestSums", fn := fun _ => fun
  | [d1, d2] => { results := [.lit (.bool false)], args := [d1, d2] }
  | _ => none }
def DigestSumsWrongFalsely : Prop := digestSumsRow.holds Try.pinned (OpenSpec.ofChange digestSumsWrong)

/-- 'heliastlaw04.DigestNone': WHATEVER THE INPUT: true; the input reads as it did. -/
def digestNoneSpec : ChangeSpec := { name := "digestNone", fn := fun _ => fun
  | [d1, d2] => { results := [.lit (.bool true)], args := [d1, d2] }
  | _ => none }
def digestNoneRow : OpenClaim := { program := "ytdbdikgjelhfbaa", sum := "fe472762f03b1b99cc37984677b11a819a3e2b529f6fc7b0e58dd0f2dd6fcd6f", func := "heliast/heliastlaw04.DigestNone", spec := "digestNone", unfollowed := true, recurses := true, apart := false }
def DigestNoneSaid : Prop := digestNoneRow.holds Try.pinned (OpenSpec.ofChange digestNoneSpec)

/-- ITS FALSE NEIGHBOUR: 'it returns false'. Refute it at one input. -/
def digestNoneWrong : ChangeSpec := { name := "digestNone", fn := fun _ => fun
  | [d1, d2] => { results := [.lit (.bool false)], args := [d1, d2] }
  | _ => none }
def DigestNoneWrongFalsely : Prop := digestNoneRow.holds Try.pinned (OpenSpec.ofChange digestNoneWrong)

/-- 'heliastlaw04.DigestBytes': WHATEVER THE INPUT: true; the input reads as it did. -/
def digestBytesSpec : ChangeSpec := { name := "digestBytes", fn := fun _ => fun
  | [d1, d2] => { results := [.lit (.bool true)], args := [d1, d2] }
  | _ => none }
def digestBytesRow : OpenClaim := { program := "ytdbdikgjelhfbaa", sum := "fe472762f03b1b99cc37984677b11a819a3e2b529f6fc7b0e58dd0f2dd6fcd6f", func := "heliast/heliastlaw04.DigestBytes", spec := "digestBytes", unfollowed := true, recurses := true, apart := false }
def DigestBytesSaid : Prop := digestBytesRow.holds Try.pinned (OpenSpec.ofChange digestBytesSpec)

/-- ITS FALSE NEIGHBOUR: 'it returns false'. Refute it at one input. -/
def digestBytesWrong : ChangeSpec := { name := "digestBytes", fn := fun _ => fun
  | [d1, d2] => { results := [.lit (.bool false)], args := [d1, d2] }
  | _ => none }
def DigestBytesWrongFalsely : Prop := digestBytesRow.holds Try.pinned (OpenSpec.ofChange digestBytesWrong)

/- THE SECOND FORM. 'bulk': how many values and letters a reading holds, each counted each time it is reached (what is shared counts as often as it is met; a slice's spare places count too). A statement '..UptoSaid' is the law's where the arguments, and the package variables that the reading takes, are together of bulk at most 1048576: NARROWER than '..Said'. Prove '..Said' where nothing that the law and all that it calls make is longer than what came in: it says more and counts as full. Else prove '..UptoSaid'. A law counts once. -/
mutual
def uptoBulk {H : Type} : DataW H → Nat
  | .lit (.string bytes) => bytes.length + 1
  | .lit _ => 1
  | .nil => 1
  | .ptr d => uptoBulk d + 1
  | .slice elems spare => uptoBulkAll elems + uptoBulkAll spare + 1
  | .agg parts => uptoBulkAll parts + 1
  | .iface _ d => uptoBulk d + 1
  | .map entries => uptoBulkEntries entries + 1
  | .held _ => 1
def uptoBulkAll {H : Type} : List (DataW H) → Nat
  | [] => 0
  | d :: r => uptoBulk d + uptoBulkAll r
def uptoBulkEntries {H : Type} : List (Lit × DataW H) → Nat
  | [] => 0
  | x :: r => uptoBulkEntry x + uptoBulkEntries r
def uptoBulkEntry {H : Type} : Lit × DataW H → Nat
  | (.string bytes, d) => bytes.length + uptoBulk d + 1
  | (_, d) => uptoBulk d + 1
 end
def uptoSmall : (H : Type) → List (DataW H) → Bool := fun _ ds => decide (uptoBulkAll ds ≤ 1048576)
def OpenSpec.upto (s : _root_.Go.ChangeSpec) : _root_.Go.OpenSpec := { _root_.Go.OpenSpec.ofChange s with cond := some uptoSmall }

/-- 'heliastlaw04.DigestPieces', WHERE WHAT IT READS IS OF BULK AT MOST 1048576: true; the input reads as it did. -/
def digestPiecesUptoRow : OpenClaim := { program := "ytdbdikgjelhfbaa", sum := "fe472762f03b1b99cc37984677b11a819a3e2b529f6fc7b0e58dd0f2dd6fcd6f", func := "heliast/heliastlaw04.DigestPieces", spec := "digestPieces", unfollowed := true, recurses := true, apart := false, narrowed := true }
def DigestPiecesUptoSaid : Prop := digestPiecesUptoRow.holds Try.pinned (OpenSpec.upto digestPiecesSpec)

/-- 'heliastlaw04.DigestTails', WHERE WHAT IT READS IS OF BULK AT MOST 1048576: true; the input reads as it did. -/
def digestTailsUptoRow : OpenClaim := { program := "ytdbdikgjelhfbaa", sum := "fe472762f03b1b99cc37984677b11a819a3e2b529f6fc7b0e58dd0f2dd6fcd6f", func := "heliast/heliastlaw04.DigestTails", spec := "digestTails", unfollowed := true, recurses := true, apart := false, narrowed := true }
def DigestTailsUptoSaid : Prop := digestTailsUptoRow.holds Try.pinned (OpenSpec.upto digestTailsSpec)

/-- 'heliastlaw04.DigestBlocks', WHERE WHAT IT READS IS OF BULK AT MOST 1048576: true; the input reads as it did. -/
def digestBlocksUptoRow : OpenClaim := { program := "ytdbdikgjelhfbaa", sum := "fe472762f03b1b99cc37984677b11a819a3e2b529f6fc7b0e58dd0f2dd6fcd6f", func := "heliast/heliastlaw04.DigestBlocks", spec := "digestBlocks", unfollowed := true, recurses := true, apart := false, narrowed := true }
def DigestBlocksUptoSaid : Prop := digestBlocksUptoRow.holds Try.pinned (OpenSpec.upto digestBlocksSpec)

/-- 'heliastlaw04.DigestSums', WHERE WHAT IT READS IS OF BULK AT MOST 1048576: true; the input reads as it did. -/
def digestSumsUptoRow : OpenClaim := { program := "ytdbdikgjelhfbaa", sum := "fe472762f03b1b99cc37984677b11a819a3e2b529f6fc7b0e58dd0f2dd6fcd6f", func := "heliast/heliastlaw04.DigestSums", spec := "digestSums", unfollowed := true, recurses := true, apart := false, narrowed := true }
def DigestSumsUptoSaid : Prop := digestSumsUptoRow.holds Try.pinned (OpenSpec.upto digestSumsSpec)

/-- 'heliastlaw04.DigestNone', WHERE WHAT IT READS IS OF BULK AT MOST 1048576: true; the input reads as it did. -/
def digestNoneUptoRow : OpenClaim := { program := "ytdbdikgjelhfbaa", sum := "fe472762f03b1b99cc37984677b11a819a3e2b529f6fc7b0e58dd0f2dd6fcd6f", func := "heliast/heliastlaw04.DigestNone", spec := "digestNone", unfollowed := true, recurses := true, apart := false, narrowed := true }
def DigestNoneUptoSaid : Prop := digestNoneUptoRow.holds Try.pinned (OpenSpec.upto digestNoneSpec)

/-- 'heliastlaw04.DigestBytes', WHERE WHAT IT READS IS OF BULK AT MOST 1048576: true; the input reads as it did. -/
def digestBytesUptoRow : OpenClaim := { program := "ytdbdikgjelhfbaa", sum := "fe472762f03b1b99cc37984677b11a819a3e2b529f6fc7b0e58dd0f2dd6fcd6f", func := "heliast/heliastlaw04.DigestBytes", spec := "digestBytes", unfollowed := true, recurses := true, apart := false, narrowed := true }
def DigestBytesUptoSaid : Prop := digestBytesUptoRow.holds Try.pinned (OpenSpec.upto digestBytesSpec)

end Rows
end Go.Proofs.Ytdbdikgjelhfbaa
