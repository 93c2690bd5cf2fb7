/-
  NARROWER THAN 'FOR EVERY INPUT', by the rows' own cells (each row's printed sentence says how): GlyphAsks: laid · GlyphBack: laid · GlyphTold: laid · GlyphPairs: laid · GlyphLess: laid · GlyphPlain: laid · GlyphJoin: laid · GlyphShort: laid.
  DERIVED. THE GIVEN ROWS OF THIS SEAT. 8 by the template 'for every input the law returns true; each argument reads behind the call as it read before'; 0 by the template 'total and deterministic' (their statements: YtpibbokkdjjgeaaDoorTotals.lean).
  GIVEN WITH THE SEED: the statements are not yours to turn. If you find one false, say at which input.
  Laid BY PROGRAM, IN A SANDBOX (cutbox-rows.mjs): the forced cells as the released guide's own fill.sh prints them over the translation 71c50d02c358259c… (all of the seat's roots in one cut). By AI agents, Wed Nov 11 2026. No macro, syntax, notation, axiom, sorry.
-/
import Derived.Test.YtpibbokkdjjgeaaDoorChecked
import GoSem.PinnedTables
import GoSem.Claim
import GoSem.ClaimJoined
import GoSem.ClaimMapViews
import Derived.JoinedTies
import Derived.KernelRfl
namespace Go.Proofs.YtpibbokkdjjgeaaDoor
/- THE CELL 'sum', in the pinned program and in every row, IS THE sha256 OF THE DUMP (.gsa) THAT YtpibbokkdjjgeaaDoorProg.lean LOADS. Nothing in Lean hashes anything: it is a label: what it is worth is what the hold of that sum in a sandbox is worth. -/
noncomputable def Tryd.pinned : Pinned := { name := "ytpibbokkdjjgeaadoor", sum := "71c50d02c358259ca67a693c7bc1e109170f0d79f0b9b857e90b6479fb8743d4", checked := Tryd.checked }
namespace Rows
def none {H : Type} : Left H := { results := [], args := [] }

/- WHAT THE LISTED PACKAGE-LEVEL VARIABLES READ AS WHEN THE CALL BEGINS. Each datum BY PROGRAM (the guide's laid-datum.mjs) off the statement by which the dump's own 'gosem.cut.vars' lays the variable. In a bare row this is a premise. The card (YtpibbokkdjjgeaaDoorCards.lean) ties it to the program's text. -/
def laid_unicode_utf8_acceptRanges {H : Type} : DataW H := .agg [.agg [.lit (.int .u8 128), .lit (.int .u8 191)], .agg [.lit (.int .u8 160), .lit (.int .u8 191)], .agg [.lit (.int .u8 128), .lit (.int .u8 159)], .agg [.lit (.int .u8 144), .lit (.int .u8 191)], .agg [.lit (.int .u8 128), .lit (.int .u8 143)], .agg [.lit (.int .u8 0), .lit (.int .u8 0)], .agg [.lit (.int .u8 0), .lit (.int .u8 0)], .agg [.lit (.int .u8 0), .lit (.int .u8 0)], .agg [.lit (.int .u8 0), .lit (.int .u8 0)], .agg [.lit (.int .u8 0), .lit (.int .u8 0)], .agg [.lit (.int .u8 0), .lit (.int .u8 0)], .agg [.lit (.int .u8 0), .lit (.int .u8 0)], .agg [.lit (.int .u8 0), .lit (.int .u8 0)], .agg [.lit (.int .u8 0), .lit (.int .u8 0)], .agg [.lit (.int .u8 0), .lit (.int .u8 0)], .agg [.lit (.int .u8 0), .lit (.int .u8 0)]]
/-- One of Go's own tables, pinned by name: the form's constant. -/
def laid_unicode_CaseRanges : DataW Unit := Go.Pinned.caseRanges
/-- One of Go's own tables, pinned by name: the form's constant. -/
def laid_unicode_utf8_first : DataW Unit := Go.Pinned.utf8First

/-- 'heliastlaw01.GlyphAsks': WHATEVER THE INPUT: true; the input reads as it did. -/
def glyphAsksSpec : ChangeSpec := { name := "glyphAsks", fn := fun _ => fun
  | [d1, d2, d3, d4] => { results := [.lit (.bool true)], args := [d1, d2, d3, d4] }
  | _ => none }
def glyphAsksRow : OpenClaim := { program := "ytpibbokkdjjgeaadoor", sum := "71c50d02c358259ca67a693c7bc1e109170f0d79f0b9b857e90b6479fb8743d4", func := "heliast/heliastlaw01.GlyphAsks", spec := "glyphAsks", inPlace := ["internal/abi.NoEscape", "internal/bytealg.MakeNoZero", "internal/bytealg.IndexByteString", "internal/bytealg.IndexString", "internal/bytealg.abigen_runtime_cmpstring"], unfollowed := true, recurses := true, named := ["unicode/utf8.first", "unicode/utf8.acceptRanges", "unicode.CaseRanges", "internal/bytealg.MaxLen"], apart := false, laid := [("unicode/utf8.acceptRanges", laid_unicode_utf8_acceptRanges), ("unicode.CaseRanges", laid_unicode_CaseRanges), ("unicode/utf8.first", laid_unicode_utf8_first)] }
def GlyphAsksSaid : Prop := glyphAsksRow.holds Tryd.pinned (OpenSpec.ofChange glyphAsksSpec)

/-- ITS FALSE NEIGHBOUR: 'it returns false'. Refute it at one input. -/
def glyphAsksWrong : ChangeSpec := { name := "glyphAsks", fn := fun _ => fun
  | [d1, d2, d3, d4] => { results := [.lit (.bool false)], args := [d1, d2, d3, d4] }
  | _ => none }
def GlyphAsksWrongFalsely : Prop := glyphAsksRow.holds Tryd.pinned (OpenSpec.ofChange glyphAsksWrong)

/-- 'heliastlaw01.GlyphBack': WHATEVER THE INPUT: true; the input reads as it did. -/
def glyphBackSpec : ChangeSpec := { name := "glyphBack", fn := fun _ => fun
  | [d1, d2] => { results := [.lit (.bool true)], args := [d1, d2] }
  | _ => none }
def glyphBackRow : OpenClaim := { program := "ytpibbokkdjjgeaadoor", sum := "71c50d02c358259ca67a693c7bc1e109170f0d79f0b9b857e90b6479fb8743d4", func := "heliast/heliastlaw01.GlyphBack", spec := "glyphBack", inPlace := ["internal/abi.NoEscape", "internal/bytealg.MakeNoZero", "internal/bytealg.IndexByteString", "internal/bytealg.IndexString", "internal/bytealg.abigen_runtime_cmpstring"], unfollowed := true, recurses := true, named := ["unicode/utf8.first", "unicode/utf8.acceptRanges", "unicode.CaseRanges", "internal/bytealg.MaxLen"], apart := false, laid := [("unicode/utf8.acceptRanges", laid_unicode_utf8_acceptRanges), ("unicode.CaseRanges", laid_unicode_CaseRanges), ("unicode/utf8.first", laid_unicode_utf8_first)] }
def GlyphBackSaid : Prop := glyphBackRow.holds Tryd.pinned (OpenSpec.ofChange glyphBackSpec)

/-- ITS FALSE NEIGHBOUR: 'it returns false'. Refute it at one input. -/
def glyphBackWrong : ChangeSpec := { name := "glyphBack", fn := fun _ => fun
  | [d1, d2] => { results := [.lit (.bool false)], args := [d1, d2] }
  | _ => none }
def GlyphBackWrongFalsely : Prop := glyphBackRow.holds Tryd.pinned (OpenSpec.ofChange glyphBackWrong)

/-- 'heliastlaw01.GlyphTold': WHATEVER THE INPUT: true; the input reads as it did. -/
def glyphToldSpec : ChangeSpec := { name := "glyphTold", fn := fun _ => fun
  | [d] => { results := [.lit (.bool true)], args := [d] }
  | _ => none }
def glyphToldRow : OpenClaim := { program := "ytpibbokkdjjgeaadoor", sum := "71c50d02c358259ca67a693c7bc1e109170f0d79f0b9b857e90b6479fb8743d4", func := "heliast/heliastlaw01.GlyphTold", spec := "glyphTold", inPlace := ["internal/abi.NoEscape", "internal/bytealg.MakeNoZero", "internal/bytealg.IndexByteString", "internal/bytealg.IndexString", "internal/bytealg.abigen_runtime_cmpstring"], unfollowed := true, recurses := true, named := ["unicode/utf8.first", "unicode/utf8.acceptRanges", "unicode.CaseRanges", "internal/bytealg.MaxLen"], apart := false, laid := [("unicode/utf8.acceptRanges", laid_unicode_utf8_acceptRanges), ("unicode.CaseRanges", laid_unicode_CaseRanges), ("unicode/utf8.first", laid_unicode_utf8_first)] }
def GlyphToldSaid : Prop := glyphToldRow.holds Tryd.pinned (OpenSpec.ofChange glyphToldSpec)

/-- ITS FALSE NEIGHBOUR: 'it returns false'. Refute it at one input. -/
def glyphToldWrong : ChangeSpec := { name := "glyphTold", fn := fun _ => fun
  | [d] => { results := [.lit (.bool false)], args := [d] }
  | _ => none }
def GlyphToldWrongFalsely : Prop := glyphToldRow.holds Tryd.pinned (OpenSpec.ofChange glyphToldWrong)

/-- 'heliastlaw01.GlyphPairs': WHATEVER THE INPUT: true; the input reads as it did. -/
def glyphPairsSpec : ChangeSpec := { name := "glyphPairs", fn := fun _ => fun
  | [d1, d2] => { results := [.lit (.bool true)], args := [d1, d2] }
  | _ => none }
def glyphPairsRow : OpenClaim := { program := "ytpibbokkdjjgeaadoor", sum := "71c50d02c358259ca67a693c7bc1e109170f0d79f0b9b857e90b6479fb8743d4", func := "heliast/heliastlaw01.GlyphPairs", spec := "glyphPairs", inPlace := ["internal/abi.NoEscape", "internal/bytealg.MakeNoZero", "internal/bytealg.IndexByteString", "internal/bytealg.IndexString", "internal/bytealg.abigen_runtime_cmpstring"], unfollowed := true, recurses := true, named := ["unicode/utf8.first", "unicode/utf8.acceptRanges", "unicode.CaseRanges", "internal/bytealg.MaxLen"], apart := false, laid := [("unicode/utf8.acceptRanges", laid_unicode_utf8_acceptRanges), ("unicode.CaseRanges", laid_unicode_CaseRanges), ("unicode/utf8.first", laid_unicode_utf8_first)] }
def GlyphPairsSaid : Prop := glyphPairsRow.holds Tryd.pinned (OpenSpec.ofChange glyphPairsSpec)

/-- ITS FALSE NEIGHBOUR: 'it returns false'. Refute it at one input. -/
def glyphPairsWrong : ChangeSpec := { name := "glyphPairs", fn := fun _ => fun
  | [d1, d2] => { results := [.lit (.bool false)], args := [d1, d2] }
  | _ => none }
def GlyphPairsWrongFalsely : Prop := glyphPairsRow.holds Tryd.pinned (OpenSpec.ofChange glyphPairsWrong)

/-- 'heliastlaw01.GlyphLess': WHATEVER THE INPUT: true; the input reads as it did. -/
def glyphLessSpec : ChangeSpec := { name := "glyphLess", fn := fun _ => fun
  | [d1, d2, d3] => { results := [.lit (.bool true)], args := [d1, d2, d3] }
  | _ => none }
def glyphLessRow : OpenClaim := { program := "ytpibbokkdjjgeaadoor", sum := "71c50d02c358259ca67a693c7bc1e109170f0d79f0b9b857e90b6479fb8743d4", func := "heliast/heliastlaw01.GlyphLess", spec := "glyphLess", inPlace := ["internal/abi.NoEscape", "internal/bytealg.MakeNoZero", "internal/bytealg.IndexByteString", "internal/bytealg.IndexString", "internal/bytealg.abigen_runtime_cmpstring"], unfollowed := true, recurses := true, named := ["unicode/utf8.first", "unicode/utf8.acceptRanges", "unicode.CaseRanges", "internal/bytealg.MaxLen"], apart := false, laid := [("unicode/utf8.acceptRanges", laid_unicode_utf8_acceptRanges), ("unicode.CaseRanges", laid_unicode_CaseRanges), ("unicode/utf8.first", laid_unicode_utf8_first)] }
def GlyphLessSaid : Prop := glyphLessRow.holds Tryd.pinned (OpenSpec.ofChange glyphLessSpec)

/-- ITS FALSE NEIGHBOUR: 'it returns false'. Refute it at one input. -/
def glyphLessWrong : ChangeSpec := { name := "glyphLess", fn := fun _ => fun
  | [d1, d2, d3] => { results := [.lit (.bool false)], args := [d1, d2, d3] }
  | _ => none }
def GlyphLessWrongFalsely : Prop := glyphLessRow.holds Tryd.pinned (OpenSpec.ofChange glyphLessWrong)

/-- 'heliastlaw01.GlyphPlain': WHATEVER THE INPUT: true; the input reads as it did. -/
def glyphPlainSpec : ChangeSpec := { name := "glyphPlain", fn := fun _ => fun
  | [d] => { results := [.lit (.bool true)], args := [d] }
  | _ => none }
def glyphPlainRow : OpenClaim := { program := "ytpibbokkdjjgeaadoor", sum := "71c50d02c358259ca67a693c7bc1e109170f0d79f0b9b857e90b6479fb8743d4", func := "heliast/heliastlaw01.GlyphPlain", spec := "glyphPlain", inPlace := ["internal/abi.NoEscape", "internal/bytealg.MakeNoZero", "internal/bytealg.IndexByteString", "internal/bytealg.IndexString", "internal/bytealg.abigen_runtime_cmpstring"], unfollowed := true, recurses := true, named := ["unicode/utf8.first", "unicode/utf8.acceptRanges", "unicode.CaseRanges", "internal/bytealg.MaxLen"], apart := false, laid := [("unicode/utf8.acceptRanges", laid_unicode_utf8_acceptRanges), ("unicode.CaseRanges", laid_unicode_CaseRanges), ("unicode/utf8.first", laid_unicode_utf8_first)] }
def GlyphPlainSaid : Prop := glyphPlainRow.holds Tryd.pinned (OpenSpec.ofChange glyphPlainSpec)

/-- ITS FALSE NEIGHBOUR: 'it returns false'. Refute it at one input. -/
def glyphPlainWrong : ChangeSpec := { name := "glyphPlain", fn := fun _ => fun
  | [d] => { results := [.lit (.bool false)], args := [d] }
  | _ => none }
def GlyphPlainWrongFalsely : Prop := glyphPlainRow.holds Tryd.pinned (OpenSpec.ofChange glyphPlainWrong)

/-- 'heliastlaw01.GlyphJoin': WHATEVER THE INPUT: true; the input reads as it did. -/
def glyphJoinSpec : ChangeSpec := { name := "glyphJoin", fn := fun _ => fun
  | [d1, d2] => { results := [.lit (.bool true)], args := [d1, d2] }
  | _ => none }
def glyphJoinRow : OpenClaim := { program := "ytpibbokkdjjgeaadoor", sum := "71c50d02c358259ca67a693c7bc1e109170f0d79f0b9b857e90b6479fb8743d4", func := "heliast/heliastlaw01.GlyphJoin", spec := "glyphJoin", inPlace := ["internal/abi.NoEscape", "internal/bytealg.MakeNoZero", "internal/bytealg.IndexByteString", "internal/bytealg.IndexString", "internal/bytealg.abigen_runtime_cmpstring"], unfollowed := true, recurses := true, named := ["unicode/utf8.first", "unicode/utf8.acceptRanges", "unicode.CaseRanges", "internal/bytealg.MaxLen"], apart := false, laid := [("unicode/utf8.acceptRanges", laid_unicode_utf8_acceptRanges), ("unicode.CaseRanges", laid_unicode_CaseRanges), ("unicode/utf8.first", laid_unicode_utf8_first)] }
def GlyphJoinSaid : Prop := glyphJoinRow.holds Tryd.pinned (OpenSpec.ofChange glyphJoinSpec)

/-- ITS FALSE NEIGHBOUR: 'it returns false'. Refute it at one input. -/
def glyphJoinWrong : ChangeSpec := { name := "glyphJoin", fn := fun _ => fun
  | [d1, d2] => { results := [.lit (.bool false)], args := [d1, d2] }
  | _ => none }
def GlyphJoinWrongFalsely : Prop := glyphJoinRow.holds Tryd.pinned (OpenSpec.ofChange glyphJoinWrong)

/-- 'heliastlaw01.GlyphShort': WHATEVER THE INPUT: true; the input reads as it did. -/
def glyphShortSpec : ChangeSpec := { name := "glyphShort", fn := fun _ => fun
  | [d] => { results := [.lit (.bool true)], args := [d] }
  | _ => none }
def glyphShortRow : OpenClaim := { program := "ytpibbokkdjjgeaadoor", sum := "71c50d02c358259ca67a693c7bc1e109170f0d79f0b9b857e90b6479fb8743d4", func := "heliast/heliastlaw01.GlyphShort", spec := "glyphShort", inPlace := ["internal/abi.NoEscape", "internal/bytealg.MakeNoZero", "internal/bytealg.IndexByteString", "internal/bytealg.IndexString", "internal/bytealg.abigen_runtime_cmpstring"], unfollowed := true, recurses := true, named := ["unicode/utf8.first", "unicode/utf8.acceptRanges", "unicode.CaseRanges", "internal/bytealg.MaxLen"], apart := false, laid := [("unicode/utf8.acceptRanges", laid_unicode_utf8_acceptRanges), ("unicode.CaseRanges", laid_unicode_CaseRanges), ("unicode/utf8.first", laid_unicode_utf8_first)] }
def GlyphShortSaid : Prop := glyphShortRow.holds Tryd.pinned (OpenSpec.ofChange glyphShortSpec)

/-- ITS FALSE NEIGHBOUR: 'it returns false'. Refute it at one input. -/
def glyphShortWrong : ChangeSpec := { name := "glyphShort", fn := fun _ => fun
  | [d] => { results := [.lit (.bool false)], args := [d] }
  | _ => none }
def GlyphShortWrongFalsely : Prop := glyphShortRow.holds Tryd.pinned (OpenSpec.ofChange glyphShortWrong)

/- THE SECOND FORM. 'bulk': how many values and letters a reading holds, each counted each time it is reached (what is shared counts as often as it is met; a slice's spare places count too). A statement '..UptoSaid' is the law's where the arguments, and the package variables that the reading takes, are together of bulk at most 1048576: NARROWER than '..Said'. Prove '..Said' where nothing that the law and all that it calls make is longer than what came in: it says more and counts as full. Else prove '..UptoSaid'. A law counts once. -/
mutual
def uptoBulk {H : Type} : DataW H → Nat
  | .lit (.string bytes) => bytes.length + 1
  | .lit _ => 1
  | .nil => 1
  | .ptr d => uptoBulk d + 1
  | .slice elems spare => uptoBulkAll elems + uptoBulkAll spare + 1
  | .agg parts => uptoBulkAll parts + 1
  | .iface _ d => uptoBulk d + 1
  | .map entries => uptoBulkEntries entries + 1
  | .held _ => 1
def uptoBulkAll {H : Type} : List (DataW H) → Nat
  | [] => 0
  | d :: r => uptoBulk d + uptoBulkAll r
def uptoBulkEntries {H : Type} : List (Lit × DataW H) → Nat
  | [] => 0
  | x :: r => uptoBulkEntry x + uptoBulkEntries r
def uptoBulkEntry {H : Type} : Lit × DataW H → Nat
  | (.string bytes, d) => bytes.length + uptoBulk d + 1
  | (_, d) => uptoBulk d + 1
 end
def uptoSmall : (H : Type) → List (DataW H) → Bool := fun _ ds => decide (uptoBulkAll ds ≤ 1048576)
def OpenSpec.upto (s : _root_.Go.ChangeSpec) : _root_.Go.OpenSpec := { _root_.Go.OpenSpec.ofChange s with cond := some uptoSmall }

/-- 'heliastlaw01.GlyphAsks', WHERE WHAT IT READS IS OF BULK AT MOST 1048576: true; the input reads as it did. -/
def glyphAsksUptoRow : OpenClaim := { program := "ytpibbokkdjjgeaadoor", sum := "71c50d02c358259ca67a693c7bc1e109170f0d79f0b9b857e90b6479fb8743d4", func := "heliast/heliastlaw01.GlyphAsks", spec := "glyphAsks", inPlace := ["internal/abi.NoEscape", "internal/bytealg.MakeNoZero", "internal/bytealg.IndexByteString", "internal/bytealg.IndexString", "internal/bytealg.abigen_runtime_cmpstring"], unfollowed := true, recurses := true, named := ["unicode/utf8.first", "unicode/utf8.acceptRanges", "unicode.CaseRanges", "internal/bytealg.MaxLen"], apart := false, laid := [("unicode/utf8.acceptRanges", laid_unicode_utf8_acceptRanges), ("unicode.CaseRanges", laid_unicode_CaseRanges), ("unicode/utf8.first", laid_unicode_utf8_first)], narrowed := true }
def GlyphAsksUptoSaid : Prop := glyphAsksUptoRow.holds Tryd.pinned (OpenSpec.upto glyphAsksSpec)

/-- 'heliastlaw01.GlyphBack', WHERE WHAT IT READS IS OF BULK AT MOST 1048576: true; the input reads as it did. -/
def glyphBackUptoRow : OpenClaim := { program := "ytpibbokkdjjgeaadoor", sum := "71c50d02c358259ca67a693c7bc1e109170f0d79f0b9b857e90b6479fb8743d4", func := "heliast/heliastlaw01.GlyphBack", spec := "glyphBack", inPlace := ["internal/abi.NoEscape", "internal/bytealg.MakeNoZero", "internal/bytealg.IndexByteString", "internal/bytealg.IndexString", "internal/bytealg.abigen_runtime_cmpstring"], unfollowed := true, recurses := true, named := ["unicode/utf8.first", "unicode/utf8.acceptRanges", "unicode.CaseRanges", "internal/bytealg.MaxLen"], apart := false, laid := [("unicode/utf8.acceptRanges", laid_unicode_utf8_acceptRanges), ("unicode.CaseRanges", laid_unicode_CaseRanges), ("unicode/utf8.first", laid_unicode_utf8_first)], narrowed := true }
def GlyphBackUptoSaid : Prop := glyphBackUptoRow.holds Tryd.pinned (OpenSpec.upto glyphBackSpec)

/-- 'heliastlaw01.GlyphTold', WHERE WHAT IT READS IS OF BULK AT MOST 1048576: true; the input reads as it did. -/
def glyphToldUptoRow : OpenClaim := { program := "ytpibbokkdjjgeaadoor", sum := "71c50d02c358259ca67a693c7bc1e109170f0d79f0b9b857e90b6479fb8743d4", func := "heliast/heliastlaw01.GlyphTold", spec := "glyphTold", inPlace := ["internal/abi.NoEscape", "internal/bytealg.MakeNoZero", "internal/bytealg.IndexByteString", "internal/bytealg.IndexString", "internal/bytealg.abigen_runtime_cmpstring"], unfollowed := true, recurses := true, named := ["unicode/utf8.first", "unicode/utf8.acceptRanges", "unicode.CaseRanges", "internal/bytealg.MaxLen"], apart := false, laid := [("unicode/utf8.acceptRanges", laid_unicode_utf8_acceptRanges), ("unicode.CaseRanges", laid_unicode_CaseRanges), ("unicode/utf8.first", laid_unicode_utf8_first)], narrowed := true }
def GlyphToldUptoSaid : Prop := glyphToldUptoRow.holds Tryd.pinned (OpenSpec.upto glyphToldSpec)

/-- 'heliastlaw01.GlyphPairs', WHERE WHAT IT READS IS OF BULK AT MOST 1048576: true; the input reads as it did. -/
def glyphPairsUptoRow : OpenClaim := { program := "ytpibbokkdjjgeaadoor", sum := "71c50d02c358259ca67a693c7bc1e109170f0d79f0b9b857e90b6479fb8743d4", func := "heliast/heliastlaw01.GlyphPairs", spec := "glyphPairs", inPlace := ["internal/abi.NoEscape", "internal/bytealg.MakeNoZero", "internal/bytealg.IndexByteString", "internal/bytealg.IndexString", "internal/bytealg.abigen_runtime_cmpstring"], unfollowed := true, recurses := true, named := ["unicode/utf8.first", "unicode/utf8.acceptRanges", "unicode.CaseRanges", "internal/bytealg.MaxLen"], apart := false, laid := [("unicode/utf8.acceptRanges", laid_unicode_utf8_acceptRanges), ("unicode.CaseRanges", laid_unicode_CaseRanges), ("unicode/utf8.first", laid_unicode_utf8_first)], narrowed := true }
def GlyphPairsUptoSaid : Prop := glyphPairsUptoRow.holds Tryd.pinned (OpenSpec.upto glyphPairsSpec)

/-- 'heliastlaw01.GlyphLess', WHERE WHAT IT READS IS OF BULK AT MOST 1048576: true; the input reads as it did. -/
def glyphLessUptoRow : OpenClaim := { program := "ytpibbokkdjjgeaadoor", sum := "71c50d02c358259ca67a693c7bc1e109170f0d79f0b9b857e90b6479fb8743d4", func := "heliast/heliastlaw01.GlyphLess", spec := "glyphLess", inPlace := ["internal/abi.NoEscape", "internal/bytealg.MakeNoZero", "internal/bytealg.IndexByteString", "internal/bytealg.IndexString", "internal/bytealg.abigen_runtime_cmpstring"], unfollowed := true, recurses := true, named := ["unicode/utf8.first", "unicode/utf8.acceptRanges", "unicode.CaseRanges", "internal/bytealg.MaxLen"], apart := false, laid := [("unicode/utf8.acceptRanges", laid_unicode_utf8_acceptRanges), ("unicode.CaseRanges", laid_unicode_CaseRanges), ("unicode/utf8.first", laid_unicode_utf8_first)], narrowed := true }
def GlyphLessUptoSaid : Prop := glyphLessUptoRow.holds Tryd.pinned (OpenSpec.upto glyphLessSpec)

/-- 'heliastlaw01.GlyphPlain', WHERE WHAT IT READS IS OF BULK AT MOST 1048576: true; the input reads as it did. -/
def glyphPlainUptoRow : OpenClaim := { program := "ytpibbokkdjjgeaadoor", sum := "71c50d02c358259ca67a693c7bc1e109170f0d79f0b9b857e90b6479fb8743d4", func := "heliast/heliastlaw01.GlyphPlain", spec := "glyphPlain", inPlace := ["internal/abi.NoEscape", "internal/bytealg.MakeNoZero", "internal/bytealg.IndexByteString", "internal/bytealg.IndexString", "internal/bytealg.abigen_runtime_cmpstring"], unfollowed := true, recurses := true, named := ["unicode/utf8.first", "unicode/utf8.acceptRanges", "unicode.CaseRanges", "internal/bytealg.MaxLen"], apart := false, laid := [("unicode/utf8.acceptRanges", laid_unicode_utf8_acceptRanges), ("unicode.CaseRanges", laid_unicode_CaseRanges), ("unicode/utf8.first", laid_unicode_utf8_first)], narrowed := true }
def GlyphPlainUptoSaid : Prop := glyphPlainUptoRow.holds Tryd.pinned (OpenSpec.upto glyphPlainSpec)

/-- 'heliastlaw01.GlyphJoin', WHERE WHAT IT READS IS OF BULK AT MOST 1048576: true; the input reads as it did. -/
def glyphJoinUptoRow : OpenClaim := { program := "ytpibbokkdjjgeaadoor", sum := "71c50d02c358259ca67a693c7bc1e109170f0d79f0b9b857e90b6479fb8743d4", func := "heliast/heliastlaw01.GlyphJoin", spec := "glyphJoin", inPlace := ["internal/abi.NoEscape", "internal/bytealg.MakeNoZero", "internal/bytealg.IndexByteString", "internal/bytealg.IndexString", "internal/bytealg.abigen_runtime_cmpstring"], unfollowed := true, recurses := true, named := ["unicode/utf8.first", "unicode/utf8.acceptRanges", "unicode.CaseRanges", "internal/bytealg.MaxLen"], apart := false, laid := [("unicode/utf8.acceptRanges", laid_unicode_utf8_acceptRanges), ("unicode.CaseRanges", laid_unicode_CaseRanges), ("unicode/utf8.first", laid_unicode_utf8_first)], narrowed := true }
def GlyphJoinUptoSaid : Prop := glyphJoinUptoRow.holds Tryd.pinned (OpenSpec.upto glyphJoinSpec)

/-- 'heliastlaw01.GlyphShort', WHERE WHAT IT READS IS OF BULK AT MOST 1048576: true; the input reads as it did. -/
def glyphShortUptoRow : OpenClaim := { program := "ytpibbokkdjjgeaadoor", sum := "71c50d02c358259ca67a693c7bc1e109170f0d79f0b9b857e90b6479fb8743d4", func := "heliast/heliastlaw01.GlyphShort", spec := "glyphShort", inPlace := ["internal/abi.NoEscape", "internal/bytealg.MakeNoZero", "internal/bytealg.IndexByteString", "internal/bytealg.IndexString", "internal/bytealg.abigen_runtime_cmpstring"], unfollowed := true, recurses := true, named := ["unicode/utf8.first", "unicode/utf8.acceptRanges", "unicode.CaseRanges", "internal/bytealg.MaxLen"], apart := false, laid := [("unicode/utf8.acceptRanges", laid_unicode_utf8_acceptRanges), ("unicode.CaseRanges", laid_unicode_CaseRanges), ("unicode/utf8.first", laid_unicode_utf8_first)], narrowed := true }
def GlyphShortUptoSaid : Prop := glyphShortUptoRow.holds Tryd.pinned (OpenSpec.upto glyphShortSpec)

end Rows
end Go.Proofs.YtpibbokkdjjgeaaDoor
