/-
  NARROWER THAN 'FOR EVERY INPUT', by the rows' own cells (each row's printed sentence says how): NamesAsks: loops, laid · NamesGlob: laid · NamesParts: laid · NamesLet: laid · NamesMarks: laid · NamesParted: laid · NamesOne: laid.
  DERIVED. THE GIVEN ROWS OF THIS SEAT. 7 by the template 'for every input the law returns true; each argument reads behind the call as it read before'; 0 by the template 'total and deterministic' (their statements: YtehpnbeihnhjeaaDoorTotals.lean).
  GIVEN WITH THE SEED: the statements are not yours to turn. If you find one false, say at which input.
  Laid BY PROGRAM, IN A SANDBOX (cutbox-rows.mjs): the forced cells as the released guide's own fill.sh prints them over the translation e20c0edaad829d10… (all of the seat's roots in one cut). By AI agents, Wed Nov 11 2026. No macro, syntax, notation, axiom, sorry.
-/
import Derived.Test.YtehpnbeihnhjeaaDoorChecked
import GoSem.PinnedTables
import GoSem.Claim
import GoSem.ClaimJoined
import GoSem.ClaimMapViews
import Derived.JoinedTies
import Derived.KernelRfl
namespace Go.Proofs.YtehpnbeihnhjeaaDoor
/- THE CELL 'sum', in the pinned program and in every row, IS THE sha256 OF THE DUMP (.gsa) THAT YtehpnbeihnhjeaaDoorProg.lean LOADS. Nothing in Lean hashes anything: it is a label: what it is worth is what the hold of that sum in a sandbox is worth. -/
noncomputable def Tryd.pinned : Pinned := { name := "ytehpnbeihnhjeaadoor", sum := "e20c0edaad829d104921680243a68815daa454f0ceed9caca8faf94b81159845", checked := Tryd.checked }
namespace Rows
def none {H : Type} : Left H := { results := [], args := [] }

/- WHAT THE LISTED PACKAGE-LEVEL VARIABLES READ AS WHEN THE CALL BEGINS. Each datum BY PROGRAM (the guide's laid-datum.mjs) off the statement by which the dump's own 'gosem.cut.vars' lays the variable. In a bare row this is a premise. The card (YtehpnbeihnhjeaaDoorCards.lean) ties it to the program's text. -/
def laid_unicode_utf8_acceptRanges {H : Type} : DataW H := .agg [.agg [.lit (.int .u8 128), .lit (.int .u8 191)], .agg [.lit (.int .u8 160), .lit (.int .u8 191)], .agg [.lit (.int .u8 128), .lit (.int .u8 159)], .agg [.lit (.int .u8 144), .lit (.int .u8 191)], .agg [.lit (.int .u8 128), .lit (.int .u8 143)], .agg [.lit (.int .u8 0), .lit (.int .u8 0)], .agg [.lit (.int .u8 0), .lit (.int .u8 0)], .agg [.lit (.int .u8 0), .lit (.int .u8 0)], .agg [.lit (.int .u8 0), .lit (.int .u8 0)], .agg [.lit (.int .u8 0), .lit (.int .u8 0)], .agg [.lit (.int .u8 0), .lit (.int .u8 0)], .agg [.lit (.int .u8 0), .lit (.int .u8 0)], .agg [.lit (.int .u8 0), .lit (.int .u8 0)], .agg [.lit (.int .u8 0), .lit (.int .u8 0)], .agg [.lit (.int .u8 0), .lit (.int .u8 0)], .agg [.lit (.int .u8 0), .lit (.int .u8 0)]]
/-- One of Go's own tables, pinned by name: the form's constant. -/
def laid_unicode_utf8_first : DataW Unit := Go.Pinned.utf8First

/-- 'heliastlaw06.NamesAsks': WHATEVER THE INPUT: true; the input reads as it did. -/
def namesAsksSpec : ChangeSpec := { name := "namesAsks", fn := fun _ => fun
  | [d1, d2, d3, d4, d5, d6] => { results := [.lit (.bool true)], args := [d1, d2, d3, d4, d5, d6] }
  | _ => none }
def namesAsksRow : OpenClaim := { program := "ytehpnbeihnhjeaadoor", sum := "e20c0edaad829d104921680243a68815daa454f0ceed9caca8faf94b81159845", func := "heliast/heliastlaw06.NamesAsks", spec := "namesAsks", inPlace := ["internal/bytealg.IndexByteString", "internal/bytealg.IndexString"], unfollowed := true, recurses := true, named := ["unicode/utf8.first", "unicode/utf8.acceptRanges", "internal/bytealg.MaxLen"], loops := true, apart := false, laid := [("unicode/utf8.acceptRanges", laid_unicode_utf8_acceptRanges), ("unicode/utf8.first", laid_unicode_utf8_first)] }
def NamesAsksSaid : Prop := namesAsksRow.holds Tryd.pinned (OpenSpec.ofChange namesAsksSpec)

/-- ITS FALSE NEIGHBOUR: 'it returns false'. Refute it at one input. -/
def namesAsksWrong : ChangeSpec := { name := "namesAsks", fn := fun _ => fun
  | [d1, d2, d3, d4, d5, d6] => { results := [.lit (.bool false)], args := [d1, d2, d3, d4, d5, d6] }
  | _ => none }
def NamesAsksWrongFalsely : Prop := namesAsksRow.holds Tryd.pinned (OpenSpec.ofChange namesAsksWrong)

/-- 'heliastlaw06.NamesGlob': WHATEVER THE INPUT: true; the input reads as it did. -/
def namesGlobSpec : ChangeSpec := { name := "namesGlob", fn := fun _ => fun
  | [d1, d2, d3, d4] => { results := [.lit (.bool true)], args := [d1, d2, d3, d4] }
  | _ => none }
def namesGlobRow : OpenClaim := { program := "ytehpnbeihnhjeaadoor", sum := "e20c0edaad829d104921680243a68815daa454f0ceed9caca8faf94b81159845", func := "heliast/heliastlaw06.NamesGlob", spec := "namesGlob", inPlace := ["internal/bytealg.IndexByteString", "internal/bytealg.IndexString"], unfollowed := true, recurses := true, named := ["unicode/utf8.first", "unicode/utf8.acceptRanges", "internal/bytealg.MaxLen"], apart := false, laid := [("unicode/utf8.acceptRanges", laid_unicode_utf8_acceptRanges), ("unicode/utf8.first", laid_unicode_utf8_first)] }
def NamesGlobSaid : Prop := namesGlobRow.holds Tryd.pinned (OpenSpec.ofChange namesGlobSpec)

/-- ITS FALSE NEIGHBOUR: 'it returns false'. Refute it at one input. -/
def namesGlobWrong : ChangeSpec := { name := "namesGlob", fn := fun _ => fun
  | [d1, d2, d3, d4] => { results := [.lit (.bool false)], args := [d1, d2, d3, d4] }
  | _ => none }
def NamesGlobWrongFalsely : Prop := namesGlobRow.holds Tryd.pinned (OpenSpec.ofChange namesGlobWrong)

/-- 'heliastlaw06.NamesParts': WHATEVER THE INPUT: true; the input reads as it did. -/
def namesPartsSpec : ChangeSpec := { name := "namesParts", fn := fun _ => fun
  | [d1, d2, d3] => { results := [.lit (.bool true)], args := [d1, d2, d3] }
  | _ => none }
def namesPartsRow : OpenClaim := { program := "ytehpnbeihnhjeaadoor", sum := "e20c0edaad829d104921680243a68815daa454f0ceed9caca8faf94b81159845", func := "heliast/heliastlaw06.NamesParts", spec := "namesParts", inPlace := ["internal/bytealg.IndexByteString", "internal/bytealg.IndexString"], unfollowed := true, recurses := true, named := ["unicode/utf8.first", "unicode/utf8.acceptRanges", "internal/bytealg.MaxLen"], apart := false, laid := [("unicode/utf8.acceptRanges", laid_unicode_utf8_acceptRanges), ("unicode/utf8.first", laid_unicode_utf8_first)] }
def NamesPartsSaid : Prop := namesPartsRow.holds Tryd.pinned (OpenSpec.ofChange namesPartsSpec)

/-- ITS FALSE NEIGHBOUR: 'it returns false'. Refute it at one input. -/
def namesPartsWrong : ChangeSpec := { name := "namesParts", fn := fun _ => fun
  | [d1, d2, d3] => { results := [.lit (.bool false)], args := [d1, d2, d3] }
  | _ => none }
def NamesPartsWrongFalsely : Prop := namesPartsRow.holds Tryd.pinned (OpenSpec.ofChange namesPartsWrong)

/-- 'heliastlaw06.NamesLet': WHATEVER THE INPUT: true; the input reads as it did. -/
def namesLetSpec : ChangeSpec := { name := "namesLet", fn := fun _ => fun
  | [d1, d2, d3] => { results := [.lit (.bool true)], args := [d1, d2, d3] }
  | _ => none }
def namesLetRow : OpenClaim := { program := "ytehpnbeihnhjeaadoor", sum := "e20c0edaad829d104921680243a68815daa454f0ceed9caca8faf94b81159845", func := "heliast/heliastlaw06.NamesLet", spec := "namesLet", inPlace := ["internal/bytealg.IndexByteString", "internal/bytealg.IndexString"], unfollowed := true, recurses := true, named := ["unicode/utf8.first", "unicode/utf8.acceptRanges", "internal/bytealg.MaxLen"], apart := false, laid := [("unicode/utf8.acceptRanges", laid_unicode_utf8_acceptRanges), ("unicode/utf8.first", laid_unicode_utf8_first)] }
def NamesLetSaid : Prop := namesLetRow.holds Tryd.pinned (OpenSpec.ofChange namesLetSpec)

/-- ITS FALSE NEIGHBOUR: 'it returns false'. Refute it at one input. -/
def namesLetWrong : ChangeSpec := { name := "namesLet", fn := fun _ => fun
  | [d1, d2, d3] => { results := [.lit (.bool false)], args := [d1, d2, d3] }
  | _ => none }
def NamesLetWrongFalsely : Prop := namesLetRow.holds Tryd.pinned (OpenSpec.ofChange namesLetWrong)

/-- 'heliastlaw06.NamesMarks': WHATEVER THE INPUT: true; the input reads as it did. -/
def namesMarksSpec : ChangeSpec := { name := "namesMarks", fn := fun _ => fun
  | [d1, d2, d3] => { results := [.lit (.bool true)], args := [d1, d2, d3] }
  | _ => none }
def namesMarksRow : OpenClaim := { program := "ytehpnbeihnhjeaadoor", sum := "e20c0edaad829d104921680243a68815daa454f0ceed9caca8faf94b81159845", func := "heliast/heliastlaw06.NamesMarks", spec := "namesMarks", inPlace := ["internal/bytealg.IndexByteString", "internal/bytealg.IndexString"], unfollowed := true, recurses := true, named := ["unicode/utf8.first", "unicode/utf8.acceptRanges", "internal/bytealg.MaxLen"], apart := false, laid := [("unicode/utf8.acceptRanges", laid_unicode_utf8_acceptRanges), ("unicode/utf8.first", laid_unicode_utf8_first)] }
def NamesMarksSaid : Prop := namesMarksRow.holds Tryd.pinned (OpenSpec.ofChange namesMarksSpec)

/-- ITS FALSE NEIGHBOUR: 'it returns false'. Refute it at one input. -/
def namesMarksWrong : ChangeSpec := { name := "namesMarks", fn := fun _ => fun
  | [d1, d2, d3] => { results := [.lit (.bool false)], args := [d1, d2, d3] }
  | _ => none }
def NamesMarksWrongFalsely : Prop := namesMarksRow.holds Tryd.pinned (OpenSpec.ofChange namesMarksWrong)

/-- 'heliastlaw06.NamesParted': WHATEVER THE INPUT: true; the input reads as it did. -/
def namesPartedSpec : ChangeSpec := { name := "namesParted", fn := fun _ => fun
  | [d1, d2, d3] => { results := [.lit (.bool true)], args := [d1, d2, d3] }
  | _ => none }
def namesPartedRow : OpenClaim := { program := "ytehpnbeihnhjeaadoor", sum := "e20c0edaad829d104921680243a68815daa454f0ceed9caca8faf94b81159845", func := "heliast/heliastlaw06.NamesParted", spec := "namesParted", inPlace := ["internal/bytealg.IndexByteString", "internal/bytealg.IndexString"], unfollowed := true, recurses := true, named := ["unicode/utf8.first", "unicode/utf8.acceptRanges", "internal/bytealg.MaxLen"], apart := false, laid := [("unicode/utf8.acceptRanges", laid_unicode_utf8_acceptRanges), ("unicode/utf8.first", laid_unicode_utf8_first)] }
def NamesPartedSaid : Prop := namesPartedRow.holds Tryd.pinned (OpenSpec.ofChange namesPartedSpec)

/-- ITS FALSE NEIGHBOUR: 'it returns false'. Refute it at one input. -/
def namesPartedWrong : ChangeSpec := { name := "namesParted", fn := fun _ => fun
  | [d1, d2, d3] => { results := [.lit (.bool false)], args := [d1, d2, d3] }
  | _ => none }
def NamesPartedWrongFalsely : Prop := namesPartedRow.holds Tryd.pinned (OpenSpec.ofChange namesPartedWrong)

/-- 'heliastlaw06.NamesOne': WHATEVER THE INPUT: true; the input reads as it did. -/
def namesOneSpec : ChangeSpec := { name := "namesOne", fn := fun _ => fun
  | [d1, d2] => { results := [.lit (.bool true)], args := [d1, d2] }
  | _ => none }
def namesOneRow : OpenClaim := { program := "ytehpnbeihnhjeaadoor", sum := "e20c0edaad829d104921680243a68815daa454f0ceed9caca8faf94b81159845", func := "heliast/heliastlaw06.NamesOne", spec := "namesOne", inPlace := ["internal/bytealg.IndexByteString", "internal/bytealg.IndexString"], unfollowed := true, recurses := true, named := ["unicode/utf8.first", "unicode/utf8.acceptRanges", "internal/bytealg.MaxLen"], apart := false, laid := [("unicode/utf8.acceptRanges", laid_unicode_utf8_acceptRanges), ("unicode/utf8.first", laid_unicode_utf8_first)] }
def NamesOneSaid : Prop := namesOneRow.holds Tryd.pinned (OpenSpec.ofChange namesOneSpec)

/-- ITS FALSE NEIGHBOUR: 'it returns false'. Refute it at one input. -/
def namesOneWrong : ChangeSpec := { name := "namesOne", fn := fun _ => fun
  | [d1, d2] => { results := [.lit (.bool false)], args := [d1, d2] }
  | _ => none }
def NamesOneWrongFalsely : Prop := namesOneRow.holds Tryd.pinned (OpenSpec.ofChange namesOneWrong)

/- THE SECOND FORM. 'bulk': how many values and letters a reading holds, each counted each time it is reached (what is shared counts as often as it is met; a slice's spare places count too). A statement '..UptoSaid' is the law's where the arguments, and the package variables that the reading takes, are together of bulk at most 1048576: NARROWER than '..Said'. Prove '..Said' where nothing that the law and all that it calls make is longer than what came in: it says more and counts as full. Else prove '..UptoSaid'. A law counts once. -/
mutual
def uptoBulk {H : Type} : DataW H → Nat
  | .lit (.string bytes) => bytes.length + 1
  | .lit _ => 1
  | .nil => 1
  | .ptr d => uptoBulk d + 1
  | .slice elems spare => uptoBulkAll elems + uptoBulkAll spare + 1
  | .agg parts => uptoBulkAll parts + 1
  | .iface _ d => uptoBulk d + 1
  | .map entries => uptoBulkEntries entries + 1
  | .held _ => 1
def uptoBulkAll {H : Type} : List (DataW H) → Nat
  | [] => 0
  | d :: r => uptoBulk d + uptoBulkAll r
def uptoBulkEntries {H : Type} : List (Lit × DataW H) → Nat
  | [] => 0
  | x :: r => uptoBulkEntry x + uptoBulkEntries r
def uptoBulkEntry {H : Type} : Lit × DataW H → Nat
  | (.string bytes, d) => bytes.length + uptoBulk d + 1
  | (_, d) => uptoBulk d + 1
 end
def uptoSmall : (H : Type) → List (DataW H) → Bool := fun _ ds => decide (uptoBulkAll ds ≤ 1048576)
def OpenSpec.upto (s : _root_.Go.ChangeSpec) : _root_.Go.OpenSpec := { _root_.Go.OpenSpec.ofChange s with cond := some uptoSmall }

/-- 'heliastlaw06.NamesAsks', WHERE WHAT IT READS IS OF BULK AT MOST 1048576: true; the input reads as it did. -/
def namesAsksUptoRow : OpenClaim := { program := "ytehpnbeihnhjeaadoor", sum := "e20c0edaad829d104921680243a68815daa454f0ceed9caca8faf94b81159845", func := "heliast/heliastlaw06.NamesAsks", spec := "namesAsks", inPlace := ["internal/bytealg.IndexByteString", "internal/bytealg.IndexString"], unfollowed := true, recurses := true, named := ["unicode/utf8.first", "unicode/utf8.acceptRanges", "internal/bytealg.MaxLen"], loops := true, apart := false, laid := [("unicode/utf8.acceptRanges", laid_unicode_utf8_acceptRanges), ("unicode/utf8.first", laid_unicode_utf8_first)], narrowed := true }
def NamesAsksUptoSaid : Prop := namesAsksUptoRow.holds Tryd.pinned (OpenSpec.upto namesAsksSpec)

/-- 'heliastlaw06.NamesGlob', WHERE WHAT IT READS IS OF BULK AT MOST 1048576: true; the input reads as it did. -/
def namesGlobUptoRow : OpenClaim := { program := "ytehpnbeihnhjeaadoor", sum := "e20c0edaad829d104921680243a68815daa454f0ceed9caca8faf94b81159845", func := "heliast/heliastlaw06.NamesGlob", spec := "namesGlob", inPlace := ["internal/bytealg.IndexByteString", "internal/bytealg.IndexString"], unfollowed := true, recurses := true, named := ["unicode/utf8.first", "unicode/utf8.acceptRanges", "internal/bytealg.MaxLen"], apart := false, laid := [("unicode/utf8.acceptRanges", laid_unicode_utf8_acceptRanges), ("unicode/utf8.first", laid_unicode_utf8_first)], narrowed := true }
def NamesGlobUptoSaid : Prop := namesGlobUptoRow.holds Tryd.pinned (OpenSpec.upto namesGlobSpec)

/-- 'heliastlaw06.NamesParts', WHERE WHAT IT READS IS OF BULK AT MOST 1048576: true; the input reads as it did. -/
def namesPartsUptoRow : OpenClaim := { program := "ytehpnbeihnhjeaadoor", sum := "e20c0edaad829d104921680243a68815daa454f0ceed9caca8faf94b81159845", func := "heliast/heliastlaw06.NamesParts", spec := "namesParts", inPlace := ["internal/bytealg.IndexByteString", "internal/bytealg.IndexString"], unfollowed := true, recurses := true, named := ["unicode/utf8.first", "unicode/utf8.acceptRanges", "internal/bytealg.MaxLen"], apart := false, laid := [("unicode/utf8.acceptRanges", laid_unicode_utf8_acceptRanges), ("unicode/utf8.first", laid_unicode_utf8_first)], narrowed := true }
def NamesPartsUptoSaid : Prop := namesPartsUptoRow.holds Tryd.pinned (OpenSpec.upto namesPartsSpec)

/-- 'heliastlaw06.NamesLet', WHERE WHAT IT READS IS OF BULK AT MOST 1048576: true; the input reads as it did. -/
def namesLetUptoRow : OpenClaim := { program := "ytehpnbeihnhjeaadoor", sum := "e20c0edaad829d104921680243a68815daa454f0ceed9caca8faf94b81159845", func := "heliast/heliastlaw06.NamesLet", spec := "namesLet", inPlace := ["internal/bytealg.IndexByteString", "internal/bytealg.IndexString"], unfollowed := true, recurses := true, named := ["unicode/utf8.first", "unicode/utf8.acceptRanges", "internal/bytealg.MaxLen"], apart := false, laid := [("unicode/utf8.acceptRanges", laid_unicode_utf8_acceptRanges), ("unicode/utf8.first", laid_unicode_utf8_first)], narrowed := true }
def NamesLetUptoSaid : Prop := namesLetUptoRow.holds Tryd.pinned (OpenSpec.upto namesLetSpec)

/-- 'heliastlaw06.NamesMarks', WHERE WHAT IT READS IS OF BULK AT MOST 1048576: true; the input reads as it did. -/
def namesMarksUptoRow : OpenClaim := { program := "ytehpnbeihnhjeaadoor", sum := "e20c0edaad829d104921680243a68815daa454f0ceed9caca8faf94b81159845", func := "heliast/heliastlaw06.NamesMarks", spec := "namesMarks", inPlace := ["internal/bytealg.IndexByteString", "internal/bytealg.IndexString"], unfollowed := true, recurses := true, named := ["unicode/utf8.first", "unicode/utf8.acceptRanges", "internal/bytealg.MaxLen"], apart := false, laid := [("unicode/utf8.acceptRanges", laid_unicode_utf8_acceptRanges), ("unicode/utf8.first", laid_unicode_utf8_first)], narrowed := true }
def NamesMarksUptoSaid : Prop := namesMarksUptoRow.holds Tryd.pinned (OpenSpec.upto namesMarksSpec)

/-- 'heliastlaw06.NamesParted', WHERE WHAT IT READS IS OF BULK AT MOST 1048576: true; the input reads as it did. -/
def namesPartedUptoRow : OpenClaim := { program := "ytehpnbeihnhjeaadoor", sum := "e20c0edaad829d104921680243a68815daa454f0ceed9caca8faf94b81159845", func := "heliast/heliastlaw06.NamesParted", spec := "namesParted", inPlace := ["internal/bytealg.IndexByteString", "internal/bytealg.IndexString"], unfollowed := true, recurses := true, named := ["unicode/utf8.first", "unicode/utf8.acceptRanges", "internal/bytealg.MaxLen"], apart := false, laid := [("unicode/utf8.acceptRanges", laid_unicode_utf8_acceptRanges), ("unicode/utf8.first", laid_unicode_utf8_first)], narrowed := true }
def NamesPartedUptoSaid : Prop := namesPartedUptoRow.holds Tryd.pinned (OpenSpec.upto namesPartedSpec)

/-- 'heliastlaw06.NamesOne', WHERE WHAT IT READS IS OF BULK AT MOST 1048576: true; the input reads as it did. -/
def namesOneUptoRow : OpenClaim := { program := "ytehpnbeihnhjeaadoor", sum := "e20c0edaad829d104921680243a68815daa454f0ceed9caca8faf94b81159845", func := "heliast/heliastlaw06.NamesOne", spec := "namesOne", inPlace := ["internal/bytealg.IndexByteString", "internal/bytealg.IndexString"], unfollowed := true, recurses := true, named := ["unicode/utf8.first", "unicode/utf8.acceptRanges", "internal/bytealg.MaxLen"], apart := false, laid := [("unicode/utf8.acceptRanges", laid_unicode_utf8_acceptRanges), ("unicode/utf8.first", laid_unicode_utf8_first)], narrowed := true }
def NamesOneUptoSaid : Prop := namesOneUptoRow.holds Tryd.pinned (OpenSpec.upto namesOneSpec)

end Rows
end Go.Proofs.YtehpnbeihnhjeaaDoor
