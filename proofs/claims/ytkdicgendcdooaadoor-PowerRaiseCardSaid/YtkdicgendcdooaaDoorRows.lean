/-
  NARROWER THAN 'FOR EVERY INPUT', by the rows' own cells (each row's printed sentence says how): PowerNone: laid · PowerNamed: laid · PowerValid: laid · PowerAsks: laid · PowerRaise: laid · PowerSame: laid · PowerMore: laid · PowerOwn: laid.
  DERIVED. THE GIVEN ROWS OF THIS SEAT. 8 by the template 'for every input the law returns true; each argument reads behind the call as it read before'; 0 by the template 'total and deterministic' (their statements: YtkdicgendcdooaaDoorTotals.lean).
  GIVEN WITH THE SEED: the statements are not yours to turn. If you find one false, say at which input.
  Laid BY PROGRAM, IN A SANDBOX (cutbox-rows.mjs): the forced cells as the released guide's own fill.sh prints them over the translation 0b245b8ece2fda15… (all of the seat's roots in one cut). By AI agents, Wed Nov 11 2026. No macro, syntax, notation, axiom, sorry.
-/
import Derived.Test.YtkdicgendcdooaaDoorChecked
import GoSem.Claim
import GoSem.ClaimJoined
import GoSem.ClaimMapViews
import Derived.JoinedTies
import Derived.KernelRfl
namespace Go.Proofs.YtkdicgendcdooaaDoor
/- THE CELL 'sum', in the pinned program and in every row, IS THE sha256 OF THE DUMP (.gsa) THAT YtkdicgendcdooaaDoorProg.lean LOADS. Nothing in Lean hashes anything: it is a label: what it is worth is what the hold of that sum in a sandbox is worth. -/
noncomputable def Tryd.pinned : Pinned := { name := "ytkdicgendcdooaadoor", sum := "0b245b8ece2fda15237d0051937397dc45932d11f3df330ccc5a0b0d6dfdb0af", checked := Tryd.checked }
namespace Rows
def none {H : Type} : Left H := { results := [], args := [] }

/- WHAT THE LISTED PACKAGE-LEVEL VARIABLES READ AS WHEN THE CALL BEGINS. Each datum BY PROGRAM (the guide's laid-datum.mjs) off the statement by which the dump's own 'gosem.cut.vars' lays the variable. In a bare row this is a premise. The card (YtkdicgendcdooaaDoorCards.lean) ties it to the program's text. -/
def laid_unicode_White_Space {H : Type} : DataW H := .ptr (.agg [.slice [.agg [.lit (.int .u16 9), .lit (.int .u16 13), .lit (.int .u16 1)], .agg [.lit (.int .u16 32), .lit (.int .u16 133), .lit (.int .u16 101)], .agg [.lit (.int .u16 160), .lit (.int .u16 5760), .lit (.int .u16 5600)], .agg [.lit (.int .u16 8192), .lit (.int .u16 8202), .lit (.int .u16 1)], .agg [.lit (.int .u16 8232), .lit (.int .u16 8233), .lit (.int .u16 1)], .agg [.lit (.int .u16 8239), .lit (.int .u16 8287), .lit (.int .u16 48)], .agg [.lit (.int .u16 12288), .lit (.int .u16 12288), .lit (.int .u16 1)]] [], .nil, .lit (.int .i64 2)])
def laid_strings_asciiSpace {H : Type} : DataW H := .agg [.lit (.int .u8 0), .lit (.int .u8 0), .lit (.int .u8 0), .lit (.int .u8 0), .lit (.int .u8 0), .lit (.int .u8 0), .lit (.int .u8 0), .lit (.int .u8 0), .lit (.int .u8 0), .lit (.int .u8 1), .lit (.int .u8 1), .lit (.int .u8 1), .lit (.int .u8 1), .lit (.int .u8 1), .lit (.int .u8 0), .lit (.int .u8 0), .lit (.int .u8 0), .lit (.int .u8 0), .lit (.int .u8 0), .lit (.int .u8 0), .lit (.int .u8 0), .lit (.int .u8 0), .lit (.int .u8 0), .lit (.int .u8 0), .lit (.int .u8 0), .lit (.int .u8 0), .lit (.int .u8 0), .lit (.int .u8 0), .lit (.int .u8 0), .lit (.int .u8 0), .lit (.int .u8 0), .lit (.int .u8 0), .lit (.int .u8 1), .lit (.int .u8 0), .lit (.int .u8 0), .lit (.int .u8 0), .lit (.int .u8 0), .lit (.int .u8 0), .lit (.int .u8 0), .lit (.int .u8 0), .lit (.int .u8 0), .lit (.int .u8 0), .lit (.int .u8 0), .lit (.int .u8 0), .lit (.int .u8 0), .lit (.int .u8 0), .lit (.int .u8 0), .lit (.int .u8 0), .lit (.int .u8 0), .lit (.int .u8 0), .lit (.int .u8 0), .lit (.int .u8 0), .lit (.int .u8 0), .lit (.int .u8 0), .lit (.int .u8 0), .lit (.int .u8 0), .lit (.int .u8 0), .lit (.int .u8 0), .lit (.int .u8 0), .lit (.int .u8 0), .lit (.int .u8 0), .lit (.int .u8 0), .lit (.int .u8 0), .lit (.int .u8 0), .lit (.int .u8 0), .lit (.int .u8 0), .lit (.int .u8 0), .lit (.int .u8 0), .lit (.int .u8 0), .lit (.int .u8 0), .lit (.int .u8 0), .lit (.int .u8 0), .lit (.int .u8 0), .lit (.int .u8 0), .lit (.int .u8 0), .lit (.int .u8 0), .lit (.int .u8 0), .lit (.int .u8 0), .lit (.int .u8 0), .lit (.int .u8 0), .lit (.int .u8 0), .lit (.int .u8 0), .lit (.int .u8 0), .lit (.int .u8 0), .lit (.int .u8 0), .lit (.int .u8 0), .lit (.int .u8 0), .lit (.int .u8 0), .lit (.int .u8 0), .lit (.int .u8 0), .lit (.int .u8 0), .lit (.int .u8 0), .lit (.int .u8 0), .lit (.int .u8 0), .lit (.int .u8 0), .lit (.int .u8 0), .lit (.int .u8 0), .lit (.int .u8 0), .lit (.int .u8 0), .lit (.int .u8 0), .lit (.int .u8 0), .lit (.int .u8 0), .lit (.int .u8 0), .lit (.int .u8 0), .lit (.int .u8 0), .lit (.int .u8 0), .lit (.int .u8 0), .lit (.int .u8 0), .lit (.int .u8 0), .lit (.int .u8 0), .lit (.int .u8 0), .lit (.int .u8 0), .lit (.int .u8 0), .lit (.int .u8 0), .lit (.int .u8 0), .lit (.int .u8 0), .lit (.int .u8 0), .lit (.int .u8 0), .lit (.int .u8 0), .lit (.int .u8 0), .lit (.int .u8 0), .lit (.int .u8 0), .lit (.int .u8 0), .lit (.int .u8 0), .lit (.int .u8 0), .lit (.int .u8 0), .lit (.int .u8 0), .lit (.int .u8 0), .lit (.int .u8 0), .lit (.int .u8 0), .lit (.int .u8 0), .lit (.int .u8 0), .lit (.int .u8 0), .lit (.int .u8 0), .lit (.int .u8 0), .lit (.int .u8 0), .lit (.int .u8 0), .lit (.int .u8 0), .lit (.int .u8 0), .lit (.int .u8 0), .lit (.int .u8 0), .lit (.int .u8 0), .lit (.int .u8 0), .lit (.int .u8 0), .lit (.int .u8 0), .lit (.int .u8 0), .lit (.int .u8 0), .lit (.int .u8 0), .lit (.int .u8 0), .lit (.int .u8 0), .lit (.int .u8 0), .lit (.int .u8 0), .lit (.int .u8 0), .lit (.int .u8 0), .lit (.int .u8 0), .lit (.int .u8 0), .lit (.int .u8 0), .lit (.int .u8 0), .lit (.int .u8 0), .lit (.int .u8 0), .lit (.int .u8 0), .lit (.int .u8 0), .lit (.int .u8 0), .lit (.int .u8 0), .lit (.int .u8 0), .lit (.int .u8 0), .lit (.int .u8 0), .lit (.int .u8 0), .lit (.int .u8 0), .lit (.int .u8 0), .lit (.int .u8 0), .lit (.int .u8 0), .lit (.int .u8 0), .lit (.int .u8 0), .lit (.int .u8 0), .lit (.int .u8 0), .lit (.int .u8 0), .lit (.int .u8 0), .lit (.int .u8 0), .lit (.int .u8 0), .lit (.int .u8 0), .lit (.int .u8 0), .lit (.int .u8 0), .lit (.int .u8 0), .lit (.int .u8 0), .lit (.int .u8 0), .lit (.int .u8 0), .lit (.int .u8 0), .lit (.int .u8 0), .lit (.int .u8 0), .lit (.int .u8 0), .lit (.int .u8 0), .lit (.int .u8 0), .lit (.int .u8 0), .lit (.int .u8 0), .lit (.int .u8 0), .lit (.int .u8 0), .lit (.int .u8 0), .lit (.int .u8 0), .lit (.int .u8 0), .lit (.int .u8 0), .lit (.int .u8 0), .lit (.int .u8 0), .lit (.int .u8 0), .lit (.int .u8 0), .lit (.int .u8 0), .lit (.int .u8 0), .lit (.int .u8 0), .lit (.int .u8 0), .lit (.int .u8 0), .lit (.int .u8 0), .lit (.int .u8 0), .lit (.int .u8 0), .lit (.int .u8 0), .lit (.int .u8 0), .lit (.int .u8 0), .lit (.int .u8 0), .lit (.int .u8 0), .lit (.int .u8 0), .lit (.int .u8 0), .lit (.int .u8 0), .lit (.int .u8 0), .lit (.int .u8 0), .lit (.int .u8 0), .lit (.int .u8 0), .lit (.int .u8 0), .lit (.int .u8 0), .lit (.int .u8 0), .lit (.int .u8 0), .lit (.int .u8 0), .lit (.int .u8 0), .lit (.int .u8 0), .lit (.int .u8 0), .lit (.int .u8 0), .lit (.int .u8 0), .lit (.int .u8 0), .lit (.int .u8 0), .lit (.int .u8 0), .lit (.int .u8 0), .lit (.int .u8 0), .lit (.int .u8 0), .lit (.int .u8 0), .lit (.int .u8 0), .lit (.int .u8 0), .lit (.int .u8 0), .lit (.int .u8 0), .lit (.int .u8 0), .lit (.int .u8 0), .lit (.int .u8 0), .lit (.int .u8 0), .lit (.int .u8 0), .lit (.int .u8 0), .lit (.int .u8 0), .lit (.int .u8 0), .lit (.int .u8 0), .lit (.int .u8 0)]

/-- 'heliastlaw14.PowerNone': WHATEVER THE INPUT: true; the input reads as it did. -/
def powerNoneSpec : ChangeSpec := { name := "powerNone", fn := fun _ => fun
  | [d1, d2, d3, d4, d5] => { results := [.lit (.bool true)], args := [d1, d2, d3, d4, d5] }
  | _ => none }
def powerNoneRow : OpenClaim := { program := "ytkdicgendcdooaadoor", sum := "0b245b8ece2fda15237d0051937397dc45932d11f3df330ccc5a0b0d6dfdb0af", func := "heliast/heliastlaw14.PowerNone", spec := "powerNone", inPlace := ["internal/bytealg.IndexByteString", "internal/bytealg.IndexString"], unfollowed := true, recurses := true, named := ["strings.asciiSpace", "unicode.White_Space", "internal/bytealg.MaxLen"], apart := false, laid := [("unicode.White_Space", laid_unicode_White_Space), ("strings.asciiSpace", laid_strings_asciiSpace)] }
def PowerNoneSaid : Prop := powerNoneRow.holds Tryd.pinned (OpenSpec.ofChange powerNoneSpec)

/-- ITS FALSE NEIGHBOUR: 'it returns false'. Refute it at one input. -/
def powerNoneWrong : ChangeSpec := { name := "powerNone", fn := fun _ => fun
  | [d1, d2, d3, d4, d5] => { results := [.lit (.bool false)], args := [d1, d2, d3, d4, d5] }
  | _ => none }
def PowerNoneWrongFalsely : Prop := powerNoneRow.holds Tryd.pinned (OpenSpec.ofChange powerNoneWrong)

/-- 'heliastlaw14.PowerNamed': WHATEVER THE INPUT: true; the input reads as it did. -/
def powerNamedSpec : ChangeSpec := { name := "powerNamed", fn := fun _ => fun
  | [d1, d2, d3, d4, d5] => { results := [.lit (.bool true)], args := [d1, d2, d3, d4, d5] }
  | _ => none }
def powerNamedRow : OpenClaim := { program := "ytkdicgendcdooaadoor", sum := "0b245b8ece2fda15237d0051937397dc45932d11f3df330ccc5a0b0d6dfdb0af", func := "heliast/heliastlaw14.PowerNamed", spec := "powerNamed", inPlace := ["internal/bytealg.IndexByteString", "internal/bytealg.IndexString"], unfollowed := true, recurses := true, named := ["strings.asciiSpace", "unicode.White_Space", "internal/bytealg.MaxLen"], apart := false, laid := [("unicode.White_Space", laid_unicode_White_Space), ("strings.asciiSpace", laid_strings_asciiSpace)] }
def PowerNamedSaid : Prop := powerNamedRow.holds Tryd.pinned (OpenSpec.ofChange powerNamedSpec)

/-- ITS FALSE NEIGHBOUR: 'it returns false'. Refute it at one input. -/
def powerNamedWrong : ChangeSpec := { name := "powerNamed", fn := fun _ => fun
  | [d1, d2, d3, d4, d5] => { results := [.lit (.bool false)], args := [d1, d2, d3, d4, d5] }
  | _ => none }
def PowerNamedWrongFalsely : Prop := powerNamedRow.holds Tryd.pinned (OpenSpec.ofChange powerNamedWrong)

/-- 'heliastlaw14.PowerValid': WHATEVER THE INPUT: true; the input reads as it did. -/
def powerValidSpec : ChangeSpec := { name := "powerValid", fn := fun _ => fun
  | [d1, d2] => { results := [.lit (.bool true)], args := [d1, d2] }
  | _ => none }
def powerValidRow : OpenClaim := { program := "ytkdicgendcdooaadoor", sum := "0b245b8ece2fda15237d0051937397dc45932d11f3df330ccc5a0b0d6dfdb0af", func := "heliast/heliastlaw14.PowerValid", spec := "powerValid", inPlace := ["internal/bytealg.IndexByteString", "internal/bytealg.IndexString"], unfollowed := true, recurses := true, named := ["strings.asciiSpace", "unicode.White_Space", "internal/bytealg.MaxLen"], apart := false, laid := [("unicode.White_Space", laid_unicode_White_Space), ("strings.asciiSpace", laid_strings_asciiSpace)] }
def PowerValidSaid : Prop := powerValidRow.holds Tryd.pinned (OpenSpec.ofChange powerValidSpec)

/-- ITS FALSE NEIGHBOUR: 'it returns false'. Refute it at one input. -/
def powerValidWrong : ChangeSpec := { name := "powerValid", fn := fun _ => fun
  | [d1, d2] => { results := [.lit (.bool false)], args := [d1, d2] }
  | _ => none }
def PowerValidWrongFalsely : Prop := powerValidRow.holds Tryd.pinned (OpenSpec.ofChange powerValidWrong)

/-- 'heliastlaw14.PowerAsks': WHATEVER THE INPUT: true; the input reads as it did. -/
def powerAsksSpec : ChangeSpec := { name := "powerAsks", fn := fun _ => fun
  | [d1, d2, d3, d4, d5, d6, d7, d8] => { results := [.lit (.bool true)], args := [d1, d2, d3, d4, d5, d6, d7, d8] }
  | _ => none }
def powerAsksRow : OpenClaim := { program := "ytkdicgendcdooaadoor", sum := "0b245b8ece2fda15237d0051937397dc45932d11f3df330ccc5a0b0d6dfdb0af", func := "heliast/heliastlaw14.PowerAsks", spec := "powerAsks", inPlace := ["internal/bytealg.IndexByteString", "internal/bytealg.IndexString"], unfollowed := true, recurses := true, named := ["strings.asciiSpace", "unicode.White_Space", "internal/bytealg.MaxLen"], apart := false, laid := [("unicode.White_Space", laid_unicode_White_Space), ("strings.asciiSpace", laid_strings_asciiSpace)] }
def PowerAsksSaid : Prop := powerAsksRow.holds Tryd.pinned (OpenSpec.ofChange powerAsksSpec)

/-- ITS FALSE NEIGHBOUR: 'it returns false'. Refute it at one input. -/
def powerAsksWrong : ChangeSpec := { name := "powerAsks", fn := fun _ => fun
  | [d1, d2, d3, d4, d5, d6, d7, d8] => { results := [.lit (.bool false)], args := [d1, d2, d3, d4, d5, d6, d7, d8] }
  | _ => none }
def PowerAsksWrongFalsely : Prop := powerAsksRow.holds Tryd.pinned (OpenSpec.ofChange powerAsksWrong)

/-- 'heliastlaw14.PowerRaise': WHATEVER THE INPUT: true; the input reads as it did. -/
def powerRaiseSpec : ChangeSpec := { name := "powerRaise", fn := fun _ => fun
  | [d1, d2, d3] => { results := [.lit (.bool true)], args := [d1, d2, d3] }
  | _ => none }
def powerRaiseRow : OpenClaim := { program := "ytkdicgendcdooaadoor", sum := "0b245b8ece2fda15237d0051937397dc45932d11f3df330ccc5a0b0d6dfdb0af", func := "heliast/heliastlaw14.PowerRaise", spec := "powerRaise", inPlace := ["internal/bytealg.IndexByteString", "internal/bytealg.IndexString"], unfollowed := true, recurses := true, named := ["strings.asciiSpace", "unicode.White_Space", "internal/bytealg.MaxLen"], apart := false, laid := [("unicode.White_Space", laid_unicode_White_Space), ("strings.asciiSpace", laid_strings_asciiSpace)] }
def PowerRaiseSaid : Prop := powerRaiseRow.holds Tryd.pinned (OpenSpec.ofChange powerRaiseSpec)

/-- ITS FALSE NEIGHBOUR: 'it returns false'. Refute it at one input. -/
def powerRaiseWrong : ChangeSpec := { name := "powerRaise", fn := fun _ => fun
  | [d1, d2, d3] => { results := [.lit (.bool false)], args := [d1, d2, d3] }
  | _ => none }
def PowerRaiseWrongFalsely : Prop := powerRaiseRow.holds Tryd.pinned (OpenSpec.ofChange powerRaiseWrong)

/-- 'heliastlaw14.PowerSame': WHATEVER THE INPUT: true; the input reads as it did. -/
def powerSameSpec : ChangeSpec := { name := "powerSame", fn := fun _ => fun
  | [d1, d2, d3, d4] => { results := [.lit (.bool true)], args := [d1, d2, d3, d4] }
  | _ => none }
def powerSameRow : OpenClaim := { program := "ytkdicgendcdooaadoor", sum := "0b245b8ece2fda15237d0051937397dc45932d11f3df330ccc5a0b0d6dfdb0af", func := "heliast/heliastlaw14.PowerSame", spec := "powerSame", inPlace := ["internal/bytealg.IndexByteString", "internal/bytealg.IndexString"], unfollowed := true, recurses := true, named := ["strings.asciiSpace", "unicode.White_Space", "internal/bytealg.MaxLen"], apart := false, laid := [("unicode.White_Space", laid_unicode_White_Space), ("strings.asciiSpace", laid_strings_asciiSpace)] }
def PowerSameSaid : Prop := powerSameRow.holds Tryd.pinned (OpenSpec.ofChange powerSameSpec)

/-- ITS FALSE NEIGHBOUR: 'it returns false'. Refute it at one input. -/
def powerSameWrong : ChangeSpec := { name := "powerSame", fn := fun _ => fun
  | [d1, d2, d3, d4] => { results := [.lit (.bool false)], args := [d1, d2, d3, d4] }
  | _ => none }
def PowerSameWrongFalsely : Prop := powerSameRow.holds Tryd.pinned (OpenSpec.ofChange powerSameWrong)

/-- 'heliastlaw14.PowerMore': WHATEVER THE INPUT: true; the input reads as it did. -/
def powerMoreSpec : ChangeSpec := { name := "powerMore", fn := fun _ => fun
  | [d1, d2, d3, d4, d5] => { results := [.lit (.bool true)], args := [d1, d2, d3, d4, d5] }
  | _ => none }
def powerMoreRow : OpenClaim := { program := "ytkdicgendcdooaadoor", sum := "0b245b8ece2fda15237d0051937397dc45932d11f3df330ccc5a0b0d6dfdb0af", func := "heliast/heliastlaw14.PowerMore", spec := "powerMore", inPlace := ["internal/bytealg.IndexByteString", "internal/bytealg.IndexString"], unfollowed := true, recurses := true, named := ["strings.asciiSpace", "unicode.White_Space", "internal/bytealg.MaxLen"], apart := false, laid := [("unicode.White_Space", laid_unicode_White_Space), ("strings.asciiSpace", laid_strings_asciiSpace)] }
def PowerMoreSaid : Prop := powerMoreRow.holds Tryd.pinned (OpenSpec.ofChange powerMoreSpec)

/-- ITS FALSE NEIGHBOUR: 'it returns false'. Refute it at one input. -/
def powerMoreWrong : ChangeSpec := { name := "powerMore", fn := fun _ => fun
  | [d1, d2, d3, d4, d5] => { results := [.lit (.bool false)], args := [d1, d2, d3, d4, d5] }
  | _ => none }
def PowerMoreWrongFalsely : Prop := powerMoreRow.holds Tryd.pinned (OpenSpec.ofChange powerMoreWrong)

/-- 'heliastlaw14.PowerOwn': WHATEVER THE INPUT: true; the input reads as it did. -/
def powerOwnSpec : ChangeSpec := { name := "powerOwn", fn := fun _ => fun
  | [d1, d2, d3, d4] => { results := [.lit (.bool true)], args := [d1, d2, d3, d4] }
  | _ => none }
def powerOwnRow : OpenClaim := { program := "ytkdicgendcdooaadoor", sum := "0b245b8ece2fda15237d0051937397dc45932d11f3df330ccc5a0b0d6dfdb0af", func := "heliast/heliastlaw14.PowerOwn", spec := "powerOwn", inPlace := ["internal/bytealg.IndexByteString", "internal/bytealg.IndexString"], unfollowed := true, recurses := true, named := ["strings.asciiSpace", "unicode.White_Space", "internal/bytealg.MaxLen"], apart := false, laid := [("unicode.White_Space", laid_unicode_White_Space), ("strings.asciiSpace", laid_strings_asciiSpace)] }
def PowerOwnSaid : Prop := powerOwnRow.holds Tryd.pinned (OpenSpec.ofChange powerOwnSpec)

/-- ITS FALSE NEIGHBOUR: 'it returns false'. Refute it at one input. -/
def powerOwnWrong : ChangeSpec := { name := "powerOwn", fn := fun _ => fun
  | [d1, d2, d3, d4] => { results := [.lit (.bool false)], args := [d1, d2, d3, d4] }
  | _ => none }
def PowerOwnWrongFalsely : Prop := powerOwnRow.holds Tryd.pinned (OpenSpec.ofChange powerOwnWrong)

/- THE SECOND FORM. 'bulk': how many values and letters a reading holds, each counted each time it is reached (what is shared counts as often as it is met; a slice's spare places count too). A statement '..UptoSaid' is the law's where the arguments, and the package variables that the reading takes, are together of bulk at most 1048576: NARROWER than '..Said'. Prove '..Said' where nothing that the law and all that it calls make is longer than what came in: it says more and counts as full. Else prove '..UptoSaid'. A law counts once. -/
mutual
def uptoBulk {H : Type} : DataW H → Nat
  | .lit (.string bytes) => bytes.length + 1
  | .lit _ => 1
  | .nil => 1
  | .ptr d => uptoBulk d + 1
  | .slice elems spare => uptoBulkAll elems + uptoBulkAll spare + 1
  | .agg parts => uptoBulkAll parts + 1
  | .iface _ d => uptoBulk d + 1
  | .map entries => uptoBulkEntries entries + 1
  | .held _ => 1
def uptoBulkAll {H : Type} : List (DataW H) → Nat
  | [] => 0
  | d :: r => uptoBulk d + uptoBulkAll r
def uptoBulkEntries {H : Type} : List (Lit × DataW H) → Nat
  | [] => 0
  | x :: r => uptoBulkEntry x + uptoBulkEntries r
def uptoBulkEntry {H : Type} : Lit × DataW H → Nat
  | (.string bytes, d) => bytes.length + uptoBulk d + 1
  | (_, d) => uptoBulk d + 1
 end
def uptoSmall : (H : Type) → List (DataW H) → Bool := fun _ ds => decide (uptoBulkAll ds ≤ 1048576)
def OpenSpec.upto (s : _root_.Go.ChangeSpec) : _root_.Go.OpenSpec := { _root_.Go.OpenSpec.ofChange s with cond := some uptoSmall }

/-- 'heliastlaw14.PowerNone', WHERE WHAT IT READS IS OF BULK AT MOST 1048576: true; the input reads as it did. -/
def powerNoneUptoRow : OpenClaim := { program := "ytkdicgendcdooaadoor", sum := "0b245b8ece2fda15237d0051937397dc45932d11f3df330ccc5a0b0d6dfdb0af", func := "heliast/heliastlaw14.PowerNone", spec := "powerNone", inPlace := ["internal/bytealg.IndexByteString", "internal/bytealg.IndexString"], unfollowed := true, recurses := true, named := ["strings.asciiSpace", "unicode.White_Space", "internal/bytealg.MaxLen"], apart := false, laid := [("unicode.White_Space", laid_unicode_White_Space), ("strings.asciiSpace", laid_strings_asciiSpace)], narrowed := true }
def PowerNoneUptoSaid : Prop := powerNoneUptoRow.holds Tryd.pinned (OpenSpec.upto powerNoneSpec)

/-- 'heliastlaw14.PowerNamed', WHERE WHAT IT READS IS OF BULK AT MOST 1048576: true; the input reads as it did. -/
def powerNamedUptoRow : OpenClaim := { program := "ytkdicgendcdooaadoor", sum := "0b245b8ece2fda15237d0051937397dc45932d11f3df330ccc5a0b0d6dfdb0af", func := "heliast/heliastlaw14.PowerNamed", spec := "powerNamed", inPlace := ["internal/bytealg.IndexByteString", "internal/bytealg.IndexString"], unfollowed := true, recurses := true, named := ["strings.asciiSpace", "unicode.White_Space", "internal/bytealg.MaxLen"], apart := false, laid := [("unicode.White_Space", laid_unicode_White_Space), ("strings.asciiSpace", laid_strings_asciiSpace)], narrowed := true }
def PowerNamedUptoSaid : Prop := powerNamedUptoRow.holds Tryd.pinned (OpenSpec.upto powerNamedSpec)

/-- 'heliastlaw14.PowerValid', WHERE WHAT IT READS IS OF BULK AT MOST 1048576: true; the input reads as it did. -/
def powerValidUptoRow : OpenClaim := { program := "ytkdicgendcdooaadoor", sum := "0b245b8ece2fda15237d0051937397dc45932d11f3df330ccc5a0b0d6dfdb0af", func := "heliast/heliastlaw14.PowerValid", spec := "powerValid", inPlace := ["internal/bytealg.IndexByteString", "internal/bytealg.IndexString"], unfollowed := true, recurses := true, named := ["strings.asciiSpace", "unicode.White_Space", "internal/bytealg.MaxLen"], apart := false, laid := [("unicode.White_Space", laid_unicode_White_Space), ("strings.asciiSpace", laid_strings_asciiSpace)], narrowed := true }
def PowerValidUptoSaid : Prop := powerValidUptoRow.holds Tryd.pinned (OpenSpec.upto powerValidSpec)

/-- 'heliastlaw14.PowerAsks', WHERE WHAT IT READS IS OF BULK AT MOST 1048576: true; the input reads as it did. -/
def powerAsksUptoRow : OpenClaim := { program := "ytkdicgendcdooaadoor", sum := "0b245b8ece2fda15237d0051937397dc45932d11f3df330ccc5a0b0d6dfdb0af", func := "heliast/heliastlaw14.PowerAsks", spec := "powerAsks", inPlace := ["internal/bytealg.IndexByteString", "internal/bytealg.IndexString"], unfollowed := true, recurses := true, named := ["strings.asciiSpace", "unicode.White_Space", "internal/bytealg.MaxLen"], apart := false, laid := [("unicode.White_Space", laid_unicode_White_Space), ("strings.asciiSpace", laid_strings_asciiSpace)], narrowed := true }
def PowerAsksUptoSaid : Prop := powerAsksUptoRow.holds Tryd.pinned (OpenSpec.upto powerAsksSpec)

/-- 'heliastlaw14.PowerRaise', WHERE WHAT IT READS IS OF BULK AT MOST 1048576: true; the input reads as it did. -/
def powerRaiseUptoRow : OpenClaim := { program := "ytkdicgendcdooaadoor", sum := "0b245b8ece2fda15237d0051937397dc45932d11f3df330ccc5a0b0d6dfdb0af", func := "heliast/heliastlaw14.PowerRaise", spec := "powerRaise", inPlace := ["internal/bytealg.IndexByteString", "internal/bytealg.IndexString"], unfollowed := true, recurses := true, named := ["strings.asciiSpace", "unicode.White_Space", "internal/bytealg.MaxLen"], apart := false, laid := [("unicode.White_Space", laid_unicode_White_Space), ("strings.asciiSpace", laid_strings_asciiSpace)], narrowed := true }
def PowerRaiseUptoSaid : Prop := powerRaiseUptoRow.holds Tryd.pinned (OpenSpec.upto powerRaiseSpec)

/-- 'heliastlaw14.PowerSame', WHERE WHAT IT READS IS OF BULK AT MOST 1048576: true; the input reads as it did. -/
def powerSameUptoRow : OpenClaim := { program := "ytkdicgendcdooaadoor", sum := "0b245b8ece2fda15237d0051937397dc45932d11f3df330ccc5a0b0d6dfdb0af", func := "heliast/heliastlaw14.PowerSame", spec := "powerSame", inPlace := ["internal/bytealg.IndexByteString", "internal/bytealg.IndexString"], unfollowed := true, recurses := true, named := ["strings.asciiSpace", "unicode.White_Space", "internal/bytealg.MaxLen"], apart := false, laid := [("unicode.White_Space", laid_unicode_White_Space), ("strings.asciiSpace", laid_strings_asciiSpace)], narrowed := true }
def PowerSameUptoSaid : Prop := powerSameUptoRow.holds Tryd.pinned (OpenSpec.upto powerSameSpec)

/-- 'heliastlaw14.PowerMore', WHERE WHAT IT READS IS OF BULK AT MOST 1048576: true; the input reads as it did. -/
def powerMoreUptoRow : OpenClaim := { program := "ytkdicgendcdooaadoor", sum := "0b245b8ece2fda15237d0051937397dc45932d11f3df330ccc5a0b0d6dfdb0af", func := "heliast/heliastlaw14.PowerMore", spec := "powerMore", inPlace := ["internal/bytealg.IndexByteString", "internal/bytealg.IndexString"], unfollowed := true, recurses := true, named := ["strings.asciiSpace", "unicode.White_Space", "internal/bytealg.MaxLen"], apart := false, laid := [("unicode.White_Space", laid_unicode_White_Space), ("strings.asciiSpace", laid_strings_asciiSpace)], narrowed := true }
def PowerMoreUptoSaid : Prop := powerMoreUptoRow.holds Tryd.pinned (OpenSpec.upto powerMoreSpec)

/-- 'heliastlaw14.PowerOwn', WHERE WHAT IT READS IS OF BULK AT MOST 1048576: true; the input reads as it did. -/
def powerOwnUptoRow : OpenClaim := { program := "ytkdicgendcdooaadoor", sum := "0b245b8ece2fda15237d0051937397dc45932d11f3df330ccc5a0b0d6dfdb0af", func := "heliast/heliastlaw14.PowerOwn", spec := "powerOwn", inPlace := ["internal/bytealg.IndexByteString", "internal/bytealg.IndexString"], unfollowed := true, recurses := true, named := ["strings.asciiSpace", "unicode.White_Space", "internal/bytealg.MaxLen"], apart := false, laid := [("unicode.White_Space", laid_unicode_White_Space), ("strings.asciiSpace", laid_strings_asciiSpace)], narrowed := true }
def PowerOwnUptoSaid : Prop := powerOwnUptoRow.holds Tryd.pinned (OpenSpec.upto powerOwnSpec)

end Rows
end Go.Proofs.YtkdicgendcdooaaDoor
