/-
  No cell of these rows narrows 'for every input' (looked for: loops, veiled, ifaces, maps, wideKeys, modest, calm, conditions, laid).
  DERIVED. THE GIVEN ROWS OF THIS SEAT. 7 by the template 'for every input the law returns true; each argument reads behind the call as it read before'; 0 by the template 'total and deterministic' (their statements: YtnhljemnebgekaaTotals.lean).
  GIVEN WITH THE SEED: the statements are not yours to turn. If you find one false, say at which input.
  Laid BY PROGRAM, IN A SANDBOX (cutbox-rows.mjs): the forced cells as the released guide's own fill.sh prints them over the translation df730e0d9739bd05… (all of the seat's roots in one cut). By AI agents, Wed Nov 11 2026. No macro, syntax, notation, axiom, sorry.
-/
import Derived.Test.YtnhljemnebgekaaChecked
import GoSem.Claim
import GoSem.ClaimJoined
import GoSem.ClaimMapViews
import Derived.JoinedTies
import Derived.KernelRfl
namespace Go.Proofs.Ytnhljemnebgekaa
/- THE CELL 'sum', in the pinned program and in every row, IS THE sha256 OF THE DUMP (.gsa) THAT YtnhljemnebgekaaProg.lean LOADS. Nothing in Lean hashes anything: it is a label: what it is worth is what the hold of that sum in a sandbox is worth. -/
noncomputable def Try.pinned : Pinned := { name := "ytnhljemnebgekaa", sum := "df730e0d9739bd053ef475b34775223991f59167fd075758aec9f0c9a90ad7b7", checked := Try.checked }
namespace Rows
def none {H : Type} : Left H := { results := [], args := [] }

/-- 'heliastlaw05.SealMakes': WHATEVER THE INPUT: true; the input reads as it did. -/
def sealMakesSpec : ChangeSpec := { name := "sealMakes", fn := fun _ => fun
  | [d1, d2, d3, d4, d5] => { results := [.lit (.bool true)], args := [d1, d2, d3, d4, d5] }
  | _ => none }
def sealMakesRow : OpenClaim := { program := "ytnhljemnebgekaa", sum := "df730e0d9739bd053ef475b34775223991f59167fd075758aec9f0c9a90ad7b7", func := "heliast/heliastlaw05.SealMakes", spec := "sealMakes", inPlace := ["internal/bytealg.IndexByteString", "internal/bytealg.IndexString", "internal/abi.NoEscape"], unfollowed := true, recurses := true, named := ["internal/bytealg.MaxLen"], apart := false }
def SealMakesSaid : Prop := sealMakesRow.holds Try.pinned (OpenSpec.ofChange sealMakesSpec)

/-- ITS FALSE NEIGHBOUR: 'it returns false'. Refute it at one input. -/
def sealMakesWrong : ChangeSpec := { name := "sealMakes", fn := fun _ => fun
  | [d1, d2, d3, d4, d5] => { results := [.lit (.bool false)], args := [d1, d2, d3, d4, d5] }
  | _ => none }
def SealMakesWrongFalsely : Prop := sealMakesRow.holds Try.pinned (OpenSpec.ofChange sealMakesWrong)

/-- 'heliastlaw05.SealBack': WHATEVER THE INPUT: true; the input reads as it did. -/
def sealBackSpec : ChangeSpec := { name := "sealBack", fn := fun _ => fun
  | [d1, d2, d3] => { results := [.lit (.bool true)], args := [d1, d2, d3] }
  | _ => none }
def sealBackRow : OpenClaim := { program := "ytnhljemnebgekaa", sum := "df730e0d9739bd053ef475b34775223991f59167fd075758aec9f0c9a90ad7b7", func := "heliast/heliastlaw05.SealBack", spec := "sealBack", inPlace := ["internal/bytealg.IndexByteString", "internal/bytealg.IndexString", "internal/abi.NoEscape"], unfollowed := true, recurses := true, named := ["internal/bytealg.MaxLen"], apart := false }
def SealBackSaid : Prop := sealBackRow.holds Try.pinned (OpenSpec.ofChange sealBackSpec)

/-- ITS FALSE NEIGHBOUR: 'it returns false'. Refute it at one input. -/
def sealBackWrong : ChangeSpec := { name := "sealBack", fn := fun _ => fun
  | [d1, d2, d3] => { results := [.lit (.bool false)], args := [d1, d2, d3] }
  | _ => none }
def SealBackWrongFalsely : Prop := sealBackRow.holds Try.pinned (OpenSpec.ofChange sealBackWrong)

/-- 'heliastlaw05.SealSigns': WHATEVER THE INPUT: true; the input reads as it did. -/
def sealSignsSpec : ChangeSpec := { name := "sealSigns", fn := fun _ => fun
  | [d] => { results := [.lit (.bool true)], args := [d] }
  | _ => none }
def sealSignsRow : OpenClaim := { program := "ytnhljemnebgekaa", sum := "df730e0d9739bd053ef475b34775223991f59167fd075758aec9f0c9a90ad7b7", func := "heliast/heliastlaw05.SealSigns", spec := "sealSigns", inPlace := ["internal/bytealg.IndexByteString", "internal/bytealg.IndexString", "internal/abi.NoEscape"], unfollowed := true, recurses := true, named := ["internal/bytealg.MaxLen"], apart := false }
def SealSignsSaid : Prop := sealSignsRow.holds Try.pinned (OpenSpec.ofChange sealSignsSpec)

/-- ITS FALSE NEIGHBOUR: 'it returns false'. Refute it at one input. -/
def sealSignsWrong : ChangeSpec := { name := "sealSigns", fn := fun _ => fun
  | [d] => { results := [.lit (.bool false)], args := [d] }
  | _ => none }
def SealSignsWrongFalsely : Prop := sealSignsRow.holds Try.pinned (OpenSpec.ofChange sealSignsWrong)

/-- 'heliastlaw05.SealKeys': WHATEVER THE INPUT: true; the input reads as it did. -/
def sealKeysSpec : ChangeSpec := { name := "sealKeys", fn := fun _ => fun
  | [d1, d2, d3] => { results := [.lit (.bool true)], args := [d1, d2, d3] }
  | _ => none }
def sealKeysRow : OpenClaim := { program := "ytnhljemnebgekaa", sum := "df730e0d9739bd053ef475b34775223991f59167fd075758aec9f0c9a90ad7b7", func := "heliast/heliastlaw05.SealKeys", spec := "sealKeys", inPlace := ["internal/bytealg.IndexByteString", "internal/bytealg.IndexString", "internal/abi.NoEscape"], unfollowed := true, recurses := true, named := ["internal/bytealg.MaxLen"], apart := false }
def SealKeysSaid : Prop := sealKeysRow.holds Try.pinned (OpenSpec.ofChange sealKeysSpec)

/-- ITS FALSE NEIGHBOUR: 'it returns false'. Refute it at one input. -/
def sealKeysWrong : ChangeSpec := { name := "sealKeys", fn := fun _ => fun
  | [d1, d2, d3] => { results := [.lit (.bool false)], args := [d1, d2, d3] }
  | _ => none }
def SealKeysWrongFalsely : Prop := sealKeysRow.holds Try.pinned (OpenSpec.ofChange sealKeysWrong)

/-- 'heliastlaw05.SealJoin': WHATEVER THE INPUT: true; the input reads as it did. -/
def sealJoinSpec : ChangeSpec := { name := "sealJoin", fn := fun _ => fun
  | [d1, d2] => { results := [.lit (.bool true)], args := [d1, d2] }
  | _ => none }
def sealJoinRow : OpenClaim := { program := "ytnhljemnebgekaa", sum := "df730e0d9739bd053ef475b34775223991f59167fd075758aec9f0c9a90ad7b7", func := "heliast/heliastlaw05.SealJoin", spec := "sealJoin", inPlace := ["internal/bytealg.IndexByteString", "internal/bytealg.IndexString", "internal/abi.NoEscape"], unfollowed := true, recurses := true, named := ["internal/bytealg.MaxLen"], apart := false }
def SealJoinSaid : Prop := sealJoinRow.holds Try.pinned (OpenSpec.ofChange sealJoinSpec)

/-- ITS FALSE NEIGHBOUR: 'it returns false'. Refute it at one input. -/
def sealJoinWrong : ChangeSpec := { name := "sealJoin", fn := fun _ => fun
  | [d1, d2] => { results := [.lit (.bool false)], args := [d1, d2] }
  | _ => none }
def SealJoinWrongFalsely : Prop := sealJoinRow.holds Try.pinned (OpenSpec.ofChange sealJoinWrong)

/-- 'heliastlaw05.SealNamed': WHATEVER THE INPUT: true; the input reads as it did. -/
def sealNamedSpec : ChangeSpec := { name := "sealNamed", fn := fun _ => fun
  | [d1, d2, d3] => { results := [.lit (.bool true)], args := [d1, d2, d3] }
  | _ => none }
def sealNamedRow : OpenClaim := { program := "ytnhljemnebgekaa", sum := "df730e0d9739bd053ef475b34775223991f59167fd075758aec9f0c9a90ad7b7", func := "heliast/heliastlaw05.SealNamed", spec := "sealNamed", inPlace := ["internal/bytealg.IndexByteString", "internal/bytealg.IndexString", "internal/abi.NoEscape"], unfollowed := true, recurses := true, named := ["internal/bytealg.MaxLen"], apart := false }
def SealNamedSaid : Prop := sealNamedRow.holds Try.pinned (OpenSpec.ofChange sealNamedSpec)

/-- ITS FALSE NEIGHBOUR: 'it returns false'. Refute it at one input. -/
def sealNamedWrong : ChangeSpec := { name := "sealNamed", fn := fun _ => fun
  | [d1, d2, d3] => { results := [.lit (.bool false)], args := [d1, d2, d3] }
  | _ => none }
def SealNamedWrongFalsely : Prop := sealNamedRow.holds Try.pinned (OpenSpec.ofChange sealNamedWrong)

/-- 'heliastlaw05.SealEqual': WHATEVER THE INPUT: true; the input reads as it did. -/
def sealEqualSpec : ChangeSpec := { name := "sealEqual", fn := fun _ => fun
  | [d1, d2, d3] => { results := [.lit (.bool true)], args := [d1, d2, d3] }
  | _ => none }
def sealEqualRow : OpenClaim := { program := "ytnhljemnebgekaa", sum := "df730e0d9739bd053ef475b34775223991f59167fd075758aec9f0c9a90ad7b7", func := "heliast/heliastlaw05.SealEqual", spec := "sealEqual", inPlace := ["internal/bytealg.IndexByteString", "internal/bytealg.IndexString", "internal/abi.NoEscape"], unfollowed := true, recurses := true, named := ["internal/bytealg.MaxLen"], apart := false }
def SealEqualSaid : Prop := sealEqualRow.holds Try.pinned (OpenSpec.ofChange sealEqualSpec)

/-- ITS FALSE NEIGHBOUR: 'it returns false'. Refute it at one input. -/
def sealEqualWrong : ChangeSpec := { name := "sealEqual", fn := fun _ => fun
  | [d1, d2, d3] => { results := [.lit (.bool false)], args := [d1, d2, d3] }
  | _ => none }
def SealEqualWrongFalsely : Prop := sealEqualRow.holds Try.pinned (OpenSpec.ofChange sealEqualWrong)

/- THE SECOND FORM. 'bulk': how many values and letters a reading holds, each counted each time it is reached (what is shared counts as often as it is met; a slice's spare places count too). A statement '..UptoSaid' is the law's where the arguments, and the package variables that the reading takes, are together of bulk at most 1048576: NARROWER than '..Said'. Prove '..Said' where nothing that the law and all that it calls make is longer than what came in: it says more and counts as full. Else prove '..UptoSaid'. A law counts once. -/
mutual
def uptoBulk {H : Type} : DataW H → Nat
  | .lit (.string bytes) => bytes.length + 1
  | .lit _ => 1
  | .nil => 1
  | .ptr d => uptoBulk d + 1
  | .slice elems spare => uptoBulkAll elems + uptoBulkAll spare + 1
  | .agg parts => uptoBulkAll parts + 1
  | .iface _ d => uptoBulk d + 1
  | .map entries => uptoBulkEntries entries + 1
  | .held _ => 1
def uptoBulkAll {H : Type} : List (DataW H) → Nat
  | [] => 0
  | d :: r => uptoBulk d + uptoBulkAll r
def uptoBulkEntries {H : Type} : List (Lit × DataW H) → Nat
  | [] => 0
  | x :: r => uptoBulkEntry x + uptoBulkEntries r
def uptoBulkEntry {H : Type} : Lit × DataW H → Nat
  | (.string bytes, d) => bytes.length + uptoBulk d + 1
  | (_, d) => uptoBulk d + 1
 end
def uptoSmall : (H : Type) → List (DataW H) → Bool := fun _ ds => decide (uptoBulkAll ds ≤ 1048576)
def OpenSpec.upto (s : _root_.Go.ChangeSpec) : _root_.Go.OpenSpec := { _root_.Go.OpenSpec.ofChange s with cond := some uptoSmall }

/-- 'heliastlaw05.SealMakes', WHERE WHAT IT READS IS OF BULK AT MOST 1048576: true; the input reads as it did. -/
def sealMakesUptoRow : OpenClaim := { program := "ytnhljemnebgekaa", sum := "df730e0d9739bd053ef475b34775223991f59167fd075758aec9f0c9a90ad7b7", func := "heliast/heliastlaw05.SealMakes", spec := "sealMakes", inPlace := ["internal/bytealg.IndexByteString", "internal/bytealg.IndexString", "internal/abi.NoEscape"], unfollowed := true, recurses := true, named := ["internal/bytealg.MaxLen"], apart := false, narrowed := true }
def SealMakesUptoSaid : Prop := sealMakesUptoRow.holds Try.pinned (OpenSpec.upto sealMakesSpec)

/-- 'heliastlaw05.SealBack', WHERE WHAT IT READS IS OF BULK AT MOST 1048576: true; the input reads as it did. -/
def sealBackUptoRow : OpenClaim := { program := "ytnhljemnebgekaa", sum := "df730e0d9739bd053ef475b34775223991f59167fd075758aec9f0c9a90ad7b7", func := "heliast/heliastlaw05.SealBack", spec := "sealBack", inPlace := ["internal/bytealg.IndexByteString", "internal/bytealg.IndexString", "internal/abi.NoEscape"], unfollowed := true, recurses := true, named := ["internal/bytealg.MaxLen"], apart := false, narrowed := true }
def SealBackUptoSaid : Prop := sealBackUptoRow.holds Try.pinned (OpenSpec.upto sealBackSpec)

/-- 'heliastlaw05.SealSigns', WHERE WHAT IT READS IS OF BULK AT MOST 1048576: true; the input reads as it did. -/
def sealSignsUptoRow : OpenClaim := { program := "ytnhljemnebgekaa", sum := "df730e0d9739bd053ef475b34775223991f59167fd075758aec9f0c9a90ad7b7", func := "heliast/heliastlaw05.SealSigns", spec := "sealSigns", inPlace := ["internal/bytealg.IndexByteString", "internal/bytealg.IndexString", "internal/abi.NoEscape"], unfollowed := true, recurses := true, named := ["internal/bytealg.MaxLen"], apart := false, narrowed := true }
def SealSignsUptoSaid : Prop := sealSignsUptoRow.holds Try.pinned (OpenSpec.upto sealSignsSpec)

/-- 'heliastlaw05.SealKeys', WHERE WHAT IT READS IS OF BULK AT MOST 1048576: true; the input reads as it did. -/
def sealKeysUptoRow : OpenClaim := { program := "ytnhljemnebgekaa", sum := "df730e0d9739bd053ef475b34775223991f59167fd075758aec9f0c9a90ad7b7", func := "heliast/heliastlaw05.SealKeys", spec := "sealKeys", inPlace := ["internal/bytealg.IndexByteString", "internal/bytealg.IndexString", "internal/abi.NoEscape"], unfollowed := true, recurses := true, named := ["internal/bytealg.MaxLen"], apart := false, narrowed := true }
def SealKeysUptoSaid : Prop := sealKeysUptoRow.holds Try.pinned (OpenSpec.upto sealKeysSpec)

/-- 'heliastlaw05.SealJoin', WHERE WHAT IT READS IS OF BULK AT MOST 1048576: true; the input reads as it did. -/
def sealJoinUptoRow : OpenClaim := { program := "ytnhljemnebgekaa", sum := "df730e0d9739bd053ef475b34775223991f59167fd075758aec9f0c9a90ad7b7", func := "heliast/heliastlaw05.SealJoin", spec := "sealJoin", inPlace := ["internal/bytealg.IndexByteString", "internal/bytealg.IndexString", "internal/abi.NoEscape"], unfollowed := true, recurses := true, named := ["internal/bytealg.MaxLen"], apart := false, narrowed := true }
def SealJoinUptoSaid : Prop := sealJoinUptoRow.holds Try.pinned (OpenSpec.upto sealJoinSpec)

/-- 'heliastlaw05.SealNamed', WHERE WHAT IT READS IS OF BULK AT MOST 1048576: true; the input reads as it did. -/
def sealNamedUptoRow : OpenClaim := { program := "ytnhljemnebgekaa", sum := "df730e0d9739bd053ef475b34775223991f59167fd075758aec9f0c9a90ad7b7", func := "heliast/heliastlaw05.SealNamed", spec := "sealNamed", inPlace := ["internal/bytealg.IndexByteString", "internal/bytealg.IndexString", "internal/abi.NoEscape"], unfollowed := true, recurses := true, named := ["internal/bytealg.MaxLen"], apart := false, narrowed := true }
def SealNamedUptoSaid : Prop := sealNamedUptoRow.holds Try.pinned (OpenSpec.upto sealNamedSpec)

/-- 'heliastlaw05.SealEqual', WHERE WHAT IT READS IS OF BULK AT MOST 1048576: true; the input reads as it did. -/
def sealEqualUptoRow : OpenClaim := { program := "ytnhljemnebgekaa", sum := "df730e0d9739bd053ef475b34775223991f59167fd075758aec9f0c9a90ad7b7", func := "heliast/heliastlaw05.SealEqual", spec := "sealEqual", inPlace := ["internal/bytealg.IndexByteString", "internal/bytealg.IndexString", "internal/abi.NoEscape"], unfollowed := true, recurses := true, named := ["internal/bytealg.MaxLen"], apart := false, narrowed := true }
def SealEqualUptoSaid : Prop := sealEqualUptoRow.holds Try.pinned (OpenSpec.upto sealEqualSpec)

end Rows
end Go.Proofs.Ytnhljemnebgekaa
