/-
  No cell of these rows narrows 'for every input' (looked for: loops, veiled, ifaces, maps, wideKeys, modest, calm, conditions, laid).
  DERIVED. THE GIVEN ROWS OF THIS SEAT. 9 by the template 'for every input the law returns true; each argument reads behind the call as it read before'; 0 by the template 'total and deterministic' (their statements: YthfgjmbbpgodcaaTotals.lean).
  GIVEN WITH THE SEED: the statements are not yours to turn. If you find one false, say at which input.
  Laid BY PROGRAM, IN A SANDBOX (cutbox-rows.mjs): the forced cells as the released guide's own fill.sh prints them over the translation e330b8d42f0a21c4… (all of the seat's roots in one cut). By AI agents, Wed Nov 11 2026. No macro, syntax, notation, axiom, sorry.
-/
import Derived.Test.YthfgjmbbpgodcaaChecked
import GoSem.Claim
import GoSem.ClaimJoined
import GoSem.ClaimMapViews
import Derived.JoinedTies
import Derived.KernelRfl
namespace Go.Proofs.Ythfgjmbbpgodcaa
/- THE CELL 'sum', in the pinned program and in every row, IS THE sha256 OF THE DUMP (.gsa) THAT YthfgjmbbpgodcaaProg.lean LOADS. Nothing in Lean hashes anything: it is a label: what it is worth is what the hold of that sum in a sandbox is worth. -/
noncomputable def Try.pinned : Pinned := { name := "ythfgjmbbpgodcaa", sum := "e330b8d42f0a21c4e40bf38cde99a80fba0530cf50a2fca54e8452b24a6d067e", checked := Try.checked }
namespace Rows
def none {H : Type} : Left H := { results := [], args := [] }

/-- 'heliastlaw09.DiskRoom': WHATEVER THE INPUT: true; the input reads as it did. -/
def diskRoomSpec : ChangeSpec := { name := "diskRoom", fn := fun _ => fun
  | [d1, d2, d3] => { results := [.lit (.bool true)], args := [d1, d2, d3] }
  | _ => none }
def diskRoomRow : OpenClaim := { program := "ythfgjmbbpgodcaa", sum := "e330b8d42f0a21c4e40bf38cde99a80fba0530cf50a2fca54e8452b24a6d067e", func := "heliast/heliastlaw09.DiskRoom", spec := "diskRoom", unfollowed := true, recurses := true, apart := false }
def DiskRoomSaid : Prop := diskRoomRow.holds Try.pinned (OpenSpec.ofChange diskRoomSpec)

/-- ITS FALSE NEIGHBOUR: 'it returns false'. Refute it at one input. -/
def diskRoomWrong : ChangeSpec := { name := "diskRoom", fn := fun _ => fun
  | [d1, d2, d3] => { results := [.lit (.bool false)], args := [d1, d2, d3] }
  | _ => none }
def DiskRoomWrongFalsely : Prop := diskRoomRow.holds Try.pinned (OpenSpec.ofChange diskRoomWrong)

/-- 'heliastlaw09.DiskNames': WHATEVER THE INPUT: true; the input reads as it did. -/
def diskNamesSpec : ChangeSpec := { name := "diskNames", fn := fun _ => fun
  | [d1, d2, d3, d4] => { results := [.lit (.bool true)], args := [d1, d2, d3, d4] }
  | _ => none }
def diskNamesRow : OpenClaim := { program := "ythfgjmbbpgodcaa", sum := "e330b8d42f0a21c4e40bf38cde99a80fba0530cf50a2fca54e8452b24a6d067e", func := "heliast/heliastlaw09.DiskNames", spec := "diskNames", unfollowed := true, recurses := true, apart := false }
def DiskNamesSaid : Prop := diskNamesRow.holds Try.pinned (OpenSpec.ofChange diskNamesSpec)

/-- ITS FALSE NEIGHBOUR: 'it returns false'. Refute it at one input. -/
def diskNamesWrong : ChangeSpec := { name := "diskNames", fn := fun _ => fun
  | [d1, d2, d3, d4] => { results := [.lit (.bool false)], args := [d1, d2, d3, d4] }
  | _ => none }
def DiskNamesWrongFalsely : Prop := diskNamesRow.holds Try.pinned (OpenSpec.ofChange diskNamesWrong)

/-- 'heliastlaw09.DiskLasts': WHATEVER THE INPUT: true; the input reads as it did. -/
def diskLastsSpec : ChangeSpec := { name := "diskLasts", fn := fun _ => fun
  | [d1, d2, d3, d4] => { results := [.lit (.bool true)], args := [d1, d2, d3, d4] }
  | _ => none }
def diskLastsRow : OpenClaim := { program := "ythfgjmbbpgodcaa", sum := "e330b8d42f0a21c4e40bf38cde99a80fba0530cf50a2fca54e8452b24a6d067e", func := "heliast/heliastlaw09.DiskLasts", spec := "diskLasts", unfollowed := true, recurses := true, apart := false }
def DiskLastsSaid : Prop := diskLastsRow.holds Try.pinned (OpenSpec.ofChange diskLastsSpec)

/-- ITS FALSE NEIGHBOUR: 'it returns false'. Refute it at one input. -/
def diskLastsWrong : ChangeSpec := { name := "diskLasts", fn := fun _ => fun
  | [d1, d2, d3, d4] => { results := [.lit (.bool false)], args := [d1, d2, d3, d4] }
  | _ => none }
def DiskLastsWrongFalsely : Prop := diskLastsRow.holds Try.pinned (OpenSpec.ofChange diskLastsWrong)

/-- 'heliastlaw09.DiskCut': WHATEVER THE INPUT: true; the input reads as it did. -/
def diskCutSpec : ChangeSpec := { name := "diskCut", fn := fun _ => fun
  | [d1, d2, d3, d4] => { results := [.lit (.bool true)], args := [d1, d2, d3, d4] }
  | _ => none }
def diskCutRow : OpenClaim := { program := "ythfgjmbbpgodcaa", sum := "e330b8d42f0a21c4e40bf38cde99a80fba0530cf50a2fca54e8452b24a6d067e", func := "heliast/heliastlaw09.DiskCut", spec := "diskCut", unfollowed := true, recurses := true, apart := false }
def DiskCutSaid : Prop := diskCutRow.holds Try.pinned (OpenSpec.ofChange diskCutSpec)

/-- ITS FALSE NEIGHBOUR: 'it returns false'. Refute it at one input. -/
def diskCutWrong : ChangeSpec := { name := "diskCut", fn := fun _ => fun
  | [d1, d2, d3, d4] => { results := [.lit (.bool false)], args := [d1, d2, d3, d4] }
  | _ => none }
def DiskCutWrongFalsely : Prop := diskCutRow.holds Try.pinned (OpenSpec.ofChange diskCutWrong)

/-- 'heliastlaw09.DiskSteps': WHATEVER THE INPUT: true; the input reads as it did. -/
def diskStepsSpec : ChangeSpec := { name := "diskSteps", fn := fun _ => fun
  | [d1, d2, d3] => { results := [.lit (.bool true)], args := [d1, d2, d3] }
  | _ => none }
def diskStepsRow : OpenClaim := { program := "ythfgjmbbpgodcaa", sum := "e330b8d42f0a21c4e40bf38cde99a80fba0530cf50a2fca54e8452b24a6d067e", func := "heliast/heliastlaw09.DiskSteps", spec := "diskSteps", unfollowed := true, recurses := true, apart := false }
def DiskStepsSaid : Prop := diskStepsRow.holds Try.pinned (OpenSpec.ofChange diskStepsSpec)

/-- ITS FALSE NEIGHBOUR: 'it returns false'. Refute it at one input. -/
def diskStepsWrong : ChangeSpec := { name := "diskSteps", fn := fun _ => fun
  | [d1, d2, d3] => { results := [.lit (.bool false)], args := [d1, d2, d3] }
  | _ => none }
def DiskStepsWrongFalsely : Prop := diskStepsRow.holds Try.pinned (OpenSpec.ofChange diskStepsWrong)

/-- 'heliastlaw09.DiskOff': WHATEVER THE INPUT: true; the input reads as it did. -/
def diskOffSpec : ChangeSpec := { name := "diskOff", fn := fun _ => fun
  | [d1, d2, d3] => { results := [.lit (.bool true)], args := [d1, d2, d3] }
  | _ => none }
def diskOffRow : OpenClaim := { program := "ythfgjmbbpgodcaa", sum := "e330b8d42f0a21c4e40bf38cde99a80fba0530cf50a2fca54e8452b24a6d067e", func := "heliast/heliastlaw09.DiskOff", spec := "diskOff", unfollowed := true, recurses := true, apart := false }
def DiskOffSaid : Prop := diskOffRow.holds Try.pinned (OpenSpec.ofChange diskOffSpec)

/-- ITS FALSE NEIGHBOUR: 'it returns false'. Refute it at one input. -/
def diskOffWrong : ChangeSpec := { name := "diskOff", fn := fun _ => fun
  | [d1, d2, d3] => { results := [.lit (.bool false)], args := [d1, d2, d3] }
  | _ => none }
def DiskOffWrongFalsely : Prop := diskOffRow.holds Try.pinned (OpenSpec.ofChange diskOffWrong)

/-- 'heliastlaw09.DiskAlone': WHATEVER THE INPUT: true; the input reads as it did. -/
def diskAloneSpec : ChangeSpec := { name := "diskAlone", fn := fun _ => fun
  | [d1, d2, d3] => { results := [.lit (.bool true)], args := [d1, d2, d3] }
  | _ => none }
def diskAloneRow : OpenClaim := { program := "ythfgjmbbpgodcaa", sum := "e330b8d42f0a21c4e40bf38cde99a80fba0530cf50a2fca54e8452b24a6d067e", func := "heliast/heliastlaw09.DiskAlone", spec := "diskAlone", unfollowed := true, recurses := true, apart := false }
def DiskAloneSaid : Prop := diskAloneRow.holds Try.pinned (OpenSpec.ofChange diskAloneSpec)

/-- ITS FALSE NEIGHBOUR: 'it returns false'. Refute it at one input. -/
def diskAloneWrong : ChangeSpec := { name := "diskAlone", fn := fun _ => fun
  | [d1, d2, d3] => { results := [.lit (.bool false)], args := [d1, d2, d3] }
  | _ => none }
def DiskAloneWrongFalsely : Prop := diskAloneRow.holds Try.pinned (OpenSpec.ofChange diskAloneWrong)

/-- 'heliastlaw09.DiskDoes': WHATEVER THE INPUT: true; the input reads as it did. -/
def diskDoesSpec : ChangeSpec := { name := "diskDoes", fn := fun _ => fun
  | [d1, d2, d3] => { results := [.lit (.bool true)], args := [d1, d2, d3] }
  | _ => none }
def diskDoesRow : OpenClaim := { program := "ythfgjmbbpgodcaa", sum := "e330b8d42f0a21c4e40bf38cde99a80fba0530cf50a2fca54e8452b24a6d067e", func := "heliast/heliastlaw09.DiskDoes", spec := "diskDoes", unfollowed := true, recurses := true, apart := false }
def DiskDoesSaid : Prop := diskDoesRow.holds Try.pinned (OpenSpec.ofChange diskDoesSpec)

/-- ITS FALSE NEIGHBOUR: 'it returns false'. Refute it at one input. -/
def diskDoesWrong : ChangeSpec := { name := "diskDoes", fn := fun _ => fun
  | [d1, d2, d3] => { results := [.lit (.bool false)], args := [d1, d2, d3] }
  | _ => none }
def DiskDoesWrongFalsely : Prop := diskDoesRow.holds Try.pinned (OpenSpec.ofChange diskDoesWrong)

/-- 'heliastlaw09.DiskNil': WHATEVER THE INPUT: true; the input reads as it did. -/
def diskNilSpec : ChangeSpec := { name := "diskNil", fn := fun _ => fun
  | [d1, d2, d3] => { results := [.lit (.bool true)], args := [d1, d2, d3] }
  | _ => none }
def diskNilRow : OpenClaim := { program := "ythfgjmbbpgodcaa", sum := "e330b8d42f0a21c4e40bf38cde99a80fba0530cf50a2fca54e8452b24a6d067e", func := "heliast/heliastlaw09.DiskNil", spec := "diskNil", unfollowed := true, recurses := true, apart := false }
def DiskNilSaid : Prop := diskNilRow.holds Try.pinned (OpenSpec.ofChange diskNilSpec)

/-- ITS FALSE NEIGHBOUR: 'it returns false'. Refute it at one input. -/
def diskNilWrong : ChangeSpec := { name := "diskNil", fn := fun _ => fun
  | [d1, d2, d3] => { results := [.lit (.bool false)], args := [d1, d2, d3] }
  | _ => none }
def DiskNilWrongFalsely : Prop := diskNilRow.holds Try.pinned (OpenSpec.ofChange diskNilWrong)

/- THE SECOND FORM. 'bulk': how many values and letters a reading holds, each counted each time it is reached (what is shared counts as often as it is met; a slice's spare places count too). A statement '..UptoSaid' is the law's where the arguments, and the package variables that the reading takes, are together of bulk at most 1048576: NARROWER than '..Said'. Prove '..Said' where nothing that the law and all that it calls make is longer than what came in: it says more and counts as full. Else prove '..UptoSaid'. A law counts once. -/
mutual
def uptoBulk {H : Type} : DataW H → Nat
  | .lit (.string bytes) => bytes.length + 1
  | .lit _ => 1
  | .nil => 1
  | .ptr d => uptoBulk d + 1
  | .slice elems spare => uptoBulkAll elems + uptoBulkAll spare + 1
  | .agg parts => uptoBulkAll parts + 1
  | .iface _ d => uptoBulk d + 1
  | .map entries => uptoBulkEntries entries + 1
  | .held _ => 1
def uptoBulkAll {H : Type} : List (DataW H) → Nat
  | [] => 0
  | d :: r => uptoBulk d + uptoBulkAll r
def uptoBulkEntries {H : Type} : List (Lit × DataW H) → Nat
  | [] => 0
  | x :: r => uptoBulkEntry x + uptoBulkEntries r
def uptoBulkEntry {H : Type} : Lit × DataW H → Nat
  | (.string bytes, d) => bytes.length + uptoBulk d + 1
  | (_, d) => uptoBulk d + 1
 end
def uptoSmall : (H : Type) → List (DataW H) → Bool := fun _ ds => decide (uptoBulkAll ds ≤ 1048576)
def OpenSpec.upto (s : _root_.Go.ChangeSpec) : _root_.Go.OpenSpec := { _root_.Go.OpenSpec.ofChange s with cond := some uptoSmall }

/-- 'heliastlaw09.DiskRoom', WHERE WHAT IT READS IS OF BULK AT MOST 1048576: true; the input reads as it did. -/
def diskRoomUptoRow : OpenClaim := { program := "ythfgjmbbpgodcaa", sum := "e330b8d42f0a21c4e40bf38cde99a80fba0530cf50a2fca54e8452b24a6d067e", func := "heliast/heliastlaw09.DiskRoom", spec := "diskRoom", unfollowed := true, recurses := true, apart := false, narrowed := true }
def DiskRoomUptoSaid : Prop := diskRoomUptoRow.holds Try.pinned (OpenSpec.upto diskRoomSpec)

/-- 'heliastlaw09.DiskNames', WHERE WHAT IT READS IS OF BULK AT MOST 1048576: true; the input reads as it did. -/
def diskNamesUptoRow : OpenClaim := { program := "ythfgjmbbpgodcaa", sum := "e330b8d42f0a21c4e40bf38cde99a80fba0530cf50a2fca54e8452b24a6d067e", func := "heliast/heliastlaw09.DiskNames", spec := "diskNames", unfollowed := true, recurses := true, apart := false, narrowed := true }
def DiskNamesUptoSaid : Prop := diskNamesUptoRow.holds Try.pinned (OpenSpec.upto diskNamesSpec)

/-- 'heliastlaw09.DiskLasts', WHERE WHAT IT READS IS OF BULK AT MOST 1048576: true; the input reads as it did. -/
def diskLastsUptoRow : OpenClaim := { program := "ythfgjmbbpgodcaa", sum := "e330b8d42f0a21c4e40bf38cde99a80fba0530cf50a2fca54e8452b24a6d067e", func := "heliast/heliastlaw09.DiskLasts", spec := "diskLasts", unfollowed := true, recurses := true, apart := false, narrowed := true }
def DiskLastsUptoSaid : Prop := diskLastsUptoRow.holds Try.pinned (OpenSpec.upto diskLastsSpec)

/-- 'heliastlaw09.DiskCut', WHERE WHAT IT READS IS OF BULK AT MOST 1048576: true; the input reads as it did. -/
def diskCutUptoRow : OpenClaim := { program := "ythfgjmbbpgodcaa", sum := "e330b8d42f0a21c4e40bf38cde99a80fba0530cf50a2fca54e8452b24a6d067e", func := "heliast/heliastlaw09.DiskCut", spec := "diskCut", unfollowed := true, recurses := true, apart := false, narrowed := true }
def DiskCutUptoSaid : Prop := diskCutUptoRow.holds Try.pinned (OpenSpec.upto diskCutSpec)

/-- 'heliastlaw09.DiskSteps', WHERE WHAT IT READS IS OF BULK AT MOST 1048576: true; the input reads as it did. -/
def diskStepsUptoRow : OpenClaim := { program := "ythfgjmbbpgodcaa", sum := "e330b8d42f0a21c4e40bf38cde99a80fba0530cf50a2fca54e8452b24a6d067e", func := "heliast/heliastlaw09.DiskSteps", spec := "diskSteps", unfollowed := true, recurses := true, apart := false, narrowed := true }
def DiskStepsUptoSaid : Prop := diskStepsUptoRow.holds Try.pinned (OpenSpec.upto diskStepsSpec)

/-- 'heliastlaw09.DiskOff', WHERE WHAT IT READS IS OF BULK AT MOST 1048576: true; the input reads as it did. -/
def diskOffUptoRow : OpenClaim := { program := "ythfgjmbbpgodcaa", sum := "e330b8d42f0a21c4e40bf38cde99a80fba0530cf50a2fca54e8452b24a6d067e", func := "heliast/heliastlaw09.DiskOff", spec := "diskOff", unfollowed := true, recurses := true, apart := false, narrowed := true }
def DiskOffUptoSaid : Prop := diskOffUptoRow.holds Try.pinned (OpenSpec.upto diskOffSpec)

/-- 'heliastlaw09.DiskAlone', WHERE WHAT IT READS IS OF BULK AT MOST 1048576: true; the input reads as it did. -/
def diskAloneUptoRow : OpenClaim := { program := "ythfgjmbbpgodcaa", sum := "e330b8d42f0a21c4e40bf38cde99a80fba0530cf50a2fca54e8452b24a6d067e", func := "heliast/heliastlaw09.DiskAlone", spec := "diskAlone", unfollowed := true, recurses := true, apart := false, narrowed := true }
def DiskAloneUptoSaid : Prop := diskAloneUptoRow.holds Try.pinned (OpenSpec.upto diskAloneSpec)

/-- 'heliastlaw09.DiskDoes', WHERE WHAT IT READS IS OF BULK AT MOST 1048576: true; the input reads as it did. -/
def diskDoesUptoRow : OpenClaim := { program := "ythfgjmbbpgodcaa", sum := "e330b8d42f0a21c4e40bf38cde99a80fba0530cf50a2fca54e8452b24a6d067e", func := "heliast/heliastlaw09.DiskDoes", spec := "diskDoes", unfollowed := true, recurses := true, apart := false, narrowed := true }
def DiskDoesUptoSaid : Prop := diskDoesUptoRow.holds Try.pinned (OpenSpec.upto diskDoesSpec)

/-- 'heliastlaw09.DiskNil', WHERE WHAT IT READS IS OF BULK AT MOST 1048576: true; the input reads as it did. -/
def diskNilUptoRow : OpenClaim := { program := "ythfgjmbbpgodcaa", sum := "e330b8d42f0a21c4e40bf38cde99a80fba0530cf50a2fca54e8452b24a6d067e", func := "heliast/heliastlaw09.DiskNil", spec := "diskNil", unfollowed := true, recurses := true, apart := false, narrowed := true }
def DiskNilUptoSaid : Prop := diskNilUptoRow.holds Try.pinned (OpenSpec.upto diskNilSpec)

end Rows
end Go.Proofs.Ythfgjmbbpgodcaa
