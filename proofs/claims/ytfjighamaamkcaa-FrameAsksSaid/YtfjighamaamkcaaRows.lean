/-
  No cell of these rows narrows 'for every input' (looked for: loops, veiled, ifaces, maps, wideKeys, modest, calm, conditions, laid).
  DERIVED. THE GIVEN ROWS OF THIS SEAT. 7 by the template 'for every input the law returns true; each argument reads behind the call as it read before'; 0 by the template 'total and deterministic' (their statements: YtfjighamaamkcaaTotals.lean).
  GIVEN WITH THE SEED: the statements are not yours to turn. If you find one false, say at which input.
  Laid BY PROGRAM, IN A SANDBOX (cutbox-rows.mjs): the forced cells as the released guide's own fill.sh prints them over the translation 9296115171a9abae… (all of the seat's roots in one cut). By AI agents, Wed Nov 11 2026. No macro, syntax, notation, axiom, sorry.
-/
import Derived.Test.YtfjighamaamkcaaChecked
import GoSem.Claim
import GoSem.ClaimJoined
import GoSem.ClaimMapViews
import Derived.JoinedTies
import Derived.KernelRfl
namespace Go.Proofs.Ytfjighamaamkcaa
/- THE CELL 'sum', in the pinned program and in every row, IS THE sha256 OF THE DUMP (.gsa) THAT YtfjighamaamkcaaProg.lean LOADS. Nothing in Lean hashes anything: it is a label: what it is worth is what the hold of that sum in a sandbox is worth. -/
noncomputable def Try.pinned : Pinned := { name := "ytfjighamaamkcaa", sum := "9296115171a9abae4e5a4bab608583cb939d3d78ee7547f257eb46ddca1254e1", checked := Try.checked }
namespace Rows
def none {H : Type} : Left H := { results := [], args := [] }

/-- 'heliastlaw10.FrameSum': WHATEVER THE INPUT: true; the input reads as it did. -/
def frameSumSpec : ChangeSpec := { name := "frameSum", fn := fun _ => fun
  | [d1, d2, d3] => { results := [.lit (.bool true)], args := [d1, d2, d3] }
  | _ => none }
def frameSumRow : OpenClaim := { program := "ytfjighamaamkcaa", sum := "9296115171a9abae4e5a4bab608583cb939d3d78ee7547f257eb46ddca1254e1", func := "heliast/heliastlaw10.FrameSum", spec := "frameSum", unfollowed := true, recurses := true, apart := false }
def FrameSumSaid : Prop := frameSumRow.holds Try.pinned (OpenSpec.ofChange frameSumSpec)

/-- ITS FALSE NEIGHBOUR: 'it returns false'. Refute it at one input. -/
def frameSumWrong : ChangeSpec := { name := "frameSum", fn := fun _ => fun
  | [d1, d2, d3] => { results := [.lit (.bool false)], args := [d1, d2, d3] }
  | _ => none }
def FrameSumWrongFalsely : Prop := frameSumRow.holds Try.pinned (OpenSpec.ofChange frameSumWrong)

/-- 'heliastlaw10.FrameCut': WHATEVER THE INPUT: true; the input reads as it did. -/
def frameCutSpec : ChangeSpec := { name := "frameCut", fn := fun _ => fun
  | [d1, d2, d3] => { results := [.lit (.bool true)], args := [d1, d2, d3] }
  | _ => none }
def frameCutRow : OpenClaim := { program := "ytfjighamaamkcaa", sum := "9296115171a9abae4e5a4bab608583cb939d3d78ee7547f257eb46ddca1254e1", func := "heliast/heliastlaw10.FrameCut", spec := "frameCut", unfollowed := true, recurses := true, apart := false }
def FrameCutSaid : Prop := frameCutRow.holds Try.pinned (OpenSpec.ofChange frameCutSpec)

/-- ITS FALSE NEIGHBOUR: 'it returns false'. Refute it at one input. -/
def frameCutWrong : ChangeSpec := { name := "frameCut", fn := fun _ => fun
  | [d1, d2, d3] => { results := [.lit (.bool false)], args := [d1, d2, d3] }
  | _ => none }
def FrameCutWrongFalsely : Prop := frameCutRow.holds Try.pinned (OpenSpec.ofChange frameCutWrong)

/-- 'heliastlaw10.FrameLong': WHATEVER THE INPUT: true; the input reads as it did. -/
def frameLongSpec : ChangeSpec := { name := "frameLong", fn := fun _ => fun
  | [d] => { results := [.lit (.bool true)], args := [d] }
  | _ => none }
def frameLongRow : OpenClaim := { program := "ytfjighamaamkcaa", sum := "9296115171a9abae4e5a4bab608583cb939d3d78ee7547f257eb46ddca1254e1", func := "heliast/heliastlaw10.FrameLong", spec := "frameLong", unfollowed := true, recurses := true, apart := false }
def FrameLongSaid : Prop := frameLongRow.holds Try.pinned (OpenSpec.ofChange frameLongSpec)

/-- ITS FALSE NEIGHBOUR: 'it returns false'. Refute it at one input. -/
def frameLongWrong : ChangeSpec := { name := "frameLong", fn := fun _ => fun
  | [d] => { results := [.lit (.bool false)], args := [d] }
  | _ => none }
def FrameLongWrongFalsely : Prop := frameLongRow.holds Try.pinned (OpenSpec.ofChange frameLongWrong)

/-- 'heliastlaw10.FrameHead': WHATEVER THE INPUT: true; the input reads as it did. -/
def frameHeadSpec : ChangeSpec := { name := "frameHead", fn := fun _ => fun
  | [d1, d2] => { results := [.lit (.bool true)], args := [d1, d2] }
  | _ => none }
def frameHeadRow : OpenClaim := { program := "ytfjighamaamkcaa", sum := "9296115171a9abae4e5a4bab608583cb939d3d78ee7547f257eb46ddca1254e1", func := "heliast/heliastlaw10.FrameHead", spec := "frameHead", unfollowed := true, recurses := true, apart := false }
def FrameHeadSaid : Prop := frameHeadRow.holds Try.pinned (OpenSpec.ofChange frameHeadSpec)

/-- ITS FALSE NEIGHBOUR: 'it returns false'. Refute it at one input. -/
def frameHeadWrong : ChangeSpec := { name := "frameHead", fn := fun _ => fun
  | [d1, d2] => { results := [.lit (.bool false)], args := [d1, d2] }
  | _ => none }
def FrameHeadWrongFalsely : Prop := frameHeadRow.holds Try.pinned (OpenSpec.ofChange frameHeadWrong)

/-- 'heliastlaw10.FrameAsks': WHATEVER THE INPUT: true; the input reads as it did. -/
def frameAsksSpec : ChangeSpec := { name := "frameAsks", fn := fun _ => fun
  | [d1, d2, d3, d4, d5] => { results := [.lit (.bool true)], args := [d1, d2, d3, d4, d5] }
  | _ => none }
def frameAsksRow : OpenClaim := { program := "ytfjighamaamkcaa", sum := "9296115171a9abae4e5a4bab608583cb939d3d78ee7547f257eb46ddca1254e1", func := "heliast/heliastlaw10.FrameAsks", spec := "frameAsks", unfollowed := true, recurses := true, apart := false }
def FrameAsksSaid : Prop := frameAsksRow.holds Try.pinned (OpenSpec.ofChange frameAsksSpec)

/-- ITS FALSE NEIGHBOUR: 'it returns false'. Refute it at one input. -/
def frameAsksWrong : ChangeSpec := { name := "frameAsks", fn := fun _ => fun
  | [d1, d2, d3, d4, d5] => { results := [.lit (.bool false)], args := [d1, d2, d3, d4, d5] }
  | _ => none }
def FrameAsksWrongFalsely : Prop := frameAsksRow.holds Try.pinned (OpenSpec.ofChange frameAsksWrong)

/-- 'heliastlaw10.FrameBack': WHATEVER THE INPUT: true; the input reads as it did. -/
def frameBackSpec : ChangeSpec := { name := "frameBack", fn := fun _ => fun
  | [d1, d2] => { results := [.lit (.bool true)], args := [d1, d2] }
  | _ => none }
def frameBackRow : OpenClaim := { program := "ytfjighamaamkcaa", sum := "9296115171a9abae4e5a4bab608583cb939d3d78ee7547f257eb46ddca1254e1", func := "heliast/heliastlaw10.FrameBack", spec := "frameBack", unfollowed := true, recurses := true, apart := false }
def FrameBackSaid : Prop := frameBackRow.holds Try.pinned (OpenSpec.ofChange frameBackSpec)

/-- ITS FALSE NEIGHBOUR: 'it returns false'. Refute it at one input. -/
def frameBackWrong : ChangeSpec := { name := "frameBack", fn := fun _ => fun
  | [d1, d2] => { results := [.lit (.bool false)], args := [d1, d2] }
  | _ => none }
def FrameBackWrongFalsely : Prop := frameBackRow.holds Try.pinned (OpenSpec.ofChange frameBackWrong)

/-- 'heliastlaw10.FrameFront': WHATEVER THE INPUT: true; the input reads as it did. -/
def frameFrontSpec : ChangeSpec := { name := "frameFront", fn := fun _ => fun
  | [d1, d2] => { results := [.lit (.bool true)], args := [d1, d2] }
  | _ => none }
def frameFrontRow : OpenClaim := { program := "ytfjighamaamkcaa", sum := "9296115171a9abae4e5a4bab608583cb939d3d78ee7547f257eb46ddca1254e1", func := "heliast/heliastlaw10.FrameFront", spec := "frameFront", unfollowed := true, recurses := true, apart := false }
def FrameFrontSaid : Prop := frameFrontRow.holds Try.pinned (OpenSpec.ofChange frameFrontSpec)

/-- ITS FALSE NEIGHBOUR: 'it returns false'. Refute it at one input. -/
def frameFrontWrong : ChangeSpec := { name := "frameFront", fn := fun _ => fun
  | [d1, d2] => { results := [.lit (.bool false)], args := [d1, d2] }
  | _ => none }
def FrameFrontWrongFalsely : Prop := frameFrontRow.holds Try.pinned (OpenSpec.ofChange frameFrontWrong)

/- THE SECOND FORM. 'bulk': how many values and letters a reading holds, each counted each time it is reached (what is shared counts as often as it is met; a slice's spare places count too). A statement '..UptoSaid' is the law's where the arguments, and the package variables that the reading takes, are together of bulk at most 1048576: NARROWER than '..Said'. Prove '..Said' where nothing that the law and all that it calls make is longer than what came in: it says more and counts as full. Else prove '..UptoSaid'. A law counts once. -/
mutual
def uptoBulk {H : Type} : DataW H → Nat
  | .lit (.string bytes) => bytes.length + 1
  | .lit _ => 1
  | .nil => 1
  | .ptr d => uptoBulk d + 1
  | .slice elems spare => uptoBulkAll elems + uptoBulkAll spare + 1
  | .agg parts => uptoBulkAll parts + 1
  | .iface _ d => uptoBulk d + 1
  | .map entries => uptoBulkEntries entries + 1
  | .held _ => 1
def uptoBulkAll {H : Type} : List (DataW H) → Nat
  | [] => 0
  | d :: r => uptoBulk d + uptoBulkAll r
def uptoBulkEntries {H : Type} : List (Lit × DataW H) → Nat
  | [] => 0
  | x :: r => uptoBulkEntry x + uptoBulkEntries r
def uptoBulkEntry {H : Type} : Lit × DataW H → Nat
  | (.string bytes, d) => bytes.length + uptoBulk d + 1
  | (_, d) => uptoBulk d + 1
 end
def uptoSmall : (H : Type) → List (DataW H) → Bool := fun _ ds => decide (uptoBulkAll ds ≤ 1048576)
def OpenSpec.upto (s : _root_.Go.ChangeSpec) : _root_.Go.OpenSpec := { _root_.Go.OpenSpec.ofChange s with cond := some uptoSmall }

/-- 'heliastlaw10.FrameSum', WHERE WHAT IT READS IS OF BULK AT MOST 1048576: true; the input reads as it did. -/
def frameSumUptoRow : OpenClaim := { program := "ytfjighamaamkcaa", sum := "9296115171a9abae4e5a4bab608583cb939d3d78ee7547f257eb46ddca1254e1", func := "heliast/heliastlaw10.FrameSum", spec := "frameSum", unfollowed := true, recurses := true, apart := false, narrowed := true }
def FrameSumUptoSaid : Prop := frameSumUptoRow.holds Try.pinned (OpenSpec.upto frameSumSpec)

/-- 'heliastlaw10.FrameCut', WHERE WHAT IT READS IS OF BULK AT MOST 1048576: true; the input reads as it did. -/
def frameCutUptoRow : OpenClaim := { program := "ytfjighamaamkcaa", sum := "9296115171a9abae4e5a4bab608583cb939d3d78ee7547f257eb46ddca1254e1", func := "heliast/heliastlaw10.FrameCut", spec := "frameCut", unfollowed := true, recurses := true, apart := false, narrowed := true }
def FrameCutUptoSaid : Prop := frameCutUptoRow.holds Try.pinned (OpenSpec.upto frameCutSpec)

/-- 'heliastlaw10.FrameLong', WHERE WHAT IT READS IS OF BULK AT MOST 1048576: true; the input reads as it did. -/
def frameLongUptoRow : OpenClaim := { program := "ytfjighamaamkcaa", sum := "9296115171a9abae4e5a4bab608583cb939d3d78ee7547f257eb46ddca1254e1", func := "heliast/heliastlaw10.FrameLong", spec := "frameLong", unfollowed := true, recurses := true, apart := false, narrowed := true }
def FrameLongUptoSaid : Prop := frameLongUptoRow.holds Try.pinned (OpenSpec.upto frameLongSpec)

/-- 'heliastlaw10.FrameHead', WHERE WHAT IT READS IS OF BULK AT MOST 1048576: true; the input reads as it did. -/
def frameHeadUptoRow : OpenClaim := { program := "ytfjighamaamkcaa", sum := "9296115171a9abae4e5a4bab608583cb939d3d78ee7547f257eb46ddca1254e1", func := "heliast/heliastlaw10.FrameHead", spec := "frameHead", unfollowed := true, recurses := true, apart := false, narrowed := true }
def FrameHeadUptoSaid : Prop := frameHeadUptoRow.holds Try.pinned (OpenSpec.upto frameHeadSpec)

/-- 'heliastlaw10.FrameAsks', WHERE WHAT IT READS IS OF BULK AT MOST 1048576: true; the input reads as it did. -/
def frameAsksUptoRow : OpenClaim := { program := "ytfjighamaamkcaa", sum := "9296115171a9abae4e5a4bab608583cb939d3d78ee7547f257eb46ddca1254e1", func := "heliast/heliastlaw10.FrameAsks", spec := "frameAsks", unfollowed := true, recurses := true, apart := false, narrowed := true }
def FrameAsksUptoSaid : Prop := frameAsksUptoRow.holds Try.pinned (OpenSpec.upto frameAsksSpec)

/-- 'heliastlaw10.FrameBack', WHERE WHAT IT READS IS OF BULK AT MOST 1048576: true; the input reads as it did. -/
def frameBackUptoRow : OpenClaim := { program := "ytfjighamaamkcaa", sum := "9296115171a9abae4e5a4bab608583cb939d3d78ee7547f257eb46ddca1254e1", func := "heliast/heliastlaw10.FrameBack", spec := "frameBack", unfollowed := true, recurses := true, apart := false, narrowed := true }
def FrameBackUptoSaid : Prop := frameBackUptoRow.holds Try.pinned (OpenSpec.upto frameBackSpec)

/-- 'heliastlaw10.FrameFront', WHERE WHAT IT READS IS OF BULK AT MOST 1048576: true; the input reads as it did. -/
def frameFrontUptoRow : OpenClaim := { program := "ytfjighamaamkcaa", sum := "9296115171a9abae4e5a4bab608583cb939d3d78ee7547f257eb46ddca1254e1", func := "heliast/heliastlaw10.FrameFront", spec := "frameFront", unfollowed := true, recurses := true, apart := false, narrowed := true }
def FrameFrontUptoSaid : Prop := frameFrontUptoRow.holds Try.pinned (OpenSpec.upto frameFrontSpec)

end Rows
end Go.Proofs.Ytfjighamaamkcaa
