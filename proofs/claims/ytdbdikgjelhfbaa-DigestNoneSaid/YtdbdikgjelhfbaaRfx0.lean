/-
  What the functions of these laws compute, as plain Lean functions, and that the machine's calls compute it: written by this session's own hook over the kit's print.
-/
import Derived.Test.YtdbdikgjelhfbaaProg
import Derived.Below
import Derived.Deep.Draws
import Derived.Deep.AppendLies
import Derived.Maps.AppendAt
import Derived.OwnWalk
import Derived.Laws.BytesArg
import Derived.Laws.MakeOwn
import Derived.Laws.OwnMore
import Derived.Deep.OwnRows
import Derived.Tactics
import Derived.Lib.ConvBytes
import Derived.Laws.Slices
import Derived.WalkKit
import Derived.KernelRfl
import Derived.RowKit3
import Derived.Deep.LoopGhost
import Derived.Deep.QuietTactic
import Derived.BigQuiet
import Derived.WideLaws
import Derived.Deep.DeepCutAuto
import Derived.Deep.CutBlock
import Derived.Deep.RegionHeld3
import Derived.Laws.Rows
import Derived.Lib.AppendStr
import Derived.ArgAppend
import Derived.Laws.IdiomCopy
import Derived.OrdersHeld
import Derived.Laws.BitsLemmas
import Derived.RowKit
import Derived.Test.YtdbdikgjelhfbaaXor
import Derived.Test.YtdbdikgjelhfbaaWWords
import Derived.Test.YtdbdikgjelhfbaaWLast
import Derived.Test.YtdbdikgjelhfbaaWTab
import Derived.Test.YtdbdikgjelhfbaaWFour
import Derived.Test.YtdbdikgjelhfbaaWQPut
import Derived.Test.YtdbdikgjelhfbaaWApart
import Derived.Test.YtdbdikgjelhfbaaWArr
import Derived.Test.YtdbdikgjelhfbaaWZeros
import Derived.Test.YtdbdikgjelhfbaaWFoot
import Derived.Test.YtdbdikgjelhfbaaWKept
import Derived.Test.YtdbdikgjelhfbaaWShare
import Derived.Test.YtdbdikgjelhfbaaWN
import Derived.Test.YtdbdikgjelhfbaaWFootNe
import Derived.Test.YtdbdikgjelhfbaaWAt
import Derived.Test.YtdbdikgjelhfbaaWEqStruct
import Derived.Test.YtdbdikgjelhfbaaWRepsOne
import Derived.Test.YtdbdikgjelhfbaaWInv
import Derived.Test.YtdbdikgjelhfbaaWInvWords
import Derived.Test.YtdbdikgjelhfbaaWGuard
import Derived.Test.YtdbdikgjelhfbaaWNEv
import Derived.Test.YtdbdikgjelhfbaaWMore
namespace Go.Proofs.Ytdbdikgjelhfbaa.Rf
open Go.RowKit Go.Proofs.YtdbdikgjelhfbaaW.PrintWords Go.Proofs.YtdbdikgjelhfbaaW.PrintLast Go.Proofs.YtdbdikgjelhfbaaW.PrintMore
attribute [local go_sem] u32_sg u32_mx u64_sg u64_mx
attribute [local go_sem] max2_int min2_int max_two min_two max_three min_three max_four min_four   -- for this text's walks alone
set_option linter.unusedVariables false
set_option linter.unusedSimpArgs false



def errW : Option Int → Value
  | none => .nilIface
  | some c => .iface 0 (.int .i64 c)
theorem errW_none : errW none = .nilIface := rfl
theorem errW_some (c : Int) : errW (some c) = .iface 0 (.int .i64 c) := rfl

theorem info5 : (Try.prog.info? 5).map (fun i => (i.zero, i.size, i.bytes)) = some (some (.int .u8 0), 1, 1) := by kernel_rfl
theorem info32 : (Try.prog.info? 32).map (fun i => (i.zero, i.size, i.bytes)) = some (some (.int .u32 0), 1, 4) := by kernel_rfl
-- the values' own types

end Go.Proofs.Ytdbdikgjelhfbaa.Rf
