/-
  What the functions of these laws compute, as plain Lean functions, and that the machine's calls compute it: written by this session's own hook over the kit's print.
-/
import Derived.Test.YtdbdikgjelhfbaaRfx0
import Derived.Test.YtdbdikgjelhfbaaRfx1
import Derived.Test.YtdbdikgjelhfbaaRfx2
import Derived.Test.YtdbdikgjelhfbaaRfx3
import Derived.Test.YtdbdikgjelhfbaaRfx4
import Derived.Test.YtdbdikgjelhfbaaRfx5
namespace Go.Proofs.Ytdbdikgjelhfbaa.Rf
open Go.RowKit Go.Proofs.YtdbdikgjelhfbaaW.PrintWords Go.Proofs.YtdbdikgjelhfbaaW.PrintLast Go.Proofs.YtdbdikgjelhfbaaW.PrintMore
attribute [local go_sem] u32_sg u32_mx u64_sg u64_mx
attribute [local go_sem] max2_int min2_int max_two min_two max_three min_three max_four min_four   -- for this text's walks alone
set_option linter.unusedVariables false
set_option linter.unusedSimpArgs false

end Go.Proofs.Ytdbdikgjelhfbaa.Rf
