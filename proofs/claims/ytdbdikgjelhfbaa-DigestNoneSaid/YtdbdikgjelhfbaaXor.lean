/-
  The greatest numbers of two kinds without a sign, for the walk of a complement.
-/
import Derived.WalkKit
namespace Go.Proofs.Ytdbdikgjelhfbaa
open Go.RowKit
theorem u32_sg : IntKind.u32.signed = false := rfl
theorem u32_mx : IntKind.u32.max = 4294967295 := rfl
theorem u64_sg : IntKind.u64.signed = false := rfl
theorem u64_mx : IntKind.u64.max = 18446744073709551615 := rfl
end Go.Proofs.Ytdbdikgjelhfbaa
