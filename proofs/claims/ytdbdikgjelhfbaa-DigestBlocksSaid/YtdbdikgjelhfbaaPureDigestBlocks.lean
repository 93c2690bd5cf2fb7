/-
  The plain law of DigestBlocks: a tail goes up to the end of the block, or, where less than nine bytes are left in it, of the next one.
-/
import Derived.Test.YtdbdikgjelhfbaaPrx1
import Derived.Test.YtdbdikgjelhfbaaTail
namespace Go.Proofs.Ytdbdikgjelhfbaa.Pure
open Go.RowKit Go.Proofs.Ytdbdikgjelhfbaa Go.Proofs.Ytdbdikgjelhfbaa.Pr Go.Proofs.YtdbdikgjelhfbaaW.PrintWords Go.Proofs.YtdbdikgjelhfbaaW.PrintLast

theorem DigestBlocks : heliastlaw04_DigestBlocks.Pure := by
  intro a0 h0
  have hb := bounds_u32 h0
  obtain ⟨n, rfl⟩ := Int.eq_ofNat_of_zero_le hb.1
  unfold heliastlaw04_DigestBlocks.f
  have e1 : IntKind.u64.wrap (n : Int) = (n : Int) := by rw [IntKind.wrap_u64]; omega
  have e2 : wrap64 (Int.tmod (n : Int) 64) = ((n % 64 : Nat) : Int) := by rw [Int.tmod_eq_emod_of_nonneg (by omega), wrap64_small (by omega) (by omega)]; omega
  rw [e1, Ext.digest_Tail.f_eq n (by omega), Option.bind_some, e2]
  have hr : Sha.room n = (119 - n % 64) % 64 := rfl
  have hl : (intsB (Sha.tail n)).length = Sha.room n + 9 := by rw [intsB_length, Sha.tail_length]
  rw [hl]
  unfold Ext.known.f
  by_cases h : n % 64 > 55
  · rw [if_pos (by omega)]
    simp only [Option.bind_some, if_true]
    rw [wrap64_small (by omega) (by omega), hr]
    simp only [Option.some.injEq, beq_iff_eq]
    omega
  · rw [if_neg (by omega)]
    simp only [Option.bind_some, if_true]
    rw [wrap64_small (by omega) (by omega), hr]
    simp only [Option.some.injEq, beq_iff_eq]
    omega
end Go.Proofs.Ytdbdikgjelhfbaa.Pure
