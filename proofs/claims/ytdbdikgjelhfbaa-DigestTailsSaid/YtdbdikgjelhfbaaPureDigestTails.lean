/-
  The plain law of DigestTails: with its tail a row of bytes has whole blocks, and tells how many it had.
-/
import Derived.Test.YtdbdikgjelhfbaaPrx1
import Derived.Test.YtdbdikgjelhfbaaTail
namespace Go.Proofs.Ytdbdikgjelhfbaa.Pure
open Go.RowKit Go.Proofs.Ytdbdikgjelhfbaa Go.Proofs.Ytdbdikgjelhfbaa.Pr Go.Proofs.YtdbdikgjelhfbaaW.PrintWords Go.Proofs.YtdbdikgjelhfbaaW.PrintLast
set_option linter.unusedVariables false

/-- What the last bytes of a tail tell, up to one. -/
def told (M j : Nat) : Nat := M * 8 % 18446744073709551616 / 2 ^ (64 - 8 * j)
theorem rd_at (l : List Int) (i : Nat) : rd l (i : Int) = l.getD i 0 := by simp [rd]
theorem bytes8_get (m j : Nat) (h : j < 8) : (intsB (Sha.bytes8 m)).getD j 0 = ((m / 2 ^ (8 * (7 - j)) % 256 : Nat) : Int) := by
  have : j = 0 ∨ j = 1 ∨ j = 2 ∨ j = 3 ∨ j = 4 ∨ j = 5 ∨ j = 6 ∨ j = 7 := by omega
  rcases this with rfl | rfl | rfl | rfl | rfl | rfl | rfl | rfl <;> simp [intsB, Sha.bytes8, List.range, List.range.loop, Nat.shiftRight_eq_div_pow]
theorem tail_split (M : Nat) : intsB (Sha.tail M) = 128 :: (List.replicate (Sha.room M) 0 ++ intsB (Sha.bytes8 (M * 8))) := by
  simp [Sha.tail, intsB, List.map_replicate]
theorem tail_len (M : Nat) : (intsB (Sha.tail M)).length = Sha.room M + 9 := by rw [intsB_length, Sha.tail_length]
theorem tail_last (M j : Nat) (h : j < 8) : rd (intsB (Sha.tail M)) ((Sha.room M + 1 + j : Nat) : Int) = ((M * 8 / 2 ^ (8 * (7 - j)) % 256 : Nat) : Int) := by
  rw [rd_at, tail_split, show Sha.room M + 1 + j = Sha.room M + j + 1 by omega, List.getD_cons_succ, List.getD_eq_getElem?_getD, List.getElem?_append_right (by simp)]
  rw [List.length_replicate, Nat.add_sub_cancel_left, ← List.getD_eq_getElem?_getD, bytes8_get _ _ h]
theorem tail_mid (M j : Nat) (h1 : 1 ≤ j) (h : j < Sha.room M + 1) : rd (intsB (Sha.tail M)) (j : Int) = 0 := by
  obtain ⟨j, rfl⟩ : ∃ i, j = i + 1 := ⟨j - 1, by omega⟩
  rw [rd_at, tail_split, List.getD_cons_succ, List.getD_eq_getElem?_getD, List.getElem?_append_left (by simp; omega), List.getElem?_replicate, if_pos (by omega)]
  rfl
theorem or_byte (a b : Nat) (ha : a < 2 ^ 56) (hb : b < 256) : Go.bits .or .u64 (IntKind.u64.wrap ((a : Int) * 256)) (IntKind.u64.wrap (b : Int)) = ((a * 256 + b : Nat) : Int) := by
  have e1 : IntKind.u64.wrap ((a : Int) * 256) = ((a * 256 : Nat) : Int) := by rw [IntKind.wrap_u64]; omega
  have e2 : IntKind.u64.wrap (b : Int) = (b : Int) := by rw [IntKind.wrap_u64]; omega
  rw [e1, e2, u64_or_nat _ _ (by omega) (by omega)]
  have : a * 256 ||| b = a * 256 + b := by
    have := Nat.two_pow_add_eq_or_of_lt (i := 8) (b := b) (by omega) a
    rw [show (2 : Nat) ^ 8 * a = a * 256 by omega] at this
    exact this.symm
  rw [this]
theorem told_lt (M j : Nat) (h : j < 8) : told M j < 2 ^ 56 := by
  unfold told
  have : j = 0 ∨ j = 1 ∨ j = 2 ∨ j = 3 ∨ j = 4 ∨ j = 5 ∨ j = 6 ∨ j = 7 := by omega
  rcases this with rfl | rfl | rfl | rfl | rfl | rfl | rfl | rfl <;> simp only [Nat.reduceMul, Nat.reduceSub, Nat.reducePow] <;> omega
theorem told_succ (M j : Nat) (h : j < 8) : told M j * 256 + M * 8 / 2 ^ (8 * (7 - j)) % 256 = told M (j + 1) := by
  unfold told
  have : j = 0 ∨ j = 1 ∨ j = 2 ∨ j = 3 ∨ j = 4 ∨ j = 5 ∨ j = 6 ∨ j = 7 := by omega
  rcases this with rfl | rfl | rfl | rfl | rfl | rfl | rfl | rfl <;> simp only [Nat.reduceMul, Nat.reduceSub, Nat.reducePow, Nat.reduceAdd] <;> omega
theorem told_8 (M : Nat) : told M 8 = M * 8 % 18446744073709551616 := by simp [told]

theorem law_l1 (M : Nat) (x7 : Int) (hx : x7 = IntKind.u64.wrap ((M : Int) * 8)) : ∀ d j k : Nat, 1 ≤ j → j + d = Sha.room M + 1 → d < k →
    heliastlaw04_DigestTails.l1 k M (intsB (Sha.tail M)) x7 j = some true := by
  have hr : Sha.room M < 64 := Nat.mod_lt _ (by decide)
  have e0 : wrap64 (((intsB (Sha.tail M)).length : Int) - 8) = ((Sha.room M + 1 : Nat) : Int) := by rw [tail_len, wrap64_small (by omega) (by omega)]; omega
  intro d
  induction d with
  | zero =>
    intro j k h1 hj hk
    obtain ⟨k, rfl⟩ : ∃ m, k = m + 1 := ⟨k - 1, by omega⟩
    simp only [heliastlaw04_DigestTails.l1]
    rw [e0, if_neg (by omega), hx]
    unfold Ext.known.f
    simp
  | succ d ih =>
    intro j k h1 hj hk
    obtain ⟨k, rfl⟩ : ∃ m, k = m + 1 := ⟨k - 1, by omega⟩
    simp only [heliastlaw04_DigestTails.l1]
    have e3 : wrap64 ((j : Int) + 1) = ((j + 1 : Nat) : Int) := by rw [wrap64_small (by omega) (by omega)]; omega
    rw [e0, if_pos (by omega), if_pos (by omega), if_pos (by rw [tail_len]; omega), if_pos (tail_mid M j h1 (by omega)), e3]
    exact ih (j + 1) k (by omega) (by omega) (by omega)
theorem law_l0 (M : Nat) (hM : M < 18446744073709551616) : ∀ d j k : Nat, j + d = 8 → d + 100 < k →
    heliastlaw04_DigestTails.l0 k M (intsB (Sha.tail M)) (told M j) ((Sha.room M + 1 + j : Nat) : Int) = some true := by
  have hr : Sha.room M < 64 := Nat.mod_lt _ (by decide)
  intro d
  induction d with
  | zero =>
    intro j k hj hk
    obtain ⟨k, rfl⟩ : ∃ m, k = m + 1 := ⟨k - 1, by omega⟩
    obtain rfl : j = 8 := by omega
    simp only [heliastlaw04_DigestTails.l0]
    rw [if_neg (by rw [tail_len]; omega)]
    exact law_l1 M _ (by rw [told_8, IntKind.wrap_u64]; omega) (Sha.room M) 1 k (by omega) (by omega) (by omega)
  | succ d ih =>
    intro j k hj hk
    obtain ⟨k, rfl⟩ : ∃ m, k = m + 1 := ⟨k - 1, by omega⟩
    simp only [heliastlaw04_DigestTails.l0]
    have e3 : wrap64 (((Sha.room M + 1 + j : Nat) : Int) + 1) = ((Sha.room M + 1 + (j + 1) : Nat) : Int) := by rw [wrap64_small (by omega) (by omega)]; omega
    rw [if_pos (by rw [tail_len]; omega), if_pos (by omega), e3, tail_last M j (by omega), or_byte _ _ (told_lt M j (by omega)) (Nat.mod_lt _ (by decide)), told_succ M j (by omega)]
    exact ih (j + 1) k (by omega) (by omega)

theorem DigestTails : heliastlaw04_DigestTails.Pure := by
  intro a0 a1 h0 h1
  have hb := bounds_u32 h0
  have hg := bounds_u8 h1
  obtain ⟨n, rfl⟩ := Int.eq_ofNat_of_zero_le hb.1
  obtain ⟨g, rfl⟩ := Int.eq_ofNat_of_zero_le hg.1
  obtain ⟨M, hM⟩ : ∃ M, n + g * 72057594037927936 = M := ⟨_, rfl⟩
  have hMl : M < 18446744073709551616 := by omega
  have eM : IntKind.u64.wrap ((IntKind.u64.wrap (n : Int)) + (IntKind.u64.wrap ((IntKind.u64.wrap (g : Int)) * 72057594037927936))) = (M : Int) := by
    simp only [IntKind.wrap_u64]; omega
  have hr : Sha.room M = (119 - M % 64) % 64 := rfl
  refine ⟨200, ?_⟩
  unfold heliastlaw04_DigestTails.f
  rw [eM, Ext.digest_Tail.f_eq M hMl, Option.bind_some]
  have hm : Int.tmod (IntKind.u64.wrap ((M : Int) + IntKind.u64.wrap (((intsB (Sha.tail M)).length : Int)))) 64 = 0 := by
    rw [tail_len, Int.tmod_eq_emod_of_nonneg (by rw [IntKind.wrap_u64]; omega)]
    simp only [IntKind.wrap_u64]
    omega
  rw [if_neg (by rw [tail_len]; omega), if_neg (by rw [tail_len]; omega), if_pos hm, if_pos (by rw [tail_len]; omega)]
  have h128 : (rd (intsB (Sha.tail M)) 0 != 128) = false := by rw [tail_split]; rfl
  rw [h128]
  simp only [heliastlaw04_DigestTails.j0]
  have e0 : wrap64 (((intsB (Sha.tail M)).length : Int) - 8) = ((Sha.room M + 1 + 0 : Nat) : Int) := by rw [tail_len, wrap64_small (by omega) (by omega)]; omega
  rw [e0]
  have h := law_l0 M hMl 8 0 199 (by omega) (by omega)
  have t0 : told M 0 = 0 := by
    unfold told
    exact Nat.div_eq_of_lt (Nat.lt_of_lt_of_le (Nat.mod_lt _ (by decide)) (by decide))
  rw [t0] at h
  simpa using h
end Go.Proofs.Ytdbdikgjelhfbaa.Pure
