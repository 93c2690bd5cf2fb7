/-
  The function Tail of the package digest, as the print tells it, tells the plain tail.
-/
import Derived.Test.YtdbdikgjelhfbaaPtx1
import Derived.Test.YtdbdikgjelhfbaaPieces
namespace Go.Proofs.Ytdbdikgjelhfbaa
set_option linter.unusedVariables false
open Sha Go.RowKit Go.Proofs.YtdbdikgjelhfbaaW.PrintWords Go.Proofs.YtdbdikgjelhfbaaW.PrintLast Go.Proofs.YtdbdikgjelhfbaaW.PrintMore Go.Proofs.Ytdbdikgjelhfbaa.Pt
def vb (n i : Nat) : Int := ((UInt8.ofNat ((n * 8) >>> (8 * i))).toNat : Int)
def vals (n : Nat) : Nat → List Int
  | 0 => []
  | j + 1 => vb n j :: vals n j
theorem vals_length (n : Nat) : ∀ j, (vals n j).length = j
  | 0 => rfl
  | j + 1 => by rw [vals, List.length_cons, vals_length n j]
theorem vals_8 (n : Nat) : vals n 8 = intsB (bytes8 (n * 8)) := rfl
theorem shr_vb (n i : Nat) (hi : i < 8) : (shr .u64 (IntKind.u64.wrap ((n : Int) * 8)) ((8 * i : Nat) : Int)) % 256 = vb n i := by
  unfold shr vb
  rw [IntKind.wrap_u64, UInt8.toNat_ofNat', Nat.shiftRight_eq_div_pow, Int.toNat_natCast, show IntKind.bits .u64 = 64 from rfl, Nat.min_eq_left (by omega)]
  have : i = 0 ∨ i = 1 ∨ i = 2 ∨ i = 3 ∨ i = 4 ∨ i = 5 ∨ i = 6 ∨ i = 7 := by omega
  rcases this with rfl | rfl | rfl | rfl | rfl | rfl | rfl | rfl <;> simp only [Nat.reduceMul, Nat.reducePow, Int.reducePow] <;> omega
theorem wrap64_small {z : Int} (h0 : -9223372036854775808 ≤ z) (h : z ≤ 9223372036854775807) : wrap64 z = z := by unfold wrap64; omega
theorem set_at (A B : List Int) (d : Nat) (v : Int) : (A ++ List.replicate (d + 1) 0 ++ B).set (A.length + d) v = A ++ List.replicate d 0 ++ (v :: B) := by
  rw [List.append_assoc, List.set_append_right _ _ (Nat.le_add_right _ _), Nat.add_sub_cancel_left, List.replicate_succ', List.append_assoc, List.set_append_right _ _ (by simp)]
  simp
theorem tail_l0 (n : Nat) (hn : n < 18446744073709551616) (A : List Int) (hA : A.length ≤ 100) (hA1 : 1 ≤ A.length) : ∀ (d j k : Nat), j + d = 8 → d < k → digest_Tail.l0 k n (A ++ List.replicate d 0 ++ vals n j) j = some (A ++ vals n 8) := by
  intro d
  induction d with
  | zero =>
    intro j k hj hk
    obtain ⟨k, rfl⟩ : ∃ m, k = m + 1 := ⟨k - 1, by omega⟩
    obtain rfl : j = 8 := by omega
    simp only [digest_Tail.l0]
    rw [if_neg (by omega)]
    simp
  | succ d ih =>
    intro j k hj hk
    obtain ⟨k, rfl⟩ : ∃ m, k = m + 1 := ⟨k - 1, by omega⟩
    have hlen : (A ++ List.replicate (d + 1) 0 ++ vals n j).length = A.length + (d + 1) + j := by simp [vals_length]; omega
    have e1 : wrap64 (8 * (j : Int)) = ((8 * j : Nat) : Int) := by rw [wrap64_small (by omega) (by omega)]; omega
    have e2 : wrap64 ((wrap64 (((A ++ List.replicate (d + 1) 0 ++ vals n j).length : Int) - 1)) - j) = ((A.length + d : Nat) : Int) := by
      rw [hlen, wrap64_small (z := ((A.length + (d + 1) + j : Nat) : Int) - 1) (by omega) (by omega), wrap64_small (by omega) (by omega)]; omega
    have e3 : wrap64 ((j : Int) + 1) = ((j + 1 : Nat) : Int) := by rw [wrap64_small (by omega) (by omega)]; omega
    simp only [digest_Tail.l0]
    rw [e1, e2, e3, if_pos (by omega), if_pos (by omega), if_pos (by omega), if_pos (by rw [hlen]; omega), shr_vb n j (by omega), Int.toNat_natCast, set_at]
    exact ih (j + 1) k (by omega) (by omega)
theorem tail_f (n : Nat) (hn : n < 18446744073709551616) (k : Nat) (hk : 9 ≤ k) : digest_Tail.f k n = some (intsB (tail n)) := by
  have e0 : wrap64 (Int.tmod (n : Int) 64) = ((n % 64 : Nat) : Int) := by rw [Int.tmod_eq_emod_of_nonneg (by omega), wrap64_small (by omega) (by omega)]; omega
  have e1 : wrap64 (119 - ((n % 64 : Nat) : Int)) = ((119 - n % 64 : Nat) : Int) := by rw [wrap64_small (by omega) (by omega)]; omega
  have e2 : wrap64 (1 + Int.tmod ((119 - n % 64 : Nat) : Int) 64) = ((1 + room n : Nat) : Int) := by
    rw [Int.tmod_eq_emod_of_nonneg (by omega)]
    unfold room
    rw [wrap64_small (by omega) (by omega)]; omega
  have e3 : wrap64 (((1 + room n : Nat) : Int) + 8) = ((room n + 9 : Nat) : Int) := by
    have : room n < 64 := Nat.mod_lt _ (by decide)
    rw [wrap64_small (by omega) (by omega)]; omega
  have hr : room n < 64 := Nat.mod_lt _ (by decide)
  unfold digest_Tail.f
  rw [e0, e1, e2, e3, if_pos (by omega), Int.toNat_natCast, if_pos (by omega), Option.bind_some, if_pos (by simp; omega)]
  have hs : (List.replicate (room n + 9) (0 : Int)).set (0 : Int).toNat 128 = (128 :: List.replicate (room n) 0) ++ List.replicate 8 0 ++ vals n 0 := by
    rw [show room n + 9 = room n + 8 + 1 by omega, List.replicate_succ, ← List.replicate_append_replicate]; simp [vals]
  rw [hs]
  have h := tail_l0 n hn (128 :: List.replicate (room n) 0) (by simp; omega) (by simp) 8 0 k (by omega) (by omega)
  rw [show ((0 : Nat) : Int) = 0 from rfl] at h
  rw [h, vals_8]
  simp [tail, intsB, List.map_replicate]
theorem tail_any (n : Nat) (hn : n < 18446744073709551616) (w : World) : Calls Try.prog 15 #[.int .u64 n] w fun e w' => ∃ v, e = .returned v ∧ OwnB w' w.heap.size v (tail n) ∧ Below w.heap.size w w' :=
  digest_Tail.calls 9 n (intsB (tail n)) w (tail_f n hn 9 (Nat.le_refl _))
def Ext.digest_Tail.f (a0 : Int) : Option (List Int) := if 0 ≤ a0 ∧ a0 < 18446744073709551616 then some (intsB (tail a0.toNat)) else none
theorem Ext.digest_Tail.f_eq (n : Nat) (h : n < 18446744073709551616) : Ext.digest_Tail.f n = some (intsB (tail n)) := by
  unfold Ext.digest_Tail.f
  rw [if_pos ⟨by omega, by omega⟩, Int.toNat_natCast]
theorem Ext.digest_Tail.calls (a0 : Int) (r : List Int) (w : World) (h : Ext.digest_Tail.f a0 = some r) :
    Calls Try.prog 15 #[.int .u64 a0] w fun e w' => ∃ v0_ : Value, e = .returned (v0_) ∧ Kd.R (Kd.int .u8) 5 w' w.heap.size (fun _ => True) v0_ r ∧ Below w.heap.size w w' := by
  unfold Ext.digest_Tail.f at h
  split at h
  · rename_i hok
    cases h
    obtain ⟨n, rfl⟩ := Int.eq_ofNat_of_zero_le hok.1
    rw [Int.toNat_natCast]
    exact tail_any n (by omega) w
  · cases h
end Go.Proofs.Ytdbdikgjelhfbaa
