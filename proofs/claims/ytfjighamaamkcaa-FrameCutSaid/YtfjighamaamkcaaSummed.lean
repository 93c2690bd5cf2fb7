/-
  The function Sum, called on any text, returns the plain sum of its bytes.
-/
import Derived.Test.YtfjighamaamkcaaTable
namespace Go.Proofs.Ytfjighamaamkcaa
open Go.RowKit

set_option maxRecDepth 100000 in
theorem closure_any (S : BitVec 32) (c : UInt8) (b : Nat) (w : World) (hT : TabTo w b 256) :
    Calls Try.prog 27 #[.int .u32 S.toNat, .int .u8 c.toNat, .pointer (some ⟨b, 0, none⟩)] w fun e w' => e = .returned (.int .u32 (Crc.step S c.toBitVec).toNat) ∧ w = w' := by
  obtain ⟨X, hX⟩ : ∃ X, S.setWidth 8 ^^^ c.toBitVec = X := ⟨_, rfl⟩
  have e1 : bits .xor .u8 (S.toNat % 256 : Int) c.toNat = (X.toNat : Int) := by
    rw [Crc.low_byte, ← hX, ← Crc.bits_xor8]; rfl
  have hx : X.toNat < 256 := X.isLt
  have hc : w.cell? ⟨b, X.toNat, none⟩ = some (.int .u32 (Crc.tab X.toNat).toNat) := by
    have := hT.1 X.toNat hx
    rw [if_pos hx] at this
    exact this
  have HT := Lib.hid hT
  have HX := Lib.hid hX
  have hS := S.isLt
  clear hX hT
  go_enter Try.func27, Try.ntmps27
  go_wp2
  go_ret
  refine ⟨?_, rfl⟩
  rw [Crc.byte_down, Crc.bits_xor32, Crc.step_table, HX.out]
  congr 6
  simp [Crc.tab]

theorem take_snoc (s : ByteArray) (k : Nat) (h : k < s.size) : s.data.toList.take (k + 1) = s.data.toList.take k ++ [s[k]] := by
  rw [List.take_succ_eq_append_getElem (by simpa using h)]; rfl
set_option maxRecDepth 100000 in
theorem sum_any (s : ByteArray) (w : World) (hs : s.size ≤ 9223372036854775807) :
    Calls Try.prog 11 #[.string s] w fun e w' => e = .returned (.int .u32 (Crc.sum s.data.toList).toNat) ∧ Below w.heap.size w w' := by
  go_enter Try.func11, Try.ntmps11
  go_wp2_with fail
  refine (table_any w).mono ?_
  rintro e w1 ⟨rfl, hB, hT⟩
  have HB := Lib.hid hB; have HT := Lib.hid hT; clear hB hT
  go_wp2_with fail
  go_loop [4, 9] (fun v i => ∃ k : Nat, k ≤ s.size ∧ i = .int .i64 k ∧ v = .int .u32 (Crc.run (~~~ 0#32) (s.data.toList.take k)).toNat) (fun _ i => s.size - (intOf i).toNat)
  case atStart => exact ⟨0, by omega, rfl, rfl⟩
  case round =>
    obtain ⟨k, hk, rfl, rfl⟩ := hrel
    obtain ⟨S, hS⟩ : ∃ S, Crc.run (~~~ 0#32) (s.data.toList.take k) = S := ⟨_, rfl⟩
    have HS := Lib.hid hS
    rw [hS]; clear hS
    by_cases hlt : k < s.size
    · go_wp2_with fail
      refine (closure_any S _ _ _ HT.out).mono ?_
      rintro e w2 ⟨rfl, rfl⟩
      go_wp2_with fail
      go_round
      case rel => 
        refine ⟨k + 1, by omega, by go_num, ?_⟩
        rw [take_snoc s k hlt, Crc.run_append, HS.out]; rfl
      case measure => simp [intOf]; omega
    · go_wp2_with fail
      go_ret
      have hn := Crc.bits_not S
      refine ⟨?_, HB.out⟩
      show Ending.returned (Value.int IntKind.u32 (bits BinOp.xor IntKind.u32 IntKind.u32.max ↑S.toNat)) = _
      rw [hn, ← HS.out, List.take_of_length_le (by simp; omega)]; rfl
