/-
  The reference's Sum, Frame and number, called on any text, return the same plain values.
-/
import Derived.Test.YtfjighamaamkcaaFramed
import Derived.Deep.RegionHeld3
namespace Go.Proofs.Ytfjighamaamkcaa
open Go.RowKit

theorem mod_two (S : BitVec 32) : (S.toNat : Int) % (2 : Int) = if S.getLsbD 0 then 1 else 0 := by
  have e : (S.toNat : Int) % (2 : Int) = ((S.toNat % 2 : Nat) : Int) := by omega
  rw [e, BitVec.getLsbD, Nat.testBit_zero]
  have := Nat.mod_two_eq_zero_or_one S.toNat
  rcases this with h | h <;> simp [h]

set_option maxRecDepth 100000 in
theorem rstep_any (S : BitVec 32) (c : UInt8) (w : World) :
    Calls Try.prog 22 #[.int .u32 S.toNat, .int .u8 c.toNat] w fun e w' => e = .returned (.int .u32 (Crc.step S c.toBitVec).toNat) ∧ w = w' := by
  obtain ⟨X, hX⟩ : ∃ X, S ^^^ c.toBitVec.setWidth 32 = X := ⟨_, rfl⟩
  have hc := c.toNat_lt
  have e1 : bits .xor .u32 (S.toNat : Int) (c.toNat : Int) = (X.toNat : Int) := by
    have := Crc.bits_xor32 S (c.toBitVec.setWidth 32)
    rw [hX] at this
    rw [← this]
    congr 1
  have HX := Lib.hid hX
  clear hX
  go_enter Try.func22, Try.ntmps22
  go_wp2_with fail
  go_loop [0, 5] (fun s i => ∃ j : Nat, j ≤ 8 ∧ i = .int .i64 j ∧ s = .int .u32 (Crc.ones j X).toNat) (fun _ i => 8 - (intOf i).toNat)
  case atStart => exact ⟨0, by omega, rfl, rfl⟩
  case round =>
    obtain ⟨j, hj, rfl, rfl⟩ := hrel
    obtain ⟨T, hT⟩ : ∃ T, Crc.ones j X = T := ⟨_, rfl⟩
    have hTr : 0 ≤ (T.toNat : Int) ∧ (T.toNat : Int) ≤ 4294967295 := by have := T.isLt; omega
    have HT := Lib.hid hT
    rw [hT]; clear hT
    by_cases hlj : j < 8
    · have h1 := mod_two T
      have h2 := Crc.half T
      cases hb : T.getLsbD 0 with
      | true =>
        rw [hb] at h1
        have h3 := Crc.bits_xor32 (T >>> 1) 0x82f63b78#32
        have H4 : Hid (Crc.one T = (T >>> 1) ^^^ 0x82f63b78#32) := Lib.hid (Crc.one_odd hb)
        have H3 := Lib.hid h3; have H2 := Lib.hid h2
        clear hb h2 h3
        go_wp2_with fail
        refine ⟨⟨j + 1, by omega, by go_num, ?_⟩, by simp [intOf]; omega⟩
        rw [H2.out]
        have e3 := H3.out
        rw [show ((0x82f63b78#32).toNat : Int) = 2197175160 from rfl] at e3
        rw [e3, ← H4.out, Crc.ones, HT.out]
      | false =>
        rw [hb] at h1
        have H4 : Hid (Crc.one T = T >>> 1) := Lib.hid (Crc.one_even hb)
        have H2 := Lib.hid h2
        clear hb h2
        go_wp2_with fail
        refine ⟨⟨j + 1, by omega, by go_num, ?_⟩, by simp [intOf]; omega⟩
        rw [H2.out, ← H4.out, Crc.ones, HT.out]
    · obtain rfl : j = 8 := by omega
      go_wp2_with fail
      go_ret
      refine ⟨?_, rfl⟩
      have := HT.out
      rw [Crc.ones_eight] at this
      rw [Crc.step, HX.out, this]
      rfl

set_option maxRecDepth 100000 in
theorem rsum_any (s : ByteArray) (w : World) (hs : s.size ≤ 9223372036854775807) :
    Calls Try.prog 14 #[.string s] w fun e w' => e = .returned (.int .u32 (Crc.sum s.data.toList).toNat) ∧ w = w' := by
  go_enter Try.func14, Try.ntmps14
  go_wp2_with fail
  go_loop [3, 4] (fun v i => ∃ k : Nat, k ≤ s.size ∧ i = .int .i64 k ∧ v = .int .u32 (Crc.run (~~~ 0#32) (s.data.toList.take k)).toNat) (fun _ i => s.size - (intOf i).toNat)
  case atStart => exact ⟨0, by omega, rfl, rfl⟩
  case round =>
    obtain ⟨k, hk, rfl, rfl⟩ := hrel
    obtain ⟨S, hS⟩ : ∃ S, Crc.run (~~~ 0#32) (s.data.toList.take k) = S := ⟨_, rfl⟩
    have HS := Lib.hid hS
    rw [hS]; clear hS
    by_cases hlt : k < s.size
    · go_wp2_with fail
      refine (rstep_any S _ _).mono ?_
      rintro e w2 ⟨rfl, rfl⟩
      go_wp2_with fail
      go_round
      case rel => 
        refine ⟨k + 1, by omega, by go_num, ?_⟩
        rw [take_snoc s k hlt, Crc.run_append, HS.out]; rfl
      case measure => simp [intOf]; omega
    · go_wp2_with fail
      go_ret
      have hn := Crc.bits_not S
      refine ⟨?_, rfl⟩
      show Ending.returned (Value.int IntKind.u32 (bits BinOp.xor IntKind.u32 IntKind.u32.max ↑S.toNat)) = _
      rw [hn, ← HS.out, List.take_of_length_le (by simp; omega)]; rfl

theorem conv_four (w : World) (t : TypeId) (n : Nat) (hn : n < 4294967296) :
    (convert 22 9 (.slice (some ⟨w.heap.size, 0, none⟩) 4 4)).run Try.prog (w.alloc (.cells #[.int .u8 ((n : Int) / 16777216), .int .u8 ((n : Int) / 65536 % 256), .int .u8 ((n : Int) / 256 % 256), .int .u8 ((n : Int) % 256)] t)) =
      .ok (.string (bs (fourB n))) (w.alloc (.cells #[.int .u8 ((n : Int) / 16777216), .int .u8 ((n : Int) / 65536 % 256), .int .u8 ((n : Int) / 256 % 256), .int .u8 ((n : Int) % 256)] t)) := by
  refine conv_bytes _ 22 9 5 Try.underlying22 Try.underlying5 Try.underlying9 w.heap.size 0 4 4 (fourB n) rfl ?hc
  intro j hj
  have hj4 : j < 4 := hj
  rw [World.cell?_alloc_at _ _ _ _ rfl, Nat.zero_add]
  match j, hj4 with
  | 0, _ => exact congrArg some (byte_of _ _ (by omega))
  | 1, _ => exact congrArg some (byte_of _ _ (by omega))
  | 2, _ => exact congrArg some (byte_of _ _ (by omega))
  | 3, _ => exact congrArg some (byte_of _ _ (by omega))

set_option maxRecDepth 100000 in
theorem four_any (n : Nat) (hn : n < 4294967296) (w : World) :
    Calls Try.prog 23 #[.int .u32 n] w fun e w' => e = .returned (.string (bs (fourB n))) ∧ Below w.heap.size w w' := by
  have hN : 0 ≤ (n : Int) ∧ (n : Int) ≤ 4294967295 := by omega
  go_enter Try.func23, Try.ntmps23
  go_wp2_with fail
  rw [conv_four w 5 n hn]
  go_wp2_with fail
  go_ret
  refine ⟨rfl, ?_⟩
  go_grown

set_option maxRecDepth 100000 in
theorem rframe_any (s : ByteArray) (w : World) (hs : s.size ≤ 140737488351232) :
    Calls Try.prog 15 #[.string s] w fun e w' => e = .returned (.string (bs (frameL s.data.toList))) ∧ Below w.heap.size w w' := by
  by_cases h : 131072 < s.size
  · go_enter Try.func15, Try.ntmps15
    go_wp2_with fail
    go_ret
    rw [frameL_long (by rw [len_data]; exact h)]
    exact ⟨rfl, Below.refl _ _⟩
  · go_enter Try.func15, Try.ntmps15
    go_wp2_with fail
    refine (four_any s.size (by omega) _).mono ?_
    rintro e w1 ⟨rfl, hB⟩
    have HB := Lib.hid hB; clear hB
    have z4 : (bs (fourB s.size)).size = 4 := bs_size _
    go_wp2_with fail
    refine (rsum_any _ _ (by simp; omega)).mono ?_
    rintro e w2 ⟨rfl, rfl⟩
    rw [append_toList, bs_toList]
    obtain ⟨N, hN⟩ : ∃ N, Crc.sum (fourB s.size ++ s.data.toList) = N := ⟨_, rfl⟩
    rw [hN]
    have HN := Lib.hid hN; clear hN
    have hn := N.isLt
    go_wp2_with fail
    refine (four_any N.toNat hn _).mono ?_
    rintro e w3 ⟨rfl, hB⟩
    have HB3 := Lib.hid hB; clear hB
    have z5 : (bs (fourB N.toNat)).size = 4 := bs_size _
    go_wp2_with fail
    go_ret
    refine ⟨?_, HB.out.trans (HB3.out.mono HB.out.size)⟩
    show Ending.returned (Value.string (bs (fourB s.size) ++ bs (fourB N.toNat) ++ s)) = _
    rw [frameL_short (by rw [len_data]; exact h), len_data, HN.out, bs_append]
    conv => lhs; rw [← bs_data s]
    rw [bs_append, bs_data]

theorem i64_small (n : Int) (h0 : 0 ≤ n) (h1 : n < 4611686018427387904) : IntKind.i64.wrap n = n := by rw [IntKind.wrap_i64]; omega
theorem or_join (x y : Int) (i : Nat) (hx0 : 0 ≤ x) (hx : x % 2 ^ i = 0) (hx1 : x < 4611686018427387904) (hy0 : 0 ≤ y) (hy : y < 2 ^ i) (hy1 : y < 4611686018427387904) : bits .or .i64 x y = x + y :=
  bits_join .i64 62 (by decide) (fun m h0 h1 => i64_small m h0 (by simpa using h1)) i x y hx0 hx (by simpa using hx1) hy0 hy (by simpa using hy1)
theorem or_three (a b c d : Nat) (ha : a < 256) (hb : b < 256) (hc : c < 256) (hd : d < 256) :
    bits .or .i64 (bits .or .i64 (bits .or .i64 ((a : Int) * 16777216) ((b : Int) * 65536)) ((c : Int) * 256)) (d : Int) = (((a * 256 + b) * 256 + c) * 256 + d : Nat) := by
  rw [or_join ((a : Int) * 16777216) ((b : Int) * 65536) 24 (by omega) (by omega) (by omega) (by omega) (by omega) (by omega)]
  rw [or_join _ ((c : Int) * 256) 16 (by omega) (by omega) (by omega) (by omega) (by omega) (by omega)]
  rw [or_join _ (d : Int) 8 (by omega) (by omega) (by omega) (by omega) (by omega) (by omega)]
  omega
set_option maxRecDepth 100000 in
theorem number_any (s : ByteArray) (w : World) (hs : 4 ≤ s.size) (hm : s.size ≤ 9223372036854775807) :
    Calls Try.prog 28 #[.string s] w fun e w' => e = .returned (.int .i64 (numB s.data.toList)) ∧ ∃ n, w' = w.drewN n := by
  have b0 := (s[0]'(by omega)).toNat_lt
  have b1 := (s[1]'(by omega)).toNat_lt
  have b2 := (s[2]'(by omega)).toNat_lt
  have b3 := (s[3]'(by omega)).toNat_lt
  have i0 : 0 < s.size := by omega
  have i1 : (1 : Int) < (s.size : Int) := by omega
  have i2 : (2 : Int) < (s.size : Int) := by omega
  have i3 : (3 : Int) < (s.size : Int) := by omega
  have w0 := i64_small (s[0]'(by omega)).toNat (by omega) (by omega)
  have w1 := i64_small (s[1]'(by omega)).toNat (by omega) (by omega)
  have w2 := i64_small (s[2]'(by omega)).toNat (by omega) (by omega)
  have w3 := i64_small (s[3]'(by omega)).toNat (by omega) (by omega)
  have v0 := i64_small ((s[0]'(by omega)).toNat * 16777216) (by omega) (by omega)
  have v1 := i64_small ((s[1]'(by omega)).toNat * 65536) (by omega) (by omega)
  have v2 := i64_small ((s[2]'(by omega)).toNat * 256) (by omega) (by omega)
  go_enter Try.func28, Try.ntmps28
  go_wp2_with fail
  go_quiet (fail)
  go_wp2_with fail
  go_ret
  refine ⟨?_, nq, rfl⟩
  show Ending.returned (Value.int .i64 (bits .or .i64 (bits .or .i64 (bits .or .i64 ((s[0]'(by omega)).toNat * 16777216) ((s[1]'(by omega)).toNat * 65536)) ((s[2]'(by omega)).toNat * 256)) (s[3]'(by omega)).toNat)) = _
  rw [or_three _ _ _ _ b0 b1 b2 b3, numB, take_four s hs]
  simp
