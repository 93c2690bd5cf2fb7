/-
  The law FrameCut, walked: whatever the text, the place and the byte, it answers true.
-/
import Derived.Test.YtfjighamaamkcaaFront
import Derived.Deep.QuietTactic
import Derived.BigQuiet
import Derived.WalkSmall
import Derived.Deep.RegionHeld3
import Derived.Laws.BitsAllLaws
namespace Go.Proofs.Ytfjighamaamkcaa
open Go.RowKit

theorem u8_nat {v : Int} (h : (Lit.int .u8 v).wf = true) : ∃ n : Nat, v = n ∧ n < 256 := by
  simp only [Lit.wf, Bool.and_eq_true, decide_eq_true_eq] at h
  have hm : IntKind.u8.min = 0 := rfl
  have hx : IntKind.u8.max = 255 := rfl
  exact ⟨v.toNat, by omega, by omega⟩
theorem u16_nat {v : Int} (h : (Lit.int .u16 v).wf = true) : ∃ n : Nat, v = n ∧ n < 65536 := by
  simp only [Lit.wf, Bool.and_eq_true, decide_eq_true_eq] at h
  have hm : IntKind.u16.min = 0 := rfl
  have hx : IntKind.u16.max = 65535 := rfl
  exact ⟨v.toNat, by omega, by omega⟩
theorem u32_nat {v : Int} (h : (Lit.int .u32 v).wf = true) : ∃ n : Nat, v = n ∧ n < 4294967296 := by
  simp only [Lit.wf, Bool.and_eq_true, decide_eq_true_eq] at h
  have hm : IntKind.u32.min = 0 := rfl
  have hx : IntKind.u32.max = 4294967295 := rfl
  exact ⟨v.toNat, by omega, by omega⟩

theorem other_byte (c : UInt8) (u : Nat) (hu : u < 256) : ∃ d : UInt8, bits .xor .u8 (c.toNat : Int) (bits .or .u8 (u : Int) 1) = (d.toNat : Int) ∧ c ≠ d := by
  have hc := c.toNat_lt
  have h1 : u ||| 1 < 2 ^ 8 := Nat.or_lt_two_pow (by omega) (by omega)
  have h2 : c.toNat ^^^ (u ||| 1) < 2 ^ 8 := Nat.xor_lt_two_pow (by omega) h1
  have e1 : bits .or .u8 (u : Int) 1 = ((u ||| 1 : Nat) : Int) := u8_or_nat u 1 hu (by omega)
  refine ⟨UInt8.ofNat (c.toNat ^^^ (u ||| 1)), ?_, fun h => ?_⟩
  · rw [e1, u8_xor_nat _ _ (by omega) (by omega), UInt8.toNat_ofNat', Nat.mod_eq_of_lt h2]
  · have := congrArg UInt8.toNat h
    rw [UInt8.toNat_ofNat', Nat.mod_eq_of_lt h2] at this
    have h3 : (u ||| 1) = 0 := by
      have h4 : c.toNat ^^^ c.toNat = c.toNat ^^^ (c.toNat ^^^ (u ||| 1)) := by rw [← this]
      rw [Nat.xor_self, ← Nat.xor_assoc, Nat.xor_self, Nat.zero_xor] at h4
      exact h4.symm
    have h5 : 1 ≤ u ||| 1 := Nat.right_le_or
    omega

set_option maxRecDepth 100000 in
set_option maxHeartbeats 1000000 in
theorem frameCut_walk (b : ByteArray) (at_ v : Int) (W : World) (wb : b.size ≤ 140737488351232) (wa : (Lit.int .u16 at_).wf = true) (wv : (Lit.int .u8 v).wf = true) :
    Calls Try.prog 4 #[.string b, .int .u16 at_, .int .u8 v] W fun e w' => e = .returned (.bool true) ∧ Below W.heap.size W w' := by
  obtain ⟨t, rfl, ht⟩ := u16_nat wa
  obtain ⟨u, rfl, hu⟩ := u8_nat wv
  clear wa wv
  by_cases hlen : 300 < b.size
  · go_enter Try.func4, Try.ntmps4
    go_wp2_with fail
    refine (known_any _).mono ?_
    rintro e w1 ⟨rfl, hB1⟩
    go_wp2_with fail
    go_ret
    exact ⟨rfl, hB1⟩
  · have hA : ¬ 131072 < b.data.toList.length := by rw [len_data]; omega
    obtain ⟨F, hF⟩ : ∃ F, frameL b.data.toList = F := ⟨_, rfl⟩
    have hFl : F.length = b.size + 8 := by rw [← hF, frameL_length hA, len_data]
    have zF : (bs F).size = b.size + 8 := by rw [bs_size, hFl]
    obtain ⟨k, hk⟩ : ∃ k, t % (b.size + 8) = k := ⟨_, rfl⟩
    obtain ⟨j, hj⟩ : ∃ j, t % (b.size + 4) = j := ⟨_, rfl⟩
    have hkl : k < b.size + 8 := by rw [← hk]; exact Nat.mod_lt _ (by omega)
    have hjl : j < b.size + 4 := by rw [← hj]; exact Nat.mod_lt _ (by omega)
    have hki : (t : Int) % ((b.size : Int) + 8) = (k : Int) := by rw [← hk]; simp
    have hji : (t : Int) % ((b.size : Int) + 4) = (j : Int) := by rw [← hj]; simp
    have h84 : (b.size : Int) + 8 - 4 = (b.size : Int) + 4 := by omega
    have HF := Lib.hid hF; have HFl := Lib.hid hFl; have HA := Lib.hid hA
    clear hF hFl hA hk hj
    go_enter Try.func4, Try.ntmps4
    go_wp2_with fail
    refine (frame_any b _ wb).mono ?_
    rintro e w1 ⟨rfl, hB1⟩
    have HB1 := Lib.hid hB1; clear hB1
    rw [HF.out]
    go_wp2_with fail
    refine (next_any _ _ (by rw [ByteArray.size_extract]; omega)).mono ?_
    rintro e w2 ⟨rfl, hB2⟩
    have HB2 := Lib.hid hB2; clear hB2
    have e2 : nextL ((bs F).extract 0 k).data.toList = ([], 0) := by
      rw [extract_toList, bs_toList, ← HF.out]
      exact next_cut _ _ HA.out (by rw [len_data]; exact hkl)
    rw [e2, hki]
    clear e2
    obtain ⟨p, hp⟩ : ∃ p, 4 + j = p := ⟨_, rfl⟩
    have hpi : (4 : Int) + (j : Int) = (p : Int) := by omega
    have hp4 : 4 ≤ p := by omega
    have hpl : p < b.size + 8 := by omega
    clear hp
    have hi : p < F.length := by have := HFl.out; omega
    obtain ⟨c, hc⟩ : ∃ c, F[p] = c := ⟨_, rfl⟩
    have HC := Lib.hid hc; clear hc
    obtain ⟨d, hd, hcd⟩ := other_byte c u hu
    have HCD := Lib.hid hcd; clear hcd
    have hidx : (bs F)[p]'(by rw [zF]; exact hpl) = c := HC.out
    have hx0 : (0 : Int) ≤ (p : Int) := by omega
    have hx1 : (p : Int) < ((b.size + 8 : Nat) : Int) := by omega
    have hx2 : (p : Int).toNat = p := by omega
    have hx3 : (p : Int) ≤ (b.size : Int) + 8 := by omega
    have hx4 : (p : Int) + 1 ≤ (b.size : Int) + 8 := by omega
    have hx5 : (0 : Int) ≤ (p : Int) + 1 := by omega
    have hx6 : ((p : Int) + 1).toNat = p + 1 := by omega
    have hx7 : IntKind.i64.wrap ((p : Int) + 1) = (p : Int) + 1 := by rw [IntKind.wrap_i64]; omega
    have hcv : (convert 22 9 (.slice (some ⟨w2.heap.size, 0, none⟩) 1 1)).run Try.prog (w2.alloc (.cells #[.int .u8 (d.toNat : Int)] 5)).drew = .ok (.string (bs [d])) (w2.alloc (.cells #[.int .u8 (d.toNat : Int)] 5)).drew := by
      refine conv_bytes _ 22 9 5 Try.underlying22 Try.underlying5 Try.underlying9 w2.heap.size 0 1 1 [d] rfl ?_
      intro j hj
      obtain rfl : j = 0 := by simpa using hj
      exact cell_one_new w2 _ _ 0 _ rfl
    have zP : ((bs F).extract 0 p).size = p := by rw [ByteArray.size_extract]; omega
    have zD : (bs [d]).size = 1 := bs_size _
    have zT : ((bs F).extract (p + 1) (b.size + 8)).size = b.size + 7 - p := by rw [ByteArray.size_extract]; omega
    go_wp2_with fail
    go_region_held (fun _ => True) (trivial) (fail)
    have hB3 : Below w2.heap.size w2 (w2.alloc (.cells #[.int .u8 (d.toNat : Int)] 5)).drew := by go_grown
    obtain ⟨w3, hw3⟩ : ∃ w3, (w2.alloc (.cells #[.int .u8 (d.toNat : Int)] 5)).drew = w3 := ⟨_, rfl⟩
    rw [hw3] at hB3 ⊢
    clear hcv hw3
    have HB3 := Lib.hid hB3; clear hB3
    obtain ⟨G, hG⟩ : ∃ G, (bs F).extract 0 p ++ bs [d] ++ (bs F).extract (p + 1) (b.size + 8) = G := ⟨_, rfl⟩
    have zG : G.size = b.size + 8 := by rw [← hG]; simp only [ByteArray.size_append, zP, zD, zT]; omega
    have hGn : nextL G.data.toList = ([], 0) := by
      rw [← hG, append_toList, append_toList, extract_toList, extract_toList, bs_toList, bs_toList, ← HF.out]
      have hl := frameL_length HA.out
      rw [len_data] at hl
      have e2 : ((frameL b.data.toList).drop (p + 1)).take (b.size + 8 - (p + 1)) = (frameL b.data.toList).drop (p + 1) := List.take_of_length_le (by simp; omega)
      rw [e2]
      refine next_other _ p d HA.out hp4 (by rw [len_data]; exact hpl) fun h => ?_
      rw [HF.out, List.getElem?_eq_getElem hi, HC.out] at h
      exact HCD.out (by injection h)
    rw [hG]
    have HGN := Lib.hid hGn
    clear hG hGn zP zD zT hx1 hx2 hx3 hx4 hx5 hx6 hx7 hidx
    go_wp2_with fail
    refine (next_any _ _ (by omega)).mono ?_
    rintro e w4 ⟨rfl, hB4⟩
    have HB4 := Lib.hid hB4; clear hB4
    rw [HGN.out]
    have HFN : Hid (nextL F = (b.data.toList, b.size + 8)) := Lib.hid (by
      have := next_frame b.data.toList [] HA.out
      rwa [HF.out, List.append_nil, len_data] at this)
    go_wp2_with fail
    refine (next_any _ _ (by omega)).mono ?_
    rintro e w5 ⟨rfl, hB5⟩
    have HB5 := Lib.hid hB5; clear hB5
    rw [bs_toList, HFN.out]
    go_wp2_with fail
    refine (known_any _).mono ?_
    rintro e w6 ⟨rfl, hB6⟩
    have HB6 := Lib.hid hB6; clear hB6
    go_wp2_with fail
    go_ret
    have z1 := HB1.out.size
    have z2 := HB2.out.size
    have z3 := HB3.out.size
    have z4 := HB4.out.size
    have z5 := HB5.out.size
    exact ⟨rfl, ((((HB1.out.trans (HB2.out.mono z1)).trans (HB3.out.mono (by omega))).trans (HB4.out.mono (by omega))).trans (HB5.out.mono (by omega))).trans (HB6.out.mono (by omega))⟩
