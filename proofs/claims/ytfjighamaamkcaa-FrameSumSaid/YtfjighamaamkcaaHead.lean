/-
  The law FrameHead, walked: whatever the text and the number, it answers true.
-/
import Derived.Test.YtfjighamaamkcaaLong
namespace Go.Proofs.Ytfjighamaamkcaa
open Go.RowKit

theorem Below.drew' (w : World) : Below w.heap.size w w.drew := by go_grown
theorem u8_wrap (x : Int) : IntKind.u8.wrap x = x % 256 := by simp [IntKind.wrap, IntKind.bits, IntKind.signed]
set_option maxRecDepth 100000 in
set_option maxHeartbeats 1000000 in
theorem frameHead_walk (b : ByteArray) (v : Int) (W : World) (wb : b.size ≤ 140737488351232) (wv : (Lit.int .u8 v).wf = true) :
    Calls Try.prog 6 #[.string b, .int .u8 v] W fun e w' => e = .returned (.bool true) ∧ Below W.heap.size W w' := by
  obtain ⟨u, rfl, hu⟩ := u8_nat wv
  clear wv
  by_cases hlen : 200 < b.size
  · go_enter Try.func6, Try.ntmps6
    go_wp2_with fail
    refine (known_any _).mono ?_
    rintro e w1 ⟨rfl, hB1⟩
    go_wp2_with fail
    go_ret
    exact ⟨rfl, hB1⟩
  · have hA : ¬ 131072 < b.data.toList.length := by rw [len_data]; omega
    obtain ⟨N, hN⟩ : ∃ N, Crc.sum (fourB b.data.toList.length ++ b.data.toList) = N := ⟨_, rfl⟩
    obtain ⟨F, hF⟩ : ∃ F, frameL b.data.toList = F := ⟨_, rfl⟩
    have hFe : F = [0, 0, 0, UInt8.ofNat b.size] ++ fourB N.toNat ++ b.data.toList := by
      rw [← hF, frameL_short hA, hN, len_data]
      have e1 : b.size / 16777216 = 0 := by omega
      have e2 : b.size / 65536 = 0 := by omega
      have e3 : b.size / 256 = 0 := by omega
      simp only [fourB, e1, e2, e3]; rfl
    have hFl : F.length = b.size + 8 := by rw [← hF, frameL_length hA, len_data]
    have zF : (bs F).size = b.size + 8 := by rw [bs_size, hFl]
    have HF := Lib.hid hF; have HFl := Lib.hid hFl; have HFe := Lib.hid hFe; have HN := Lib.hid hN
    clear hF hFl hA hFe hN
    obtain ⟨n, hn⟩ : ∃ n, b.size + u + 1 = n := ⟨_, rfl⟩
    have hni : (b.size : Int) + (u : Int) + 1 = (n : Int) := by omega
    have hnl : n ≤ 456 := by omega
    have hnb : b.size < n := by omega
    clear hn
    have hq : (IntKind.u8.wrap (IntKind.i64.wrap ((n : Int) / 256))) = (((UInt8.ofNat (n / 256)).toNat : Nat) : Int) := by
      rw [UInt8.toNat_ofNat', IntKind.wrap_i64, u8_wrap]; omega
    have hr : IntKind.u8.wrap ((n : Int).tmod 256) = (((UInt8.ofNat n).toNat : Nat) : Int) := by
      rw [UInt8.toNat_ofNat', Int.tmod_eq_emod_of_nonneg (by omega), u8_wrap]; omega
    obtain ⟨q, hqe⟩ : ∃ q, UInt8.ofNat (n / 256) = q := ⟨_, rfl⟩
    obtain ⟨r, hre⟩ : ∃ r, UInt8.ofNat n = r := ⟨_, rfl⟩
    rw [hqe] at hq
    rw [hre] at hr
    have hx0 : (4 : Int) ≤ (b.size : Int) + 8 := by omega
    have hcv : ∀ w : World, (convert 22 9 (.slice (some ⟨w.heap.size, 0, none⟩) 4 4)).run Try.prog (w.alloc (.cells #[.int .u8 0, .int .u8 0, .int .u8 (q.toNat : Int), .int .u8 (r.toNat : Int)] 5)).drew = .ok (.string (bs [0, 0, q, r])) (w.alloc (.cells #[.int .u8 0, .int .u8 0, .int .u8 (q.toNat : Int), .int .u8 (r.toNat : Int)] 5)).drew := by
      intro w
      refine conv_bytes _ 22 9 5 Try.underlying22 Try.underlying5 Try.underlying9 w.heap.size 0 4 4 [0, 0, q, r] rfl ?_
      intro j hj
      have hj4 : j < 4 := hj
      show (w.alloc _).cell? _ = _
      rw [World.cell?_alloc_at _ _ _ _ rfl, Nat.zero_add]
      match j, hj4 with
      | 0, _ => rfl
      | 1, _ => rfl
      | 2, _ => rfl
      | 3, _ => rfl
    have z4 : (bs [0, 0, q, r]).size = 4 := rfl
    have zT : ((bs F).extract 4 (b.size + 8)).size = b.size + 4 := by rw [ByteArray.size_extract]; omega
    go_enter Try.func6, Try.ntmps6
    go_wp2_with fail
    refine (frame_any b _ wb).mono ?_
    rintro e w1 ⟨rfl, hB1⟩
    have HB1 := Lib.hid hB1; clear hB1
    rw [HF.out]
    go_wp2_with fail
    go_region_held (fun _ => True) (trivial) (fail)
    have hB2 : Below w1.heap.size w1 (w1.alloc (.cells #[.int .u8 0, .int .u8 0, .int .u8 (q.toNat : Int), .int .u8 (r.toNat : Int)] 5)).drew := by go_grown
    obtain ⟨w2, hw2⟩ : ∃ w2, (w1.alloc (.cells #[.int .u8 0, .int .u8 0, .int .u8 (q.toNat : Int), .int .u8 (r.toNat : Int)] 5)).drew = w2 := ⟨_, rfl⟩
    rw [hw2] at hB2 ⊢
    clear hcv hw2
    have HB2 := Lib.hid hB2; clear hB2
    obtain ⟨G, hG⟩ : ∃ G, bs [0, 0, q, r] ++ (bs F).extract 4 (b.size + 8) = G := ⟨_, rfl⟩
    have zG : G.size = b.size + 8 := by rw [← hG]; simp only [ByteArray.size_append, z4, zT]; omega
    have hGn : nextL G.data.toList = ([], 0) := by
      refine next_none ?_
      rw [len_data, zG, ← hG, append_toList, bs_toList]
      have : numB ([0, 0, q, r] ++ ((bs F).extract 4 (b.size + 8)).data.toList) = n := by
        rw [← numB_fourB n (by omega) ((bs F).extract 4 (b.size + 8)).data.toList]
        congr 2
        rw [← hqe, ← hre]
        have e1 : n / 16777216 = 0 := by omega
        have e2 : n / 65536 = 0 := by omega
        simp only [fourB, e1, e2]; rfl
      omega
    rw [hG]
    have HGN := Lib.hid hGn
    clear hG hGn hq hr zT z4 hx0
    go_wp2_with fail
    refine (next_any _ _ (by omega)).mono ?_
    rintro e w3 ⟨rfl, hB3⟩
    have HB3 := Lib.hid hB3; clear hB3
    rw [HGN.out]
    have z5 : ((bs F).extract 0 4).size = 4 := by rw [ByteArray.size_extract]; omega
    go_wp2_with fail
    refine (rsum_any _ _ (by simp; omega)).mono ?_
    rintro e _ ⟨rfl, rfl⟩
    have hsm : Crc.sum ((bs F).extract 0 4 ++ b).data.toList = N := by
      rw [append_toList, extract_toList, bs_toList, HFe.out, ← HN.out, len_data]
      congr 1
      have e1 : b.size / 16777216 = 0 := by omega
      have e2 : b.size / 65536 = 0 := by omega
      have e3 : b.size / 256 = 0 := by omega
      simp only [fourB, e1, e2, e3]; rfl
    rw [hsm]
    clear hsm
    have hN := N.isLt
    obtain ⟨M, hM⟩ : ∃ M, N.toNat = M := ⟨_, rfl⟩
    rw [hM] at hN ⊢
    have i0 : (bs F)[0]'(by rw [zF]; omega) = 0 := by simp only [HFe.out]; rfl
    have i1 : (bs F)[1]'(by rw [zF]; omega) = 0 := by simp only [HFe.out]; rfl
    have i2 : (bs F)[2]'(by rw [zF]; omega) = 0 := by simp only [HFe.out]; rfl
    have i3 : (bs F)[3]'(by rw [zF]; omega) = UInt8.ofNat b.size := by simp only [HFe.out]; rfl
    have i3' : (UInt8.ofNat b.size).toNat = b.size := by rw [UInt8.toNat_ofNat']; omega
    obtain ⟨r0, hr0⟩ : ∃ r0, UInt8.ofNat b.size = r0 := ⟨_, rfl⟩
    rw [hr0] at i3 i3'
    have hr0 := Lib.hid hr0
    have hw0 : IntKind.i64.wrap 0 = 0 := rfl
    have hwb : IntKind.i64.wrap (b.size : Int) = (b.size : Int) := by rw [IntKind.wrap_i64]; omega
    have hee : ((b.size : Int) == (b.size : Int)) = true := by simp
    have x8 : (bs F).extract 8 (b.size + 8) = b := by
      apply ByteArray.ext
      apply Array.toList_inj.1
      rw [extract_toList, bs_toList, HFe.out]
      have : ([0, 0, 0, UInt8.ofNat b.size] ++ fourB N.toNat ++ b.data.toList).drop 8 = b.data.toList := rfl
      rw [this, List.take_of_length_le (by rw [len_data]; omega)]
    have x4 : (bs F).extract 4 8 = bs (fourB M) := by
      apply ByteArray.ext
      apply Array.toList_inj.1
      rw [extract_toList, bs_toList, HFe.out, hM]; rfl
    have hx8 : (8 : Int) ≤ (b.size : Int) + 8 := by omega
    have hx4 : (4 : Int) ≤ (b.size : Int) + 8 := by omega
    have hx0 : (0 : Int) < (b.size : Int) + 8 := by omega
    have hx1 : (1 : Int) < (b.size : Int) + 8 := by omega
    have hx2 : (2 : Int) < (b.size : Int) + 8 := by omega
    have hx3 : (3 : Int) < (b.size : Int) + 8 := by omega
    have hbb : (b.toList == b.toList) = true := by simp
    have hff : ((bs (fourB M)).toList == (bs (fourB M)).toList) = true := by simp
    have hcw : ∀ w : World, (convert 22 9 (.slice (some ⟨w.heap.size, 0, none⟩) 4 4)).run Try.prog (w.alloc (.cells #[.int .u8 (IntKind.u8.wrap ((M : Int) / 16777216)), .int .u8 (IntKind.u8.wrap ((M : Int) / 65536)), .int .u8 (IntKind.u8.wrap ((M : Int) / 256)), .int .u8 (IntKind.u8.wrap (M : Int))] 5)) = .ok (.string (bs (fourB M))) (w.alloc (.cells #[.int .u8 (IntKind.u8.wrap ((M : Int) / 16777216)), .int .u8 (IntKind.u8.wrap ((M : Int) / 65536)), .int .u8 (IntKind.u8.wrap ((M : Int) / 256)), .int .u8 (IntKind.u8.wrap (M : Int))] 5)) := by
      intro w
      refine conv_bytes _ 22 9 5 Try.underlying22 Try.underlying5 Try.underlying9 w.heap.size 0 4 4 (fourB M) rfl ?_
      intro j hj
      have hj4 : j < 4 := hj
      rw [World.cell?_alloc_at _ _ _ _ rfl, Nat.zero_add]
      match j, hj4 with
      | 0, _ => exact congrArg some (byte_of _ _ (by rw [u8_wrap]; omega))
      | 1, _ => exact congrArg some (byte_of _ _ (by rw [u8_wrap]; omega))
      | 2, _ => exact congrArg some (byte_of _ _ (by rw [u8_wrap]; omega))
      | 3, _ => exact congrArg some (byte_of _ _ (by rw [u8_wrap]; omega))
    clear hN
    go_wp2_with fail
    go_region_held (fun _ => True) (trivial) (first | (go_at_call 10; refine (known_any _).mono ?_; rintro e w5 ⟨rfl, hB5⟩; have HB5 := Lib.hid hB5; clear hB5))
    all_goals go_wp2_with fail
    all_goals go_ret
    all_goals have z1 := HB1.out.size
    all_goals have z2 := HB2.out.size
    all_goals have z3 := HB3.out.size
    all_goals have hd : Below w3.heap.size w3 w3.drew := Below.drew' w3
    all_goals have hB5 : Below w3.heap.size w3 w5 := by first | exact HB5.out | exact hd.trans HB5.out
    all_goals have z5' := hB5.size
    all_goals have hB6 : Below W.heap.size W w5 := ((HB1.out.trans (HB2.out.mono z1)).trans (HB3.out.mono (by omega))).trans (hB5.mono (by omega))
    all_goals refine ⟨rfl, hB6.trans (Below.mono (B := w5.heap.size) ?_ (by omega))⟩
    all_goals go_grown
