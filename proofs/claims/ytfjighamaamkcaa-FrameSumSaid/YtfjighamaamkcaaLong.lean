/-
  The law FrameLong, walked: whatever the number, it answers true.
-/
import Derived.Test.YtfjighamaamkcaaCut
import Derived.Laws.OwnMore
import Derived.Laws.MakeOwn
namespace Go.Proofs.Ytfjighamaamkcaa
open Go.RowKit

theorem info5 : (Try.prog.info? 5).map (fun i => (i.zero, i.size, i.bytes)) = some (some (.int .u8 0), 1, 1) := by kernel_rfl
theorem make_zero (k : Nat) (W : World) (hk : k ≤ 140000) :
    ∃ w', (Instr.makeSlice 22 (.int .i64 (k : Int)) (.int .i64 (k : Int))).run Try.prog W = .ok (.slice (some ⟨W.heap.size, 0, none⟩) k k) w' ∧ Below W.heap.size W w' ∧
      (convert 22 9 (.slice (some ⟨W.heap.size, 0, none⟩) k k)).run Try.prog w' = .ok (.string (bs (List.replicate k 0))) w' := by
  have h := info5
  cases hi : Try.prog.info? 5 with
  | none => rw [hi] at h; simp at h
  | some i =>
    rw [hi] at h
    simp only [Option.map_some, Option.some.injEq, Prod.mk.injEq] at h
    obtain ⟨hz, hs, hb⟩ := h
    obtain ⟨w', h1, h2, h3⟩ := run_makeSlice_full (P := Try.prog) W W.heap.size 22 5 i (.int .u8 0) 1 Try.underlying22 hi hz hs .i64 .i64 k (by omega) (by rw [hb]; omega) (by unfold maxLen; omega) (Nat.le_refl _)
    refine ⟨w', h1, ⟨h3.os, h3.tape, h3.output, h3.size, fun k hk => h3.block k hk (by simp)⟩, ?_⟩
    refine conv_bytes _ 22 9 5 Try.underlying22 Try.underlying5 Try.underlying9 W.heap.size 0 k k (List.replicate k 0) (by simp) ?_
    intro j hj
    have hj' : j < k := by simpa using hj
    have := h2.cells (g := W.heap.size) rfl j (.int .u8 0) (by simp [madeCells, Value.cells, hj', Nat.mod_one])
    rw [show (⟨W.heap.size, 0, none⟩ : Addr).add j = ⟨W.heap.size, 0 + j, none⟩ by unfold Addr.add; split <;> simp_all] at this
    rw [this]; simp

set_option maxRecDepth 100000 in
set_option maxHeartbeats 1000000 in
theorem frameLong_walk (n : Int) (W : World) (wn : (Lit.int .u32 n).wf = true) :
    Calls Try.prog 5 #[.int .u32 n] W fun e w' => e = .returned (.bool true) ∧ Below W.heap.size W w' := by
  obtain ⟨t, rfl, ht⟩ := u32_nat wn
  clear wn
  by_cases h3 : t % 3 = 0
  · have h30 : ((t : Int) % 3 == 0) = true := by simp; omega
    obtain ⟨k, hk⟩ : ∃ k, 131070 + t / 3 % 5 = k := ⟨_, rfl⟩
    have hki : 131070 + (t : Int) / 3 % 5 = (k : Int) := by rw [← hk]; simp
    have hkl : k ≤ 140000 := by omega
    obtain ⟨w1, hm, hB1, hcv⟩ := make_zero k W hkl
    have zk : (bs (List.replicate k 0)).size = k := by rw [bs_size, List.length_replicate]
    have HB1 := Lib.hid hB1; clear hB1 hk
    by_cases hbig : 131072 < k
    · have hF : frameL (List.replicate k 0) = [] := frameL_long (by simpa using hbig)
      have HF := Lib.hid hF; clear hF
      go_enter Try.func5, Try.ntmps5
      go_wp2_with fail
      refine (frame_any _ _ (by omega)).mono ?_
      rintro e w2 ⟨rfl, hB2⟩
      have HB2 := Lib.hid hB2; clear hB2
      rw [bs_toList, HF.out]
      go_wp2_with fail
      refine (known_any _).mono ?_
      rintro e w3 ⟨rfl, hB3⟩
      have HB3 := Lib.hid hB3; clear hB3
      have hbe : (bs []).toList.isEmpty = true := by rw [Lib.toList_data]; rfl
      go_wp2_with fail
      go_ret
      have z1 := HB1.out.size
      have z2 := HB2.out.size
      exact ⟨rfl, (HB1.out.trans (HB2.out.mono z1)).trans (HB3.out.mono (by omega))⟩
    · have hA : ¬ 131072 < (List.replicate k (0 : UInt8)).length := by simpa using hbig
      obtain ⟨F, hF⟩ : ∃ F, frameL (List.replicate k 0) = F := ⟨_, rfl⟩
      have hFl : F.length = k + 8 := by rw [← hF, frameL_length hA, List.length_replicate]
      have zF : (bs F).size = k + 8 := by rw [bs_size, hFl]
      have hn : nextL F = (List.replicate k 0, k + 8) := by
        have := next_frame (List.replicate k 0) [] hA
        rwa [hF, List.append_nil, List.length_replicate] at this
      have HF := Lib.hid hF; have HN := Lib.hid hn
      clear hF hn hFl hA
      go_enter Try.func5, Try.ntmps5
      go_wp2_with fail
      refine (frame_any _ _ (by omega)).mono ?_
      rintro e w2 ⟨rfl, hB2⟩
      have HB2 := Lib.hid hB2; clear hB2
      rw [bs_toList, HF.out]
      go_wp2_with fail
      refine (next_any _ _ (by omega)).mono ?_
      rintro e w4 ⟨rfl, hB4⟩
      have HB4 := Lib.hid hB4; clear hB4
      rw [bs_toList, HN.out]
      go_wp2_with fail
      refine (known_any _).mono ?_
      rintro e w3 ⟨rfl, hB3⟩
      have HB3 := Lib.hid hB3; clear hB3
      go_wp2_with fail
      go_ret
      have z1 := HB1.out.size
      have z2 := HB2.out.size
      have z4 := HB4.out.size
      exact ⟨rfl, ((HB1.out.trans (HB2.out.mono z1)).trans (HB4.out.mono (by omega))).trans (HB3.out.mono (by omega))⟩
  · have h30 : ((t : Int) % 3 == 0) = false := by simp; omega
    obtain ⟨k, hk⟩ : ∃ k, t % 140000 = k := ⟨_, rfl⟩
    have hki : (t : Int) % 140000 = (k : Int) := by rw [← hk]; simp
    have hkl : k ≤ 140000 := by omega
    obtain ⟨w1, hm, hB1, hcv⟩ := make_zero k W hkl
    have zk : (bs (List.replicate k 0)).size = k := by rw [bs_size, List.length_replicate]
    have HB1 := Lib.hid hB1; clear hB1 hk
    by_cases hbig : 131072 < k
    · have hF : frameL (List.replicate k 0) = [] := frameL_long (by simpa using hbig)
      have HF := Lib.hid hF; clear hF
      go_enter Try.func5, Try.ntmps5
      go_wp2_with fail
      refine (frame_any _ _ (by omega)).mono ?_
      rintro e w2 ⟨rfl, hB2⟩
      have HB2 := Lib.hid hB2; clear hB2
      rw [bs_toList, HF.out]
      go_wp2_with fail
      refine (known_any _).mono ?_
      rintro e w3 ⟨rfl, hB3⟩
      have HB3 := Lib.hid hB3; clear hB3
      have hbe : (bs []).toList.isEmpty = true := by rw [Lib.toList_data]; rfl
      go_wp2_with fail
      go_ret
      have z1 := HB1.out.size
      have z2 := HB2.out.size
      exact ⟨rfl, (HB1.out.trans (HB2.out.mono z1)).trans (HB3.out.mono (by omega))⟩
    · have hA : ¬ 131072 < (List.replicate k (0 : UInt8)).length := by simpa using hbig
      obtain ⟨F, hF⟩ : ∃ F, frameL (List.replicate k 0) = F := ⟨_, rfl⟩
      have hFl : F.length = k + 8 := by rw [← hF, frameL_length hA, List.length_replicate]
      have zF : (bs F).size = k + 8 := by rw [bs_size, hFl]
      have hn : nextL F = (List.replicate k 0, k + 8) := by
        have := next_frame (List.replicate k 0) [] hA
        rwa [hF, List.append_nil, List.length_replicate] at this
      have HF := Lib.hid hF; have HN := Lib.hid hn
      clear hF hn hFl hA
      go_enter Try.func5, Try.ntmps5
      go_wp2_with fail
      refine (frame_any _ _ (by omega)).mono ?_
      rintro e w2 ⟨rfl, hB2⟩
      have HB2 := Lib.hid hB2; clear hB2
      rw [bs_toList, HF.out]
      go_wp2_with fail
      refine (next_any _ _ (by omega)).mono ?_
      rintro e w4 ⟨rfl, hB4⟩
      have HB4 := Lib.hid hB4; clear hB4
      rw [bs_toList, HN.out]
      go_wp2_with fail
      refine (known_any _).mono ?_
      rintro e w3 ⟨rfl, hB3⟩
      have HB3 := Lib.hid hB3; clear hB3
      go_wp2_with fail
      go_ret
      have z1 := HB1.out.size
      have z2 := HB2.out.size
      have z4 := HB4.out.size
      exact ⟨rfl, ((HB1.out.trans (HB2.out.mono z1)).trans (HB4.out.mono (by omega))).trans (HB3.out.mono (by omega))⟩
