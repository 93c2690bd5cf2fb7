/-
  The law FrameAsks, walked: whatever its five arguments, it answers true.
-/
import Derived.Test.YtfjighamaamkcaaBack
import Derived.Test.YtfjighamaamkcaaCut
namespace Go.Proofs.Ytfjighamaamkcaa
open Go.RowKit

set_option maxRecDepth 100000 in
set_option maxHeartbeats 4000000 in
theorem frameAsks_walk (b : ByteArray) (a : Option Addr) (len cap : Nat) (z : List ByteArray) (at_ v less : Int) (W : World) (wb : b.size ≤ 140737488351232) (hl : z.length = len) (hrow : RowAt W a (z.map .string)) (hsz : ∀ s ∈ z, s.size ≤ 140737488351232) (hb : len * 16 ≤ 140737488351232)
    (wa : (Lit.int .u16 at_).wf = true) (wv : (Lit.int .u8 v).wf = true) (wl : (Lit.int .u8 less).wf = true) :
    Calls Try.prog 7 #[.string b, .slice a len cap, .int .u16 at_, .int .u8 v, .int .u8 less] W fun e w' => e = .returned (.bool true) ∧ Below W.heap.size W w' := by
  obtain ⟨t, rfl, ht⟩ := u16_nat wa
  obtain ⟨u, rfl, hu⟩ := u8_nat wv
  obtain ⟨y, rfl, hy⟩ := u8_nat wl
  have HL := Lib.hid hl; have HROW := Lib.hid hrow; have HSZ := Lib.hid hsz
  have hbl : len ≤ 8796093022000 := by omega
  clear hl hrow hsz hb wa wv wl
  go_enter Try.func7, Try.ntmps7
  go_wp2_with fail
  go_loop [11, 12] (fun n i => ∃ k : Nat, k ≤ len ∧ i = .int .i64 k ∧ n = .int .i64 ((b.size + tot (z.take k) : Nat) : Int) ∧ (k = 0 ∨ b.size + tot (z.take k) ≤ 140737488351232 + 500)) (fun _ i => len - (intOf i).toNat)
  case atStart => exact ⟨0, by omega, rfl, by simp [tot], .inl rfl⟩
  case round =>
    obtain ⟨k, hk, rfl, rfl, hN⟩ := hrel
    obtain ⟨m, hm⟩ : ∃ m, b.size + tot (z.take k) = m := ⟨_, rfl⟩
    rw [hm] at hN ⊢
    have HM := Lib.hid hm
    have hml : m ≤ 140737488351232 + 500 := by
      rcases hN with rfl | h
      · simp [tot] at hm; omega
      · exact h
    clear hm hN
    by_cases hlt : k < len
    · by_cases h400 : m ≤ 400
      · obtain ⟨b1, o1, rfl, _, hc1⟩ := HROW.out (by rw [List.length_map, HL.out]; omega)
        have k1 : k < z.length := by rw [HL.out]; exact hlt
        have f1 : W.cell? ⟨b1, o1 + k, none⟩ = some (.string z[k]) := by rw [hc1 k (by rw [List.length_map]; exact k1)]; simp
        have p1 : z.take (k + 1) = z.take k ++ [z[k]] := List.take_succ_eq_append_getElem k1
        obtain ⟨s1, hs1⟩ : ∃ s1, z[k] = s1 := ⟨_, rfl⟩
        have zs : s1.size ≤ 140737488351232 := by rw [← hs1]; exact HSZ.out _ (List.getElem_mem _)
        rw [hs1] at f1 p1
        have P1 := Lib.hid p1
        clear hc1 p1 hs1
        have hki : (k : Int) < (len : Int) := by omega
        have hk0 : (0 : Int) ≤ (k : Int) := by omega
        have hmi : (m : Int) ≤ 400 := by omega
        have hw1 : IntKind.i64.wrap (8 + (s1.size : Int)) = 8 + (s1.size : Int) := i64_small _ (by omega) (by omega)
        have hw2 : IntKind.i64.wrap ((m : Int) + (8 + (s1.size : Int))) = (m : Int) + (8 + (s1.size : Int)) := i64_small _ (by omega) (by omega)
        go_wp2_with fail
        have e1 : b.size + tot (z.take (k + 1)) = m + (8 + s1.size) := by rw [P1.out, tot_snoc, ← HM.out]; omega
        exact ⟨⟨k + 1, by omega, by go_num, by rw [e1]; simp, .inr (by rw [e1]; omega)⟩, by simp [intOf]; omega⟩
      · have hmf : decide ((m : Int) ≤ 400) = false := by simp; omega
        have hki : (k : Int) < (len : Int) := by omega
        have hmg : (400 : Int) < (m : Int) := by omega
        go_wp2_with fail
        refine (known_any _).mono ?_
        rintro e w1 ⟨rfl, hB1⟩
        go_wp2_with fail
        go_ret
        exact ⟨rfl, hB1⟩
    · obtain rfl : k = len := by omega
      have hki : ¬ (k : Int) < (k : Int) := by omega
      have hkd : decide ((k : Int) < (k : Int)) = false := by simp
      by_cases h400 : 400 < m
      · have hmg : (400 : Int) < (m : Int) := by omega
        go_wp2_with fail
        refine (known_any _).mono ?_
        rintro e w1 ⟨rfl, hB1⟩
        go_wp2_with fail
        go_ret
        exact ⟨rfl, hB1⟩
      · have hmg : ¬ (400 : Int) < (m : Int) := by omega
        have hmd : decide ((400 : Int) < (m : Int)) = false := by simp; omega
        have hz : z.take k = z := List.take_of_length_le (by rw [HL.out]; omega)
        have hm2 := HM.out
        rw [hz] at hm2
        have htot : tot z + b.size ≤ 400 := by omega
        have HZ : Hid (∀ s ∈ z, s.size ≤ 131072) := Lib.hid fun s hs => by have := tot_mem hs; omega
        clear hm2 hz
        go_wp2_with fail
        refine (known_any _).mono ?_
        rintro e w0 ⟨rfl, hB0⟩
        have HB0 := Lib.hid hB0; clear hB0
        go_wp2_with fail
        go_loopw [13, 14] (fun s i wr => ∃ j : Nat, j ≤ k ∧ i = .int .i64 j ∧ s = .string (bs (flat (z.take j))) ∧ Below W.heap.size W wr) (fun _ i _ => k - (intOf i).toNat)
        case atStart => exact ⟨0, by omega, rfl, rfl, HB0.out⟩
        case round =>
          obtain ⟨j, hj, rfl, rfl, hbel⟩ := hrel
          have HBEL := Lib.hid hbel; clear hbel
          obtain ⟨G, hG⟩ : ∃ G, flat (z.take j) = G := ⟨_, rfl⟩
          have hGl : G.length = tot (z.take j) := by rw [← hG]; exact flat_length fun s hs => HZ.out s (List.mem_of_mem_take hs)
          have zG : (bs G).size ≤ 400 := by rw [bs_size, hGl]; have := tot_take_le z j; omega
          have HG := Lib.hid hG
          rw [hG]
          clear hG
          by_cases hlt : j < k
          · clear hki hkd
            obtain ⟨b1, o1, rfl, _, hc1⟩ := (HROW.out.below HBEL.out) (by rw [List.length_map, HL.out]; omega)
            have k1 : j < z.length := by rw [HL.out]; exact hlt
            have f1 : wr.cell? ⟨b1, o1 + j, none⟩ = some (.string z[j]) := by rw [hc1 j (by rw [List.length_map]; exact k1)]; simp
            have p1 : z.take (j + 1) = z.take j ++ [z[j]] := List.take_succ_eq_append_getElem k1
            obtain ⟨s1, hs1⟩ : ∃ s1, z[j] = s1 := ⟨_, rfl⟩
            have zs : s1.size ≤ 400 := by have := tot_mem (List.getElem_mem k1); rw [hs1] at this; omega
            rw [hs1] at f1 p1
            have P1 := Lib.hid p1
            clear hc1 p1 hs1
            have hki : (j : Int) < (k : Int) := by omega
            have hk0 : (0 : Int) ≤ (j : Int) := by omega
            go_wp2_with fail
            refine (rframe_any s1 _ (by omega)).mono ?_
            rintro e w1 ⟨rfl, hB1⟩
            have HB1 := Lib.hid hB1; clear hB1
            have zF : (bs (frameL s1.data.toList)).size = s1.size + 8 := by rw [bs_size, frameL_length (by rw [len_data]; omega), len_data]
            go_wp2_with fail
            go_roundw
            case rel => exact ⟨j + 1, by omega, by go_num, by rw [P1.out, flat_snoc, HG.out, bs_append], HBEL.out.trans (HB1.out.mono HBEL.out.size)⟩
            case measure => simp [intOf]; omega
          · obtain rfl : j = k := by omega
            obtain ⟨S, hS⟩ : ∃ S, bs G = S := ⟨_, rfl⟩
            obtain ⟨g, hg⟩ : ∃ g, S.size = g := ⟨_, rfl⟩
            rw [hS] at zG ⊢
            rw [hg] at zG
            clear HG hGl hS hki hkd HZ HL
            obtain ⟨c, hc⟩ : ∃ c, y % (g + 1) = c := ⟨_, rfl⟩
            have hcl : c < g + 1 := by rw [← hc]; exact Nat.mod_lt _ (by omega)
            have hci : (y : Int) % ((g : Int) + 1) = (c : Int) := by rw [← hc]; simp
            obtain ⟨d, hd⟩ : ∃ d, g - c = d := ⟨_, rfl⟩
            have hdi : (g : Int) - (c : Int) = (d : Int) := by omega
            have hdl : d ≤ g := by omega
            have hd0 : (0 : Int) ≤ (d : Int) := by omega
            have hdg : (d : Int) ≤ (g : Int) := by omega
            obtain ⟨C, hC⟩ : ∃ C, S.extract 0 d = C := ⟨_, rfl⟩
            have zC : C.size ≤ 400 := by rw [← hC, ByteArray.size_extract]; omega
            clear hc hd
            have hsum : (((Crc.sum b.data.toList).toNat : Int) == ((Crc.sum b.data.toList).toNat : Int)) = true := by simp
            obtain ⟨N, hN⟩ : ∃ N, (Crc.sum b.data.toList).toNat = N := ⟨_, rfl⟩
            have HN := Lib.hid hN
            rw [hN] at hsum
            obtain ⟨F, hF⟩ : ∃ F, bs (frameL b.data.toList) = F := ⟨_, rfl⟩
            have HF := Lib.hid hF
            have hfr : (F.toList == F.toList) = true := by simp
            clear hN hF
            by_cases hg0 : g = 0
            · have hgp : ¬ (0 : Int) < (g : Int) := by omega
              go_wp2_with fail
              refine (sum_any b _ (by omega)).mono ?_
              rintro e x1 ⟨rfl, hB⟩
              have HBx1 := Lib.hid hB; clear hB
              rw [HN.out]
              go_wp2_with fail
              refine (rsum_any b _ (by omega)).mono ?_
              rintro e _ ⟨rfl, rfl⟩
              rw [HN.out]
              go_wp2_with fail
              refine (frame_any b _ wb).mono ?_
              rintro e x2 ⟨rfl, hB⟩
              have HBx2 := Lib.hid hB; clear hB
              rw [HF.out]
              go_wp2_with fail
              refine (rframe_any b _ wb).mono ?_
              rintro e x3 ⟨rfl, hB⟩
              have HBx3 := Lib.hid hB; clear hB
              rw [HF.out]
              go_wp2_with fail
              refine (asks_any b _ (by omega)).mono ?_
              rintro e x4 ⟨rfl, hB⟩
              have HBx4 := Lib.hid hB; clear hB
              go_wp2_with fail
              refine (asks_any S _ (by omega)).mono ?_
              rintro e x8 ⟨rfl, hB⟩
              have HBx8 := Lib.hid hB; clear hB
              go_wp2_with fail
              refine (asks_any _ _ (by omega)).mono ?_
              rintro e x5 ⟨rfl, hB⟩
              have HBx5 := Lib.hid hB; clear hB
              go_wp2_with fail
              refine (asks_any _ _ (by first | omega | decide)).mono ?_
              rintro e x6 ⟨rfl, hB⟩
              have HBx6 := Lib.hid hB; clear hB
              go_wp2_with fail
              refine (asks_any _ _ (by simp; omega)).mono ?_
              rintro e x7 ⟨rfl, hB⟩
              have HBx7 := Lib.hid hB; clear hB
              go_wp2_with fail
              go_ret
              have b0 : Below W.heap.size W wr := HBEL.out
              have b1 := b0.trans (HBx1.out.mono b0.size)
              have b2 := b1.trans (HBx2.out.mono b1.size)
              have b3 := b2.trans (HBx3.out.mono b2.size)
              have b4 := b3.trans (HBx4.out.mono b3.size)
              have b5 := b4.trans (HBx8.out.mono b4.size)
              have b6 := b5.trans (HBx5.out.mono b5.size)
              have b7 := b6.trans (HBx6.out.mono b6.size)
              have b8 := b7.trans (HBx7.out.mono b7.size)
              exact ⟨rfl, b8⟩
            · have hgp : (0 : Int) < (g : Int) := by omega
              obtain ⟨p, hp⟩ : ∃ p, t % g = p := ⟨_, rfl⟩
              have hpl : p < g := by rw [← hp]; exact Nat.mod_lt _ (by omega)
              have hpi : (t : Int) % (g : Int) = (p : Int) := by rw [← hp]; simp
              have hx0 : (0 : Int) ≤ (p : Int) := by omega
              have hx2 : (p : Int).toNat = p := by omega
              have hx3 : (p : Int) ≤ (g : Int) := by omega
              have hx4 : (p : Int) + 1 ≤ (g : Int) := by omega
              have hx5 : (0 : Int) ≤ (p : Int) + 1 := by omega
              have hx6 : ((p : Int) + 1).toNat = p + 1 := by omega
              have hx7 : IntKind.i64.wrap ((p : Int) + 1) = (p : Int) + 1 := by rw [IntKind.wrap_i64]; omega
              have zP : (S.extract 0 p).size = p := by rw [ByteArray.size_extract]; omega
              have zT : (S.extract (p + 1) g).size = g - (p + 1) := by rw [ByteArray.size_extract]; omega
              have zD : (bs [UInt8.ofNat u]).size = 1 := bs_size _
              clear hp
              have hcv : (convert 22 9 (.slice (some ⟨wr.heap.size, 0, none⟩) 1 1)).run Try.prog (wr.alloc (.cells #[.int .u8 (u : Int)] 5)).drew = .ok (.string (bs [UInt8.ofNat u])) (wr.alloc (.cells #[.int .u8 (u : Int)] 5)).drew := by
                refine conv_bytes _ 22 9 5 Try.underlying22 Try.underlying5 Try.underlying9 wr.heap.size 0 1 1 [UInt8.ofNat u] rfl ?_
                intro j hj
                obtain rfl : j = 0 := by simpa using hj
                have e : (([UInt8.ofNat u][0]'hj).toNat : Int) = (u : Int) := by
                  show ((UInt8.ofNat u).toNat : Int) = _
                  rw [UInt8.toNat_ofNat']; omega
                rw [e]
                exact cell_one_new wr _ _ 0 _ rfl
              go_wp2_with fail
              go_region_held (fun _ => True) (trivial) (fail)
              obtain ⟨w9, hw9⟩ : ∃ w9, (wr.alloc (.cells #[.int .u8 (u : Int)] 5)).drew = w9 := ⟨_, rfl⟩
              have hB9 : Below wr.heap.size wr (wr.alloc (.cells #[.int .u8 (u : Int)] 5)).drew := by go_grown
              rw [hw9] at hB9 ⊢
              have HB9 := Lib.hid hB9
              clear hcv hw9 hB9
              obtain ⟨T, hT⟩ : ∃ T, S.extract 0 p ++ bs [UInt8.ofNat u] ++ S.extract (p + 1) g = T := ⟨_, rfl⟩
              have zTT : T.size ≤ 401 := by rw [← hT]; simp only [ByteArray.size_append, zP, zD, zT]; omega
              rw [hT]
              clear hT zP zD zT
              go_wp2_with fail
              refine (sum_any b _ (by omega)).mono ?_
              rintro e x1 ⟨rfl, hB⟩
              have HBx1 := Lib.hid hB; clear hB
              rw [HN.out]
              go_wp2_with fail
              refine (rsum_any b _ (by omega)).mono ?_
              rintro e _ ⟨rfl, rfl⟩
              rw [HN.out]
              go_wp2_with fail
              refine (frame_any b _ wb).mono ?_
              rintro e x2 ⟨rfl, hB⟩
              have HBx2 := Lib.hid hB; clear hB
              rw [HF.out]
              go_wp2_with fail
              refine (rframe_any b _ wb).mono ?_
              rintro e x3 ⟨rfl, hB⟩
              have HBx3 := Lib.hid hB; clear hB
              rw [HF.out]
              go_wp2_with fail
              refine (asks_any b _ (by omega)).mono ?_
              rintro e x4 ⟨rfl, hB⟩
              have HBx4 := Lib.hid hB; clear hB
              go_wp2_with fail
              refine (asks_any S _ (by omega)).mono ?_
              rintro e x8 ⟨rfl, hB⟩
              have HBx8 := Lib.hid hB; clear hB
              go_wp2_with fail
              refine (asks_any _ _ (by omega)).mono ?_
              rintro e x5 ⟨rfl, hB⟩
              have HBx5 := Lib.hid hB; clear hB
              go_wp2_with fail
              refine (asks_any _ _ (by omega)).mono ?_
              rintro e x6 ⟨rfl, hB⟩
              have HBx6 := Lib.hid hB; clear hB
              go_wp2_with fail
              refine (asks_any _ _ (by simp; omega)).mono ?_
              rintro e x7 ⟨rfl, hB⟩
              have HBx7 := Lib.hid hB; clear hB
              go_wp2_with fail
              go_ret
              have b0 : Below W.heap.size W w9 := HBEL.out.trans (HB9.out.mono HBEL.out.size)
              have b1 := b0.trans (HBx1.out.mono b0.size)
              have b2 := b1.trans (HBx2.out.mono b1.size)
              have b3 := b2.trans (HBx3.out.mono b2.size)
              have b4 := b3.trans (HBx4.out.mono b3.size)
              have b5 := b4.trans (HBx8.out.mono b4.size)
              have b6 := b5.trans (HBx5.out.mono b5.size)
              have b7 := b6.trans (HBx6.out.mono b6.size)
              have b8 := b7.trans (HBx7.out.mono b7.size)
              exact ⟨rfl, b8⟩
