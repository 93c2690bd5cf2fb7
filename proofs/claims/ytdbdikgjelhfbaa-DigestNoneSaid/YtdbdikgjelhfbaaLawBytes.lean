/-
  The law DigestBytes, walked: whatever the bytes and the number, it answers true.
-/
import Derived.Test.YtdbdikgjelhfbaaLawPieces
import Derived.Test.YtdbdikgjelhfbaaLong
namespace Go.Proofs.Ytdbdikgjelhfbaa
open Go.RowKit Sha Go.Proofs.YtdbdikgjelhfbaaW.PrintWords Go.Proofs.YtdbdikgjelhfbaaW.PrintLast
set_option linter.unusedSimpArgs false
set_option maxRecDepth 100000 in
set_option maxHeartbeats 1000000 in
theorem digestBytes_walk (a0 : Option Addr) (len0 cap0 : Nat) (z0 : List Int) (a1 : Int) (W : World) (x0 : z0.length = len0) (y0 : RowAt W a0 (z0.map (.int .u8))) (u0 : ∀ z ∈ z0, (Lit.int .u8 z).wf = true) (_b0 : len0 * 1 ≤ 140737488351232) (c0 : len0 ≤ cap0) (m0 : cap0 ≤ maxLen) (w1 : (Lit.int .u8 a1).wf = true) :
    Calls Try.prog 8 #[.slice a0 len0 cap0, .int .u8 a1] W fun e w' => e = .returned (.bool true) ∧ Below W.heap.size W w' := by
  unfold maxLen at m0
  obtain ⟨l, hll, hr⟩ := rd_of_row y0 u0 (by omega)
  obtain rfl : l.length = len0 := by omega
  clear x0 y0 u0 hll z0 _b0
  have hb := bounds_u8 w1
  obtain ⟨t, rfl⟩ := Int.eq_ofNat_of_zero_le hb.1
  clear w1
  by_cases hbig : 200 < l.length
  · go_enter Try.func8, Try.ntmps8
    go_wp2_with fail
    refine (known_any _).mono ?_
    rintro e w1 ⟨rfl, hb1⟩
    go_wp2_with fail
    go_ret
    exact ⟨rfl, hb1⟩
  · obtain ⟨n, hn⟩ : ∃ n, l.length = n := ⟨_, rfl⟩
    rw [hn] at hbig c0 ⊢
    have HR := Lib.hid hr; have HN := Lib.hid hn
    clear hr hn
    go_enter Try.func8, Try.ntmps8
    go_wp2_with fail
    refine (new_any W).mono ?_
    rintro e w1 ⟨p, rfl, hh, hp, hb1⟩
    have HH := Lib.hid hh; have HB1 := Lib.hid hb1
    clear hh hb1
    go_wp2_with fail
    go_loopw [6] (fun i wr => ∃ j : Nat, j ≤ n ∧ i = .int .i64 j ∧ Holds wr p (l.take j) ∧ Below W.heap.size W wr) (fun i _ => n - (intOf i).toNat)
    case atStart => exact ⟨0, by omega, rfl, HH.out, HB1.out⟩
    case round =>
      obtain ⟨j, hj, rfl, hh, hb2⟩ := hrel
      have HH2 := Lib.hid hh; have HB2 := Lib.hid hb2
      clear hh hb2
      by_cases hlt : j < n
      · obtain ⟨bb, oo, rfl, hbl, _⟩ := HR.out.bytesAt (by rw [HN.out]; omega)
        have hl1 : ((l.drop j).take 1).length = 1 := by rw [List.length_take, List.length_drop, HN.out]; omega
        have hlj : (l.take j).length = j := by rw [List.length_take, HN.out]; omega
        have hr1 : Rd wr (some ⟨bb, oo + j, none⟩) ((l.drop j).take 1) := ((HR.out.back j).front 1 (by rw [List.length_drop, HN.out]; omega)).below HB2.out
        have hcat : l.take j ++ (l.drop j).take 1 = l.take (j + 1) := (List.take_add).symm
        have hw := write_any p (l.take j) ((l.drop j).take 1) (some ⟨bb, oo + j, none⟩) (cap0 - j) wr HH2.out hr1 (fun ad e _ => by cases e; have : bb < W.heap.size := hbl; simp; omega) (by rw [hl1, hlj]; omega)
        rw [hl1, hcat] at hw
        have HW := Lib.hid hw
        clear hw hr1 hcat hl1 hlj
        have hj1 : j + 1 ≤ cap0 := by omega
        go_wp2_with fail
        refine HW.out.mono ?_
        rintro e w3 ⟨rfl, hh3, hg3⟩
        have hb3 := below_grown HB2.out hg3 hp
        have hlj1 : (l.take (j + 1)).length = j + 1 := by rw [List.length_take, HN.out]; omega
        have hw := write_any p (l.take (j + 1)) [] none 0 w3 hh3 (Rd.nil w3) (fun ad e _ => by cases e) (by rw [hlj1]; simp; omega)
        rw [List.append_nil, List.length_nil] at hw
        have HW3 := Lib.hid hw; have HB3 := Lib.hid hb3; have HLJ := Lib.hid hlj1
        clear hw hb3 hh3 hg3 hlj1 HW
        go_wp2_with fail
        refine HW3.out.mono ?_
        rintro e w4 ⟨rfl, hh4, hg4⟩
        have hb4 := below_grown HB3.out hg4 hp
        have HH4 := Lib.hid hh4; have HB4 := Lib.hid hb4
        clear hh4 hg4 hb4 HW3
        go_wp2_with (go_at_call 12; refine (hsum_any p (l.take (j + 1)) w4 HH4.out (by rw [HLJ.out]; omega)).mono ?_; rintro e w5 ⟨v5, rfl, ho5, hb5⟩; obtain ⟨a5, c5, rfl, _, _⟩ := ho5.reads; have HH5 := Lib.hid (HH4.out.below hb5); have HB5 := Lib.hid (below_trans HB4.out hb5); clear ho5 hb5)
        all_goals go_roundw
        case rel => exact ⟨j + 1, by omega, by go_num, HH5.out, HB5.out⟩
        case measure => simp [intOf]; omega
        case rel => exact ⟨j + 1, by omega, by go_num, HH4.out, HB4.out⟩
        case measure => simp [intOf]; omega
      · obtain rfl : j = n := by omega
        have hlf : l.take j = l := List.take_of_length_le (by rw [HN.out]; exact Nat.le_refl _)
        rw [hlf] at HH2
        clear hlf
        go_wp2_with fail
        refine (known_any _).mono ?_
        rintro e w5 ⟨rfl, hb5⟩
        have hb5b := below_trans HB2.out hb5
        have hh5 := HH2.out.below hb5
        have HH5 := Lib.hid hh5; have HB5 := Lib.hid hb5b
        clear hh5 hb5b hb5
        obtain ⟨S2, hS2⟩ : ∃ S, Sha.sum l = S := ⟨_, rfl⟩
        have hS2l : S2.length ≤ 32 := by rw [← hS2, Sha.sum_length]; omega
        have hlong := HN.out
        have HS2 := Lib.hid hS2
        clear hS2 hlong
        go_wp2_with fail
        have hd1 := hsum_any p l w5 HH5.out (by rw [HN.out]; omega)
        rw [HS2.out] at hd1
        have HD1 := Lib.hid hd1
        clear hd1
        refine HD1.out.mono ?_
        rintro e w8 ⟨v8, rfl, ho8, hb8⟩
        obtain ⟨a8, c8, rfl, hc8, hr8⟩ := ho8.reads
        have hb8b := below_trans HB5.out hb8
        have hh8 := HH5.out.below hb8
        have HR8 := Lib.hid hr8; have HB8 := Lib.hid hb8b; have HH8 := Lib.hid hh8
        clear hr8 hb8 hb8b ho8 hh8 HD1
        go_wp2_with fail
        have hd := digest_sum_any a0 cap0 l w8 (HR.out.below HB8.out) (by rw [HN.out]; omega)
        rw [HN.out, HS2.out] at hd
        have HD := Lib.hid hd
        clear hd
        refine HD.out.mono ?_
        rintro e w9 ⟨v9, rfl, ho9, hb9⟩
        obtain ⟨a9, c9, rfl, hc9, hr9⟩ := ho9.reads
        have hb9b := below_trans HB8.out hb9
        have hr89 := HR8.out.below hb9
        have hh9 := HH8.out.below hb9
        have HR9 := Lib.hid hr9; have HB9 := Lib.hid hb9b; have HR89 := Lib.hid hr89; have HH9 := Lib.hid hh9
        clear hr9 hb9 hb9b ho9 hr89 hh9 HD
        go_wp2_with fail
        refine (same_yes a8 a9 c8 c9 S2 w9 HR89.out hc8 HR9.out hc9 (by omega)).mono ?_
        rintro e _ ⟨rfl, q10, rfl⟩
        have hb10 := drewN_below w9 q10
        have HB10 := Lib.hid (below_trans HB9.out hb10)
        have HH10 := Lib.hid (HH9.out.below hb10)
        clear hb10
        obtain ⟨w10, hw10⟩ : ∃ w10, w9.drewN q10 = w10 := ⟨_, rfl⟩
        rw [hw10] at HB10 HH10 ⊢
        clear hw10
        go_wp2_with fail
        have hlg := long_any p l w10 HH10.out
        rw [HN.out] at hlg
        have HLG := Lib.hid hlg
        clear hlg
        refine HLG.out.mono ?_
        rintro e _ ⟨rfl, rfl⟩
        have hwn : IntKind.u64.wrap (j : Int) = (j : Int) := by rw [IntKind.wrap_u64]; omega
        go_wp2_with fail
        have hd1 := hsum_any p l w10 HH10.out (by rw [HN.out]; omega)
        rw [HS2.out] at hd1
        have HD1 := Lib.hid hd1
        clear hd1
        refine HD1.out.mono ?_
        rintro e w11 ⟨v11, rfl, ho11, hb11⟩
        obtain ⟨a11, c11, rfl, hc11, hr11⟩ := ho11.reads
        have hb11b := below_trans HB10.out hb11
        have HR11 := Lib.hid hr11; have HB11 := Lib.hid hb11b
        clear hr11 hb11 hb11b ho11 HD1
        go_wp2_with fail
        have hd := digest_sum_any a0 cap0 l w11 (HR.out.below HB11.out) (by rw [HN.out]; omega)
        rw [HN.out, HS2.out] at hd
        have HD := Lib.hid hd
        clear hd
        refine HD.out.mono ?_
        rintro e w12 ⟨v12, rfl, ho12, hb12⟩
        obtain ⟨a12, c12, rfl, hc12, hr12⟩ := ho12.reads
        have hb12b := below_trans HB11.out hb12
        have hr112 := HR11.out.below hb12
        have HR12 := Lib.hid hr12; have HB12 := Lib.hid hb12b; have HR112 := Lib.hid hr112
        clear hr12 hb12 hb12b ho12 hr112 HD
        go_wp2_with fail
        refine (same_yes a11 a12 c11 c12 S2 w12 HR112.out hc11 HR12.out hc12 (by omega)).mono ?_
        rintro e _ ⟨rfl, q13, rfl⟩
        go_wp2_with fail
        go_ret
        exact ⟨rfl, below_trans HB12.out (drewN_below w12 q13)⟩
end Go.Proofs.Ytdbdikgjelhfbaa
