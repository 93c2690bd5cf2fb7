/-
  The reference's Next, called on any text, returns the same plain answer as Next.
-/
import Derived.Test.YtfjighamaamkcaaRefFrame
namespace Go.Proofs.Ytfjighamaamkcaa
open Go.RowKit

theorem fourB_numB (l : List UInt8) (h : 4 ≤ l.length) : fourB (numB l) = l.take 4 := by
  match l, h with
  | a :: b :: c :: d :: r, _ =>
    have ha := a.toNat_lt; have hb := b.toNat_lt; have hc := c.toNat_lt; have hd := d.toNat_lt
    simp only [numB, List.take, List.foldl, fourB]
    congr
    · apply UInt8.toNat_inj.1; simp; try omega
    · apply UInt8.toNat_inj.1; simp; try omega
    · apply UInt8.toNat_inj.1; simp; try omega
    · apply UInt8.toNat_inj.1; simp; try omega
theorem numB_fourB (n : Nat) (h : n < 4294967296) (r : List UInt8) : numB (fourB n ++ r) = n := by
  simp [numB, fourB]; omega
theorem fourB_length (n : Nat) : (fourB n).length = 4 := rfl
theorem frame_is (s : List UInt8) (n : Nat) (h8 : 8 ≤ s.length) (hn : numB s = n) (h1 : n ≤ 131072) (h2 : n + 8 ≤ s.length) :
    (frameL ((s.drop 8).take n) = s.take (8 + n)) ↔ numB (s.drop 4) = (Crc.sum (s.take 4 ++ (s.drop 8).take n)).toNat := by
  have hb : ((s.drop 8).take n).length = n := by simp; omega
  have e4 : fourB n = s.take 4 := by rw [← hn, fourB_numB _ (by omega)]
  have e8 : s.take (8 + n) = s.take 4 ++ (s.drop 4).take 4 ++ (s.drop 8).take n := by
    rw [List.take_add, show (8 : Nat) = 4 + 4 from rfl, List.take_add]
  rw [frameL_short (by rw [hb]; omega), hb, e4, e8]
  have f4 : (s.drop 4).take 4 = fourB (numB (s.drop 4)) := by rw [fourB_numB _ (by simp; omega)]
  rw [f4]
  have hN := (Crc.sum (s.take 4 ++ (s.drop 8).take n)).isLt
  constructor
  · intro h
    have h' := List.append_inj_left h (by simp [fourB_length])
    have h'' := List.append_inj_right h' rfl
    have := congrArg (fun l => numB (l ++ [])) h''
    simp only [numB_fourB _ hN, numB_fourB _ (numB_lt _)] at this
    exact this.symm
  · intro h
    rw [h]

set_option maxRecDepth 100000 in
theorem rnext_any (s : ByteArray) (w : World) (hs : s.size ≤ 140737488351232) :
    Calls Try.prog 24 #[.string s] w fun e w' => e = .returned (.tuple #[.string (bs (nextL s.data.toList).1), .int .i64 (nextL s.data.toList).2]) ∧ Below w.heap.size w w' := by
  by_cases h : s.size < 8
  · have hr : nextL s.data.toList = ([], 0) := by unfold nextL; rw [if_pos (by rw [len_data]; exact h)]
    rw [hr]; clear hr
    go_enter Try.func24, Try.ntmps24
    go_wp2_with fail
    go_ret2
    exact ⟨rfl, Below.refl _ _⟩
  · obtain ⟨n, hn⟩ : ∃ n, numB s.data.toList = n := ⟨_, rfl⟩
    have hlt : n < 4294967296 := by rw [← hn]; exact numB_lt _
    by_cases h2 : 131072 < n ∨ s.size - 8 < n
    · have hr : nextL s.data.toList = ([], 0) := by unfold nextL; rw [if_neg (by rw [len_data]; exact h), if_pos (by rw [len_data, hn]; exact h2)]
      rw [hr]; clear hr
      have HN := Lib.hid hn; clear hn
      by_cases h3 : 131072 < n
      · go_enter Try.func24, Try.ntmps24
        go_wp2_with fail
        refine (number_any s _ (by omega) (by omega)).mono ?_
        rintro e w1 ⟨rfl, q, rfl⟩
        rw [HN.out]
        go_wp2_with fail
        go_ret2
        exact ⟨rfl, below_drewN (Below.refl w.heap.size w) q⟩
      · have h4 : s.size - 8 < n := by omega
        go_enter Try.func24, Try.ntmps24
        go_wp2_with fail
        refine (number_any s _ (by omega) (by omega)).mono ?_
        rintro e w1 ⟨rfl, q, rfl⟩
        rw [HN.out]
        clear h2
        go_wp2_with fail
        go_ret2
        exact ⟨rfl, below_drewN (Below.refl w.heap.size w) q⟩
    · have h3 : n ≤ 131072 := by omega
      have h4 : n + 8 ≤ s.size := by omega
      have e8 : (s.extract 8 (8 + n)).data.toList = (s.data.toList.drop 8).take n := by
        rw [extract_toList, Nat.add_sub_cancel_left]
      have eA : (s.extract 0 (8 + n)).data.toList = s.data.toList.take (8 + n) := by
        rw [extract_toList]; rfl
      have E8 := Lib.hid (show s.extract 8 (8 + n) = bs ((s.data.toList.drop 8).take n) by rw [← e8, bs_data])
      have E8' := Lib.hid e8; have EA := Lib.hid eA
      have h0n : ¬ s.data.toList.length < 8 := by rw [len_data]; exact h
      have hiff := frame_is s.data.toList n (by omega) hn h3 (by rw [len_data]; exact h4)
      have hr : nextL s.data.toList = if frameL ((s.data.toList.drop 8).take n) = s.data.toList.take (8 + n) then ((s.data.toList.drop 8).take n, 8 + n) else ([], 0) := by
        unfold nextL; rw [if_neg h0n, if_neg (by rw [len_data, hn]; exact h2), hn]
        simp only [hiff]
      have HN := Lib.hid hn
      clear hn e8 eA h0n h2 hiff
      obtain ⟨X, hX⟩ : ∃ X, (s.data.toList.drop 8).take n = X := ⟨_, rfl⟩
      rw [hX] at hr E8 E8'
      have hXl : X.length ≤ n := by rw [← hX]; exact List.length_take_le _ _
      have k3 : (8 + (n : Int)).toNat = 8 + n := by omega
      have k1 : (0 : Int) ≤ 8 + (n : Int) := by omega
      have k2 : (8 : Int) + (n : Int) ≤ (s.size : Int) := by omega
      have HX := Lib.hid hX; clear hX
      have hw8 : IntKind.i64.wrap (8 + (n : Int)) = 8 + (n : Int) := i64_small _ (by omega) (by omega)
      by_cases hq : frameL X = s.data.toList.take (8 + n)
      · rw [if_pos hq] at hr
        rw [hr]; clear hr
        have hb : ((bs (frameL X)).toList == (s.extract 0 (8 + n)).toList) = true := by rw [Lib.toList_data, Lib.toList_data, EA.out, bs_toList, hq]; simp
        clear hq
        go_enter Try.func24, Try.ntmps24
        go_wp2_with fail
        refine (number_any s _ (by omega) (by omega)).mono ?_
        rintro e w1 ⟨rfl, q, rfl⟩
        rw [HN.out]
        go_wp2_with fail
        rw [E8.out]
        go_region_held3 (fun _ => True) (trivial) (first | (go_at_call 15; refine (rframe_any _ _ (by rw [bs_size]; omega)).mono ?_; rintro e w2 ⟨rfl, hB⟩; rw [bs_toList]))
        have HB := Lib.hid hB; clear hB
        go_wp2_with fail
        go_ret2
        refine ⟨?_, (below_drewN (Below.refl w.heap.size w) (q + 1)).trans HB.out⟩
        show Ending.returned (Value.tuple #[Value.string (bs X), Value.int .i64 (8 + (n : Int))]) = _
        rw [Int.natCast_add]; rfl
      · rw [if_neg hq] at hr
        rw [hr]; clear hr
        have hb : ((bs (frameL X)).toList == (s.extract 0 (8 + n)).toList) = false := by rw [Lib.toList_data, Lib.toList_data, EA.out, bs_toList]; simpa using hq
        clear hq
        go_enter Try.func24, Try.ntmps24
        go_wp2_with fail
        refine (number_any s _ (by omega) (by omega)).mono ?_
        rintro e w1 ⟨rfl, q, rfl⟩
        rw [HN.out]
        go_wp2_with fail
        rw [E8.out]
        go_region_held3 (fun _ => True) (trivial) (first | (go_at_call 15; refine (rframe_any _ _ (by rw [bs_size]; omega)).mono ?_; rintro e w2 ⟨rfl, hB⟩; rw [bs_toList]))
        have HB := Lib.hid hB; clear hB
        go_wp2_with fail
        go_ret2
        exact ⟨rfl, (below_drewN (Below.refl w.heap.size w) (q + 1)).trans HB.out⟩
