/-
  The functions Frame and Next, called on any text, return the plain frame and the plain answer.
-/
import Derived.Test.YtfjighamaamkcaaFourBytes
import Derived.Deep.QuietTactic
import Derived.BigQuiet
import Derived.WalkSmall
namespace Go.Proofs.Ytfjighamaamkcaa
open Go.RowKit

theorem put_nat (n : Nat) (hn : n < 4294967296) (w : World) :
    Calls Try.prog 20 #[.int .u32 n] w fun e w' => e = .returned (.string (bs (fourB n))) ∧ Below w.heap.size w w' := by
  have h := put_any (BitVec.ofNat 32 n) w
  rwa [BitVec.toNat_ofNat, Nat.mod_eq_of_lt hn] at h
theorem append_toList (a b : ByteArray) : (a ++ b).data.toList = a.data.toList ++ b.data.toList := by
  rw [ByteArray.data_append, Array.toList_append]
def frameL (b : List UInt8) : List UInt8 := if 131072 < b.length then [] else fourB b.length ++ fourB (Crc.sum (fourB b.length ++ b)).toNat ++ b
theorem frameL_long {b : List UInt8} (h : 131072 < b.length) : frameL b = [] := by
  unfold frameL
  exact if_pos h
theorem frameL_short {b : List UInt8} (h : ¬ 131072 < b.length) : frameL b = fourB b.length ++ fourB (Crc.sum (fourB b.length ++ b)).toNat ++ b := if_neg h
theorem len_data (s : ByteArray) : s.data.toList.length = s.size := Array.length_toList

set_option maxRecDepth 100000 in
theorem frame_any (s : ByteArray) (w : World) (hs : s.size ≤ 140737488351232) :
    Calls Try.prog 12 #[.string s] w fun e w' => e = .returned (.string (bs (frameL s.data.toList))) ∧ Below w.heap.size w w' := by
  by_cases h : 131072 < s.size
  · go_enter Try.func12, Try.ntmps12
    go_wp2_with fail
    go_ret
    rw [frameL_long (by rw [len_data]; exact h)]
    exact ⟨rfl, Below.refl _ _⟩
  · go_enter Try.func12, Try.ntmps12
    go_wp2_with fail
    refine (put_nat s.size (by omega) _).mono ?_
    rintro e w1 ⟨rfl, hB⟩
    have HB := Lib.hid hB; clear hB
    have z4 : (bs (fourB s.size)).size = 4 := bs_size _
    go_wp2_with fail
    refine (sum_any _ _ (by simp; omega)).mono ?_
    rintro e w2 ⟨rfl, hB⟩
    have HB2 := Lib.hid hB; clear hB
    rw [append_toList, bs_toList]
    obtain ⟨N, hN⟩ : ∃ N, Crc.sum (fourB s.size ++ s.data.toList) = N := ⟨_, rfl⟩
    rw [hN]
    have HN := Lib.hid hN; clear hN
    have hn := N.isLt
    go_wp2_with fail
    refine (put_nat N.toNat hn _).mono ?_
    rintro e w3 ⟨rfl, hB⟩
    have HB3 := Lib.hid hB; clear hB
    have z5 : (bs (fourB N.toNat)).size = 4 := bs_size _
    go_wp2_with fail
    go_ret
    refine ⟨?_, ((HB.out).trans (HB2.out.mono HB.out.size)).trans (HB3.out.mono (Nat.le_trans HB.out.size HB2.out.size))⟩
    show Ending.returned (Value.string (bs (fourB s.size) ++ bs (fourB N.toNat) ++ s)) = _
    rw [frameL_short (by rw [len_data]; exact h), len_data, HN.out, bs_append]
    conv => lhs; rw [← bs_data s]
    rw [bs_append, bs_data]

/-- The text that a row of bytes begins with, and how many bytes it took. -/
def nextL (s : List UInt8) : List UInt8 × Nat :=
  if s.length < 8 then ([], 0)
  else if 131072 < numB s ∨ s.length - 8 < numB s then ([], 0)
  else if numB (s.drop 4) = (Crc.sum (s.take 4 ++ (s.drop 8).take (numB s))).toNat then ((s.drop 8).take (numB s), 8 + numB s)
  else ([], 0)
theorem numB_lt (l : List UInt8) : numB l < 4294967296 := by
  unfold numB
  match l with
  | [] => decide
  | [a] => have := a.toNat_lt; simp; omega
  | [a, b] => have := a.toNat_lt; have := b.toNat_lt; simp; omega
  | [a, b, c] => have := a.toNat_lt; have := b.toNat_lt; have := c.toNat_lt; simp; omega
  | a :: b :: c :: d :: _ => have := a.toNat_lt; have := b.toNat_lt; have := c.toNat_lt; have := d.toNat_lt; simp; omega
theorem extract_toList (s : ByteArray) (i j : Nat) : (s.extract i j).data.toList = (s.data.toList.drop i).take (j - i) := by
  simp [List.extract_eq_take_drop]

set_option maxRecDepth 100000 in
theorem next_any (s : ByteArray) (w : World) (hs : s.size ≤ 140737488351232) :
    Calls Try.prog 13 #[.string s] w fun e w' => e = .returned (.tuple #[.string (bs (nextL s.data.toList).1), .int .i64 (nextL s.data.toList).2]) ∧ Below w.heap.size w w' := by
  by_cases h : s.size < 8
  · have hr : nextL s.data.toList = ([], 0) := by unfold nextL; rw [if_pos (by rw [len_data]; exact h)]
    rw [hr]; clear hr
    go_enter Try.func13, Try.ntmps13
    go_wp2_with fail
    go_ret2
    exact ⟨rfl, Below.refl _ _⟩
  · obtain ⟨n, hn⟩ : ∃ n, numB s.data.toList = n := ⟨_, rfl⟩
    have hlt : n < 4294967296 := by rw [← hn]; exact numB_lt _
    by_cases h2 : 131072 < n ∨ s.size - 8 < n
    · have hr : nextL s.data.toList = ([], 0) := by unfold nextL; rw [if_neg (by rw [len_data]; exact h), if_pos (by rw [len_data, hn]; exact h2)]
      rw [hr]; clear hr
      have HN := Lib.hid hn; clear hn
      by_cases h3 : 131072 < n
      · go_enter Try.func13, Try.ntmps13
        go_wp2_with fail
        refine (get_any s _ (by omega) (by omega)).mono ?_
        rintro e w1 ⟨rfl, rfl⟩
        rw [HN.out]
        go_wp2_with fail
        go_ret2
        exact ⟨rfl, Below.refl _ _⟩
      · have h4 : s.size - 8 < n := by omega
        go_enter Try.func13, Try.ntmps13
        go_wp2_with fail
        refine (get_any s _ (by omega) (by omega)).mono ?_
        rintro e w1 ⟨rfl, rfl⟩
        rw [HN.out]
        clear h2
        go_wp2_with fail
        go_ret2
        exact ⟨rfl, Below.refl _ _⟩
    · have h3 : n ≤ 131072 := by omega
      have h4 : n + 8 ≤ s.size := by omega
      obtain ⟨m, hm⟩ : ∃ m, numB (s.data.toList.drop 4) = m := ⟨_, rfl⟩
      obtain ⟨N, hN⟩ : ∃ N, Crc.sum (s.data.toList.take 4 ++ (s.data.toList.drop 8).take n) = N := ⟨_, rfl⟩
      have hml : m < 4294967296 := by rw [← hm]; exact numB_lt _
      have hNl : N.toNat < 4294967296 := N.isLt
      have e4 : (s.extract 4 s.size).data.toList = s.data.toList.drop 4 := by
        rw [extract_toList, List.take_of_length_le (by simp)]
      have e0 : (s.extract 0 4).data.toList = s.data.toList.take 4 := by
        rw [extract_toList]; rfl
      have e8 : (s.extract 8 (8 + n)).data.toList = (s.data.toList.drop 8).take n := by
        rw [extract_toList, Nat.add_sub_cancel_left]
      have E8 := Lib.hid (show s.extract 8 (8 + n) = bs ((s.data.toList.drop 8).take n) by rw [← e8, bs_data])
      have E4 := Lib.hid e4; have E0 := Lib.hid e0; have E8' := Lib.hid e8; have HM := Lib.hid hm; have HS := Lib.hid hN
      have h0n : ¬ s.data.toList.length < 8 := by rw [len_data]; exact h
      have hr : nextL s.data.toList = if m = N.toNat then ((s.data.toList.drop 8).take n, 8 + n) else ([], 0) := by
        unfold nextL; rw [if_neg h0n, if_neg (by rw [len_data, hn]; exact h2), hn, hm, hN]
      have HN := Lib.hid hn
      clear hn hm hN e4 e0 e8 h0n h2
      by_cases hq : m = N.toNat
      · rw [if_pos hq] at hr
        rw [hr]; clear hr
        have hb : ((m : Int) != (N.toNat : Int)) = false := by rw [hq]; simp
        clear hq
        go_enter Try.func13, Try.ntmps13
        go_wp2_with fail
        refine (get_any s _ (by omega) (by omega)).mono ?_
        rintro e w1 ⟨rfl, rfl⟩
        rw [HN.out]
        go_wp2_with fail
        go_quiet (fail)
        go_wp2_with fail
        refine (get_any _ _ (by simp; omega) (by simp; omega)).mono ?_
        rintro e w1 ⟨rfl, rfl⟩
        rw [E4.out, HM.out]
        go_wp2_with fail
        refine (sum_any _ _ (by simp; omega)).mono ?_
        rintro e w1 ⟨rfl, hB⟩
        have HB := Lib.hid hB; clear hB
        rw [append_toList, E0.out, E8'.out, HS.out]
        go_wp2_with fail
        go_ret2
        refine ⟨?_, (below_drewN (Below.refl w.heap.size w) nq).trans HB.out⟩
        show Ending.returned (Value.tuple #[Value.string (s.extract 8 (8 + n)), Value.int .i64 (8 + (n : Int))]) = _
        rw [E8.out, Int.natCast_add]; rfl
      · rw [if_neg hq] at hr
        rw [hr]; clear hr
        have hb : ((m : Int) != (N.toNat : Int)) = true := by simp; omega
        clear hq
        go_enter Try.func13, Try.ntmps13
        go_wp2_with fail
        refine (get_any s _ (by omega) (by omega)).mono ?_
        rintro e w1 ⟨rfl, rfl⟩
        rw [HN.out]
        go_wp2_with fail
        go_quiet (fail)
        go_wp2_with fail
        refine (get_any _ _ (by simp; omega) (by simp; omega)).mono ?_
        rintro e w1 ⟨rfl, rfl⟩
        rw [E4.out, HM.out]
        go_wp2_with fail
        refine (sum_any _ _ (by simp; omega)).mono ?_
        rintro e w1 ⟨rfl, hB⟩
        have HB := Lib.hid hB; clear hB
        rw [append_toList, E0.out, E8'.out, HS.out]
        go_wp2_with fail
        go_ret2
        exact ⟨rfl, (below_drewN (Below.refl w.heap.size w) nq).trans HB.out⟩
