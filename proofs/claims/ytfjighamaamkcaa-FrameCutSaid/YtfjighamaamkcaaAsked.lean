/-
  The laws' helpers known, same and asks answer true on any text.
-/
import Derived.Test.YtfjighamaamkcaaAll
import Derived.Test.YtfjighamaamkcaaOpen
namespace Go.Proofs.Ytfjighamaamkcaa
open Go.RowKit

theorem frameL_length {b : List UInt8} (h : ¬ 131072 < b.length) : (frameL b).length = b.length + 8 := by
  rw [frameL_short h]; simp [fourB]

set_option maxRecDepth 100000 in
theorem known_any (w : World) : Calls Try.prog 10 #[] w fun e w' => e = .returned (.bool true) ∧ Below w.heap.size w w' := by
  go_enter Try.func10, Try.ntmps10
  go_wp2_with fail
  refine (sum_any _ _ (by decide)).mono ?_
  rintro e w1 ⟨rfl, hB⟩
  have HB := Lib.hid hB; clear hB
  rw [show (Crc.sum (ByteArray.mk #[49, 50, 51, 52, 53, 54, 55, 56, 57]).data.toList).toNat = 3808858755 from by rw [show (ByteArray.mk #[49, 50, 51, 52, 53, 54, 55, 56, 57]).data.toList = [0x31, 0x32, 0x33, 0x34, 0x35, 0x36, 0x37, 0x38, 0x39] from rfl, Crc.sum_known]; rfl]
  go_wp2_with fail
  refine (frame_any _ _ (by decide)).mono ?_
  rintro e w2 ⟨rfl, hB2⟩
  have HB2 := Lib.hid hB2; clear hB2
  have hz : (bs (frameL (ByteArray.mk #[97]).data.toList)).size = 9 := by rw [bs_size, frameL_length (by decide)]; rfl
  go_wp2_with fail
  go_ret
  exact ⟨rfl, HB.out.trans (HB2.out.mono HB.out.size)⟩

/-- A row of texts that is read. -/
def Texts (W : World) (v : Value) (l : List ByteArray) : Prop := ∃ a c, v = .slice a l.length c ∧ RowAt W a (l.map .string) ∧ l.length ≤ 4611686018427387904
theorem Texts.below {W W' : World} {v : Value} {l : List ByteArray} (h : Texts W v l) (hb : Below W.heap.size W W') : Texts W' v l := by
  obtain ⟨a, c, e, hr, hl⟩ := h
  exact ⟨a, c, e, hr.below hb, hl⟩
theorem texts_own {W : World} {base n : Nat} {v : Value} {l : List (List UInt8)} (h : W.ownsRow base 9 1 v n (txts l)) (hn : n ≤ 4611686018427387904) : Texts W v (l.map bs) := by
  have hl : l.length = n := by have := h.1; simp [txts] at this; exact this
  rcases h.2 with ⟨rfl, h0⟩ | ⟨g, cap, cur, rfl, hb, hg, rest⟩
  · obtain rfl : l = [] := List.eq_nil_of_length_eq_zero (by omega)
    exact ⟨none, 0, rfl, fun hp => absurd hp (by simp), by simp⟩
  · refine ⟨some ⟨g, 0, none⟩, cap, by rw [List.length_map, hl], fun hp => ⟨g, 0, rfl, (Array.getElem?_eq_some_iff.1 hg).1, fun i hi => ?_⟩, by rw [List.length_map]; omega⟩
    have hi' : i < l.length := by simpa using hi
    have := h.cells (g := g) rfl i (Value.string (bs l[i])) (by simp [txts, List.getElem?_eq_getElem hi'])
    rw [show (⟨g, 0, none⟩ : Addr).add i = ⟨g, 0 + i, none⟩ by unfold Addr.add; split <;> simp_all] at this
    rw [this]; simp

set_option maxRecDepth 100000 in
theorem same_any (v1 v2 : Value) (l1 l2 : List ByteArray) (w : World) (h1 : Texts w v1 l1) (h2 : Texts w v2 l2) :
    Calls Try.prog 18 #[v1, v2] w fun e w' => e = .returned (.bool (decide (l1 = l2))) ∧ ∃ n, w' = w.drewN n := by
  obtain ⟨a1, c1, rfl, hr1, hm1⟩ := h1
  obtain ⟨a2, c2, rfl, hr2, hm2⟩ := h2
  by_cases hlen : l1.length = l2.length
  · obtain ⟨n, hn⟩ : ∃ n, l1.length = n := ⟨_, rfl⟩
    have hn2 : l2.length = n := by omega
    have H1 := Lib.hid hn; have H2 := Lib.hid hn2; have HR1 := Lib.hid hr1; have HR2 := Lib.hid hr2
    rw [hn, hn2]
    rw [hn] at hm1
    clear hn hn2 hlen hm2 hr1 hr2
    go_enter Try.func18, Try.ntmps18
    go_wp2_with fail
    go_loopw [5] (fun i wr => ∃ k : Nat, k ≤ n ∧ i = .int .i64 k ∧ l1.take k = l2.take k ∧ ∃ q, wr = w.drewN q) (fun i _ => n - (intOf i).toNat)
    case atStart => exact ⟨0, by omega, rfl, rfl, 0, rfl⟩
    case round =>
      obtain ⟨k, hk, rfl, ht, q, rfl⟩ := hrel
      have HT := Lib.hid ht; clear ht
      by_cases hlt : k < n
      · obtain ⟨b1, o1, rfl, _, hc1⟩ := HR1.out (by rw [List.length_map, H1.out]; omega)
        obtain ⟨b2, o2, rfl, _, hc2⟩ := HR2.out (by rw [List.length_map, H2.out]; omega)
        have k1 : k < l1.length := by rw [H1.out]; exact hlt
        have k2 : k < l2.length := by rw [H2.out]; exact hlt
        have f1 : w.cell? ⟨b1, o1 + k, none⟩ = some (.string l1[k]) := by rw [hc1 k (by rw [List.length_map]; exact k1)]; simp
        have f2 : w.cell? ⟨b2, o2 + k, none⟩ = some (.string l2[k]) := by rw [hc2 k (by rw [List.length_map]; exact k2)]; simp
        have p1 : l1.take (k + 1) = l1.take k ++ [l1[k]] := List.take_succ_eq_append_getElem k1
        have p2 : l2.take (k + 1) = l2.take k ++ [l2[k]] := List.take_succ_eq_append_getElem k2
        have P1 := Lib.hid p1; have P2 := Lib.hid p2
        obtain ⟨s1, hs1⟩ : ∃ s1, l1[k] = s1 := ⟨_, rfl⟩
        obtain ⟨s2, hs2⟩ : ∃ s2, l2[k] = s2 := ⟨_, rfl⟩
        rw [hs1] at f1 P1; rw [hs2] at f2 P2
        have Hs1 := Lib.hid hs1; have Hs2 := Lib.hid hs2
        have hki : (k : Int) < (n : Int) := by omega
        have hk0 : (0 : Int) ≤ (k : Int) := by omega
        clear hc1 hc2 p1 p2 hs1 hs2
        by_cases hs : s1 = s2
        · have hb : (s1.toList == s2.toList) = true := by rw [hs]; simp
          have HS := Lib.hid hs; clear hs
          go_wp2_with fail
          go_quiet (fail)
          go_wp2_with fail
          go_roundw
          case rel => exact ⟨k + 1, by omega, by go_num, by rw [P1.out, P2.out, HT.out, HS.out], q + nq, rfl⟩
          case measure => simp [intOf]; omega
        · have hb : (s1.toList == s2.toList) = false := by
            rw [beq_eq_false_iff_ne, Lib.toList_data, Lib.toList_data]
            exact fun h => hs (by cases s1; cases s2; simpa using h)
          have HN : Hid (decide (l1 = l2) = false) := Lib.hid (decide_eq_false fun h => hs (by rw [← Hs1.out, ← Hs2.out]; simp only [h]))
          clear hs
          go_wp2_with fail
          go_quiet (fail)
          go_wp2_with fail
          go_ret
          exact ⟨by rw [HN.out]; rfl, q + nq, by rw [World.drewN_drewN]⟩
      · obtain rfl : k = n := by omega
        go_wp2_with fail
        go_ret
        refine ⟨?_, q, rfl⟩
        have := HT.out
        rw [List.take_of_length_le (by rw [H1.out]; omega), List.take_of_length_le (by rw [H2.out]; omega)] at this
        rw [decide_eq_true this]; rfl
  · have hd : decide (l1 = l2) = false := decide_eq_false (fun h => hlen (by rw [h]))
    have HD := Lib.hid hd; clear hd
    have hb : ((l1.length : Int) != (l2.length : Int)) = true := by simp; omega
    go_enter Try.func18, Try.ntmps18
    go_wp2_with fail
    go_ret
    exact ⟨by rw [HD.out]; rfl, 0, rfl⟩

set_option maxRecDepth 100000 in
theorem asks_any (s : ByteArray) (w : World) (hs : s.size ≤ 1099511627776) :
    Calls Try.prog 16 #[.string s] w fun e w' => e = .returned (.bool true) ∧ Below w.heap.size w w' := by
  obtain ⟨r, hr⟩ : ∃ r, nextL s.data.toList = r := ⟨_, rfl⟩
  obtain ⟨x, hx⟩ : ∃ x, allL s.data.toList = x := ⟨_, rfl⟩
  have hxl : x.1.length ≤ 4611686018427387904 := by
    have := allL_le s.data.toList
    rw [hx, len_data] at this
    omega
  have HR := Lib.hid hr; have HX := Lib.hid hx
  clear hr hx
  go_enter Try.func16, Try.ntmps16
  go_wp2_with fail
  refine (next_any s _ (by omega)).mono ?_
  rintro e w1 ⟨rfl, hB1⟩
  have HB1 := Lib.hid hB1; clear hB1
  rw [HR.out]
  go_wp2_with fail
  refine (rnext_any s _ (by omega)).mono ?_
  rintro e w2 ⟨rfl, hB2⟩
  have HB2 := Lib.hid hB2; clear hB2
  rw [HR.out]
  go_wp2_with fail
  refine (all_any s _ hs).mono ?_
  rintro e w3 ⟨v3, rfl, ho3, hB3⟩
  have HB3 := Lib.hid hB3; have HO3 := Lib.hid ho3; clear hB3 ho3
  rw [HX.out] at HO3 ⊢
  go_wp2_with fail
  refine (rall_any s _ hs).mono ?_
  rintro e w4 ⟨v4, rfl, ho4, hB4⟩
  have HB4 := Lib.hid hB4; have HO4 := Lib.hid ho4; clear hB4 ho4
  rw [HX.out] at HO4 ⊢
  go_wp2_with fail
  refine (same_any v3 v4 (x.1.map bs) (x.1.map bs) _ ((texts_own HO3.out hxl).below HB4.out) (texts_own HO4.out hxl)).mono ?_
  rintro e w5 ⟨rfl, q, rfl⟩
  rw [decide_eq_true (rfl : x.1.map bs = x.1.map bs)]
  go_wp2_with fail
  go_ret
  refine ⟨rfl, below_drewN ?_ q⟩
  exact ((HB1.out.trans (HB2.out.mono HB1.out.size)).trans (HB3.out.mono (Nat.le_trans HB1.out.size HB2.out.size))).trans (HB4.out.mono (Nat.le_trans (Nat.le_trans HB1.out.size HB2.out.size) HB3.out.size))
