/-
  The law FrameSum, walked: whatever the three texts, it answers true.
-/
import Derived.Test.YtfjighamaamkcaaHead
import Derived.Deep.AppendLies
import Derived.Lib.BufferRead
namespace Go.Proofs.Ytfjighamaamkcaa
open Go.RowKit

/-- The bytes of three rows, one beside the other. -/
def three (a b c : List UInt8) : List (UInt8 × UInt8 × UInt8) := a.zip (b.zip c)
def over (t : UInt8 × UInt8 × UInt8) : UInt8 := t.1 ^^^ t.2.1 ^^^ t.2.2
def nums (l : List UInt8) : List Value := l.map fun c => Value.int .u8 (c.toNat : Int)
theorem three_sums {a b c : List UInt8} {n : Nat} (ha : a.length = n) (hb : b.length = n) (hc : c.length = n) :
    (three a b c).length = n ∧ Crc.sum a ^^^ Crc.sum b ^^^ Crc.sum c = Crc.sum ((three a b c).map over) := by
  refine ⟨by simp [three, ha, hb, hc], ?_⟩
  have h := Crc.sum_lin (three a b c)
  have e1 : (three a b c).map (·.1) = a := List.map_fst_zip (by simp; omega)
  have e2 : (three a b c).map (·.2) = b.zip c := List.map_snd_zip (by simp; omega)
  have e3 : (three a b c).map (·.2.1) = b := by
    rw [show (three a b c).map (·.2.1) = ((three a b c).map (·.2)).map (·.1) by simp, e2]
    exact List.map_fst_zip (by omega)
  have e4 : (three a b c).map (·.2.2) = c := by
    rw [show (three a b c).map (·.2.2) = ((three a b c).map (·.2)).map (·.2) by simp, e2]
    exact List.map_snd_zip (by omega)
  rw [e1, e3, e4] at h
  exact h
theorem three_get {a b c : List UInt8} {n k : Nat} (ha : a.length = n) (hb : b.length = n) (hc : c.length = n) (hk : k < n) :
    (three a b c)[k]? = some (a[k]'(by omega), b[k]'(by omega), c[k]'(by omega)) := by
  rw [List.getElem?_eq_getElem (by simp [three]; omega)]
  simp [three]
theorem xor_byte (x y : UInt8) : bits .xor .u8 (x.toNat : Int) (y.toNat : Int) = ((x ^^^ y).toNat : Int) := by
  rw [u8_xor_nat _ _ x.toNat_lt y.toNat_lt, UInt8.toNat_xor]
theorem xor_word (x y : BitVec 32) : bits .xor .u32 (x.toNat : Int) (y.toNat : Int) = ((x ^^^ y).toNat : Int) := by
  rw [u32_xor_nat _ _ x.isLt y.isLt, BitVec.toNat_xor]
theorem own_text {w : World} {base n : Nat} {v : Value} {l : List UInt8} (h : w.ownsRow base 5 1 v n (nums l)) : (convert 22 9 v).run Try.prog w = .ok (.string (bs l)) w := by
  have hl : l.length = n := by have := h.1; simp [nums] at this; exact this
  rcases h.2 with ⟨rfl, h0⟩ | ⟨g, cap, cur, rfl, _⟩
  · obtain rfl : l = [] := List.eq_nil_of_length_eq_zero (by omega)
    exact Lib.run_convert_nil_bytes w 22 9 5 0 Try.underlying22 Try.underlying5 Try.underlying9
  · refine conv_bytes _ 22 9 5 Try.underlying22 Try.underlying5 Try.underlying9 g 0 n cap l hl fun j hj => ?_
    have := h.cells (g := g) rfl j (.int .u8 (l[j].toNat : Int)) (by simp [nums, List.getElem?_eq_getElem hj])
    rwa [show (⟨g, 0, none⟩ : Addr).add j = ⟨g, 0 + j, none⟩ by unfold Addr.add; split <;> simp_all] at this
theorem sum_is (s : ByteArray) (N : Nat) (w : World) (hs : s.size ≤ 9223372036854775807) (hN : (Crc.sum s.data.toList).toNat = N) :
    Calls Try.prog 11 #[.string s] w fun e w' => e = .returned (.int .u32 N) ∧ Below w.heap.size w w' := by
  subst hN
  exact sum_any s w hs
theorem own_below' {w w1 : World} (hb : Below w.heap.size w w1) {base : Nat} {e : TypeId} {size n : Nat} {v : Value} {xs : List Value} (h : w.ownsRow base e size v n xs) : w1.ownsRow base e size v n xs := own_below h hb

theorem below_next {W w w1 : World} (hb : Below w.heap.size w w1) (h : Below W.heap.size W w) : Below W.heap.size W w1 := h.trans (hb.mono h.size)
theorem below_drew {W w : World} (h : Below W.heap.size W w) : Below W.heap.size W w.drew := h.trans ((Below.drew' w).mono h.size)

set_option maxRecDepth 100000 in
set_option maxHeartbeats 4000000 in
theorem frameSum_walk (a b c : ByteArray) (W : World) (wa : a.size ≤ 140737488351232) (wb : b.size ≤ 140737488351232) (wc : c.size ≤ 140737488351232) :
    Calls Try.prog 3 #[.string a, .string b, .string c] W fun e w' => e = .returned (.bool true) ∧ Below W.heap.size W w' := by
  obtain ⟨i5, hi0, hz0, hz1, hz2⟩ := info_parts info5
  obtain ⟨n, hn⟩ : ∃ n, min (min (min a.size b.size) c.size) 100 = n := ⟨_, rfl⟩
  have hna : n ≤ a.size := by omega
  have hnb : n ≤ b.size := by omega
  have hnc : n ≤ c.size := by omega
  have hn100 : n ≤ 100 := by omega
  have hmin : ∀ w, (Builtin.min_ #[3, 3, 3, 3] 3 #[.int .i64 (a.size : Int), .int .i64 (b.size : Int), .int .i64 (c.size : Int), .int .i64 100]).run Try.prog w = .ok (.int .i64 (n : Int)) w := by
    intro w
    simp only [Builtin.min_, Builtin.min2, List.foldlM_cons, List.foldlM_nil, Sem.run_bind, Sem.run_pure, Result.andThen_ok]
    congr 2
    split <;> split <;> split <;> omega
  obtain ⟨la, hla⟩ : ∃ l, a.data.toList.take n = l := ⟨_, rfl⟩
  obtain ⟨lb, hlb⟩ : ∃ l, b.data.toList.take n = l := ⟨_, rfl⟩
  obtain ⟨lc, hlc⟩ : ∃ l, c.data.toList.take n = l := ⟨_, rfl⟩
  have na : la.length = n := by rw [← hla]; simp; omega
  have nb : lb.length = n := by rw [← hlb]; simp; omega
  have nc : lc.length = n := by rw [← hlc]; simp; omega
  obtain ⟨T, hT⟩ : ∃ T, three la lb lc = T := ⟨_, rfl⟩
  have hTs := three_sums na nb nc
  rw [hT] at hTs
  obtain ⟨nT, hTs⟩ := hTs
  have HT := Lib.hid hT; have HTS := Lib.hid hTs; have HA := Lib.hid hla; have HB := Lib.hid hlb; have HC := Lib.hid hlc
  have NA := Lib.hid na; have NB := Lib.hid nb; have NC := Lib.hid nc; have NT := Lib.hid nT
  clear hT hTs hla hlb hlc na nb nc nT hn
  go_enter Try.func3, Try.ntmps3
  go_wp2_with fail
  go_loopw [8, 9] (fun v i wr => ∃ k : Nat, k ≤ n ∧ i = .int .i64 k ∧ wr.ownsRow W.heap.size 5 1 v k (nums ((T.take k).map over)) ∧ Below W.heap.size W wr) (fun _ i _ => n - (intOf i).toNat)
  case atStart => exact ⟨0, by omega, rfl, ⟨rfl, .inl ⟨rfl, rfl⟩⟩, Below.refl _ _⟩
  case round =>
    obtain ⟨k, hk, rfl, hown, hbel⟩ := hrel
    by_cases hlt : k < n
    · have gk := three_get NA.out NB.out NC.out hlt
      have ka : la[k]'(by rw [NA.out]; exact hlt) = a.data.toList[k]'(by rw [len_data]; omega) := by simp [← HA.out]
      have kb : lb[k]'(by rw [NB.out]; exact hlt) = b.data.toList[k]'(by rw [len_data]; omega) := by simp [← HB.out]
      have kc : lc[k]'(by rw [NC.out]; exact hlt) = c.data.toList[k]'(by rw [len_data]; omega) := by simp [← HC.out]
      rw [ka, kb, kc, HT.out] at gk
      have xa : a[k]'(by omega) = a.data.toList[k]'(by rw [len_data]; omega) := rfl
      have xb : b[k]'(by omega) = b.data.toList[k]'(by rw [len_data]; omega) := rfl
      have xc : c[k]'(by omega) = c.data.toList[k]'(by rw [len_data]; omega) := rfl
      rw [← xa, ← xb, ← xc] at gk
      clear ka kb kc xa xb xc
      obtain ⟨x, hx⟩ : ∃ x, a[k]'(by omega) = x := ⟨_, rfl⟩
      obtain ⟨y, hy⟩ : ∃ y, b[k]'(by omega) = y := ⟨_, rfl⟩
      obtain ⟨z, hz⟩ : ∃ z, c[k]'(by omega) = z := ⟨_, rfl⟩
      rw [hx, hy, hz] at gk
      obtain ⟨xy, hxy⟩ : ∃ xy, x ^^^ y = xy := ⟨_, rfl⟩
      obtain ⟨d, hd⟩ : ∃ d, xy ^^^ z = d := ⟨_, rfl⟩
      have b1 : bits .xor .u8 (x.toNat : Int) (y.toNat : Int) = (xy.toNat : Int) := by rw [xor_byte, hxy]
      have b2 : bits .xor .u8 (xy.toNat : Int) (z.toNat : Int) = (d.toNat : Int) := by rw [xor_byte, hd]
      have ht1 : (T.take (k + 1)).map over = (T.take k).map over ++ [d] := by
        rw [List.take_add_one, gk, List.map_append]
        simp [over, hxy, hd]
      have HT1 := Lib.hid ht1; have HBEL := Lib.hid hbel; have HOWN := Lib.hid hown
      clear gk hxy hd ht1 hbel hown
      have hk0 : (0 : Int) ≤ (k : Int) := by omega
      have ha1 : (k : Int) < (a.size : Int) := by omega
      have hb1 : (k : Int) < (b.size : Int) := by omega
      have hc1 : (k : Int) < (c.size : Int) := by omega
      have hkn : (k : Int) < (n : Int) := by omega
      go_wp2_with fail
      go_region_held3 (fun _ => True) (trivial) ((refine step_append_lies _ (by rfl) _ _ _ (by rfl) W.heap.size 5 i5 _ 1 1 Try.underlying22 hi0 hz0 hz1 hz2 rfl (by omega) _ k _ (by rfl) ((HOWN.out.alloc _).drew) ⟨wr.heap.size, 0, none⟩ 1 1 [.int .u8 (d.toNat : Int)] (by rfl) (by rfl) (World.news_of_block (cs := #[.int .u8 (d.toNat : Int)]) (t := 5) (fr := (0, 0)) (heap_alloc_new wr _)) (by simp [Value.oneCell']) (by omega) (by unfold maxLen; omega) (by omega) (by have := HBEL.out.size; simp; omega) (wr.heap.size + 1) (by simp) ?_; intro gg cap w1 hown1 hgrow hat hlt1))
      all_goals have HOWN1 := Lib.hid hown1
      all_goals have HGROW := Lib.hid hgrow
      all_goals clear hown1 hgrow
      all_goals go_wp2_with fail
      all_goals go_roundw
      all_goals first
        | (have zb := HBEL.out.size
           have hq : W.heap.size ≤ (wr.alloc (.cells #[.int .u8 (d.toNat : Int)] 5)).heap.size := by simp; omega
           refine ⟨k + 1, by omega, by go_num, ?_, Below.grown ((HBEL.out.alloc zb _).trans ((Below.drew' _).mono hq)) HGROW.out hq (own_base HOWN.out)⟩
           rw [HT1.out]
           simpa [nums] using HOWN1.out)
        | (simp [intOf]; omega)
    · obtain rfl : k = n := by omega
      have hL : (T.take k).map over = T.map over := by rw [List.take_of_length_le (by rw [NT.out]; omega)]
      rw [hL] at hown
      obtain ⟨L, hLe⟩ : ∃ L, T.map over = L := ⟨_, rfl⟩
      rw [hLe] at hown
      have hLl : (bs L).size = k := by rw [bs_size, ← hLe, List.length_map, NT.out]
      have HT3 := Lib.hid hLe
      have ht3 := HTS.out
      rw [hLe] at ht3
      obtain ⟨A, hA⟩ : ∃ A, Crc.sum la = A := ⟨_, rfl⟩
      obtain ⟨B, hB⟩ : ∃ B, Crc.sum lb = B := ⟨_, rfl⟩
      obtain ⟨C, hC⟩ : ∃ C, Crc.sum lc = C := ⟨_, rfl⟩
      obtain ⟨D, hD⟩ : ∃ D, Crc.sum L = D := ⟨_, rfl⟩
      rw [hA, hB, hC, hD] at ht3
      have x1 : bits .xor .u32 (A.toNat : Int) (B.toNat : Int) = ((A ^^^ B).toNat : Int) := xor_word _ _
      have x2 : bits .xor .u32 ((A ^^^ B).toNat : Int) (C.toNat : Int) = (D.toNat : Int) := by rw [xor_word, ht3]
      have sa : (Crc.sum (a.extract 0 k).data.toList).toNat = A.toNat := by rw [extract_toList, ← hA, ← HA.out]; rfl
      have sb : (Crc.sum (b.extract 0 k).data.toList).toNat = B.toNat := by rw [extract_toList, ← hB, ← HB.out]; rfl
      have sc : (Crc.sum (c.extract 0 k).data.toList).toNat = C.toNat := by rw [extract_toList, ← hC, ← HC.out]; rfl
      have sd : (Crc.sum (bs L).data.toList).toNat = D.toNat := by rw [bs_toList, hD]
      have s0 : (Crc.sum (ByteArray.mk #[]).data.toList).toNat = 0 := by decide
      obtain ⟨nA, hnA⟩ : ∃ m, A.toNat = m := ⟨_, rfl⟩
      obtain ⟨nB, hnB⟩ : ∃ m, B.toNat = m := ⟨_, rfl⟩
      obtain ⟨nC, hnC⟩ : ∃ m, C.toNat = m := ⟨_, rfl⟩
      obtain ⟨nD, hnD⟩ : ∃ m, D.toNat = m := ⟨_, rfl⟩
      obtain ⟨nAB, hnAB⟩ : ∃ m, (A ^^^ B).toNat = m := ⟨_, rfl⟩
      rw [hnA] at x1 sa
      rw [hnB] at x1 sb
      rw [hnC] at x2 sc
      rw [hnD] at x2 sd
      rw [hnAB] at x1 x2
      obtain ⟨ea, hea⟩ : ∃ m, a.extract 0 k = m := ⟨_, rfl⟩
      obtain ⟨eb, heb⟩ : ∃ m, b.extract 0 k = m := ⟨_, rfl⟩
      obtain ⟨ec, hec⟩ : ∃ m, c.extract 0 k = m := ⟨_, rfl⟩
      obtain ⟨sL, hsL⟩ : ∃ m, bs L = m := ⟨_, rfl⟩
      have hown' := own_text hown
      rw [hsL] at sd hLl hown'
      have HSL := Lib.hid hsL
      clear hsL
      have za : ea.size ≤ 9223372036854775807 := by rw [← hea, ByteArray.size_extract]; omega
      have zb : eb.size ≤ 9223372036854775807 := by rw [← heb, ByteArray.size_extract]; omega
      have zc : ec.size ≤ 9223372036854775807 := by rw [← hec, ByteArray.size_extract]; omega
      rw [hea] at sa
      rw [heb] at sb
      rw [hec] at sc
      have HSA := Lib.hid sa; have HSB := Lib.hid sb; have HSC := Lib.hid sc; have HSD := Lib.hid sd; have HS0 := Lib.hid s0
      have HZL : Hid (sL.size ≤ 9223372036854775807) := Lib.hid (by rw [hLl]; omega)
      have HZ0 : Hid ((ByteArray.mk #[]).size ≤ 9223372036854775807) := Lib.hid (by decide)
      have HZA := Lib.hid za; have HZB := Lib.hid zb; have HZC := Lib.hid zc
      have HBEL := Lib.hid hbel
      have hDD : ((nD : Int) == (nD : Int)) = true := by simp
      clear sa sb sc sd s0 za zb zc hbel hnA hnB hnC hnD hnAB hA hB hC hD hLe ht3 hL hlt
      have hk0 : (0 : Int) ≤ (k : Int) := by omega
      have hkt : (k : Int).toNat = k := by omega
      have ha1 : (k : Int) ≤ (a.size : Int) := by omega
      have hb1 : (k : Int) ≤ (b.size : Int) := by omega
      have hc1 : (k : Int) ≤ (c.size : Int) := by omega
      have hkk : ¬ (k : Int) < (k : Int) := by omega
      have hkd : decide ((k : Int) < (k : Int)) = false := by simp
      go_wp2_with fail
      go_region_held3 (fun w' => w'.ownsRow W.heap.size 5 1 u8 k (nums L) ∧ Below W.heap.size W w' ∧ (convert 22 9 u8).run Try.prog w' = .ok (.string sL) w')
        (first
          | (go_split_ands; have ho := own_below' hBk (by assumption); have hb := below_next hBk (by assumption); exact ⟨ho, hb, by rw [own_text ho, HSL.out]⟩)
          | (go_split_ands; have ho := World.ownsRow.drew (by assumption); have hb := below_drew (by assumption); exact ⟨ho, hb, by rw [own_text ho, HSL.out]⟩)
          | (have hb := HBEL.out; exact ⟨hown, hb, hown'⟩)
          | go_keep)
        (first
          | (go_at_call 10; refine (known_any _).mono ?_; rintro e w5 ⟨rfl, hBk⟩)
          | (go_at_call 11; refine (sum_any _ _ (by first | exact HZA.out | exact HZB.out | exact HZC.out | exact HZL.out | exact HZ0.out)).mono ?_; rintro e w5 ⟨rfl, hBk⟩; first | rw [HSA.out] | rw [HSB.out] | rw [HSC.out] | rw [HSD.out] | rw [HS0.out]))
      go_split_ands
      go_wp2_with fail
      go_ret
      exact ⟨rfl, by assumption⟩
