/-
  The law DigestPieces, walked: whatever the bytes and the place, it answers true.
-/
import Derived.Test.YtdbdikgjelhfbaaKnown
import Derived.Test.YtdbdikgjelhfbaaRef
import Derived.Test.YtdbdikgjelhfbaaOpen
namespace Go.Proofs.Ytdbdikgjelhfbaa
open Go.RowKit Sha Go.Proofs.YtdbdikgjelhfbaaW.PrintWords Go.Proofs.YtdbdikgjelhfbaaW.PrintLast
set_option linter.unusedSimpArgs false
/-- A slice of bytes that came in. -/
theorem rd_of_row {W : World} {a : Option Addr} {zs : List Int} (h : RowAt W a (zs.map (.int .u8))) (hw : ∀ z ∈ zs, (Lit.int .u8 z).wf = true) (hm : zs.length ≤ 9223372036854775807) : ∃ l : List UInt8, l.length = zs.length ∧ Rd W a l := by
  obtain ⟨l, rfl⟩ := bytes_wf hw
  refine ⟨l, by simp, ?_⟩
  have hl : (l.map fun c : UInt8 => (c.toNat : Int)).length = l.length := by simp
  rw [hl] at hm
  refine Kd.C_of_reads (d := (0 : Int)) ⟨intsB_length l, hm, fun hp => ?_⟩
  obtain ⟨b, off, e, _, hc⟩ := h (by simpa using hp)
  refine ⟨_, e, fun j hj => ?_⟩
  rw [Addr.add_mid, hc j (by simpa using hj)]
  simp [intsB, List.getD_eq_getElem?_getD, List.getElem?_eq_getElem hj]
/-- A cut of a slice at the front, and behind it. -/
theorem Rd.front {w : World} {a : Option Addr} {l : List UInt8} (h : Rd w a l) (k : Nat) (hk : k ≤ l.length) : Rd w a (l.take k) := by
  have hr := Kd.reads_of_C (enc := Value.int .u8) (d := (0 : Int)) (h1 := fun _ => rfl) h
  have hl : (l.take k).length = k := by simp; omega
  unfold Rd
  rw [hl]
  refine Kd.C_of_reads (d := (0 : Int)) ⟨by rw [intsB_length, hl], by have := hr.2.1; omega, fun hp => ?_⟩
  obtain ⟨ad, e, hc⟩ := hr.2.2 (by omega)
  refine ⟨ad, e, fun j hj => ?_⟩
  rw [hc j (by omega)]
  simp only [intsB, List.getD_eq_getElem?_getD, List.getElem?_map, List.getElem?_take, if_pos hj]
theorem Rd.back {w : World} {b o : Nat} {l : List UInt8} (h : Rd w (some ⟨b, o, none⟩) l) (k : Nat) : Rd w (some ⟨b, o + k, none⟩) (l.drop k) := by
  have hr := Kd.reads_of_C (enc := Value.int .u8) (d := (0 : Int)) (h1 := fun _ => rfl) h
  have hl : (l.drop k).length = l.length - k := List.length_drop
  unfold Rd
  rw [hl]
  refine Kd.C_of_reads (d := (0 : Int)) ⟨by rw [intsB_length, hl], by have := hr.2.1; omega, fun hp => ⟨_, rfl, fun j hj => ?_⟩⟩
  obtain ⟨ad, e, hc⟩ := hr.2.2 (by omega)
  cases e
  have := hc (k + j) (by omega)
  rw [Addr.add_mid] at this ⊢
  rw [Nat.add_assoc, this]
  simp only [intsB, List.getD_eq_getElem?_getD, List.getElem?_map, List.getElem?_drop]
theorem Rd.backO {w : World} {a : Option Addr} {l : List UInt8} (h : Rd w a l) (k : Nat) : Rd w (Option.map (fun x : Addr => x.add k) a) (l.drop k) := by
  by_cases hp : 0 < l.length
  · obtain ⟨b, off, rfl, _, _⟩ := h.bytesAt hp
    have := h.back k
    rwa [← Addr.add_mid] at this
  · have e : l = [] := List.eq_nil_of_length_eq_zero (by omega)
    subst e
    rw [List.drop_nil]
    exact ⟨rfl, by simp, fun h => absurd h (Nat.lt_irrefl 0)⟩
theorem Rd.empty (w : World) (a : Option Addr) : Rd w a [] := ⟨rfl, by simp, fun h => absurd h (Nat.lt_irrefl 0)⟩
theorem Rd.blk {w : World} {a : Option Addr} {l : List UInt8} (h : Rd w a l) : ∀ ad, a = some ad → 0 < l.length → ad.block < w.heap.size := fun ad e hp => by
  obtain ⟨b, off, e2, hlt, _⟩ := h.bytesAt hp
  rw [e] at e2; cases e2; exact hlt
theorem Holds.below {W W' : World} {p : Nat} {d : List UInt8} (h : Holds W p d) (hb : Below W.heap.size W W') : Holds W' p d := by
  obtain ⟨al, cl, h1, h2, h3⟩ := h
  exact ⟨al, cl, h1.below hb, h2.below hb, fun a e => ⟨(h3 a e).1, Nat.lt_of_lt_of_le (h3 a e).2 hb.size⟩⟩
theorem drewN_below (W : World) (n : Nat) : Below W.heap.size W (W.drewN n) := ⟨rfl, rfl, rfl, Nat.le_refl _, fun _ _ => rfl⟩
theorem below_grown {w W W' : World} {p : Nat} (h : Below w.heap.size w W) (hg : W.grownBy W' (some p)) (hp : w.heap.size ≤ p) : Below w.heap.size w W' :=
  ⟨hg.os.trans h.os, hg.tape.trans h.tape, hg.output.trans h.output, Nat.le_trans h.size hg.size, fun k hk => (hg.block k (Nat.lt_of_lt_of_le hk h.size) (by simp; omega)).trans (h.block k hk)⟩
theorem below_trans {w W W' : World} (h : Below w.heap.size w W) (h2 : Below W.heap.size W W') : Below w.heap.size w W' := h.trans (h2.mono h.size)

set_option maxRecDepth 100000 in
set_option maxHeartbeats 1000000 in
theorem digestPieces_walk (a0 : Option Addr) (len0 cap0 : Nat) (z0 : List Int) (a1 : Int) (W : World) (x0 : z0.length = len0) (y0 : RowAt W a0 (z0.map (.int .u8))) (u0 : ∀ z ∈ z0, (Lit.int .u8 z).wf = true) (_b0 : len0 * 1 ≤ 140737488351232) (c0 : len0 ≤ cap0) (m0 : cap0 ≤ maxLen) (w1 : (Lit.int .u16 a1).wf = true) :
    Calls Try.prog 3 #[.slice a0 len0 cap0, .int .u16 a1] W fun e w' => e = .returned (.bool true) ∧ Below W.heap.size W w' := by
  unfold maxLen at m0
  obtain ⟨l, hll, hr⟩ := rd_of_row y0 u0 (by omega)
  obtain rfl : l.length = len0 := by omega
  clear x0 y0 u0 hll z0 _b0
  have hb := bounds_u16 w1
  obtain ⟨t, rfl⟩ := Int.eq_ofNat_of_zero_le hb.1
  clear w1
  by_cases hbig : 500 < l.length
  · go_enter Try.func3, Try.ntmps3
    go_wp2_with fail
    refine (known_any _).mono ?_
    rintro e w1 ⟨rfl, hb1⟩
    go_wp2_with fail
    go_ret
    exact ⟨rfl, hb1⟩
  · obtain ⟨k, hk⟩ : ∃ k, t % (l.length + 1) = k := ⟨_, rfl⟩
    have hkl : k ≤ l.length := by have := Nat.mod_lt t (show 0 < l.length + 1 by omega); omega
    obtain ⟨n, hn⟩ : ∃ n, l.length = n := ⟨_, rfl⟩
    rw [hn] at hbig c0 hk hkl ⊢
    have e1 : (t : Int) % ((n : Int) + 1) = (k : Int) := by rw [← hk, Int.natCast_emod, Int.natCast_add]; rfl
    have E1 := Lib.hid e1
    clear e1
    have HR := Lib.hid hr; have HN := Lib.hid hn
    clear hr hn hk
    go_enter Try.func3, Try.ntmps3
    go_wp2_with fail
    rw [E1.out]
    refine (new_any W).mono ?_
    rintro e w1 ⟨p, rfl, hh, hp, hb1⟩
    have HH := Lib.hid hh; have HB1 := Lib.hid hb1
    clear hh hb1 E1
    have hki : (k : Int) ≤ (cap0 : Int) := by omega
    go_wp2_with fail
    have hlk : (l.take k).length = k := by rw [List.length_take, HN.out]; omega
    have hw := write_any p [] (l.take k) a0 cap0 w1 HH.out ((HR.out.front k (by rw [HN.out]; exact hkl)).below HB1.out) (fun ad e hz => by have := HR.out.blk ad e (by rw [hlk] at hz; rw [HN.out]; omega); omega) (by rw [hlk]; simp; omega)
    rw [hlk, List.nil_append] at hw
    have HW := Lib.hid hw
    have HLK := Lib.hid hlk
    clear hw hlk
    refine HW.out.mono ?_
    rintro e w2 ⟨rfl, hh2, hg2⟩
    have hb2 := below_grown HB1.out hg2 hp
    have HH2 := Lib.hid hh2; have HB2 := Lib.hid hb2
    clear hh2 hg2 hb2 HW HH
    go_wp2_with fail
    refine (hsum_any p (l.take k) w2 HH2.out (by rw [HLK.out]; omega)).mono ?_
    rintro e w3 ⟨v, rfl, ho, hb3⟩
    obtain ⟨av, cv, rfl, hcv, _⟩ := ho.reads
    have hbb := below_trans HB2.out hb3
    have hh3 := HH2.out.below hb3
    have HO := Lib.hid ho; have HB3 := Lib.hid hbb; have HH3 := Lib.hid hh3
    have hp3 := HB2.out.size
    have hpl := HH2.out.lt
    clear ho hbb hh3 hb3 hp3
    have hld : (l.drop k).length = n - k := by rw [List.length_drop, HN.out]
    have hda : l.take k ++ l.drop k = l := List.take_append_drop k l
    have hwr : ∀ (ab : Option Addr) (cb : Nat), Rd W ab (l.drop k) → Calls Try.prog 11 #[.pointer (some ⟨p, 0, none⟩), .slice ab (n - k) cb] w3 fun e w' => e = .returned (.int .i64 ((n - k : Nat) : Int)) ∧ Holds w' p l ∧ w3.grownBy w' (some p) := fun ab cb hab => by
      have := write_any p (l.take k) (l.drop k) ab cb w3 HH3.out (hab.below HB3.out) (fun ad e hz => by have := hab.blk ad e hz; omega) (by rw [HLK.out, hld]; omega)
      rwa [hld, hda] at this
    have HWR := Lib.hid hwr
    clear hwr hld hda
    have hbk := HR.out.backO k
    have HBK := Lib.hid hbk
    clear hbk
    obtain ⟨S, hS⟩ : ∃ S, Sha.sum (l.take k) = S := ⟨_, rfl⟩
    have hSl : S.length ≤ 32 := by rw [← hS, Sha.sum_length]; omega
    have hS32 : S.length = 32 := by rw [← hS, Sha.sum_length]
    rw [hS] at HO hcv ⊢
    have HS := Lib.hid hS; have HS32 := Lib.hid hS32
    clear hS hS32
    by_cases hck : k < cap0
    rotate_left
    · obtain rfl : k = cap0 := by omega
      have hdk : l.drop k = [] := List.drop_eq_nil_of_le (by rw [HN.out]; omega)
      have hab : Rd W a0 (l.drop k) := by rw [hdk]; exact Rd.empty W a0
      have hw0 := HWR.out a0 0 hab
      rw [show n - k = 0 by omega] at hw0
      have HW0 := Lib.hid hw0
      clear hab hdk hw0
      go_wp2_with fail
      refine HW0.out.mono ?_
      rintro e w4 ⟨rfl, hh4, hg4⟩
      have hb4 := below_grown HB3.out hg4 hp
      have ho4 : OwnB w4 w2.heap.size (.slice av S.length cv) S := HO.out.kept hg4 (fun q hq e => by
        have := own_base (Kd.own_of_R HO.out) q hq
        cases e; omega)
      have HH4 := Lib.hid hh4; have HB4 := Lib.hid hb4; have HO4 := Lib.hid ho4
      clear hh4 hg4 hb4 ho4
      go_wp2_with fail
      refine (known_any _).mono ?_
      rintro e w5 ⟨rfl, hb5⟩
      have hb5b := below_trans HB4.out hb5
      have hh5 := HH4.out.below hb5
      have ho5 := HO4.out.below hb5
      have HH5 := Lib.hid hh5; have HB5 := Lib.hid hb5b; have HO5 := Lib.hid ho5
      clear hh5 hb5b hb5 ho5
      go_wp2_with fail
      have hd := digest_sum_any a0 k (l.take k) w5 ((HR.out.front k (by rw [HN.out]; exact hkl)).below HB5.out) (by rw [HLK.out]; omega)
      rw [HLK.out, HS.out] at hd
      have HD := Lib.hid hd
      clear hd
      refine HD.out.mono ?_
      rintro e w6 ⟨v6, rfl, ho6, hb6⟩
      obtain ⟨a6, c6, rfl, hc6, hr6⟩ := ho6.reads
      have hb6b := below_trans HB5.out hb6
      have hh6 := HH5.out.below hb6
      have ho5 := HO5.out.below hb6
      have HH6 := Lib.hid hh6; have HB6 := Lib.hid hb6b; have HO6 := Lib.hid ho5; have HR6 := Lib.hid hr6
      clear hh6 hb6b hb6 ho5 ho6 hr6 HD
      go_wp2_with fail
      have hrv := (Kd.R_reads' HO6.out).2.2
      rw [intsB_length] at hrv
      refine (same_yes av a6 cv c6 S w6 hrv hcv HR6.out hc6 (by omega)).mono ?_
      rintro e _ ⟨rfl, q7, rfl⟩
      have hb7 := drewN_below w6 q7
      have hb7b := below_trans HB6.out hb7
      have hh7 := HH6.out.below hb7
      have HH7 := Lib.hid hh7; have HB7 := Lib.hid hb7b
      clear hh7 hb7b hb7 hrv
      go_wp2_with fail
      refine (hsum_any p l _ HH7.out (by rw [HN.out]; omega)).mono ?_
      rintro e w8 ⟨v8, rfl, ho8, hb8⟩
      obtain ⟨S2, hS2⟩ : ∃ S, Sha.sum l = S := ⟨_, rfl⟩
      have hS2l : S2.length ≤ 32 := by rw [← hS2, Sha.sum_length]; omega
      rw [hS2] at ho8
      obtain ⟨a8, c8, rfl, hc8, hr8⟩ := ho8.reads
      have hb8b := below_trans HB7.out hb8
      have HS2 := Lib.hid hS2; have HR8 := Lib.hid hr8; have HB8 := Lib.hid hb8b
      clear hS2 hr8 hb8 hb8b ho8
      go_wp2_with fail
      have hd := digest_sum_any a0 k l w8 (HR.out.below HB8.out) (by rw [HN.out]; omega)
      rw [HN.out, HS2.out] at hd
      have HD := Lib.hid hd
      clear hd
      refine HD.out.mono ?_
      rintro e w9 ⟨v9, rfl, ho9, hb9⟩
      obtain ⟨a9, c9, rfl, hc9, hr9⟩ := ho9.reads
      have hb9b := below_trans HB8.out hb9
      have hr89 := HR8.out.below hb9
      have HR9 := Lib.hid hr9; have HB9 := Lib.hid hb9b; have HR89 := Lib.hid hr89
      clear hr9 hb9 hb9b ho9 hr89 HD
      go_wp2_with fail
      refine (same_yes a8 a9 c8 c9 S2 w9 HR89.out hc8 HR9.out hc9 (by omega)).mono ?_
      rintro e _ ⟨rfl, q10, rfl⟩
      have hS : ((S.length : Int) == 32) = true := by rw [HS32.out]; rfl
      go_wp2_with fail
      go_ret
      exact ⟨rfl, below_trans HB9.out (drewN_below w9 q10)⟩
    · go_wp2_with fail
      refine (HWR.out _ _ HBK.out).mono ?_
      rintro e w4 ⟨rfl, hh4, hg4⟩
      have hb4 := below_grown HB3.out hg4 hp
      have ho4 : OwnB w4 w2.heap.size (.slice av S.length cv) S := HO.out.kept hg4 (fun q hq e => by
        have := own_base (Kd.own_of_R HO.out) q hq
        cases e; omega)
      have HH4 := Lib.hid hh4; have HB4 := Lib.hid hb4; have HO4 := Lib.hid ho4
      clear hh4 hg4 hb4 ho4
      go_wp2_with fail
      refine (known_any _).mono ?_
      rintro e w5 ⟨rfl, hb5⟩
      have hb5b := below_trans HB4.out hb5
      have hh5 := HH4.out.below hb5
      have ho5 := HO4.out.below hb5
      have HH5 := Lib.hid hh5; have HB5 := Lib.hid hb5b; have HO5 := Lib.hid ho5
      clear hh5 hb5b hb5 ho5
      go_wp2_with fail
      have hd := digest_sum_any a0 cap0 (l.take k) w5 ((HR.out.front k (by rw [HN.out]; exact hkl)).below HB5.out) (by rw [HLK.out]; omega)
      rw [HLK.out, HS.out] at hd
      have HD := Lib.hid hd
      clear hd
      refine HD.out.mono ?_
      rintro e w6 ⟨v6, rfl, ho6, hb6⟩
      obtain ⟨a6, c6, rfl, hc6, hr6⟩ := ho6.reads
      have hb6b := below_trans HB5.out hb6
      have hh6 := HH5.out.below hb6
      have ho5 := HO5.out.below hb6
      have HH6 := Lib.hid hh6; have HB6 := Lib.hid hb6b; have HO6 := Lib.hid ho5; have HR6 := Lib.hid hr6
      clear hh6 hb6b hb6 ho5 ho6 hr6 HD
      go_wp2_with fail
      have hrv := (Kd.R_reads' HO6.out).2.2
      rw [intsB_length] at hrv
      refine (same_yes av a6 cv c6 S w6 hrv hcv HR6.out hc6 (by omega)).mono ?_
      rintro e _ ⟨rfl, q7, rfl⟩
      have hb7 := drewN_below w6 q7
      have hb7b := below_trans HB6.out hb7
      have hh7 := HH6.out.below hb7
      have HH7 := Lib.hid hh7; have HB7 := Lib.hid hb7b
      clear hh7 hb7b hb7 hrv
      go_wp2_with fail
      refine (hsum_any p l _ HH7.out (by rw [HN.out]; omega)).mono ?_
      rintro e w8 ⟨v8, rfl, ho8, hb8⟩
      obtain ⟨S2, hS2⟩ : ∃ S, Sha.sum l = S := ⟨_, rfl⟩
      have hS2l : S2.length ≤ 32 := by rw [← hS2, Sha.sum_length]; omega
      rw [hS2] at ho8
      obtain ⟨a8, c8, rfl, hc8, hr8⟩ := ho8.reads
      have hb8b := below_trans HB7.out hb8
      have HS2 := Lib.hid hS2; have HR8 := Lib.hid hr8; have HB8 := Lib.hid hb8b
      clear hS2 hr8 hb8 hb8b ho8
      go_wp2_with fail
      have hd := digest_sum_any a0 cap0 l w8 (HR.out.below HB8.out) (by rw [HN.out]; omega)
      rw [HN.out, HS2.out] at hd
      have HD := Lib.hid hd
      clear hd
      refine HD.out.mono ?_
      rintro e w9 ⟨v9, rfl, ho9, hb9⟩
      obtain ⟨a9, c9, rfl, hc9, hr9⟩ := ho9.reads
      have hb9b := below_trans HB8.out hb9
      have hr89 := HR8.out.below hb9
      have HR9 := Lib.hid hr9; have HB9 := Lib.hid hb9b; have HR89 := Lib.hid hr89
      clear hr9 hb9 hb9b ho9 hr89 HD
      go_wp2_with fail
      refine (same_yes a8 a9 c8 c9 S2 w9 HR89.out hc8 HR9.out hc9 (by omega)).mono ?_
      rintro e _ ⟨rfl, q10, rfl⟩
      have hS : ((S.length : Int) == 32) = true := by rw [HS32.out]; rfl
      go_wp2_with fail
      go_ret
      exact ⟨rfl, below_trans HB9.out (drewN_below w9 q10)⟩
end Go.Proofs.Ytdbdikgjelhfbaa
