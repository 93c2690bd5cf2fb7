/-
  Texts of this session, merged in build order: NLGlob, RNamesGlob.
-/
import Derived.Test.YtehpnbeihnhjeaaDoorZC0
import Derived.Deep.RegionHeld3
import Derived.Test.YtehpnbeihnhjeaaDoorRows
import Derived.Test.YtehpnbeihnhjeaaDoorCards
import Derived.Test.YtehpnbeihnhjeaaDoorTie
import Derived.LaidMore
import Derived.Lay
import Derived.SevenTiedAt
import Derived.Stop.Joined
set_option linter.unusedVariables false
set_option linter.unusedSimpArgs false
/-
  The law NamesGlob, walked: a star is any bytes: of two parts, each as its pattern has it, both together are; a text without stars and marks is just itself.
-/
namespace Go.Proofs.YtehpnbeihnhjeaaDoor
open Go.RowKit Go.Proofs.YtehpnbeihnhjeaaDoorW.PrintWords Go.Proofs.YtehpnbeihnhjeaaDoorW.PrintLast
set_option linter.unusedSimpArgs false
set_option linter.unusedVariables false
theorem glob_at (p s : ByteArray) (b : Bool) (hp : p.size ≤ 1000) (hs : s.size ≤ 1000) (h : gm p.data.toList s.data.toList = b) : ∀ w, Calls Tryd.prog 19 #[.string p, .string s] w fun e w' => e = .returned (.bool b) ∧ Below w.heap.size w w' := fun w => by
  subst h
  exact glob_any p s (by omega) (by omega) w
def plB (l : List UInt8) : Bool := l.all fun c => c != 42 && c != 63
theorem plB_snoc (l : List UInt8) (c : UInt8) : plB (l ++ [c]) = (plB l && c != 42 && c != 63) := by
  unfold plB
  rw [List.all_append]
  simp [Bool.and_assoc]
theorem take_snoc (s : ByteArray) (k : Nat) (h : k < s.size) : s.data.toList.take (k + 1) = s.data.toList.take k ++ [s[k]] := by
  rw [List.take_succ_eq_append_getElem (by simpa using h)]; rfl
theorem app_data (x y : ByteArray) : (x ++ y).data.toList = x.data.toList ++ y.data.toList := by rw [ByteArray.data_append, Array.toList_append]
theorem below_drewN' {B : Nat} (w : World) (n : Nat) (h : B ≤ w.heap.size) : Below B w (w.drewN n) := ⟨rfl, rfl, rfl, Nat.le_refl _, fun _ _ => rfl⟩
set_option maxRecDepth 100000 in
set_option maxHeartbeats 2000000 in
theorem namesGlob_walk (a0 : Option Addr) (len0 cap0 : Nat) (z0 : List Int) (a1 : Option Addr) (len1 cap1 : Nat) (z1 : List Int) (a2 : Option Addr) (len2 cap2 : Nat) (z2 : List Int) (a3 : Option Addr) (len3 cap3 : Nat) (z3 : List Int) (W : World)
    (x0 : z0.length = len0) (y0 : RowAt W a0 (z0.map (.int .u8))) (u0 : ∀ z ∈ z0, (Lit.int .u8 z).wf = true) (b0 : len0 * 1 ≤ 140737488351232) (c0 : len0 ≤ cap0) (m0 : cap0 ≤ maxLen)
    (x1 : z1.length = len1) (y1 : RowAt W a1 (z1.map (.int .u8))) (u1 : ∀ z ∈ z1, (Lit.int .u8 z).wf = true) (b1 : len1 * 1 ≤ 140737488351232) (c1 : len1 ≤ cap1) (m1 : cap1 ≤ maxLen)
    (x2 : z2.length = len2) (y2 : RowAt W a2 (z2.map (.int .u8))) (u2 : ∀ z ∈ z2, (Lit.int .u8 z).wf = true) (b2 : len2 * 1 ≤ 140737488351232) (c2 : len2 ≤ cap2) (m2 : cap2 ≤ maxLen)
    (x3 : z3.length = len3) (y3 : RowAt W a3 (z3.map (.int .u8))) (u3 : ∀ z ∈ z3, (Lit.int .u8 z).wf = true) (b3 : len3 * 1 ≤ 140737488351232) (c3 : len3 ≤ cap3) (m3 : cap3 ≤ maxLen) :
    Calls Tryd.prog 4 #[.slice a0 len0 cap0, .slice a1 len1 cap1, .slice a2 len2 cap2, .slice a3 len3 cap3] W fun e w' => e = .returned (.bool true) ∧ Below W.heap.size W w' := by
  subst x0 x1 x2 x3
  obtain ⟨P, hP, hcP⟩ := pattern_row y0 u0 b0 c0
  obtain ⟨Q, hQ, hcQ⟩ := pattern_row y1 u1 b1 c1
  obtain ⟨S, hS, hcS⟩ := pattern_row y2 u2 b2 c2
  obtain ⟨T, hT, hcT⟩ := pattern_row y3 u3 b3 c3
  clear y0 u0 y1 u1 y2 u2 y3 u3 m0 m1 m2 m3 c0 c1 c2 c3 b0 b1 b2 b3
  have HCP := Lib.hid hcP; have HCQ := Lib.hid hcQ; have HCS := Lib.hid hcS; have HCT := Lib.hid hcT
  clear hcP hcQ hcS hcT
  go_enter Tryd.func4, Tryd.ntmps4
  go_wp2_with fail
  refine (HCP.out _ (Below.refl _ _)).mono ?_
  rintro e w1 ⟨rfl, hb1⟩
  have HB1 := Lib.hid hb1; clear hb1
  go_wp2_with fail
  refine (HCQ.out _ HB1.out).mono ?_
  rintro e w2 ⟨rfl, hb2⟩
  have HB2 := Lib.hid (below_trs HB1.out hb2); clear hb2
  go_wp2_with fail
  refine (HCS.out _ HB2.out).mono ?_
  rintro e w3 ⟨rfl, hb3⟩
  have HB3 := Lib.hid (below_trs HB2.out hb3); clear hb3
  go_wp2_with fail
  refine (HCT.out _ HB3.out).mono ?_
  rintro e w4 ⟨rfl, hb4⟩
  have HB4 := Lib.hid (below_trs HB3.out hb4); clear hb4
  clear HCP HCQ HCS HCT HB1 HB2 HB3
  go_wp2_with fail
  go_loopw [13, 14] (fun pv iv wr => ∃ i q : Nat, i ≤ P.size ∧ iv = .int .i64 i ∧ pv = .bool (plB (P.data.toList.take i)) ∧ wr = w4.drewN q) (fun _ iv _ => P.size - (intOf iv).toNat)
  case atStart => exact ⟨0, 0, Nat.zero_le _, rfl, rfl, rfl⟩
  case round =>
    obtain ⟨i, q, hi, rfl, rfl, rfl⟩ := hrel
    by_cases hlt : i < P.size
    · have hs := plB_snoc (P.data.toList.take i) P[i]
      rw [← take_snoc P i hlt] at hs
      obtain ⟨b, hb⟩ : ∃ b, plB (P.data.toList.take i) = b := ⟨_, rfl⟩
      obtain ⟨x, hx⟩ : ∃ x, P[i]'hlt = x := ⟨_, rfl⟩
      rw [hb, hx] at hs
      rw [hb]
      have HSN := Lib.hid hs
      clear hs hb
      have h1 : ∃ e, ((x.toNat : Int) == 42) = e ∧ ((x.toNat : Int) != 42) = !e ∧ (x != 42) = !e := ⟨_, rfl, rfl, by
        rw [show (x != 42) = !(x == 42) from rfl]
        congr 1
        rw [Bool.eq_iff_iff]
        simp only [beq_iff_eq]
        exact ⟨fun h => by subst h; rfl, fun h => UInt8.toNat_inj.1 (by show x.toNat = 42; omega)⟩⟩
      have h2 : ∃ e, ((x.toNat : Int) == 63) = e ∧ ((x.toNat : Int) != 63) = !e ∧ (x != 63) = !e := ⟨_, rfl, rfl, by
        rw [show (x != 63) = !(x == 63) from rfl]
        congr 1
        rw [Bool.eq_iff_iff]
        simp only [beq_iff_eq]
        exact ⟨fun h => by subst h; rfl, fun h => UInt8.toNat_inj.1 (by show x.toNat = 63; omega)⟩⟩
      obtain ⟨e1, f1, g1, k1⟩ := h1
      obtain ⟨e2, f2, g2, k2⟩ := h2
      have K : Hid (plB (P.data.toList.take (i + 1)) = (b && !e1 && !e2)) := Lib.hid (by rw [HSN.out, k1, k2])
      clear HSN k1 k2
      cases b <;> cases e1 <;> cases e2 <;>
      · go_wp2_with fail
        go_roundw
        case rel => exact ⟨i + 1, q, by omega, by go_num, by rw [K.out]; rfl, rfl⟩
        case measure => simp [intOf]; omega
    · obtain rfl : i = P.size := by omega
      rw [List.take_of_length_le (by rw [Array.length_toList]; exact Nat.le_refl _)]
      have hB : Below W.heap.size W (w4.drewN q) := HB4.out.trans (below_drewN' w4 q HB4.out.size)
      obtain ⟨W5, hW5⟩ : ∃ W5, w4.drewN q = W5 := ⟨_, rfl⟩
      rw [hW5] at hB ⊢
      have HB := Lib.hid hB
      clear hB hW5 HB4
      have sz1 : (⟨#[42]⟩ : ByteArray).size = 1 := rfl
      have sz2 : (⟨#[42, 42]⟩ : ByteArray).size = 2 := rfl
      obtain ⟨v1, k1⟩ : ∃ b, gm P.data.toList S.data.toList = b := ⟨_, rfl⟩
      obtain ⟨v2, k2⟩ : ∃ b, gm Q.data.toList T.data.toList = b := ⟨_, rfl⟩
      obtain ⟨v3, k3⟩ : ∃ b, plB P.data.toList = b := ⟨_, rfl⟩
      rw [k3]
      obtain ⟨v4, k4⟩ : ∃ b, gm (P ++ ⟨#[42]⟩).data.toList S.data.toList = b := ⟨_, rfl⟩
      have k5 : gm (P ++ ⟨#[42, 42]⟩).data.toList S.data.toList = v4 := by
        rw [← k4, app_data, app_data]
        exact gm_star2 _ _
      have k6 : v1 = true → v2 = true → gm (P ++ Q).data.toList (S ++ T).data.toList = true := fun e1 e2 => by
        rw [app_data, app_data]
        exact gm_append _ _ _ _ (k1.trans e1) (k2.trans e2)
      have k7 : v1 = true → gm (P ++ ⟨#[42]⟩).data.toList (S ++ T).data.toList = true := fun e1 => by
        rw [app_data, app_data]
        exact gm_append _ _ _ _ (k1.trans e1) (gm_any _)
      have k8 : v1 = true → gm ((⟨#[42]⟩ : ByteArray) ++ P).data.toList (T ++ S).data.toList = true := fun e1 => by
        rw [app_data, app_data]
        exact gm_append _ _ _ _ (gm_any _) (k1.trans e1)
      have k9 : v3 = true → (P.data.toList == S.data.toList) = v1 := fun e => by
        rw [← k1, gm_plain]
        intro x hx
        rw [e] at k3
        have := List.all_eq_true.1 k3 x hx
        simpa using this
      have H1 := Lib.hid (glob_at P S v1 (by omega) (by omega) k1)
      have H2 := Lib.hid (glob_at Q T v2 (by omega) (by omega) k2)
      have H4 := Lib.hid (glob_at (P ++ ⟨#[42]⟩) S v4 (by rw [ByteArray.size_append]; omega) (by omega) k4)
      have H5 := Lib.hid (glob_at (P ++ ⟨#[42, 42]⟩) S v4 (by rw [ByteArray.size_append]; omega) (by omega) k5)
      have H6 := Lib.hid (fun e1 e2 => glob_at (P ++ Q) (S ++ T) true (by rw [ByteArray.size_append]; omega) (by rw [ByteArray.size_append]; omega) (k6 e1 e2))
      have H7 := Lib.hid (fun e1 => glob_at (P ++ ⟨#[42]⟩) (S ++ T) true (by rw [ByteArray.size_append]; omega) (by rw [ByteArray.size_append]; omega) (k7 e1))
      have H8 := Lib.hid (fun e1 => glob_at (⟨#[42]⟩ ++ P) (T ++ S) true (by rw [ByteArray.size_append]; omega) (by rw [ByteArray.size_append]; omega) (k8 e1))
      have H9 := Lib.hid (glob_at ⟨#[42]⟩ S true (by omega) (by omega) (gm_any _))
      have H10 := Lib.hid (glob_at S S true (by omega) (by omega) (gm_self _))
      have K9 := Lib.hid k9
      clear k1 k2 k3 k4 k5 k6 k7 k8 k9
      simp only [List.append_eq, List.cons_append, List.nil_append] at *
      cases v1 <;> cases v2 <;> cases v3
      case false.false.false =>
        go_wp2_with fail
        refine (H1.out _).mono ?_
        rintro e w2 ⟨rfl, hB2⟩
        have HBn := Lib.hid (show Below W.heap.size W w2 from below_trs HB.out hB2); clear HB hB2; have HB := HBn; clear HBn
        go_wp2_with fail
        refine (known_any _).mono ?_
        rintro e w2 ⟨rfl, hB2⟩
        have HBn := Lib.hid (show Below W.heap.size W w2 from below_trs HB.out hB2); clear HB hB2; have HB := HBn; clear HBn
        go_wp2_with fail
        refine (H9.out _).mono ?_
        rintro e w2 ⟨rfl, hB2⟩
        have HBn := Lib.hid (show Below W.heap.size W w2 from below_trs HB.out hB2); clear HB hB2; have HB := HBn; clear HBn
        go_wp2_with fail
        refine (H5.out _).mono ?_
        rintro e w2 ⟨rfl, hB2⟩
        have HBn := Lib.hid (show Below W.heap.size W w2 from below_trs HB.out hB2); clear HB hB2; have HB := HBn; clear HBn
        go_wp2_with fail
        refine (H4.out _).mono ?_
        rintro e w2 ⟨rfl, hB2⟩
        have HBn := Lib.hid (show Below W.heap.size W w2 from below_trs HB.out hB2); clear HB hB2; have HB := HBn; clear HBn
        go_wp2_with fail
        refine (H10.out _).mono ?_
        rintro e w2 ⟨rfl, hB2⟩
        have HBn := Lib.hid (show Below W.heap.size W w2 from below_trs HB.out hB2); clear HB hB2; have HB := HBn; clear HBn
        go_wp2_with fail
        refine (H1.out _).mono ?_
        rintro e w2 ⟨rfl, hB2⟩
        have HBn := Lib.hid (show Below W.heap.size W w2 from below_trs HB.out hB2); clear HB hB2; have HB := HBn; clear HBn
        go_wp2_with fail
        go_ret
        exact ⟨rfl, HB.out⟩
      case false.false.true =>
        have hps := K9.out rfl
        have hpt : (P.toList == S.toList) = false := by rw [ByteArray.toList_eq, ByteArray.toList_eq]; exact hps
        clear hps
        go_wp2_with fail
        refine (H1.out _).mono ?_
        rintro e w2 ⟨rfl, hB2⟩
        have HBn := Lib.hid (show Below W.heap.size W w2 from below_trs HB.out hB2); clear HB hB2; have HB := HBn; clear HBn
        go_wp2_with fail
        refine (known_any _).mono ?_
        rintro e w2 ⟨rfl, hB2⟩
        have HBn := Lib.hid (show Below W.heap.size W w2 from below_trs HB.out hB2); clear HB hB2; have HB := HBn; clear HBn
        go_wp2_with fail
        refine (H1.out _).mono ?_
        rintro e w2 ⟨rfl, hB2⟩
        have HBn := Lib.hid (show Below W.heap.size W w2 from below_trs HB.out hB2); clear HB hB2; have HB := HBn; clear HBn
        go_wp2_with fail
        refine (H9.out _).mono ?_
        rintro e w2 ⟨rfl, hB2⟩
        have HBn := Lib.hid (show Below W.heap.size W w2 from below_trs HB.out hB2); clear HB hB2; have HB := HBn; clear HBn
        go_wp2_with fail
        refine (H5.out _).mono ?_
        rintro e w2 ⟨rfl, hB2⟩
        have HBn := Lib.hid (show Below W.heap.size W w2 from below_trs HB.out hB2); clear HB hB2; have HB := HBn; clear HBn
        go_wp2_with fail
        refine (H4.out _).mono ?_
        rintro e w2 ⟨rfl, hB2⟩
        have HBn := Lib.hid (show Below W.heap.size W w2 from below_trs HB.out hB2); clear HB hB2; have HB := HBn; clear HBn
        go_wp2_with fail
        refine (H10.out _).mono ?_
        rintro e w2 ⟨rfl, hB2⟩
        have HBn := Lib.hid (show Below W.heap.size W w2 from below_trs HB.out hB2); clear HB hB2; have HB := HBn; clear HBn
        go_wp2_with fail
        refine (H1.out _).mono ?_
        rintro e w2 ⟨rfl, hB2⟩
        have HBn := Lib.hid (show Below W.heap.size W w2 from below_trs HB.out hB2); clear HB hB2; have HB := HBn; clear HBn
        go_wp2_with fail
        go_ret
        exact ⟨rfl, HB.out⟩
      case false.true.false =>
        go_wp2_with fail
        refine (H1.out _).mono ?_
        rintro e w2 ⟨rfl, hB2⟩
        have HBn := Lib.hid (show Below W.heap.size W w2 from below_trs HB.out hB2); clear HB hB2; have HB := HBn; clear HBn
        go_wp2_with fail
        refine (known_any _).mono ?_
        rintro e w2 ⟨rfl, hB2⟩
        have HBn := Lib.hid (show Below W.heap.size W w2 from below_trs HB.out hB2); clear HB hB2; have HB := HBn; clear HBn
        go_wp2_with fail
        refine (H9.out _).mono ?_
        rintro e w2 ⟨rfl, hB2⟩
        have HBn := Lib.hid (show Below W.heap.size W w2 from below_trs HB.out hB2); clear HB hB2; have HB := HBn; clear HBn
        go_wp2_with fail
        refine (H5.out _).mono ?_
        rintro e w2 ⟨rfl, hB2⟩
        have HBn := Lib.hid (show Below W.heap.size W w2 from below_trs HB.out hB2); clear HB hB2; have HB := HBn; clear HBn
        go_wp2_with fail
        refine (H4.out _).mono ?_
        rintro e w2 ⟨rfl, hB2⟩
        have HBn := Lib.hid (show Below W.heap.size W w2 from below_trs HB.out hB2); clear HB hB2; have HB := HBn; clear HBn
        go_wp2_with fail
        refine (H10.out _).mono ?_
        rintro e w2 ⟨rfl, hB2⟩
        have HBn := Lib.hid (show Below W.heap.size W w2 from below_trs HB.out hB2); clear HB hB2; have HB := HBn; clear HBn
        go_wp2_with fail
        refine (H1.out _).mono ?_
        rintro e w2 ⟨rfl, hB2⟩
        have HBn := Lib.hid (show Below W.heap.size W w2 from below_trs HB.out hB2); clear HB hB2; have HB := HBn; clear HBn
        go_wp2_with fail
        go_ret
        exact ⟨rfl, HB.out⟩
      case false.true.true =>
        have hps := K9.out rfl
        have hpt : (P.toList == S.toList) = false := by rw [ByteArray.toList_eq, ByteArray.toList_eq]; exact hps
        clear hps
        go_wp2_with fail
        refine (H1.out _).mono ?_
        rintro e w2 ⟨rfl, hB2⟩
        have HBn := Lib.hid (show Below W.heap.size W w2 from below_trs HB.out hB2); clear HB hB2; have HB := HBn; clear HBn
        go_wp2_with fail
        refine (known_any _).mono ?_
        rintro e w2 ⟨rfl, hB2⟩
        have HBn := Lib.hid (show Below W.heap.size W w2 from below_trs HB.out hB2); clear HB hB2; have HB := HBn; clear HBn
        go_wp2_with fail
        refine (H1.out _).mono ?_
        rintro e w2 ⟨rfl, hB2⟩
        have HBn := Lib.hid (show Below W.heap.size W w2 from below_trs HB.out hB2); clear HB hB2; have HB := HBn; clear HBn
        go_wp2_with fail
        refine (H9.out _).mono ?_
        rintro e w2 ⟨rfl, hB2⟩
        have HBn := Lib.hid (show Below W.heap.size W w2 from below_trs HB.out hB2); clear HB hB2; have HB := HBn; clear HBn
        go_wp2_with fail
        refine (H5.out _).mono ?_
        rintro e w2 ⟨rfl, hB2⟩
        have HBn := Lib.hid (show Below W.heap.size W w2 from below_trs HB.out hB2); clear HB hB2; have HB := HBn; clear HBn
        go_wp2_with fail
        refine (H4.out _).mono ?_
        rintro e w2 ⟨rfl, hB2⟩
        have HBn := Lib.hid (show Below W.heap.size W w2 from below_trs HB.out hB2); clear HB hB2; have HB := HBn; clear HBn
        go_wp2_with fail
        refine (H10.out _).mono ?_
        rintro e w2 ⟨rfl, hB2⟩
        have HBn := Lib.hid (show Below W.heap.size W w2 from below_trs HB.out hB2); clear HB hB2; have HB := HBn; clear HBn
        go_wp2_with fail
        refine (H1.out _).mono ?_
        rintro e w2 ⟨rfl, hB2⟩
        have HBn := Lib.hid (show Below W.heap.size W w2 from below_trs HB.out hB2); clear HB hB2; have HB := HBn; clear HBn
        go_wp2_with fail
        go_ret
        exact ⟨rfl, HB.out⟩
      case true.false.false =>
        go_wp2_with fail
        refine (H1.out _).mono ?_
        rintro e w2 ⟨rfl, hB2⟩
        have HBn := Lib.hid (show Below W.heap.size W w2 from below_trs HB.out hB2); clear HB hB2; have HB := HBn; clear HBn
        go_wp2_with fail
        refine (H2.out _).mono ?_
        rintro e w2 ⟨rfl, hB2⟩
        have HBn := Lib.hid (show Below W.heap.size W w2 from below_trs HB.out hB2); clear HB hB2; have HB := HBn; clear HBn
        go_wp2_with fail
        refine (known_any _).mono ?_
        rintro e w2 ⟨rfl, hB2⟩
        have HBn := Lib.hid (show Below W.heap.size W w2 from below_trs HB.out hB2); clear HB hB2; have HB := HBn; clear HBn
        go_wp2_with fail
        refine (H9.out _).mono ?_
        rintro e w2 ⟨rfl, hB2⟩
        have HBn := Lib.hid (show Below W.heap.size W w2 from below_trs HB.out hB2); clear HB hB2; have HB := HBn; clear HBn
        go_wp2_with fail
        refine (H5.out _).mono ?_
        rintro e w2 ⟨rfl, hB2⟩
        have HBn := Lib.hid (show Below W.heap.size W w2 from below_trs HB.out hB2); clear HB hB2; have HB := HBn; clear HBn
        go_wp2_with fail
        refine (H4.out _).mono ?_
        rintro e w2 ⟨rfl, hB2⟩
        have HBn := Lib.hid (show Below W.heap.size W w2 from below_trs HB.out hB2); clear HB hB2; have HB := HBn; clear HBn
        go_wp2_with fail
        refine (H10.out _).mono ?_
        rintro e w2 ⟨rfl, hB2⟩
        have HBn := Lib.hid (show Below W.heap.size W w2 from below_trs HB.out hB2); clear HB hB2; have HB := HBn; clear HBn
        go_wp2_with fail
        refine (H1.out _).mono ?_
        rintro e w2 ⟨rfl, hB2⟩
        have HBn := Lib.hid (show Below W.heap.size W w2 from below_trs HB.out hB2); clear HB hB2; have HB := HBn; clear HBn
        go_wp2_with fail
        refine (H7.out (by first | trivial | rfl) _).mono ?_
        rintro e w2 ⟨rfl, hB2⟩
        have HBn := Lib.hid (show Below W.heap.size W w2 from below_trs HB.out hB2); clear HB hB2; have HB := HBn; clear HBn
        go_wp2_with fail
        refine (H8.out (by first | trivial | rfl) _).mono ?_
        rintro e w2 ⟨rfl, hB2⟩
        have HBn := Lib.hid (show Below W.heap.size W w2 from below_trs HB.out hB2); clear HB hB2; have HB := HBn; clear HBn
        go_wp2_with fail
        go_ret
        exact ⟨rfl, HB.out⟩
      case true.false.true =>
        have hps := K9.out rfl
        have hpt : (P.toList == S.toList) = true := by rw [ByteArray.toList_eq, ByteArray.toList_eq]; exact hps
        clear hps
        go_wp2_with fail
        refine (H1.out _).mono ?_
        rintro e w2 ⟨rfl, hB2⟩
        have HBn := Lib.hid (show Below W.heap.size W w2 from below_trs HB.out hB2); clear HB hB2; have HB := HBn; clear HBn
        go_wp2_with fail
        refine (H2.out _).mono ?_
        rintro e w2 ⟨rfl, hB2⟩
        have HBn := Lib.hid (show Below W.heap.size W w2 from below_trs HB.out hB2); clear HB hB2; have HB := HBn; clear HBn
        go_wp2_with fail
        refine (known_any _).mono ?_
        rintro e w2 ⟨rfl, hB2⟩
        have HBn := Lib.hid (show Below W.heap.size W w2 from below_trs HB.out hB2); clear HB hB2; have HB := HBn; clear HBn
        go_wp2_with fail
        refine (H1.out _).mono ?_
        rintro e w2 ⟨rfl, hB2⟩
        have HBn := Lib.hid (show Below W.heap.size W w2 from below_trs HB.out hB2); clear HB hB2; have HB := HBn; clear HBn
        go_wp2_with fail
        refine (H9.out _).mono ?_
        rintro e w2 ⟨rfl, hB2⟩
        have HBn := Lib.hid (show Below W.heap.size W w2 from below_trs HB.out hB2); clear HB hB2; have HB := HBn; clear HBn
        go_wp2_with fail
        refine (H5.out _).mono ?_
        rintro e w2 ⟨rfl, hB2⟩
        have HBn := Lib.hid (show Below W.heap.size W w2 from below_trs HB.out hB2); clear HB hB2; have HB := HBn; clear HBn
        go_wp2_with fail
        refine (H4.out _).mono ?_
        rintro e w2 ⟨rfl, hB2⟩
        have HBn := Lib.hid (show Below W.heap.size W w2 from below_trs HB.out hB2); clear HB hB2; have HB := HBn; clear HBn
        go_wp2_with fail
        refine (H10.out _).mono ?_
        rintro e w2 ⟨rfl, hB2⟩
        have HBn := Lib.hid (show Below W.heap.size W w2 from below_trs HB.out hB2); clear HB hB2; have HB := HBn; clear HBn
        go_wp2_with fail
        refine (H1.out _).mono ?_
        rintro e w2 ⟨rfl, hB2⟩
        have HBn := Lib.hid (show Below W.heap.size W w2 from below_trs HB.out hB2); clear HB hB2; have HB := HBn; clear HBn
        go_wp2_with fail
        refine (H7.out (by first | trivial | rfl) _).mono ?_
        rintro e w2 ⟨rfl, hB2⟩
        have HBn := Lib.hid (show Below W.heap.size W w2 from below_trs HB.out hB2); clear HB hB2; have HB := HBn; clear HBn
        go_wp2_with fail
        refine (H8.out (by first | trivial | rfl) _).mono ?_
        rintro e w2 ⟨rfl, hB2⟩
        have HBn := Lib.hid (show Below W.heap.size W w2 from below_trs HB.out hB2); clear HB hB2; have HB := HBn; clear HBn
        go_wp2_with fail
        go_ret
        exact ⟨rfl, HB.out⟩
      case true.true.false =>
        go_wp2_with fail
        refine (H1.out _).mono ?_
        rintro e w2 ⟨rfl, hB2⟩
        have HBn := Lib.hid (show Below W.heap.size W w2 from below_trs HB.out hB2); clear HB hB2; have HB := HBn; clear HBn
        go_wp2_with fail
        refine (H2.out _).mono ?_
        rintro e w2 ⟨rfl, hB2⟩
        have HBn := Lib.hid (show Below W.heap.size W w2 from below_trs HB.out hB2); clear HB hB2; have HB := HBn; clear HBn
        go_wp2_with fail
        refine (known_any _).mono ?_
        rintro e w2 ⟨rfl, hB2⟩
        have HBn := Lib.hid (show Below W.heap.size W w2 from below_trs HB.out hB2); clear HB hB2; have HB := HBn; clear HBn
        go_wp2_with fail
        refine (H6.out (by first | trivial | rfl) (by first | trivial | rfl) _).mono ?_
        rintro e w2 ⟨rfl, hB2⟩
        have HBn := Lib.hid (show Below W.heap.size W w2 from below_trs HB.out hB2); clear HB hB2; have HB := HBn; clear HBn
        go_wp2_with fail
        refine (H9.out _).mono ?_
        rintro e w2 ⟨rfl, hB2⟩
        have HBn := Lib.hid (show Below W.heap.size W w2 from below_trs HB.out hB2); clear HB hB2; have HB := HBn; clear HBn
        go_wp2_with fail
        refine (H5.out _).mono ?_
        rintro e w2 ⟨rfl, hB2⟩
        have HBn := Lib.hid (show Below W.heap.size W w2 from below_trs HB.out hB2); clear HB hB2; have HB := HBn; clear HBn
        go_wp2_with fail
        refine (H4.out _).mono ?_
        rintro e w2 ⟨rfl, hB2⟩
        have HBn := Lib.hid (show Below W.heap.size W w2 from below_trs HB.out hB2); clear HB hB2; have HB := HBn; clear HBn
        go_wp2_with fail
        refine (H10.out _).mono ?_
        rintro e w2 ⟨rfl, hB2⟩
        have HBn := Lib.hid (show Below W.heap.size W w2 from below_trs HB.out hB2); clear HB hB2; have HB := HBn; clear HBn
        go_wp2_with fail
        refine (H1.out _).mono ?_
        rintro e w2 ⟨rfl, hB2⟩
        have HBn := Lib.hid (show Below W.heap.size W w2 from below_trs HB.out hB2); clear HB hB2; have HB := HBn; clear HBn
        go_wp2_with fail
        refine (H7.out (by first | trivial | rfl) _).mono ?_
        rintro e w2 ⟨rfl, hB2⟩
        have HBn := Lib.hid (show Below W.heap.size W w2 from below_trs HB.out hB2); clear HB hB2; have HB := HBn; clear HBn
        go_wp2_with fail
        refine (H8.out (by first | trivial | rfl) _).mono ?_
        rintro e w2 ⟨rfl, hB2⟩
        have HBn := Lib.hid (show Below W.heap.size W w2 from below_trs HB.out hB2); clear HB hB2; have HB := HBn; clear HBn
        go_wp2_with fail
        go_ret
        exact ⟨rfl, HB.out⟩
      case true.true.true =>
        have hps := K9.out rfl
        have hpt : (P.toList == S.toList) = true := by rw [ByteArray.toList_eq, ByteArray.toList_eq]; exact hps
        clear hps
        go_wp2_with fail
        refine (H1.out _).mono ?_
        rintro e w2 ⟨rfl, hB2⟩
        have HBn := Lib.hid (show Below W.heap.size W w2 from below_trs HB.out hB2); clear HB hB2; have HB := HBn; clear HBn
        go_wp2_with fail
        refine (H2.out _).mono ?_
        rintro e w2 ⟨rfl, hB2⟩
        have HBn := Lib.hid (show Below W.heap.size W w2 from below_trs HB.out hB2); clear HB hB2; have HB := HBn; clear HBn
        go_wp2_with fail
        refine (known_any _).mono ?_
        rintro e w2 ⟨rfl, hB2⟩
        have HBn := Lib.hid (show Below W.heap.size W w2 from below_trs HB.out hB2); clear HB hB2; have HB := HBn; clear HBn
        go_wp2_with fail
        refine (H6.out (by first | trivial | rfl) (by first | trivial | rfl) _).mono ?_
        rintro e w2 ⟨rfl, hB2⟩
        have HBn := Lib.hid (show Below W.heap.size W w2 from below_trs HB.out hB2); clear HB hB2; have HB := HBn; clear HBn
        go_wp2_with fail
        refine (H1.out _).mono ?_
        rintro e w2 ⟨rfl, hB2⟩
        have HBn := Lib.hid (show Below W.heap.size W w2 from below_trs HB.out hB2); clear HB hB2; have HB := HBn; clear HBn
        go_wp2_with fail
        refine (H9.out _).mono ?_
        rintro e w2 ⟨rfl, hB2⟩
        have HBn := Lib.hid (show Below W.heap.size W w2 from below_trs HB.out hB2); clear HB hB2; have HB := HBn; clear HBn
        go_wp2_with fail
        refine (H5.out _).mono ?_
        rintro e w2 ⟨rfl, hB2⟩
        have HBn := Lib.hid (show Below W.heap.size W w2 from below_trs HB.out hB2); clear HB hB2; have HB := HBn; clear HBn
        go_wp2_with fail
        refine (H4.out _).mono ?_
        rintro e w2 ⟨rfl, hB2⟩
        have HBn := Lib.hid (show Below W.heap.size W w2 from below_trs HB.out hB2); clear HB hB2; have HB := HBn; clear HBn
        go_wp2_with fail
        refine (H10.out _).mono ?_
        rintro e w2 ⟨rfl, hB2⟩
        have HBn := Lib.hid (show Below W.heap.size W w2 from below_trs HB.out hB2); clear HB hB2; have HB := HBn; clear HBn
        go_wp2_with fail
        refine (H1.out _).mono ?_
        rintro e w2 ⟨rfl, hB2⟩
        have HBn := Lib.hid (show Below W.heap.size W w2 from below_trs HB.out hB2); clear HB hB2; have HB := HBn; clear HBn
        go_wp2_with fail
        refine (H7.out (by first | trivial | rfl) _).mono ?_
        rintro e w2 ⟨rfl, hB2⟩
        have HBn := Lib.hid (show Below W.heap.size W w2 from below_trs HB.out hB2); clear HB hB2; have HB := HBn; clear HBn
        go_wp2_with fail
        refine (H8.out (by first | trivial | rfl) _).mono ?_
        rintro e w2 ⟨rfl, hB2⟩
        have HBn := Lib.hid (show Below W.heap.size W w2 from below_trs HB.out hB2); clear HB hB2; have HB := HBn; clear HBn
        go_wp2_with fail
        go_ret
        exact ⟨rfl, HB.out⟩
end Go.Proofs.YtehpnbeihnhjeaaDoor

/-
  The row of the law NamesGlob: whatever the input, it answers true and leaves its arguments as they were; out of its walk.
-/
namespace Go.Proofs.YtehpnbeihnhjeaaDoor.namesGlob
open Go.ChangeShapes Go.WideShapes Go.ChangeAt Go.RowKit
open Go.ChangeMaps (open_string shut_string)
theorem own : ownKnob Tryd.prog.godebug = none := by kernel_rfl
theorem laidOut : laidOutB Tryd.prog = true := by kernel_rfl
set_option maxRecDepth 100000 in
theorem lifted (os : Os) (started : os.Started) (H : Type) (enc : TypeId × Value → H) :
    ReturnsInHanded {} Tryd.checked os 4 .any (fun w args => (Rows.namesGlobSpec.pre enc Tryd.prog Tryd.f4 Rows.namesGlobRow.domain false w args ∧ laidMetH Tryd.prog Rows.namesGlobRow.laid w) ∧ sizedMet enc Tryd.prog Tryd.f4 (OpenSpec.ofChange Rows.namesGlobSpec) false w args)
      (Rows.namesGlobSpec.post enc Tryd.prog Tryd.f4 false true false false) := by
  refine returnsInHanded_of_change_and (C := Tryd.checked) (X := fun w _ => laidMetH Tryd.prog Rows.namesGlobRow.laid w) (fun _ _ _ hh h => h.of_heap hh) own started (by kernel_rfl) Tryd.func4
    (ChangeSpec.witness_shaped (enc := enc) (C := Tryd.checked) (os := os) (X := fun w _ => laidMetH Tryd.prog Rows.namesGlobRow.laid w) false (World.laidAll Tryd.prog os Rows.namesGlobRow.laid) #[.slice none 0 0, .slice none 0 0, .slice none 0 0, .slice none 0 0] 8 (World.laidAll_os _ _ _)
      (World.shaped_of_ZipB (by kernel_rfl) (by kernel_rfl)) (by kernel_rfl) (by kernel_rfl) (by kernel_rfl)
      (by rw [MakeChecks.laidMetH_plain _ _ _ (by kernel_rfl)]; exact laidMet_laidAll _ (by kernel_rfl) (by kernel_rfl))) ?_
  intro W base args ds gs before hval0 hW _ hsz0 hL _
  have hsz : (DataW.weightsEach Tryd.prog (Tryd.f4.params.toList ++ Rows.namesGlobSpec.plain.varTypes Tryd.prog) (ds ++ gs)).all (· ≤ reachBytes) = true := hsz0
  have hval : ∀ (j : Nat) t v, Tryd.f4.params[j]? = some t → args[j]? = some v → Value.okWide Tryd.prog W .any base t v := hval0
  have hW' := hW
  obtain ⟨p, q, hA0, hV, rfl, hfz, hnd⟩ := hW
  have hA : DataW.TrodAll enc Tryd.prog W 0 (fun _ => true) true Tryd.f4.params.toList args.toList ds p := hA0
  rw [Tryd.params4] at hA hval hsz
  obtain ⟨v0, vs0, d0, ds0, p0, q0, hargs, rfl, rfl, h0, r0⟩ := trodAll_cons hA
  obtain ⟨v1, vs1, d1, ds1, p1, q1, rfl, rfl, rfl, h1, r1⟩ := trodAll_cons r0
  obtain ⟨v2, vs2, d2, ds2, p2, q2, rfl, rfl, rfl, h2, r2⟩ := trodAll_cons r1
  obtain ⟨v3, vs3, d3, ds3, p3, q3, rfl, rfl, rfl, h3, r3⟩ := trodAll_cons r2
  obtain ⟨rfl, rfl, rfl⟩ := trodAll_nil r3
  obtain rfl : args = #[v0, v1, v2, v3] := by cases args; simp_all
  obtain ⟨rfl, rfl⟩ := trodVars_none hV
  obtain ⟨a0, len0, cap0, rfl⟩ := okWide_slice Tryd.underlying26 (hval 0 26 v0 rfl rfl)
  have k0 := h0
  have lt0 : ∀ x ∈ p0, x.block < W.heap.size := by obtain ⟨m, hm⟩ := k0; exact DataW.trod_lt m _ _ _ hm
  obtain ⟨z0, x0, y0, u0, b0, c0, m0⟩ := open_nums hsz (j := 0) (t := 26) rfl rfl Tryd.underlying26 Tryd.underlying5 (by kernel_rfl) (B := 1) (by kernel_rfl) h0
  obtain ⟨a1, len1, cap1, rfl⟩ := okWide_slice Tryd.underlying26 (hval 1 26 v1 rfl rfl)
  have k1 := h1
  have lt1 : ∀ x ∈ p1, x.block < W.heap.size := by obtain ⟨m, hm⟩ := k1; exact DataW.trod_lt m _ _ _ hm
  obtain ⟨z1, x1, y1, u1, b1, c1, m1⟩ := open_nums hsz (j := 1) (t := 26) rfl rfl Tryd.underlying26 Tryd.underlying5 (by kernel_rfl) (B := 1) (by kernel_rfl) h1
  obtain ⟨a2, len2, cap2, rfl⟩ := okWide_slice Tryd.underlying26 (hval 2 26 v2 rfl rfl)
  have k2 := h2
  have lt2 : ∀ x ∈ p2, x.block < W.heap.size := by obtain ⟨m, hm⟩ := k2; exact DataW.trod_lt m _ _ _ hm
  obtain ⟨z2, x2, y2, u2, b2, c2, m2⟩ := open_nums hsz (j := 2) (t := 26) rfl rfl Tryd.underlying26 Tryd.underlying5 (by kernel_rfl) (B := 1) (by kernel_rfl) h2
  obtain ⟨a3, len3, cap3, rfl⟩ := okWide_slice Tryd.underlying26 (hval 3 26 v3 rfl rfl)
  have k3 := h3
  have lt3 : ∀ x ∈ p3, x.block < W.heap.size := by obtain ⟨m, hm⟩ := k3; exact DataW.trod_lt m _ _ _ hm
  obtain ⟨z3, x3, y3, u3, b3, c3, m3⟩ := open_nums hsz (j := 3) (t := 26) rfl rfl Tryd.underlying26 Tryd.underlying5 (by kernel_rfl) (B := 1) (by kernel_rfl) h3
  refine (namesGlob_walk a0 len0 cap0 z0 a1 len1 cap1 z1 a2 len2 cap2 z2 a3 len3 cap3 z3 W x0 y0 u0 b0 c0 m0 x1 y1 u1 b1 c1 m1 x2 y2 u2 b2 c2 m2 x3 y3 u3 b3 c3 m3).mono fun e W' ⟨he, bel⟩ => ?_
  subst he
  exact ⟨_, rfl, _, _, _, [], _, [], hW', trodAll_mk1 (shut_bool Tryd.underlying4 _), (trodAll_cons_mk (Below.trod laidOut (by kernel_rfl) (of_decide_eq_true (by kernel_rfl)) k0 bel lt0) (trodAll_cons_mk (Below.trod laidOut (by kernel_rfl) (of_decide_eq_true (by kernel_rfl)) k1 bel lt1) (trodAll_cons_mk (Below.trod laidOut (by kernel_rfl) (of_decide_eq_true (by kernel_rfl)) k2 bel lt2) (trodAll_cons_mk (Below.trod laidOut (by kernel_rfl) (of_decide_eq_true (by kernel_rfl)) k3 bel lt3) trodAll_mk0)))), rfl, bel.frame _, fun h => by cases h⟩
theorem over : Rows.namesGlobRow.holds Tryd.pinned (OpenSpec.ofChange Rows.namesGlobSpec) :=
  OpenClaim.holds_of_wide 4 Tryd.f4 rfl rfl rfl rfl rfl rfl rfl ⟨rfl, rfl, rfl, rfl, rfl⟩ rfl rfl rfl rfl rfl (by kernel_rfl) Tryd.func4 (by kernel_rfl)
    (of_decide_eq_true (by kernel_rfl)) (by unfold Func.isWrapper; first | (rw [if_pos (by decide +kernel)]; kernel_rfl) | (rw [if_neg (by decide +kernel)]; exact ⟨rfl, rfl⟩))
    (fun os started H enc _ => lifted os started H enc)
theorem card : Rows.NamesGlobCardSaid :=
  Claim7.holds_tied_plain_at .later [] [.data, .pinned] true (true, "f9907188933ece87b77b1618cb57b030d9a50f3daf99862c9f01d8c3d7d29cbc") false over (fun _ h => by cases h) (by kernel_rfl) (fun _ h => by cases h) namesGlob_row_tie rfl ⟨rfl, rfl⟩ (by kernel_rfl) rfl
    (fun f fn hf hfn => by
      obtain rfl : f = 4 := Option.some.inj ((show Tryd.prog.funcNamed "heliast/heliastlaw06.NamesGlob" = some 4 by kernel_rfl).symm.trans hf) |>.symm
      obtain rfl : fn = Tryd.f4 := (Option.some.inj (Tryd.func4.symm.trans hfn)).symm
      exact ⟨by kernel_rfl, fun j t ht => by
        rw [Tryd.params4] at ht
        have hm : t ∈ [26, 26, 26, 26] := by simpa using Array.mem_of_getElem? ht
        have hall : ([26, 26, 26, 26].all fun u => !Tryd.prog.wantsStandIn u) = true := by kernel_rfl
        exact (show Tryd.prog.wantsStandIn t = false by simpa using List.all_eq_true.1 hall t hm)⟩)
    (by kernel_rfl)
end Go.Proofs.YtehpnbeihnhjeaaDoor.namesGlob
namespace Go.Proofs.YtehpnbeihnhjeaaDoor
/-- The row, under a short name. -/
theorem namesGlob_holds : Rows.NamesGlobCardSaid := namesGlob.card
#print axioms namesGlob_holds
end Go.Proofs.YtehpnbeihnhjeaaDoor

