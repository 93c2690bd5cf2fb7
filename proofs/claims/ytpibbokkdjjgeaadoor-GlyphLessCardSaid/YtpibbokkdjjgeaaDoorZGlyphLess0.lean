/-
  Texts of this session, merged in build order: GLLess, RGlyphLess.
-/
import Derived.Test.YtpibbokkdjjgeaaDoorZC0
import Derived.Test.YtpibbokkdjjgeaaDoorRows
import Derived.Test.YtpibbokkdjjgeaaDoorCards
import Derived.Test.YtpibbokkdjjgeaaDoorTie
import Derived.LaidMore
import Derived.Lay
import Derived.SevenTiedAt
import Derived.Stop.Joined
set_option linter.unusedVariables false
set_option linter.unusedSimpArgs false
/-
  The law GlyphLess, walked: of two texts just one stands ahead, unless they are the same; what stands behind both changes nothing.
-/
namespace Go.Proofs.YtpibbokkdjjgeaaDoor
open Go.RowKit
set_option linter.unusedSimpArgs false
set_option linter.unusedVariables false
theorem cmp_self : ∀ a : List UInt8, Lib.compareBytes a a = 0
  | [] => rfl
  | a :: t => by
    rw [Lib.compareBytes, if_neg (by simp), if_neg (by simp), cmp_self t]
theorem cmp_tri : ∀ a b : List UInt8, (Lib.compareBytes a b < 0 ∧ ¬ Lib.compareBytes b a < 0 ∧ a ≠ b) ∨ (¬ Lib.compareBytes a b < 0 ∧ Lib.compareBytes b a < 0 ∧ a ≠ b) ∨ (¬ Lib.compareBytes a b < 0 ∧ ¬ Lib.compareBytes b a < 0 ∧ a = b)
  | [], [] => .inr (.inr ⟨by decide, by decide, rfl⟩)
  | [], b :: t => .inl ⟨by simp [Lib.compareBytes], by simp [Lib.compareBytes], by simp⟩
  | a :: s, [] => .inr (.inl ⟨by simp [Lib.compareBytes], by simp [Lib.compareBytes], by simp⟩)
  | a :: s, b :: t => by
    rw [Lib.compareBytes, Lib.compareBytes]
    rcases Nat.lt_trichotomy a.toNat b.toNat with h | h | h
    · have h1 : a < b := UInt8.lt_iff_toNat_lt.2 h
      have h2 : ¬ b < a := fun e => by have := UInt8.lt_iff_toNat_lt.1 e; omega
      rw [if_pos h1, if_neg h2, if_pos h1]
      exact .inl ⟨by decide, by decide, fun e => by have := (List.cons.inj e).1; subst this; omega⟩
    · have e : a = b := UInt8.toNat_inj.1 h
      subst e
      rw [if_neg (by simp), if_neg (by simp), if_neg (by simp), if_neg (by simp)]
      rcases cmp_tri s t with ⟨h1, h2, h3⟩ | ⟨h1, h2, h3⟩ | ⟨h1, h2, h3⟩
      · exact .inl ⟨h1, h2, fun e => h3 (List.cons.inj e).2⟩
      · exact .inr (.inl ⟨h1, h2, fun e => h3 (List.cons.inj e).2⟩)
      · exact .inr (.inr ⟨h1, h2, by rw [h3]⟩)
    · have h1 : b < a := UInt8.lt_iff_toNat_lt.2 h
      have h2 : ¬ a < b := fun e => by have := UInt8.lt_iff_toNat_lt.1 e; omega
      rw [if_neg h2, if_pos h1, if_pos h1]
      exact .inr (.inl ⟨by decide, by decide, fun e => by have := (List.cons.inj e).1; subst this; omega⟩)
theorem cmp_front : ∀ f a b : List UInt8, Lib.compareBytes (f ++ a) (f ++ b) = Lib.compareBytes a b
  | [], a, b => rfl
  | c :: f, a, b => by
    rw [List.cons_append, List.cons_append, Lib.compareBytes, if_neg (by simp), if_neg (by simp), cmp_front f a b]
theorem cmp_longer : ∀ (a : List UInt8) (c : UInt8) (t : List UInt8), Lib.compareBytes a (a ++ c :: t) = -1
  | [], c, t => rfl
  | a :: s, c, t => by
    rw [List.cons_append, Lib.compareBytes, if_neg (by simp), if_neg (by simp), cmp_longer s c t]
theorem runes_le : ∀ (n : Nat) (l : List UInt8), l.length ≤ n → runesF l ≤ l.length
  | 0, l, h => by
    have : l = [] := List.length_eq_zero_iff.1 (by omega)
    rw [this, runesF_step]
    exact Nat.le_refl _
  | n + 1, l, h => by
    rw [runesF_step]
    split
    · omega
    · rename_i hne
      have hw := dec_width l hne
      have := runes_le n (l.drop (dec l).2) (by rw [List.length_drop]; omega)
      rw [List.length_drop] at this
      omega
theorem app_data (x y : ByteArray) : (x ++ y).data.toList = x.data.toList ++ y.data.toList := by rw [ByteArray.data_append, Array.toList_append]
theorem below_trs {w w1 w2 : World} (h : Below w.heap.size w w1) (h2 : Below w1.heap.size w1 w2) : Below w.heap.size w w2 := h.trans (h2.mono h.size)
set_option maxRecDepth 100000 in
set_option maxHeartbeats 2000000 in
theorem glyphLess_walk (a0 : Option Addr) (len0 cap0 : Nat) (z0 : List Int) (a1 : Option Addr) (len1 cap1 : Nat) (z1 : List Int) (a2 : ByteArray) (W : World)
    (x0 : z0.length = len0) (y0 : RowAt W a0 (z0.map (.int .u8))) (u0 : ∀ z ∈ z0, (Lit.int .u8 z).wf = true) (b0 : len0 * 1 ≤ 140737488351232) (c0 : len0 ≤ cap0) (m0 : cap0 ≤ maxLen)
    (x1 : z1.length = len1) (y1 : RowAt W a1 (z1.map (.int .u8))) (u1 : ∀ z ∈ z1, (Lit.int .u8 z).wf = true) (b1 : len1 * 1 ≤ 140737488351232) (c1 : len1 ≤ cap1) (m1 : cap1 ≤ maxLen)
    (s2 : a2.size ≤ 140737488351232) (hT : Tabs W) :
    Calls Tryd.prog 7 #[.slice a0 len0 cap0, .slice a1 len1 cap1, .string a2] W fun e w' => e = .returned (.bool true) ∧ Below W.heap.size W w' := by
  subst x0 x1
  obtain ⟨A, hA, hcA⟩ := text_row y0 u0 b0 c0
  obtain ⟨B, hB, hcB⟩ := text_row y1 u1 b1 c1
  clear y0 u0 y1 u1 m0 m1 c0 c1 b0 b1
  have HCA := Lib.hid hcA; have HCB := Lib.hid hcB; have HT := Lib.hid hT
  clear hcA hcB hT
  have hk := fun w (hb : Below W.heap.size W w) => known_any w (HT.out.below hb)
  have HK := Lib.hid hk
  clear hk
  by_cases hbig : 50 < a2.size
  · go_enter Tryd.func7, Tryd.ntmps7
    go_wp2_with fail
    refine (HCA.out _ (Below.refl _ _)).mono ?_
    rintro e w1 ⟨rfl, hb1⟩
    have HB1 := Lib.hid hb1; clear hb1
    go_wp2_with fail
    refine (HCB.out _ HB1.out).mono ?_
    rintro e w2 ⟨rfl, hb2⟩
    have HB2 := Lib.hid (below_trs HB1.out hb2); clear hb2 HB1
    go_wp2_with fail
    refine (HK.out _ HB2.out).mono ?_
    rintro e w3 ⟨rfl, hb3⟩
    have HB3 := Lib.hid (below_trs HB2.out hb3); clear hb3 HB2
    go_wp2_with fail
    go_ret
    exact ⟨rfl, HB3.out⟩
  · have hab := fun w => less_any A B w
    have hba := fun w => less_any B A w
    have hfab := fun w => less_any (a2 ++ A) (a2 ++ B) w
    have haa := fun w => less_any A (A ++ ⟨#[97]⟩) w
    have hru := fun w => runes_any A (by omega) w
    have hrl := runes_le _ A.data.toList (Nat.le_refl _)
    rw [len_data] at hrl
    have htr := cmp_tri A.data.toList B.data.toList
    rw [show lessL (a2 ++ A).data.toList (a2 ++ B).data.toList = lessL A.data.toList B.data.toList from by unfold lessL; rw [app_data, app_data, cmp_front]] at hfab
    rw [show lessL A.data.toList (A ++ ⟨#[97]⟩).data.toList = true from by unfold lessL; rw [app_data, show (⟨#[97]⟩ : ByteArray).data.toList = [97] from rfl, cmp_longer]; rfl] at haa
    obtain ⟨v1, h1⟩ : ∃ v, lessL A.data.toList B.data.toList = v := ⟨_, rfl⟩
    obtain ⟨v2, h2⟩ : ∃ v, lessL B.data.toList A.data.toList = v := ⟨_, rfl⟩
    obtain ⟨v3, h3⟩ : ∃ v, (A.toList == B.toList) = v := ⟨_, rfl⟩
    obtain ⟨n, hn⟩ : ∃ n, runesF A.data.toList = n := ⟨_, rfl⟩
    rw [hn] at hru hrl
    have hv : (v1 = true ∧ v2 = false ∧ v3 = false) ∨ (v1 = false ∧ v2 = true ∧ v3 = false) ∨ (v1 = false ∧ v2 = false ∧ v3 = true) := by
      rw [← h1, ← h2, ← h3, ByteArray.toList_eq, ByteArray.toList_eq]
      unfold lessL
      rcases htr with ⟨g1, g2, g3⟩ | ⟨g1, g2, g3⟩ | ⟨g1, g2, g3⟩
      · exact .inl ⟨decide_eq_true g1, decide_eq_false g2, by simpa using g3⟩
      · exact .inr (.inl ⟨decide_eq_false g1, decide_eq_true g2, by simpa using g3⟩)
      · exact .inr (.inr ⟨decide_eq_false g1, decide_eq_false g2, by simpa using g3⟩)
    rw [h1] at hab hfab
    rw [h2] at hba
    have hne : (A.toList != B.toList) = !v3 := by rw [← h3]; rfl
    have hni : (n : Int) ≤ (A.size : Int) := by omega
    have HAB := Lib.hid hab; have HBA := Lib.hid hba; have HFAB := Lib.hid hfab; have HAA := Lib.hid haa; have HRU := Lib.hid hru
    clear hab hba hfab haa hru hrl htr h1 h2 hn
    rcases hv with ⟨rfl, rfl, rfl⟩ | ⟨rfl, rfl, rfl⟩ | ⟨rfl, rfl, rfl⟩
    all_goals
      have h4 : A.toList = B.toList ↔ (A.toList == B.toList) = true := by simp
      rw [h3] at h4
      simp only [Bool.false_eq_true, iff_false, iff_true] at h4
      go_enter Tryd.func7, Tryd.ntmps7
      go_wp2_with fail
      refine (HCA.out _ (Below.refl _ _)).mono ?_
      rintro e w1 ⟨rfl, hb1⟩
      have HB1 := Lib.hid hb1; clear hb1
      go_wp2_with fail
      refine (HCB.out _ HB1.out).mono ?_
      rintro e w2 ⟨rfl, hb2⟩
      have HB2 := Lib.hid (below_trs HB1.out hb2); clear hb2 HB1
      go_wp2_with fail
      refine (HAB.out _).mono ?_
      rintro e w3 ⟨rfl, hb3⟩
      have HB3 := Lib.hid (below_trs HB2.out hb3); clear hb3 HB2
      go_wp2_with fail
      refine (HBA.out _).mono ?_
      rintro e w4 ⟨rfl, hb4⟩
      have HB4 := Lib.hid (below_trs HB3.out hb4); clear hb4 HB3
      go_wp2_with fail
      refine (HK.out _ HB4.out).mono ?_
      rintro e w5 ⟨rfl, hb5⟩
      have HB5 := Lib.hid (below_trs HB4.out hb5); clear hb5 HB4
      go_wp2_with fail
      refine (HFAB.out _).mono ?_
      rintro e w6 ⟨rfl, hb6⟩
      have HB6 := Lib.hid (below_trs HB5.out hb6); clear hb6 HB5
      go_wp2_with fail
      refine (HAB.out _).mono ?_
      rintro e w7 ⟨rfl, hb7⟩
      have HB7 := Lib.hid (below_trs HB6.out hb7); clear hb7 HB6
      go_wp2_with fail
      refine (HAA.out _).mono ?_
      rintro e w8 ⟨rfl, hb8⟩
      have HB8 := Lib.hid (below_trs HB7.out hb8); clear hb8 HB7
      go_wp2_with fail
      refine (HRU.out _).mono ?_
      rintro e w9 ⟨rfl, hb9⟩
      have HB9 := Lib.hid (below_trs HB8.out hb9); clear hb9 HB8
      go_wp2_with fail
      go_ret
      exact ⟨rfl, HB9.out⟩
end Go.Proofs.YtpibbokkdjjgeaaDoor

/-
  The row of the law GlyphLess: whatever the input, it answers true and leaves its arguments as they were; out of its walk.
-/
namespace Go.Proofs.YtpibbokkdjjgeaaDoor.glyphLess
open Go.ChangeShapes Go.WideShapes Go.ChangeAt Go.RowKit
open Go.ChangeMaps (open_string shut_string)
theorem own : ownKnob Tryd.prog.godebug = none := by kernel_rfl
theorem laidOut : laidOutB Tryd.prog = true := by kernel_rfl
set_option maxRecDepth 100000 in
theorem lifted (os : Os) (started : os.Started) (H : Type) (enc : TypeId × Value → H) :
    ReturnsInHanded {} Tryd.checked os 7 .any (fun w args => (Rows.glyphLessSpec.pre enc Tryd.prog Tryd.f7 Rows.glyphLessRow.domain false w args ∧ laidMetH Tryd.prog Rows.glyphLessRow.laid w) ∧ sizedMet enc Tryd.prog Tryd.f7 (OpenSpec.ofChange Rows.glyphLessSpec) false w args)
      (Rows.glyphLessSpec.post enc Tryd.prog Tryd.f7 false true false false) := by
  refine returnsInHanded_of_change_and (C := Tryd.checked) (X := fun w _ => laidMetH Tryd.prog Rows.glyphLessRow.laid w) (fun _ _ _ hh h => h.of_heap hh) own started (by kernel_rfl) Tryd.func7
    (ChangeSpec.witness_shaped (enc := enc) (C := Tryd.checked) (os := os) (X := fun w _ => laidMetH Tryd.prog Rows.glyphLessRow.laid w) false (World.laidAll Tryd.prog os Rows.glyphLessRow.laid) #[.slice none 0 0, .slice none 0 0, .string ByteArray.empty] 8 (World.laidAll_os _ _ _)
      (World.shaped_of_ZipB (by kernel_rfl) (by kernel_rfl)) (by kernel_rfl) (by kernel_rfl) (by kernel_rfl)
      (by rw [MakeChecks.laidMetH_plain _ _ _ (by kernel_rfl)]; exact laidMet_laidAll _ (by kernel_rfl) (by kernel_rfl))) ?_
  intro W base args ds gs before hval0 hW _ hsz0 hL _
  have hsz : (DataW.weightsEach Tryd.prog (Tryd.f7.params.toList ++ Rows.glyphLessSpec.plain.varTypes Tryd.prog) (ds ++ gs)).all (· ≤ reachBytes) = true := hsz0
  have hval : ∀ (j : Nat) t v, Tryd.f7.params[j]? = some t → args[j]? = some v → Value.okWide Tryd.prog W .any base t v := hval0
  have hW' := hW
  obtain ⟨p, q, hA0, hV, rfl, hfz, hnd⟩ := hW
  have hA : DataW.TrodAll enc Tryd.prog W 0 (fun _ => true) true Tryd.f7.params.toList args.toList ds p := hA0
  rw [Tryd.params7] at hA hval hsz
  obtain ⟨v0, vs0, d0, ds0, p0, q0, hargs, rfl, rfl, h0, r0⟩ := trodAll_cons hA
  obtain ⟨v1, vs1, d1, ds1, p1, q1, rfl, rfl, rfl, h1, r1⟩ := trodAll_cons r0
  obtain ⟨v2, vs2, d2, ds2, p2, q2, rfl, rfl, rfl, h2, r2⟩ := trodAll_cons r1
  obtain ⟨rfl, rfl, rfl⟩ := trodAll_nil r2
  obtain rfl : args = #[v0, v1, v2] := by cases args; simp_all
  obtain ⟨rfl, rfl⟩ := trodVars_none hV
  obtain ⟨a0, len0, cap0, rfl⟩ := okWide_slice Tryd.underlying22 (hval 0 22 v0 rfl rfl)
  have k0 := h0
  have lt0 : ∀ x ∈ p0, x.block < W.heap.size := by obtain ⟨m, hm⟩ := k0; exact DataW.trod_lt m _ _ _ hm
  obtain ⟨z0, x0, y0, u0, b0, c0, m0⟩ := open_nums hsz (j := 0) (t := 22) rfl rfl Tryd.underlying22 Tryd.underlying5 (by kernel_rfl) (B := 1) (by kernel_rfl) h0
  obtain ⟨a1, len1, cap1, rfl⟩ := okWide_slice Tryd.underlying22 (hval 1 22 v1 rfl rfl)
  have k1 := h1
  have lt1 : ∀ x ∈ p1, x.block < W.heap.size := by obtain ⟨m, hm⟩ := k1; exact DataW.trod_lt m _ _ _ hm
  obtain ⟨z1, x1, y1, u1, b1, c1, m1⟩ := open_nums hsz (j := 1) (t := 22) rfl rfl Tryd.underlying22 Tryd.underlying5 (by kernel_rfl) (B := 1) (by kernel_rfl) h1
  obtain ⟨a2, rfl, rfl, rfl, y2⟩ := open_string Tryd.underlying9 (hval 2 9 v2 rfl rfl) h2
  have w2 : a2.size ≤ 140737488351232 := by
    have z := sized_string hsz (j := 2) (t := 9) rfl rfl
    rw [Array.length_toList] at z
    exact z
  have hLF := tabs_laid hL
  refine (glyphLess_walk a0 len0 cap0 z0 a1 len1 cap1 z1 a2 W x0 y0 u0 b0 c0 m0 x1 y1 u1 b1 c1 m1 w2 hLF).mono fun e W' ⟨he, bel⟩ => ?_
  subst he
  exact ⟨_, rfl, _, _, _, [], _, [], hW', trodAll_mk1 (shut_bool Tryd.underlying4 _), (trodAll_cons_mk (Below.trod laidOut (by kernel_rfl) (of_decide_eq_true (by kernel_rfl)) k0 bel lt0) (trodAll_cons_mk (Below.trod laidOut (by kernel_rfl) (of_decide_eq_true (by kernel_rfl)) k1 bel lt1) (trodAll_cons_mk (shut_string Tryd.underlying9 y2) trodAll_mk0))), rfl, bel.frame _, fun h => by cases h⟩
theorem over : Rows.glyphLessRow.holds Tryd.pinned (OpenSpec.ofChange Rows.glyphLessSpec) :=
  OpenClaim.holds_of_wide 7 Tryd.f7 rfl rfl rfl rfl rfl rfl rfl ⟨rfl, rfl, rfl, rfl, rfl⟩ rfl rfl rfl rfl rfl (by kernel_rfl) Tryd.func7 (by kernel_rfl)
    (of_decide_eq_true (by kernel_rfl)) (by unfold Func.isWrapper; first | (rw [if_pos (by decide +kernel)]; kernel_rfl) | (rw [if_neg (by decide +kernel)]; exact ⟨rfl, rfl⟩))
    (fun os started H enc _ => lifted os started H enc)
theorem card : Rows.GlyphLessCardSaid :=
  Claim7.holds_tied_plain_at .later [] [.data, .pinned, .pinned] true (true, "8997b7ca5b9aadf95f02a1b32bf30f586cd5774f65f73148a006a57d44064d5a") false over (fun _ h => by cases h) (by kernel_rfl) (fun _ h => by cases h) glyphLess_row_tie rfl ⟨rfl, rfl⟩ (by kernel_rfl) rfl
    (fun f fn hf hfn => by
      obtain rfl : f = 7 := Option.some.inj ((show Tryd.prog.funcNamed "heliast/heliastlaw01.GlyphLess" = some 7 by kernel_rfl).symm.trans hf) |>.symm
      obtain rfl : fn = Tryd.f7 := (Option.some.inj (Tryd.func7.symm.trans hfn)).symm
      exact ⟨by kernel_rfl, fun j t ht => by
        rw [Tryd.params7] at ht
        have hm : t ∈ [22, 22, 9] := by simpa using Array.mem_of_getElem? ht
        have hall : ([22, 22, 9].all fun u => !Tryd.prog.wantsStandIn u) = true := by kernel_rfl
        exact (show Tryd.prog.wantsStandIn t = false by simpa using List.all_eq_true.1 hall t hm)⟩)
    (by kernel_rfl)
end Go.Proofs.YtpibbokkdjjgeaaDoor.glyphLess
namespace Go.Proofs.YtpibbokkdjjgeaaDoor
/-- The row, under a short name. -/
theorem glyphLess_holds : Rows.GlyphLessCardSaid := glyphLess.card
#print axioms glyphLess_holds
end Go.Proofs.YtpibbokkdjjgeaaDoor

