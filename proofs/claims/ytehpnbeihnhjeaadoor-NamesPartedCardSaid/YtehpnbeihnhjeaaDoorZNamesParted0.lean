/-
  Texts of this session, merged in build order: NLParted, RNamesParted.
-/
import Derived.Test.YtehpnbeihnhjeaaDoorZC0
import Derived.Test.YtehpnbeihnhjeaaDoorRows
import Derived.Test.YtehpnbeihnhjeaaDoorCards
import Derived.Test.YtehpnbeihnhjeaaDoorTie
import Derived.LaidMore
import Derived.Lay
import Derived.SevenTiedAt
import Derived.Stop.Joined
set_option linter.unusedVariables false
set_option linter.unusedSimpArgs false
/-
  The law NamesParted, walked: what a pattern with one star matches begins, and ends, with what stands at the star's sides, and is no shorter than both.
-/
namespace Go.Proofs.YtehpnbeihnhjeaaDoor
open Go.RowKit Go.Proofs.YtehpnbeihnhjeaaDoorW.PrintWords Go.Proofs.YtehpnbeihnhjeaaDoorW.PrintLast
set_option linter.unusedSimpArgs false
set_option linter.unusedVariables false
set_option maxRecDepth 100000 in
set_option maxHeartbeats 2000000 in
theorem namesParted_walk (a0 : Option Addr) (len0 cap0 : Nat) (z0 : List Int) (a1 : Option Addr) (len1 cap1 : Nat) (z1 : List Int) (a2 : Option Addr) (len2 cap2 : Nat) (z2 : List Int) (W : World)
    (x0 : z0.length = len0) (y0 : RowAt W a0 (z0.map (.int .u8))) (u0 : ∀ z ∈ z0, (Lit.int .u8 z).wf = true) (b0 : len0 * 1 ≤ 140737488351232) (c0 : len0 ≤ cap0) (m0 : cap0 ≤ maxLen)
    (x1 : z1.length = len1) (y1 : RowAt W a1 (z1.map (.int .u8))) (u1 : ∀ z ∈ z1, (Lit.int .u8 z).wf = true) (b1 : len1 * 1 ≤ 140737488351232) (c1 : len1 ≤ cap1) (m1 : cap1 ≤ maxLen)
    (x2 : z2.length = len2) (y2 : RowAt W a2 (z2.map (.int .u8))) (u2 : ∀ z ∈ z2, (Lit.int .u8 z).wf = true) (b2 : len2 * 1 ≤ 140737488351232) (c2 : len2 ≤ cap2) (m2 : cap2 ≤ maxLen) :
    Calls Tryd.prog 8 #[.slice a0 len0 cap0, .slice a1 len1 cap1, .slice a2 len2 cap2] W fun e w' => e = .returned (.bool true) ∧ Below W.heap.size W w' := by
  subst x0 x1 x2
  obtain ⟨F, hF, lF, hcF⟩ := plain_row y0 u0 b0 c0
  obtain ⟨B, hB, lB, hcB⟩ := plain_row y1 u1 b1 c1
  obtain ⟨S, hS, lS, hcS⟩ := plain_row y2 u2 b2 c2
  clear y0 u0 y1 u1 y2 u2 m0 m1 m2 c0 c1 c2 b0 b1 b2
  have HCF := Lib.hid hcF; have HCB := Lib.hid hcB; have HCS := Lib.hid hcS
  clear hcF hcB hcS
  have k1 := gm_parted F.data.toList B.data.toList S.data.toList lF lB
  have k2 : gm (F ++ ⟨#[42]⟩ ++ B).data.toList (F ++ S ++ B).data.toList = true := by
    rw [app_data, app_data, app_data, app_data, List.append_assoc, List.append_assoc]
    exact gm_between _ _ _
  have e3 : (F ++ ⟨#[42]⟩ ++ B).data.toList = F.data.toList ++ 42 :: B.data.toList := by
    rw [app_data, app_data, List.append_assoc]
    rfl
  rw [← e3] at k1
  have k4 := gm_self (F ++ B).data.toList
  have sz1 : (⟨#[42]⟩ : ByteArray).size = 1 := rfl
  have lf : F.data.toList.length = F.size := Array.length_toList
  have lb : B.data.toList.length = B.size := Array.length_toList
  have ls : S.data.toList.length = S.size := Array.length_toList
  rw [lf, lb, ls] at k1
  clear lf lb ls e3 lF lB lS
  obtain ⟨v, hv⟩ : ∃ v, gm (F ++ ⟨#[42]⟩ ++ B).data.toList S.data.toList = v := ⟨_, rfl⟩
  rw [hv] at k1
  have H1 := Lib.hid (glob_at (F ++ ⟨#[42]⟩ ++ B) S v (by rw [ByteArray.size_append, ByteArray.size_append]; omega) (by omega) hv)
  have H2 := Lib.hid (glob_at (F ++ ⟨#[42]⟩ ++ B) (F ++ S ++ B) true (by rw [ByteArray.size_append, ByteArray.size_append]; omega) (by rw [ByteArray.size_append, ByteArray.size_append]; omega) k2)
  have H3 := Lib.hid (glob_at (F ++ B) (F ++ B) true (by rw [ByteArray.size_append]; omega) (by rw [ByteArray.size_append]; omega) k4)
  have K1 := Lib.hid k1
  clear k1 k2 k4 hv
  have e1 : (S.extract 0 (min (S.size : Int) F.size).toNat).toList = S.data.toList.take (min S.size F.size) := by
    rw [ByteArray.toList_eq, extract_bsL, bsL_toList, List.drop_zero]
    congr 1
    omega
  have e2 : (S.extract (max ((S.size : Int) - B.size) 0).toNat S.size).toList = S.data.toList.drop (S.size - B.size) := by
    rw [ByteArray.toList_eq, extract_bsL, bsL_toList, List.take_of_length_le (by rw [Array.length_toList]; exact Nat.le_refl _)]
    congr 1
    omega
  by_cases g1 : F.size + B.size ≤ S.size
  · have hle : (F.size : Int) + (B.size : Int) ≤ (S.size : Int) := by omega
    by_cases g2 : (S.extract 0 (min (S.size : Int) F.size).toNat).toList = F.toList
    · obtain ⟨x, hx⟩ : ∃ x, ((S.extract (max ((S.size : Int) - B.size) 0).toNat S.size).toList == B.toList) = x := ⟨_, rfl⟩
      have hvx : v = x := by
        rw [K1.out, ← hx, ← e1, g2, e2, decide_eq_true g1, ByteArray.toList_eq, ByteArray.toList_eq]
        simp
      subst hvx
      clear e1 e2 g1 K1
      go_enter Tryd.func8, Tryd.ntmps8
      go_wp2_with fail
      refine (HCF.out _ (Below.refl _ _)).mono ?_
      rintro e w1 ⟨rfl, hb1⟩
      have HB1 := Lib.hid hb1; clear hb1
      go_wp2_with fail
      refine (HCB.out _ HB1.out).mono ?_
      rintro e w2 ⟨rfl, hb2⟩
      have HB2 := Lib.hid (below_trs HB1.out hb2); clear hb2
      go_wp2_with fail
      refine (HCS.out _ HB2.out).mono ?_
      rintro e w3 ⟨rfl, hb3⟩
      have HB3 := Lib.hid (below_trs HB2.out hb3); clear hb3
      clear HCF HCB HCS HB1 HB2
      go_wp2_with fail
      refine (known_any _).mono ?_
      rintro e w4 ⟨rfl, hb4⟩
      have HB4 := Lib.hid (below_trs HB3.out hb4); clear hb4 HB3
      go_wp2_with fail
      refine (H1.out _).mono ?_
      rintro e w5 ⟨rfl, hb5⟩
      have HB5 := Lib.hid (below_trs HB4.out hb5); clear hb5 HB4
      go_wp2_with fail
      refine (H2.out _).mono ?_
      rintro e w6 ⟨rfl, hb6⟩
      have HB6 := Lib.hid (below_trs HB5.out hb6); clear hb6 HB5
      go_wp2_with fail
      refine (H3.out _).mono ?_
      rintro e w7 ⟨rfl, hb7⟩
      have HB7 := Lib.hid (below_trs HB6.out hb7); clear hb7 HB6
      go_wp2_with fail
      go_ret
      exact ⟨rfl, HB7.out⟩
    · have hvx : v = false := by
        rw [K1.out, ← e1, show ((S.extract 0 (min (S.size : Int) F.size).toNat).toList == F.data.toList) = false from by rw [← ByteArray.toList_eq F]; simpa using g2]
        simp
      subst hvx
      have g3 : ((S.extract 0 (min (S.size : Int) F.size).toNat).toList == F.toList) = false := by simpa using g2
      clear e1 e2 g1 K1
      go_enter Tryd.func8, Tryd.ntmps8
      go_wp2_with fail
      refine (HCF.out _ (Below.refl _ _)).mono ?_
      rintro e w1 ⟨rfl, hb1⟩
      have HB1 := Lib.hid hb1; clear hb1
      go_wp2_with fail
      refine (HCB.out _ HB1.out).mono ?_
      rintro e w2 ⟨rfl, hb2⟩
      have HB2 := Lib.hid (below_trs HB1.out hb2); clear hb2
      go_wp2_with fail
      refine (HCS.out _ HB2.out).mono ?_
      rintro e w3 ⟨rfl, hb3⟩
      have HB3 := Lib.hid (below_trs HB2.out hb3); clear hb3
      clear HCF HCB HCS HB1 HB2
      go_wp2_with fail
      refine (known_any _).mono ?_
      rintro e w4 ⟨rfl, hb4⟩
      have HB4 := Lib.hid (below_trs HB3.out hb4); clear hb4 HB3
      go_wp2_with fail
      refine (H1.out _).mono ?_
      rintro e w5 ⟨rfl, hb5⟩
      have HB5 := Lib.hid (below_trs HB4.out hb5); clear hb5 HB4
      go_wp2_with fail
      refine (H2.out _).mono ?_
      rintro e w6 ⟨rfl, hb6⟩
      have HB6 := Lib.hid (below_trs HB5.out hb6); clear hb6 HB5
      go_wp2_with fail
      refine (H3.out _).mono ?_
      rintro e w7 ⟨rfl, hb7⟩
      have HB7 := Lib.hid (below_trs HB6.out hb7); clear hb7 HB6
      go_wp2_with fail
      go_ret
      exact ⟨rfl, HB7.out⟩
  · have hvx : v = false := by
      rw [K1.out, decide_eq_false g1]
      rfl
    subst hvx
    have hlt : (S.size : Int) < (F.size : Int) + (B.size : Int) := by omega
    clear e1 e2 g1 K1
    go_enter Tryd.func8, Tryd.ntmps8
    go_wp2_with fail
    refine (HCF.out _ (Below.refl _ _)).mono ?_
    rintro e w1 ⟨rfl, hb1⟩
    have HB1 := Lib.hid hb1; clear hb1
    go_wp2_with fail
    refine (HCB.out _ HB1.out).mono ?_
    rintro e w2 ⟨rfl, hb2⟩
    have HB2 := Lib.hid (below_trs HB1.out hb2); clear hb2
    go_wp2_with fail
    refine (HCS.out _ HB2.out).mono ?_
    rintro e w3 ⟨rfl, hb3⟩
    have HB3 := Lib.hid (below_trs HB2.out hb3); clear hb3
    clear HCF HCB HCS HB1 HB2
    go_wp2_with fail
    refine (known_any _).mono ?_
    rintro e w4 ⟨rfl, hb4⟩
    have HB4 := Lib.hid (below_trs HB3.out hb4); clear hb4 HB3
    go_wp2_with fail
    refine (H1.out _).mono ?_
    rintro e w5 ⟨rfl, hb5⟩
    have HB5 := Lib.hid (below_trs HB4.out hb5); clear hb5 HB4
    go_wp2_with fail
    refine (H2.out _).mono ?_
    rintro e w6 ⟨rfl, hb6⟩
    have HB6 := Lib.hid (below_trs HB5.out hb6); clear hb6 HB5
    go_wp2_with fail
    refine (H3.out _).mono ?_
    rintro e w7 ⟨rfl, hb7⟩
    have HB7 := Lib.hid (below_trs HB6.out hb7); clear hb7 HB6
    go_wp2_with fail
    go_ret
    exact ⟨rfl, HB7.out⟩
end Go.Proofs.YtehpnbeihnhjeaaDoor

/-
  The row of the law NamesParted: whatever the input, it answers true and leaves its arguments as they were; out of its walk.
-/
namespace Go.Proofs.YtehpnbeihnhjeaaDoor.namesParted
open Go.ChangeShapes Go.WideShapes Go.ChangeAt Go.RowKit
open Go.ChangeMaps (open_string shut_string)
theorem own : ownKnob Tryd.prog.godebug = none := by kernel_rfl
theorem laidOut : laidOutB Tryd.prog = true := by kernel_rfl
set_option maxRecDepth 100000 in
theorem lifted (os : Os) (started : os.Started) (H : Type) (enc : TypeId × Value → H) :
    ReturnsInHanded {} Tryd.checked os 8 .any (fun w args => (Rows.namesPartedSpec.pre enc Tryd.prog Tryd.f8 Rows.namesPartedRow.domain false w args ∧ laidMetH Tryd.prog Rows.namesPartedRow.laid w) ∧ sizedMet enc Tryd.prog Tryd.f8 (OpenSpec.ofChange Rows.namesPartedSpec) false w args)
      (Rows.namesPartedSpec.post enc Tryd.prog Tryd.f8 false true false false) := by
  refine returnsInHanded_of_change_and (C := Tryd.checked) (X := fun w _ => laidMetH Tryd.prog Rows.namesPartedRow.laid w) (fun _ _ _ hh h => h.of_heap hh) own started (by kernel_rfl) Tryd.func8
    (ChangeSpec.witness_shaped (enc := enc) (C := Tryd.checked) (os := os) (X := fun w _ => laidMetH Tryd.prog Rows.namesPartedRow.laid w) false (World.laidAll Tryd.prog os Rows.namesPartedRow.laid) #[.slice none 0 0, .slice none 0 0, .slice none 0 0] 8 (World.laidAll_os _ _ _)
      (World.shaped_of_ZipB (by kernel_rfl) (by kernel_rfl)) (by kernel_rfl) (by kernel_rfl) (by kernel_rfl)
      (by rw [MakeChecks.laidMetH_plain _ _ _ (by kernel_rfl)]; exact laidMet_laidAll _ (by kernel_rfl) (by kernel_rfl))) ?_
  intro W base args ds gs before hval0 hW _ hsz0 hL _
  have hsz : (DataW.weightsEach Tryd.prog (Tryd.f8.params.toList ++ Rows.namesPartedSpec.plain.varTypes Tryd.prog) (ds ++ gs)).all (· ≤ reachBytes) = true := hsz0
  have hval : ∀ (j : Nat) t v, Tryd.f8.params[j]? = some t → args[j]? = some v → Value.okWide Tryd.prog W .any base t v := hval0
  have hW' := hW
  obtain ⟨p, q, hA0, hV, rfl, hfz, hnd⟩ := hW
  have hA : DataW.TrodAll enc Tryd.prog W 0 (fun _ => true) true Tryd.f8.params.toList args.toList ds p := hA0
  rw [Tryd.params8] at hA hval hsz
  obtain ⟨v0, vs0, d0, ds0, p0, q0, hargs, rfl, rfl, h0, r0⟩ := trodAll_cons hA
  obtain ⟨v1, vs1, d1, ds1, p1, q1, rfl, rfl, rfl, h1, r1⟩ := trodAll_cons r0
  obtain ⟨v2, vs2, d2, ds2, p2, q2, rfl, rfl, rfl, h2, r2⟩ := trodAll_cons r1
  obtain ⟨rfl, rfl, rfl⟩ := trodAll_nil r2
  obtain rfl : args = #[v0, v1, v2] := by cases args; simp_all
  obtain ⟨rfl, rfl⟩ := trodVars_none hV
  obtain ⟨a0, len0, cap0, rfl⟩ := okWide_slice Tryd.underlying26 (hval 0 26 v0 rfl rfl)
  have k0 := h0
  have lt0 : ∀ x ∈ p0, x.block < W.heap.size := by obtain ⟨m, hm⟩ := k0; exact DataW.trod_lt m _ _ _ hm
  obtain ⟨z0, x0, y0, u0, b0, c0, m0⟩ := open_nums hsz (j := 0) (t := 26) rfl rfl Tryd.underlying26 Tryd.underlying5 (by kernel_rfl) (B := 1) (by kernel_rfl) h0
  obtain ⟨a1, len1, cap1, rfl⟩ := okWide_slice Tryd.underlying26 (hval 1 26 v1 rfl rfl)
  have k1 := h1
  have lt1 : ∀ x ∈ p1, x.block < W.heap.size := by obtain ⟨m, hm⟩ := k1; exact DataW.trod_lt m _ _ _ hm
  obtain ⟨z1, x1, y1, u1, b1, c1, m1⟩ := open_nums hsz (j := 1) (t := 26) rfl rfl Tryd.underlying26 Tryd.underlying5 (by kernel_rfl) (B := 1) (by kernel_rfl) h1
  obtain ⟨a2, len2, cap2, rfl⟩ := okWide_slice Tryd.underlying26 (hval 2 26 v2 rfl rfl)
  have k2 := h2
  have lt2 : ∀ x ∈ p2, x.block < W.heap.size := by obtain ⟨m, hm⟩ := k2; exact DataW.trod_lt m _ _ _ hm
  obtain ⟨z2, x2, y2, u2, b2, c2, m2⟩ := open_nums hsz (j := 2) (t := 26) rfl rfl Tryd.underlying26 Tryd.underlying5 (by kernel_rfl) (B := 1) (by kernel_rfl) h2
  refine (namesParted_walk a0 len0 cap0 z0 a1 len1 cap1 z1 a2 len2 cap2 z2 W x0 y0 u0 b0 c0 m0 x1 y1 u1 b1 c1 m1 x2 y2 u2 b2 c2 m2).mono fun e W' ⟨he, bel⟩ => ?_
  subst he
  exact ⟨_, rfl, _, _, _, [], _, [], hW', trodAll_mk1 (shut_bool Tryd.underlying4 _), (trodAll_cons_mk (Below.trod laidOut (by kernel_rfl) (of_decide_eq_true (by kernel_rfl)) k0 bel lt0) (trodAll_cons_mk (Below.trod laidOut (by kernel_rfl) (of_decide_eq_true (by kernel_rfl)) k1 bel lt1) (trodAll_cons_mk (Below.trod laidOut (by kernel_rfl) (of_decide_eq_true (by kernel_rfl)) k2 bel lt2) trodAll_mk0))), rfl, bel.frame _, fun h => by cases h⟩
theorem over : Rows.namesPartedRow.holds Tryd.pinned (OpenSpec.ofChange Rows.namesPartedSpec) :=
  OpenClaim.holds_of_wide 8 Tryd.f8 rfl rfl rfl rfl rfl rfl rfl ⟨rfl, rfl, rfl, rfl, rfl⟩ rfl rfl rfl rfl rfl (by kernel_rfl) Tryd.func8 (by kernel_rfl)
    (of_decide_eq_true (by kernel_rfl)) (by unfold Func.isWrapper; first | (rw [if_pos (by decide +kernel)]; kernel_rfl) | (rw [if_neg (by decide +kernel)]; exact ⟨rfl, rfl⟩))
    (fun os started H enc _ => lifted os started H enc)
theorem card : Rows.NamesPartedCardSaid :=
  Claim7.holds_tied_plain_at .later [] [.data, .pinned] true (true, "f9907188933ece87b77b1618cb57b030d9a50f3daf99862c9f01d8c3d7d29cbc") false over (fun _ h => by cases h) (by kernel_rfl) (fun _ h => by cases h) namesParted_row_tie rfl ⟨rfl, rfl⟩ (by kernel_rfl) rfl
    (fun f fn hf hfn => by
      obtain rfl : f = 8 := Option.some.inj ((show Tryd.prog.funcNamed "heliast/heliastlaw06.NamesParted" = some 8 by kernel_rfl).symm.trans hf) |>.symm
      obtain rfl : fn = Tryd.f8 := (Option.some.inj (Tryd.func8.symm.trans hfn)).symm
      exact ⟨by kernel_rfl, fun j t ht => by
        rw [Tryd.params8] at ht
        have hm : t ∈ [26, 26, 26] := by simpa using Array.mem_of_getElem? ht
        have hall : ([26, 26, 26].all fun u => !Tryd.prog.wantsStandIn u) = true := by kernel_rfl
        exact (show Tryd.prog.wantsStandIn t = false by simpa using List.all_eq_true.1 hall t hm)⟩)
    (by kernel_rfl)
end Go.Proofs.YtehpnbeihnhjeaaDoor.namesParted
namespace Go.Proofs.YtehpnbeihnhjeaaDoor
/-- The row, under a short name. -/
theorem namesParted_holds : Rows.NamesPartedCardSaid := namesParted.card
#print axioms namesParted_holds
end Go.Proofs.YtehpnbeihnhjeaaDoor

