/-
  Texts of this session, merged in build order: NLOne, RNamesOne.
-/
import Derived.Test.YtehpnbeihnhjeaaDoorZC0
import Derived.Test.YtehpnbeihnhjeaaDoorRows
import Derived.Test.YtehpnbeihnhjeaaDoorCards
import Derived.Test.YtehpnbeihnhjeaaDoorTie
import Derived.LaidMore
import Derived.Lay
import Derived.SevenTiedAt
import Derived.Stop.Joined
set_option linter.unusedVariables false
set_option linter.unusedSimpArgs false
/-
  The law NamesOne, walked: nothing is both a user's and a room's name; each has a server, and nothing else has; a server's name is neither.
-/
namespace Go.Proofs.YtehpnbeihnhjeaaDoor
open Go.RowKit Go.Proofs.YtehpnbeihnhjeaaDoorW.PrintWords Go.Proofs.YtehpnbeihnhjeaaDoorW.PrintLast
set_option linter.unusedSimpArgs false
set_option linter.unusedVariables false
theorem isE (l : List UInt8) : (bsL l).toList.isEmpty = l.isEmpty := by rw [ByteArray.toList_eq, bsL_toList]
set_option maxRecDepth 100000 in
set_option maxHeartbeats 2000000 in
theorem one_any (s : ByteArray) (hs : s.size ≤ 100000) (w : World) : Calls Tryd.prog 26 #[.string s] w fun e w' => e = .returned (.bool true) ∧ Below w.heap.size w w' := by
  have hU := fun w => user_any s hs w
  have hR := fun w => room_any s hs w
  have hS := fun w => server_any s hs w
  have hH := fun w => host_any s (by omega) w
  have hle : (serverL s.data.toList).length ≤ 100000 := by
    have hl : s.data.toList.length = s.size := Array.length_toList
    unfold serverL
    have p1 : ∀ t : List UInt8, (partsL s.data.toList t).1.length ≤ s.data.toList.length := fun t => by
      unfold partsL
      exact Nat.le_trans (cutB_le _ _).2 (trimPrefix_le _ _)
    split
    · have := p1 [64]; omega
    · split
      · have := p1 [33]; omega
      · simp
  have hT := fun w => host_any (bsL (serverL s.data.toList)) (by rw [bsL_size]; omega) w
  rw [bsL_toList] at hT
  have h1 := user_room s.data.toList
  obtain ⟨h2, h3⟩ := server_some s.data.toList
  have h4 := host_neither s.data.toList
  have h5 := isE (serverL s.data.toList)
  obtain ⟨u, hu⟩ : ∃ u, userL s.data.toList = u := ⟨_, rfl⟩
  obtain ⟨r, hr⟩ : ∃ u, roomL s.data.toList = u := ⟨_, rfl⟩
  obtain ⟨h, hh⟩ : ∃ u, ofL PL s.data.toList = u := ⟨_, rfl⟩
  obtain ⟨t, ht⟩ : ∃ u, ofL PL (serverL s.data.toList) = u := ⟨_, rfl⟩
  obtain ⟨S, hSS⟩ : ∃ S, bsL (serverL s.data.toList) = S := ⟨_, rfl⟩
  obtain ⟨b, hb⟩ : ∃ b, (serverL s.data.toList).isEmpty = b := ⟨_, rfl⟩
  rw [hu, hr] at h1 h2
  rw [hu, hr, hh] at h4
  rw [hb] at h2 h3 h5
  rw [ht] at h3 hT
  rw [hSS] at h5 hT hS
  rw [hu] at hU
  rw [hr] at hR
  rw [hh] at hH
  clear hu hr hh ht hSS hb hle
  have HU := Lib.hid hU; have HR := Lib.hid hR; have HS := Lib.hid hS; have HH := Lib.hid hH; have HT := Lib.hid hT; have H5 := Lib.hid h5
  clear hU hR hS hH hT h5
  cases u <;> cases r <;> cases b <;> first | (exact absurd h1 (by decide)) | (exact absurd h2 (by decide)) | skip
  all_goals cases t <;> cases h <;> first | (exact absurd h3 (by decide)) | (exact absurd h4 (by decide)) | skip
  all_goals clear h1 h2 h3 h4
  case false.false.true.false.false | false.false.true.false.true | false.false.true.true.false | false.false.true.true.true =>
    have hne : S.toList = [] := List.isEmpty_iff.1 H5.out
    have hn5 := H5.out
    go_enter Tryd.func26, Tryd.ntmps26
    go_wp2_with fail
    refine (HU.out _).mono ?_
    rintro e w1 ⟨rfl, hb1⟩
    have HB1 := Lib.hid hb1; clear hb1
    go_wp2_with fail
    refine (HR.out _).mono ?_
    rintro e w2 ⟨rfl, hb2⟩
    have HB2 := Lib.hid (below_trs HB1.out hb2); clear hb2 HB1
    go_wp2_with fail
    refine (HS.out _).mono ?_
    rintro e w3 ⟨rfl, hb3⟩
    have HB3 := Lib.hid (below_trs HB2.out hb3); clear hb3 HB2
    go_wp2_with fail
    refine (HH.out _).mono ?_
    rintro e w4 ⟨rfl, hb4⟩
    have HB4 := Lib.hid (below_trs HB3.out hb4); clear hb4 HB3
    go_wp2_with fail
    go_ret
    exact ⟨rfl, HB4.out⟩
  all_goals
    have hne : ¬ S.toList = [] := fun e => by
      have h5 := H5.out
      rw [e] at h5
      cases h5
    have hn5 := H5.out
    go_enter Tryd.func26, Tryd.ntmps26
    go_wp2_with fail
    refine (HU.out _).mono ?_
    rintro e w1 ⟨rfl, hb1⟩
    have HB1 := Lib.hid hb1; clear hb1
    go_wp2_with fail
    refine (HR.out _).mono ?_
    rintro e w2 ⟨rfl, hb2⟩
    have HB2 := Lib.hid (below_trs HB1.out hb2); clear hb2 HB1
    go_wp2_with fail
    refine (HS.out _).mono ?_
    rintro e w3 ⟨rfl, hb3⟩
    have HB3 := Lib.hid (below_trs HB2.out hb3); clear hb3 HB2
    go_wp2_with fail
    refine (HT.out _).mono ?_
    rintro e w4 ⟨rfl, hb4⟩
    have HB4 := Lib.hid (below_trs HB3.out hb4); clear hb4 HB3
    go_wp2_with fail
    refine (HH.out _).mono ?_
    rintro e w5 ⟨rfl, hb5⟩
    have HB5 := Lib.hid (below_trs HB4.out hb5); clear hb5 HB4
    go_wp2_with fail
    go_ret
    exact ⟨rfl, HB5.out⟩
set_option maxRecDepth 100000 in
set_option maxHeartbeats 2000000 in
theorem namesOne_walk (a0 : ByteArray) (a1 : Option Addr) (len1 cap1 : Nat) (z1 : List Int) (W : World) (s0 : a0.size ≤ 140737488351232)
    (x1 : z1.length = len1) (y1 : RowAt W a1 (z1.map (.int .u8))) (u1 : ∀ z ∈ z1, (Lit.int .u8 z).wf = true) (b1 : len1 * 1 ≤ 140737488351232) (c1 : len1 ≤ cap1) (m1 : cap1 ≤ maxLen) :
    Calls Tryd.prog 9 #[.string a0, .slice a1 len1 cap1] W fun e w' => e = .returned (.bool true) ∧ Below W.heap.size W w' := by
  subst x1
  by_cases hbig : 100 < a0.size
  · go_enter Tryd.func9, Tryd.ntmps9
    go_wp2_with fail
    refine (known_any _).mono ?_
    rintro e w1 ⟨rfl, hb1⟩
    go_wp2_with fail
    go_ret
    exact ⟨rfl, hb1⟩
  · obtain ⟨P, hP, hcP⟩ := name_row y1 u1 b1 c1
    clear y1 u1 m1 c1 b1
    have sz1 : (⟨#[64, 97, 58]⟩ : ByteArray).size = 3 := rfl
    have sz2 : (⟨#[33]⟩ : ByteArray).size = 1 := rfl
    have sz3 : (⟨#[58, 98]⟩ : ByteArray).size = 2 := rfl
    have h1 := one_any a0 (by omega)
    have h2 := one_any P (by omega)
    have h3 := one_any (⟨#[64, 97, 58]⟩ ++ a0) (by rw [ByteArray.size_append]; omega)
    have h4 := one_any (⟨#[33]⟩ ++ P ++ ⟨#[58, 98]⟩) (by rw [ByteArray.size_append, ByteArray.size_append]; omega)
    have HCP := Lib.hid hcP; have H1 := Lib.hid h1; have H2 := Lib.hid h2; have H3 := Lib.hid h3; have H4 := Lib.hid h4
    clear hcP h1 h2 h3 h4
    go_enter Tryd.func9, Tryd.ntmps9
    go_wp2_with fail
    refine (known_any _).mono ?_
    rintro e w1 ⟨rfl, hb1⟩
    have HB1 := Lib.hid hb1; clear hb1
    go_wp2_with fail
    refine (H1.out _).mono ?_
    rintro e w2 ⟨rfl, hb2⟩
    have HB2 := Lib.hid (below_trs HB1.out hb2); clear hb2 HB1
    go_wp2_with fail
    refine (HCP.out _ HB2.out).mono ?_
    rintro e w3 ⟨rfl, hb3⟩
    have HB3 := Lib.hid (below_trs HB2.out hb3); clear hb3 HB2
    go_wp2_with fail
    refine (H2.out _).mono ?_
    rintro e w4 ⟨rfl, hb4⟩
    have HB4 := Lib.hid (below_trs HB3.out hb4); clear hb4 HB3
    go_wp2_with fail
    refine (H3.out _).mono ?_
    rintro e w5 ⟨rfl, hb5⟩
    have HB5 := Lib.hid (below_trs HB4.out hb5); clear hb5 HB4
    go_wp2_with fail
    refine (HCP.out _ HB5.out).mono ?_
    rintro e w6 ⟨rfl, hb6⟩
    have HB6 := Lib.hid (below_trs HB5.out hb6); clear hb6 HB5
    go_wp2_with fail
    refine (H4.out _).mono ?_
    rintro e w7 ⟨rfl, hb7⟩
    have HB7 := Lib.hid (below_trs HB6.out hb7); clear hb7 HB6
    go_wp2_with fail
    go_ret
    exact ⟨rfl, HB7.out⟩
end Go.Proofs.YtehpnbeihnhjeaaDoor

/-
  The row of the law NamesOne: whatever the input, it answers true and leaves its arguments as they were; out of its walk.
-/
namespace Go.Proofs.YtehpnbeihnhjeaaDoor.namesOne
open Go.ChangeShapes Go.WideShapes Go.ChangeAt Go.RowKit
open Go.ChangeMaps (open_string shut_string)
theorem own : ownKnob Tryd.prog.godebug = none := by kernel_rfl
theorem laidOut : laidOutB Tryd.prog = true := by kernel_rfl
set_option maxRecDepth 100000 in
theorem lifted (os : Os) (started : os.Started) (H : Type) (enc : TypeId × Value → H) :
    ReturnsInHanded {} Tryd.checked os 9 .any (fun w args => (Rows.namesOneSpec.pre enc Tryd.prog Tryd.f9 Rows.namesOneRow.domain false w args ∧ laidMetH Tryd.prog Rows.namesOneRow.laid w) ∧ sizedMet enc Tryd.prog Tryd.f9 (OpenSpec.ofChange Rows.namesOneSpec) false w args)
      (Rows.namesOneSpec.post enc Tryd.prog Tryd.f9 false true false false) := by
  refine returnsInHanded_of_change_and (C := Tryd.checked) (X := fun w _ => laidMetH Tryd.prog Rows.namesOneRow.laid w) (fun _ _ _ hh h => h.of_heap hh) own started (by kernel_rfl) Tryd.func9
    (ChangeSpec.witness_shaped (enc := enc) (C := Tryd.checked) (os := os) (X := fun w _ => laidMetH Tryd.prog Rows.namesOneRow.laid w) false (World.laidAll Tryd.prog os Rows.namesOneRow.laid) #[.string ByteArray.empty, .slice none 0 0] 8 (World.laidAll_os _ _ _)
      (World.shaped_of_ZipB (by kernel_rfl) (by kernel_rfl)) (by kernel_rfl) (by kernel_rfl) (by kernel_rfl)
      (by rw [MakeChecks.laidMetH_plain _ _ _ (by kernel_rfl)]; exact laidMet_laidAll _ (by kernel_rfl) (by kernel_rfl))) ?_
  intro W base args ds gs before hval0 hW _ hsz0 hL _
  have hsz : (DataW.weightsEach Tryd.prog (Tryd.f9.params.toList ++ Rows.namesOneSpec.plain.varTypes Tryd.prog) (ds ++ gs)).all (· ≤ reachBytes) = true := hsz0
  have hval : ∀ (j : Nat) t v, Tryd.f9.params[j]? = some t → args[j]? = some v → Value.okWide Tryd.prog W .any base t v := hval0
  have hW' := hW
  obtain ⟨p, q, hA0, hV, rfl, hfz, hnd⟩ := hW
  have hA : DataW.TrodAll enc Tryd.prog W 0 (fun _ => true) true Tryd.f9.params.toList args.toList ds p := hA0
  rw [Tryd.params9] at hA hval hsz
  obtain ⟨v0, vs0, d0, ds0, p0, q0, hargs, rfl, rfl, h0, r0⟩ := trodAll_cons hA
  obtain ⟨v1, vs1, d1, ds1, p1, q1, rfl, rfl, rfl, h1, r1⟩ := trodAll_cons r0
  obtain ⟨rfl, rfl, rfl⟩ := trodAll_nil r1
  obtain rfl : args = #[v0, v1] := by cases args; simp_all
  obtain ⟨rfl, rfl⟩ := trodVars_none hV
  obtain ⟨a0, rfl, rfl, rfl, y0⟩ := open_string Tryd.underlying9 (hval 0 9 v0 rfl rfl) h0
  have w0 : a0.size ≤ 140737488351232 := by
    have z := sized_string hsz (j := 0) (t := 9) rfl rfl
    rw [Array.length_toList] at z
    exact z
  obtain ⟨a1, len1, cap1, rfl⟩ := okWide_slice Tryd.underlying26 (hval 1 26 v1 rfl rfl)
  have k1 := h1
  have lt1 : ∀ x ∈ p1, x.block < W.heap.size := by obtain ⟨m, hm⟩ := k1; exact DataW.trod_lt m _ _ _ hm
  obtain ⟨z1, x1, y1, u1, b1, c1, m1⟩ := open_nums hsz (j := 1) (t := 26) rfl rfl Tryd.underlying26 Tryd.underlying5 (by kernel_rfl) (B := 1) (by kernel_rfl) h1
  refine (namesOne_walk a0 a1 len1 cap1 z1 W w0 x1 y1 u1 b1 c1 m1).mono fun e W' ⟨he, bel⟩ => ?_
  subst he
  exact ⟨_, rfl, _, _, _, [], _, [], hW', trodAll_mk1 (shut_bool Tryd.underlying4 _), (trodAll_cons_mk (shut_string Tryd.underlying9 y0) (trodAll_cons_mk (Below.trod laidOut (by kernel_rfl) (of_decide_eq_true (by kernel_rfl)) k1 bel lt1) trodAll_mk0)), rfl, bel.frame _, fun h => by cases h⟩
theorem over : Rows.namesOneRow.holds Tryd.pinned (OpenSpec.ofChange Rows.namesOneSpec) :=
  OpenClaim.holds_of_wide 9 Tryd.f9 rfl rfl rfl rfl rfl rfl rfl ⟨rfl, rfl, rfl, rfl, rfl⟩ rfl rfl rfl rfl rfl (by kernel_rfl) Tryd.func9 (by kernel_rfl)
    (of_decide_eq_true (by kernel_rfl)) (by unfold Func.isWrapper; first | (rw [if_pos (by decide +kernel)]; kernel_rfl) | (rw [if_neg (by decide +kernel)]; exact ⟨rfl, rfl⟩))
    (fun os started H enc _ => lifted os started H enc)
theorem card : Rows.NamesOneCardSaid :=
  Claim7.holds_tied_plain_at .later [] [.data, .pinned] true (true, "f9907188933ece87b77b1618cb57b030d9a50f3daf99862c9f01d8c3d7d29cbc") false over (fun _ h => by cases h) (by kernel_rfl) (fun _ h => by cases h) namesOne_row_tie rfl ⟨rfl, rfl⟩ (by kernel_rfl) rfl
    (fun f fn hf hfn => by
      obtain rfl : f = 9 := Option.some.inj ((show Tryd.prog.funcNamed "heliast/heliastlaw06.NamesOne" = some 9 by kernel_rfl).symm.trans hf) |>.symm
      obtain rfl : fn = Tryd.f9 := (Option.some.inj (Tryd.func9.symm.trans hfn)).symm
      exact ⟨by kernel_rfl, fun j t ht => by
        rw [Tryd.params9] at ht
        have hm : t ∈ [9, 26] := by simpa using Array.mem_of_getElem? ht
        have hall : ([9, 26].all fun u => !Tryd.prog.wantsStandIn u) = true := by kernel_rfl
        exact (show Tryd.prog.wantsStandIn t = false by simpa using List.all_eq_true.1 hall t hm)⟩)
    (by kernel_rfl)
end Go.Proofs.YtehpnbeihnhjeaaDoor.namesOne
namespace Go.Proofs.YtehpnbeihnhjeaaDoor
/-- The row, under a short name. -/
theorem namesOne_holds : Rows.NamesOneCardSaid := namesOne.card
#print axioms namesOne_holds
end Go.Proofs.YtehpnbeihnhjeaaDoor

