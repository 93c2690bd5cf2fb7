/-
  Texts of this session, merged in build order: LLNone, RLogNone.
-/
import Derived.Test.YtcbfghncdclonaaZE0
import Derived.Test.YtcbfghncdclonaaRows
set_option linter.unusedVariables false
set_option linter.unusedSimpArgs false
/-
  The law LogNone, walked.
-/
namespace Go.Proofs.Ytcbfghncdclonaa
open Go.RowKit Go.Maps Go.Lib
set_option linter.unusedSimpArgs false
set_option linter.unusedVariables false
theorem none_fuse : fuseS ⟨100, [], false, 0, false⟩ 0 = ⟨100, [], true, 0, false⟩ := by rfl
theorem none_append : appendS ⟨100, [], true, 0, false⟩ [120] [121] = (⟨100, [⟨[120], [], 0⟩], true, 0, true⟩, 21) := by rfl
theorem none_crash : crashS ⟨100, [⟨[120], [], 0⟩], true, 0, true⟩ 0 = ⟨100, [⟨[120], [], 0⟩], false, 0, false⟩ := by rfl
theorem none_log : appendS ⟨100, [⟨[120], [], 0⟩], false, 0, false⟩ lg [] = (⟨100, [⟨lg, [], 0⟩, ⟨[120], [], 0⟩], false, 0, false⟩, 0) := by rfl
theorem rest_nil {s : Ds} (h : readS s lg = []) : restS s = (s, 0, []) := by
  unfold restS
  rw [h, all_nil]
  rfl
theorem none_mids : mids ⟨100, [⟨[120], [], 0⟩], false, 0, false⟩ = (⟨100, [⟨lg, [], 0⟩, ⟨[120], [], 0⟩], false, 0, false⟩, 0, []) := by
  unfold mids
  rw [none_log, if_pos rfl]
  exact rest_nil rfl
set_option maxRecDepth 100000 in
set_option maxHeartbeats 2000000 in
theorem logNone_walk (a0 : ByteArray) (W : World) (s0 : a0.size ≤ 140737488351232) :
    Calls Try.prog 7 #[.string a0] W fun e w' => e = .returned (.bool true) ∧ Below W.heap.size W w' := by
  have H0 := Lib.hid (Nat.le_refl W.heap.size)
  have HK := Lib.hid known_any
  by_cases hbig : 100 < a0.size
  · have hb : (100 : Int) < (a0.size : Int) := by omega
    go_enter Try.func7, Try.ntmps7
    go_wp2_with fail
    refine (HK.out _).mono ?_
    rintro e w1 ⟨rfl, hb1⟩
    have B1 := Lib.hid hb1; clear hb1
    go_wp2_with fail
    go_ret
    exact ⟨rfl, B1.out⟩
  · have hb : (a0.size : Int) ≤ 100 := by omega
    have HN := Lib.hid (Mine.new (Below.refl W.heap.size W) (Nat.le_refl _) 100 new_100)
    have HO := Lib.hid open_nil; have HP := Lib.hid (put_nil a0); have HM := Lib.hid many_nil
    clear hbig
    go_enter Try.func7, Try.ntmps7
    go_wp2_with fail
    refine HN.out.mono ?_
    rintro e w1 ⟨p, rfl, hm⟩
    have M1 := Lib.hid (LogW.of_mine hm); clear hm HN
    go_wp2_with fail
    refine (M1.out.fuse H0.out 0 (by omega) (by omega) none_fuse).mono ?_
    rintro e w2 ⟨rfl, hm⟩
    have M2 := Lib.hid hm; clear hm M1
    go_wp2_with fail
    refine (M2.out.append H0.out ⟨#[120]⟩ ⟨#[121]⟩ (by decide) (by decide) rfl rfl none_append).mono ?_
    rintro e w3 ⟨rfl, hm⟩
    have M3 := Lib.hid hm; clear hm M2
    go_wp2_with fail
    refine (HO.out _).mono ?_
    rintro e w4 ⟨rfl, hb4⟩
    have M4 := Lib.hid (M3.out.below H0.out hb4); clear hb4 M3
    go_wp2_with fail
    refine (open_dead M4.out H0.out rfl).mono ?_
    rintro e w5 ⟨rfl, hm⟩
    have M5 := Lib.hid hm; clear hm M4
    go_wp2_with fail
    refine (M5.out.crash H0.out 0 (by omega) (by omega) none_crash).mono ?_
    rintro e w6 ⟨rfl, hm⟩
    have M6 := Lib.hid hm; clear hm M5
    go_wp2_with fail
    refine (open_ok M6.out H0.out rfl none_mids).mono ?_
    rintro e w7 ⟨g, v, R, rfl, hr, hm⟩
    have B7 := Lib.hid hm.belowW; clear hm M6
    obtain ⟨va, vc, rfl⟩ := hr.slice_len
    clear hr
    go_wp2_with fail
    refine (HK.out _).mono ?_
    rintro e w8 ⟨rfl, hb8⟩
    have B8 := Lib.hid (below_trs B7.out H0.out hb8); clear hb8 B7
    go_wp2_with fail
    refine (HP.out _).mono ?_
    rintro e w9 ⟨rfl, hb9⟩
    have B9 := Lib.hid (below_trs B8.out H0.out hb9); clear hb9 B8
    go_wp2_with fail
    refine (HM.out _).mono ?_
    rintro e w10 ⟨rfl, rfl⟩
    go_wp2_with fail
    go_ret
    exact ⟨rfl, B9.out⟩
end Go.Proofs.Ytcbfghncdclonaa

/-
  The row of the law LogNone: whatever the input, it answers true and leaves its arguments as they were; out of its walk.
-/
namespace Go.Proofs.Ytcbfghncdclonaa.logNone
open Go.ChangeShapes Go.WideShapes Go.ChangeAt Go.RowKit
open Go.ChangeMaps (open_string shut_string)
theorem own : ownKnob Try.prog.godebug = none := by kernel_rfl
set_option maxRecDepth 100000 in
theorem lifted (os : Os) (started : os.Started) (H : Type) (enc : TypeId × Value → H) :
    ReturnsInHanded {} Try.checked os 7 .any (Rows.logNoneSpec.pre6 enc Try.prog Try.f7 Rows.logNoneRow.domain false) (Rows.logNoneSpec.post enc Try.prog Try.f7 false true false false) := by
  refine returnsInHanded_of_change_sized (C := Try.checked) own started (by kernel_rfl) Try.func7
    (ChangeSpec.witness6 (enc := enc) (C := Try.checked) false ⟨#[], #[.string ByteArray.empty], []⟩ 8 (by kernel_rfl) (by kernel_rfl) (by kernel_rfl) (by kernel_rfl)) ?_
  intro W base args ds gs before hval0 hW _ hsz0 _
  have hsz : (DataW.weightsEach Try.prog (Try.f7.params.toList ++ Rows.logNoneSpec.plain.varTypes Try.prog) (ds ++ gs)).all (· ≤ reachBytes) = true := hsz0
  have hval : ∀ (j : Nat) t v, Try.f7.params[j]? = some t → args[j]? = some v → Value.okWide Try.prog W .any base t v := hval0
  have hW' := hW
  obtain ⟨p, q, hA0, hV, rfl, hfz, hnd⟩ := hW
  have hA : DataW.TrodAll enc Try.prog W 0 (fun _ => true) true Try.f7.params.toList args.toList ds p := hA0
  rw [Try.params7] at hA hval hsz
  obtain ⟨v0, vs0, d0, ds0, p0, q0, hargs, rfl, rfl, h0, r0⟩ := trodAll_cons hA
  obtain ⟨rfl, rfl, rfl⟩ := trodAll_nil r0
  obtain rfl : args = #[v0] := by cases args; simp_all
  obtain ⟨rfl, rfl⟩ := trodVars_none hV
  obtain ⟨a0, rfl, rfl, rfl, y0⟩ := open_string Try.underlying9 (hval 0 9 v0 rfl rfl) h0
  have w0 : a0.size ≤ 140737488351232 := by
    have z := sized_string hsz (j := 0) (t := 9) rfl rfl
    rw [Array.length_toList] at z
    exact z
  refine (logNone_walk a0 W w0).mono fun e W' ⟨he, bel⟩ => ?_
  subst he
  exact ⟨_, rfl, _, _, _, [], _, [], hW', trodAll_mk1 (shut_bool Try.underlying4 _), (trodAll_cons_mk (shut_string Try.underlying9 y0) trodAll_mk0), rfl, bel.frame _, fun h => by cases h⟩
theorem over : Rows.logNoneRow.holds Try.pinned (OpenSpec.ofChange Rows.logNoneSpec) :=
  OpenClaim.holds_of_wide 7 Try.f7 rfl rfl rfl rfl rfl rfl rfl ⟨rfl, rfl, rfl, rfl, rfl⟩ rfl rfl rfl rfl rfl (by kernel_rfl) Try.func7 (by kernel_rfl)
    (of_decide_eq_true (by kernel_rfl)) (by unfold Func.isWrapper; first | (rw [if_pos (by decide +kernel)]; kernel_rfl) | (rw [if_neg (by decide +kernel)]; exact ⟨rfl, rfl⟩))
    (fun os started H enc _ => lifted os started H enc)
end Go.Proofs.Ytcbfghncdclonaa.logNone
namespace Go.Proofs.Ytcbfghncdclonaa
/-- The row, under a short name. -/
theorem logNone_holds : Rows.LogNoneSaid := logNone.over
#print axioms logNone_holds
end Go.Proofs.Ytcbfghncdclonaa

