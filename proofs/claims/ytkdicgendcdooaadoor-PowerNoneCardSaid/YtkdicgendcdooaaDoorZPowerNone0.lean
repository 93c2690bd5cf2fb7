/-
  Texts of this session, merged in build order: PNone, RPowerNone.
-/
import Derived.Test.YtkdicgendcdooaaDoorZC1
import Derived.Test.YtkdicgendcdooaaDoorRows
import Derived.Test.YtkdicgendcdooaaDoorZC0
import Derived.Test.YtkdicgendcdooaaDoorCards
import Derived.Test.YtkdicgendcdooaaDoorTie
import Derived.LaidMore
import Derived.Lay
import Derived.SevenTiedAt
import Derived.Stop.Joined
set_option linter.unusedVariables false
set_option linter.unusedSimpArgs false
/-
  The law PowerNone, walked.
-/
namespace Go.Proofs.YtkdicgendcdooaaDoor
open Go.RowKit Go.Lib Go.Proofs.YtkdicgendcdooaaDoorW.PrintWords
set_option linter.unusedSimpArgs false
set_option linter.unusedVariables false
theorem levelV_obj (creator user : ByteArray) : levelV zObj true creator user = 0 := by simp [levelV, atV, inV, getV, zObj, posK]
theorem actV_obj (name : ByteArray) : actV zObj true name = defA name := by simp [actV, atV, inV, getV, zObj, posK]
set_option maxRecDepth 100000 in
set_option maxHeartbeats 2000000 in
theorem none_small (a0 a1 a2 : ByteArray) (a3 : Option Addr) (cap3 : Nat) (l : List UInt8) (a4 : Bool) (W : World) (hs : a0.size + a1.size + a2.size ≤ 100) (hl : l.length ≤ 140737488351232) (y : Bytes8 W a3 l) (hT : Tabs W) :
    Calls Tryd.prog 3 #[.string a0, .string a1, .string a2, .slice a3 l.length cap3, .bool a4] W (EndI W (.bool true)) := by
  have HL := Lib.hid (levels_any (cap := cap3) y hl)
  have hLev := Lib.hid (levels_lev l)
  have hFit := Lib.hid (levels_fit l).1
  have HT := Lib.hid hT
  have hs2 : a2.size ≤ maxLen := Nat.le_trans (show a2.size ≤ 100 by omega) (by decide)
  have HS2 := Lib.hid hs2
  obtain ⟨x, hx⟩ : ∃ x, levelsV l = x := ⟨_, rfl⟩
  rw [hx] at HL hLev hFit
  obtain ⟨n, hn⟩ : ∃ n, l.length = n := ⟨_, rfl⟩
  rw [hn] at HL ⊢
  have hsi : ¬ ((100 : Int) < (a0.size : Int) + (a1.size : Int) + (a2.size : Int)) := by omega
  clear hT hs2 hx hn hl y hs
  by_cases hu : a0 = a1
  · by_cases hb : a2 = bBan
    · have E1 := Lib.hid (show levelV x false a1 a0 = 100 by unfold levelV; rw [if_neg (by decide), if_pos hu])
      have E2 := Lib.hid (show defA a2 = 50 by unfold defA; rw [if_pos (.inl hb)])
      have q0 := eq_t hu
      have q1 : a2.toList = [98, 97, 110] := is_t (b := bBan) rfl hb
      clear hu hb
      go_enter Tryd.func3, Tryd.ntmps3
      go_wp2_with fail
      refine HL.out.mono ?_
      clear HL
      rintro e w1 ⟨v, rfl, hv, hbw⟩
      obtain ⟨D3, q3, D4, q4, rfl, _⟩ := hv.open_
      have HB1 := Lib.hid hbw
      have HT1 := Lib.hid (HT.out.below hbw (Nat.le_refl _))
      have HV := Lib.hid hv
      have HX := Lib.hid (BoxV.new w1 (.int .i64 x.f0) (.int .i64 x.f1) (.string x.f2) (.slice D3 x.f3.length q3) (.slice D4 x.f4.length q4) 27)
      clear hv hbw HT
      go_wp2_with fail
      refine calls_let ?_
      intro W2 hW2
      rw [← hW2] at HX
      clear hW2
      have c1 := known_any _ (HT1.out.below HX.out.below (Nat.le_refl _))
      refine c1.mono ?_
      clear c1
      rintro e W_1 ⟨rfl, hb⟩
      have H1 := Lib.hid (HX.out.keep hb)
      clear hb
      obtain ⟨d0, d1, d2, d3, d4⟩ := H1.out.cells
      have hlt := H1.out.lt
      go_wp2_with fail
      clear d0 d1 d2 d3 d4 hlt
      have c2 := level_no (HV.out.below H1.out.below) a1 a0
      rw [E1.out] at c2
      refine c2.mono ?_
      clear c2
      rintro e W_2 ⟨rfl, hb⟩
      have H2 := Lib.hid (H1.out.keep hb)
      clear hb
      obtain ⟨d0, d1, d2, d3, d4⟩ := H2.out.cells
      have hlt := H2.out.lt
      go_wp2_with fail
      clear d0 d1 d2 d3 d4 hlt
      have c3 := need_no (HV.out.below H2.out.below) a2 a4
      refine c3.mono ?_
      clear c3
      rintro e W_3 ⟨rfl, hb⟩
      have H3 := Lib.hid (H2.out.keep hb)
      clear hb
      obtain ⟨d0, d1, d2, d3, d4⟩ := H3.out.cells
      have hlt := H3.out.lt
      go_wp2_with fail
      clear d0 d1 d2 d3 d4 hlt
      have c4 := act_no (HV.out.below H3.out.below) a2 HS2.out
      rw [show actV x false a2 = defA a2 from rfl, E2.out] at c4
      refine c4.mono ?_
      clear c4
      rintro e W_4 ⟨rfl, hb⟩
      have H4 := Lib.hid (H3.out.keep hb)
      clear hb
      go_wp2_with fail
      have c5 := act_has (VF.obj W_4 Any) Fit.obj a2 HS2.out
      rw [actV_obj, E2.out] at c5
      refine c5.mono ?_
      clear c5
      rintro e W_5 ⟨rfl, hb⟩
      have H5 := Lib.hid (H4.out.keep hb)
      clear hb
      go_wp2_with fail
      have c6 := level_has (VF.obj W_5 Any) Fit.obj a1 a0
      rw [levelV_obj] at c6
      refine c6.mono ?_
      clear c6
      rintro e W_6 ⟨rfl, hb⟩
      have H6 := Lib.hid (H5.out.keep hb)
      clear hb
      obtain ⟨d0, d1, d2, d3, d4⟩ := H6.out.cells
      have hlt := H6.out.lt
      go_wp2_with fail
      clear d0 d1 d2 d3 d4 hlt
      have c7 := valid_lev (HV.out.below H6.out.below) hFit.out (HT1.out.below H6.out.below (Nat.le_refl _)) hLev.out
      refine c7.mono ?_
      clear c7
      rintro e W_7 ⟨rfl, hb⟩
      have H7 := Lib.hid (H6.out.keep hb)
      clear hb
      go_wp2_with fail
      go_ret
      exact ⟨rfl, HB1.out.trans (H7.out.below.mono HB1.out.size)⟩
    · by_cases hk : a2 = bKick
      · have E1 := Lib.hid (show levelV x false a1 a0 = 100 by unfold levelV; rw [if_neg (by decide), if_pos hu])
        have E2 := Lib.hid (show defA a2 = 50 by unfold defA; rw [if_pos (.inr hk)])
        have q0 := eq_t hu
        have q1 : ¬ a2.toList = [98, 97, 110] := is_f (b := bBan) rfl hb
        have r1 : (a2.toList == [98, 97, 110]) = false := beq_eq_false_iff_ne.2 q1
        have q2 : a2.toList = [107, 105, 99, 107] := is_t (b := bKick) rfl hk
        clear hu hb hk
        go_enter Tryd.func3, Tryd.ntmps3
        go_wp2_with fail
        refine HL.out.mono ?_
        clear HL
        rintro e w1 ⟨v, rfl, hv, hbw⟩
        obtain ⟨D3, q3, D4, q4, rfl, _⟩ := hv.open_
        have HB1 := Lib.hid hbw
        have HT1 := Lib.hid (HT.out.below hbw (Nat.le_refl _))
        have HV := Lib.hid hv
        have HX := Lib.hid (BoxV.new w1 (.int .i64 x.f0) (.int .i64 x.f1) (.string x.f2) (.slice D3 x.f3.length q3) (.slice D4 x.f4.length q4) 27)
        clear hv hbw HT
        go_wp2_with fail
        refine calls_let ?_
        intro W2 hW2
        rw [← hW2] at HX
        clear hW2
        have c1 := known_any _ (HT1.out.below HX.out.below (Nat.le_refl _))
        refine c1.mono ?_
        clear c1
        rintro e W_1 ⟨rfl, hb⟩
        have H1 := Lib.hid (HX.out.keep hb)
        clear hb
        obtain ⟨d0, d1, d2, d3, d4⟩ := H1.out.cells
        have hlt := H1.out.lt
        go_wp2_with fail
        clear d0 d1 d2 d3 d4 hlt
        have c2 := level_no (HV.out.below H1.out.below) a1 a0
        rw [E1.out] at c2
        refine c2.mono ?_
        clear c2
        rintro e W_2 ⟨rfl, hb⟩
        have H2 := Lib.hid (H1.out.keep hb)
        clear hb
        obtain ⟨d0, d1, d2, d3, d4⟩ := H2.out.cells
        have hlt := H2.out.lt
        go_wp2_with fail
        clear d0 d1 d2 d3 d4 hlt
        have c3 := need_no (HV.out.below H2.out.below) a2 a4
        refine c3.mono ?_
        clear c3
        rintro e W_3 ⟨rfl, hb⟩
        have H3 := Lib.hid (H2.out.keep hb)
        clear hb
        obtain ⟨d0, d1, d2, d3, d4⟩ := H3.out.cells
        have hlt := H3.out.lt
        go_wp2_with fail
        clear d0 d1 d2 d3 d4 hlt
        have c4 := act_no (HV.out.below H3.out.below) a2 HS2.out
        rw [show actV x false a2 = defA a2 from rfl, E2.out] at c4
        refine c4.mono ?_
        clear c4
        rintro e W_4 ⟨rfl, hb⟩
        have H4 := Lib.hid (H3.out.keep hb)
        clear hb
        go_wp2_with fail
        have c5 := act_has (VF.obj W_4 Any) Fit.obj a2 HS2.out
        rw [actV_obj, E2.out] at c5
        refine c5.mono ?_
        clear c5
        rintro e W_5 ⟨rfl, hb⟩
        have H5 := Lib.hid (H4.out.keep hb)
        clear hb
        go_wp2_with fail
        have c6 := level_has (VF.obj W_5 Any) Fit.obj a1 a0
        rw [levelV_obj] at c6
        refine c6.mono ?_
        clear c6
        rintro e W_6 ⟨rfl, hb⟩
        have H6 := Lib.hid (H5.out.keep hb)
        clear hb
        obtain ⟨d0, d1, d2, d3, d4⟩ := H6.out.cells
        have hlt := H6.out.lt
        go_wp2_with fail
        clear d0 d1 d2 d3 d4 hlt
        have c7 := valid_lev (HV.out.below H6.out.below) hFit.out (HT1.out.below H6.out.below (Nat.le_refl _)) hLev.out
        refine c7.mono ?_
        clear c7
        rintro e W_7 ⟨rfl, hb⟩
        have H7 := Lib.hid (H6.out.keep hb)
        clear hb
        go_wp2_with fail
        go_ret
        exact ⟨rfl, HB1.out.trans (H7.out.below.mono HB1.out.size)⟩
      · have E1 := Lib.hid (show levelV x false a1 a0 = 100 by unfold levelV; rw [if_neg (by decide), if_pos hu])
        have E2 := Lib.hid (show defA a2 = 0 by unfold defA; rw [if_neg (fun h => h.elim hb hk)])
        have q0 := eq_t hu
        have q1 : ¬ a2.toList = [98, 97, 110] := is_f (b := bBan) rfl hb
        have r1 : (a2.toList == [98, 97, 110]) = false := beq_eq_false_iff_ne.2 q1
        have q2 : ¬ a2.toList = [107, 105, 99, 107] := is_f (b := bKick) rfl hk
        have r2 : (a2.toList == [107, 105, 99, 107]) = false := beq_eq_false_iff_ne.2 q2
        clear hu hb hk
        go_enter Tryd.func3, Tryd.ntmps3
        go_wp2_with fail
        refine HL.out.mono ?_
        clear HL
        rintro e w1 ⟨v, rfl, hv, hbw⟩
        obtain ⟨D3, q3, D4, q4, rfl, _⟩ := hv.open_
        have HB1 := Lib.hid hbw
        have HT1 := Lib.hid (HT.out.below hbw (Nat.le_refl _))
        have HV := Lib.hid hv
        have HX := Lib.hid (BoxV.new w1 (.int .i64 x.f0) (.int .i64 x.f1) (.string x.f2) (.slice D3 x.f3.length q3) (.slice D4 x.f4.length q4) 27)
        clear hv hbw HT
        go_wp2_with fail
        refine calls_let ?_
        intro W2 hW2
        rw [← hW2] at HX
        clear hW2
        have c1 := known_any _ (HT1.out.below HX.out.below (Nat.le_refl _))
        refine c1.mono ?_
        clear c1
        rintro e W_1 ⟨rfl, hb⟩
        have H1 := Lib.hid (HX.out.keep hb)
        clear hb
        obtain ⟨d0, d1, d2, d3, d4⟩ := H1.out.cells
        have hlt := H1.out.lt
        go_wp2_with fail
        clear d0 d1 d2 d3 d4 hlt
        have c2 := level_no (HV.out.below H1.out.below) a1 a0
        rw [E1.out] at c2
        refine c2.mono ?_
        clear c2
        rintro e W_2 ⟨rfl, hb⟩
        have H2 := Lib.hid (H1.out.keep hb)
        clear hb
        obtain ⟨d0, d1, d2, d3, d4⟩ := H2.out.cells
        have hlt := H2.out.lt
        go_wp2_with fail
        clear d0 d1 d2 d3 d4 hlt
        have c3 := need_no (HV.out.below H2.out.below) a2 a4
        refine c3.mono ?_
        clear c3
        rintro e W_3 ⟨rfl, hb⟩
        have H3 := Lib.hid (H2.out.keep hb)
        clear hb
        obtain ⟨d0, d1, d2, d3, d4⟩ := H3.out.cells
        have hlt := H3.out.lt
        go_wp2_with fail
        clear d0 d1 d2 d3 d4 hlt
        have c4 := act_no (HV.out.below H3.out.below) a2 HS2.out
        rw [show actV x false a2 = defA a2 from rfl, E2.out] at c4
        refine c4.mono ?_
        clear c4
        rintro e W_4 ⟨rfl, hb⟩
        have H4 := Lib.hid (H3.out.keep hb)
        clear hb
        go_wp2_with fail
        have c5 := act_has (VF.obj W_4 Any) Fit.obj a2 HS2.out
        rw [actV_obj, E2.out] at c5
        refine c5.mono ?_
        clear c5
        rintro e W_5 ⟨rfl, hb⟩
        have H5 := Lib.hid (H4.out.keep hb)
        clear hb
        go_wp2_with fail
        have c6 := level_has (VF.obj W_5 Any) Fit.obj a1 a0
        rw [levelV_obj] at c6
        refine c6.mono ?_
        clear c6
        rintro e W_6 ⟨rfl, hb⟩
        have H6 := Lib.hid (H5.out.keep hb)
        clear hb
        obtain ⟨d0, d1, d2, d3, d4⟩ := H6.out.cells
        have hlt := H6.out.lt
        go_wp2_with fail
        clear d0 d1 d2 d3 d4 hlt
        have c7 := valid_lev (HV.out.below H6.out.below) hFit.out (HT1.out.below H6.out.below (Nat.le_refl _)) hLev.out
        refine c7.mono ?_
        clear c7
        rintro e W_7 ⟨rfl, hb⟩
        have H7 := Lib.hid (H6.out.keep hb)
        clear hb
        go_wp2_with fail
        go_ret
        exact ⟨rfl, HB1.out.trans (H7.out.below.mono HB1.out.size)⟩
  · by_cases hb : a2 = bBan
    · have E1 := Lib.hid (show levelV x false a1 a0 = 0 by unfold levelV; rw [if_neg (by decide), if_neg hu])
      have E2 := Lib.hid (show defA a2 = 50 by unfold defA; rw [if_pos (.inl hb)])
      have q0 := eq_f hu
      have q1 : a2.toList = [98, 97, 110] := is_t (b := bBan) rfl hb
      clear hu hb
      go_enter Tryd.func3, Tryd.ntmps3
      go_wp2_with fail
      refine HL.out.mono ?_
      clear HL
      rintro e w1 ⟨v, rfl, hv, hbw⟩
      obtain ⟨D3, q3, D4, q4, rfl, _⟩ := hv.open_
      have HB1 := Lib.hid hbw
      have HT1 := Lib.hid (HT.out.below hbw (Nat.le_refl _))
      have HV := Lib.hid hv
      have HX := Lib.hid (BoxV.new w1 (.int .i64 x.f0) (.int .i64 x.f1) (.string x.f2) (.slice D3 x.f3.length q3) (.slice D4 x.f4.length q4) 27)
      clear hv hbw HT
      go_wp2_with fail
      refine calls_let ?_
      intro W2 hW2
      rw [← hW2] at HX
      clear hW2
      have c1 := known_any _ (HT1.out.below HX.out.below (Nat.le_refl _))
      refine c1.mono ?_
      clear c1
      rintro e W_1 ⟨rfl, hb⟩
      have H1 := Lib.hid (HX.out.keep hb)
      clear hb
      obtain ⟨d0, d1, d2, d3, d4⟩ := H1.out.cells
      have hlt := H1.out.lt
      go_wp2_with fail
      clear d0 d1 d2 d3 d4 hlt
      have c2 := level_no (HV.out.below H1.out.below) a1 a0
      rw [E1.out] at c2
      refine c2.mono ?_
      clear c2
      rintro e W_2 ⟨rfl, hb⟩
      have H2 := Lib.hid (H1.out.keep hb)
      clear hb
      obtain ⟨d0, d1, d2, d3, d4⟩ := H2.out.cells
      have hlt := H2.out.lt
      go_wp2_with fail
      clear d0 d1 d2 d3 d4 hlt
      have c3 := need_no (HV.out.below H2.out.below) a2 a4
      refine c3.mono ?_
      clear c3
      rintro e W_3 ⟨rfl, hb⟩
      have H3 := Lib.hid (H2.out.keep hb)
      clear hb
      obtain ⟨d0, d1, d2, d3, d4⟩ := H3.out.cells
      have hlt := H3.out.lt
      go_wp2_with fail
      clear d0 d1 d2 d3 d4 hlt
      have c4 := act_no (HV.out.below H3.out.below) a2 HS2.out
      rw [show actV x false a2 = defA a2 from rfl, E2.out] at c4
      refine c4.mono ?_
      clear c4
      rintro e W_4 ⟨rfl, hb⟩
      have H4 := Lib.hid (H3.out.keep hb)
      clear hb
      go_wp2_with fail
      have c5 := act_has (VF.obj W_4 Any) Fit.obj a2 HS2.out
      rw [actV_obj, E2.out] at c5
      refine c5.mono ?_
      clear c5
      rintro e W_5 ⟨rfl, hb⟩
      have H5 := Lib.hid (H4.out.keep hb)
      clear hb
      go_wp2_with fail
      have c6 := level_has (VF.obj W_5 Any) Fit.obj a1 a0
      rw [levelV_obj] at c6
      refine c6.mono ?_
      clear c6
      rintro e W_6 ⟨rfl, hb⟩
      have H6 := Lib.hid (H5.out.keep hb)
      clear hb
      obtain ⟨d0, d1, d2, d3, d4⟩ := H6.out.cells
      have hlt := H6.out.lt
      go_wp2_with fail
      clear d0 d1 d2 d3 d4 hlt
      have c7 := valid_lev (HV.out.below H6.out.below) hFit.out (HT1.out.below H6.out.below (Nat.le_refl _)) hLev.out
      refine c7.mono ?_
      clear c7
      rintro e W_7 ⟨rfl, hb⟩
      have H7 := Lib.hid (H6.out.keep hb)
      clear hb
      go_wp2_with fail
      go_ret
      exact ⟨rfl, HB1.out.trans (H7.out.below.mono HB1.out.size)⟩
    · by_cases hk : a2 = bKick
      · have E1 := Lib.hid (show levelV x false a1 a0 = 0 by unfold levelV; rw [if_neg (by decide), if_neg hu])
        have E2 := Lib.hid (show defA a2 = 50 by unfold defA; rw [if_pos (.inr hk)])
        have q0 := eq_f hu
        have q1 : ¬ a2.toList = [98, 97, 110] := is_f (b := bBan) rfl hb
        have r1 : (a2.toList == [98, 97, 110]) = false := beq_eq_false_iff_ne.2 q1
        have q2 : a2.toList = [107, 105, 99, 107] := is_t (b := bKick) rfl hk
        clear hu hb hk
        go_enter Tryd.func3, Tryd.ntmps3
        go_wp2_with fail
        refine HL.out.mono ?_
        clear HL
        rintro e w1 ⟨v, rfl, hv, hbw⟩
        obtain ⟨D3, q3, D4, q4, rfl, _⟩ := hv.open_
        have HB1 := Lib.hid hbw
        have HT1 := Lib.hid (HT.out.below hbw (Nat.le_refl _))
        have HV := Lib.hid hv
        have HX := Lib.hid (BoxV.new w1 (.int .i64 x.f0) (.int .i64 x.f1) (.string x.f2) (.slice D3 x.f3.length q3) (.slice D4 x.f4.length q4) 27)
        clear hv hbw HT
        go_wp2_with fail
        refine calls_let ?_
        intro W2 hW2
        rw [← hW2] at HX
        clear hW2
        have c1 := known_any _ (HT1.out.below HX.out.below (Nat.le_refl _))
        refine c1.mono ?_
        clear c1
        rintro e W_1 ⟨rfl, hb⟩
        have H1 := Lib.hid (HX.out.keep hb)
        clear hb
        obtain ⟨d0, d1, d2, d3, d4⟩ := H1.out.cells
        have hlt := H1.out.lt
        go_wp2_with fail
        clear d0 d1 d2 d3 d4 hlt
        have c2 := level_no (HV.out.below H1.out.below) a1 a0
        rw [E1.out] at c2
        refine c2.mono ?_
        clear c2
        rintro e W_2 ⟨rfl, hb⟩
        have H2 := Lib.hid (H1.out.keep hb)
        clear hb
        obtain ⟨d0, d1, d2, d3, d4⟩ := H2.out.cells
        have hlt := H2.out.lt
        go_wp2_with fail
        clear d0 d1 d2 d3 d4 hlt
        have c3 := need_no (HV.out.below H2.out.below) a2 a4
        refine c3.mono ?_
        clear c3
        rintro e W_3 ⟨rfl, hb⟩
        have H3 := Lib.hid (H2.out.keep hb)
        clear hb
        obtain ⟨d0, d1, d2, d3, d4⟩ := H3.out.cells
        have hlt := H3.out.lt
        go_wp2_with fail
        clear d0 d1 d2 d3 d4 hlt
        have c4 := act_no (HV.out.below H3.out.below) a2 HS2.out
        rw [show actV x false a2 = defA a2 from rfl, E2.out] at c4
        refine c4.mono ?_
        clear c4
        rintro e W_4 ⟨rfl, hb⟩
        have H4 := Lib.hid (H3.out.keep hb)
        clear hb
        go_wp2_with fail
        have c5 := act_has (VF.obj W_4 Any) Fit.obj a2 HS2.out
        rw [actV_obj, E2.out] at c5
        refine c5.mono ?_
        clear c5
        rintro e W_5 ⟨rfl, hb⟩
        have H5 := Lib.hid (H4.out.keep hb)
        clear hb
        go_wp2_with fail
        have c6 := level_has (VF.obj W_5 Any) Fit.obj a1 a0
        rw [levelV_obj] at c6
        refine c6.mono ?_
        clear c6
        rintro e W_6 ⟨rfl, hb⟩
        have H6 := Lib.hid (H5.out.keep hb)
        clear hb
        obtain ⟨d0, d1, d2, d3, d4⟩ := H6.out.cells
        have hlt := H6.out.lt
        go_wp2_with fail
        clear d0 d1 d2 d3 d4 hlt
        have c7 := valid_lev (HV.out.below H6.out.below) hFit.out (HT1.out.below H6.out.below (Nat.le_refl _)) hLev.out
        refine c7.mono ?_
        clear c7
        rintro e W_7 ⟨rfl, hb⟩
        have H7 := Lib.hid (H6.out.keep hb)
        clear hb
        go_wp2_with fail
        go_ret
        exact ⟨rfl, HB1.out.trans (H7.out.below.mono HB1.out.size)⟩
      · have E1 := Lib.hid (show levelV x false a1 a0 = 0 by unfold levelV; rw [if_neg (by decide), if_neg hu])
        have E2 := Lib.hid (show defA a2 = 0 by unfold defA; rw [if_neg (fun h => h.elim hb hk)])
        have q0 := eq_f hu
        have q1 : ¬ a2.toList = [98, 97, 110] := is_f (b := bBan) rfl hb
        have r1 : (a2.toList == [98, 97, 110]) = false := beq_eq_false_iff_ne.2 q1
        have q2 : ¬ a2.toList = [107, 105, 99, 107] := is_f (b := bKick) rfl hk
        have r2 : (a2.toList == [107, 105, 99, 107]) = false := beq_eq_false_iff_ne.2 q2
        clear hu hb hk
        go_enter Tryd.func3, Tryd.ntmps3
        go_wp2_with fail
        refine HL.out.mono ?_
        clear HL
        rintro e w1 ⟨v, rfl, hv, hbw⟩
        obtain ⟨D3, q3, D4, q4, rfl, _⟩ := hv.open_
        have HB1 := Lib.hid hbw
        have HT1 := Lib.hid (HT.out.below hbw (Nat.le_refl _))
        have HV := Lib.hid hv
        have HX := Lib.hid (BoxV.new w1 (.int .i64 x.f0) (.int .i64 x.f1) (.string x.f2) (.slice D3 x.f3.length q3) (.slice D4 x.f4.length q4) 27)
        clear hv hbw HT
        go_wp2_with fail
        refine calls_let ?_
        intro W2 hW2
        rw [← hW2] at HX
        clear hW2
        have c1 := known_any _ (HT1.out.below HX.out.below (Nat.le_refl _))
        refine c1.mono ?_
        clear c1
        rintro e W_1 ⟨rfl, hb⟩
        have H1 := Lib.hid (HX.out.keep hb)
        clear hb
        obtain ⟨d0, d1, d2, d3, d4⟩ := H1.out.cells
        have hlt := H1.out.lt
        go_wp2_with fail
        clear d0 d1 d2 d3 d4 hlt
        have c2 := level_no (HV.out.below H1.out.below) a1 a0
        rw [E1.out] at c2
        refine c2.mono ?_
        clear c2
        rintro e W_2 ⟨rfl, hb⟩
        have H2 := Lib.hid (H1.out.keep hb)
        clear hb
        obtain ⟨d0, d1, d2, d3, d4⟩ := H2.out.cells
        have hlt := H2.out.lt
        go_wp2_with fail
        clear d0 d1 d2 d3 d4 hlt
        have c3 := need_no (HV.out.below H2.out.below) a2 a4
        refine c3.mono ?_
        clear c3
        rintro e W_3 ⟨rfl, hb⟩
        have H3 := Lib.hid (H2.out.keep hb)
        clear hb
        obtain ⟨d0, d1, d2, d3, d4⟩ := H3.out.cells
        have hlt := H3.out.lt
        go_wp2_with fail
        clear d0 d1 d2 d3 d4 hlt
        have c4 := act_no (HV.out.below H3.out.below) a2 HS2.out
        rw [show actV x false a2 = defA a2 from rfl, E2.out] at c4
        refine c4.mono ?_
        clear c4
        rintro e W_4 ⟨rfl, hb⟩
        have H4 := Lib.hid (H3.out.keep hb)
        clear hb
        go_wp2_with fail
        have c5 := act_has (VF.obj W_4 Any) Fit.obj a2 HS2.out
        rw [actV_obj, E2.out] at c5
        refine c5.mono ?_
        clear c5
        rintro e W_5 ⟨rfl, hb⟩
        have H5 := Lib.hid (H4.out.keep hb)
        clear hb
        go_wp2_with fail
        have c6 := level_has (VF.obj W_5 Any) Fit.obj a1 a0
        rw [levelV_obj] at c6
        refine c6.mono ?_
        clear c6
        rintro e W_6 ⟨rfl, hb⟩
        have H6 := Lib.hid (H5.out.keep hb)
        clear hb
        obtain ⟨d0, d1, d2, d3, d4⟩ := H6.out.cells
        have hlt := H6.out.lt
        go_wp2_with fail
        clear d0 d1 d2 d3 d4 hlt
        have c7 := valid_lev (HV.out.below H6.out.below) hFit.out (HT1.out.below H6.out.below (Nat.le_refl _)) hLev.out
        refine c7.mono ?_
        clear c7
        rintro e W_7 ⟨rfl, hb⟩
        have H7 := Lib.hid (H6.out.keep hb)
        clear hb
        go_wp2_with fail
        go_ret
        exact ⟨rfl, HB1.out.trans (H7.out.below.mono HB1.out.size)⟩
set_option maxRecDepth 100000 in
theorem powerNone_walk (a0 a1 a2 : ByteArray) (a3 : Option Addr) (len3 cap3 : Nat) (z3 : List Int) (a4 : Bool) (W : World) (s0 : a0.size ≤ 140737488351232) (s1 : a1.size ≤ 140737488351232) (s2 : a2.size ≤ 140737488351232)
    (x3 : z3.length = len3) (y3 : RowAt W a3 (z3.map (.int .u8))) (u3 : ∀ z ∈ z3, (Lit.int .u8 z).wf = true) (b3 : len3 * 1 ≤ 140737488351232) (c3 : len3 ≤ cap3) (m3 : cap3 ≤ maxLen) (hT : Tabs W) :
    Calls Tryd.prog 3 #[.string a0, .string a1, .string a2, .slice a3 len3 cap3, .bool a4] W fun e w' => e = .returned (.bool true) ∧ Below W.heap.size W w' := by
  obtain ⟨l, hl, hy⟩ := bytes8_row y3 u3
  by_cases hs : a0.size + a1.size + a2.size ≤ 100
  · have h := none_small a0 a1 a2 a3 cap3 l a4 W hs (by omega) hy hT
    rw [hl, x3] at h
    exact h
  · have hsi : (100 : Int) < (a0.size : Int) + (a1.size : Int) + (a2.size : Int) := by omega
    have HK := Lib.hid (known_any W hT)
    clear hy u3 y3 hl hs
    go_enter Tryd.func3, Tryd.ntmps3
    go_wp2_with fail
    refine HK.out.mono ?_
    rintro e w1 ⟨rfl, hb⟩
    go_wp2_with fail
    go_ret
    exact ⟨rfl, hb⟩
end Go.Proofs.YtkdicgendcdooaaDoor

/-
  The row of the law PowerNone: whatever the input, it answers true and leaves its arguments as they were; out of its walk.
-/
namespace Go.Proofs.YtkdicgendcdooaaDoor.powerNone
open Go.ChangeShapes Go.WideShapes Go.ChangeAt Go.RowKit
open Go.ChangeMaps (open_string shut_string)
theorem own : ownKnob Tryd.prog.godebug = none := by kernel_rfl
theorem laidOut : laidOutB Tryd.prog = true := by kernel_rfl
set_option maxRecDepth 100000 in
theorem lifted (os : Os) (started : os.Started) (H : Type) (enc : TypeId × Value → H) :
    ReturnsInHanded {} Tryd.checked os 3 .any (fun w args => (Rows.powerNoneSpec.pre enc Tryd.prog Tryd.f3 Rows.powerNoneRow.domain false w args ∧ laidMetH Tryd.prog Rows.powerNoneRow.laid w) ∧ sizedMet enc Tryd.prog Tryd.f3 (OpenSpec.ofChange Rows.powerNoneSpec) false w args)
      (Rows.powerNoneSpec.post enc Tryd.prog Tryd.f3 false true false false) := by
  refine returnsInHanded_of_change_and (C := Tryd.checked) (X := fun w _ => laidMetH Tryd.prog Rows.powerNoneRow.laid w) (fun _ _ _ hh h => h.of_heap hh) own started (by kernel_rfl) Tryd.func3
    (ChangeSpec.witness_shaped (enc := enc) (C := Tryd.checked) (os := os) (X := fun w _ => laidMetH Tryd.prog Rows.powerNoneRow.laid w) false (World.laidAll Tryd.prog os Rows.powerNoneRow.laid) #[.string ByteArray.empty, .string ByteArray.empty, .string ByteArray.empty, .slice none 0 0, .bool false] 8 (World.laidAll_os _ _ _)
      (World.shaped_of_ZipB (by kernel_rfl) (by kernel_rfl)) (by kernel_rfl) (by kernel_rfl) (by kernel_rfl)
      (by rw [MakeChecks.laidMetH_plain _ _ _ (by kernel_rfl)]; exact laidMet_laidAll _ (by kernel_rfl) (by kernel_rfl))) ?_
  intro W base args ds gs before hval0 hW _ hsz0 hL _
  have hsz : (DataW.weightsEach Tryd.prog (Tryd.f3.params.toList ++ Rows.powerNoneSpec.plain.varTypes Tryd.prog) (ds ++ gs)).all (· ≤ reachBytes) = true := hsz0
  have hval : ∀ (j : Nat) t v, Tryd.f3.params[j]? = some t → args[j]? = some v → Value.okWide Tryd.prog W .any base t v := hval0
  have hW' := hW
  obtain ⟨p, q, hA0, hV, rfl, hfz, hnd⟩ := hW
  have hA : DataW.TrodAll enc Tryd.prog W 0 (fun _ => true) true Tryd.f3.params.toList args.toList ds p := hA0
  rw [Tryd.params3] at hA hval hsz
  obtain ⟨v0, vs0, d0, ds0, p0, q0, hargs, rfl, rfl, h0, r0⟩ := trodAll_cons hA
  obtain ⟨v1, vs1, d1, ds1, p1, q1, rfl, rfl, rfl, h1, r1⟩ := trodAll_cons r0
  obtain ⟨v2, vs2, d2, ds2, p2, q2, rfl, rfl, rfl, h2, r2⟩ := trodAll_cons r1
  obtain ⟨v3, vs3, d3, ds3, p3, q3, rfl, rfl, rfl, h3, r3⟩ := trodAll_cons r2
  obtain ⟨v4, vs4, d4, ds4, p4, q4, rfl, rfl, rfl, h4, r4⟩ := trodAll_cons r3
  obtain ⟨rfl, rfl, rfl⟩ := trodAll_nil r4
  obtain rfl : args = #[v0, v1, v2, v3, v4] := by cases args; simp_all
  obtain ⟨rfl, rfl⟩ := trodVars_none hV
  obtain ⟨a0, rfl, rfl, rfl, y0⟩ := open_string Tryd.underlying9 (hval 0 9 v0 rfl rfl) h0
  have w0 : a0.size ≤ 140737488351232 := by
    have z := sized_string hsz (j := 0) (t := 9) rfl rfl
    rw [Array.length_toList] at z
    exact z
  obtain ⟨a1, rfl, rfl, rfl, y1⟩ := open_string Tryd.underlying9 (hval 1 9 v1 rfl rfl) h1
  have w1 : a1.size ≤ 140737488351232 := by
    have z := sized_string hsz (j := 1) (t := 9) rfl rfl
    rw [Array.length_toList] at z
    exact z
  obtain ⟨a2, rfl, rfl, rfl, y2⟩ := open_string Tryd.underlying9 (hval 2 9 v2 rfl rfl) h2
  have w2 : a2.size ≤ 140737488351232 := by
    have z := sized_string hsz (j := 2) (t := 9) rfl rfl
    rw [Array.length_toList] at z
    exact z
  obtain ⟨a3, len3, cap3, rfl⟩ := okWide_slice Tryd.underlying22 (hval 3 22 v3 rfl rfl)
  have k3 := h3
  have lt3 : ∀ x ∈ p3, x.block < W.heap.size := by obtain ⟨m, hm⟩ := k3; exact DataW.trod_lt m _ _ _ hm
  obtain ⟨z3, x3, y3, u3, b3, c3, m3⟩ := open_nums hsz (j := 3) (t := 22) rfl rfl Tryd.underlying22 Tryd.underlying5 (by kernel_rfl) (B := 1) (by kernel_rfl) h3
  obtain ⟨a4, rfl, rfl, rfl⟩ := open_bool Tryd.underlying4 (hval 4 4 v4 rfl rfl) h4
  have hLF := tabs_laid hL
  refine (powerNone_walk a0 a1 a2 a3 len3 cap3 z3 a4 W w0 w1 w2 x3 y3 u3 b3 c3 m3 hLF).mono fun e W' ⟨he, bel⟩ => ?_
  subst he
  exact ⟨_, rfl, _, _, _, [], _, [], hW', trodAll_mk1 (shut_bool Tryd.underlying4 _), (trodAll_cons_mk (shut_string Tryd.underlying9 y0) (trodAll_cons_mk (shut_string Tryd.underlying9 y1) (trodAll_cons_mk (shut_string Tryd.underlying9 y2) (trodAll_cons_mk (Below.trod laidOut (by kernel_rfl) (of_decide_eq_true (by kernel_rfl)) k3 bel lt3) (trodAll_cons_mk (shut_bool Tryd.underlying4 _) trodAll_mk0))))), rfl, bel.frame _, fun h => by cases h⟩
theorem over : Rows.powerNoneRow.holds Tryd.pinned (OpenSpec.ofChange Rows.powerNoneSpec) :=
  OpenClaim.holds_of_wide 3 Tryd.f3 rfl rfl rfl rfl rfl rfl rfl ⟨rfl, rfl, rfl, rfl, rfl⟩ rfl rfl rfl rfl rfl (by kernel_rfl) Tryd.func3 (by kernel_rfl)
    (of_decide_eq_true (by kernel_rfl)) (by unfold Func.isWrapper; first | (rw [if_pos (by decide +kernel)]; kernel_rfl) | (rw [if_neg (by decide +kernel)]; exact ⟨rfl, rfl⟩))
    (fun os started H enc _ => lifted os started H enc)
theorem card : Rows.PowerNoneCardSaid :=
  Claim7.holds_tied_plain_at .later [] [.listed, .data] true (true, "4f1c08a675811627051cff13577676a97a6e49129b751d86a50caffb64183432") false over (fun _ h => by cases h) (by kernel_rfl) (fun _ h => by cases h) powerNone_row_tie rfl ⟨rfl, rfl⟩ (by kernel_rfl) rfl
    (fun f fn hf hfn => by
      obtain rfl : f = 3 := Option.some.inj ((show Tryd.prog.funcNamed "heliast/heliastlaw14.PowerNone" = some 3 by kernel_rfl).symm.trans hf) |>.symm
      obtain rfl : fn = Tryd.f3 := (Option.some.inj (Tryd.func3.symm.trans hfn)).symm
      exact ⟨by kernel_rfl, fun j t ht => by
        rw [Tryd.params3] at ht
        have hm : t ∈ [9, 9, 9, 22, 4] := by simpa using Array.mem_of_getElem? ht
        have hall : ([9, 9, 9, 22, 4].all fun u => !Tryd.prog.wantsStandIn u) = true := by kernel_rfl
        exact (show Tryd.prog.wantsStandIn t = false by simpa using List.all_eq_true.1 hall t hm)⟩)
    (by kernel_rfl)
end Go.Proofs.YtkdicgendcdooaaDoor.powerNone
namespace Go.Proofs.YtkdicgendcdooaaDoor
/-- The row, under a short name. -/
theorem powerNone_holds : Rows.PowerNoneCardSaid := powerNone.card
#print axioms powerNone_holds
end Go.Proofs.YtkdicgendcdooaaDoor

