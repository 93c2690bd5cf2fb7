/-
  The law FrameFront, walked: whatever the two texts, it answers true.
-/
import Derived.Test.YtfjighamaamkcaaPlain
namespace Go.Proofs.Ytfjighamaamkcaa
open Go.RowKit

theorem bsA (s : ByteArray) (l : List UInt8) : bs l ++ s = bs (l ++ s.data.toList) := by
  rw [← bs_data s, bs_append]; rfl

theorem txts_cons {W : World} {base n : Nat} {v : Value} {b : List UInt8} {l : List (List UInt8)} (h : W.ownsRow base 9 1 v n (txts (b :: l))) (hn : n ≤ 4611686018427387904) :
    ∃ g cap, v = .slice (some ⟨g, 0, none⟩) (l.length + 1) cap ∧ l.length + 1 ≤ cap ∧ cap ≤ maxLen ∧ RowAt W (some ⟨g, 0, none⟩) ((bs b :: l.map bs).map .string) := by
  have hl : l.length + 1 = n := by have := h.1; simp [txts] at this; exact this
  obtain ⟨a, c, e, hr, _⟩ := texts_own h hn
  rcases h.2 with ⟨_, h0⟩ | ⟨g, cap, cur, hv, _, _, h1, h2, _⟩
  · omega
  · rw [hv] at e
    injection e with e1 e2 e3
    refine ⟨g, cap, by rw [hv, hl], by omega, h2, ?_⟩
    rw [e1]; simpa using hr
/-- What stands behind the first text of a row, as a row. -/
theorem row_tail {W : World} {g : Nat} {b : Value} {l : List Value} (h : RowAt W (some ⟨g, 0, none⟩) (b :: l)) : RowAt W (some ⟨g, 1, none⟩) l := by
  intro hp
  obtain ⟨g', o, he, hb, hc⟩ := h (by simp)
  injection he with he
  injection he with e1 e2
  subst e1; subst e2
  refine ⟨g, 1, rfl, hb, fun i hi => ?_⟩
  have := hc (i + 1) (by simpa using hi)
  simpa [Nat.add_comm] using this
theorem row_none {W : World} {a : Option Addr} : RowAt W a [] := fun h => absurd h (by simp)

set_option maxRecDepth 100000 in
set_option maxHeartbeats 1000000 in
theorem frameFront_walk (a s : ByteArray) (W : World) (wa : a.size ≤ 140737488351232) (ws : s.size ≤ 140737488351232) :
    Calls Try.prog 9 #[.string a, .string s] W fun e w' => e = .returned (.bool true) ∧ Below W.heap.size W w' := by
  by_cases hlen : 300 < a.size + s.size
  · go_enter Try.func9, Try.ntmps9
    go_wp2_with fail
    refine (known_any _).mono ?_
    rintro e w1 ⟨rfl, hB1⟩
    go_wp2_with fail
    go_ret
    exact ⟨rfl, hB1⟩
  · have hA : ¬ 131072 < a.data.toList.length := by rw [len_data]; omega
    obtain ⟨F, hF⟩ : ∃ F, frameL a.data.toList = F := ⟨_, rfl⟩
    have hFl : F.length = a.size + 8 := by rw [← hF, frameL_length hA, len_data]
    have hn := next_frame a.data.toList s.data.toList hA
    have ha := all_frame a.data.toList s.data.toList hA
    rw [hF, len_data] at hn ha
    obtain ⟨X, hX⟩ : ∃ X, allL s.data.toList = X := ⟨_, rfl⟩
    rw [hX] at ha
    have hXl : X.1.length * 8 ≤ X.2 ∧ X.2 ≤ s.size := by have := allL_le s.data.toList; rwa [hX, len_data] at this
    have zF : (bs F).size = a.size + 8 := by rw [bs_size, hFl]
    have HF := Lib.hid hF; have HFl := Lib.hid hFl; have HN := Lib.hid hn; have HA := Lib.hid ha; have HX := Lib.hid hX
    clear hF hFl hn ha hX hA
    go_enter Try.func9, Try.ntmps9
    go_wp2_with fail
    refine (frame_any a _ wa).mono ?_
    rintro e w1 ⟨rfl, hB1⟩
    have HB1 := Lib.hid hB1; clear hB1
    rw [HF.out]
    go_wp2_with fail
    refine (next_any _ _ (by simp; omega)).mono ?_
    rintro e w2 ⟨rfl, hB2⟩
    have HB2 := Lib.hid hB2; clear hB2
    rw [append_toList, bs_toList, HN.out]
    go_wp2_with fail
    refine (all_any _ _ (by simp; omega)).mono ?_
    rintro e w3 ⟨v3, rfl, ho3, hB3⟩
    rw [append_toList, bs_toList, HA.out] at ho3 ⊢
    have HB3 := Lib.hid hB3; clear hB3
    obtain ⟨g3, cap3, rfl, hc3, hm3, hr3⟩ := txts_cons ho3 (by simp; omega)
    have HR3 := Lib.hid hr3
    clear ho3 hr3
    go_wp2_with fail
    refine (all_any s _ (by omega)).mono ?_
    rintro e w4 ⟨v4, rfl, ho4, hB4⟩
    rw [HX.out] at ho4 ⊢
    have T4 := Lib.hid (texts_own ho4 (by omega))
    obtain ⟨a4, c4, rfl, _⟩ := T4.out
    clear ho4
    have HB4 := Lib.hid hB4; clear hB4
    go_wp2_with fail
    refine (known_any _).mono ?_
    rintro e w5 ⟨rfl, hB5⟩
    have T4' := Lib.hid (T4.out.below hB5)
    have HR5 := Lib.hid ((HR3.out.below HB4.out).below hB5)
    have HB5 := Lib.hid hB5; clear hB5
    obtain ⟨g, o, hgo, _, hcell⟩ := HR5.out (by simp)
    obtain ⟨rfl, rfl⟩ : g = g3 ∧ o = 0 := by simpa [eq_comm] using hgo
    have hc0 := hcell 0 (by simp)
    have hc1 : w5.cell? ⟨g, 0, none⟩ = some (.string a) := by rw [hc0]; simp [bs_data]
    have hb1 : (a.toList == a.toList) = true := by simp
    rw [bs_data]
    obtain ⟨m, hm⟩ : ∃ m, X.1.length = m := ⟨_, rfl⟩
    have hL : (List.map bs X.1).length = m := by simp [hm]
    rw [hm] at hc3 ⊢
    rw [hL] at T4'
    clear hcell hgo hc0 T4 HR3
    by_cases hm0 : cap3 = 1
    · obtain rfl : m = 0 := by omega
      have hX1 : X.1 = [] := List.eq_nil_of_length_eq_zero hm
      subst hm0
      go_wp2_with fail
      refine (same_any _ _ (X.1.map bs) (X.1.map bs) _ ⟨_, _, by rw [hL], by rw [hX1]; exact row_none, by rw [hL]; omega⟩ T4'.out).mono ?_
      rintro e w6 ⟨rfl, q, rfl⟩
      rw [decide_eq_true (rfl : X.1.map bs = X.1.map bs)]
      go_wp2_with fail
      go_ret
      refine ⟨rfl, below_drewN ?_ q⟩
      have z1 := HB1.out.size
      have z2 := HB2.out.size
      have z3 := HB3.out.size
      have z4 := HB4.out.size
      exact (((HB1.out.trans (HB2.out.mono z1)).trans (HB3.out.mono (by omega))).trans (HB4.out.mono (by omega))).trans (HB5.out.mono (by omega))
    · have HT : Hid (RowAt w5 (some ⟨g, 1, none⟩) ((X.1.map bs).map .string)) := Lib.hid (row_tail HR5.out)
      go_wp2_with fail
      refine (same_any _ _ (X.1.map bs) (X.1.map bs) _ ⟨_, _, by rw [hL], HT.out, by rw [hL]; omega⟩ T4'.out).mono ?_
      rintro e w6 ⟨rfl, q, rfl⟩
      rw [decide_eq_true (rfl : X.1.map bs = X.1.map bs)]
      go_wp2_with fail
      go_ret
      refine ⟨rfl, below_drewN ?_ q⟩
      have z1 := HB1.out.size
      have z2 := HB2.out.size
      have z3 := HB3.out.size
      have z4 := HB4.out.size
      exact (((HB1.out.trans (HB2.out.mono z1)).trans (HB3.out.mono (by omega))).trans (HB4.out.mono (by omega))).trans (HB5.out.mono (by omega))
