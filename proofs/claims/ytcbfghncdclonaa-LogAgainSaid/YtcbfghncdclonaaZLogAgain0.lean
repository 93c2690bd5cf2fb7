/-
  Texts of this session, merged in build order: LLAgain, RLogAgain.
-/
import Derived.Test.YtcbfghncdclonaaZE0
import Derived.LoopTactic
import Derived.Test.YtcbfghncdclonaaRows
set_option linter.unusedVariables false
set_option linter.unusedSimpArgs false
/-
  The law LogAgain, walked.
-/
namespace Go.Proofs.Ytcbfghncdclonaa
open Go.RowKit Go.Maps Go.Lib
set_option linter.unusedSimpArgs false
set_option linter.unusedVariables false
/-- How long the frames of some texts are. -/
def tot (l : List ByteArray) : Nat := (l.map fun s => 8 + s.size).sum
def dats (l : List ByteArray) : List (List UInt8) := l.map fun s => s.data.toList
theorem tot_snoc (l : List ByteArray) (s : ByteArray) : tot (l ++ [s]) = tot l + (8 + s.size) := by simp [tot]
theorem dats_snoc (l : List ByteArray) (s : ByteArray) : dats (l ++ [s]) = dats l ++ [s.data.toList] := by simp [dats]
theorem dats_bs (l : List ByteArray) : (dats l).map bsL = l := by
  unfold dats
  rw [List.map_map]
  conv => rhs; rw [← List.map_id l]
  exact List.map_congr_left fun s _ => bsL_data s
theorem tot_take_le (l : List ByteArray) (k : Nat) : tot (l.take k) ≤ tot l := by
  have h : l.take k ++ l.drop k = l := List.take_append_drop k l
  have : tot l = tot (l.take k) + tot (l.drop k) := by
    conv => lhs; rw [← h]
    unfold tot
    rw [List.map_append, List.sum_append]
  omega
theorem tot_mem {l : List ByteArray} {s : ByteArray} (h : s ∈ l) : s.size ≤ tot l := by
  induction l with
  | nil => simp at h
  | cons a l ih =>
    rcases List.mem_cons.1 h with rfl | h
    · simp [tot]; omega
    · have := ih h; simp [tot] at this ⊢; omega
theorem dats_shorts {l : List ByteArray} (h : ∀ s ∈ l, s.size ≤ 131072) : Shorts (dats l) := by
  intro a ha
  obtain ⟨s, hs, rfl⟩ := List.mem_map.1 ha
  rw [dl]
  have := h s hs
  omega
theorem dats_len : ∀ {l : List ByteArray}, (∀ s ∈ l, s.size ≤ 131072) → (frames (dats l)).length = tot l
  | [], _ => rfl
  | s :: l, h => by
    have h1 := h s (by simp)
    have ih := dats_len (l := l) fun x hx => h x (by simp [hx])
    have e : dats (s :: l) = s.data.toList :: dats l := rfl
    rw [e, frames_cons, List.length_append, ih, frameL_length (by rw [dl]; omega), dl]
    simp [tot]; omega
def preS (xs : List (List UInt8)) : Ds := if xs = [] then ⟨1000, [], false, 0, false⟩ else S1 lg 1000 (frames xs) 0 false 0 false
theorem pre_raw (xs : List (List UInt8)) (r : List UInt8) (h : (frames xs ++ r).length ≤ 1000) : appendS (preS xs) lg r = (S1 lg 1000 (frames xs ++ r) 0 false 0 false, 0) := by
  rw [List.length_append] at h
  unfold preS
  by_cases e : xs = []
  · subst e
    have e2 : frames [] = [] := rfl
    rw [if_pos rfl, append_new lg lg_ne _ _ _ _ (by omega), bytes_free, e2]
  · rw [if_neg e, append_old lg lg_ne _ _ _ _ _ _ h, bytes_free]
theorem pre_next (xs : List (List UInt8)) (b : List UInt8) (h : (frames xs ++ frameL b).length ≤ 1000) : appendS (preS xs) lg (frameL b) = (preS (xs ++ [b]), 0) := by
  rw [pre_raw xs _ h]
  unfold preS
  rw [if_neg (by simp), frames_snoc]
theorem mids_raw (xs : List (List UInt8)) (r : List UInt8) (hs : Shorts xs) (h : (frames xs ++ r).length ≤ 1000) (hr : r.length < 8) : ∃ n, mids (S1 lg 1000 (frames xs ++ r) 0 false 0 false) = (S1 lg 1000 (frames xs) n false 0 false, 0, xs) := by
  have hall : allL (frames xs ++ r) = (xs, (frames xs).length) := by
    rw [all_frames xs r hs, allL_stop (by rw [next_short hr]), List.append_nil, Nat.add_zero]
  by_cases e : r = []
  · subst e
    rw [List.append_nil] at h ⊢
    exact ⟨0, mids_own _ _ _ _ _ hs h⟩
  · refine ⟨(frames xs).length, ?_⟩
    have hp : 0 < r.length := List.length_pos_iff.2 e
    unfold mids
    rw [app_none _ _ _ _ _ h, if_pos rfl]
    unfold restS
    rw [read_one, hall, if_neg (by rw [List.length_append]; simp only []; omega)]
    have hfix : fixS (S1 lg 1000 (frames xs ++ r) 0 false 0 false) (frames xs).length = (S1 lg 1000 (frames xs) (frames xs).length false 0 false, 0) := by
      unfold fixS
      rw [cut_one _ _ _ _ _ _ (by rw [List.length_append]; omega), if_pos rfl, List.take_left, sync_one]
    rw [hfix]
theorem Texts.front {W : World} {a : Option Addr} {n c : Nat} {l : List ByteArray} {x : ByteArray} (h : Texts W (.slice a n c) (l ++ [x])) : Texts W (.slice a l.length c) l ∧ ∃ b o, a = some ⟨b, o, none⟩ ∧ W.cell? ⟨b, o + l.length, none⟩ = some (.string x) := by
  obtain ⟨a', c', e, hr, hm⟩ := h
  injection e with e1 e2 e3
  subst e1 e3
  rw [List.length_append] at hm
  obtain ⟨b, o, rfl, hb, hc⟩ := hr (by simp)
  refine ⟨⟨_, _, rfl, fun _ => ⟨b, o, rfl, hb, fun i hi => ?_⟩, by omega⟩, b, o, rfl, ?_⟩
  · have hi' : i < l.length := by simpa using hi
    rw [hc i (by simp; omega)]
    simp only [List.getElem_map]
    rw [List.getElem_append_left hi']
  · rw [hc l.length (by simp)]
    simp
theorem again_new : newS 1000 = ⟨1000, [], false, 0, false⟩ := by rfl
set_option maxRecDepth 100000 in
set_option maxHeartbeats 4000000 in
theorem logAgain_walk (a : Option Addr) (len cap : Nat) (z : List ByteArray) (r m : ByteArray) (W : World) (hl : z.length = len) (hrow : RowAt W a (z.map .string)) (hsz : ∀ s ∈ z, s.size ≤ 140737488351232) (hb : len * 16 ≤ 140737488351232) (wr : r.size ≤ 140737488351232) (wm : m.size ≤ 140737488351232) :
    Calls Try.prog 4 #[.slice a len cap, .string r, .string m] W fun e w' => e = .returned (.bool true) ∧ Below W.heap.size W w' := by
  have HL := Lib.hid hl; have HROW := Lib.hid hrow; have HSZ := Lib.hid hsz
  have H0 := Lib.hid (Nat.le_refl W.heap.size)
  have HK := Lib.hid known_any
  have hbl : len ≤ 8796093022000 := by omega
  clear hl hrow hsz hb
  go_enter Try.func4, Try.ntmps4
  go_wp2_with fail
  go_loop [7, 8] (fun n i => ∃ k : Nat, k ≤ len ∧ i = .int .i64 k ∧ n = .int .i64 ((tot (z.take k) : Nat) : Int) ∧ (k = 0 ∨ tot (z.take k) ≤ 140737488351232 + 500)) (fun _ i => len - (intOf i).toNat)
  case atStart => exact ⟨0, by omega, rfl, by simp [tot], .inl rfl⟩
  case round =>
    obtain ⟨k, hk, rfl, rfl, hN⟩ := hrel
    obtain ⟨t, ht⟩ : ∃ t, tot (z.take k) = t := ⟨_, rfl⟩
    rw [ht] at hN ⊢
    have HT := Lib.hid ht
    have htl : t ≤ 140737488351232 + 500 := by
      rcases hN with rfl | h
      · simp [tot] at ht; omega
      · exact h
    clear ht hN
    by_cases hlt : k < len
    · by_cases h200 : t ≤ 200
      · obtain ⟨b1, o1, rfl, _, hc1⟩ := HROW.out (by rw [List.length_map, HL.out]; omega)
        have k1 : k < z.length := by rw [HL.out]; exact hlt
        have f1 : W.cell? ⟨b1, o1 + k, none⟩ = some (.string z[k]) := by rw [hc1 k (by rw [List.length_map]; exact k1)]; simp
        have p1 : z.take (k + 1) = z.take k ++ [z[k]] := List.take_succ_eq_append_getElem k1
        obtain ⟨s1, hs1⟩ : ∃ s1, z[k] = s1 := ⟨_, rfl⟩
        have zs : s1.size ≤ 140737488351232 := by rw [← hs1]; exact HSZ.out _ (List.getElem_mem _)
        rw [hs1] at f1 p1
        have P1 := Lib.hid p1
        clear hc1 p1 hs1
        have hki : (k : Int) < (len : Int) := by omega
        have hk0 : (0 : Int) ≤ (k : Int) := by omega
        have hmi : (t : Int) ≤ 200 := by omega
        have hw1 : IntKind.i64.wrap (8 + (s1.size : Int)) = 8 + (s1.size : Int) := i64_small _ (by omega) (by omega)
        have hw2 : IntKind.i64.wrap ((t : Int) + (8 + (s1.size : Int))) = (t : Int) + (8 + (s1.size : Int)) := i64_small _ (by omega) (by omega)
        go_wp2_with fail
        have e1 : tot (z.take (k + 1)) = t + (8 + s1.size) := by rw [P1.out, tot_snoc, ← HT.out]
        exact ⟨⟨k + 1, by omega, by go_num, by rw [e1]; simp, .inr (by rw [e1]; omega)⟩, by simp [intOf]; omega⟩
      · have hmf : decide ((t : Int) ≤ 200) = false := by simp; omega
        have hki : (k : Int) < (len : Int) := by omega
        have hmg : (200 : Int) < (t : Int) := by omega
        go_wp2_with fail
        refine (HK.out _).mono ?_
        rintro e w1 ⟨rfl, hB1⟩
        go_wp2_with fail
        go_ret
        exact ⟨rfl, hB1⟩
    · obtain rfl : k = len := by omega
      have hki : ¬ (k : Int) < (k : Int) := by omega
      have hkd : decide ((k : Int) < (k : Int)) = false := by simp
      by_cases hbad : 200 < t ∨ 7 < r.size ∨ 100 < m.size
      · have hr0 : (r.size : Int) ≤ 140737488351232 := by omega
        have hm0 : (m.size : Int) ≤ 140737488351232 := by omega
        by_cases h2 : 200 < t
        · have hmg : (200 : Int) < (t : Int) := by omega
          clear hbad
          go_wp2_with fail
          refine (HK.out _).mono ?_
          rintro e w1 ⟨rfl, hB1⟩
          go_wp2_with fail
          go_ret
          exact ⟨rfl, hB1⟩
        · have hmg : ¬ (200 : Int) < (t : Int) := by omega
          have hmd : decide ((200 : Int) < (t : Int)) = false := by simp; omega
          by_cases h7 : 7 < r.size
          · have h7d : decide ((7 : Int) < (r.size : Int)) = true := by simp; omega
            clear hbad
            go_wp2_with fail
            refine (HK.out _).mono ?_
            rintro e w1 ⟨rfl, hB1⟩
            go_wp2_with fail
            go_ret
            exact ⟨rfl, hB1⟩
          · have h7d : decide ((7 : Int) < (r.size : Int)) = false := by simp; omega
            have h1d : decide ((100 : Int) < (m.size : Int)) = true := by simp; omega
            clear hbad
            go_wp2_with fail
            refine (HK.out _).mono ?_
            rintro e w1 ⟨rfl, hB1⟩
            go_wp2_with fail
            go_ret
            exact ⟨rfl, hB1⟩
      · have hmg : ¬ (200 : Int) < (t : Int) := by omega
        have hmd : decide ((200 : Int) < (t : Int)) = false := by simp; omega
        have h7d : decide ((7 : Int) < (r.size : Int)) = false := by simp; omega
        have h1d : decide ((100 : Int) < (m.size : Int)) = false := by simp; omega
        have hr7 : r.size ≤ 7 := by omega
        have hm1 : m.size ≤ 100 := by omega
        have hz : z.take k = z := List.take_of_length_le (by rw [HL.out]; omega)
        have hm2 := HT.out
        rw [hz] at hm2
        have htot : tot z ≤ 200 := by omega
        have HZ : Hid (∀ s ∈ z, s.size ≤ 131072) := Lib.hid fun s hs => by have := tot_mem hs; omega
        have HN := Lib.hid (Mine.new (Below.refl W.heap.size W) (Nat.le_refl _) 1000 again_new)
        clear hm2 hz hbad HT
        go_wp2_with fail
        refine HN.out.mono ?_
        rintro e w1 ⟨p, rfl, hmn⟩
        have M1 := Lib.hid (LogW.of_mine hmn); clear hmn HN
        go_wp2_with fail
        go_loopw [10] (fun i wr => ∃ j : Nat, j ≤ k ∧ i = .int .i64 j ∧ LogW W.heap.size W p (preS (dats (z.take j))) [] wr) (fun i _ => k - (intOf i).toNat)
        case atStart => exact ⟨0, by omega, rfl, M1.out⟩
        case round =>
          obtain ⟨j, hj, rfl, hmj⟩ := hrel
          have MJ := Lib.hid hmj; clear hmj M1
          have hZj : ∀ s ∈ z.take j, s.size ≤ 131072 := fun s hs => HZ.out s (List.mem_of_mem_take hs)
          have hGl := dats_len hZj
          have htj := tot_take_le z j
          by_cases hlt : j < k
          · clear hki hkd
            obtain ⟨b1, o1, rfl, _, hc1⟩ := (HROW.out.below MJ.out.belowW) (by rw [List.length_map, HL.out]; omega)
            have k1 : j < z.length := by rw [HL.out]; exact hlt
            have f1 : wr.cell? ⟨b1, o1 + j, none⟩ = some (.string z[j]) := by rw [hc1 j (by rw [List.length_map]; exact k1)]; simp
            have p1 : z.take (j + 1) = z.take j ++ [z[j]] := List.take_succ_eq_append_getElem k1
            obtain ⟨s1, hs1⟩ : ∃ s1, z[j] = s1 := ⟨_, rfl⟩
            have zs : s1.size ≤ 200 := by have := tot_mem (List.getElem_mem k1); rw [hs1] at this; omega
            rw [hs1] at f1 p1
            have hfl : (frameL s1.data.toList).length = s1.size + 8 := by rw [frameL_length (by rw [dl]; omega), dl]
            have zF : (bs (frameL s1.data.toList)).size = s1.size + 8 := by rw [bs_size, hfl]
            have hnx := pre_next (dats (z.take j)) s1.data.toList (by rw [List.length_append, hGl, hfl]; omega)
            rw [← dats_snoc, ← p1] at hnx
            have NX := Lib.hid hnx
            obtain ⟨F, hF⟩ : ∃ F, bs (frameL s1.data.toList) = F := ⟨_, rfl⟩
            have hFd : F.data.toList = frameL s1.data.toList := by rw [← hF, bs_toList]
            rw [hF] at zF
            have HF := Lib.hid hF; have HFD := Lib.hid hFd; have HFS := Lib.hid (show F.size ≤ 140737488351232 by omega)
            have HR1 := Lib.hid (fun w => rframe_any s1 w (by omega))
            have hki : (j : Int) < (k : Int) := by omega
            have hk0 : (0 : Int) ≤ (j : Int) := by omega
            clear hc1 p1 hs1 hnx hF hFd hfl hGl htj hZj
            go_wp2_with fail
            refine (HR1.out _).mono ?_
            rintro e w2 ⟨rfl, hB1⟩
            rw [HF.out]
            have M2 := Lib.hid (MJ.out.below H0.out hB1); clear hB1 MJ
            go_wp2_with fail
            refine (M2.out.append H0.out ⟨#[108, 111, 103]⟩ F (by decide) HFS.out rfl HFD.out NX.out).mono ?_
            rintro e w3 ⟨rfl, hm3⟩
            have M3 := Lib.hid hm3; clear hm3 M2
            go_wp2_with fail
            go_roundw
            case rel => exact ⟨j + 1, by omega, by go_num, M3.out⟩
            case measure => simp [intOf]; omega
          · obtain rfl : j = k := by omega
            have hz : z.take j = z := List.take_of_length_le (by rw [HL.out]; omega)
            rw [hz] at hGl MJ
            have hsh := dats_shorts HZ.out
            have hr7' : r.data.toList.length < 8 := by rw [dl]; omega
            have hlen : (frames (dats z) ++ r.data.toList).length ≤ 1000 := by rw [List.length_append, hGl, dl]; omega
            obtain ⟨n', hmid⟩ := mids_raw (dats z) r.data.toList hsh hlen hr7'
            have hml : ¬ 131072 < m.data.toList.length := by rw [dl]; omega
            have R1 := Lib.hid (pre_raw (dats z) r.data.toList hlen)
            have R2 := Lib.hid hmid
            have R3 := Lib.hid (mids_own 1000 n' 0 false (dats z) hsh (by rw [hGl]; omega))
            have R4 := Lib.hid (put_own 1000 n' 0 (dats z) m.data.toList hml (by rw [hGl, dl]; omega))
            have hfr : (frames (dats z ++ [m.data.toList])).length ≤ 1000 := by rw [frames_snoc, List.length_append, hGl, frameL_length hml, dl]; omega
            have hsh2 : Shorts (dats z ++ [m.data.toList]) := by
              intro x hx
              rcases List.mem_append.1 hx with h | h
              · exact hsh x h
              · rw [List.mem_singleton.1 h]; exact hml
            have R5 := Lib.hid (mids_own 1000 (frames (dats z ++ [m.data.toList])).length 0 false (dats z ++ [m.data.toList]) hsh2 hfr)
            have hzl : (dats z).length = j := by unfold dats; rw [List.length_map, HL.out]
            have HM2 := Lib.hid (show m.size ≤ 131072 by omega)
            have HRS := Lib.hid (show r.size ≤ 140737488351232 by omega)
            clear hsh hlen hmid hml hfr hsh2 hr7' hGl htj hZj
            go_wp2_with fail
            refine (MJ.out.append H0.out ⟨#[108, 111, 103]⟩ r (by decide) HRS.out rfl rfl R1.out).mono ?_
            rintro e w2 ⟨rfl, hm2⟩
            have M2 := Lib.hid hm2; clear hm2 MJ
            go_wp2_with fail
            refine (open_ok M2.out H0.out rfl R2.out).mono ?_
            rintro e w3 ⟨ga, va, Ra, rfl, hra, hm3⟩
            have M3 := Lib.hid hm3; clear hm3 M2
            have HRA := Lib.hid hra
            obtain ⟨xa, xc, rfl⟩ := hra.slice_len
            clear hra
            go_wp2_with fail
            refine (open_ok M3.out H0.out rfl R3.out).mono ?_
            rintro e w4 ⟨gb, vb, Rb, rfl, hrb, hm4⟩
            have M4 := Lib.hid hm4; clear hm4 M3
            have HRB := Lib.hid hrb
            obtain ⟨ya, yc, rfl⟩ := hrb.slice_len
            clear hrb
            go_wp2_with fail
            refine (put_ok gb (dats z).length M4.out H0.out m HM2.out R4.out (by omega)).mono ?_
            rintro e w5 ⟨rfl, hm5⟩
            have M5 := Lib.hid hm5; clear hm5 M4
            go_wp2_with fail
            refine (open_ok M5.out H0.out rfl R5.out).mono ?_
            rintro e w6 ⟨gc, vc, Rc, rfl, hrc, hm6⟩
            have M6 := Lib.hid hm6; clear hm6 M5
            have HRC := Lib.hid hrc
            obtain ⟨ca, cc, rfl, hcc, hcm⟩ := hrc.slice_cap
            clear hrc
            have hcl : (dats z ++ [m.data.toList]).length = j + 1 := by rw [List.length_append, hzl]; rfl
            rw [hcl] at hcc
            rw [hcl]
            go_wp2_with fail
            refine (HK.out _).mono ?_
            rintro e w7 ⟨rfl, hb7⟩
            have M7 := Lib.hid (M6.out.below H0.out hb7); clear hb7 M6
            have hTX := HRA.out.texts (w := w7) (fun x hx => M7.out.get (g := x.1) (o := x.2) (by simp [hx])) (by rw [hzl]; omega)
            have hTY := HRB.out.texts (w := w7) (fun x hx => M7.out.get (g := x.1) (o := x.2) (by simp [hx])) (by rw [hzl]; omega)
            have hTC := HRC.out.texts (w := w7) (fun x hx => M7.out.get (g := x.1) (o := x.2) (by simp [hx])) (by rw [hcl]; omega)
            rw [List.map_append, dats_bs] at hTC
            rw [dats_bs] at hTX hTY
            rw [hzl] at hTX hTY
            have hTF := Texts.front (x := m) (by have := hTC; simpa [bsL_data] using this)
            rw [HL.out] at hTF
            obtain ⟨hTF, cb, co, rfl, hcm7⟩ := hTF
            have hTZ : Texts w7 (.slice a j cap) z := ⟨a, cap, by rw [HL.out], HROW.out.below M7.out.belowW, by rw [HL.out]; omega⟩
            have TX := Lib.hid hTX; have TY := Lib.hid hTY; have TF := Lib.hid hTF; have TZ := Lib.hid hTZ
            have hga := (M7.out.get (g := ga) (o := .cells #[.pointer (some ⟨p, 0, none⟩), .int .i64 ((dats z).length : Int)] 66) (by simp))
            have hgb := (M7.out.get (g := gb) (o := .cells #[.pointer (some ⟨p, 0, none⟩), .int .i64 (((dats z).length + 1 : Nat) : Int)] 66) (by simp))
            rw [hzl] at hga hgb
            have HGA := Lib.hid (fun q => many_any (w := w7.drewN q) ga j _ 66 (by rw [World.heap_drewN]; exact hga)); have HGB := Lib.hid (fun q => many_any (w := w7.drewN q) gb (j + 1) _ 66 (by rw [World.heap_drewN]; exact hgb))
            have hjc : (j : Int) ≤ (cc : Int) := by omega
            have hjc2 : j ≤ cc := by omega
            have hcm2 : (cc : Int) ≤ 9223372036854775807 := by have := hcm; unfold maxLen at this; omega
            clear hTX hTY hTC hTF hTZ hcm hcc hcl hga hgb
            have hdd : ∀ (l1 l2 : List ByteArray), l1 = l2 → decide (l1 = l2) = true := fun _ _ h => decide_eq_true h
            go_wp2_with fail
            refine (same_any _ _ _ _ _ TX.out TZ.out).mono ?_
            rintro e w8 ⟨rfl, q8, rfl⟩
            rw [hdd z z rfl]
            go_wp2_with fail
            refine (same_any _ _ _ _ _ (TY.out.below (below_drewN (Below.refl _ w7) q8)) (TZ.out.below (below_drewN (Below.refl _ w7) q8))).mono ?_
            rintro e w9 ⟨rfl, q9, rfl⟩
            rw [hdd z z rfl]
            go_wp2_with fail
            refine (HGA.out _).mono ?_
            rintro e w10 ⟨rfl, rfl⟩
            go_wp2_with fail
            refine (same_any _ _ _ _ _ (TF.out.below (below_drewN (Below.refl _ w7) _)) (TZ.out.below (below_drewN (Below.refl _ w7) _))).mono ?_
            rintro e w11 ⟨rfl, q11, rfl⟩
            rw [hdd z z rfl]
            go_wp2_with fail
            refine (HGB.out _).mono ?_
            rintro e w12 ⟨rfl, rfl⟩
            go_wp2_with fail
            go_ret
            exact ⟨rfl, below_drewN M7.out.belowW _⟩
end Go.Proofs.Ytcbfghncdclonaa

/-
  The row of the law LogAgain: whatever the input, it answers true and leaves its arguments as they were; out of its walk.
-/
namespace Go.Proofs.Ytcbfghncdclonaa.logAgain
open Go.ChangeShapes Go.WideShapes Go.ChangeAt Go.RowKit
open Go.ChangeMaps (open_string shut_string)
theorem own : ownKnob Try.prog.godebug = none := by kernel_rfl
theorem laidOut : laidOutB Try.prog = true := by kernel_rfl
set_option maxRecDepth 100000 in
theorem lifted (os : Os) (started : os.Started) (H : Type) (enc : TypeId × Value → H) :
    ReturnsInHanded {} Try.checked os 4 .any (Rows.logAgainSpec.pre6 enc Try.prog Try.f4 Rows.logAgainRow.domain false) (Rows.logAgainSpec.post enc Try.prog Try.f4 false true false false) := by
  refine returnsInHanded_of_change_sized (C := Try.checked) own started (by kernel_rfl) Try.func4
    (ChangeSpec.witness6 (enc := enc) (C := Try.checked) false ⟨#[], #[.slice none 0 0, .string ByteArray.empty, .string ByteArray.empty], []⟩ 8 (by kernel_rfl) (by kernel_rfl) (by kernel_rfl) (by kernel_rfl)) ?_
  intro W base args ds gs before hval0 hW _ hsz0 _
  have hsz : (DataW.weightsEach Try.prog (Try.f4.params.toList ++ Rows.logAgainSpec.plain.varTypes Try.prog) (ds ++ gs)).all (· ≤ reachBytes) = true := hsz0
  have hval : ∀ (j : Nat) t v, Try.f4.params[j]? = some t → args[j]? = some v → Value.okWide Try.prog W .any base t v := hval0
  have hW' := hW
  obtain ⟨p, q, hA0, hV, rfl, hfz, hnd⟩ := hW
  have hA : DataW.TrodAll enc Try.prog W 0 (fun _ => true) true Try.f4.params.toList args.toList ds p := hA0
  rw [Try.params4] at hA hval hsz
  obtain ⟨v0, vs0, d0, ds0, p0, q0, hargs, rfl, rfl, h0, r0⟩ := trodAll_cons hA
  obtain ⟨v1, vs1, d1, ds1, p1, q1, rfl, rfl, rfl, h1, r1⟩ := trodAll_cons r0
  obtain ⟨v2, vs2, d2, ds2, p2, q2, rfl, rfl, rfl, h2, r2⟩ := trodAll_cons r1
  obtain ⟨rfl, rfl, rfl⟩ := trodAll_nil r2
  obtain rfl : args = #[v0, v1, v2] := by cases args; simp_all
  obtain ⟨rfl, rfl⟩ := trodVars_none hV
  obtain ⟨a0, len0, cap0, rfl⟩ := okWide_slice Try.underlying26 (hval 0 26 v0 rfl rfl)
  have k0 := h0
  have lt0 : ∀ x ∈ p0, x.block < W.heap.size := by obtain ⟨m, hm⟩ := k0; exact DataW.trod_lt m _ _ _ hm
  obtain ⟨z0, x0, y0, u0, b0⟩ := open_strs hsz (j := 0) (t := 26) rfl rfl Try.underlying26 Try.underlying9 (by kernel_rfl) (by kernel_rfl) h0
  obtain ⟨a1, rfl, rfl, rfl, y1⟩ := open_string Try.underlying9 (hval 1 9 v1 rfl rfl) h1
  have w1 : a1.size ≤ 140737488351232 := by
    have z := sized_string hsz (j := 1) (t := 9) rfl rfl
    rw [Array.length_toList] at z
    exact z
  obtain ⟨a2, rfl, rfl, rfl, y2⟩ := open_string Try.underlying9 (hval 2 9 v2 rfl rfl) h2
  have w2 : a2.size ≤ 140737488351232 := by
    have z := sized_string hsz (j := 2) (t := 9) rfl rfl
    rw [Array.length_toList] at z
    exact z
  refine (logAgain_walk a0 len0 cap0 z0 a1 a2 W x0 y0 u0 b0 w1 w2).mono fun e W' ⟨he, bel⟩ => ?_
  subst he
  exact ⟨_, rfl, _, _, _, [], _, [], hW', trodAll_mk1 (shut_bool Try.underlying4 _), (trodAll_cons_mk (Below.trod laidOut (by kernel_rfl) (of_decide_eq_true (by kernel_rfl)) k0 bel lt0) (trodAll_cons_mk (shut_string Try.underlying9 y1) (trodAll_cons_mk (shut_string Try.underlying9 y2) trodAll_mk0))), rfl, bel.frame _, fun h => by cases h⟩
theorem over : Rows.logAgainRow.holds Try.pinned (OpenSpec.ofChange Rows.logAgainSpec) :=
  OpenClaim.holds_of_wide 4 Try.f4 rfl rfl rfl rfl rfl rfl rfl ⟨rfl, rfl, rfl, rfl, rfl⟩ rfl rfl rfl rfl rfl (by kernel_rfl) Try.func4 (by kernel_rfl)
    (of_decide_eq_true (by kernel_rfl)) (by unfold Func.isWrapper; first | (rw [if_pos (by decide +kernel)]; kernel_rfl) | (rw [if_neg (by decide +kernel)]; exact ⟨rfl, rfl⟩))
    (fun os started H enc _ => lifted os started H enc)
end Go.Proofs.Ytcbfghncdclonaa.logAgain
namespace Go.Proofs.Ytcbfghncdclonaa
/-- The row, under a short name. -/
theorem logAgain_holds : Rows.LogAgainSaid := logAgain.over
#print axioms logAgain_holds
end Go.Proofs.Ytcbfghncdclonaa

