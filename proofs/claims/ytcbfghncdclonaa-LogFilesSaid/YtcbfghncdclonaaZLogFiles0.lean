/-
  Texts of this session, merged in build order: LFilesL, LLFiles, RLogFiles.
-/
import Derived.Test.YtcbfghncdclonaaZE0
import Derived.LoopTactic
import Derived.Test.YtcbfghncdclonaaRows
set_option linter.unusedVariables false
set_option linter.unusedSimpArgs false
/-
  Other files beside a log, in plain words.
-/
namespace Go.Proofs.Ytcbfghncdclonaa
open Go.RowKit Go.Maps Go.Lib
set_option linter.unusedSimpArgs false
set_option linter.unusedVariables false
def addB (b : List UInt8) (f : Fl) : Fl := { f with b := f.b ++ b }
theorem bytes_plain (nm : Nm) : ∀ (b : List UInt8) (s : Ds), s.fused = false → s.dead = false → bytesS s nm b = (turnS s nm (addB b), 0)
  | [], s, _, _ => by
    have : turnS s nm (addB []) = s := by
      obtain ⟨R, L, fu, l, d⟩ := s
      unfold turnS setF addB
      simp
    rw [this]
    rfl
  | c :: t, s, h1, h2 => by
    obtain ⟨R, L, fu, l, d⟩ := s
    simp only at h1 h2
    subst h1 h2
    have h : bytesS ⟨R, L, false, l, false⟩ nm (c :: t) = bytesS (turnS (stepS ⟨R, L, false, l, false⟩) nm (addC c)) nm t := rfl
    rw [h, bytes_plain nm t _ rfl rfl]
    have : turnS (turnS (stepS ⟨R, L, false, l, false⟩) nm (addC c)) nm (addB t) = turnS ⟨R, L, false, l, false⟩ nm (addB (c :: t)) := by
      unfold turnS stepS setF addC addB
      simp only [List.map_map]
      congr 1
      apply List.map_congr_left
      intro f _
      simp only [Function.comp]
      by_cases e : f.nm = nm
      · rw [if_pos e, if_pos e, if_pos e]
        simp
      · rw [if_neg e, if_neg e, if_neg e]
    rw [this]
theorem put_find_new (L : List Fl) (nm : Nm) (hp : L.Pairwise fun a b => a.nm < b.nm) (hn : findF L nm = none) : findF (putF L nm) nm = some ⟨nm, [], 0⟩ :=
  find_of (put_rise L nm hp hn) (f := ⟨nm, [], 0⟩) ((put_mem _ _ _).2 (.inl rfl))
theorem put_find_old (L : List Fl) (nm : Nm) (hp : L.Pairwise fun a b => a.nm < b.nm) (hn : findF L nm = none) {nm' : Nm} {f : Fl} (h : findF L nm' = some f) : findF (putF L nm) nm' = some f := by
  obtain ⟨h1, rfl⟩ := find_some h
  exact find_of (put_rise L nm hp hn) ((put_mem _ _ _).2 (.inr h1))
theorem put_find_none (L : List Fl) (nm nm' : Nm) (hne : nm ≠ nm') (h : findF L nm' = none) : findF (putF L nm) nm' = none := by
  refine List.find?_eq_none.2 fun f hf => ?_
  rcases (put_mem _ _ _).1 hf with rfl | hf
  · simpa using hne
  · have := find_none h f hf
    simpa using this
theorem rest_nil0 {s : Ds} (h : readS s lg = []) : restS s = (s, 0, []) := by
  unfold restS
  rw [h, all_nil]
  rfl
theorem addB_nm (b : List UInt8) (f : Fl) : (addB b f).nm = f.nm := rfl
def fName (i : Nat) : Nm := [102, UInt8.ofNat (48 + i)]
theorem fName_inj {i j : Nat} (hi : i < 8) (hj : j < 8) (h : fName i = fName j) : i = j := by
  have : UInt8.ofNat (48 + i) = UInt8.ofNat (48 + j) := by unfold fName at h; injection h with _ h; injection h
  have h2 := congrArg UInt8.toNat this
  rw [UInt8.toNat_ofNat', UInt8.toNat_ofNat'] at h2
  omega
theorem fName_lg (i : Nat) : fName i ≠ lg := by unfold fName lg; simp
structure FA (B : List UInt8) (j : Nat) (st : Ds) : Prop where
  room : st.room = 1000
  fused : st.fused = false
  dead : st.dead = false
  len : st.L.length = min 4 j
  used : usedL st.L ≤ 50 * min 4 j
  free : ∀ i, j ≤ i → i < 8 → findF st.L (fName i) = none
  nolog : findF st.L lg = Option.none
  zero : 0 < j → ∃ f, findF st.L (fName 0) = some f ∧ f.b = B
theorem FA.start (B : List UInt8) : FA B 0 ⟨1000, [], false, 0, false⟩ := ⟨rfl, rfl, rfl, rfl, Nat.zero_le _, fun _ _ _ => rfl, rfl, fun h => absurd h (Nat.lt_irrefl _)⟩
/-- A new file with its bytes. -/
theorem append_plain {st : Ds} {nm : Nm} {B : List UInt8} (hf : st.fused = false) (hd : st.dead = false) (hnm : nm ≠ []) (hl : findF st.L nm = none → st.L.length < 4) (hu : usedL st.L + B.length ≤ st.room) : appendS st nm B = (turnS (withF st nm) nm (addB B), 0) := by
  unfold appendS
  rw [if_neg (by rw [hd]; simp), if_neg (by
    rintro (h1 | ⟨h0, h1⟩)
    · exact hnm h1
    · have := hl (Option.isNone_iff_eq_none.1 h0)
      omega), if_neg (by omega)]
  refine bytes_plain nm B _ ?_ ?_
  · unfold withF
    split
    · exact hf
    · exact hf
  · unfold withF
    split
    · exact hd
    · exact hd
theorem files_next {B : List UInt8} {j : Nat} {st : Ds} (h : FA B j st) (hw : WF st) (hB : B.length ≤ 50) (hj : j < 6) : ∃ st' e, appendS st (fName j) B = (st', e) ∧ FA B (j + 1) st' := by
  have hn := h.free j (Nat.le_refl _) (by omega)
  have hne : fName j ≠ [] := by unfold fName; simp
  by_cases h4 : 4 ≤ j
  · refine ⟨st, 1, ?_, ⟨h.room, h.fused, h.dead, by rw [h.len]; omega, by have := h.used; omega, fun i h1 h2 => h.free i (by omega) h2, h.nolog, fun _ => h.zero (by omega)⟩⟩
    unfold appendS
    rw [if_neg (by rw [h.dead]; simp), if_pos (.inr ⟨by rw [hn]; rfl, by rw [h.len]; omega⟩)]
  · have hr := put_rise _ _ hw.rise hn
    have hnew := put_find_new _ _ hw.rise hn
    have hwf : withF st (fName j) = { st with L := putF st.L (fName j) } := by
      unfold withF
      rw [hn]
      rfl
    have hus := used_set (putF st.L (fName j)) (fName j) (addB B) _ hr hnew
    have hput : usedL (putF st.L (fName j)) = usedL st.L := by rw [usedL_perm (put_perm _ _), usedL_cons]; simp
    have hu := h.used
    have e0 : (addB B ⟨fName j, [], 0⟩).b.length = B.length := by simp [addB]
    rw [hput, e0] at hus
    simp only [List.length_nil, Nat.add_zero] at hus
    refine ⟨_, 0, append_plain h.fused h.dead hne (fun _ => by rw [h.len]; omega) (by rw [h.room]; omega), ?_⟩
    rw [hwf]
    refine ⟨h.room, h.fused, h.dead, ?_, ?_, ?_, ?_, ?_⟩
    · show (setF (putF st.L (fName j)) (fName j) (addB B)).length = _
      rw [setF_length, (put_perm _ _).length_eq, List.length_cons, h.len]
      omega
    · show usedL (setF (putF st.L (fName j)) (fName j) (addB B)) ≤ _
      omega
    · intro i h1 h2
      show findF (setF (putF st.L (fName j)) (fName j) (addB B)) (fName i) = none
      rw [find_set _ _ _ _ (addB_nm B), put_find_none _ _ _ (fun e => by have := fName_inj (by omega) h2 e; omega) (h.free i (by omega) h2)]
      rfl
    · show findF (setF (putF st.L (fName j)) (fName j) (addB B)) lg = none
      rw [find_set _ _ _ _ (addB_nm B), put_find_none _ _ _ (fName_lg j) h.nolog]
      rfl
    · intro _
      show ∃ f, findF (setF (putF st.L (fName j)) (fName j) (addB B)) (fName 0) = some f ∧ f.b = B
      by_cases hz : j = 0
      · subst hz
        exact ⟨_, find_set_same (addB_nm B) hnew, rfl⟩
      · obtain ⟨f, h1, h2⟩ := h.zero (by omega)
        refine ⟨f, ?_, h2⟩
        have hfn := (find_some h1).2
        rw [find_set _ _ _ _ (addB_nm B), put_find_old _ _ hw.rise hn h1]
        show some (if f.nm = fName j then addB B f else f) = some f
        rw [if_neg (fun e => hz (fName_inj (by omega) (by omega) (e.symm.trans hfn)))]
/-- Where four files are there is no log. -/
theorem files_full {B : List UInt8} {j : Nat} {st : Ds} (h : FA B j st) (hj : 4 ≤ j) : mids st = (st, 1, []) := by
  have ha : appendS st lg [] = (st, 1) := by
    unfold appendS
    rw [if_neg (by rw [h.dead]; simp), if_pos (.inr ⟨by rw [h.nolog]; rfl, by rw [h.len]; omega⟩)]
  unfold mids
  rw [ha, if_neg (by simp)]
/-- Where there are less there is one, and what is put into it leaves the others as they are. -/
theorem files_log {B b : List UInt8} {j : Nat} {st : Ds} (h : FA B j st) (hw : WF st) (hj : j < 4) (hb : b.length ≤ 50) :
    ∃ st2 st3, mids st = (st2, 0, []) ∧ st2.dead = false ∧ mPutS st2 (frameL b) = (st3, 0) ∧ (0 < j → readS st3 (fName 0) = B) := by
  have hs : ¬ 131072 < b.length := by omega
  have hn := h.nolog
  have hwf : withF st lg = { st with L := putF st.L lg } := by
    unfold withF
    rw [hn]
    rfl
  have hu := h.used
  have ha : appendS st lg [] = ({ st with L := putF st.L lg }, 0) := by
    rw [append_plain h.fused h.dead lg_ne (fun _ => by rw [h.len]; omega) (by rw [h.room, List.length_nil]; omega), hwf]
    have : turnS { st with L := putF st.L lg } lg (addB []) = { st with L := putF st.L lg } := by
      unfold turnS setF addB
      simp
    rw [this]
  have hnew := put_find_new _ _ hw.rise hn
  have hrise := put_rise _ _ hw.rise hn
  have hrd : readS { st with L := putF st.L lg } lg = [] := by
    unfold readS
    rw [if_neg (by show ¬ st.dead = true; rw [h.dead]; simp)]
    simp only [hnew]
  have hput : usedL (putF st.L lg) = usedL st.L := by rw [usedL_perm (put_perm _ _), usedL_cons]; simp
  have hwf2 : withF { st with L := putF st.L lg } lg = { st with L := putF st.L lg } := by
    unfold withF
    rw [show findF ({ st with L := putF st.L lg } : Ds).L lg = _ from hnew]
    rfl
  have ha2 : appendS { st with L := putF st.L lg } lg (frameL b) = (turnS { st with L := putF st.L lg } lg (addB (frameL b)), 0) := by
    rw [append_plain (st := { st with L := putF st.L lg }) h.fused h.dead lg_ne (fun e => by rw [show findF ({ st with L := putF st.L lg } : Ds).L lg = _ from hnew] at e; cases e) (by
      show usedL (putF st.L lg) + _ ≤ st.room
      rw [hput, h.room, frameL_length hs]
      omega), hwf2]
  have hf3 : findF (setF (putF st.L lg) lg (addB (frameL b))) lg = some (addB (frameL b) ⟨lg, [], 0⟩) := find_set_same (addB_nm _) hnew
  have hsy : syncS (turnS { st with L := putF st.L lg } lg (addB (frameL b))) lg = (turnS (stepS (turnS { st with L := putF st.L lg } lg (addB (frameL b)))) lg syncF, 0) := by
    unfold syncS
    rw [if_neg (by show ¬ st.dead = true; rw [h.dead]; simp), if_neg (by
      show ¬ (findF (setF (putF st.L lg) lg (addB (frameL b))) lg).isNone = true
      rw [hf3]
      simp)]
    unfold doS
    rw [if_neg (by
      show ¬ (st.dead || (st.fused && _)) = true
      rw [h.dead, h.fused]
      simp)]
  refine ⟨{ st with L := putF st.L lg }, turnS (stepS (turnS { st with L := putF st.L lg } lg (addB (frameL b)))) lg syncF, ?_, h.dead, ?_, ?_⟩
  · unfold mids
    rw [ha, if_pos rfl]
    exact rest_nil0 hrd
  · unfold mPutS
    rw [ha2, if_pos rfl]
    exact hsy
  · intro h0
    obtain ⟨f, h1, h2⟩ := h.zero h0
    have hfn := (find_some h1).2
    have hne : f.nm ≠ lg := by rw [hfn]; exact fName_lg 0
    have e1 : findF (setF (putF st.L lg) lg (addB (frameL b))) (fName 0) = some f := by
      rw [find_set _ _ _ _ (addB_nm _), put_find_old _ _ hw.rise hn h1]
      show some (if f.nm = lg then addB (frameL b) f else f) = some f
      rw [if_neg hne]
    have e2 : findF (setF (setF (putF st.L lg) lg (addB (frameL b))) lg syncF) (fName 0) = some f := by
      rw [find_set _ _ _ syncF (fun _ => rfl), e1]
      show some (if f.nm = lg then syncF f else f) = some f
      rw [if_neg hne]
    unfold readS
    rw [if_neg (by show ¬ st.dead = true; rw [h.dead]; simp)]
    show (match findF (setF (setF (putF st.L lg) lg (addB (frameL b))) lg syncF) (fName 0) with | none => [] | some f => f.b) = B
    rw [e2]
    exact h2
end Go.Proofs.Ytcbfghncdclonaa

/-
  The law LogFiles, walked.
-/
namespace Go.Proofs.Ytcbfghncdclonaa
open Go.RowKit Go.Maps Go.Lib
set_option linter.unusedSimpArgs false
set_option linter.unusedVariables false
/-- string([]byte{k}). -/
theorem one_conv (w : World) (b : Nat) (hb : b < 256) (v : Int) (hv : v = (b : Int)) : (convert 38 9 (.slice (some ⟨w.heap.size, 0, none⟩) 1 1)).run Try.prog (w.alloc (.cells #[.int .u8 v] 5)) = .ok (.string (bsL [UInt8.ofNat b])) (w.alloc (.cells #[.int .u8 v] 5)) := by
  have hS : (bsL [UInt8.ofNat b]).size = 1 := rfl
  have h := Lib.run_convert_whole (P := Try.prog) (w.alloc (.cells #[.int .u8 v] 5)) 38 5 9 Try.underlying38 Try.underlying5 Try.underlying9 w.heap.size 0 (bsL [UInt8.ofNat b]) (by
    subst hv
    intro i hi
    have e : i = 0 := by omega
    subst e
    have h2 : (((bsL [UInt8.ofNat b])[0]'hi).toNat : Int) = (b : Int) := by
      show ((UInt8.ofNat b).toNat : Int) = _
      rw [UInt8.toNat_ofNat']
      omega
    rw [h2]
    exact (World.cell?_alloc_mark w #[.int .u8 (b : Int)] 5 (0, 0) 0).trans rfl) 1
  rw [hS] at h
  exact h
theorem files_new : newS 1000 = ⟨1000, [], false, 0, false⟩ := by rfl
set_option maxRecDepth 100000 in
set_option maxHeartbeats 4000000 in
theorem logFiles_walk (a0 : Int) (a1 : ByteArray) (W : World) (i0 : (Lit.int .u8 a0).wf = true) (s1 : a1.size ≤ 140737488351232) :
    Calls Try.prog 5 #[.int .u8 a0, .string a1] W fun e w' => e = .returned (.bool true) ∧ Below W.heap.size W w' := by
  obtain ⟨n, rfl, hn⟩ := u8_int i0
  clear i0
  have H0 := Lib.hid (Nat.le_refl W.heap.size)
  have HK := Lib.hid known_any
  by_cases hab : a1.size ≤ 50
  · have t0 : (50 < (a1.size : Int)) = False := eq_false (by omega)
    have hl : a1.data.toList.length ≤ 50 := by rw [dl]; exact hab
    have HL := Lib.hid hl; have HS := Lib.hid (show a1.size ≤ 140737488351232 by omega); have HS2 := Lib.hid (show a1.size ≤ 131072 by omega)
    have HN := Lib.hid (Mine.new (Below.refl W.heap.size W) (Nat.le_refl _) 1000 files_new)
    obtain ⟨k, hk⟩ : ∃ k, n % 6 = k := ⟨_, rfl⟩
    have hmod : (n : Int) % 6 = (k : Int) := by omega
    have hmod2 : Int.tmod (n : Int) 6 = (k : Int) := by rw [← hk]; rfl
    have hk6 : (k : Int) ≤ 5 := by omega
    have hnI : (n : Int) ≤ 255 := by omega
    clear hl hab s1 hk hn
    go_enter Try.func5, Try.ntmps5
    go_wp2_with fail
    refine HN.out.mono ?_
    rintro e w1 ⟨p, rfl, hm⟩
    have M1 := Lib.hid (LogW.of_mine hm); clear hm HN
    go_wp2_with fail
    go_loopw [7] (fun i wr => ∃ (j : Nat) (st : Ds), j ≤ k ∧ i = .int .i64 ((j : Nat) : Int) ∧ FA a1.data.toList j st ∧ LogW W.heap.size W p st [] wr) (fun i _ => k - (intOf i).toNat)
    case atStart => exact ⟨0, _, Nat.zero_le _, rfl, FA.start _, M1.out⟩
    case round =>
      obtain ⟨j, st, hj, rfl, hfa, hm⟩ := hrel
      have FAH := Lib.hid hfa; have MR := Lib.hid hm
      clear hfa hm M1
      by_cases hlt : j < k
      · have hlt' : (j : Int) < (k : Int) := by omega
        have hj0 : (0 : Int) ≤ (j : Int) := by omega
        obtain ⟨st2, e2, t2, hfa2⟩ := files_next FAH.out MR.out.wf HL.out (by omega : j < 6)
        have hnm : ((⟨#[102]⟩ : ByteArray) ++ bsL [UInt8.ofNat (48 + j)]).data.toList = fName j := by rw [app_dl, bsL_toList]; rfl
        have hcv := one_conv wr (48 + j) (by omega) (48 + (j : Int)) (by omega)
        have hbs : (bsL [UInt8.ofNat (48 + j)]).size = 1 := rfl
        obtain ⟨B, hB⟩ : ∃ B, bsL [UInt8.ofNat (48 + j)] = B := ⟨_, rfl⟩
        rw [hB] at hnm hcv hbs
        have hbz : (B.size : Int) ≤ 10 := by omega
        have T2 := Lib.hid t2; have FA2 := Lib.hid hfa2; have HNM := Lib.hid hnm
        have MR2 := Lib.hid (MR.out.below H0.out ((Below.refl _ _).alloc (Nat.le_refl _) (.cells #[.int .u8 (48 + (j : Int))] 5)))
        have hns : ((⟨#[102]⟩ : ByteArray) ++ B).size ≤ 140737488351232 := by rw [ByteArray.size_append, hbs, show (⟨#[102]⟩ : ByteArray).size = 1 from rfl]; omega
        have HNS := Lib.hid hns
        clear t2 hfa2 hnm hns MR FAH hbs hB
        go_wp2_with fail
        refine (MR2.out.append H0.out _ a1 HNS.out HS.out HNM.out rfl T2.out).mono ?_
        rintro e4 w4 ⟨rfl, hm4⟩
        have M4 := Lib.hid hm4; clear hm4 hcv
        go_wp2_with fail
        go_roundw
        case rel => exact ⟨j + 1, st2, hlt, by first | rfl | (congr 1; omega), FA2.out, M4.out⟩
        case measure =>
          show k - ((j : Int) + 1).toNat < k - (j : Int).toNat
          omega
      · have hge : ¬ (j : Int) < (k : Int) := by omega
        have hge' : (k : Int) ≤ (j : Int) := by omega
        obtain rfl : j = k := by omega
        by_cases h4 : 4 ≤ j
        · have h4' : (4 : Int) ≤ (j : Int) := by omega
          have hmid := files_full FAH.out h4
          have hdd := FAH.out.dead
          have HM := Lib.hid hmid; have HD := Lib.hid hdd
          clear hmid hdd FAH h4
          go_wp2_with fail
          refine (open_fails MR.out H0.out HD.out HM.out (by omega)).mono ?_
          rintro e5 w5 ⟨rfl, hm5⟩
          have M5 := Lib.hid hm5; clear hm5 MR
          go_wp2_with fail
          refine (HK.out _).mono ?_
          rintro e6 w6 ⟨rfl, hb6⟩
          have M6 := Lib.hid (M5.out.below H0.out hb6); clear hb6 M5
          go_wp2_with fail
          go_ret
          exact ⟨rfl, M6.out.belowW⟩
        · have h4' : (j : Int) < 4 := by omega
          obtain ⟨st2, st3, f1, f2, f3, f4⟩ := files_log (b := a1.data.toList) FAH.out MR.out.wf (by omega : j < 4) HL.out
          have F1 := Lib.hid f1; have F2 := Lib.hid f2; have F3 := Lib.hid f3; have F4 := Lib.hid f4; have HD := Lib.hid FAH.out.dead
          clear f1 f2 f3 f4 FAH h4
          go_wp2_with fail
          refine (open_ok MR.out H0.out HD.out F1.out).mono ?_
          rintro e5 w5 ⟨g, v, R, rfl, hr, hm5⟩
          have M5 := Lib.hid hm5; clear hm5 MR
          obtain ⟨va, vc, rfl⟩ := hr.slice_len
          clear hr
          go_wp2_with fail
          refine (HK.out _).mono ?_
          rintro e6 w6 ⟨rfl, hb6⟩
          have M6 := Lib.hid (M5.out.below H0.out hb6); clear hb6 M5
          go_wp2_with fail
          refine (put_ok g 0 M6.out H0.out a1 HS2.out F3.out (by omega)).mono ?_
          rintro e7 w7 ⟨rfl, hm7⟩
          have M7 := Lib.hid hm7; clear hm7 M6
          by_cases hz : j = 0
          · subst hz
            go_wp2_with fail
            go_ret
            exact ⟨rfl, M7.out.belowW⟩
          · have hz' : ((j : Int) == 0) = false := beq_eq_false_iff_ne.2 (by omega)
            have R0 := Lib.hid (F4.out (by omega))
            have hbd : bsL a1.data.toList = a1 := bsL_data a1
            clear hz
            go_wp2_with fail
            refine (M7.out.read ⟨#[102, 48]⟩ (by decide) rfl R0.out).mono ?_
            rintro e8 w8 ⟨rfl, hm8⟩
            have M8 := Lib.hid hm8; clear hm8
            rw [hbd]
            go_wp2_with fail
            go_ret
            exact ⟨rfl, M8.out.belowW⟩
  · have t0 : (50 < (a1.size : Int)) = True := eq_true (by omega)
    have z1 : (a1.size : Int) ≤ 140737488351232 := by omega
    clear hab s1
    go_enter Try.func5, Try.ntmps5
    go_wp2_with fail
    refine (HK.out _).mono ?_
    rintro e w1 ⟨rfl, hb1⟩
    have B1 := Lib.hid hb1; clear hb1
    go_wp2_with fail
    go_ret
    exact ⟨rfl, B1.out⟩
end Go.Proofs.Ytcbfghncdclonaa

/-
  The row of the law LogFiles: whatever the input, it answers true and leaves its arguments as they were; out of its walk.
-/
namespace Go.Proofs.Ytcbfghncdclonaa.logFiles
open Go.ChangeShapes Go.WideShapes Go.ChangeAt Go.RowKit
open Go.ChangeMaps (open_string shut_string)
theorem own : ownKnob Try.prog.godebug = none := by kernel_rfl
set_option maxRecDepth 100000 in
theorem lifted (os : Os) (started : os.Started) (H : Type) (enc : TypeId × Value → H) :
    ReturnsInHanded {} Try.checked os 5 .any (Rows.logFilesSpec.pre6 enc Try.prog Try.f5 Rows.logFilesRow.domain false) (Rows.logFilesSpec.post enc Try.prog Try.f5 false true false false) := by
  refine returnsInHanded_of_change_sized (C := Try.checked) own started (by kernel_rfl) Try.func5
    (ChangeSpec.witness6 (enc := enc) (C := Try.checked) false ⟨#[], #[.int .u8 0, .string ByteArray.empty], []⟩ 8 (by kernel_rfl) (by kernel_rfl) (by kernel_rfl) (by kernel_rfl)) ?_
  intro W base args ds gs before hval0 hW _ hsz0 _
  have hsz : (DataW.weightsEach Try.prog (Try.f5.params.toList ++ Rows.logFilesSpec.plain.varTypes Try.prog) (ds ++ gs)).all (· ≤ reachBytes) = true := hsz0
  have hval : ∀ (j : Nat) t v, Try.f5.params[j]? = some t → args[j]? = some v → Value.okWide Try.prog W .any base t v := hval0
  have hW' := hW
  obtain ⟨p, q, hA0, hV, rfl, hfz, hnd⟩ := hW
  have hA : DataW.TrodAll enc Try.prog W 0 (fun _ => true) true Try.f5.params.toList args.toList ds p := hA0
  rw [Try.params5] at hA hval hsz
  obtain ⟨v0, vs0, d0, ds0, p0, q0, hargs, rfl, rfl, h0, r0⟩ := trodAll_cons hA
  obtain ⟨v1, vs1, d1, ds1, p1, q1, rfl, rfl, rfl, h1, r1⟩ := trodAll_cons r0
  obtain ⟨rfl, rfl, rfl⟩ := trodAll_nil r1
  obtain rfl : args = #[v0, v1] := by cases args; simp_all
  obtain ⟨rfl, rfl⟩ := trodVars_none hV
  obtain ⟨a0, rfl, rfl, rfl, w0⟩ := open_int Try.underlying5 (hval 0 5 v0 rfl rfl) h0
  obtain ⟨a1, rfl, rfl, rfl, y1⟩ := open_string Try.underlying9 (hval 1 9 v1 rfl rfl) h1
  have w1 : a1.size ≤ 140737488351232 := by
    have z := sized_string hsz (j := 1) (t := 9) rfl rfl
    rw [Array.length_toList] at z
    exact z
  refine (logFiles_walk a0 a1 W w0 w1).mono fun e W' ⟨he, bel⟩ => ?_
  subst he
  exact ⟨_, rfl, _, _, _, [], _, [], hW', trodAll_mk1 (shut_bool Try.underlying4 _), (trodAll_cons_mk (shut_int Try.underlying5 w0) (trodAll_cons_mk (shut_string Try.underlying9 y1) trodAll_mk0)), rfl, bel.frame _, fun h => by cases h⟩
theorem over : Rows.logFilesRow.holds Try.pinned (OpenSpec.ofChange Rows.logFilesSpec) :=
  OpenClaim.holds_of_wide 5 Try.f5 rfl rfl rfl rfl rfl rfl rfl ⟨rfl, rfl, rfl, rfl, rfl⟩ rfl rfl rfl rfl rfl (by kernel_rfl) Try.func5 (by kernel_rfl)
    (of_decide_eq_true (by kernel_rfl)) (by unfold Func.isWrapper; first | (rw [if_pos (by decide +kernel)]; kernel_rfl) | (rw [if_neg (by decide +kernel)]; exact ⟨rfl, rfl⟩))
    (fun os started H enc _ => lifted os started H enc)
end Go.Proofs.Ytcbfghncdclonaa.logFiles
namespace Go.Proofs.Ytcbfghncdclonaa
/-- The row, under a short name. -/
theorem logFiles_holds : Rows.LogFilesSaid := logFiles.over
#print axioms logFiles_holds
end Go.Proofs.Ytcbfghncdclonaa

