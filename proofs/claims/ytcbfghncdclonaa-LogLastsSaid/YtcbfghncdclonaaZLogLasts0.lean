/-
  Texts of this session, merged in build order: LLastsL, LLLasts, RLogLasts.
-/
import Derived.Test.YtcbfghncdclonaaZE0
import Derived.LoopTactic
import Derived.Test.YtcbfghncdclonaaRows
set_option linter.unusedVariables false
set_option linter.unusedSimpArgs false
/-
  What was put and told is there again, in plain words.
-/
namespace Go.Proofs.Ytcbfghncdclonaa
open Go.RowKit Go.Maps Go.Lib
set_option linter.unusedSimpArgs false
set_option linter.unusedVariables false
/-- Open where behind whole frames something stands that is none. -/
theorem mids_cut (xs : List (List UInt8)) (r : List UInt8) (n : Nat) (hs : Shorts xs) (h : (frames xs ++ r).length ≤ 1000) (hr : (nextL r).2 = 0) : ∃ n', mids (S1 lg 1000 (frames xs ++ r) n false 0 false) = (S1 lg 1000 (frames xs) n' false 0 false, 0, xs) := by
  have hall : allL (frames xs ++ r) = (xs, (frames xs).length) := by
    rw [all_frames xs r hs, allL_stop hr, List.append_nil, Nat.add_zero]
  by_cases e : r = []
  · subst e
    rw [List.append_nil] at h ⊢
    exact ⟨n, mids_own _ _ _ _ _ hs h⟩
  · refine ⟨(frames xs).length, ?_⟩
    have hp : 0 < r.length := List.length_pos_iff.2 e
    unfold mids
    rw [app_none _ _ _ _ _ h, if_pos rfl]
    unfold restS
    rw [read_one, hall, if_neg (by rw [List.length_append]; simp only []; omega)]
    have hfix : fixS (S1 lg 1000 (frames xs ++ r) n false 0 false) (frames xs).length = (S1 lg 1000 (frames xs) (frames xs).length false 0 false, 0) := by
      unfold fixS
      rw [cut_one _ _ _ _ _ _ (by rw [List.length_append]; omega), if_pos rfl, List.take_left, sync_one]
    rw [hfix]
/-- A log where t texts were told; it may be dead, with a part of the next. -/
def ToldAt (xs : List (List UInt8)) (i t : Nat) (s : Ds) : Prop :=
  (t = i ∧ ∃ l, s = S1 lg 1000 (frames (xs.take t)) (frames (xs.take t)).length true l false) ∨
  (t < i ∧ ∃ (q : Nat) (b : List UInt8), xs[t]? = some b ∧ s = S1 lg 1000 (frames (xs.take t) ++ (frameL b).take q) (frames (xs.take t)).length true 0 true)
theorem told_next {xs : List (List UInt8)} {i t : Nat} {s : Ds} (h : ToldAt xs i t s) (hs : Shorts xs) (ht : (frames xs).length ≤ 1000) {b : List UInt8} (hb : xs[i]? = some b) :
    ∃ s' k, mPutS s (frameL b) = (s', k) ∧ ((k = 0 ∧ t = i ∧ ToldAt xs (i + 1) (t + 1) s') ∨ (k = 21 ∧ ToldAt xs (i + 1) t s')) := by
  have hi : i < xs.length := (List.getElem?_eq_some_iff.1 hb).1
  have hbe : xs[i] = b := (List.getElem?_eq_some_iff.1 hb).2
  have htk : xs.take (i + 1) = xs.take i ++ [b] := by rw [List.take_succ_eq_append_getElem hi, hbe]
  have hfr : frames (xs.take (i + 1)) = frames (xs.take i) ++ frameL b := by rw [htk, frames_snoc]
  rcases h with ⟨rfl, l, rfl⟩ | ⟨hlt, q, c, hc, rfl⟩
  · have hle : (frames (xs.take t)).length + (frameL b).length ≤ 1000 := by
      have e : frames xs = frames (xs.take (t + 1)) ++ frames (xs.drop (t + 1)) := by rw [← frames_append, List.take_append_drop]
      rw [e, List.length_append, hfr, List.length_append] at ht
      omega
    have ha := append_old lg lg_ne 1000 (frames (xs.take t)).length l true (frames (xs.take t)) (frameL b) hle
    rw [bytes_fuse] at ha
    unfold mPutS
    by_cases hfl : (frameL b).length ≤ l
    · rw [if_pos hfl] at ha
      rw [ha, if_pos rfl]
      cases hl : l - (frameL b).length with
      | zero =>
        refine ⟨_, 21, sync_none lg 1000 _ _, .inr ⟨rfl, .inr ⟨by omega, (frameL b).length, b, hb, ?_⟩⟩⟩
        rw [List.take_length]
      | succ l' =>
        refine ⟨_, 0, sync_left lg 1000 _ l' _, .inl ⟨rfl, rfl, .inl ⟨rfl, l', ?_⟩⟩⟩
        rw [hfr]
    · rw [if_neg hfl] at ha
      rw [ha, if_neg (by simp)]
      exact ⟨_, 21, rfl, .inr ⟨rfl, .inr ⟨by omega, l, b, hb, rfl⟩⟩⟩
  · refine ⟨_, 21, ?_, .inr ⟨rfl, .inr ⟨by omega, q, c, hc, rfl⟩⟩⟩
    unfold mPutS
    rw [append_off, if_neg (by simp)]
theorem told_last {xs : List (List UInt8)} {t : Nat} {s : Ds} (h : ToldAt xs xs.length t s) (hs : Shorts xs) (ht : (frames xs).length ≤ 1000) (k : Nat) :
    ∃ s1 s2 u, crashS s (k : Int) = s1 ∧ s1.dead = false ∧ mids s1 = (s2, 0, xs.take u) ∧ t ≤ u ∧ u ≤ t + 1 ∧ u ≤ xs.length := by
  have hsh : ∀ j, Shorts (xs.take j) := fun j a ha => hs a (List.mem_of_mem_take ha)
  have hlen : ∀ j, (frames (xs.take j)).length ≤ 1000 := fun j => by
    have e : frames xs = frames (xs.take j) ++ frames (xs.drop j) := by rw [← frames_append, List.take_append_drop]
    rw [e, List.length_append] at ht
    omega
  rcases h with ⟨rfl, l, rfl⟩ | ⟨hlt, q, b, hb, rfl⟩
  · have hcr := crash_one lg 1000 (frames (xs.take xs.length)).length l k true false (frames (xs.take xs.length))
    have e : (frames (xs.take xs.length)).length + min k ((frames (xs.take xs.length)).length - (frames (xs.take xs.length)).length) = (frames (xs.take xs.length)).length := by omega
    rw [e, List.take_length (l := frames (xs.take xs.length))] at hcr
    exact ⟨_, _, xs.length, hcr, rfl, mids_own 1000 _ 0 false _ (hsh _) (hlen _), Nat.le_refl _, by omega, Nat.le_refl _⟩
  · have hbe : xs[t] = b := (List.getElem?_eq_some_iff.1 hb).2
    have hbs : ¬ 131072 < b.length := hs b (hbe ▸ List.getElem_mem _)
    have htk : xs.take (t + 1) = xs.take t ++ [b] := by rw [List.take_succ_eq_append_getElem hlt, hbe]
    have hfr : frames (xs.take (t + 1)) = frames (xs.take t) ++ frameL b := by rw [htk, frames_snoc]
    have hl2 := hlen (t + 1)
    rw [hfr, List.length_append] at hl2
    obtain ⟨v, hv⟩ : ∃ v, min q (min k (((frameL b).take q).length)) = v := ⟨_, rfl⟩
    have hcr : crashS (S1 lg 1000 (frames (xs.take t) ++ (frameL b).take q) (frames (xs.take t)).length true 0 true) (k : Int) = S1 lg 1000 (frames (xs.take t) ++ (frameL b).take v) ((frames (xs.take t)).length + min k (((frameL b).take q).length)) false 0 false := by
      rw [crash_one, List.length_append, Nat.add_sub_cancel_left, List.take_length_add_append, List.take_take]
      rw [show min (min k ((frameL b).take q).length) q = v from by rw [← hv, Nat.min_comm]]
    by_cases hw : (frameL b).length ≤ v
    · have e : (frameL b).take v = frameL b := List.take_of_length_le hw
      rw [e, ← hfr] at hcr
      exact ⟨_, _, t + 1, hcr, rfl, mids_own 1000 _ 0 false _ (hsh _) (hlen _), by omega, Nat.le_refl _, hlt⟩
    · obtain ⟨n', hm⟩ := mids_cut (xs.take t) ((frameL b).take v) ((frames (xs.take t)).length + min k (((frameL b).take q).length)) (hsh _) (by rw [List.length_append, List.length_take]; omega) (by rw [next_cut b v hbs (by rw [frameL_length hbs] at hw; omega)])
      exact ⟨_, _, t, hcr, rfl, hm, Nat.le_refl _, by omega, by omega⟩
theorem told_start (xs : List (List UInt8)) (l : Nat) : ToldAt xs 0 0 (S1 lg 1000 [] 0 true l false) := .inl ⟨rfl, l, rfl⟩
theorem told_le {xs : List (List UInt8)} {i t : Nat} {s : Ds} (h : ToldAt xs i t s) : t ≤ i := by
  rcases h with ⟨rfl, _⟩ | ⟨h, _⟩
  · exact Nat.le_refl _
  · omega
end Go.Proofs.Ytcbfghncdclonaa

/-
  The law LogLasts, walked.
-/
namespace Go.Proofs.Ytcbfghncdclonaa
open Go.RowKit Go.Maps Go.Lib
set_option linter.unusedSimpArgs false
set_option linter.unusedVariables false
/-- How long the frames of some texts are. -/
def tot (l : List ByteArray) : Nat := (l.map fun s => 8 + s.size).sum
def dats (l : List ByteArray) : List (List UInt8) := l.map fun s => s.data.toList
theorem tot_snoc (l : List ByteArray) (s : ByteArray) : tot (l ++ [s]) = tot l + (8 + s.size) := by simp [tot]
theorem dats_snoc (l : List ByteArray) (s : ByteArray) : dats (l ++ [s]) = dats l ++ [s.data.toList] := by simp [dats]
theorem dats_bs (l : List ByteArray) : (dats l).map bsL = l := by
  unfold dats
  rw [List.map_map]
  conv => rhs; rw [← List.map_id l]
  exact List.map_congr_left fun s _ => bsL_data s
theorem tot_take_le (l : List ByteArray) (k : Nat) : tot (l.take k) ≤ tot l := by
  have h : l.take k ++ l.drop k = l := List.take_append_drop k l
  have : tot l = tot (l.take k) + tot (l.drop k) := by
    conv => lhs; rw [← h]
    unfold tot
    rw [List.map_append, List.sum_append]
  omega
theorem tot_mem {l : List ByteArray} {s : ByteArray} (h : s ∈ l) : s.size ≤ tot l := by
  induction l with
  | nil => simp at h
  | cons a l ih =>
    rcases List.mem_cons.1 h with rfl | h
    · simp [tot]; omega
    · have := ih h; simp [tot] at this ⊢; omega
theorem dats_shorts {l : List ByteArray} (h : ∀ s ∈ l, s.size ≤ 131072) : Shorts (dats l) := by
  intro a ha
  obtain ⟨s, hs, rfl⟩ := List.mem_map.1 ha
  rw [dl]
  have := h s hs
  omega
theorem dats_len : ∀ {l : List ByteArray}, (∀ s ∈ l, s.size ≤ 131072) → (frames (dats l)).length = tot l
  | [], _ => rfl
  | s :: l, h => by
    have h1 := h s (by simp)
    have ih := dats_len (l := l) fun x hx => h x (by simp [hx])
    have e : dats (s :: l) = s.data.toList :: dats l := rfl
    rw [e, frames_cons, List.length_append, ih, frameL_length (by rw [dl]; omega), dl]
    simp [tot]; omega
theorem lasts_new : newS 1000 = ⟨1000, [], false, 0, false⟩ := by rfl
set_option maxRecDepth 100000 in
set_option maxHeartbeats 4000000 in
theorem logLasts_walk (a : Option Addr) (len cap : Nat) (z : List ByteArray) (a1 a2 : Int) (W : World) (hl : z.length = len) (hrow : RowAt W a (z.map .string)) (hsz : ∀ s ∈ z, s.size ≤ 140737488351232) (hb : len * 16 ≤ 140737488351232) (hlc : len ≤ cap) (hcm : cap ≤ maxLen) (i1 : (Lit.int .u16 a1).wf = true) (i2 : (Lit.int .u8 a2).wf = true) :
    Calls Try.prog 6 #[.slice a len cap, .int .u16 a1, .int .u8 a2] W fun e w' => e = .returned (.bool true) ∧ Below W.heap.size W w' := by
  obtain ⟨fu, rfl, hfu⟩ : ∃ n : Nat, a1 = n ∧ n ≤ 65535 := by
    have : 0 ≤ a1 ∧ a1 ≤ 65535 := by simpa [Lit.wf, IntKind.min, IntKind.max, IntKind.signed, IntKind.bits] using i1
    exact ⟨a1.toNat, by omega, by omega⟩
  obtain ⟨kp, rfl, hkp⟩ := u8_int i2
  clear i1 i2
  have HL := Lib.hid hl; have HROW := Lib.hid hrow; have HSZ := Lib.hid hsz
  have H0 := Lib.hid (Nat.le_refl W.heap.size)
  have HK := Lib.hid known_any
  have hbl : len ≤ 8796093023000 := by omega
  clear hl hrow hsz hb
  go_enter Try.func6, Try.ntmps6
  go_wp2_with fail
  go_loop [7, 8] (fun n i => ∃ k : Nat, k ≤ len ∧ i = .int .i64 k ∧ n = .int .i64 ((tot (z.take k) : Nat) : Int) ∧ (k = 0 ∨ tot (z.take k) ≤ 140737488351232 + 500)) (fun _ i => len - (intOf i).toNat)
  case atStart => exact ⟨0, by omega, rfl, by simp [tot], .inl rfl⟩
  case round =>
    obtain ⟨k, hk, rfl, rfl, hN⟩ := hrel
    obtain ⟨t, ht⟩ : ∃ t, tot (z.take k) = t := ⟨_, rfl⟩
    rw [ht] at hN ⊢
    have HT := Lib.hid ht
    have htl : t ≤ 140737488351232 + 500 := by
      rcases hN with rfl | h
      · simp [tot] at ht; omega
      · exact h
    clear ht hN
    by_cases hlt : k < len
    · by_cases h300 : t ≤ 300
      · obtain ⟨b1, o1, rfl, _, hc1⟩ := HROW.out (by rw [List.length_map, HL.out]; omega)
        have k1 : k < z.length := by rw [HL.out]; exact hlt
        have f1 : W.cell? ⟨b1, o1 + k, none⟩ = some (.string z[k]) := by rw [hc1 k (by rw [List.length_map]; exact k1)]; simp
        have p1 : z.take (k + 1) = z.take k ++ [z[k]] := List.take_succ_eq_append_getElem k1
        obtain ⟨s1, hs1⟩ : ∃ s1, z[k] = s1 := ⟨_, rfl⟩
        have zs : s1.size ≤ 140737488351232 := by rw [← hs1]; exact HSZ.out _ (List.getElem_mem _)
        rw [hs1] at f1 p1
        have P1 := Lib.hid p1
        clear hc1 p1 hs1
        have hki : (k : Int) < (len : Int) := by omega
        have hk0 : (0 : Int) ≤ (k : Int) := by omega
        have hmi : (t : Int) ≤ 300 := by omega
        have hw1 : IntKind.i64.wrap (8 + (s1.size : Int)) = 8 + (s1.size : Int) := i64_small _ (by omega) (by omega)
        have hw2 : IntKind.i64.wrap ((t : Int) + (8 + (s1.size : Int))) = (t : Int) + (8 + (s1.size : Int)) := i64_small _ (by omega) (by omega)
        go_wp2_with fail
        have e1 : tot (z.take (k + 1)) = t + (8 + s1.size) := by rw [P1.out, tot_snoc, ← HT.out]
        exact ⟨⟨k + 1, by omega, by go_num, by rw [e1]; simp, .inr (by rw [e1]; omega)⟩, by simp [intOf]; omega⟩
      · have hmf : decide ((t : Int) ≤ 300) = false := by simp; omega
        have hki : (k : Int) < (len : Int) := by omega
        have hmg : (300 : Int) < (t : Int) := by omega
        have HN := Lib.hid (Mine.new (Below.refl W.heap.size W) (Nat.le_refl _) 1000 lasts_new)
        go_wp2_with fail
        refine HN.out.mono ?_
        rintro e w1 ⟨p, rfl, hmn⟩
        have B1 := Lib.hid hmn.below; clear hmn HN
        go_wp2_with fail
        refine (HK.out _).mono ?_
        rintro e w2 ⟨rfl, hB2⟩
        go_wp2_with fail
        go_ret
        exact ⟨rfl, below_trs B1.out H0.out hB2⟩
    · obtain rfl : k = len := by omega
      have hki : ¬ (k : Int) < (k : Int) := by omega
      have hkd : decide ((k : Int) < (k : Int)) = false := by simp
      by_cases h3 : 300 < t
      · have hmg : (300 : Int) < (t : Int) := by omega
        have HN := Lib.hid (Mine.new (Below.refl W.heap.size W) (Nat.le_refl _) 1000 lasts_new)
        go_wp2_with fail
        refine HN.out.mono ?_
        rintro e w1 ⟨p, rfl, hmn⟩
        have B1 := Lib.hid hmn.below; clear hmn HN
        go_wp2_with fail
        refine (HK.out _).mono ?_
        rintro e w2 ⟨rfl, hB2⟩
        go_wp2_with fail
        go_ret
        exact ⟨rfl, below_trs B1.out H0.out hB2⟩
      · have hmg : ¬ (300 : Int) < (t : Int) := by omega
        have hmd : decide ((300 : Int) < (t : Int)) = false := by simp; omega
        have hz : z.take k = z := List.take_of_length_le (by rw [HL.out]; omega)
        have hm2 := HT.out
        rw [hz] at hm2
        have htot : tot z ≤ 300 := by omega
        have HZ : Hid (∀ s ∈ z, s.size ≤ 131072) := Lib.hid fun s hs => by have := tot_mem hs; omega
        have HN := Lib.hid (Mine.new (Below.refl W.heap.size W) (Nat.le_refl _) 1000 lasts_new)
        obtain ⟨F, hF⟩ : ∃ F, fu % (t + 2 * k + 2) = F := ⟨_, rfl⟩
        have hFi : (F : Int) ≤ 65535 := by have := Nat.mod_le fu (t + 2 * k + 2); omega
        have hmod : Int.tmod (fu : Int) ((t : Int) + 2 * (k : Int) + 2) = (F : Int) := by
          rw [← hF, show ((t : Int) + 2 * (k : Int) + 2) = ((t + 2 * k + 2 : Nat) : Int) by omega]
          rfl
        have hmod2 : (fu : Int) % ((t : Int) + 2 * (k : Int) + 2) = (F : Int) := by
          rw [← hF, show ((t : Int) + 2 * (k : Int) + 2) = ((t + 2 * k + 2 : Nat) : Int) by omega]
          rfl
        have hti : (t : Int) ≤ 300 := by omega
        have hkb : (k : Int) ≤ 8796093023000 := by omega
        have hfi : (fu : Int) ≤ 65535 := by omega
        clear hm2 hz HT hF
        go_wp2_with fail
        refine HN.out.mono ?_
        rintro e w1 ⟨p, rfl, hmn⟩
        have M1 := Lib.hid (LogW.of_mine hmn); clear hmn HN
        go_wp2_with fail
        refine (open_ok M1.out H0.out rfl (mids_new 1000 0 false)).mono ?_
        rintro e w2 ⟨g, v, R, rfl, hr, hm2⟩
        have M2 := Lib.hid hm2; clear hm2 M1
        obtain ⟨va, vc, rfl⟩ := hr.slice_len
        clear hr
        go_wp2_with fail
        have hsh := dats_shorts HZ.out
        have hGl := dats_len HZ.out
        have HSH := Lib.hid hsh; have HTL := Lib.hid (show (frames (dats z)).length ≤ 1000 by rw [hGl]; omega)
        clear hsh hGl
        refine (M2.out.fuse H0.out (F : Int) (by omega) (by omega) (fuse_one lg 1000 0 0 F false false [])).mono ?_
        rintro e w3 ⟨rfl, hm3⟩
        have M3 := Lib.hid hm3; clear hm3 M2
        have hzl : (dats z).length = k := by unfold dats; rw [List.length_map, HL.out]
        have ZL := Lib.hid hzl; clear hzl hmod hmod2
        go_wp2_with fail
        go_loopw [13, 14] (fun q i wr => ∃ (j u : Nat) (st : Ds), j ≤ k ∧ u ≤ j ∧ q = .int .i64 ((u : Nat) : Int) ∧ i = .int .i64 ((j : Nat) : Int) ∧ ToldAt (dats z) j u st ∧ LogW W.heap.size W p st ((g, .cells #[.pointer (some ⟨p, 0, none⟩), .int .i64 ((u : Nat) : Int)] 66) :: (R ++ [])) wr) (fun _ i _ => k - (intOf i).toNat)
        case atStart => exact ⟨0, 0, _, Nat.zero_le _, Nat.le_refl _, rfl, rfl, told_start _ _, M3.out⟩
        case round =>
          obtain ⟨j, u, st, hj, huj, rfl, rfl, hto, hmj⟩ := hrel
          have MJ := Lib.hid hmj; have TO := Lib.hid hto; clear hmj hto M3
          by_cases hlt : j < k
          · clear hki hkd
            obtain ⟨b1, o1, rfl, _, hc1⟩ := (HROW.out.below MJ.out.belowW) (by rw [List.length_map, HL.out]; omega)
            have k1 : j < z.length := by rw [HL.out]; exact hlt
            have f1 : wr.cell? ⟨b1, o1 + j, none⟩ = some (.string z[j]) := by rw [hc1 j (by rw [List.length_map]; exact k1)]; simp
            obtain ⟨s1, hs1⟩ : ∃ s1, z[j] = s1 := ⟨_, rfl⟩
            have zs : s1.size ≤ 300 := by have := tot_mem (List.getElem_mem k1); rw [hs1] at this; omega
            have hxb : (dats z)[j]? = some s1.data.toList := by unfold dats; rw [List.getElem?_map, List.getElem?_eq_getElem k1, hs1]; rfl
            rw [hs1] at f1
            obtain ⟨st2, e2, t2, hcase⟩ := told_next TO.out HSH.out HTL.out hxb
            have T2 := Lib.hid t2; have S1B := Lib.hid (show s1.size ≤ 131072 by omega)
            have hki : (j : Int) < (k : Int) := by omega
            have hk0 : (0 : Int) ≤ (j : Int) := by omega
            have hu0 : (0 : Int) ≤ (u : Int) := by omega
            have hu1 : (u : Int) ≤ 8796093023000 := by omega
            clear hc1 hs1 t2 hxb TO
            rcases hcase with ⟨rfl, rfl, hto2⟩ | ⟨rfl, hto2⟩
            · have TO2 := Lib.hid hto2; clear hto2
              go_wp2_with fail
              refine (put_ok g u MJ.out H0.out s1 S1B.out T2.out (by omega)).mono ?_
              rintro e w4 ⟨rfl, hm4⟩
              have M4 := Lib.hid hm4; clear hm4 MJ
              go_wp2_with fail
              go_roundw
              case rel => exact ⟨u + 1, u + 1, st2, hlt, by omega, by first | rfl | (congr 1; omega), by first | rfl | (congr 1; omega), TO2.out, M4.out⟩
              case measure => simp [intOf]; omega
            · have TO2 := Lib.hid hto2; clear hto2
              go_wp2_with fail
              refine (put_no g u MJ.out H0.out s1 S1B.out T2.out (by omega)).mono ?_
              rintro e w4 ⟨rfl, hm4⟩
              have M4 := Lib.hid hm4; clear hm4 MJ
              go_wp2_with fail
              go_roundw
              case rel => exact ⟨j + 1, u, st2, hlt, by omega, by first | rfl | (congr 1; omega), by first | rfl | (congr 1; omega), TO2.out, M4.out⟩
              case measure => simp [intOf]; omega
          · obtain rfl : j = k := by omega
            have hto := TO.out
            rw [← ZL.out] at hto
            obtain ⟨q1, q2, v, hcr, hd, hmi, hv1, hv2, hv3⟩ := told_last hto HSH.out HTL.out kp
            rw [ZL.out] at hv3
            have C1 := Lib.hid hcr; have C2 := Lib.hid hd; have C3 := Lib.hid hmi
            have hvl : ((dats z).take v).length = v := by rw [List.length_take, ZL.out]; omega
            clear hcr hd hmi hto TO
            go_wp2_with fail
            refine (MJ.out.crash H0.out (kp : Int) (by omega) (by omega) C1.out).mono ?_
            rintro e w4 ⟨rfl, hm4⟩
            have M4 := Lib.hid hm4; clear hm4 MJ
            go_wp2_with fail
            refine (open_ok M4.out H0.out C2.out C3.out).mono ?_
            rintro e w5 ⟨g2, vx, R2, rfl, hr2, hm5⟩
            have M5 := Lib.hid hm5; clear hm5 M4
            have HR2 := Lib.hid hr2
            obtain ⟨xa, xc, rfl⟩ := hr2.slice_len
            clear hr2
            rw [hvl]
            obtain ⟨mn, hmn⟩ : ∃ mn, min (u + 1) j = mn := ⟨_, rfl⟩
            have hmn1 : min ((u : Int) + 1) (j : Int) = (mn : Int) := by omega
            have hmn2 : ¬ ((mn : Int) < (v : Int)) := by omega
            have hmn3 : (v : Int) ≤ (mn : Int) := by omega
            have huv : ¬ ((v : Int) < (u : Int)) := by omega
            have huv2 : (u : Int) ≤ (v : Int) := by omega
            have hvc : (v : Int) ≤ (cap : Int) := by omega
            have hvj : (v : Int) ≤ (j : Int) := by omega
            have hvc2 : v ≤ cap := by omega
            have hu1 : (u : Int) ≤ 8796093023000 := by omega
            have hcm2 : (cap : Int) ≤ 9223372036854775807 := by have := hcm; unfold maxLen at this; omega
            clear hmn hcm
            go_wp2_with fail
            refine (HK.out _).mono ?_
            rintro e w7 ⟨rfl, hb7⟩
            have M7 := Lib.hid (M5.out.below H0.out hb7); clear hb7 M5
            have hTX := HR2.out.texts (w := w7) (fun x hx => M7.out.get (g := x.1) (o := x.2) (by simp [hx])) (by rw [hvl]; omega)
            rw [List.map_take, dats_bs, hvl] at hTX
            have hzv : (z.take v).length = v := by rw [List.length_take, HL.out]; omega
            have hTZ : Texts w7 (.slice a v cap) (z.take v) := by
              refine ⟨a, cap, by rw [hzv], fun hp => ?_, by omega⟩
              rw [List.length_map, hzv] at hp
              obtain ⟨b, o, rfl, hb, hc⟩ := (HROW.out.below M7.out.belowW) (by rw [List.length_map, HL.out]; omega)
              refine ⟨b, o, rfl, hb, fun i hi => ?_⟩
              rw [List.length_map, hzv] at hi
              rw [hc i (by rw [List.length_map, HL.out]; omega)]
              simp
            have TX := Lib.hid hTX; have TZ := Lib.hid hTZ
            have hg2 := (M7.out.get (g := g2) (o := .cells #[.pointer (some ⟨p, 0, none⟩), .int .i64 (((dats z).take v).length : Int)] 66) (by simp))
            rw [hvl] at hg2
            have HG2 := Lib.hid (fun q => many_any (w := w7.drewN q) g2 v _ 66 (by rw [World.heap_drewN]; exact hg2))
            have hdd : ∀ (l1 l2 : List ByteArray), l1 = l2 → decide (l1 = l2) = true := fun _ _ h => decide_eq_true h
            clear hTX hTZ hg2
            go_wp2_with fail
            refine (same_any _ _ _ _ _ TX.out TZ.out).mono ?_
            rintro e w8 ⟨rfl, q8, rfl⟩
            rw [hdd _ _ rfl]
            go_wp2_with fail
            refine (HG2.out _).mono ?_
            rintro e w9 ⟨rfl, rfl⟩
            go_wp2_with fail
            go_ret
            exact ⟨rfl, below_drewN M7.out.belowW _⟩
end Go.Proofs.Ytcbfghncdclonaa

/-
  The row of the law LogLasts: whatever the input, it answers true and leaves its arguments as they were; out of its walk.
-/
namespace Go.Proofs.Ytcbfghncdclonaa.logLasts
open Go.ChangeShapes Go.WideShapes Go.ChangeAt Go.RowKit
open Go.ChangeMaps (open_string shut_string)
theorem own : ownKnob Try.prog.godebug = none := by kernel_rfl
theorem laidOut : laidOutB Try.prog = true := by kernel_rfl
set_option maxRecDepth 100000 in
theorem lifted (os : Os) (started : os.Started) (H : Type) (enc : TypeId × Value → H) :
    ReturnsInHanded {} Try.checked os 6 .any (Rows.logLastsSpec.pre6 enc Try.prog Try.f6 Rows.logLastsRow.domain false) (Rows.logLastsSpec.post enc Try.prog Try.f6 false true false false) := by
  refine returnsInHanded_of_change_sized (C := Try.checked) own started (by kernel_rfl) Try.func6
    (ChangeSpec.witness6 (enc := enc) (C := Try.checked) false ⟨#[], #[.slice none 0 0, .int .u16 0, .int .u8 0], []⟩ 8 (by kernel_rfl) (by kernel_rfl) (by kernel_rfl) (by kernel_rfl)) ?_
  intro W base args ds gs before hval0 hW _ hsz0 _
  have hsz : (DataW.weightsEach Try.prog (Try.f6.params.toList ++ Rows.logLastsSpec.plain.varTypes Try.prog) (ds ++ gs)).all (· ≤ reachBytes) = true := hsz0
  have hval : ∀ (j : Nat) t v, Try.f6.params[j]? = some t → args[j]? = some v → Value.okWide Try.prog W .any base t v := hval0
  have hW' := hW
  obtain ⟨p, q, hA0, hV, rfl, hfz, hnd⟩ := hW
  have hA : DataW.TrodAll enc Try.prog W 0 (fun _ => true) true Try.f6.params.toList args.toList ds p := hA0
  rw [Try.params6] at hA hval hsz
  obtain ⟨v0, vs0, d0, ds0, p0, q0, hargs, rfl, rfl, h0, r0⟩ := trodAll_cons hA
  obtain ⟨v1, vs1, d1, ds1, p1, q1, rfl, rfl, rfl, h1, r1⟩ := trodAll_cons r0
  obtain ⟨v2, vs2, d2, ds2, p2, q2, rfl, rfl, rfl, h2, r2⟩ := trodAll_cons r1
  obtain ⟨rfl, rfl, rfl⟩ := trodAll_nil r2
  obtain rfl : args = #[v0, v1, v2] := by cases args; simp_all
  obtain ⟨rfl, rfl⟩ := trodVars_none hV
  obtain ⟨a0, len0, cap0, rfl⟩ := okWide_slice Try.underlying26 (hval 0 26 v0 rfl rfl)
  have k0 := h0
  have lt0 : ∀ x ∈ p0, x.block < W.heap.size := by obtain ⟨m, hm⟩ := k0; exact DataW.trod_lt m _ _ _ hm
  have kc0 := strs_cap Try.underlying26 Try.underlying9 (by kernel_rfl) h0
  obtain ⟨z0, x0, y0, u0, b0⟩ := open_strs hsz (j := 0) (t := 26) rfl rfl Try.underlying26 Try.underlying9 (by kernel_rfl) (by kernel_rfl) h0
  obtain ⟨a1, rfl, rfl, rfl, w1⟩ := open_int Try.underlying27 (hval 1 27 v1 rfl rfl) h1
  obtain ⟨a2, rfl, rfl, rfl, w2⟩ := open_int Try.underlying5 (hval 2 5 v2 rfl rfl) h2
  refine (logLasts_walk a0 len0 cap0 z0 a1 a2 W x0 y0 u0 b0 kc0.1 kc0.2 w1 w2).mono fun e W' ⟨he, bel⟩ => ?_
  subst he
  exact ⟨_, rfl, _, _, _, [], _, [], hW', trodAll_mk1 (shut_bool Try.underlying4 _), (trodAll_cons_mk (Below.trod laidOut (by kernel_rfl) (of_decide_eq_true (by kernel_rfl)) k0 bel lt0) (trodAll_cons_mk (shut_int Try.underlying27 w1) (trodAll_cons_mk (shut_int Try.underlying5 w2) trodAll_mk0))), rfl, bel.frame _, fun h => by cases h⟩
theorem over : Rows.logLastsRow.holds Try.pinned (OpenSpec.ofChange Rows.logLastsSpec) :=
  OpenClaim.holds_of_wide 6 Try.f6 rfl rfl rfl rfl rfl rfl rfl ⟨rfl, rfl, rfl, rfl, rfl⟩ rfl rfl rfl rfl rfl (by kernel_rfl) Try.func6 (by kernel_rfl)
    (of_decide_eq_true (by kernel_rfl)) (by unfold Func.isWrapper; first | (rw [if_pos (by decide +kernel)]; kernel_rfl) | (rw [if_neg (by decide +kernel)]; exact ⟨rfl, rfl⟩))
    (fun os started H enc _ => lifted os started H enc)
end Go.Proofs.Ytcbfghncdclonaa.logLasts
namespace Go.Proofs.Ytcbfghncdclonaa
/-- The row, under a short name. -/
theorem logLasts_holds : Rows.LogLastsSaid := logLasts.over
#print axioms logLasts_holds
end Go.Proofs.Ytcbfghncdclonaa

