/-
  Texts of this session, merged in build order: GDec, GLLess, GLBack, GPlainL, GLPlain, RGlyphPlain.
-/
import Derived.Test.YtpibbokkdjjgeaaDoorZC0
import Derived.Lib.SlBytesRow
import Derived.Test.YtpibbokkdjjgeaaDoorRows
import Derived.Test.YtpibbokkdjjgeaaDoorCards
import Derived.Test.YtpibbokkdjjgeaaDoorTie
import Derived.LaidMore
import Derived.Lay
import Derived.SevenTiedAt
import Derived.Stop.Joined
set_option linter.unusedVariables false
set_option linter.unusedSimpArgs false
/-
  The decoder, plain: what stands behind a rune changes nothing of it; what is quoted is told again.
-/
namespace Go.Proofs.YtpibbokkdjjgeaaDoor
open Go.RowKit Go.Lib
set_option linter.unusedSimpArgs false
set_option linter.unusedVariables false
theorem decodeN_enc2 (n r x y : Nat) (hn : 1 < n) (h0 : 128 ≤ r) (h1 : r ≤ 2047) : decodeN n (192 + r / 64) (128 + r % 64) x y = (r, 2) := by
  unfold decodeN
  rw [if_neg (by omega), if_pos (by omega)]
  have e : (192 + r / 64) % 32 * 64 + (128 + r % 64) % 64 = r := by omega
  rw [e, if_pos (by omega)]
theorem decodeN_enc3 (n r y : Nat) (hn : 2 < n) (h0 : 2048 ≤ r) (h1 : r ≤ 65535) (h2 : r < 55296 ∨ 57343 < r) : decodeN n (224 + r / 4096) (128 + r / 64 % 64) (128 + r % 64) y = (r, 3) := by
  unfold decodeN
  rw [if_neg (by omega), if_neg (by omega), if_pos (by omega)]
  have e : (224 + r / 4096) % 16 * 4096 + (128 + r / 64 % 64) % 64 * 64 + (128 + r % 64) % 64 = r := by omega
  rw [e, if_pos (by omega)]
theorem decodeN_enc4 (n r : Nat) (hn : 3 < n) (h0 : 65536 ≤ r) (h1 : r ≤ 1114111) : decodeN n (240 + r / 262144) (128 + r / 4096 % 64) (128 + r / 64 % 64) (128 + r % 64) = (r, 4) := by
  unfold decodeN
  rw [if_neg (by omega), if_neg (by omega), if_neg (by omega), if_pos (by omega)]
  have e : (240 + r / 262144) % 8 * 262144 + (128 + r / 4096 % 64) % 64 * 4096 + (128 + r / 64 % 64) % 64 * 64 + (128 + r % 64) % 64 = r := by omega
  rw [e, if_pos (by omega)]
theorem at4_app (a s : List UInt8) (i : Nat) (h : i < a.length) : at4 (a ++ s) i = at4 a i := by
  unfold at4
  rw [List.getD_eq_getElem?_getD, List.getElem?_append_left h, ← List.getD_eq_getElem?_getD]
/-- What stands behind a rune changes nothing of it. -/
theorem dec_same (a b : List UInt8) (hv : vw a ≠ 0) (hl : vw a ≤ b.length) (hb : ∀ i, i < vw a → at4 b i = at4 a i) : dec b = dec a ∧ vw b = vw a := by
  obtain ⟨hne, hd, hw⟩ := vw_pos hv
  have key : dec b = dec a := by
    have ht := decodeN_told a.length (at4 a 0) (at4 a 1) (at4 a 2) (at4 a 3) (at4_lt _ _) (at4_lt _ _) (at4_lt _ _) (at4_lt _ _) hd
    have hwd : (decodeN a.length (at4 a 0) (at4 a 1) (at4 a 2) (at4 a 3)).2 = vw a := hw.symm
    have hda : dec a = ((decodeN a.length (at4 a 0) (at4 a 1) (at4 a 2) (at4 a 3)).1, vw a) := by
      rw [← hwd]
      rfl
    rw [hda]
    obtain ⟨r, hr⟩ : ∃ r, (decodeN a.length (at4 a 0) (at4 a 1) (at4 a 2) (at4 a 3)).1 = r := ⟨_, rfl⟩
    rw [hr, hwd] at ht
    rw [hr]
    unfold dec
    rcases ht with ⟨w, h1, h2⟩ | ⟨w, h1, h2, h3, h4, h5⟩ | ⟨w, h1, h2, h3, h4, h5, h6, h7⟩ | ⟨w, h1, h2, h3, h4, h5, h6, h7⟩
    · rw [w] at hb ⊢
      rw [hb 0 (by omega)]
      unfold decodeN
      rw [if_pos h1, h2]
    · rw [w] at hb hl ⊢
      rw [hb 0 (by omega), hb 1 (by omega), h4, h5]
      exact decodeN_enc2 _ _ _ _ (by omega) h2 h3
    · rw [w] at hb hl ⊢
      rw [hb 0 (by omega), hb 1 (by omega), hb 2 (by omega), h5, h6, h7]
      exact decodeN_enc3 _ _ _ (by omega) h2 h4 h3
    · rw [w] at hb hl ⊢
      rw [hb 0 (by omega), hb 1 (by omega), hb 2 (by omega), hb 3 (by omega), h4, h5, h6, h7]
      exact decodeN_enc4 _ _ (by omega) h2 h3
  refine ⟨key, ?_⟩
  have hbn : b ≠ [] := fun e => by rw [e] at hl; simp at hl; exact hv hl
  have : vw b = (dec b).2 := by
    unfold vw
    rw [if_neg]
    rintro (h | h)
    · exact hbn h
    · rw [key] at h; exact hd h
  rw [this, key, ← hw]
theorem dec_append (a s : List UInt8) (hv : vw a ≠ 0) : dec (a ++ s) = dec a ∧ vw (a ++ s) = vw a := by
  have h := (vw_le a).1
  exact dec_same a (a ++ s) hv (by rw [List.length_append]; omega) fun i hi => at4_app a s i (by omega)
/-- The bytes of a rune that is no ASCII are none of it. -/
theorem vw_high (a : List UInt8) (hv : vw a ≠ 0) (h0 : 128 ≤ at4 a 0) : 2 ≤ vw a ∧ ∀ i, i < vw a → 128 ≤ at4 a i := by
  obtain ⟨hne, hd, hw⟩ := vw_pos hv
  have ht := decodeN_told a.length (at4 a 0) (at4 a 1) (at4 a 2) (at4 a 3) (at4_lt _ _) (at4_lt _ _) (at4_lt _ _) (at4_lt _ _) hd
  have hwd : (decodeN a.length (at4 a 0) (at4 a 1) (at4 a 2) (at4 a 3)).2 = vw a := hw.symm
  rw [hwd] at ht
  have hcase : ∀ i, i < vw a → i = 0 ∨ i = 1 ∨ i = 2 ∨ i = 3 := fun i hi => by have := (vw_le a).2; omega
  rcases ht with ⟨w, h1, h2⟩ | ⟨w, h1, h2, h3, h4, h5⟩ | ⟨w, h1, h2, h3, h4, h5, h6, h7⟩ | ⟨w, h1, h2, h3, h4, h5, h6, h7⟩
  · omega
  · refine ⟨by omega, fun i hi => ?_⟩
    rcases hcase i hi with rfl | rfl | rfl | rfl <;> omega
  · refine ⟨by omega, fun i hi => ?_⟩
    rcases hcase i hi with rfl | rfl | rfl | rfl <;> omega
  · refine ⟨by omega, fun i hi => ?_⟩
    rcases hcase i hi with rfl | rfl | rfl | rfl <;> omega
theorem check_app : ∀ (n : Nat) (a s : List UInt8) (p : Nat), a.length ≤ n → checkF a p = none → checkF (a ++ s) p = checkF s (p + a.length)
  | 0, a, s, p, h, _ => by
    have : a = [] := List.length_eq_zero_iff.1 (by omega)
    rw [this]
    rfl
  | n + 1, a, s, p, h, hc => by
    by_cases hne : a = []
    · rw [hne]; rfl
    · rw [checkF_step] at hc
      by_cases hv : vw a = 0
      · rw [if_pos hv, if_neg hne] at hc
        cases hc
      · rw [if_neg hv] at hc
        have hle := (vw_le a).1
        have ih := check_app n (a.drop (vw a)) s (p + vw a) (by rw [List.length_drop]; omega) hc
        rw [checkF_step, (dec_append a s hv).2, if_neg hv, List.drop_append_of_le_length hle, ih, List.length_drop]
        congr 1
        omega
theorem runes_app : ∀ (n : Nat) (a s : List UInt8) (p : Nat), a.length ≤ n → checkF a p = none → runesF (a ++ s) = runesF a + runesF s
  | 0, a, s, p, h, _ => by
    have : a = [] := List.length_eq_zero_iff.1 (by omega)
    rw [this, runesF_step []]
    simp
  | n + 1, a, s, p, h, hc => by
    by_cases hne : a = []
    · rw [hne, runesF_step []]
      simp
    · rw [checkF_step] at hc
      by_cases hv : vw a = 0
      · rw [if_pos hv, if_neg hne] at hc
        cases hc
      · rw [if_neg hv] at hc
        have hle := (vw_le a).1
        have hw := (vw_pos hv).2.2
        have ih := runes_app n (a.drop (vw a)) s (p + vw a) (by rw [List.length_drop]; omega) hc
        rw [runesF_step (a ++ s), runesF_step a, if_neg (by simp [hne]), if_neg hne, (dec_append a s hv).1, ← hw, List.drop_append_of_le_length hle, ih]
        omega
/-! What is quoted is told again. -/
theorem quoteB_high (c : UInt8) (h : 128 ≤ c.toNat) : quoteB c = [c] := by
  have hs : signB c = 0 := by
    unfold signB
    have e : ∀ k : UInt8, k.toNat < 128 → c ≠ k := fun k hk e => by rw [e] at h; omega
    rw [if_neg (by rintro (h | h); exact e 34 (by decide) h; exact e 92 (by decide) h), if_neg (e 8 (by decide)), if_neg (e 9 (by decide)), if_neg (e 10 (by decide)), if_neg (e 12 (by decide)), if_neg (e 13 (by decide))]
  unfold quoteB
  rw [if_neg (by rw [hs]; simp), if_neg]
  intro h2
  have := UInt8.lt_iff_toNat_lt.1 h2
  simp at this
  omega
theorem quoteB_low : ∀ n : Fin 128, ∃ x t, quoteB (UInt8.ofNat n.val) = x :: t ∧ x.toNat < 128 := by
  intro n
  have h : ∀ n : Fin 128, ((quoteB (UInt8.ofNat n.val)).head?.map fun x => decide (x.toNat < 128)) = some true := by decide +kernel
  have := h n
  cases hq : quoteB (UInt8.ofNat n.val) with
  | nil => rw [hq] at this; cases this
  | cons x t =>
    rw [hq] at this
    simp only [List.head?_cons, Option.map_some, Option.some.injEq, decide_eq_true_eq] at this
    exact ⟨x, t, rfl, this⟩
/-- The bytes at the front that are no ASCII stand as they are. -/
theorem front_high : ∀ (s r : List UInt8) (w : Nat), (∀ i, i < w → 128 ≤ at4 (s.flatMap quoteB ++ 34 :: r) i) → w ≤ s.length ∧ ∀ i, i < w → at4 (s.flatMap quoteB ++ 34 :: r) i = at4 s i
  | s, r, 0, _ => ⟨Nat.zero_le _, fun i hi => by omega⟩
  | [], r, w + 1, h => by
    have := h 0 (by omega)
    exact absurd this (by show ¬ 128 ≤ (34 : UInt8).toNat; decide)
  | c :: t, r, w + 1, h => by
    by_cases hc : 128 ≤ c.toNat
    · have e : (c :: t).flatMap quoteB ++ 34 :: r = c :: (t.flatMap quoteB ++ 34 :: r) := by
        rw [List.flatMap_cons, quoteB_high c hc]
        rfl
      rw [e] at h ⊢
      have ih := front_high t r w fun i hi => h (i + 1) (by omega)
      refine ⟨by rw [List.length_cons]; omega, fun i hi => ?_⟩
      cases i with
      | zero => rfl
      | succ i => exact ih.2 i (by omega)
    · obtain ⟨x, y, e, hx⟩ := quoteB_low ⟨c.toNat, by omega⟩
      simp only [UInt8.ofNat_toNat] at e
      have h0 := h 0 (by omega)
      rw [List.flatMap_cons, e] at h0
      exact absurd h0 (by show ¬ 128 ≤ x.toNat; omega)
theorem back_high : ∀ (s r : List UInt8) (w : Nat), w ≤ s.length → (∀ i, i < w → 128 ≤ at4 s i) → (∀ i, i < w → at4 (s.flatMap quoteB ++ 34 :: r) i = at4 s i) ∧ (s.flatMap quoteB ++ 34 :: r).take w = s.take w ∧ (s.flatMap quoteB ++ 34 :: r).drop w = (s.drop w).flatMap quoteB ++ 34 :: r
  | s, r, 0, _, _ => ⟨fun i hi => by omega, by simp, by simp⟩
  | [], r, w + 1, h, _ => by simp at h
  | c :: t, r, w + 1, h, hh => by
    have hc : 128 ≤ c.toNat := hh 0 (by omega)
    have e : (c :: t).flatMap quoteB ++ 34 :: r = c :: (t.flatMap quoteB ++ 34 :: r) := by
      rw [List.flatMap_cons, quoteB_high c hc]
      rfl
    rw [List.length_cons] at h
    obtain ⟨h1, h2, h3⟩ := back_high t r w (by omega) fun i hi => hh (i + 1) (by omega)
    rw [e]
    refine ⟨fun i hi => ?_, ?_, ?_⟩
    · cases i with
      | zero => rfl
      | succ i => exact h1 i (by omega)
    · rw [List.take_succ_cons, List.take_succ_cons, h2]
    · rw [List.drop_succ_cons, List.drop_succ_cons, h3]
theorem vw_quoted (s r : List UInt8) (h0 : 128 ≤ at4 s 0) (hne : s ≠ []) : vw (s.flatMap quoteB ++ 34 :: r) = vw s := by
  have hl : 0 < s.length := List.length_pos_iff.2 hne
  by_cases hv : vw s = 0
  · rw [hv]
    cases hq : vw (s.flatMap quoteB ++ 34 :: r) with
    | zero => rfl
    | succ k =>
      exfalso
      have hq0 : vw (s.flatMap quoteB ++ 34 :: r) ≠ 0 := by omega
      have h1 := (back_high s r 1 (by omega) fun i hi => by have : i = 0 := by omega
                                                            rw [this]; exact h0).1 0 (by omega)
      have h2 := vw_high _ hq0 (by rw [h1]; exact h0)
      obtain ⟨h3, h4⟩ := front_high s r _ h2.2
      have h5 := dec_same _ s hq0 h3 fun i hi => (h4 i hi).symm
      rw [h5.2, hq] at hv
      omega
  · have h2 := vw_high s hv h0
    have h3 := (vw_le s).1
    obtain ⟨h4, h5, h6⟩ := back_high s r (vw s) h3 h2.2
    exact (dec_same s _ hv (by
      have := congrArg List.length h5
      rw [List.length_take, List.length_take] at this
      omega) h4).2
theorem sign_meant : ∀ n : Fin 256, signB (UInt8.ofNat n.val) ≠ 0 → meantB (signB (UInt8.ofNat n.val)) = some (UInt8.ofNat n.val) ∧ n.val < 128 := by decide +kernel
theorem short_told : ∀ n : Fin 32, hexL [48, 48, digB (n.val / 16), digB (n.val % 16)] 0 = some n.val := by decide +kernel
theorem encode_ascii (c : UInt8) (h : c.toNat < 128) : encodeRune (c.toNat : Int) = [c] := by
  unfold encodeRune
  rw [encodeRuneZ_one (by omega) (by omega)]
  show [(c.toNat : Int).toNat.toUInt8] = [c]
  rw [Int.toNat_natCast]
  simp
theorem back_told : ∀ (n : Nat) (s r acc : List UInt8) (p : Nat), s.length ≤ n → unqF (s.flatMap quoteB ++ 34 :: r) acc p = if checkF s 0 = none then some (acc ++ s, p + (s.flatMap quoteB).length + 1) else none
  | n, [], r, acc, p, _ => by
    rw [checkF_step, unqF_step]
    simp [vw]
  | 0, c :: t, r, acc, p, h => by simp at h
  | n + 1, c :: t, r, acc, p, h => by
    have hck : ∀ (m : Nat) (l : List UInt8) (p q : Nat), l.length ≤ m → (checkF l p = none ↔ checkF l q = none) := by
      intro m
      induction m with
      | zero =>
        intro l p q hl
        have : l = [] := List.length_eq_zero_iff.1 (by omega)
        rw [this, checkF_step, checkF_step [] q]
        simp [vw]
      | succ m ih =>
        intro l p q hl
        rw [checkF_step, checkF_step l q]
        by_cases hv : vw l = 0
        · rw [if_pos hv, if_pos hv]
          by_cases hn : l = []
          · rw [if_pos hn, if_pos hn]
          · rw [if_neg hn, if_neg hn]; simp
        · rw [if_neg hv, if_neg hv]
          have := (vw_le l).1
          exact ih _ _ _ (by rw [List.length_drop]; omega)
    by_cases hc : 128 ≤ c.toNat
    · have hq := vw_quoted (c :: t) r hc (by simp)
      obtain ⟨Q, hQ⟩ : ∃ Q, (c :: t).flatMap quoteB ++ 34 :: r = Q := ⟨_, rfl⟩
      have hQc : ∃ y, Q = c :: y := ⟨t.flatMap quoteB ++ 34 :: r, by rw [← hQ, List.flatMap_cons, quoteB_high c hc]; rfl⟩
      obtain ⟨y, hy⟩ := hQc
      have hne34 : ∀ k : UInt8, k.toNat < 128 → c ≠ k := fun k hk e => by rw [e] at hc; omega
      have hh : Q.head? = some c := by rw [hy]; rfl
      have ha : at4 Q 0 = c.toNat := by rw [hy]; rfl
      rw [hQ] at hq ⊢
      rw [unqF_step, hh, if_neg (fun e => hne34 34 (by decide) (Option.some.inj e)), if_neg (fun e => hne34 92 (by decide) (Option.some.inj e)), ha, if_neg (by omega), hq, checkF_step]
      by_cases hv : vw (c :: t) = 0
      · rw [if_pos hv, if_pos hv, if_neg (by simp)]
        try simp
      · have h2 := vw_high _ hv hc
        have h3 := (vw_le (c :: t)).1
        obtain ⟨h4, h5, h6⟩ := back_high (c :: t) r _ h3 h2.2
        rw [hQ] at h5 h6
        rw [if_neg hv, if_neg hv, h5, h6, back_told n ((c :: t).drop (vw (c :: t))) r _ _ (by rw [List.length_drop, List.length_cons] at *; omega)]
        have hiff := hck _ ((c :: t).drop (vw (c :: t))) 0 (0 + vw (c :: t)) (Nat.le_refl _)
        have hlen : ((c :: t).flatMap quoteB).length = vw (c :: t) + (((c :: t).drop (vw (c :: t))).flatMap quoteB).length := by
          have e1 : (c :: t).flatMap quoteB ++ 34 :: r = (c :: t).take (vw (c :: t)) ++ (((c :: t).drop (vw (c :: t))).flatMap quoteB ++ 34 :: r) := by
            rw [← h5, ← h6, hQ, List.take_append_drop]
          have e2 := congrArg List.length e1
          rw [List.length_append, List.length_append, List.length_append, List.length_take] at e2
          omega
        by_cases hz : checkF ((c :: t).drop (vw (c :: t))) 0 = none
        · rw [if_pos hz, if_pos (hiff.1 hz), hlen, List.append_assoc, List.take_append_drop]
          congr 2
          omega
        · rw [if_neg hz, if_neg (fun e => hz (hiff.2 e))]
    · have hcl : c.toNat < 128 := by omega
      have hiff := hck _ t 0 1 (Nat.le_refl _)
      have hcs : checkF (c :: t) 0 = checkF t 1 := by
        rw [checkF_step, (dec_ascii (c :: t) (by simp) hcl).2]
        rfl
      have ih := fun acc p => back_told n t r acc p (by rw [List.length_cons] at h; omega)
      rw [hcs, List.flatMap_cons, List.append_assoc, List.length_append]
      obtain ⟨T, hT⟩ : ∃ T, t.flatMap quoteB ++ 34 :: r = T := ⟨_, rfl⟩
      rw [hT] at ih ⊢
      have fin : ∀ k, (quoteB c).length = k → unqF T (acc ++ [c]) (p + k) = if checkF t 1 = none then some (acc ++ c :: t, p + (k + (t.flatMap quoteB).length) + 1) else none := fun k hk => by
        rw [ih]
        by_cases hz : checkF t 0 = none
        · rw [if_pos hz, if_pos (hiff.1 hz)]
          congr 2
          · simp
          · omega
        · rw [if_neg hz, if_neg (fun e => hz (hiff.2 e))]
      by_cases hs : signB c = 0
      · by_cases h32 : c.toNat < 32
        · have hq : quoteB c = [92, 117, 48, 48, digB (c.toNat / 16), digB (c.toNat % 16)] := by
            unfold quoteB
            rw [if_neg (by rw [hs]; simp), if_pos (UInt8.lt_iff_toNat_lt.2 h32)]
          have hl := fin 6 (by rw [hq]; rfl)
          rw [hq]
          have hE : escL (92 :: 117 :: 48 :: 48 :: digB (c.toNat / 16) :: digB (c.toNat % 16) :: T) = some (c.toNat, 6) := by
            unfold escL unitL
            have := short_told ⟨c.toNat, h32⟩
            simp only at this
            simp only [List.getElem?_cons_succ, List.getElem?_cons_zero, Option.bind_some, show meantB 117 = none from by decide, this]
            rw [if_neg (by omega), if_pos (by omega)]
          show unqF (92 :: 117 :: 48 :: 48 :: digB (c.toNat / 16) :: digB (c.toNat % 16) :: T) acc p = _
          rw [unqF_step, hE]
          simp only [List.head?_cons, show ¬ (some (92 : UInt8) = some 34) from by decide, if_false, if_true]
          rw [encode_ascii c hcl]
          exact hl
        · have hq : quoteB c = [c] := by
            unfold quoteB
            rw [if_neg (by rw [hs]; simp), if_neg (fun e => h32 (UInt8.lt_iff_toNat_lt.1 e))]
          have hl := fin 1 (by rw [hq]; rfl)
          rw [hq]
          have hn34 : c ≠ 34 := fun e => by rw [e] at hs; exact absurd hs (by decide)
          have hn92 : c ≠ 92 := fun e => by rw [e] at hs; exact absurd hs (by decide)
          show unqF (c :: T) acc p = _
          rw [unqF_step, (dec_ascii (c :: T) (by simp) hcl).2]
          simp only [List.head?_cons, Option.some.injEq, hn34, hn92, if_false]
          rw [if_neg (show ¬ at4 (c :: T) 0 < 32 from h32), if_neg (by omega)]
          exact hl
      · obtain ⟨hm, _⟩ := sign_meant ⟨c.toNat, c.toNat_lt⟩ (by simpa using hs)
        simp only [UInt8.ofNat_toNat] at hm
        have hq : quoteB c = [92, signB c] := by
          unfold quoteB
          rw [if_pos hs]
        have hl := fin 2 (by rw [hq]; rfl)
        rw [hq]
        have hE : escL (92 :: signB c :: T) = some (c.toNat, 2) := by
          unfold escL
          simp only [List.getElem?_cons_succ, List.getElem?_cons_zero, Option.bind_some, hm]
        show unqF (92 :: signB c :: T) acc p = _
        rw [unqF_step, hE]
        simp only [List.head?_cons, show ¬ (some (92 : UInt8) = some 34) from by decide, if_false, if_true]
        rw [encode_ascii c hcl]
        exact hl
/-- There and back. -/
theorem unquote_quote (s r : List UInt8) : unquoteL (quoteL s ++ r) = if checkF s 0 = none then (s, (quoteL s).length) else ([], 0) := by
  unfold quoteL
  show (unqF (s.flatMap quoteB ++ [34] ++ r) [] 1).getD ([], 0) = _
  rw [List.append_assoc, show [34] ++ r = 34 :: r from rfl, back_told _ s r [] 1 (Nat.le_refl _)]
  split
  · rw [Option.getD_some, List.nil_append, List.length_cons, List.length_append]
    congr 1
    simp
    omega
  · rfl
end Go.Proofs.YtpibbokkdjjgeaaDoor

/-
  The law GlyphLess, walked: of two texts just one stands ahead, unless they are the same; what stands behind both changes nothing.
-/
namespace Go.Proofs.YtpibbokkdjjgeaaDoor
open Go.RowKit
set_option linter.unusedSimpArgs false
set_option linter.unusedVariables false
theorem cmp_self : ∀ a : List UInt8, Lib.compareBytes a a = 0
  | [] => rfl
  | a :: t => by
    rw [Lib.compareBytes, if_neg (by simp), if_neg (by simp), cmp_self t]
theorem cmp_tri : ∀ a b : List UInt8, (Lib.compareBytes a b < 0 ∧ ¬ Lib.compareBytes b a < 0 ∧ a ≠ b) ∨ (¬ Lib.compareBytes a b < 0 ∧ Lib.compareBytes b a < 0 ∧ a ≠ b) ∨ (¬ Lib.compareBytes a b < 0 ∧ ¬ Lib.compareBytes b a < 0 ∧ a = b)
  | [], [] => .inr (.inr ⟨by decide, by decide, rfl⟩)
  | [], b :: t => .inl ⟨by simp [Lib.compareBytes], by simp [Lib.compareBytes], by simp⟩
  | a :: s, [] => .inr (.inl ⟨by simp [Lib.compareBytes], by simp [Lib.compareBytes], by simp⟩)
  | a :: s, b :: t => by
    rw [Lib.compareBytes, Lib.compareBytes]
    rcases Nat.lt_trichotomy a.toNat b.toNat with h | h | h
    · have h1 : a < b := UInt8.lt_iff_toNat_lt.2 h
      have h2 : ¬ b < a := fun e => by have := UInt8.lt_iff_toNat_lt.1 e; omega
      rw [if_pos h1, if_neg h2, if_pos h1]
      exact .inl ⟨by decide, by decide, fun e => by have := (List.cons.inj e).1; subst this; omega⟩
    · have e : a = b := UInt8.toNat_inj.1 h
      subst e
      rw [if_neg (by simp), if_neg (by simp), if_neg (by simp), if_neg (by simp)]
      rcases cmp_tri s t with ⟨h1, h2, h3⟩ | ⟨h1, h2, h3⟩ | ⟨h1, h2, h3⟩
      · exact .inl ⟨h1, h2, fun e => h3 (List.cons.inj e).2⟩
      · exact .inr (.inl ⟨h1, h2, fun e => h3 (List.cons.inj e).2⟩)
      · exact .inr (.inr ⟨h1, h2, by rw [h3]⟩)
    · have h1 : b < a := UInt8.lt_iff_toNat_lt.2 h
      have h2 : ¬ a < b := fun e => by have := UInt8.lt_iff_toNat_lt.1 e; omega
      rw [if_neg h2, if_pos h1, if_pos h1]
      exact .inr (.inl ⟨by decide, by decide, fun e => by have := (List.cons.inj e).1; subst this; omega⟩)
theorem cmp_front : ∀ f a b : List UInt8, Lib.compareBytes (f ++ a) (f ++ b) = Lib.compareBytes a b
  | [], a, b => rfl
  | c :: f, a, b => by
    rw [List.cons_append, List.cons_append, Lib.compareBytes, if_neg (by simp), if_neg (by simp), cmp_front f a b]
theorem cmp_longer : ∀ (a : List UInt8) (c : UInt8) (t : List UInt8), Lib.compareBytes a (a ++ c :: t) = -1
  | [], c, t => rfl
  | a :: s, c, t => by
    rw [List.cons_append, Lib.compareBytes, if_neg (by simp), if_neg (by simp), cmp_longer s c t]
theorem runes_le : ∀ (n : Nat) (l : List UInt8), l.length ≤ n → runesF l ≤ l.length
  | 0, l, h => by
    have : l = [] := List.length_eq_zero_iff.1 (by omega)
    rw [this, runesF_step]
    exact Nat.le_refl _
  | n + 1, l, h => by
    rw [runesF_step]
    split
    · omega
    · rename_i hne
      have hw := dec_width l hne
      have := runes_le n (l.drop (dec l).2) (by rw [List.length_drop]; omega)
      rw [List.length_drop] at this
      omega
theorem app_data (x y : ByteArray) : (x ++ y).data.toList = x.data.toList ++ y.data.toList := by rw [ByteArray.data_append, Array.toList_append]
theorem below_trs {w w1 w2 : World} (h : Below w.heap.size w w1) (h2 : Below w1.heap.size w1 w2) : Below w.heap.size w w2 := h.trans (h2.mono h.size)
set_option maxRecDepth 100000 in
set_option maxHeartbeats 2000000 in
theorem glyphLess_walk (a0 : Option Addr) (len0 cap0 : Nat) (z0 : List Int) (a1 : Option Addr) (len1 cap1 : Nat) (z1 : List Int) (a2 : ByteArray) (W : World)
    (x0 : z0.length = len0) (y0 : RowAt W a0 (z0.map (.int .u8))) (u0 : ∀ z ∈ z0, (Lit.int .u8 z).wf = true) (b0 : len0 * 1 ≤ 140737488351232) (c0 : len0 ≤ cap0) (m0 : cap0 ≤ maxLen)
    (x1 : z1.length = len1) (y1 : RowAt W a1 (z1.map (.int .u8))) (u1 : ∀ z ∈ z1, (Lit.int .u8 z).wf = true) (b1 : len1 * 1 ≤ 140737488351232) (c1 : len1 ≤ cap1) (m1 : cap1 ≤ maxLen)
    (s2 : a2.size ≤ 140737488351232) (hT : Tabs W) :
    Calls Tryd.prog 7 #[.slice a0 len0 cap0, .slice a1 len1 cap1, .string a2] W fun e w' => e = .returned (.bool true) ∧ Below W.heap.size W w' := by
  subst x0 x1
  obtain ⟨A, hA, hcA⟩ := text_row y0 u0 b0 c0
  obtain ⟨B, hB, hcB⟩ := text_row y1 u1 b1 c1
  clear y0 u0 y1 u1 m0 m1 c0 c1 b0 b1
  have HCA := Lib.hid hcA; have HCB := Lib.hid hcB; have HT := Lib.hid hT
  clear hcA hcB hT
  have hk := fun w (hb : Below W.heap.size W w) => known_any w (HT.out.below hb)
  have HK := Lib.hid hk
  clear hk
  by_cases hbig : 50 < a2.size
  · go_enter Tryd.func7, Tryd.ntmps7
    go_wp2_with fail
    refine (HCA.out _ (Below.refl _ _)).mono ?_
    rintro e w1 ⟨rfl, hb1⟩
    have HB1 := Lib.hid hb1; clear hb1
    go_wp2_with fail
    refine (HCB.out _ HB1.out).mono ?_
    rintro e w2 ⟨rfl, hb2⟩
    have HB2 := Lib.hid (below_trs HB1.out hb2); clear hb2 HB1
    go_wp2_with fail
    refine (HK.out _ HB2.out).mono ?_
    rintro e w3 ⟨rfl, hb3⟩
    have HB3 := Lib.hid (below_trs HB2.out hb3); clear hb3 HB2
    go_wp2_with fail
    go_ret
    exact ⟨rfl, HB3.out⟩
  · have hab := fun w => less_any A B w
    have hba := fun w => less_any B A w
    have hfab := fun w => less_any (a2 ++ A) (a2 ++ B) w
    have haa := fun w => less_any A (A ++ ⟨#[97]⟩) w
    have hru := fun w => runes_any A (by omega) w
    have hrl := runes_le _ A.data.toList (Nat.le_refl _)
    rw [len_data] at hrl
    have htr := cmp_tri A.data.toList B.data.toList
    rw [show lessL (a2 ++ A).data.toList (a2 ++ B).data.toList = lessL A.data.toList B.data.toList from by unfold lessL; rw [app_data, app_data, cmp_front]] at hfab
    rw [show lessL A.data.toList (A ++ ⟨#[97]⟩).data.toList = true from by unfold lessL; rw [app_data, show (⟨#[97]⟩ : ByteArray).data.toList = [97] from rfl, cmp_longer]; rfl] at haa
    obtain ⟨v1, h1⟩ : ∃ v, lessL A.data.toList B.data.toList = v := ⟨_, rfl⟩
    obtain ⟨v2, h2⟩ : ∃ v, lessL B.data.toList A.data.toList = v := ⟨_, rfl⟩
    obtain ⟨v3, h3⟩ : ∃ v, (A.toList == B.toList) = v := ⟨_, rfl⟩
    obtain ⟨n, hn⟩ : ∃ n, runesF A.data.toList = n := ⟨_, rfl⟩
    rw [hn] at hru hrl
    have hv : (v1 = true ∧ v2 = false ∧ v3 = false) ∨ (v1 = false ∧ v2 = true ∧ v3 = false) ∨ (v1 = false ∧ v2 = false ∧ v3 = true) := by
      rw [← h1, ← h2, ← h3, ByteArray.toList_eq, ByteArray.toList_eq]
      unfold lessL
      rcases htr with ⟨g1, g2, g3⟩ | ⟨g1, g2, g3⟩ | ⟨g1, g2, g3⟩
      · exact .inl ⟨decide_eq_true g1, decide_eq_false g2, by simpa using g3⟩
      · exact .inr (.inl ⟨decide_eq_false g1, decide_eq_true g2, by simpa using g3⟩)
      · exact .inr (.inr ⟨decide_eq_false g1, decide_eq_false g2, by simpa using g3⟩)
    rw [h1] at hab hfab
    rw [h2] at hba
    have hne : (A.toList != B.toList) = !v3 := by rw [← h3]; rfl
    have hni : (n : Int) ≤ (A.size : Int) := by omega
    have HAB := Lib.hid hab; have HBA := Lib.hid hba; have HFAB := Lib.hid hfab; have HAA := Lib.hid haa; have HRU := Lib.hid hru
    clear hab hba hfab haa hru hrl htr h1 h2 hn
    rcases hv with ⟨rfl, rfl, rfl⟩ | ⟨rfl, rfl, rfl⟩ | ⟨rfl, rfl, rfl⟩
    all_goals
      have h4 : A.toList = B.toList ↔ (A.toList == B.toList) = true := by simp
      rw [h3] at h4
      simp only [Bool.false_eq_true, iff_false, iff_true] at h4
      go_enter Tryd.func7, Tryd.ntmps7
      go_wp2_with fail
      refine (HCA.out _ (Below.refl _ _)).mono ?_
      rintro e w1 ⟨rfl, hb1⟩
      have HB1 := Lib.hid hb1; clear hb1
      go_wp2_with fail
      refine (HCB.out _ HB1.out).mono ?_
      rintro e w2 ⟨rfl, hb2⟩
      have HB2 := Lib.hid (below_trs HB1.out hb2); clear hb2 HB1
      go_wp2_with fail
      refine (HAB.out _).mono ?_
      rintro e w3 ⟨rfl, hb3⟩
      have HB3 := Lib.hid (below_trs HB2.out hb3); clear hb3 HB2
      go_wp2_with fail
      refine (HBA.out _).mono ?_
      rintro e w4 ⟨rfl, hb4⟩
      have HB4 := Lib.hid (below_trs HB3.out hb4); clear hb4 HB3
      go_wp2_with fail
      refine (HK.out _ HB4.out).mono ?_
      rintro e w5 ⟨rfl, hb5⟩
      have HB5 := Lib.hid (below_trs HB4.out hb5); clear hb5 HB4
      go_wp2_with fail
      refine (HFAB.out _).mono ?_
      rintro e w6 ⟨rfl, hb6⟩
      have HB6 := Lib.hid (below_trs HB5.out hb6); clear hb6 HB5
      go_wp2_with fail
      refine (HAB.out _).mono ?_
      rintro e w7 ⟨rfl, hb7⟩
      have HB7 := Lib.hid (below_trs HB6.out hb7); clear hb7 HB6
      go_wp2_with fail
      refine (HAA.out _).mono ?_
      rintro e w8 ⟨rfl, hb8⟩
      have HB8 := Lib.hid (below_trs HB7.out hb8); clear hb8 HB7
      go_wp2_with fail
      refine (HRU.out _).mono ?_
      rintro e w9 ⟨rfl, hb9⟩
      have HB9 := Lib.hid (below_trs HB8.out hb9); clear hb9 HB8
      go_wp2_with fail
      go_ret
      exact ⟨rfl, HB9.out⟩
end Go.Proofs.YtpibbokkdjjgeaaDoor

/-
  The law GlyphBack, walked: there and back, whatever stands behind; of what is no UTF-8 there is no way back.
-/
namespace Go.Proofs.YtpibbokkdjjgeaaDoor
open Go.RowKit
set_option linter.unusedSimpArgs false
set_option linter.unusedVariables false
theorem quoteB_len : ∀ c : UInt8, 1 ≤ (quoteB c).length ∧ (quoteB c).length ≤ 6 := by
  intro c
  have h : ∀ n : Fin 256, 1 ≤ (quoteB (UInt8.ofNat n.val)).length ∧ (quoteB (UInt8.ofNat n.val)).length ≤ 6 := by decide +kernel
  have := h ⟨c.toNat, c.toNat_lt⟩
  simpa using this
theorem quote_len : ∀ s : List UInt8, s.length ≤ (s.flatMap quoteB).length ∧ (s.flatMap quoteB).length ≤ 6 * s.length
  | [] => ⟨Nat.le_refl _, Nat.le_refl _⟩
  | c :: t => by
    have h1 := quoteB_len c
    have h2 := quote_len t
    rw [List.flatMap_cons, List.length_append, List.length_cons]
    omega
theorem quoteL_len (s : List UInt8) : s.length + 2 ≤ (quoteL s).length ∧ (quoteL s).length ≤ 6 * s.length + 2 := by
  have h := quote_len s
  unfold quoteL
  rw [List.length_cons, List.length_append]
  simp only [List.length_cons, List.length_nil]
  omega
set_option maxRecDepth 100000 in
set_option maxHeartbeats 2000000 in
theorem glyphBack_walk (a0 : Option Addr) (len0 cap0 : Nat) (z0 : List Int) (a1 : ByteArray) (W : World)
    (x0 : z0.length = len0) (y0 : RowAt W a0 (z0.map (.int .u8))) (u0 : ∀ z ∈ z0, (Lit.int .u8 z).wf = true) (b0 : len0 * 1 ≤ 140737488351232) (c0 : len0 ≤ cap0) (m0 : cap0 ≤ maxLen)
    (s1 : a1.size ≤ 140737488351232) (hT : Tabs W) :
    Calls Tryd.prog 4 #[.slice a0 len0 cap0, .string a1] W fun e w' => e = .returned (.bool true) ∧ Below W.heap.size W w' := by
  subst x0
  obtain ⟨A, hA, hcA⟩ := text_row y0 u0 b0 c0
  clear y0 u0 m0 c0 b0
  have HCA := Lib.hid hcA; have HT := Lib.hid hT
  clear hcA hT
  have hk := fun w (hb : Below W.heap.size W w) => known_any w (HT.out.below hb)
  have HK := Lib.hid hk
  clear hk
  by_cases hbig : 100 < a1.size
  · go_enter Tryd.func4, Tryd.ntmps4
    go_wp2_with fail
    refine (HCA.out _ (Below.refl _ _)).mono ?_
    rintro e w1 ⟨rfl, hb1⟩
    have HB1 := Lib.hid hb1; clear hb1
    go_wp2_with fail
    refine (HK.out _ HB1.out).mono ?_
    rintro e w2 ⟨rfl, hb2⟩
    have HB2 := Lib.hid (below_trs HB1.out hb2); clear hb2 HB1
    go_wp2_with fail
    go_ret
    exact ⟨rfl, HB2.out⟩
  · have hql := quoteL_len A.data.toList
    rw [len_data] at hql
    have hqs := bsL_size (quoteL A.data.toList)
    have hqt : (bsL (quoteL A.data.toList)).data.toList = quoteL A.data.toList := bsL_toList _
    have hq := fun w => quote_any A (by omega) w
    have hun := unquote_quote A.data.toList a1.data.toList
    rw [← hqt, ← app_data, hqt] at hun
    have hck := fun w => check_any A (by omega) w
    obtain ⟨Q, hQ⟩ : ∃ Q, bsL (quoteL A.data.toList) = Q := ⟨_, rfl⟩
    rw [hQ] at hq hqs hun
    rw [← hqs] at hql hun
    have hu := fun w (hb : Below W.heap.size W w) => unquote_any (Q ++ a1) (by rw [ByteArray.size_append]; omega) w (HT.out.below hb)
    rw [hun] at hu
    clear hqs hqt hun hQ
    obtain ⟨R, hR⟩ : ∃ R, checkF A.data.toList 0 = R := ⟨_, rfl⟩
    rw [hR] at hck hu
    clear hR
    have HQ := Lib.hid hq
    clear hq
    have hq1 : (A.size : Int) + 2 ≤ (Q.size : Int) := by omega
    have hq2 : (Q.size : Int) ≤ 1000 := by omega
    have ha1 : (A.size : Int) ≤ 160 := by omega
    clear hql
    cases R with
    | none =>
      simp only [if_true, bsL_data] at hu
      have hck' : ∀ w, Calls Tryd.prog 17 #[.string A] w fun e w' => e = .returned (.int .i64 (-1)) ∧ Below w.heap.size w w' := hck
      have HU := Lib.hid hu; have HC := Lib.hid hck'
      clear hu hck hck'
      have h4 : A.toList = A.toList ↔ True := by simp
      go_enter Tryd.func4, Tryd.ntmps4
      go_wp2_with fail
      refine (HCA.out _ (Below.refl _ _)).mono ?_
      rintro e w1 ⟨rfl, hb1⟩
      have HB1 := Lib.hid hb1; clear hb1
      go_wp2_with fail
      refine (HQ.out _).mono ?_
      rintro e w2 ⟨rfl, hb2⟩
      have HB2 := Lib.hid (below_trs HB1.out hb2); clear hb2 HB1
      go_wp2_with fail
      refine (HU.out _ HB2.out).mono ?_
      rintro e w3 ⟨rfl, hb3⟩
      have HB3 := Lib.hid (below_trs HB2.out hb3); clear hb3 HB2
      go_wp2_with fail
      refine (HC.out _).mono ?_
      rintro e w4 ⟨rfl, hb4⟩
      have HB4 := Lib.hid (below_trs HB3.out hb4); clear hb4 HB3
      go_wp2_with fail
      refine (HK.out _ HB4.out).mono ?_
      rintro e w5 ⟨rfl, hb5⟩
      have HB5 := Lib.hid (below_trs HB4.out hb5); clear hb5 HB4
      go_wp2_with fail
      go_ret
      exact ⟨rfl, HB5.out⟩
    | some p =>
      have hu' : ∀ w, Below W.heap.size W w → Calls Tryd.prog 16 #[.string (Q ++ a1)] w fun e w' => e = .returned (.tuple #[.string ⟨#[]⟩, .int .i64 0]) ∧ Below w.heap.size w w' := hu
      have hck' : ∀ w, Calls Tryd.prog 17 #[.string A] w fun e w' => e = .returned (.int .i64 (p : Int)) ∧ Below w.heap.size w w' := hck
      have HU := Lib.hid hu'; have HC := Lib.hid hck'
      clear hu hck hck' hu'
      go_enter Tryd.func4, Tryd.ntmps4
      go_wp2_with fail
      refine (HCA.out _ (Below.refl _ _)).mono ?_
      rintro e w1 ⟨rfl, hb1⟩
      have HB1 := Lib.hid hb1; clear hb1
      go_wp2_with fail
      refine (HQ.out _).mono ?_
      rintro e w2 ⟨rfl, hb2⟩
      have HB2 := Lib.hid (below_trs HB1.out hb2); clear hb2 HB1
      go_wp2_with fail
      refine (HU.out _ HB2.out).mono ?_
      rintro e w3 ⟨rfl, hb3⟩
      have HB3 := Lib.hid (below_trs HB2.out hb3); clear hb3 HB2
      go_wp2_with fail
      refine (HC.out _).mono ?_
      rintro e w4 ⟨rfl, hb4⟩
      have HB4 := Lib.hid (below_trs HB3.out hb4); clear hb4 HB3
      go_wp2_with fail
      refine (HK.out _ HB4.out).mono ?_
      rintro e w5 ⟨rfl, hb5⟩
      have HB5 := Lib.hid (below_trs HB4.out hb5); clear hb5 HB4
      go_wp2_with fail
      go_ret
      exact ⟨rfl, HB5.out⟩
end Go.Proofs.YtpibbokkdjjgeaaDoor

/-
  Plain signs: nothing of them is turned between quotes.
-/
namespace Go.Proofs.YtpibbokkdjjgeaaDoor
open Go.RowKit Go.Lib
set_option linter.unusedSimpArgs false
set_option linter.unusedVariables false
/-- What GlyphPlain makes of a choice. -/
def plainK (n : Nat) : Nat := if 32 + n % 95 = 34 ∨ 32 + n % 95 = 92 then 120 else 32 + n % 95
theorem plain_quote : ∀ n : Fin 256, quoteB (UInt8.ofNat (plainK n.val)) = [UInt8.ofNat (plainK n.val)] := by decide +kernel
theorem plain_low (n : Nat) : plainK n < 128 := by unfold plainK; split <;> omega
theorem plain_quoteL : ∀ l : List Nat, (∀ n ∈ l, n < 256) → (l.map fun n => UInt8.ofNat (plainK n)).flatMap quoteB = l.map fun n => UInt8.ofNat (plainK n)
  | [], _ => rfl
  | n :: t, h => by
    rw [List.map_cons, List.flatMap_cons, plain_quote ⟨n, h n (by simp)⟩, plain_quoteL t fun x hx => h x (by simp [hx])]
    rfl
theorem plain_check : ∀ (l : List Nat) (p : Nat), checkF (l.map fun n => UInt8.ofNat (plainK n)) p = none
  | [], p => by rw [List.map_nil, checkF_step]; simp [vw]
  | n :: t, p => by
    have hl := plain_low n
    have hc : (UInt8.ofNat (plainK n)).toNat < 128 := by rw [UInt8.toNat_ofNat']; omega
    rw [List.map_cons, checkF_step, (dec_ascii (UInt8.ofNat (plainK n) :: t.map fun n => UInt8.ofNat (plainK n)) (by simp) hc).2]
    exact plain_check t _
theorem plain_runes : ∀ (l : List Nat), runesF (l.map fun n => UInt8.ofNat (plainK n)) = l.length
  | [] => by rw [List.map_nil, runesF_step]; rfl
  | n :: t => by
    have hl := plain_low n
    have hc : (UInt8.ofNat (plainK n)).toNat < 128 := by rw [UInt8.toNat_ofNat']; omega
    have hd := dec_ascii (UInt8.ofNat (plainK n) :: t.map fun n => UInt8.ofNat (plainK n)) (by simp) hc
    have hw : (dec (UInt8.ofNat (plainK n) :: t.map fun n => UInt8.ofNat (plainK n))).2 = 1 := by
      have h1 := hd.2
      have := vw_pos (l := UInt8.ofNat (plainK n) :: t.map fun n => UInt8.ofNat (plainK n)) (by rw [h1]; omega)
      rw [← this.2.2, h1]
    rw [List.map_cons, runesF_step, if_neg (by simp), hw, List.drop_succ_cons, List.drop_zero, plain_runes t, List.length_cons]
    omega
theorem plain_told (l : List Nat) (h : ∀ n ∈ l, n < 256) : unquoteL (34 :: ((l.map fun n => UInt8.ofNat (plainK n)) ++ [34])) = (l.map (fun n => UInt8.ofNat (plainK n)), l.length + 2) := by
  have := unquote_quote (l.map fun n => UInt8.ofNat (plainK n)) []
  unfold quoteL at this
  rw [List.append_nil, plain_quoteL l h, plain_check, if_pos rfl] at this
  rw [this]
  simp
end Go.Proofs.YtpibbokkdjjgeaaDoor

/-
  The law GlyphPlain, walked: of plain signs alone nothing is turned.
-/
namespace Go.Proofs.YtpibbokkdjjgeaaDoor
open Go.RowKit
set_option linter.unusedSimpArgs false
set_option linter.unusedVariables false
def pS (l : List Nat) (j : Nat) : ByteArray := bsL ((l.take j).map fun n => UInt8.ofNat (plainK n))
theorem pS_zero (l : List Nat) : pS l 0 = ⟨#[]⟩ := rfl
theorem pS_succ (l : List Nat) (j : Nat) (h : j < l.length) (b : Nat) (hb : l[j] = b) : pS l j ++ bsL [UInt8.ofNat (plainK b)] = pS l (j + 1) := by
  unfold pS
  rw [List.take_succ_eq_append_getElem h, List.map_append, hb]
  apply ByteArray.ext
  apply Array.toList_inj.mp
  rw [app_data, bsL_toList, bsL_toList, bsL_toList]
  rfl
theorem pS_size (l : List Nat) (j : Nat) (h : j ≤ l.length) : (pS l j).size = j := by
  unfold pS
  rw [bsL_size, List.length_map, List.length_take]
  omega
theorem one_conv (w : World) (b : Nat) (v : Int) (hv : v = (plainK b : Int)) : (convert 22 9 (.slice (some ⟨w.heap.size, 0, none⟩) 1 1)).run Tryd.prog (w.alloc (.cells #[.int .u8 v] 5)) = .ok (.string (bsL [UInt8.ofNat (plainK b)])) (w.alloc (.cells #[.int .u8 v] 5)) := by
  have hS : (bsL [UInt8.ofNat (plainK b)]).size = 1 := rfl
  have h := Lib.run_convert_whole (P := Tryd.prog) (w.alloc (.cells #[.int .u8 v] 5)) 22 5 9 Tryd.underlying22 Tryd.underlying5 Tryd.underlying9 w.heap.size 0 (bsL [UInt8.ofNat (plainK b)]) (by
    subst hv
    intro i hi
    have e : i = 0 := by omega
    subst e
    have hl := plain_low b
    have h2 : (((bsL [UInt8.ofNat (plainK b)])[0]'hi).toNat : Int) = (plainK b : Int) := by
      show ((UInt8.ofNat (plainK b)).toNat : Int) = _
      rw [UInt8.toNat_ofNat']
      omega
    rw [h2]
    exact (World.cell?_alloc_mark w #[.int .u8 (plainK b : Int)] 5 (0, 0) 0).trans rfl) 1
  rw [hS] at h
  exact h
set_option maxRecDepth 100000 in
set_option maxHeartbeats 2000000 in
theorem glyphPlain_walk (a0 : Option Addr) (len0 cap0 : Nat) (z0 : List Int) (W : World)
    (x0 : z0.length = len0) (y0 : RowAt W a0 (z0.map (.int .u8))) (u0 : ∀ z ∈ z0, (Lit.int .u8 z).wf = true) (b0 : len0 * 1 ≤ 140737488351232) (c0 : len0 ≤ cap0) (m0 : cap0 ≤ maxLen) (hT : Tabs W) :
    Calls Tryd.prog 8 #[.slice a0 len0 cap0] W fun e w' => e = .returned (.bool true) ∧ Below W.heap.size W w' := by
  obtain ⟨l, hl⟩ : ∃ l : List Nat, z0.map Int.toNat = l := ⟨_, rfl⟩
  have hll : l.length = len0 := by rw [← hl, List.length_map, x0]
  have hlz : ∀ (k : Nat) (h : k < l.length) (h2 : k < z0.length), z0[k]'h2 = ((l[k]'h : Nat) : Int) ∧ l[k]'h < 256 := by
    intro k h h2
    have := u8_range (u0 _ (List.getElem_mem h2))
    subst hl
    rw [List.getElem_map]
    omega
  have hl256 : ∀ n ∈ l, n < 256 := by
    intro n hn
    obtain ⟨k, hk, rfl⟩ := List.getElem_of_mem hn
    exact (hlz k hk (by omega)).2
  have hk := fun w (hb : Below W.heap.size W w) => known_any w (hT.below hb)
  have HK := Lib.hid hk; have HT := Lib.hid hT; have HL := Lib.hid hll; have HZ := Lib.hid hlz; have H256 := Lib.hid hl256; have HY := Lib.hid y0; have HX := Lib.hid x0
  clear hk hT hlz hl256 u0 hl y0 hll x0 m0
  have hlen : (len0 : Int) ≤ 140737488351232 := by omega
  go_enter Tryd.func8, Tryd.ntmps8
  go_wp2_with fail
  go_loopw [3, 4] (fun s i wr => ∃ j : Nat, j ≤ len0 ∧ j ≤ 60 ∧ i = .int .i64 j ∧ s = .string (pS l j) ∧ Below W.heap.size W wr) (fun _ i _ => 60 - (intOf i).toNat)
  case atStart => exact ⟨0, Nat.zero_le _, Nat.zero_le _, rfl, rfl, Below.refl _ _⟩
  case round =>
    obtain ⟨j, hj, hj60, rfl, rfl, hb⟩ := hrel
    have HB := Lib.hid hb
    clear hb
    have hk0 : (0 : Int) ≤ (j : Int) := by omega
    have hSs := pS_size l j (by rw [HL.out]; exact hj)
    by_cases hcont : j < len0 ∧ j < 60
    · have hjl : j < l.length := by rw [HL.out]; exact hcont.1
      obtain ⟨b, eb⟩ : ∃ b, l[j] = b := ⟨_, rfl⟩
      obtain ⟨hz1, hz2⟩ := HZ.out j hjl (by rw [HX.out]; exact hcont.1)
      rw [eb] at hz1 hz2
      obtain ⟨bb, oo, rfl, hbl, hc⟩ := HY.out (by rw [List.length_map, HX.out]; omega)
      have hcell : wr.cell? ⟨bb, oo + j, none⟩ = some (.int .u8 (b : Int)) := by
        rw [HB.out.cell (p := ⟨bb, oo + j, none⟩) hbl, hc j (by rw [List.length_map, HX.out]; exact hcont.1), List.getElem_map, hz1]
      obtain ⟨m, hm, em⟩ : ∃ m : Nat, m ≤ 94 ∧ b % 95 = m := ⟨b % 95, by omega, rfl⟩
      have hmod : Int.tmod (b : Int) 95 = (m : Int) := by rw [← em]; rfl
      have hsu := pS_succ l j hjl b eb
      have hkc := one_conv wr b
      obtain ⟨P, hP⟩ : ∃ P, bsL [UInt8.ofNat (plainK b)] = P := ⟨_, rfl⟩
      have hPs : P.size = 1 := by rw [← hP]; rfl
      rw [hP] at hsu hkc
      obtain ⟨S, hS⟩ : ∃ S, pS l j = S := ⟨_, rfl⟩
      rw [hS] at hsu hSs ⊢
      have HSU := Lib.hid hsu
      have hji : (j : Int) < (len0 : Int) := by omega
      have hjn : (j < len0) = True := eq_true hcont.1
      have hj6 : (j : Int) < 60 := by omega
      have hb2 : (b : Int) ≤ 255 := by omega
      have hb3 : (0 : Int) ≤ (b : Int) := by omega
      have hm2 : (m : Int) ≤ 94 := by omega
      have hcl : (m = 2 ∧ plainK b = 120) ∨ (m = 60 ∧ plainK b = 120) ∨ (m ≠ 2 ∧ m ≠ 60 ∧ plainK b = 32 + m) := by
        unfold plainK
        rw [em]
        by_cases h1 : m = 2
        · subst h1; exact .inl ⟨rfl, rfl⟩
        · by_cases h2 : m = 60
          · subst h2; exact .inr (.inl ⟨rfl, rfl⟩)
          · exact .inr (.inr ⟨h1, h2, if_neg (by omega)⟩)
      have HCO := Lib.hid hcont
      clear hz1 hz2 hc hbl eb hP hS hsu hm em hjl hcont
      rcases hcl with ⟨rfl, hK⟩ | ⟨rfl, hK⟩ | ⟨h1, h2, hK⟩
      · rw [hK] at hkc
        have kc := hkc 120 rfl
        replace hmod : Int.tmod (b : Int) 95 = 2 := hmod
        clear hkc hK hm2
        go_wp2_with fail
        go_roundw
        case rel => exact ⟨j + 1, HCO.out.1, HCO.out.2, by first | rfl | (congr 1; omega), by rw [HSU.out], HB.out.alloc HB.out.size _⟩
        case measure =>
          show 60 - ((j : Int) + 1).toNat < 60 - (j : Int).toNat
          omega
      · rw [hK] at hkc
        have kc := hkc 120 rfl
        replace hmod : Int.tmod (b : Int) 95 = 60 := hmod
        clear hkc hK hm2
        go_wp2_with fail
        go_roundw
        case rel => exact ⟨j + 1, HCO.out.1, HCO.out.2, by first | rfl | (congr 1; omega), by rw [HSU.out], HB.out.alloc HB.out.size _⟩
        case measure =>
          show 60 - ((j : Int) + 1).toNat < 60 - (j : Int).toNat
          omega
      · rw [hK] at hkc
        have kc := hkc (32 + (m : Int)) (by omega)
        have g2 : ((32 + (m : Int)) == 34) = false := beq_eq_false_iff_ne.2 (by omega)
        have g3 : ((32 + (m : Int)) == 92) = false := beq_eq_false_iff_ne.2 (by omega)
        clear hkc hK
        go_wp2_with fail
        go_roundw
        case rel => exact ⟨j + 1, HCO.out.1, HCO.out.2, by first | rfl | (congr 1; omega), by rw [HSU.out], HB.out.alloc HB.out.size _⟩
        case measure =>
          show 60 - ((j : Int) + 1).toNat < 60 - (j : Int).toNat
          omega
    · have htl : (l.take j).length = j := by rw [List.length_take, HL.out]; omega
      have ht : ∀ n ∈ l.take j, n < 256 := fun n hn => H256.out n (List.mem_of_mem_take hn)
      have hSd : (pS l j).data.toList = (l.take j).map fun n => UInt8.ofNat (plainK n) := bsL_toList _
      have hD : ((⟨#[34]⟩ : ByteArray) ++ pS l j ++ ⟨#[34]⟩).data.toList = 34 :: (((l.take j).map fun n => UInt8.ofNat (plainK n)) ++ [34]) := by
        rw [app_data, app_data, hSd]; rfl
      have hu := fun w (hb : Below W.heap.size W w) => unquote_any ((⟨#[34]⟩ : ByteArray) ++ pS l j ++ ⟨#[34]⟩) (by rw [ByteArray.size_append, ByteArray.size_append, hSs, show (⟨#[34]⟩ : ByteArray).size = 1 from rfl]; omega) w (HT.out.below hb)
      have hval : unquoteL ((⟨#[34]⟩ : ByteArray) ++ pS l j ++ ⟨#[34]⟩).data.toList = ((l.take j).map (fun n => UInt8.ofNat (plainK n)), j + 2) := by rw [hD, plain_told _ ht, htl]
      rw [hval] at hu
      simp only [] at hu
      have hpS : bsL ((l.take j).map fun n => UInt8.ofNat (plainK n)) = pS l j := rfl
      rw [hpS] at hu
      have hq := fun w => quote_any (pS l j) (by omega) w
      have hQ : bsL (quoteL (pS l j).data.toList) = (⟨#[34]⟩ : ByteArray) ++ pS l j ++ ⟨#[34]⟩ := by
        apply ByteArray.ext
        apply Array.toList_inj.mp
        rw [hD, bsL_toList, hSd]
        unfold quoteL
        rw [plain_quoteL _ ht]
      rw [hQ] at hq
      have hck : ∀ w, Calls Tryd.prog 17 #[.string (pS l j)] w fun e w' => e = .returned (.int .i64 (-1)) ∧ Below w.heap.size w w' := by
        intro w
        have h := check_any (pS l j) (by omega) w
        rw [hSd, plain_check] at h
        exact h
      have hru := fun w => runes_any (pS l j) (by omega) w
      rw [hSd, plain_runes, htl] at hru
      rw [show ((j + 2 : Nat) : Int) = (j : Int) + 2 from by omega] at hu
      clear hSd hD hQ htl ht hval hpS
      obtain ⟨S, hS⟩ : ∃ S, pS l j = S := ⟨_, rfl⟩
      simp only [hS] at hu hq hck hru hSs ⊢
      have HU := Lib.hid hu; have HQ := Lib.hid hq; have HC := Lib.hid hck; have HR := Lib.hid hru
      clear hu hq hck hru hS
      have hj6 : (j : Int) ≤ 60 := by omega
      have hcase : (¬ j < len0) ∨ j < len0 ∧ ((j : Int) < 60) = False := by
        by_cases h1 : j < len0
        · exact .inr ⟨h1, eq_false (by omega)⟩
        · exact .inl h1
      clear hcont hk0
      rcases hcase with t1 | ⟨t1, t2⟩
      all_goals
        go_wp2_with fail
        refine (HU.out _ HB.out).mono ?_
        rintro e w1 ⟨rfl, hb1⟩
        have HB1 := Lib.hid (below_trs HB.out hb1); clear hb1 HB
        go_wp2_with fail
        refine (HK.out _ HB1.out).mono ?_
        rintro e w2 ⟨rfl, hb2⟩
        have HB2 := Lib.hid (below_trs HB1.out hb2); clear hb2 HB1
        go_wp2_with fail
        refine (HQ.out _).mono ?_
        rintro e w3 ⟨rfl, hb3⟩
        have HB3 := Lib.hid (below_trs HB2.out hb3); clear hb3 HB2
        go_wp2_with fail
        refine (HC.out _).mono ?_
        rintro e w4 ⟨rfl, hb4⟩
        have HB4 := Lib.hid (below_trs HB3.out hb4); clear hb4 HB3
        go_wp2_with fail
        refine (HR.out _).mono ?_
        rintro e w5 ⟨rfl, hb5⟩
        have HB5 := Lib.hid (below_trs HB4.out hb5); clear hb5 HB4
        go_wp2_with fail
        go_ret
        exact ⟨rfl, HB5.out⟩
end Go.Proofs.YtpibbokkdjjgeaaDoor

/-
  The row of the law GlyphPlain: whatever the input, it answers true and leaves its arguments as they were; out of its walk.
-/
namespace Go.Proofs.YtpibbokkdjjgeaaDoor.glyphPlain
open Go.ChangeShapes Go.WideShapes Go.ChangeAt Go.RowKit
open Go.ChangeMaps (open_string shut_string)
theorem own : ownKnob Tryd.prog.godebug = none := by kernel_rfl
theorem laidOut : laidOutB Tryd.prog = true := by kernel_rfl
set_option maxRecDepth 100000 in
theorem lifted (os : Os) (started : os.Started) (H : Type) (enc : TypeId × Value → H) :
    ReturnsInHanded {} Tryd.checked os 8 .any (fun w args => (Rows.glyphPlainSpec.pre enc Tryd.prog Tryd.f8 Rows.glyphPlainRow.domain false w args ∧ laidMetH Tryd.prog Rows.glyphPlainRow.laid w) ∧ sizedMet enc Tryd.prog Tryd.f8 (OpenSpec.ofChange Rows.glyphPlainSpec) false w args)
      (Rows.glyphPlainSpec.post enc Tryd.prog Tryd.f8 false true false false) := by
  refine returnsInHanded_of_change_and (C := Tryd.checked) (X := fun w _ => laidMetH Tryd.prog Rows.glyphPlainRow.laid w) (fun _ _ _ hh h => h.of_heap hh) own started (by kernel_rfl) Tryd.func8
    (ChangeSpec.witness_shaped (enc := enc) (C := Tryd.checked) (os := os) (X := fun w _ => laidMetH Tryd.prog Rows.glyphPlainRow.laid w) false (World.laidAll Tryd.prog os Rows.glyphPlainRow.laid) #[.slice none 0 0] 8 (World.laidAll_os _ _ _)
      (World.shaped_of_ZipB (by kernel_rfl) (by kernel_rfl)) (by kernel_rfl) (by kernel_rfl) (by kernel_rfl)
      (by rw [MakeChecks.laidMetH_plain _ _ _ (by kernel_rfl)]; exact laidMet_laidAll _ (by kernel_rfl) (by kernel_rfl))) ?_
  intro W base args ds gs before hval0 hW _ hsz0 hL _
  have hsz : (DataW.weightsEach Tryd.prog (Tryd.f8.params.toList ++ Rows.glyphPlainSpec.plain.varTypes Tryd.prog) (ds ++ gs)).all (· ≤ reachBytes) = true := hsz0
  have hval : ∀ (j : Nat) t v, Tryd.f8.params[j]? = some t → args[j]? = some v → Value.okWide Tryd.prog W .any base t v := hval0
  have hW' := hW
  obtain ⟨p, q, hA0, hV, rfl, hfz, hnd⟩ := hW
  have hA : DataW.TrodAll enc Tryd.prog W 0 (fun _ => true) true Tryd.f8.params.toList args.toList ds p := hA0
  rw [Tryd.params8] at hA hval hsz
  obtain ⟨v0, vs0, d0, ds0, p0, q0, hargs, rfl, rfl, h0, r0⟩ := trodAll_cons hA
  obtain ⟨rfl, rfl, rfl⟩ := trodAll_nil r0
  obtain rfl : args = #[v0] := by cases args; simp_all
  obtain ⟨rfl, rfl⟩ := trodVars_none hV
  obtain ⟨a0, len0, cap0, rfl⟩ := okWide_slice Tryd.underlying22 (hval 0 22 v0 rfl rfl)
  have k0 := h0
  have lt0 : ∀ x ∈ p0, x.block < W.heap.size := by obtain ⟨m, hm⟩ := k0; exact DataW.trod_lt m _ _ _ hm
  obtain ⟨z0, x0, y0, u0, b0, c0, m0⟩ := open_nums hsz (j := 0) (t := 22) rfl rfl Tryd.underlying22 Tryd.underlying5 (by kernel_rfl) (B := 1) (by kernel_rfl) h0
  have hLF := tabs_laid hL
  refine (glyphPlain_walk a0 len0 cap0 z0 W x0 y0 u0 b0 c0 m0 hLF).mono fun e W' ⟨he, bel⟩ => ?_
  subst he
  exact ⟨_, rfl, _, _, _, [], _, [], hW', trodAll_mk1 (shut_bool Tryd.underlying4 _), (trodAll_cons_mk (Below.trod laidOut (by kernel_rfl) (of_decide_eq_true (by kernel_rfl)) k0 bel lt0) trodAll_mk0), rfl, bel.frame _, fun h => by cases h⟩
theorem over : Rows.glyphPlainRow.holds Tryd.pinned (OpenSpec.ofChange Rows.glyphPlainSpec) :=
  OpenClaim.holds_of_wide 8 Tryd.f8 rfl rfl rfl rfl rfl rfl rfl ⟨rfl, rfl, rfl, rfl, rfl⟩ rfl rfl rfl rfl rfl (by kernel_rfl) Tryd.func8 (by kernel_rfl)
    (of_decide_eq_true (by kernel_rfl)) (by unfold Func.isWrapper; first | (rw [if_pos (by decide +kernel)]; kernel_rfl) | (rw [if_neg (by decide +kernel)]; exact ⟨rfl, rfl⟩))
    (fun os started H enc _ => lifted os started H enc)
theorem card : Rows.GlyphPlainCardSaid :=
  Claim7.holds_tied_plain_at .later [] [.data, .pinned, .pinned] true (true, "8997b7ca5b9aadf95f02a1b32bf30f586cd5774f65f73148a006a57d44064d5a") false over (fun _ h => by cases h) (by kernel_rfl) (fun _ h => by cases h) glyphPlain_row_tie rfl ⟨rfl, rfl⟩ (by kernel_rfl) rfl
    (fun f fn hf hfn => by
      obtain rfl : f = 8 := Option.some.inj ((show Tryd.prog.funcNamed "heliast/heliastlaw01.GlyphPlain" = some 8 by kernel_rfl).symm.trans hf) |>.symm
      obtain rfl : fn = Tryd.f8 := (Option.some.inj (Tryd.func8.symm.trans hfn)).symm
      exact ⟨by kernel_rfl, fun j t ht => by
        rw [Tryd.params8] at ht
        have hm : t ∈ [22] := by simpa using Array.mem_of_getElem? ht
        have hall : ([22].all fun u => !Tryd.prog.wantsStandIn u) = true := by kernel_rfl
        exact (show Tryd.prog.wantsStandIn t = false by simpa using List.all_eq_true.1 hall t hm)⟩)
    (by kernel_rfl)
end Go.Proofs.YtpibbokkdjjgeaaDoor.glyphPlain
namespace Go.Proofs.YtpibbokkdjjgeaaDoor
/-- The row, under a short name. -/
theorem glyphPlain_holds : Rows.GlyphPlainCardSaid := glyphPlain.card
#print axioms glyphPlain_holds
end Go.Proofs.YtpibbokkdjjgeaaDoor

