/-
  Texts of this session, merged in build order: GDec, GLLess, GLBack, GLShort, RGlyphShort.
-/
import Derived.Test.YtpibbokkdjjgeaaDoorZC0
import Derived.Lib.SlBytesRow
import Derived.Test.YtpibbokkdjjgeaaDoorRows
import Derived.Test.YtpibbokkdjjgeaaDoorCards
import Derived.Test.YtpibbokkdjjgeaaDoorTie
import Derived.LaidMore
import Derived.Lay
import Derived.SevenTiedAt
import Derived.Stop.Joined
set_option linter.unusedVariables false
set_option linter.unusedSimpArgs false
/-
  The decoder, plain: what stands behind a rune changes nothing of it; what is quoted is told again.
-/
namespace Go.Proofs.YtpibbokkdjjgeaaDoor
open Go.RowKit Go.Lib
set_option linter.unusedSimpArgs false
set_option linter.unusedVariables false
theorem decodeN_enc2 (n r x y : Nat) (hn : 1 < n) (h0 : 128 ≤ r) (h1 : r ≤ 2047) : decodeN n (192 + r / 64) (128 + r % 64) x y = (r, 2) := by
  unfold decodeN
  rw [if_neg (by omega), if_pos (by omega)]
  have e : (192 + r / 64) % 32 * 64 + (128 + r % 64) % 64 = r := by omega
  rw [e, if_pos (by omega)]
theorem decodeN_enc3 (n r y : Nat) (hn : 2 < n) (h0 : 2048 ≤ r) (h1 : r ≤ 65535) (h2 : r < 55296 ∨ 57343 < r) : decodeN n (224 + r / 4096) (128 + r / 64 % 64) (128 + r % 64) y = (r, 3) := by
  unfold decodeN
  rw [if_neg (by omega), if_neg (by omega), if_pos (by omega)]
  have e : (224 + r / 4096) % 16 * 4096 + (128 + r / 64 % 64) % 64 * 64 + (128 + r % 64) % 64 = r := by omega
  rw [e, if_pos (by omega)]
theorem decodeN_enc4 (n r : Nat) (hn : 3 < n) (h0 : 65536 ≤ r) (h1 : r ≤ 1114111) : decodeN n (240 + r / 262144) (128 + r / 4096 % 64) (128 + r / 64 % 64) (128 + r % 64) = (r, 4) := by
  unfold decodeN
  rw [if_neg (by omega), if_neg (by omega), if_neg (by omega), if_pos (by omega)]
  have e : (240 + r / 262144) % 8 * 262144 + (128 + r / 4096 % 64) % 64 * 4096 + (128 + r / 64 % 64) % 64 * 64 + (128 + r % 64) % 64 = r := by omega
  rw [e, if_pos (by omega)]
theorem at4_app (a s : List UInt8) (i : Nat) (h : i < a.length) : at4 (a ++ s) i = at4 a i := by
  unfold at4
  rw [List.getD_eq_getElem?_getD, List.getElem?_append_left h, ← List.getD_eq_getElem?_getD]
/-- What stands behind a rune changes nothing of it. -/
theorem dec_same (a b : List UInt8) (hv : vw a ≠ 0) (hl : vw a ≤ b.length) (hb : ∀ i, i < vw a → at4 b i = at4 a i) : dec b = dec a ∧ vw b = vw a := by
  obtain ⟨hne, hd, hw⟩ := vw_pos hv
  have key : dec b = dec a := by
    have ht := decodeN_told a.length (at4 a 0) (at4 a 1) (at4 a 2) (at4 a 3) (at4_lt _ _) (at4_lt _ _) (at4_lt _ _) (at4_lt _ _) hd
    have hwd : (decodeN a.length (at4 a 0) (at4 a 1) (at4 a 2) (at4 a 3)).2 = vw a := hw.symm
    have hda : dec a = ((decodeN a.length (at4 a 0) (at4 a 1) (at4 a 2) (at4 a 3)).1, vw a) := by
      rw [← hwd]
      rfl
    rw [hda]
    obtain ⟨r, hr⟩ : ∃ r, (decodeN a.length (at4 a 0) (at4 a 1) (at4 a 2) (at4 a 3)).1 = r := ⟨_, rfl⟩
    rw [hr, hwd] at ht
    rw [hr]
    unfold dec
    rcases ht with ⟨w, h1, h2⟩ | ⟨w, h1, h2, h3, h4, h5⟩ | ⟨w, h1, h2, h3, h4, h5, h6, h7⟩ | ⟨w, h1, h2, h3, h4, h5, h6, h7⟩
    · rw [w] at hb ⊢
      rw [hb 0 (by omega)]
      unfold decodeN
      rw [if_pos h1, h2]
    · rw [w] at hb hl ⊢
      rw [hb 0 (by omega), hb 1 (by omega), h4, h5]
      exact decodeN_enc2 _ _ _ _ (by omega) h2 h3
    · rw [w] at hb hl ⊢
      rw [hb 0 (by omega), hb 1 (by omega), hb 2 (by omega), h5, h6, h7]
      exact decodeN_enc3 _ _ _ (by omega) h2 h4 h3
    · rw [w] at hb hl ⊢
      rw [hb 0 (by omega), hb 1 (by omega), hb 2 (by omega), hb 3 (by omega), h4, h5, h6, h7]
      exact decodeN_enc4 _ _ (by omega) h2 h3
  refine ⟨key, ?_⟩
  have hbn : b ≠ [] := fun e => by rw [e] at hl; simp at hl; exact hv hl
  have : vw b = (dec b).2 := by
    unfold vw
    rw [if_neg]
    rintro (h | h)
    · exact hbn h
    · rw [key] at h; exact hd h
  rw [this, key, ← hw]
theorem dec_append (a s : List UInt8) (hv : vw a ≠ 0) : dec (a ++ s) = dec a ∧ vw (a ++ s) = vw a := by
  have h := (vw_le a).1
  exact dec_same a (a ++ s) hv (by rw [List.length_append]; omega) fun i hi => at4_app a s i (by omega)
/-- The bytes of a rune that is no ASCII are none of it. -/
theorem vw_high (a : List UInt8) (hv : vw a ≠ 0) (h0 : 128 ≤ at4 a 0) : 2 ≤ vw a ∧ ∀ i, i < vw a → 128 ≤ at4 a i := by
  obtain ⟨hne, hd, hw⟩ := vw_pos hv
  have ht := decodeN_told a.length (at4 a 0) (at4 a 1) (at4 a 2) (at4 a 3) (at4_lt _ _) (at4_lt _ _) (at4_lt _ _) (at4_lt _ _) hd
  have hwd : (decodeN a.length (at4 a 0) (at4 a 1) (at4 a 2) (at4 a 3)).2 = vw a := hw.symm
  rw [hwd] at ht
  have hcase : ∀ i, i < vw a → i = 0 ∨ i = 1 ∨ i = 2 ∨ i = 3 := fun i hi => by have := (vw_le a).2; omega
  rcases ht with ⟨w, h1, h2⟩ | ⟨w, h1, h2, h3, h4, h5⟩ | ⟨w, h1, h2, h3, h4, h5, h6, h7⟩ | ⟨w, h1, h2, h3, h4, h5, h6, h7⟩
  · omega
  · refine ⟨by omega, fun i hi => ?_⟩
    rcases hcase i hi with rfl | rfl | rfl | rfl <;> omega
  · refine ⟨by omega, fun i hi => ?_⟩
    rcases hcase i hi with rfl | rfl | rfl | rfl <;> omega
  · refine ⟨by omega, fun i hi => ?_⟩
    rcases hcase i hi with rfl | rfl | rfl | rfl <;> omega
theorem check_app : ∀ (n : Nat) (a s : List UInt8) (p : Nat), a.length ≤ n → checkF a p = none → checkF (a ++ s) p = checkF s (p + a.length)
  | 0, a, s, p, h, _ => by
    have : a = [] := List.length_eq_zero_iff.1 (by omega)
    rw [this]
    rfl
  | n + 1, a, s, p, h, hc => by
    by_cases hne : a = []
    · rw [hne]; rfl
    · rw [checkF_step] at hc
      by_cases hv : vw a = 0
      · rw [if_pos hv, if_neg hne] at hc
        cases hc
      · rw [if_neg hv] at hc
        have hle := (vw_le a).1
        have ih := check_app n (a.drop (vw a)) s (p + vw a) (by rw [List.length_drop]; omega) hc
        rw [checkF_step, (dec_append a s hv).2, if_neg hv, List.drop_append_of_le_length hle, ih, List.length_drop]
        congr 1
        omega
theorem runes_app : ∀ (n : Nat) (a s : List UInt8) (p : Nat), a.length ≤ n → checkF a p = none → runesF (a ++ s) = runesF a + runesF s
  | 0, a, s, p, h, _ => by
    have : a = [] := List.length_eq_zero_iff.1 (by omega)
    rw [this, runesF_step []]
    simp
  | n + 1, a, s, p, h, hc => by
    by_cases hne : a = []
    · rw [hne, runesF_step []]
      simp
    · rw [checkF_step] at hc
      by_cases hv : vw a = 0
      · rw [if_pos hv, if_neg hne] at hc
        cases hc
      · rw [if_neg hv] at hc
        have hle := (vw_le a).1
        have hw := (vw_pos hv).2.2
        have ih := runes_app n (a.drop (vw a)) s (p + vw a) (by rw [List.length_drop]; omega) hc
        rw [runesF_step (a ++ s), runesF_step a, if_neg (by simp [hne]), if_neg hne, (dec_append a s hv).1, ← hw, List.drop_append_of_le_length hle, ih]
        omega
/-! What is quoted is told again. -/
theorem quoteB_high (c : UInt8) (h : 128 ≤ c.toNat) : quoteB c = [c] := by
  have hs : signB c = 0 := by
    unfold signB
    have e : ∀ k : UInt8, k.toNat < 128 → c ≠ k := fun k hk e => by rw [e] at h; omega
    rw [if_neg (by rintro (h | h); exact e 34 (by decide) h; exact e 92 (by decide) h), if_neg (e 8 (by decide)), if_neg (e 9 (by decide)), if_neg (e 10 (by decide)), if_neg (e 12 (by decide)), if_neg (e 13 (by decide))]
  unfold quoteB
  rw [if_neg (by rw [hs]; simp), if_neg]
  intro h2
  have := UInt8.lt_iff_toNat_lt.1 h2
  simp at this
  omega
theorem quoteB_low : ∀ n : Fin 128, ∃ x t, quoteB (UInt8.ofNat n.val) = x :: t ∧ x.toNat < 128 := by
  intro n
  have h : ∀ n : Fin 128, ((quoteB (UInt8.ofNat n.val)).head?.map fun x => decide (x.toNat < 128)) = some true := by decide +kernel
  have := h n
  cases hq : quoteB (UInt8.ofNat n.val) with
  | nil => rw [hq] at this; cases this
  | cons x t =>
    rw [hq] at this
    simp only [List.head?_cons, Option.map_some, Option.some.injEq, decide_eq_true_eq] at this
    exact ⟨x, t, rfl, this⟩
/-- The bytes at the front that are no ASCII stand as they are. -/
theorem front_high : ∀ (s r : List UInt8) (w : Nat), (∀ i, i < w → 128 ≤ at4 (s.flatMap quoteB ++ 34 :: r) i) → w ≤ s.length ∧ ∀ i, i < w → at4 (s.flatMap quoteB ++ 34 :: r) i = at4 s i
  | s, r, 0, _ => ⟨Nat.zero_le _, fun i hi => by omega⟩
  | [], r, w + 1, h => by
    have := h 0 (by omega)
    exact absurd this (by show ¬ 128 ≤ (34 : UInt8).toNat; decide)
  | c :: t, r, w + 1, h => by
    by_cases hc : 128 ≤ c.toNat
    · have e : (c :: t).flatMap quoteB ++ 34 :: r = c :: (t.flatMap quoteB ++ 34 :: r) := by
        rw [List.flatMap_cons, quoteB_high c hc]
        rfl
      rw [e] at h ⊢
      have ih := front_high t r w fun i hi => h (i + 1) (by omega)
      refine ⟨by rw [List.length_cons]; omega, fun i hi => ?_⟩
      cases i with
      | zero => rfl
      | succ i => exact ih.2 i (by omega)
    · obtain ⟨x, y, e, hx⟩ := quoteB_low ⟨c.toNat, by omega⟩
      simp only [UInt8.ofNat_toNat] at e
      have h0 := h 0 (by omega)
      rw [List.flatMap_cons, e] at h0
      exact absurd h0 (by show ¬ 128 ≤ x.toNat; omega)
theorem back_high : ∀ (s r : List UInt8) (w : Nat), w ≤ s.length → (∀ i, i < w → 128 ≤ at4 s i) → (∀ i, i < w → at4 (s.flatMap quoteB ++ 34 :: r) i = at4 s i) ∧ (s.flatMap quoteB ++ 34 :: r).take w = s.take w ∧ (s.flatMap quoteB ++ 34 :: r).drop w = (s.drop w).flatMap quoteB ++ 34 :: r
  | s, r, 0, _, _ => ⟨fun i hi => by omega, by simp, by simp⟩
  | [], r, w + 1, h, _ => by simp at h
  | c :: t, r, w + 1, h, hh => by
    have hc : 128 ≤ c.toNat := hh 0 (by omega)
    have e : (c :: t).flatMap quoteB ++ 34 :: r = c :: (t.flatMap quoteB ++ 34 :: r) := by
      rw [List.flatMap_cons, quoteB_high c hc]
      rfl
    rw [List.length_cons] at h
    obtain ⟨h1, h2, h3⟩ := back_high t r w (by omega) fun i hi => hh (i + 1) (by omega)
    rw [e]
    refine ⟨fun i hi => ?_, ?_, ?_⟩
    · cases i with
      | zero => rfl
      | succ i => exact h1 i (by omega)
    · rw [List.take_succ_cons, List.take_succ_cons, h2]
    · rw [List.drop_succ_cons, List.drop_succ_cons, h3]
theorem vw_quoted (s r : List UInt8) (h0 : 128 ≤ at4 s 0) (hne : s ≠ []) : vw (s.flatMap quoteB ++ 34 :: r) = vw s := by
  have hl : 0 < s.length := List.length_pos_iff.2 hne
  by_cases hv : vw s = 0
  · rw [hv]
    cases hq : vw (s.flatMap quoteB ++ 34 :: r) with
    | zero => rfl
    | succ k =>
      exfalso
      have hq0 : vw (s.flatMap quoteB ++ 34 :: r) ≠ 0 := by omega
      have h1 := (back_high s r 1 (by omega) fun i hi => by have : i = 0 := by omega
                                                            rw [this]; exact h0).1 0 (by omega)
      have h2 := vw_high _ hq0 (by rw [h1]; exact h0)
      obtain ⟨h3, h4⟩ := front_high s r _ h2.2
      have h5 := dec_same _ s hq0 h3 fun i hi => (h4 i hi).symm
      rw [h5.2, hq] at hv
      omega
  · have h2 := vw_high s hv h0
    have h3 := (vw_le s).1
    obtain ⟨h4, h5, h6⟩ := back_high s r (vw s) h3 h2.2
    exact (dec_same s _ hv (by
      have := congrArg List.length h5
      rw [List.length_take, List.length_take] at this
      omega) h4).2
theorem sign_meant : ∀ n : Fin 256, signB (UInt8.ofNat n.val) ≠ 0 → meantB (signB (UInt8.ofNat n.val)) = some (UInt8.ofNat n.val) ∧ n.val < 128 := by decide +kernel
theorem short_told : ∀ n : Fin 32, hexL [48, 48, digB (n.val / 16), digB (n.val % 16)] 0 = some n.val := by decide +kernel
theorem encode_ascii (c : UInt8) (h : c.toNat < 128) : encodeRune (c.toNat : Int) = [c] := by
  unfold encodeRune
  rw [encodeRuneZ_one (by omega) (by omega)]
  show [(c.toNat : Int).toNat.toUInt8] = [c]
  rw [Int.toNat_natCast]
  simp
theorem back_told : ∀ (n : Nat) (s r acc : List UInt8) (p : Nat), s.length ≤ n → unqF (s.flatMap quoteB ++ 34 :: r) acc p = if checkF s 0 = none then some (acc ++ s, p + (s.flatMap quoteB).length + 1) else none
  | n, [], r, acc, p, _ => by
    rw [checkF_step, unqF_step]
    simp [vw]
  | 0, c :: t, r, acc, p, h => by simp at h
  | n + 1, c :: t, r, acc, p, h => by
    have hck : ∀ (m : Nat) (l : List UInt8) (p q : Nat), l.length ≤ m → (checkF l p = none ↔ checkF l q = none) := by
      intro m
      induction m with
      | zero =>
        intro l p q hl
        have : l = [] := List.length_eq_zero_iff.1 (by omega)
        rw [this, checkF_step, checkF_step [] q]
        simp [vw]
      | succ m ih =>
        intro l p q hl
        rw [checkF_step, checkF_step l q]
        by_cases hv : vw l = 0
        · rw [if_pos hv, if_pos hv]
          by_cases hn : l = []
          · rw [if_pos hn, if_pos hn]
          · rw [if_neg hn, if_neg hn]; simp
        · rw [if_neg hv, if_neg hv]
          have := (vw_le l).1
          exact ih _ _ _ (by rw [List.length_drop]; omega)
    by_cases hc : 128 ≤ c.toNat
    · have hq := vw_quoted (c :: t) r hc (by simp)
      obtain ⟨Q, hQ⟩ : ∃ Q, (c :: t).flatMap quoteB ++ 34 :: r = Q := ⟨_, rfl⟩
      have hQc : ∃ y, Q = c :: y := ⟨t.flatMap quoteB ++ 34 :: r, by rw [← hQ, List.flatMap_cons, quoteB_high c hc]; rfl⟩
      obtain ⟨y, hy⟩ := hQc
      have hne34 : ∀ k : UInt8, k.toNat < 128 → c ≠ k := fun k hk e => by rw [e] at hc; omega
      have hh : Q.head? = some c := by rw [hy]; rfl
      have ha : at4 Q 0 = c.toNat := by rw [hy]; rfl
      rw [hQ] at hq ⊢
      rw [unqF_step, hh, if_neg (fun e => hne34 34 (by decide) (Option.some.inj e)), if_neg (fun e => hne34 92 (by decide) (Option.some.inj e)), ha, if_neg (by omega), hq, checkF_step]
      by_cases hv : vw (c :: t) = 0
      · rw [if_pos hv, if_pos hv, if_neg (by simp)]
        try simp
      · have h2 := vw_high _ hv hc
        have h3 := (vw_le (c :: t)).1
        obtain ⟨h4, h5, h6⟩ := back_high (c :: t) r _ h3 h2.2
        rw [hQ] at h5 h6
        rw [if_neg hv, if_neg hv, h5, h6, back_told n ((c :: t).drop (vw (c :: t))) r _ _ (by rw [List.length_drop, List.length_cons] at *; omega)]
        have hiff := hck _ ((c :: t).drop (vw (c :: t))) 0 (0 + vw (c :: t)) (Nat.le_refl _)
        have hlen : ((c :: t).flatMap quoteB).length = vw (c :: t) + (((c :: t).drop (vw (c :: t))).flatMap quoteB).length := by
          have e1 : (c :: t).flatMap quoteB ++ 34 :: r = (c :: t).take (vw (c :: t)) ++ (((c :: t).drop (vw (c :: t))).flatMap quoteB ++ 34 :: r) := by
            rw [← h5, ← h6, hQ, List.take_append_drop]
          have e2 := congrArg List.length e1
          rw [List.length_append, List.length_append, List.length_append, List.length_take] at e2
          omega
        by_cases hz : checkF ((c :: t).drop (vw (c :: t))) 0 = none
        · rw [if_pos hz, if_pos (hiff.1 hz), hlen, List.append_assoc, List.take_append_drop]
          congr 2
          omega
        · rw [if_neg hz, if_neg (fun e => hz (hiff.2 e))]
    · have hcl : c.toNat < 128 := by omega
      have hiff := hck _ t 0 1 (Nat.le_refl _)
      have hcs : checkF (c :: t) 0 = checkF t 1 := by
        rw [checkF_step, (dec_ascii (c :: t) (by simp) hcl).2]
        rfl
      have ih := fun acc p => back_told n t r acc p (by rw [List.length_cons] at h; omega)
      rw [hcs, List.flatMap_cons, List.append_assoc, List.length_append]
      obtain ⟨T, hT⟩ : ∃ T, t.flatMap quoteB ++ 34 :: r = T := ⟨_, rfl⟩
      rw [hT] at ih ⊢
      have fin : ∀ k, (quoteB c).length = k → unqF T (acc ++ [c]) (p + k) = if checkF t 1 = none then some (acc ++ c :: t, p + (k + (t.flatMap quoteB).length) + 1) else none := fun k hk => by
        rw [ih]
        by_cases hz : checkF t 0 = none
        · rw [if_pos hz, if_pos (hiff.1 hz)]
          congr 2
          · simp
          · omega
        · rw [if_neg hz, if_neg (fun e => hz (hiff.2 e))]
      by_cases hs : signB c = 0
      · by_cases h32 : c.toNat < 32
        · have hq : quoteB c = [92, 117, 48, 48, digB (c.toNat / 16), digB (c.toNat % 16)] := by
            unfold quoteB
            rw [if_neg (by rw [hs]; simp), if_pos (UInt8.lt_iff_toNat_lt.2 h32)]
          have hl := fin 6 (by rw [hq]; rfl)
          rw [hq]
          have hE : escL (92 :: 117 :: 48 :: 48 :: digB (c.toNat / 16) :: digB (c.toNat % 16) :: T) = some (c.toNat, 6) := by
            unfold escL unitL
            have := short_told ⟨c.toNat, h32⟩
            simp only at this
            simp only [List.getElem?_cons_succ, List.getElem?_cons_zero, Option.bind_some, show meantB 117 = none from by decide, this]
            rw [if_neg (by omega), if_pos (by omega)]
          show unqF (92 :: 117 :: 48 :: 48 :: digB (c.toNat / 16) :: digB (c.toNat % 16) :: T) acc p = _
          rw [unqF_step, hE]
          simp only [List.head?_cons, show ¬ (some (92 : UInt8) = some 34) from by decide, if_false, if_true]
          rw [encode_ascii c hcl]
          exact hl
        · have hq : quoteB c = [c] := by
            unfold quoteB
            rw [if_neg (by rw [hs]; simp), if_neg (fun e => h32 (UInt8.lt_iff_toNat_lt.1 e))]
          have hl := fin 1 (by rw [hq]; rfl)
          rw [hq]
          have hn34 : c ≠ 34 := fun e => by rw [e] at hs; exact absurd hs (by decide)
          have hn92 : c ≠ 92 := fun e => by rw [e] at hs; exact absurd hs (by decide)
          show unqF (c :: T) acc p = _
          rw [unqF_step, (dec_ascii (c :: T) (by simp) hcl).2]
          simp only [List.head?_cons, Option.some.injEq, hn34, hn92, if_false]
          rw [if_neg (show ¬ at4 (c :: T) 0 < 32 from h32), if_neg (by omega)]
          exact hl
      · obtain ⟨hm, _⟩ := sign_meant ⟨c.toNat, c.toNat_lt⟩ (by simpa using hs)
        simp only [UInt8.ofNat_toNat] at hm
        have hq : quoteB c = [92, signB c] := by
          unfold quoteB
          rw [if_pos hs]
        have hl := fin 2 (by rw [hq]; rfl)
        rw [hq]
        have hE : escL (92 :: signB c :: T) = some (c.toNat, 2) := by
          unfold escL
          simp only [List.getElem?_cons_succ, List.getElem?_cons_zero, Option.bind_some, hm]
        show unqF (92 :: signB c :: T) acc p = _
        rw [unqF_step, hE]
        simp only [List.head?_cons, show ¬ (some (92 : UInt8) = some 34) from by decide, if_false, if_true]
        rw [encode_ascii c hcl]
        exact hl
/-- There and back. -/
theorem unquote_quote (s r : List UInt8) : unquoteL (quoteL s ++ r) = if checkF s 0 = none then (s, (quoteL s).length) else ([], 0) := by
  unfold quoteL
  show (unqF (s.flatMap quoteB ++ [34] ++ r) [] 1).getD ([], 0) = _
  rw [List.append_assoc, show [34] ++ r = 34 :: r from rfl, back_told _ s r [] 1 (Nat.le_refl _)]
  split
  · rw [Option.getD_some, List.nil_append, List.length_cons, List.length_append]
    congr 1
    simp
    omega
  · rfl
end Go.Proofs.YtpibbokkdjjgeaaDoor

/-
  The law GlyphLess, walked: of two texts just one stands ahead, unless they are the same; what stands behind both changes nothing.
-/
namespace Go.Proofs.YtpibbokkdjjgeaaDoor
open Go.RowKit
set_option linter.unusedSimpArgs false
set_option linter.unusedVariables false
theorem cmp_self : ∀ a : List UInt8, Lib.compareBytes a a = 0
  | [] => rfl
  | a :: t => by
    rw [Lib.compareBytes, if_neg (by simp), if_neg (by simp), cmp_self t]
theorem cmp_tri : ∀ a b : List UInt8, (Lib.compareBytes a b < 0 ∧ ¬ Lib.compareBytes b a < 0 ∧ a ≠ b) ∨ (¬ Lib.compareBytes a b < 0 ∧ Lib.compareBytes b a < 0 ∧ a ≠ b) ∨ (¬ Lib.compareBytes a b < 0 ∧ ¬ Lib.compareBytes b a < 0 ∧ a = b)
  | [], [] => .inr (.inr ⟨by decide, by decide, rfl⟩)
  | [], b :: t => .inl ⟨by simp [Lib.compareBytes], by simp [Lib.compareBytes], by simp⟩
  | a :: s, [] => .inr (.inl ⟨by simp [Lib.compareBytes], by simp [Lib.compareBytes], by simp⟩)
  | a :: s, b :: t => by
    rw [Lib.compareBytes, Lib.compareBytes]
    rcases Nat.lt_trichotomy a.toNat b.toNat with h | h | h
    · have h1 : a < b := UInt8.lt_iff_toNat_lt.2 h
      have h2 : ¬ b < a := fun e => by have := UInt8.lt_iff_toNat_lt.1 e; omega
      rw [if_pos h1, if_neg h2, if_pos h1]
      exact .inl ⟨by decide, by decide, fun e => by have := (List.cons.inj e).1; subst this; omega⟩
    · have e : a = b := UInt8.toNat_inj.1 h
      subst e
      rw [if_neg (by simp), if_neg (by simp), if_neg (by simp), if_neg (by simp)]
      rcases cmp_tri s t with ⟨h1, h2, h3⟩ | ⟨h1, h2, h3⟩ | ⟨h1, h2, h3⟩
      · exact .inl ⟨h1, h2, fun e => h3 (List.cons.inj e).2⟩
      · exact .inr (.inl ⟨h1, h2, fun e => h3 (List.cons.inj e).2⟩)
      · exact .inr (.inr ⟨h1, h2, by rw [h3]⟩)
    · have h1 : b < a := UInt8.lt_iff_toNat_lt.2 h
      have h2 : ¬ a < b := fun e => by have := UInt8.lt_iff_toNat_lt.1 e; omega
      rw [if_neg h2, if_pos h1, if_pos h1]
      exact .inr (.inl ⟨by decide, by decide, fun e => by have := (List.cons.inj e).1; subst this; omega⟩)
theorem cmp_front : ∀ f a b : List UInt8, Lib.compareBytes (f ++ a) (f ++ b) = Lib.compareBytes a b
  | [], a, b => rfl
  | c :: f, a, b => by
    rw [List.cons_append, List.cons_append, Lib.compareBytes, if_neg (by simp), if_neg (by simp), cmp_front f a b]
theorem cmp_longer : ∀ (a : List UInt8) (c : UInt8) (t : List UInt8), Lib.compareBytes a (a ++ c :: t) = -1
  | [], c, t => rfl
  | a :: s, c, t => by
    rw [List.cons_append, Lib.compareBytes, if_neg (by simp), if_neg (by simp), cmp_longer s c t]
theorem runes_le : ∀ (n : Nat) (l : List UInt8), l.length ≤ n → runesF l ≤ l.length
  | 0, l, h => by
    have : l = [] := List.length_eq_zero_iff.1 (by omega)
    rw [this, runesF_step]
    exact Nat.le_refl _
  | n + 1, l, h => by
    rw [runesF_step]
    split
    · omega
    · rename_i hne
      have hw := dec_width l hne
      have := runes_le n (l.drop (dec l).2) (by rw [List.length_drop]; omega)
      rw [List.length_drop] at this
      omega
theorem app_data (x y : ByteArray) : (x ++ y).data.toList = x.data.toList ++ y.data.toList := by rw [ByteArray.data_append, Array.toList_append]
theorem below_trs {w w1 w2 : World} (h : Below w.heap.size w w1) (h2 : Below w1.heap.size w1 w2) : Below w.heap.size w w2 := h.trans (h2.mono h.size)
set_option maxRecDepth 100000 in
set_option maxHeartbeats 2000000 in
theorem glyphLess_walk (a0 : Option Addr) (len0 cap0 : Nat) (z0 : List Int) (a1 : Option Addr) (len1 cap1 : Nat) (z1 : List Int) (a2 : ByteArray) (W : World)
    (x0 : z0.length = len0) (y0 : RowAt W a0 (z0.map (.int .u8))) (u0 : ∀ z ∈ z0, (Lit.int .u8 z).wf = true) (b0 : len0 * 1 ≤ 140737488351232) (c0 : len0 ≤ cap0) (m0 : cap0 ≤ maxLen)
    (x1 : z1.length = len1) (y1 : RowAt W a1 (z1.map (.int .u8))) (u1 : ∀ z ∈ z1, (Lit.int .u8 z).wf = true) (b1 : len1 * 1 ≤ 140737488351232) (c1 : len1 ≤ cap1) (m1 : cap1 ≤ maxLen)
    (s2 : a2.size ≤ 140737488351232) (hT : Tabs W) :
    Calls Tryd.prog 7 #[.slice a0 len0 cap0, .slice a1 len1 cap1, .string a2] W fun e w' => e = .returned (.bool true) ∧ Below W.heap.size W w' := by
  subst x0 x1
  obtain ⟨A, hA, hcA⟩ := text_row y0 u0 b0 c0
  obtain ⟨B, hB, hcB⟩ := text_row y1 u1 b1 c1
  clear y0 u0 y1 u1 m0 m1 c0 c1 b0 b1
  have HCA := Lib.hid hcA; have HCB := Lib.hid hcB; have HT := Lib.hid hT
  clear hcA hcB hT
  have hk := fun w (hb : Below W.heap.size W w) => known_any w (HT.out.below hb)
  have HK := Lib.hid hk
  clear hk
  by_cases hbig : 50 < a2.size
  · go_enter Tryd.func7, Tryd.ntmps7
    go_wp2_with fail
    refine (HCA.out _ (Below.refl _ _)).mono ?_
    rintro e w1 ⟨rfl, hb1⟩
    have HB1 := Lib.hid hb1; clear hb1
    go_wp2_with fail
    refine (HCB.out _ HB1.out).mono ?_
    rintro e w2 ⟨rfl, hb2⟩
    have HB2 := Lib.hid (below_trs HB1.out hb2); clear hb2 HB1
    go_wp2_with fail
    refine (HK.out _ HB2.out).mono ?_
    rintro e w3 ⟨rfl, hb3⟩
    have HB3 := Lib.hid (below_trs HB2.out hb3); clear hb3 HB2
    go_wp2_with fail
    go_ret
    exact ⟨rfl, HB3.out⟩
  · have hab := fun w => less_any A B w
    have hba := fun w => less_any B A w
    have hfab := fun w => less_any (a2 ++ A) (a2 ++ B) w
    have haa := fun w => less_any A (A ++ ⟨#[97]⟩) w
    have hru := fun w => runes_any A (by omega) w
    have hrl := runes_le _ A.data.toList (Nat.le_refl _)
    rw [len_data] at hrl
    have htr := cmp_tri A.data.toList B.data.toList
    rw [show lessL (a2 ++ A).data.toList (a2 ++ B).data.toList = lessL A.data.toList B.data.toList from by unfold lessL; rw [app_data, app_data, cmp_front]] at hfab
    rw [show lessL A.data.toList (A ++ ⟨#[97]⟩).data.toList = true from by unfold lessL; rw [app_data, show (⟨#[97]⟩ : ByteArray).data.toList = [97] from rfl, cmp_longer]; rfl] at haa
    obtain ⟨v1, h1⟩ : ∃ v, lessL A.data.toList B.data.toList = v := ⟨_, rfl⟩
    obtain ⟨v2, h2⟩ : ∃ v, lessL B.data.toList A.data.toList = v := ⟨_, rfl⟩
    obtain ⟨v3, h3⟩ : ∃ v, (A.toList == B.toList) = v := ⟨_, rfl⟩
    obtain ⟨n, hn⟩ : ∃ n, runesF A.data.toList = n := ⟨_, rfl⟩
    rw [hn] at hru hrl
    have hv : (v1 = true ∧ v2 = false ∧ v3 = false) ∨ (v1 = false ∧ v2 = true ∧ v3 = false) ∨ (v1 = false ∧ v2 = false ∧ v3 = true) := by
      rw [← h1, ← h2, ← h3, ByteArray.toList_eq, ByteArray.toList_eq]
      unfold lessL
      rcases htr with ⟨g1, g2, g3⟩ | ⟨g1, g2, g3⟩ | ⟨g1, g2, g3⟩
      · exact .inl ⟨decide_eq_true g1, decide_eq_false g2, by simpa using g3⟩
      · exact .inr (.inl ⟨decide_eq_false g1, decide_eq_true g2, by simpa using g3⟩)
      · exact .inr (.inr ⟨decide_eq_false g1, decide_eq_false g2, by simpa using g3⟩)
    rw [h1] at hab hfab
    rw [h2] at hba
    have hne : (A.toList != B.toList) = !v3 := by rw [← h3]; rfl
    have hni : (n : Int) ≤ (A.size : Int) := by omega
    have HAB := Lib.hid hab; have HBA := Lib.hid hba; have HFAB := Lib.hid hfab; have HAA := Lib.hid haa; have HRU := Lib.hid hru
    clear hab hba hfab haa hru hrl htr h1 h2 hn
    rcases hv with ⟨rfl, rfl, rfl⟩ | ⟨rfl, rfl, rfl⟩ | ⟨rfl, rfl, rfl⟩
    all_goals
      have h4 : A.toList = B.toList ↔ (A.toList == B.toList) = true := by simp
      rw [h3] at h4
      simp only [Bool.false_eq_true, iff_false, iff_true] at h4
      go_enter Tryd.func7, Tryd.ntmps7
      go_wp2_with fail
      refine (HCA.out _ (Below.refl _ _)).mono ?_
      rintro e w1 ⟨rfl, hb1⟩
      have HB1 := Lib.hid hb1; clear hb1
      go_wp2_with fail
      refine (HCB.out _ HB1.out).mono ?_
      rintro e w2 ⟨rfl, hb2⟩
      have HB2 := Lib.hid (below_trs HB1.out hb2); clear hb2 HB1
      go_wp2_with fail
      refine (HAB.out _).mono ?_
      rintro e w3 ⟨rfl, hb3⟩
      have HB3 := Lib.hid (below_trs HB2.out hb3); clear hb3 HB2
      go_wp2_with fail
      refine (HBA.out _).mono ?_
      rintro e w4 ⟨rfl, hb4⟩
      have HB4 := Lib.hid (below_trs HB3.out hb4); clear hb4 HB3
      go_wp2_with fail
      refine (HK.out _ HB4.out).mono ?_
      rintro e w5 ⟨rfl, hb5⟩
      have HB5 := Lib.hid (below_trs HB4.out hb5); clear hb5 HB4
      go_wp2_with fail
      refine (HFAB.out _).mono ?_
      rintro e w6 ⟨rfl, hb6⟩
      have HB6 := Lib.hid (below_trs HB5.out hb6); clear hb6 HB5
      go_wp2_with fail
      refine (HAB.out _).mono ?_
      rintro e w7 ⟨rfl, hb7⟩
      have HB7 := Lib.hid (below_trs HB6.out hb7); clear hb7 HB6
      go_wp2_with fail
      refine (HAA.out _).mono ?_
      rintro e w8 ⟨rfl, hb8⟩
      have HB8 := Lib.hid (below_trs HB7.out hb8); clear hb8 HB7
      go_wp2_with fail
      refine (HRU.out _).mono ?_
      rintro e w9 ⟨rfl, hb9⟩
      have HB9 := Lib.hid (below_trs HB8.out hb9); clear hb9 HB8
      go_wp2_with fail
      go_ret
      exact ⟨rfl, HB9.out⟩
end Go.Proofs.YtpibbokkdjjgeaaDoor

/-
  The law GlyphBack, walked: there and back, whatever stands behind; of what is no UTF-8 there is no way back.
-/
namespace Go.Proofs.YtpibbokkdjjgeaaDoor
open Go.RowKit
set_option linter.unusedSimpArgs false
set_option linter.unusedVariables false
theorem quoteB_len : ∀ c : UInt8, 1 ≤ (quoteB c).length ∧ (quoteB c).length ≤ 6 := by
  intro c
  have h : ∀ n : Fin 256, 1 ≤ (quoteB (UInt8.ofNat n.val)).length ∧ (quoteB (UInt8.ofNat n.val)).length ≤ 6 := by decide +kernel
  have := h ⟨c.toNat, c.toNat_lt⟩
  simpa using this
theorem quote_len : ∀ s : List UInt8, s.length ≤ (s.flatMap quoteB).length ∧ (s.flatMap quoteB).length ≤ 6 * s.length
  | [] => ⟨Nat.le_refl _, Nat.le_refl _⟩
  | c :: t => by
    have h1 := quoteB_len c
    have h2 := quote_len t
    rw [List.flatMap_cons, List.length_append, List.length_cons]
    omega
theorem quoteL_len (s : List UInt8) : s.length + 2 ≤ (quoteL s).length ∧ (quoteL s).length ≤ 6 * s.length + 2 := by
  have h := quote_len s
  unfold quoteL
  rw [List.length_cons, List.length_append]
  simp only [List.length_cons, List.length_nil]
  omega
set_option maxRecDepth 100000 in
set_option maxHeartbeats 2000000 in
theorem glyphBack_walk (a0 : Option Addr) (len0 cap0 : Nat) (z0 : List Int) (a1 : ByteArray) (W : World)
    (x0 : z0.length = len0) (y0 : RowAt W a0 (z0.map (.int .u8))) (u0 : ∀ z ∈ z0, (Lit.int .u8 z).wf = true) (b0 : len0 * 1 ≤ 140737488351232) (c0 : len0 ≤ cap0) (m0 : cap0 ≤ maxLen)
    (s1 : a1.size ≤ 140737488351232) (hT : Tabs W) :
    Calls Tryd.prog 4 #[.slice a0 len0 cap0, .string a1] W fun e w' => e = .returned (.bool true) ∧ Below W.heap.size W w' := by
  subst x0
  obtain ⟨A, hA, hcA⟩ := text_row y0 u0 b0 c0
  clear y0 u0 m0 c0 b0
  have HCA := Lib.hid hcA; have HT := Lib.hid hT
  clear hcA hT
  have hk := fun w (hb : Below W.heap.size W w) => known_any w (HT.out.below hb)
  have HK := Lib.hid hk
  clear hk
  by_cases hbig : 100 < a1.size
  · go_enter Tryd.func4, Tryd.ntmps4
    go_wp2_with fail
    refine (HCA.out _ (Below.refl _ _)).mono ?_
    rintro e w1 ⟨rfl, hb1⟩
    have HB1 := Lib.hid hb1; clear hb1
    go_wp2_with fail
    refine (HK.out _ HB1.out).mono ?_
    rintro e w2 ⟨rfl, hb2⟩
    have HB2 := Lib.hid (below_trs HB1.out hb2); clear hb2 HB1
    go_wp2_with fail
    go_ret
    exact ⟨rfl, HB2.out⟩
  · have hql := quoteL_len A.data.toList
    rw [len_data] at hql
    have hqs := bsL_size (quoteL A.data.toList)
    have hqt : (bsL (quoteL A.data.toList)).data.toList = quoteL A.data.toList := bsL_toList _
    have hq := fun w => quote_any A (by omega) w
    have hun := unquote_quote A.data.toList a1.data.toList
    rw [← hqt, ← app_data, hqt] at hun
    have hck := fun w => check_any A (by omega) w
    obtain ⟨Q, hQ⟩ : ∃ Q, bsL (quoteL A.data.toList) = Q := ⟨_, rfl⟩
    rw [hQ] at hq hqs hun
    rw [← hqs] at hql hun
    have hu := fun w (hb : Below W.heap.size W w) => unquote_any (Q ++ a1) (by rw [ByteArray.size_append]; omega) w (HT.out.below hb)
    rw [hun] at hu
    clear hqs hqt hun hQ
    obtain ⟨R, hR⟩ : ∃ R, checkF A.data.toList 0 = R := ⟨_, rfl⟩
    rw [hR] at hck hu
    clear hR
    have HQ := Lib.hid hq
    clear hq
    have hq1 : (A.size : Int) + 2 ≤ (Q.size : Int) := by omega
    have hq2 : (Q.size : Int) ≤ 1000 := by omega
    have ha1 : (A.size : Int) ≤ 160 := by omega
    clear hql
    cases R with
    | none =>
      simp only [if_true, bsL_data] at hu
      have hck' : ∀ w, Calls Tryd.prog 17 #[.string A] w fun e w' => e = .returned (.int .i64 (-1)) ∧ Below w.heap.size w w' := hck
      have HU := Lib.hid hu; have HC := Lib.hid hck'
      clear hu hck hck'
      have h4 : A.toList = A.toList ↔ True := by simp
      go_enter Tryd.func4, Tryd.ntmps4
      go_wp2_with fail
      refine (HCA.out _ (Below.refl _ _)).mono ?_
      rintro e w1 ⟨rfl, hb1⟩
      have HB1 := Lib.hid hb1; clear hb1
      go_wp2_with fail
      refine (HQ.out _).mono ?_
      rintro e w2 ⟨rfl, hb2⟩
      have HB2 := Lib.hid (below_trs HB1.out hb2); clear hb2 HB1
      go_wp2_with fail
      refine (HU.out _ HB2.out).mono ?_
      rintro e w3 ⟨rfl, hb3⟩
      have HB3 := Lib.hid (below_trs HB2.out hb3); clear hb3 HB2
      go_wp2_with fail
      refine (HC.out _).mono ?_
      rintro e w4 ⟨rfl, hb4⟩
      have HB4 := Lib.hid (below_trs HB3.out hb4); clear hb4 HB3
      go_wp2_with fail
      refine (HK.out _ HB4.out).mono ?_
      rintro e w5 ⟨rfl, hb5⟩
      have HB5 := Lib.hid (below_trs HB4.out hb5); clear hb5 HB4
      go_wp2_with fail
      go_ret
      exact ⟨rfl, HB5.out⟩
    | some p =>
      have hu' : ∀ w, Below W.heap.size W w → Calls Tryd.prog 16 #[.string (Q ++ a1)] w fun e w' => e = .returned (.tuple #[.string ⟨#[]⟩, .int .i64 0]) ∧ Below w.heap.size w w' := hu
      have hck' : ∀ w, Calls Tryd.prog 17 #[.string A] w fun e w' => e = .returned (.int .i64 (p : Int)) ∧ Below w.heap.size w w' := hck
      have HU := Lib.hid hu'; have HC := Lib.hid hck'
      clear hu hck hck' hu'
      go_enter Tryd.func4, Tryd.ntmps4
      go_wp2_with fail
      refine (HCA.out _ (Below.refl _ _)).mono ?_
      rintro e w1 ⟨rfl, hb1⟩
      have HB1 := Lib.hid hb1; clear hb1
      go_wp2_with fail
      refine (HQ.out _).mono ?_
      rintro e w2 ⟨rfl, hb2⟩
      have HB2 := Lib.hid (below_trs HB1.out hb2); clear hb2 HB1
      go_wp2_with fail
      refine (HU.out _ HB2.out).mono ?_
      rintro e w3 ⟨rfl, hb3⟩
      have HB3 := Lib.hid (below_trs HB2.out hb3); clear hb3 HB2
      go_wp2_with fail
      refine (HC.out _).mono ?_
      rintro e w4 ⟨rfl, hb4⟩
      have HB4 := Lib.hid (below_trs HB3.out hb4); clear hb4 HB3
      go_wp2_with fail
      refine (HK.out _ HB4.out).mono ?_
      rintro e w5 ⟨rfl, hb5⟩
      have HB5 := Lib.hid (below_trs HB4.out hb5); clear hb5 HB4
      go_wp2_with fail
      go_ret
      exact ⟨rfl, HB5.out⟩
end Go.Proofs.YtpibbokkdjjgeaaDoor

/-
  The law GlyphShort, walked: each byte below 32, a quote and a backslash are escaped, and are told again.
-/
namespace Go.Proofs.YtpibbokkdjjgeaaDoor
open Go.RowKit
set_option linter.unusedSimpArgs false
set_option linter.unusedVariables false
def needsN (n : Nat) : Bool := decide (n < 32) || decide (n = 34) || decide (n = 92)
def rawN (n : Nat) : Nat := if n < 32 then 0 else if n = 34 then 2 else if n = 92 then 0 else 3
theorem sh_raw : ∀ n : Fin 128, ((unqN 3 [UInt8.ofNat n.val, 34] [] 1).getD ([], 0)).2 = rawN n.val := by decide +kernel
theorem sh_check : ∀ n : Fin 128, checkN 2 [UInt8.ofNat n.val] 0 = none := by decide +kernel
theorem sh_len : ∀ n : Fin 128, decide (3 < (quoteL [UInt8.ofNat n.val]).length) = needsN n.val := by decide +kernel
theorem sh_all : ∀ n : Fin 128, (quoteL [UInt8.ofNat n.val]).all (fun c => decide (32 ≤ c.toNat)) = true := by decide +kernel
theorem short_raw (n : Nat) (h : n < 128) : (unquoteL [34, UInt8.ofNat n, 34]).2 = rawN n := by
  have := sh_raw ⟨n, h⟩
  rw [unqN_eq 3 _ _ _ (by simp)] at this
  exact this
theorem short_check (n : Nat) (h : n < 128) : checkF [UInt8.ofNat n] 0 = none := by
  have := sh_check ⟨n, h⟩
  rw [checkN_eq 2 _ _ (by simp)] at this
  exact this
theorem get_all (Q : ByteArray) (h : (Q.data.toList.all fun c => decide (32 ≤ c.toNat)) = true) (j : Nat) (hj : j < Q.size) : 32 ≤ (Q[j]'hj).toNat := by
  rw [List.all_eq_true] at h
  have := h (Q[j]'hj) (by
    have e : Q.data.toList[j]'(by rw [len_data]; exact hj) = Q[j]'hj := rfl
    rw [← e]
    exact List.getElem_mem _)
  exact of_decide_eq_true this
set_option maxRecDepth 100000 in
set_option maxHeartbeats 2000000 in
theorem glyphShort_walk (a0 : Int) (W : World) (h0 : (Lit.int .u8 a0).wf = true) (hT : Tabs W) :
    Calls Tryd.prog 10 #[.int .u8 a0] W fun e w' => e = .returned (.bool true) ∧ Below W.heap.size W w' := by
  have hr := u8_range h0
  obtain ⟨n, hn, hm⟩ : ∃ n : Nat, n < 128 ∧ Int.tmod a0 128 = (n : Int) := by
    obtain ⟨m, rfl⟩ : ∃ m : Nat, a0 = m := ⟨a0.toNat, by omega⟩
    exact ⟨m % 128, Nat.mod_lt _ (by omega), rfl⟩
  clear h0
  have HT := Lib.hid hT
  clear hT
  obtain ⟨S, hS⟩ : ∃ S : ByteArray, bsL [UInt8.ofNat n] = S := ⟨_, rfl⟩
  have hSs : S.size = 1 := by rw [← hS]; rfl
  have hSd : S.data.toList = [UInt8.ofNat n] := by rw [← hS, bsL_toList]
  obtain ⟨Q, hQ⟩ : ∃ Q : ByteArray, bsL (quoteL [UInt8.ofNat n]) = Q := ⟨_, rfl⟩
  have hQd : Q.data.toList = quoteL [UInt8.ofNat n] := by rw [← hQ, bsL_toList]
  have hQs : Q.size = (quoteL [UInt8.ofNat n]).length := by rw [← hQ, bsL_size]
  have hS0 : S[0] = UInt8.ofNat n := by
    have : S.data.toList[0]'(by rw [hSd]; simp) = UInt8.ofNat n := by simp [hSd]
    exact this
  have HSD := Lib.hid hS0
  clear hS0
  have hqt := fun w => quote_any S (by omega) w
  rw [hSd, hQ] at hqt
  have hql := quoteL_len [UInt8.ofNat n]
  rw [← hQs] at hql
  simp only [List.length_cons, List.length_nil] at hql
  have hu := fun w (hb : Below W.heap.size W w) => unquote_any Q (by omega) w (HT.out.below hb)
  have hun := unquote_quote [UInt8.ofNat n] []
  rw [List.append_nil, ← hQd, short_check n hn, if_pos rfl, hQd, ← hQs] at hun
  rw [hQd, hun] at hu
  simp only [hS] at hu
  have hd3 : ((⟨#[34]⟩ : ByteArray) ++ S ++ ⟨#[34]⟩).data.toList = [34, UInt8.ofNat n, 34] := by
    rw [app_data, app_data, hSd]; rfl
  have hv := fun w (hb : Below W.heap.size W w) => unquote_any ((⟨#[34]⟩ : ByteArray) ++ S ++ ⟨#[34]⟩) (by rw [ByteArray.size_append, ByteArray.size_append, hSs]; decide) w (HT.out.below hb)
  rw [hd3, short_raw n hn] at hv
  obtain ⟨X, hX⟩ : ∃ X, bsL (unquoteL [34, UInt8.ofNat n, 34]).1 = X := ⟨_, rfl⟩
  rw [hX] at hv
  have hlen := sh_len ⟨n, hn⟩
  have hall := sh_all ⟨n, hn⟩
  simp only [] at hlen hall
  rw [← hQs] at hlen
  rw [← hQd] at hall
  have hk := fun w (hb : Below W.heap.size W w) => known_any w (HT.out.below hb)
  have HK := Lib.hid hk; have HQT := Lib.hid hqt; have HU := Lib.hid hu; have HV := Lib.hid hv; have HALL := Lib.hid hall; have HLEN := Lib.hid hlen
  clear hk hqt hu hv hall hlen hun hX hd3 hQ hQd hQs hSd
  have hq1 : (Q.size : Int) ≤ 8 := by omega
  have hq0 : (3 : Int) ≤ (Q.size : Int) := by omega
  clear hql
  have hby : ∀ v : Int, v = (n : Int) → Lib.Bytes (W.alloc (.cells #[.int .u8 v] 5)) W.heap.size 0 S := by
    rintro v rfl i hi
    have e : i = 0 := by omega
    subst e
    have h1 : S[0] = UInt8.ofNat n := HSD.out
    rw [h1]
    have h2 : ((UInt8.ofNat n).toNat : Int) = (n : Int) := by
      rw [UInt8.toNat_ofNat']
      omega
    rw [h2]
    exact (World.cell?_alloc_mark W #[.int .u8 (n : Int)] 5 (0, 0) 0).trans rfl
  have kc0 := fun (v : Int) (e : v = (n : Int)) => Lib.run_convert_whole (P := Tryd.prog) (W.alloc (.cells #[.int .u8 v] 5)) 22 5 9 Tryd.underlying22 Tryd.underlying5 Tryd.underlying9 W.heap.size 0 S (hby v e) 1
  rw [hSs] at kc0
  clear hby
  have HB0 := Lib.hid (fun v : Int => (Below.refl W.heap.size W).alloc (Nat.le_refl _) (.cells #[.int .u8 v] 5))
  clear hS HSD hn hr
  have hcl : (n < 32 ∧ needsN n = true ∧ rawN n = 0) ∨ (¬ n < 32 ∧ n = 34 ∧ needsN n = true ∧ rawN n = 2) ∨ (¬ n < 32 ∧ ¬ n = 34 ∧ n = 92 ∧ needsN n = true ∧ rawN n = 0) ∨ (¬ n < 32 ∧ ¬ n = 34 ∧ ¬ n = 92 ∧ needsN n = false ∧ rawN n = 3) := by
    unfold needsN rawN
    by_cases h1 : n < 32
    · simp [h1]
    · by_cases h2 : n = 34
      · simp [h2]
      · by_cases h3 : n = 92
        · simp [h3]
        · simp [h1, h2, h3]
  rcases hcl with ⟨h1, h4, h5⟩ | ⟨h1, rfl, h4, h5⟩ | ⟨h1, h2, rfl, h4, h5⟩ | ⟨h1, h2, h3, h4, h5⟩
  all_goals
    rw [h5] at HV
    first | have kc := kc0 34 rfl | have kc := kc0 92 rfl | have kc := kc0 n rfl
    clear kc0
    try rw [show ((34 : Nat) : Int) = 34 from rfl] at hm
    try rw [show ((92 : Nat) : Int) = 92 from rfl] at hm
    have hq3 := HLEN.out
    rw [h4] at hq3
    first | replace hq3 := of_decide_eq_true hq3 | replace hq3 := of_decide_eq_false hq3
    clear h4 h5 HLEN
    try have g4 : decide ((3 : Int) < (Q.size : Int)) = false := decide_eq_false (by omega)
    try have g1 : decide ((n : Int) < 32) = false := decide_eq_false (by omega)
    try have g2 : ((n : Int) == 34) = false := beq_eq_false_iff_ne.2 (by omega)
    try have g3 : ((n : Int) == 92) = false := beq_eq_false_iff_ne.2 (by omega)
    go_enter Tryd.func10, Tryd.ntmps10
    go_wp2_with fail
    refine (HQT.out _).mono ?_
    rintro e w1 ⟨rfl, hb1⟩
    have HB1 := Lib.hid (below_trs (HB0.out _) hb1); clear hb1 HB0
    go_wp2_with fail
    refine (HU.out _ HB1.out).mono ?_
    rintro e w2 ⟨rfl, hb2⟩
    have HB2 := Lib.hid (below_trs HB1.out hb2); clear hb2 HB1
    go_wp2_with fail
    refine (HV.out _ HB2.out).mono ?_
    rintro e w3 ⟨rfl, hb3⟩
    have HB3 := Lib.hid (below_trs HB2.out hb3); clear hb3 HB2
    go_wp2_with fail
    go_loopw [11] (fun i wr => ∃ j : Nat, j ≤ Q.size ∧ i = .int .i64 j ∧ Below W.heap.size W wr) (fun i _ => Q.size - (intOf i).toNat)
    case atStart => exact ⟨0, Nat.zero_le _, rfl, HB3.out⟩
    case round =>
      obtain ⟨j, hj, rfl, hb⟩ := hrel
      have HB := Lib.hid hb
      clear hb HB3
      by_cases hlt : j < Q.size
      · have hx := get_all Q HALL.out j hlt
        obtain ⟨x, ex⟩ : ∃ x : Nat, (Q[j]'hlt).toNat = x := ⟨_, rfl⟩
        have hxr : (x : Int) < 256 := by have := (Q[j]'hlt).toNat_lt; omega
        have hxx : ∀ h : j < Q.size, ((Q[j]'h).toNat : Int) = (x : Int) := fun h => by rw [← ex]
        have hki : (j : Int) < (Q.size : Int) := by omega
        have hk0 : (0 : Int) ≤ (j : Int) := by omega
        have hx2 : ¬ (x : Int) < 32 := by omega
        clear ex hx
        go_wp2_with fail
        go_roundw
        case measure =>
          show Q.size - ((j : Int) + 1).toNat < Q.size - (j : Int).toNat
          omega
        case rel => exact ⟨j + 1, hlt, by first | rfl | (congr 1; omega), HB.out⟩
      · have : j = Q.size := by omega
        subst this
        go_wp2_with fail
        refine (HK.out _ HB.out).mono ?_
        rintro e w4 ⟨rfl, hb4⟩
        have HB4 := Lib.hid (below_trs HB.out hb4); clear hb4 HB
        go_wp2_with fail
        go_ret
        exact ⟨rfl, HB4.out⟩
end Go.Proofs.YtpibbokkdjjgeaaDoor

/-
  The row of the law GlyphShort: whatever the input, it answers true and leaves its arguments as they were; out of its walk.
-/
namespace Go.Proofs.YtpibbokkdjjgeaaDoor.glyphShort
open Go.ChangeShapes Go.WideShapes Go.ChangeAt Go.RowKit
open Go.ChangeMaps (open_string shut_string)
theorem own : ownKnob Tryd.prog.godebug = none := by kernel_rfl
set_option maxRecDepth 100000 in
theorem lifted (os : Os) (started : os.Started) (H : Type) (enc : TypeId × Value → H) :
    ReturnsInHanded {} Tryd.checked os 10 .any (fun w args => (Rows.glyphShortSpec.pre enc Tryd.prog Tryd.f10 Rows.glyphShortRow.domain false w args ∧ laidMetH Tryd.prog Rows.glyphShortRow.laid w) ∧ sizedMet enc Tryd.prog Tryd.f10 (OpenSpec.ofChange Rows.glyphShortSpec) false w args)
      (Rows.glyphShortSpec.post enc Tryd.prog Tryd.f10 false true false false) := by
  refine returnsInHanded_of_change_and (C := Tryd.checked) (X := fun w _ => laidMetH Tryd.prog Rows.glyphShortRow.laid w) (fun _ _ _ hh h => h.of_heap hh) own started (by kernel_rfl) Tryd.func10
    (ChangeSpec.witness_shaped (enc := enc) (C := Tryd.checked) (os := os) (X := fun w _ => laidMetH Tryd.prog Rows.glyphShortRow.laid w) false (World.laidAll Tryd.prog os Rows.glyphShortRow.laid) #[.int .u8 0] 8 (World.laidAll_os _ _ _)
      (World.shaped_of_ZipB (by kernel_rfl) (by kernel_rfl)) (by kernel_rfl) (by kernel_rfl) (by kernel_rfl)
      (by rw [MakeChecks.laidMetH_plain _ _ _ (by kernel_rfl)]; exact laidMet_laidAll _ (by kernel_rfl) (by kernel_rfl))) ?_
  intro W base args ds gs before hval0 hW _ _ hL _
  have hval : ∀ (j : Nat) t v, Tryd.f10.params[j]? = some t → args[j]? = some v → Value.okWide Tryd.prog W .any base t v := hval0
  have hW' := hW
  obtain ⟨p, q, hA0, hV, rfl, hfz, hnd⟩ := hW
  have hA : DataW.TrodAll enc Tryd.prog W 0 (fun _ => true) true Tryd.f10.params.toList args.toList ds p := hA0
  rw [Tryd.params10] at hA hval
  obtain ⟨v0, vs0, d0, ds0, p0, q0, hargs, rfl, rfl, h0, r0⟩ := trodAll_cons hA
  obtain ⟨rfl, rfl, rfl⟩ := trodAll_nil r0
  obtain rfl : args = #[v0] := by cases args; simp_all
  obtain ⟨rfl, rfl⟩ := trodVars_none hV
  obtain ⟨a0, rfl, rfl, rfl, w0⟩ := open_int Tryd.underlying5 (hval 0 5 v0 rfl rfl) h0
  have hLF := tabs_laid hL
  refine (glyphShort_walk a0 W w0 hLF).mono fun e W' ⟨he, bel⟩ => ?_
  subst he
  exact ⟨_, rfl, _, _, _, [], _, [], hW', trodAll_mk1 (shut_bool Tryd.underlying4 _), (trodAll_cons_mk (shut_int Tryd.underlying5 w0) trodAll_mk0), rfl, bel.frame _, fun h => by cases h⟩
theorem over : Rows.glyphShortRow.holds Tryd.pinned (OpenSpec.ofChange Rows.glyphShortSpec) :=
  OpenClaim.holds_of_wide 10 Tryd.f10 rfl rfl rfl rfl rfl rfl rfl ⟨rfl, rfl, rfl, rfl, rfl⟩ rfl rfl rfl rfl rfl (by kernel_rfl) Tryd.func10 (by kernel_rfl)
    (of_decide_eq_true (by kernel_rfl)) (by unfold Func.isWrapper; first | (rw [if_pos (by decide +kernel)]; kernel_rfl) | (rw [if_neg (by decide +kernel)]; exact ⟨rfl, rfl⟩))
    (fun os started H enc _ => lifted os started H enc)
theorem card : Rows.GlyphShortCardSaid :=
  Claim7.holds_tied_plain_at .later [] [.data, .pinned, .pinned] true (true, "8997b7ca5b9aadf95f02a1b32bf30f586cd5774f65f73148a006a57d44064d5a") false over (fun _ h => by cases h) (by kernel_rfl) (fun _ h => by cases h) glyphShort_row_tie rfl ⟨rfl, rfl⟩ (by kernel_rfl) rfl
    (fun f fn hf hfn => by
      obtain rfl : f = 10 := Option.some.inj ((show Tryd.prog.funcNamed "heliast/heliastlaw01.GlyphShort" = some 10 by kernel_rfl).symm.trans hf) |>.symm
      obtain rfl : fn = Tryd.f10 := (Option.some.inj (Tryd.func10.symm.trans hfn)).symm
      exact ⟨by kernel_rfl, fun j t ht => by
        rw [Tryd.params10] at ht
        have hm : t ∈ [5] := by simpa using Array.mem_of_getElem? ht
        have hall : ([5].all fun u => !Tryd.prog.wantsStandIn u) = true := by kernel_rfl
        exact (show Tryd.prog.wantsStandIn t = false by simpa using List.all_eq_true.1 hall t hm)⟩)
    (by kernel_rfl)
end Go.Proofs.YtpibbokkdjjgeaaDoor.glyphShort
namespace Go.Proofs.YtpibbokkdjjgeaaDoor
/-- The row, under a short name. -/
theorem glyphShort_holds : Rows.GlyphShortCardSaid := glyphShort.card
#print axioms glyphShort_holds
end Go.Proofs.YtpibbokkdjjgeaaDoor

