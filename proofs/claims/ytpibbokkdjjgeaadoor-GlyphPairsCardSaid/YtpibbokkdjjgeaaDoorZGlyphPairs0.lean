/-
  Texts of this session, merged in build order: GDec, Pgx10, Pgx11, Pgx12, GRefOne, GLLess, Pgx23, Pgx24, GHex, GLPairs, RGlyphPairs.
-/
import Derived.Test.YtpibbokkdjjgeaaDoorZC0
import Derived.Test.YtpibbokkdjjgeaaDoorRows
import Derived.Test.YtpibbokkdjjgeaaDoorCards
import Derived.Test.YtpibbokkdjjgeaaDoorTie
import Derived.LaidMore
import Derived.Lay
import Derived.SevenTiedAt
import Derived.Stop.Joined
set_option linter.unusedVariables false
set_option linter.unusedSimpArgs false
/-
  The decoder, plain: what stands behind a rune changes nothing of it; what is quoted is told again.
-/
namespace Go.Proofs.YtpibbokkdjjgeaaDoor
open Go.RowKit Go.Lib
set_option linter.unusedSimpArgs false
set_option linter.unusedVariables false
theorem decodeN_enc2 (n r x y : Nat) (hn : 1 < n) (h0 : 128 ≤ r) (h1 : r ≤ 2047) : decodeN n (192 + r / 64) (128 + r % 64) x y = (r, 2) := by
  unfold decodeN
  rw [if_neg (by omega), if_pos (by omega)]
  have e : (192 + r / 64) % 32 * 64 + (128 + r % 64) % 64 = r := by omega
  rw [e, if_pos (by omega)]
theorem decodeN_enc3 (n r y : Nat) (hn : 2 < n) (h0 : 2048 ≤ r) (h1 : r ≤ 65535) (h2 : r < 55296 ∨ 57343 < r) : decodeN n (224 + r / 4096) (128 + r / 64 % 64) (128 + r % 64) y = (r, 3) := by
  unfold decodeN
  rw [if_neg (by omega), if_neg (by omega), if_pos (by omega)]
  have e : (224 + r / 4096) % 16 * 4096 + (128 + r / 64 % 64) % 64 * 64 + (128 + r % 64) % 64 = r := by omega
  rw [e, if_pos (by omega)]
theorem decodeN_enc4 (n r : Nat) (hn : 3 < n) (h0 : 65536 ≤ r) (h1 : r ≤ 1114111) : decodeN n (240 + r / 262144) (128 + r / 4096 % 64) (128 + r / 64 % 64) (128 + r % 64) = (r, 4) := by
  unfold decodeN
  rw [if_neg (by omega), if_neg (by omega), if_neg (by omega), if_pos (by omega)]
  have e : (240 + r / 262144) % 8 * 262144 + (128 + r / 4096 % 64) % 64 * 4096 + (128 + r / 64 % 64) % 64 * 64 + (128 + r % 64) % 64 = r := by omega
  rw [e, if_pos (by omega)]
theorem at4_app (a s : List UInt8) (i : Nat) (h : i < a.length) : at4 (a ++ s) i = at4 a i := by
  unfold at4
  rw [List.getD_eq_getElem?_getD, List.getElem?_append_left h, ← List.getD_eq_getElem?_getD]
/-- What stands behind a rune changes nothing of it. -/
theorem dec_same (a b : List UInt8) (hv : vw a ≠ 0) (hl : vw a ≤ b.length) (hb : ∀ i, i < vw a → at4 b i = at4 a i) : dec b = dec a ∧ vw b = vw a := by
  obtain ⟨hne, hd, hw⟩ := vw_pos hv
  have key : dec b = dec a := by
    have ht := decodeN_told a.length (at4 a 0) (at4 a 1) (at4 a 2) (at4 a 3) (at4_lt _ _) (at4_lt _ _) (at4_lt _ _) (at4_lt _ _) hd
    have hwd : (decodeN a.length (at4 a 0) (at4 a 1) (at4 a 2) (at4 a 3)).2 = vw a := hw.symm
    have hda : dec a = ((decodeN a.length (at4 a 0) (at4 a 1) (at4 a 2) (at4 a 3)).1, vw a) := by
      rw [← hwd]
      rfl
    rw [hda]
    obtain ⟨r, hr⟩ : ∃ r, (decodeN a.length (at4 a 0) (at4 a 1) (at4 a 2) (at4 a 3)).1 = r := ⟨_, rfl⟩
    rw [hr, hwd] at ht
    rw [hr]
    unfold dec
    rcases ht with ⟨w, h1, h2⟩ | ⟨w, h1, h2, h3, h4, h5⟩ | ⟨w, h1, h2, h3, h4, h5, h6, h7⟩ | ⟨w, h1, h2, h3, h4, h5, h6, h7⟩
    · rw [w] at hb ⊢
      rw [hb 0 (by omega)]
      unfold decodeN
      rw [if_pos h1, h2]
    · rw [w] at hb hl ⊢
      rw [hb 0 (by omega), hb 1 (by omega), h4, h5]
      exact decodeN_enc2 _ _ _ _ (by omega) h2 h3
    · rw [w] at hb hl ⊢
      rw [hb 0 (by omega), hb 1 (by omega), hb 2 (by omega), h5, h6, h7]
      exact decodeN_enc3 _ _ _ (by omega) h2 h4 h3
    · rw [w] at hb hl ⊢
      rw [hb 0 (by omega), hb 1 (by omega), hb 2 (by omega), hb 3 (by omega), h4, h5, h6, h7]
      exact decodeN_enc4 _ _ (by omega) h2 h3
  refine ⟨key, ?_⟩
  have hbn : b ≠ [] := fun e => by rw [e] at hl; simp at hl; exact hv hl
  have : vw b = (dec b).2 := by
    unfold vw
    rw [if_neg]
    rintro (h | h)
    · exact hbn h
    · rw [key] at h; exact hd h
  rw [this, key, ← hw]
theorem dec_append (a s : List UInt8) (hv : vw a ≠ 0) : dec (a ++ s) = dec a ∧ vw (a ++ s) = vw a := by
  have h := (vw_le a).1
  exact dec_same a (a ++ s) hv (by rw [List.length_append]; omega) fun i hi => at4_app a s i (by omega)
/-- The bytes of a rune that is no ASCII are none of it. -/
theorem vw_high (a : List UInt8) (hv : vw a ≠ 0) (h0 : 128 ≤ at4 a 0) : 2 ≤ vw a ∧ ∀ i, i < vw a → 128 ≤ at4 a i := by
  obtain ⟨hne, hd, hw⟩ := vw_pos hv
  have ht := decodeN_told a.length (at4 a 0) (at4 a 1) (at4 a 2) (at4 a 3) (at4_lt _ _) (at4_lt _ _) (at4_lt _ _) (at4_lt _ _) hd
  have hwd : (decodeN a.length (at4 a 0) (at4 a 1) (at4 a 2) (at4 a 3)).2 = vw a := hw.symm
  rw [hwd] at ht
  have hcase : ∀ i, i < vw a → i = 0 ∨ i = 1 ∨ i = 2 ∨ i = 3 := fun i hi => by have := (vw_le a).2; omega
  rcases ht with ⟨w, h1, h2⟩ | ⟨w, h1, h2, h3, h4, h5⟩ | ⟨w, h1, h2, h3, h4, h5, h6, h7⟩ | ⟨w, h1, h2, h3, h4, h5, h6, h7⟩
  · omega
  · refine ⟨by omega, fun i hi => ?_⟩
    rcases hcase i hi with rfl | rfl | rfl | rfl <;> omega
  · refine ⟨by omega, fun i hi => ?_⟩
    rcases hcase i hi with rfl | rfl | rfl | rfl <;> omega
  · refine ⟨by omega, fun i hi => ?_⟩
    rcases hcase i hi with rfl | rfl | rfl | rfl <;> omega
theorem check_app : ∀ (n : Nat) (a s : List UInt8) (p : Nat), a.length ≤ n → checkF a p = none → checkF (a ++ s) p = checkF s (p + a.length)
  | 0, a, s, p, h, _ => by
    have : a = [] := List.length_eq_zero_iff.1 (by omega)
    rw [this]
    rfl
  | n + 1, a, s, p, h, hc => by
    by_cases hne : a = []
    · rw [hne]; rfl
    · rw [checkF_step] at hc
      by_cases hv : vw a = 0
      · rw [if_pos hv, if_neg hne] at hc
        cases hc
      · rw [if_neg hv] at hc
        have hle := (vw_le a).1
        have ih := check_app n (a.drop (vw a)) s (p + vw a) (by rw [List.length_drop]; omega) hc
        rw [checkF_step, (dec_append a s hv).2, if_neg hv, List.drop_append_of_le_length hle, ih, List.length_drop]
        congr 1
        omega
theorem runes_app : ∀ (n : Nat) (a s : List UInt8) (p : Nat), a.length ≤ n → checkF a p = none → runesF (a ++ s) = runesF a + runesF s
  | 0, a, s, p, h, _ => by
    have : a = [] := List.length_eq_zero_iff.1 (by omega)
    rw [this, runesF_step []]
    simp
  | n + 1, a, s, p, h, hc => by
    by_cases hne : a = []
    · rw [hne, runesF_step []]
      simp
    · rw [checkF_step] at hc
      by_cases hv : vw a = 0
      · rw [if_pos hv, if_neg hne] at hc
        cases hc
      · rw [if_neg hv] at hc
        have hle := (vw_le a).1
        have hw := (vw_pos hv).2.2
        have ih := runes_app n (a.drop (vw a)) s (p + vw a) (by rw [List.length_drop]; omega) hc
        rw [runesF_step (a ++ s), runesF_step a, if_neg (by simp [hne]), if_neg hne, (dec_append a s hv).1, ← hw, List.drop_append_of_le_length hle, ih]
        omega
/-! What is quoted is told again. -/
theorem quoteB_high (c : UInt8) (h : 128 ≤ c.toNat) : quoteB c = [c] := by
  have hs : signB c = 0 := by
    unfold signB
    have e : ∀ k : UInt8, k.toNat < 128 → c ≠ k := fun k hk e => by rw [e] at h; omega
    rw [if_neg (by rintro (h | h); exact e 34 (by decide) h; exact e 92 (by decide) h), if_neg (e 8 (by decide)), if_neg (e 9 (by decide)), if_neg (e 10 (by decide)), if_neg (e 12 (by decide)), if_neg (e 13 (by decide))]
  unfold quoteB
  rw [if_neg (by rw [hs]; simp), if_neg]
  intro h2
  have := UInt8.lt_iff_toNat_lt.1 h2
  simp at this
  omega
theorem quoteB_low : ∀ n : Fin 128, ∃ x t, quoteB (UInt8.ofNat n.val) = x :: t ∧ x.toNat < 128 := by
  intro n
  have h : ∀ n : Fin 128, ((quoteB (UInt8.ofNat n.val)).head?.map fun x => decide (x.toNat < 128)) = some true := by decide +kernel
  have := h n
  cases hq : quoteB (UInt8.ofNat n.val) with
  | nil => rw [hq] at this; cases this
  | cons x t =>
    rw [hq] at this
    simp only [List.head?_cons, Option.map_some, Option.some.injEq, decide_eq_true_eq] at this
    exact ⟨x, t, rfl, this⟩
/-- The bytes at the front that are no ASCII stand as they are. -/
theorem front_high : ∀ (s r : List UInt8) (w : Nat), (∀ i, i < w → 128 ≤ at4 (s.flatMap quoteB ++ 34 :: r) i) → w ≤ s.length ∧ ∀ i, i < w → at4 (s.flatMap quoteB ++ 34 :: r) i = at4 s i
  | s, r, 0, _ => ⟨Nat.zero_le _, fun i hi => by omega⟩
  | [], r, w + 1, h => by
    have := h 0 (by omega)
    exact absurd this (by show ¬ 128 ≤ (34 : UInt8).toNat; decide)
  | c :: t, r, w + 1, h => by
    by_cases hc : 128 ≤ c.toNat
    · have e : (c :: t).flatMap quoteB ++ 34 :: r = c :: (t.flatMap quoteB ++ 34 :: r) := by
        rw [List.flatMap_cons, quoteB_high c hc]
        rfl
      rw [e] at h ⊢
      have ih := front_high t r w fun i hi => h (i + 1) (by omega)
      refine ⟨by rw [List.length_cons]; omega, fun i hi => ?_⟩
      cases i with
      | zero => rfl
      | succ i => exact ih.2 i (by omega)
    · obtain ⟨x, y, e, hx⟩ := quoteB_low ⟨c.toNat, by omega⟩
      simp only [UInt8.ofNat_toNat] at e
      have h0 := h 0 (by omega)
      rw [List.flatMap_cons, e] at h0
      exact absurd h0 (by show ¬ 128 ≤ x.toNat; omega)
theorem back_high : ∀ (s r : List UInt8) (w : Nat), w ≤ s.length → (∀ i, i < w → 128 ≤ at4 s i) → (∀ i, i < w → at4 (s.flatMap quoteB ++ 34 :: r) i = at4 s i) ∧ (s.flatMap quoteB ++ 34 :: r).take w = s.take w ∧ (s.flatMap quoteB ++ 34 :: r).drop w = (s.drop w).flatMap quoteB ++ 34 :: r
  | s, r, 0, _, _ => ⟨fun i hi => by omega, by simp, by simp⟩
  | [], r, w + 1, h, _ => by simp at h
  | c :: t, r, w + 1, h, hh => by
    have hc : 128 ≤ c.toNat := hh 0 (by omega)
    have e : (c :: t).flatMap quoteB ++ 34 :: r = c :: (t.flatMap quoteB ++ 34 :: r) := by
      rw [List.flatMap_cons, quoteB_high c hc]
      rfl
    rw [List.length_cons] at h
    obtain ⟨h1, h2, h3⟩ := back_high t r w (by omega) fun i hi => hh (i + 1) (by omega)
    rw [e]
    refine ⟨fun i hi => ?_, ?_, ?_⟩
    · cases i with
      | zero => rfl
      | succ i => exact h1 i (by omega)
    · rw [List.take_succ_cons, List.take_succ_cons, h2]
    · rw [List.drop_succ_cons, List.drop_succ_cons, h3]
theorem vw_quoted (s r : List UInt8) (h0 : 128 ≤ at4 s 0) (hne : s ≠ []) : vw (s.flatMap quoteB ++ 34 :: r) = vw s := by
  have hl : 0 < s.length := List.length_pos_iff.2 hne
  by_cases hv : vw s = 0
  · rw [hv]
    cases hq : vw (s.flatMap quoteB ++ 34 :: r) with
    | zero => rfl
    | succ k =>
      exfalso
      have hq0 : vw (s.flatMap quoteB ++ 34 :: r) ≠ 0 := by omega
      have h1 := (back_high s r 1 (by omega) fun i hi => by have : i = 0 := by omega
                                                            rw [this]; exact h0).1 0 (by omega)
      have h2 := vw_high _ hq0 (by rw [h1]; exact h0)
      obtain ⟨h3, h4⟩ := front_high s r _ h2.2
      have h5 := dec_same _ s hq0 h3 fun i hi => (h4 i hi).symm
      rw [h5.2, hq] at hv
      omega
  · have h2 := vw_high s hv h0
    have h3 := (vw_le s).1
    obtain ⟨h4, h5, h6⟩ := back_high s r (vw s) h3 h2.2
    exact (dec_same s _ hv (by
      have := congrArg List.length h5
      rw [List.length_take, List.length_take] at this
      omega) h4).2
theorem sign_meant : ∀ n : Fin 256, signB (UInt8.ofNat n.val) ≠ 0 → meantB (signB (UInt8.ofNat n.val)) = some (UInt8.ofNat n.val) ∧ n.val < 128 := by decide +kernel
theorem short_told : ∀ n : Fin 32, hexL [48, 48, digB (n.val / 16), digB (n.val % 16)] 0 = some n.val := by decide +kernel
theorem encode_ascii (c : UInt8) (h : c.toNat < 128) : encodeRune (c.toNat : Int) = [c] := by
  unfold encodeRune
  rw [encodeRuneZ_one (by omega) (by omega)]
  show [(c.toNat : Int).toNat.toUInt8] = [c]
  rw [Int.toNat_natCast]
  simp
theorem back_told : ∀ (n : Nat) (s r acc : List UInt8) (p : Nat), s.length ≤ n → unqF (s.flatMap quoteB ++ 34 :: r) acc p = if checkF s 0 = none then some (acc ++ s, p + (s.flatMap quoteB).length + 1) else none
  | n, [], r, acc, p, _ => by
    rw [checkF_step, unqF_step]
    simp [vw]
  | 0, c :: t, r, acc, p, h => by simp at h
  | n + 1, c :: t, r, acc, p, h => by
    have hck : ∀ (m : Nat) (l : List UInt8) (p q : Nat), l.length ≤ m → (checkF l p = none ↔ checkF l q = none) := by
      intro m
      induction m with
      | zero =>
        intro l p q hl
        have : l = [] := List.length_eq_zero_iff.1 (by omega)
        rw [this, checkF_step, checkF_step [] q]
        simp [vw]
      | succ m ih =>
        intro l p q hl
        rw [checkF_step, checkF_step l q]
        by_cases hv : vw l = 0
        · rw [if_pos hv, if_pos hv]
          by_cases hn : l = []
          · rw [if_pos hn, if_pos hn]
          · rw [if_neg hn, if_neg hn]; simp
        · rw [if_neg hv, if_neg hv]
          have := (vw_le l).1
          exact ih _ _ _ (by rw [List.length_drop]; omega)
    by_cases hc : 128 ≤ c.toNat
    · have hq := vw_quoted (c :: t) r hc (by simp)
      obtain ⟨Q, hQ⟩ : ∃ Q, (c :: t).flatMap quoteB ++ 34 :: r = Q := ⟨_, rfl⟩
      have hQc : ∃ y, Q = c :: y := ⟨t.flatMap quoteB ++ 34 :: r, by rw [← hQ, List.flatMap_cons, quoteB_high c hc]; rfl⟩
      obtain ⟨y, hy⟩ := hQc
      have hne34 : ∀ k : UInt8, k.toNat < 128 → c ≠ k := fun k hk e => by rw [e] at hc; omega
      have hh : Q.head? = some c := by rw [hy]; rfl
      have ha : at4 Q 0 = c.toNat := by rw [hy]; rfl
      rw [hQ] at hq ⊢
      rw [unqF_step, hh, if_neg (fun e => hne34 34 (by decide) (Option.some.inj e)), if_neg (fun e => hne34 92 (by decide) (Option.some.inj e)), ha, if_neg (by omega), hq, checkF_step]
      by_cases hv : vw (c :: t) = 0
      · rw [if_pos hv, if_pos hv, if_neg (by simp)]
        try simp
      · have h2 := vw_high _ hv hc
        have h3 := (vw_le (c :: t)).1
        obtain ⟨h4, h5, h6⟩ := back_high (c :: t) r _ h3 h2.2
        rw [hQ] at h5 h6
        rw [if_neg hv, if_neg hv, h5, h6, back_told n ((c :: t).drop (vw (c :: t))) r _ _ (by rw [List.length_drop, List.length_cons] at *; omega)]
        have hiff := hck _ ((c :: t).drop (vw (c :: t))) 0 (0 + vw (c :: t)) (Nat.le_refl _)
        have hlen : ((c :: t).flatMap quoteB).length = vw (c :: t) + (((c :: t).drop (vw (c :: t))).flatMap quoteB).length := by
          have e1 : (c :: t).flatMap quoteB ++ 34 :: r = (c :: t).take (vw (c :: t)) ++ (((c :: t).drop (vw (c :: t))).flatMap quoteB ++ 34 :: r) := by
            rw [← h5, ← h6, hQ, List.take_append_drop]
          have e2 := congrArg List.length e1
          rw [List.length_append, List.length_append, List.length_append, List.length_take] at e2
          omega
        by_cases hz : checkF ((c :: t).drop (vw (c :: t))) 0 = none
        · rw [if_pos hz, if_pos (hiff.1 hz), hlen, List.append_assoc, List.take_append_drop]
          congr 2
          omega
        · rw [if_neg hz, if_neg (fun e => hz (hiff.2 e))]
    · have hcl : c.toNat < 128 := by omega
      have hiff := hck _ t 0 1 (Nat.le_refl _)
      have hcs : checkF (c :: t) 0 = checkF t 1 := by
        rw [checkF_step, (dec_ascii (c :: t) (by simp) hcl).2]
        rfl
      have ih := fun acc p => back_told n t r acc p (by rw [List.length_cons] at h; omega)
      rw [hcs, List.flatMap_cons, List.append_assoc, List.length_append]
      obtain ⟨T, hT⟩ : ∃ T, t.flatMap quoteB ++ 34 :: r = T := ⟨_, rfl⟩
      rw [hT] at ih ⊢
      have fin : ∀ k, (quoteB c).length = k → unqF T (acc ++ [c]) (p + k) = if checkF t 1 = none then some (acc ++ c :: t, p + (k + (t.flatMap quoteB).length) + 1) else none := fun k hk => by
        rw [ih]
        by_cases hz : checkF t 0 = none
        · rw [if_pos hz, if_pos (hiff.1 hz)]
          congr 2
          · simp
          · omega
        · rw [if_neg hz, if_neg (fun e => hz (hiff.2 e))]
      by_cases hs : signB c = 0
      · by_cases h32 : c.toNat < 32
        · have hq : quoteB c = [92, 117, 48, 48, digB (c.toNat / 16), digB (c.toNat % 16)] := by
            unfold quoteB
            rw [if_neg (by rw [hs]; simp), if_pos (UInt8.lt_iff_toNat_lt.2 h32)]
          have hl := fin 6 (by rw [hq]; rfl)
          rw [hq]
          have hE : escL (92 :: 117 :: 48 :: 48 :: digB (c.toNat / 16) :: digB (c.toNat % 16) :: T) = some (c.toNat, 6) := by
            unfold escL unitL
            have := short_told ⟨c.toNat, h32⟩
            simp only at this
            simp only [List.getElem?_cons_succ, List.getElem?_cons_zero, Option.bind_some, show meantB 117 = none from by decide, this]
            rw [if_neg (by omega), if_pos (by omega)]
          show unqF (92 :: 117 :: 48 :: 48 :: digB (c.toNat / 16) :: digB (c.toNat % 16) :: T) acc p = _
          rw [unqF_step, hE]
          simp only [List.head?_cons, show ¬ (some (92 : UInt8) = some 34) from by decide, if_false, if_true]
          rw [encode_ascii c hcl]
          exact hl
        · have hq : quoteB c = [c] := by
            unfold quoteB
            rw [if_neg (by rw [hs]; simp), if_neg (fun e => h32 (UInt8.lt_iff_toNat_lt.1 e))]
          have hl := fin 1 (by rw [hq]; rfl)
          rw [hq]
          have hn34 : c ≠ 34 := fun e => by rw [e] at hs; exact absurd hs (by decide)
          have hn92 : c ≠ 92 := fun e => by rw [e] at hs; exact absurd hs (by decide)
          show unqF (c :: T) acc p = _
          rw [unqF_step, (dec_ascii (c :: T) (by simp) hcl).2]
          simp only [List.head?_cons, Option.some.injEq, hn34, hn92, if_false]
          rw [if_neg (show ¬ at4 (c :: T) 0 < 32 from h32), if_neg (by omega)]
          exact hl
      · obtain ⟨hm, _⟩ := sign_meant ⟨c.toNat, c.toNat_lt⟩ (by simpa using hs)
        simp only [UInt8.ofNat_toNat] at hm
        have hq : quoteB c = [92, signB c] := by
          unfold quoteB
          rw [if_pos hs]
        have hl := fin 2 (by rw [hq]; rfl)
        rw [hq]
        have hE : escL (92 :: signB c :: T) = some (c.toNat, 2) := by
          unfold escL
          simp only [List.getElem?_cons_succ, List.getElem?_cons_zero, Option.bind_some, hm]
        show unqF (92 :: signB c :: T) acc p = _
        rw [unqF_step, hE]
        simp only [List.head?_cons, show ¬ (some (92 : UInt8) = some 34) from by decide, if_false, if_true]
        rw [encode_ascii c hcl]
        exact hl
/-- There and back. -/
theorem unquote_quote (s r : List UInt8) : unquoteL (quoteL s ++ r) = if checkF s 0 = none then (s, (quoteL s).length) else ([], 0) := by
  unfold quoteL
  show (unqF (s.flatMap quoteB ++ [34] ++ r) [] 1).getD ([], 0) = _
  rw [List.append_assoc, show [34] ++ r = 34 :: r from rfl, back_told _ s r [] 1 (Nat.le_refl _)]
  split
  · rw [Option.getD_some, List.nil_append, List.length_cons, List.length_append]
    congr 1
    simp
    omega
  · rfl
end Go.Proofs.YtpibbokkdjjgeaaDoor

/-
  What the functions of these laws compute, as plain Lean functions, and that the machine's calls compute it: written by this session's own hook over the kit's print.
-/
namespace Go.Proofs.YtpibbokkdjjgeaaDoor.Pg
open Go.RowKit Go.Proofs.YtpibbokkdjjgeaaDoorW.PrintWords Go.Proofs.YtpibbokkdjjgeaaDoorW.PrintLast Go.Proofs.YtpibbokkdjjgeaaDoorW.PrintMore
attribute [local go_sem] max2_int min2_int max_two min_two max_three min_three max_four min_four   -- for this text's walks alone
set_option linter.unusedVariables false
set_option linter.unusedSimpArgs false

/-! ### heliastref01_more: function 47 -/
mutual
def heliastref01_more.j0 : Nat → Int → Bool → Option (Int)
  | 0, _, _ => none
  | k + 1, x0, x6 => if x6 = true then (some 1) else (if x0 ≥ 224 then (heliastref01_more.j1 k x0 (decide (x0 ≤ 239))) else (heliastref01_more.j1 k x0 false))
def heliastref01_more.j1 : Nat → Int → Bool → Option (Int)
  | 0, _, _ => none
  | k + 1, x0, x13 => if x13 = true then (some 2) else (if x0 ≥ 240 then (if x0 ≤ 244 then (some 3) else (some (-1))) else (some (-1)))
end
def heliastref01_more.f (k : Nat) (a0 : Int) : Option (Int) := if a0 < 128 then (some 0) else (if a0 ≥ 194 then (heliastref01_more.j0 k a0 (decide (a0 ≤ 223))) else (heliastref01_more.j0 k a0 false))
theorem heliastref01_more.mono_l : ∀ k, (∀ y0 y1, LeO (heliastref01_more.j0 k y0 y1) (heliastref01_more.j0 (k + 1) y0 y1)) ∧ (∀ y0 y1, LeO (heliastref01_more.j1 k y0 y1) (heliastref01_more.j1 (k + 1) y0 y1))
  | 0 => ⟨fun _ _ r h => by simp [heliastref01_more.j0] at h, fun _ _ r h => by simp [heliastref01_more.j1] at h⟩
  | k + 1 => by
    obtain ⟨ih0, ih1⟩ := heliastref01_more.mono_l k
    refine ⟨?_, ?_⟩
    · intro y0 y1
      unfold heliastref01_more.j0
      repeat' first
      | (with_reducible exact ih0 _ _)
      | (with_reducible exact ih1 _ _)
      | (with_reducible exact LeO.refl _)
      | (with_reducible exact LeO.none _)
      | (with_reducible refine LeO.ite ?_ ?_)
      | (with_reducible refine LeO.bind ?_ (fun _ => ?_))
      | exact ih0 _ _
      | exact ih1 _ _
      | exact LeO.none _
      | refine LeO.ite ?_ ?_
      | refine LeO.bind ?_ (fun _ => ?_)
    · intro y0 y1
      unfold heliastref01_more.j1
      repeat' first
      | (with_reducible exact ih0 _ _)
      | (with_reducible exact ih1 _ _)
      | (with_reducible exact LeO.refl _)
      | (with_reducible exact LeO.none _)
      | (with_reducible refine LeO.ite ?_ ?_)
      | (with_reducible refine LeO.bind ?_ (fun _ => ?_))
      | exact ih0 _ _
      | exact ih1 _ _
      | exact LeO.none _
      | refine LeO.ite ?_ ?_
      | refine LeO.bind ?_ (fun _ => ?_)
theorem heliastref01_more.mono : ∀ a0 k, LeO (heliastref01_more.f k a0) (heliastref01_more.f (k + 1) a0) := by
  intro a0 k
  obtain ⟨ih0, ih1⟩ := heliastref01_more.mono_l k
  unfold heliastref01_more.f
  repeat' first
      | (with_reducible exact ih0 _ _)
      | (with_reducible exact ih1 _ _)
      | (with_reducible exact LeO.refl _)
      | (with_reducible exact LeO.none _)
      | (with_reducible refine LeO.ite ?_ ?_)
      | (with_reducible refine LeO.bind ?_ (fun _ => ?_))
      | exact ih0 _ _
      | exact ih1 _ _
      | exact LeO.none _
      | refine LeO.ite ?_ ?_
      | refine LeO.bind ?_ (fun _ => ?_)
set_option maxHeartbeats 8000000 in
set_option maxRecDepth 100000 in
theorem heliastref01_more.calls (k : Nat) (a0 : Int) (r : Int) (w : World) (h : heliastref01_more.f k a0 = some r) :
    Calls Tryd.prog 47 #[.int .u8 a0] w fun e w' => e = .returned (.int .i64 r) ∧ Drawn0 w w' := by
  have H : (if a0 < 128 then (some 0) else (if a0 ≥ 194 then (heliastref01_more.j0 k a0 (decide (a0 ≤ 223))) else (heliastref01_more.j0 k a0 false))) = some r := h
  clear h
  by_cases c2 : a0 < 128
  · rw [if_pos c2] at H
    have c2b0 : decide (a0 < 128) = true := decide_eq_true c2
    clear c2
    obtain rfl := Option.some.inj H
    go_enter Tryd.func47, Tryd.ntmps47
    go_wp2
    go_ret
    exact ⟨by first | rfl | (simp; done) | (simp [*]; done), by repeat (first | exact Drawn0.refl _ | apply Drawn0.step)⟩
  · rw [if_neg c2] at H
    have c2b0 : decide (a0 < 128) = false := decide_eq_false c2
    clear c2
    have HC3 := Aside0.mk H
    clear H
    go_enter Tryd.func47, Tryd.ntmps47
    go_upto_region 3 with (fail)
    go_cut [6] (fun v6 wc => ∃ (kq : Nat) (x6_2 : Bool), v6 = .bool x6_2 ∧ Aside0 (heliastref01_more.j0 kq a0 x6_2 = some r) ∧ Aside0 (kq ≤ k) ∧ Drawn0 w wc)
    case first =>
      have H := HC3.out
      clear HC3
      by_cases c4 : a0 ≥ 194
      · rw [if_pos c4] at H
        have c4b0 : decide (194 ≤ a0) = true := decide_eq_true c4
        clear c4
        (first | rw [c4b0] | rw [c4b1] | (simp only [i64_w, i32_w]; rw [c4b0]) | skip)
        have H' := Aside0.mk H
        clear H
        go_wp2
        go_meet
        case rel => exact ⟨_, (decide (a0 ≤ 223)), (by first | rfl | (simp; done) | (simp [*]; done)), H', ⟨by first | omega | exact Nat.le_refl _⟩, by repeat (first | exact Drawn0.refl _ | apply Drawn0.step)⟩
      · rw [if_neg c4] at H
        have c4b0 : decide (194 ≤ a0) = false := decide_eq_false c4
        clear c4
        (first | rw [c4b0] | rw [c4b1] | (simp only [i64_w, i32_w]; rw [c4b0]) | skip)
        have H' := Aside0.mk H
        clear H
        go_wp2
        go_meet
        case rel => exact ⟨_, (false), (by first | rfl | (simp; done) | (simp [*]; done)), H', ⟨by first | omega | exact Nat.le_refl _⟩, by repeat (first | exact Drawn0.refl _ | apply Drawn0.step)⟩
    case rest =>
      clear HC3
      try clear c2
      try clear c2b0
      try clear p2
      try clear c4
      try clear c4b0
      obtain ⟨kq, x6_2, rfl, HA, HJ2, ⟨mc2, rfl⟩⟩ := hcut
      cases kq with
      | zero => exact absurd HA.out (by simp [heliastref01_more.j0])
      | succ kj2 =>
        have H := HA.out
        clear HA
        simp only [heliastref01_more.j0] at H
        by_cases c5 : x6_2 = true
        · subst c5
          have H1 : (some 1) = some r := by rw [if_pos rfl] at H; exact H
          clear H
          have H := H1
          clear H1
          obtain rfl := Option.some.inj H
          go_wp2
          go_ret
          exact ⟨by first | rfl | (simp; done) | (simp [*]; done), by repeat (first | exact Drawn0.refl _ | apply Drawn0.step)⟩
        · replace c5 := Bool.eq_false_iff.mpr c5
          subst c5
          have H1 : (if a0 ≥ 224 then (heliastref01_more.j1 kj2 a0 (decide (a0 ≤ 239))) else (heliastref01_more.j1 kj2 a0 false)) = some r := by rw [if_neg (show ¬ (false = true) by decide)] at H; exact H
          clear H
          have H := H1
          clear H1
          have HC6 := Aside0.mk H
          clear H
          go_upto_region 5 with (fail)
          go_cut [13] (fun v13 wc => ∃ (kq : Nat) (x13_5 : Bool), v13 = .bool x13_5 ∧ Aside0 (heliastref01_more.j1 kq a0 x13_5 = some r) ∧ Aside0 (kq ≤ kj2) ∧ Drawn0 w wc)
          case first =>
            have H := HC6.out
            clear HC6
            by_cases c7 : a0 ≥ 224
            · rw [if_pos c7] at H
              have c7b0 : decide (224 ≤ a0) = true := decide_eq_true c7
              clear c7
              (first | rw [c7b0] | rw [c7b1] | (simp only [i64_w, i32_w]; rw [c7b0]) | skip)
              have H' := Aside0.mk H
              clear H
              go_wp2
              go_meet
              case rel => exact ⟨_, (decide (a0 ≤ 239)), (by first | rfl | (simp; done) | (simp [*]; done)), H', ⟨by have := HJ2.out; first | omega | exact Nat.le_refl _⟩, by repeat (first | exact Drawn0.refl _ | apply Drawn0.step)⟩
            · rw [if_neg c7] at H
              have c7b0 : decide (224 ≤ a0) = false := decide_eq_false c7
              clear c7
              (first | rw [c7b0] | rw [c7b1] | (simp only [i64_w, i32_w]; rw [c7b0]) | skip)
              have H' := Aside0.mk H
              clear H
              go_wp2
              go_meet
              case rel => exact ⟨_, (false), (by first | rfl | (simp; done) | (simp [*]; done)), H', ⟨by have := HJ2.out; first | omega | exact Nat.le_refl _⟩, by repeat (first | exact Drawn0.refl _ | apply Drawn0.step)⟩
          case rest =>
            clear HC6
            try clear c2
            try clear c2b0
            try clear p2
            try clear c4
            try clear c4b0
            try clear c5
            try clear c7
            try clear c7b0
            try clear p2
            obtain ⟨kq, x13_5, rfl, HA, HJ5, ⟨mc5, rfl⟩⟩ := hcut
            cases kq with
            | zero => exact absurd HA.out (by simp [heliastref01_more.j1])
            | succ kj5 =>
              have H := HA.out
              clear HA
              simp only [heliastref01_more.j1] at H
              by_cases c8 : x13_5 = true
              · subst c8
                have H1 : (some 2) = some r := by rw [if_pos rfl] at H; exact H
                clear H
                have H := H1
                clear H1
                obtain rfl := Option.some.inj H
                go_wp2
                go_ret
                exact ⟨by first | rfl | (simp; done) | (simp [*]; done), by repeat (first | exact Drawn0.refl _ | apply Drawn0.step)⟩
              · replace c8 := Bool.eq_false_iff.mpr c8
                subst c8
                have H1 : (if a0 ≥ 240 then (if a0 ≤ 244 then (some 3) else (some (-1))) else (some (-1))) = some r := by rw [if_neg (show ¬ (false = true) by decide)] at H; exact H
                clear H
                have H := H1
                clear H1
                by_cases c9 : a0 ≥ 240
                · rw [if_pos c9] at H
                  have c9b0 : decide (240 ≤ a0) = true := decide_eq_true c9
                  clear c9
                  by_cases c10 : a0 ≤ 244
                  · rw [if_pos c10] at H
                    have c10b0 : decide (a0 ≤ 244) = true := decide_eq_true c10
                    clear c10
                    obtain rfl := Option.some.inj H
                    go_wp2
                    go_ret
                    exact ⟨by first | rfl | (simp; done) | (simp [*]; done), by repeat (first | exact Drawn0.refl _ | apply Drawn0.step)⟩
                  · rw [if_neg c10] at H
                    have c10b0 : decide (a0 ≤ 244) = false := decide_eq_false c10
                    clear c10
                    obtain rfl := Option.some.inj H
                    go_wp2
                    go_ret
                    exact ⟨by first | rfl | (simp; done) | (simp [*]; done), by repeat (first | exact Drawn0.refl _ | apply Drawn0.step)⟩
                · rw [if_neg c9] at H
                  have c9b0 : decide (240 ≤ a0) = false := decide_eq_false c9
                  clear c9
                  obtain rfl := Option.some.inj H
                  go_wp2
                  go_ret
                  exact ⟨by first | rfl | (simp; done) | (simp [*]; done), by repeat (first | exact Drawn0.refl _ | apply Drawn0.step)⟩

end Go.Proofs.YtpibbokkdjjgeaaDoor.Pg

/-
  What the functions of these laws compute, as plain Lean functions, and that the machine's calls compute it: written by this session's own hook over the kit's print.
-/
namespace Go.Proofs.YtpibbokkdjjgeaaDoor.Pg
open Go.RowKit Go.Proofs.YtpibbokkdjjgeaaDoorW.PrintWords Go.Proofs.YtpibbokkdjjgeaaDoorW.PrintLast Go.Proofs.YtpibbokkdjjgeaaDoorW.PrintMore
attribute [local go_sem] max2_int min2_int max_two min_two max_three min_three max_four min_four   -- for this text's walks alone
set_option linter.unusedVariables false
set_option linter.unusedSimpArgs false

/-! ### heliastref01_One: function 37 -/
mutual
def heliastref01_One.j0 : Nat → ByteArray → Bool → Option (Int)
  | 0, _, _ => none
  | k + 1, x0, x22 => if x22 = true then (some 0) else (if 0 < (x0.size : Int) then ((heliastref01_more.f k (bt x0 0)).bind fun t159 => (if t159 > 0 then (if 0 ≤ (IntKind.u64.wrap (t159)) then (if (shr .i64 64 (IntKind.u64.wrap (t159))) = 0 then (none) else (heliastref01_One.j1 k x0 t159 (Int.tmod (wrap64 (bt x0 0)) (shr .i64 64 (IntKind.u64.wrap (t159)))))) else (none)) else (heliastref01_One.j1 k x0 t159 (wrap64 (bt x0 0))))) else (none))
def heliastref01_One.j1 : Nat → ByteArray → Int → Int → Option (Int)
  | 0, _, _, _ => none
  | k + 1, x0, x3, x4 => heliastref01_One.l0 k x0 x3 x4 1
def heliastref01_One.l0 : Nat → ByteArray → Int → Int → Int → Option (Int)
  | 0, _, _, _, _ => none
  | k + 1, x0, x3, x4, x5 => if x5 ≤ x3 then (if 0 ≤ x5 then (if x5 < (x0.size : Int) then (if (bt x0 x5) < 128 then (some 0) else (if (bt x0 x5) > 191 then (some 0) else (heliastref01_One.l0 k x0 x3 (wrap64 ((wrap64 (64 * x4)) + (wrap64 (Int.tmod (bt x0 x5) 64)))) (wrap64 (x5 + 1))))) else (none)) else (none)) else ((some (([0, 128, 2048, 65536] : List Int) : List Int)).bind fun y160 => (if 0 ≤ x3 then (if x3 < (y160.length : Int) then (if x4 < (rd y160 x3) then (some 0) else (if x4 ≥ 55296 then (if x4 ≤ 57343 then (some 0) else (if x4 > 1114111 then (some 0) else (some (wrap64 (x3 + 1))))) else (if x4 > 1114111 then (some 0) else (some (wrap64 (x3 + 1)))))) else (none)) else (none)))
end
def heliastref01_One.f (k : Nat) (a0 : ByteArray) : Option (Int) := if a0.toList = ([] : List UInt8) then (heliastref01_One.j0 k a0 true) else (if 0 < (a0.size : Int) then ((heliastref01_more.f k (bt a0 0)).bind fun t157 => (if t157 < 0 then (heliastref01_One.j0 k a0 true) else ((heliastref01_more.f k (bt a0 0)).bind fun t158 => (heliastref01_One.j0 k a0 (decide (t158 ≥ (a0.size : Int))))))) else (none))
theorem heliastref01_One.mono_l : ∀ k, (∀ y0 y1, LeO (heliastref01_One.j0 k y0 y1) (heliastref01_One.j0 (k + 1) y0 y1)) ∧ (∀ y0 y1 y2, LeO (heliastref01_One.j1 k y0 y1 y2) (heliastref01_One.j1 (k + 1) y0 y1 y2)) ∧ (∀ y0 y1 y2 y3, LeO (heliastref01_One.l0 k y0 y1 y2 y3) (heliastref01_One.l0 (k + 1) y0 y1 y2 y3))
  | 0 => ⟨fun _ _ r h => by simp [heliastref01_One.j0] at h, fun _ _ _ r h => by simp [heliastref01_One.j1] at h, fun _ _ _ _ r h => by simp [heliastref01_One.l0] at h⟩
  | k + 1 => by
    obtain ⟨ih0, ih1, ih2⟩ := heliastref01_One.mono_l k
    refine ⟨?_, ?_, ?_⟩
    · intro y0 y1
      unfold heliastref01_One.j0
      repeat' first
      | (with_reducible exact ih0 _ _)
      | (with_reducible exact ih1 _ _ _)
      | (with_reducible exact ih2 _ _ _ _)
      | (with_reducible exact heliastref01_more.mono _ _)
      | (with_reducible exact LeO.refl _)
      | (with_reducible exact LeO.none _)
      | (with_reducible refine LeO.ite ?_ ?_)
      | (with_reducible refine LeO.bind ?_ (fun _ => ?_))
      | exact ih0 _ _
      | exact ih1 _ _ _
      | exact ih2 _ _ _ _
      | exact heliastref01_more.mono _ _
      | exact LeO.none _
      | refine LeO.ite ?_ ?_
      | refine LeO.bind ?_ (fun _ => ?_)
    · intro y0 y1 y2
      unfold heliastref01_One.j1
      repeat' first
      | (with_reducible exact ih0 _ _)
      | (with_reducible exact ih1 _ _ _)
      | (with_reducible exact ih2 _ _ _ _)
      | (with_reducible exact heliastref01_more.mono _ _)
      | (with_reducible exact LeO.refl _)
      | (with_reducible exact LeO.none _)
      | (with_reducible refine LeO.ite ?_ ?_)
      | (with_reducible refine LeO.bind ?_ (fun _ => ?_))
      | exact ih0 _ _
      | exact ih1 _ _ _
      | exact ih2 _ _ _ _
      | exact heliastref01_more.mono _ _
      | exact LeO.none _
      | refine LeO.ite ?_ ?_
      | refine LeO.bind ?_ (fun _ => ?_)
    · intro y0 y1 y2 y3
      unfold heliastref01_One.l0
      repeat' first
      | (with_reducible exact ih0 _ _)
      | (with_reducible exact ih1 _ _ _)
      | (with_reducible exact ih2 _ _ _ _)
      | (with_reducible exact heliastref01_more.mono _ _)
      | (with_reducible exact LeO.refl _)
      | (with_reducible exact LeO.none _)
      | (with_reducible refine LeO.ite ?_ ?_)
      | (with_reducible refine LeO.bind ?_ (fun _ => ?_))
      | exact ih0 _ _
      | exact ih1 _ _ _
      | exact ih2 _ _ _ _
      | exact heliastref01_more.mono _ _
      | exact LeO.none _
      | refine LeO.ite ?_ ?_
      | refine LeO.bind ?_ (fun _ => ?_)
theorem heliastref01_One.mono : ∀ a0 k, LeO (heliastref01_One.f k a0) (heliastref01_One.f (k + 1) a0) := by
  intro a0 k
  obtain ⟨ih0, ih1, ih2⟩ := heliastref01_One.mono_l k
  unfold heliastref01_One.f
  repeat' first
      | (with_reducible exact ih0 _ _)
      | (with_reducible exact ih1 _ _ _)
      | (with_reducible exact ih2 _ _ _ _)
      | (with_reducible exact heliastref01_more.mono _ _)
      | (with_reducible exact LeO.refl _)
      | (with_reducible exact LeO.none _)
      | (with_reducible refine LeO.ite ?_ ?_)
      | (with_reducible refine LeO.bind ?_ (fun _ => ?_))
      | exact ih0 _ _
      | exact ih1 _ _ _
      | exact ih2 _ _ _ _
      | exact heliastref01_more.mono _ _
      | exact LeO.none _
      | refine LeO.ite ?_ ?_
      | refine LeO.bind ?_ (fun _ => ?_)
set_option maxHeartbeats 8000000 in
set_option maxRecDepth 100000 in
theorem heliastref01_One.calls (k : Nat) (a0 : ByteArray) (r : Int) (w : World) (h : heliastref01_One.f k a0 = some r) :
    Calls Tryd.prog 37 #[.string a0] w fun e w' => e = .returned (.int .i64 r) ∧ Below w.heap.size w w' := by
  have HB := Aside0.mk (Below.refl w.heap.size w)
  have H : (if a0.toList = ([] : List UInt8) then (heliastref01_One.j0 k a0 true) else (if 0 < (a0.size : Int) then ((heliastref01_more.f k (bt a0 0)).bind fun t157 => (if t157 < 0 then (heliastref01_One.j0 k a0 true) else ((heliastref01_more.f k (bt a0 0)).bind fun t158 => (heliastref01_One.j0 k a0 (decide (t158 ≥ (a0.size : Int))))))) else (none))) = some r := h
  clear h
  have HC2 := Aside0.mk H
  clear H
  go_enter Tryd.func37, Tryd.ntmps37
  go_upto_region 1 with (fail)
  go_cut [22] (fun v22 wc => ∃ (kq : Nat) (x22_1 : Bool), v22 = .bool x22_1 ∧ Aside0 (heliastref01_One.j0 kq a0 x22_1 = some r) ∧ Aside0 (kq ≤ k) ∧ Aside0 (Below w.heap.size w wc))
  case first =>
    have H := HC2.out
    clear HC2
    by_cases c3 : a0.toList = ([] : List UInt8)
    · rw [if_pos c3] at H
      have c3b0 : (a0.toList == ([] : List UInt8)) = true := beq_iff_eq.mpr c3
      have c3b1 : (a0.toList != ([] : List UInt8)) = false := bne_eq_false_iff_eq.mpr c3
      clear c3
      (first | rw [c3b0] | rw [c3b1] | (simp only [i64_w, i32_w]; rw [c3b0]) | skip)
      have H' := Aside0.mk H
      clear H
      go_wp2
      go_meet
      case rel => exact ⟨_, (true), (by first | rfl | (simp; done) | (simp [*]; done)), H', ⟨by first | omega | exact Nat.le_refl _⟩, ⟨by repeat (first | (with_reducible first | exact HB.out | apply below_alloc | apply pw_below_drewN | apply below_drew1) | exact HB.out)⟩⟩
    · rw [if_neg c3] at H
      have c3b0 : (a0.toList == ([] : List UInt8)) = false := beq_eq_false_iff_ne.mpr c3
      have c3b1 : (a0.toList != ([] : List UInt8)) = true := bne_iff_ne.mpr c3
      (first | rw [c3b0] | rw [c3b1] | (simp only [i64_w, i32_w]; rw [c3b0]) | skip)
      by_cases c4 : 0 < (a0.size : Int)
      · rw [if_pos c4] at H
        have c4b0 : decide (0 < (a0.size : Int)) = true := decide_eq_true c4
        have c4b1 : decide (0 < a0.size) = true := decide_eq_true (by omega)
        clear c4
        replace H := Option.bind_eq_some_iff.mp H
        obtain ⟨t157, A60, H⟩ := H
        replace H : (if t157 < 0 then (heliastref01_One.j0 k a0 true) else ((heliastref01_more.f k (bt a0 0)).bind fun t158 => (heliastref01_One.j0 k a0 (decide (t158 ≥ (a0.size : Int)))))) = some r := H
        have A6 := Aside0.mk A60
        clear A60
        by_cases c7 : t157 < 0
        · rw [if_pos c7] at H
          have c7b0 : decide (t157 < 0) = true := decide_eq_true c7
          clear c7
          have H' := Aside0.mk H
          clear H
          have p5 : 0 ≤ (0 : Int) := (by omega)
          have q5 : 0 < a0.size := (by have : (0 : Int) < (a0.size : Int) := of_decide_eq_true (by first | (with_reducible assumption) | assumption); omega)
          have hx5 : ∀ h : 0 < a0.size, ((a0[0]'h).toNat : Int) = bt a0 0 := bt_at a0 0
          clear p5
          have qi5 : (0 < (a0.size : Int)) = True := eq_true (of_decide_eq_true (by first | (with_reducible assumption) | assumption))
          replace q5 := eq_true q5
          go_wp2_with (first | (go_at_call 47; (with_reducible refine (heliastref01_more.calls k (bt a0 0) t157 _ A6.out).mono ?_); rintro e w' ⟨rfl, ⟨nd, rfl⟩⟩))
          go_meet
          case rel => exact ⟨_, (true), (by first | rfl | (simp; done) | (simp [*]; done)), H', ⟨by first | omega | exact Nat.le_refl _⟩, ⟨by repeat (first | (with_reducible first | exact HB.out | apply below_alloc | apply pw_below_drewN | apply below_drew1) | exact HB.out)⟩⟩
        · rw [if_neg c7] at H
          have c7b0 : decide (t157 < 0) = false := decide_eq_false c7
          clear c7
          replace H := Option.bind_eq_some_iff.mp H
          obtain ⟨t158, A90, H⟩ := H
          replace H : (heliastref01_One.j0 k a0 (decide (t158 ≥ (a0.size : Int)))) = some r := H
          have A9 := Aside0.mk A90
          clear A90
          have eqt0 : t158 = t157 := Option.some.inj (A9.out.symm.trans A6.out)
          subst eqt0
          have H' := Aside0.mk H
          clear H
          have p5 : 0 ≤ (0 : Int) := (by omega)
          have q5 : 0 < a0.size := (by have : (0 : Int) < (a0.size : Int) := of_decide_eq_true (by first | (with_reducible assumption) | assumption); omega)
          have hx5 : ∀ h : 0 < a0.size, ((a0[0]'h).toNat : Int) = bt a0 0 := bt_at a0 0
          clear p5
          have qi5 : (0 < (a0.size : Int)) = True := eq_true (of_decide_eq_true (by first | (with_reducible assumption) | assumption))
          replace q5 := eq_true q5
          go_wp2_with (first | (go_at_call 47; (with_reducible refine (heliastref01_more.calls k (bt a0 0) t157 _ A6.out).mono ?_); rintro e w' ⟨rfl, ⟨nd, rfl⟩⟩; have p8 : 0 ≤ (0 : Int) := (by omega); have q8 : 0 < a0.size := (by have : (0 : Int) < (a0.size : Int) := of_decide_eq_true (by first | (with_reducible assumption) | assumption); omega); have hx8 : ∀ h : 0 < a0.size, ((a0[0]'h).toNat : Int) = bt a0 0 := bt_at a0 0; clear p8; have qi8 : (0 < (a0.size : Int)) = True := eq_true (of_decide_eq_true (by first | (with_reducible assumption) | assumption)); replace q8 := eq_true q8) | (go_at_call 47; (with_reducible refine (heliastref01_more.calls k (bt a0 0) t158 _ A9.out).mono ?_); rintro e w' ⟨rfl, ⟨nd, rfl⟩⟩))
          go_meet
          case rel => exact ⟨_, (decide (t158 ≥ (a0.size : Int))), (by first | rfl | (simp; done) | (simp [*]; done)), H', ⟨by first | omega | exact Nat.le_refl _⟩, ⟨by repeat (first | (with_reducible first | exact HB.out | apply below_alloc | apply pw_below_drewN | apply below_drew1) | exact HB.out)⟩⟩
      · rw [if_neg c4] at H
        exact absurd H (by simp)
  case rest =>
    clear HC2
    try clear p2
    try clear c3
    try clear c3b0
    try clear c3b1
    try clear c4
    try clear c4b0
    try clear c4b1
    try clear p5
    try clear q5
    try clear hx5
    try clear qi5
    try clear c7
    try clear c7b0
    try clear p8
    try clear q8
    try clear hx8
    try clear qi8
    try clear p5
    try clear p8
    try clear q5
    try clear q8
    obtain ⟨kq, x22_1, rfl, HA, HJ1, HB⟩ := hcut
    cases kq with
    | zero => exact absurd HA.out (by simp [heliastref01_One.j0])
    | succ kj1 =>
      have H := HA.out
      clear HA
      simp only [heliastref01_One.j0] at H
      by_cases c10 : x22_1 = true
      · subst c10
        have H1 : (some 0) = some r := by rw [if_pos rfl] at H; exact H
        clear H
        have H := H1
        clear H1
        obtain rfl := Option.some.inj H
        go_wp2
        go_ret
        exact ⟨by first | rfl | (simp [errW_none, errW_some] <;> rfl) | (simp [*, errW_none, errW_some] <;> rfl), by repeat (first | (with_reducible first | exact HB.out | apply below_alloc | apply pw_below_drewN | apply below_drew1) | exact HB.out)⟩
      · replace c10 := Bool.eq_false_iff.mpr c10
        subst c10
        have H1 : (if 0 < (a0.size : Int) then ((heliastref01_more.f kj1 (bt a0 0)).bind fun t159 => (if t159 > 0 then (if 0 ≤ (IntKind.u64.wrap (t159)) then (if (shr .i64 64 (IntKind.u64.wrap (t159))) = 0 then (none) else (heliastref01_One.j1 kj1 a0 t159 (Int.tmod (wrap64 (bt a0 0)) (shr .i64 64 (IntKind.u64.wrap (t159)))))) else (none)) else (heliastref01_One.j1 kj1 a0 t159 (wrap64 (bt a0 0))))) else (none)) = some r := by rw [if_neg (show ¬ (false = true) by decide)] at H; exact H
        clear H
        have H := H1
        clear H1
        by_cases c11 : 0 < (a0.size : Int)
        · rw [if_pos c11] at H
          have c11b0 : decide (0 < (a0.size : Int)) = true := decide_eq_true c11
          have c11b1 : decide (0 < a0.size) = true := decide_eq_true (by omega)
          clear c11
          replace H := Option.bind_eq_some_iff.mp H
          obtain ⟨t159, A130, H⟩ := H
          replace H : (if t159 > 0 then (if 0 ≤ (IntKind.u64.wrap (t159)) then (if (shr .i64 64 (IntKind.u64.wrap (t159))) = 0 then (none) else (heliastref01_One.j1 kj1 a0 t159 (Int.tmod (wrap64 (bt a0 0)) (shr .i64 64 (IntKind.u64.wrap (t159)))))) else (none)) else (heliastref01_One.j1 kj1 a0 t159 (wrap64 (bt a0 0)))) = some r := H
          have A13 := Aside0.mk A130
          clear A130
          have HC15 := Aside0.mk H
          clear H
          have p12 : 0 ≤ (0 : Int) := (by omega)
          have q12 : 0 < a0.size := (by have : (0 : Int) < (a0.size : Int) := of_decide_eq_true (by first | (with_reducible assumption) | assumption); omega)
          have hx12 : ∀ h : 0 < a0.size, ((a0[0]'h).toNat : Int) = bt a0 0 := bt_at a0 0
          clear p12
          have qi12 : (0 < (a0.size : Int)) = True := eq_true (of_decide_eq_true (by first | (with_reducible assumption) | assumption))
          replace q12 := eq_true q12
          go_upto_if 30 with (first | ((with_reducible refine gate_callee (f := 47) rfl ?_); refine goesL_ (some 25) rfl rfl Tryd.func47 (by kernel_rfl) rfl #[.int .u8 (bt a0 0)] rfl (by (try simp only [List.map_toArray, List.map_cons, List.map_nil]); first | done | rfl | (simp only [List.length_drop, List.length_take]; rfl)) ?_; (with_reducible refine (heliastref01_more.calls kj1 (bt a0 0) t159 _ A13.out).mono ?_); rintro e w' ⟨rfl, ⟨nd, rfl⟩⟩; refine ⟨_, rfl, ?_⟩; have p14 : 0 ≤ (0 : Int) := (by omega); have q14 : 0 < a0.size := (by have : (0 : Int) < (a0.size : Int) := of_decide_eq_true (by first | (with_reducible assumption) | assumption); omega); have hx14 : ∀ h : 0 < a0.size, ((a0[0]'h).toNat : Int) = bt a0 0 := bt_at a0 0; clear p14; have qi14 : (0 < (a0.size : Int)) = True := eq_true (of_decide_eq_true (by first | (with_reducible assumption) | assumption)); replace q14 := eq_true q14))
          (try simp only [Act.put, List.setIfInBounds_toArray, List.set_cons_zero, List.set_cons_succ])
          go_cut [4] (fun v4 wc => ∃ (kq : Nat) (x4_14 : Int), v4 = .int .i64 x4_14 ∧ Aside0 (heliastref01_One.j1 kq a0 t159 x4_14 = some r) ∧ Aside0 (kq ≤ kj1) ∧ Aside0 (Below w.heap.size w wc))
          case first =>
            have H := HC15.out
            clear HC15
            by_cases c16 : t159 > 0
            · rw [if_pos c16] at H
              have c16b0 : decide (0 < t159) = true := decide_eq_true c16
              clear c16
              (first | rw [c16b0] | rw [c16b1] | (simp only [i64_w, i32_w]; rw [c16b0]) | skip)
              obtain ⟨ji17, hji17⟩ : ∃ j_ : Int, (IntKind.u64.wrap (t159)) = j_ := ⟨_, rfl⟩
              replace H : (if 0 ≤ (ji17) then (if (shr .i64 64 (ji17)) = 0 then (none) else (heliastref01_One.j1 kj1 a0 t159 (Int.tmod (wrap64 (bt a0 0)) (shr .i64 64 (ji17))))) else (none)) = some r := by first | (rw [hji17] at H; exact H) | (simp only [hji17] at H ⊢; exact H)
              by_cases c18 : 0 ≤ (ji17)
              · rw [if_pos c18] at H
                have c18b0 := eq_true c18
                have c18b1 : decide (0 ≤ (ji17)) = true := decide_eq_true c18
                clear c18
                obtain ⟨ji19, hji19⟩ : ∃ j_ : Int, (shr .i64 64 (ji17)) = j_ := ⟨_, rfl⟩
                replace H : (if (ji19) = 0 then (none) else (heliastref01_One.j1 kj1 a0 t159 (Int.tmod (wrap64 (bt a0 0)) (ji19)))) = some r := by first | (rw [hji19] at H; exact H) | (simp only [hji19] at H ⊢; exact H)
                have hji19_ : (64 / 2 ^ min (ji17).toNat 64) = ji19 := hji19
                have hji19z : (ji17) ≤ 64 → (64 / 2 ^ (ji17).toNat) = ji19 := shr_small hji19
                by_cases c20 : (ji19) = 0
                · rw [if_pos c20] at H
                  exact absurd H (by simp)
                · rw [if_neg c20] at H
                  have c20b0 : ((ji19) == 0) = false := beq_eq_false_iff_ne.mpr c20
                  have c20b1 : ((ji19) != 0) = true := bne_iff_ne.mpr c20
                  have H' := Aside0.mk H
                  clear H
                  go_wp2
                  go_meet
                  case rel => exact ⟨_, (Int.tmod (wrap64 (bt a0 0)) (ji19)), (by first | rfl | (simp; done) | (simp only [← hji19] <;> (first | rfl | simp)) | (simp [*]; done)), H', ⟨by have := HJ1.out; first | omega | exact Nat.le_refl _⟩, ⟨by repeat (first | (with_reducible first | exact HB.out | apply below_alloc | apply pw_below_drewN | apply below_drew1) | exact HB.out)⟩⟩
              · rw [if_neg c18] at H
                exact absurd H (by simp)
            · rw [if_neg c16] at H
              have c16b0 : decide (0 < t159) = false := decide_eq_false c16
              clear c16
              (first | rw [c16b0] | rw [c16b1] | (simp only [i64_w, i32_w]; rw [c16b0]) | skip)
              have H' := Aside0.mk H
              clear H
              go_wp2
              go_meet
              case rel => exact ⟨_, (wrap64 (bt a0 0)), (by first | rfl | (simp; done) | (simp [*]; done)), H', ⟨by have := HJ1.out; first | omega | exact Nat.le_refl _⟩, ⟨by repeat (first | (with_reducible first | exact HB.out | apply below_alloc | apply pw_below_drewN | apply below_drew1) | exact HB.out)⟩⟩
          case rest =>
            clear HC15
            try clear c1
            try clear p1
            try clear q1
            try clear hx1
            try clear qi1
            try clear c2
            try clear p2
            try clear c3
            try clear c3b0
            try clear c3b1
            try clear c4
            try clear c4b0
            try clear c4b1
            try clear p5
            try clear q5
            try clear hx5
            try clear qi5
            try clear p6
            try clear c7
            try clear c7b0
            try clear p8
            try clear q8
            try clear hx8
            try clear qi8
            try clear c10
            try clear c11
            try clear c11b0
            try clear c11b1
            try clear p12
            try clear q12
            try clear hx12
            try clear qi12
            try clear p14
            try clear q14
            try clear hx14
            try clear qi14
            try clear c16
            try clear c16b0
            try clear c18
            try clear c18b0
            try clear c18b1
            try clear c20
            try clear c20b0
            try clear c20b1
            try clear p12
            try clear p14
            try clear p2
            try clear p5
            try clear p8
            try clear q12
            try clear q14
            try clear q5
            try clear q8
            obtain ⟨kq, x4_14, rfl, HA, HJ14, HB⟩ := hcut
            cases kq with
            | zero => exact absurd HA.out (by simp [heliastref01_One.j1])
            | succ kj14 =>
              have H := HA.out
              clear HA
              simp only [heliastref01_One.j1] at H
              have H' := Aside0.mk H
              clear H
              go_wp2
              go_loopg [4, 5] kj14 (fun kq v4 v5 w' => ∃ (x4_3 : Int) (x5_3 : Int), v4 = .int .i64 x4_3 ∧ v5 = .int .i64 x5_3 ∧ Aside0 (heliastref01_One.l0 kq a0 t159 x4_3 x5_3 = some r) ∧ Aside0 (kq ≤ kj14) ∧ Aside0 (Below w.heap.size w w'))
              case atStart => exact ⟨(x4_14), (1), (by first | rfl | (simp; done) | (simp [*]; done)), (by first | rfl | (simp; done) | (simp [*]; done)), H', ⟨Nat.le_refl _⟩, ⟨by repeat (first | (with_reducible first | exact HB.out | apply below_alloc | apply pw_below_drewN | apply below_drew1) | exact HB.out)⟩⟩
              case round =>
                clear H'
                try clear c1
                try clear p1
                try clear q1
                try clear hx1
                try clear qi1
                try clear c2
                try clear p2
                try clear c3
                try clear c3b0
                try clear c3b1
                try clear c4
                try clear c4b0
                try clear c4b1
                try clear p5
                try clear q5
                try clear hx5
                try clear qi5
                try clear p6
                try clear c7
                try clear c7b0
                try clear p8
                try clear q8
                try clear hx8
                try clear qi8
                try clear c10
                try clear c11
                try clear c11b0
                try clear c11b1
                try clear p12
                try clear q12
                try clear hx12
                try clear qi12
                try clear p14
                try clear q14
                try clear hx14
                try clear qi14
                try clear c16
                try clear c16b0
                try clear c18
                try clear c18b0
                try clear c18b1
                try clear c20
                try clear c20b0
                try clear c20b1
                try clear p1
                try clear p12
                try clear p14
                try clear p2
                try clear p5
                try clear p6
                try clear p8
                try clear q1
                try clear q12
                try clear q14
                try clear q5
                try clear q8
                obtain ⟨x4_3, x5_3, rfl, rfl, HA, HK3, HB⟩ := hrel
                cases gk with
                | zero => exact absurd HA.out (by simp [heliastref01_One.l0])
                | succ k3 =>
                  have H := HA.out
                  clear HA
                  simp only [heliastref01_One.l0] at H
                  by_cases c21 : x5_3 ≤ t159
                  · rw [if_pos c21] at H
                    have c21b0 : decide (x5_3 ≤ t159) = true := decide_eq_true c21
                    clear c21
                    by_cases c22 : 0 ≤ x5_3
                    · rw [if_pos c22] at H
                      have c22b0 : decide (0 ≤ x5_3) = true := decide_eq_true c22
                      clear c22
                      by_cases c23 : x5_3 < (a0.size : Int)
                      · rw [if_pos c23] at H
                        have c23b0 : decide (x5_3 < (a0.size : Int)) = true := decide_eq_true c23
                        clear c23
                        by_cases c25 : (bt a0 x5_3) < 128
                        · rw [if_pos c25] at H
                          have c25b0 : decide ((bt a0 x5_3) < 128) = true := decide_eq_true c25
                          clear c25
                          obtain rfl := Option.some.inj H
                          have p24 : 0 ≤ (x5_3 : Int) := of_decide_eq_true (by first | (with_reducible assumption) | assumption)
                          have q24 : x5_3 < (a0.size : Int) := of_decide_eq_true (by first | (with_reducible assumption) | assumption)
                          have hx24 := bt_at a0 x5_3
                          replace p24 := eq_true p24
                          replace q24 := eq_true q24
                          go_wp2
                          go_ret
                          exact ⟨by first | rfl | (simp [errW_none, errW_some] <;> rfl) | (simp [*, errW_none, errW_some] <;> rfl), by repeat (first | (with_reducible first | exact HB.out | apply below_alloc | apply pw_below_drewN | apply below_drew1) | exact HB.out)⟩
                        · rw [if_neg c25] at H
                          have c25b0 : decide ((bt a0 x5_3) < 128) = false := decide_eq_false c25
                          clear c25
                          by_cases c27 : (bt a0 x5_3) > 191
                          · rw [if_pos c27] at H
                            have c27b0 : decide (191 < (bt a0 x5_3)) = true := decide_eq_true c27
                            clear c27
                            obtain rfl := Option.some.inj H
                            have p24 : 0 ≤ (x5_3 : Int) := of_decide_eq_true (by first | (with_reducible assumption) | assumption)
                            have q24 : x5_3 < (a0.size : Int) := of_decide_eq_true (by first | (with_reducible assumption) | assumption)
                            have hx24 := bt_at a0 x5_3
                            replace p24 := eq_true p24
                            replace q24 := eq_true q24
                            have p26 : 0 ≤ (x5_3 : Int) := of_decide_eq_true (by first | (with_reducible assumption) | assumption)
                            have q26 : x5_3 < (a0.size : Int) := of_decide_eq_true (by first | (with_reducible assumption) | assumption)
                            have hx26 := bt_at a0 x5_3
                            replace p26 := eq_true p26
                            replace q26 := eq_true q26
                            go_wp2
                            go_ret
                            exact ⟨by first | rfl | (simp [errW_none, errW_some] <;> rfl) | (simp [*, errW_none, errW_some] <;> rfl), by repeat (first | (with_reducible first | exact HB.out | apply below_alloc | apply pw_below_drewN | apply below_drew1) | exact HB.out)⟩
                          · rw [if_neg c27] at H
                            have c27b0 : decide (191 < (bt a0 x5_3)) = false := decide_eq_false c27
                            clear c27
                            have H' := Aside0.mk H
                            clear H
                            have p24 : 0 ≤ (x5_3 : Int) := of_decide_eq_true (by first | (with_reducible assumption) | assumption)
                            have q24 : x5_3 < (a0.size : Int) := of_decide_eq_true (by first | (with_reducible assumption) | assumption)
                            have hx24 := bt_at a0 x5_3
                            replace p24 := eq_true p24
                            replace q24 := eq_true q24
                            have p26 : 0 ≤ (x5_3 : Int) := of_decide_eq_true (by first | (with_reducible assumption) | assumption)
                            have q26 : x5_3 < (a0.size : Int) := of_decide_eq_true (by first | (with_reducible assumption) | assumption)
                            have hx26 := bt_at a0 x5_3
                            replace p26 := eq_true p26
                            replace q26 := eq_true q26
                            have p28 : 0 ≤ (x5_3 : Int) := of_decide_eq_true (by first | (with_reducible assumption) | assumption)
                            have q28 : x5_3 < (a0.size : Int) := of_decide_eq_true (by first | (with_reducible assumption) | assumption)
                            have hx28 := bt_at a0 x5_3
                            replace p28 := eq_true p28
                            replace q28 := eq_true q28
                            go_wp2
                            go_roundg k3
                            case measure => have := HJ1.out; have := HJ14.out; have := HK3.out; omega
                            case rel => exact ⟨(wrap64 ((wrap64 (64 * x4_3)) + (wrap64 (Int.tmod (bt a0 x5_3) 64)))), (wrap64 (x5_3 + 1)), (by first | rfl | (simp; done) | (simp [*]; done)), (by first | rfl | (simp; done) | (simp [*]; done)), H', ⟨by have := HJ1.out; have := HJ14.out; have := HK3.out; omega⟩, ⟨by repeat (first | (with_reducible first | exact HB.out | apply below_alloc | apply pw_below_drewN | apply below_drew1) | exact HB.out)⟩⟩
                      · rw [if_neg c23] at H
                        exact absurd H (by simp)
                    · rw [if_neg c22] at H
                      exact absurd H (by simp)
                  · rw [if_neg c21] at H
                    have c21b0 : decide (x5_3 ≤ t159) = false := decide_eq_false c21
                    clear c21
                    obtain ⟨y160, hy160⟩ : ∃ y_ : List Int, y_ = (([0, 128, 2048, 65536] : List Int)) := ⟨_, rfl⟩
                    replace H : (if 0 ≤ t159 then (if t159 < (y160.length : Int) then (if x4_3 < (rd y160 t159) then (some 0) else (if x4_3 ≥ 55296 then (if x4_3 ≤ 57343 then (some 0) else (if x4_3 > 1114111 then (some 0) else (some (wrap64 (t159 + 1))))) else (if x4_3 > 1114111 then (some 0) else (some (wrap64 (t159 + 1)))))) else (none)) else (none)) = some r := by first | (rw [hy160]; with_reducible exact H) | (have H2_ := (Option.bind_some _ _).symm.trans H; rw [hy160]; with_reducible exact H2_) | (have H2_ := (Option.bind_some _ _).symm.trans H; with_reducible exact H2_) | with_reducible exact H | (rw [hy160]; exact H) | exact H
                    have Ny160 := Aside0.mk hy160
                    clear hy160
                    by_cases c29 : 0 ≤ t159
                    · rw [if_pos c29] at H
                      have c29b0 : decide (0 ≤ t159) = true := decide_eq_true c29
                      clear c29
                      by_cases c30 : t159 < (y160.length : Int)
                      · rw [if_pos c30] at H
                        have c30b0 : decide (t159 < (y160.length : Int)) = true := decide_eq_true c30
                        clear c30
                        by_cases c31 : x4_3 < (rd y160 t159)
                        · rw [if_pos c31] at H
                          have c31b0 : decide (x4_3 < (rd y160 t159)) = true := decide_eq_true c31
                          clear c31
                          obtain rfl := Option.some.inj H
                          go_wp2_with (first | ((with_reducible refine gate_dst (N := 59) rfl ?_); (try (refine gate_guard (by rfl) ?_; dsimp only)); refine Kd.R_lit (Kd.int .i64) _ 3 ?hg (N := 59) ?hd (xs := ([0, 128, 2048, 65536] : List Int)) (inner := [.int .i64 0, .int .i64 128, .int .i64 2048, .int .i64 65536]) (ok := fun _ => True) (okp := fun _ => True) ?hr ?hp (fun _ hk => hk) trivial (Below.refl _ _) (Nat.le_refl _) (by simp) ?_; (case hd => rfl); (case hg => rfl); (case hr => first | (go_simp; done) | (go_simp; rfl)); (case hp => exact (Reps.one (show Kd.M (Kd.int .i64) _ _ _ 0 [.int .i64 0] from rfl) (Reps.one (show Kd.M (Kd.int .i64) _ _ _ 128 [.int .i64 128] from rfl) (Reps.one (show Kd.M (Kd.int .i64) _ _ _ 2048 [.int .i64 2048] from rfl) (Reps.one (show Kd.M (Kd.int .i64) _ _ _ 65536 [.int .i64 65536] from rfl) (Reps.none _ _)))))); intro v161 w32 ho33 hb hg_ hnew_; clear hg_ hnew_; (first | rw [← Ny160.out] at ho33 | (simp only [Int.reduceToNat] at ho33; rw [← Ny160.out] at ho33)); have n0_ := Aside0.mk (Kd.R_lower ho33 (below_size (by repeat (first | (with_reducible first | exact HB.out | apply below_alloc | apply pw_below_drewN | apply below_drew1) | exact HB.out)))); have n1_ := Aside0.mk (below_step (by repeat (first | (with_reducible first | exact HB.out | apply below_alloc | apply pw_below_drewN | apply below_drew1) | exact HB.out)) hb); clear HB; have HO162 := n0_; have HB := n1_; clear n0_ n1_; clear hb ho33; obtain ⟨Ao34, co34, eo34⟩ := Kd.R_slice HO162.out; subst eo34; have p163 : 0 ≤ (t159 : Int) := of_decide_eq_true (by first | (with_reducible assumption) | assumption); have q163 : t159 < (y160.length : Int) := of_decide_eq_true (by first | (with_reducible assumption) | assumption); obtain ⟨ad163, e163, hx163_0⟩ := Kd.at_int (Kd.R_reads' HO162.out).2.2 t159 p163 q163; cases e163; replace p163 := eq_true p163; replace q163 := eq_true q163))
                          go_ret
                          exact ⟨by first | rfl | (simp [errW_none, errW_some] <;> rfl) | (simp [*, errW_none, errW_some] <;> rfl), by repeat (first | (with_reducible first | exact HB.out | apply below_alloc | apply pw_below_drewN | apply below_drew1) | exact HB.out)⟩
                        · rw [if_neg c31] at H
                          have c31b0 : decide (x4_3 < (rd y160 t159)) = false := decide_eq_false c31
                          clear c31
                          by_cases c35 : x4_3 ≥ 55296
                          · rw [if_pos c35] at H
                            have c35b0 : decide (55296 ≤ x4_3) = true := decide_eq_true c35
                            clear c35
                            by_cases c36 : x4_3 ≤ 57343
                            · rw [if_pos c36] at H
                              have c36b0 : decide (x4_3 ≤ 57343) = true := decide_eq_true c36
                              clear c36
                              obtain rfl := Option.some.inj H
                              go_wp2_with (first | ((with_reducible refine gate_dst (N := 59) rfl ?_); (try (refine gate_guard (by rfl) ?_; dsimp only)); refine Kd.R_lit (Kd.int .i64) _ 3 ?hg (N := 59) ?hd (xs := ([0, 128, 2048, 65536] : List Int)) (inner := [.int .i64 0, .int .i64 128, .int .i64 2048, .int .i64 65536]) (ok := fun _ => True) (okp := fun _ => True) ?hr ?hp (fun _ hk => hk) trivial (Below.refl _ _) (Nat.le_refl _) (by simp) ?_; (case hd => rfl); (case hg => rfl); (case hr => first | (go_simp; done) | (go_simp; rfl)); (case hp => exact (Reps.one (show Kd.M (Kd.int .i64) _ _ _ 0 [.int .i64 0] from rfl) (Reps.one (show Kd.M (Kd.int .i64) _ _ _ 128 [.int .i64 128] from rfl) (Reps.one (show Kd.M (Kd.int .i64) _ _ _ 2048 [.int .i64 2048] from rfl) (Reps.one (show Kd.M (Kd.int .i64) _ _ _ 65536 [.int .i64 65536] from rfl) (Reps.none _ _)))))); intro v161 w37 ho38 hb hg_ hnew_; clear hg_ hnew_; (first | rw [← Ny160.out] at ho38 | (simp only [Int.reduceToNat] at ho38; rw [← Ny160.out] at ho38)); have n0_ := Aside0.mk (Kd.R_lower ho38 (below_size (by repeat (first | (with_reducible first | exact HB.out | apply below_alloc | apply pw_below_drewN | apply below_drew1) | exact HB.out)))); have n1_ := Aside0.mk (below_step (by repeat (first | (with_reducible first | exact HB.out | apply below_alloc | apply pw_below_drewN | apply below_drew1) | exact HB.out)) hb); clear HB; have HO162 := n0_; have HB := n1_; clear n0_ n1_; clear hb ho38; obtain ⟨Ao39, co39, eo39⟩ := Kd.R_slice HO162.out; subst eo39; have p163 : 0 ≤ (t159 : Int) := of_decide_eq_true (by first | (with_reducible assumption) | assumption); have q163 : t159 < (y160.length : Int) := of_decide_eq_true (by first | (with_reducible assumption) | assumption); obtain ⟨ad163, e163, hx163_0⟩ := Kd.at_int (Kd.R_reads' HO162.out).2.2 t159 p163 q163; cases e163; replace p163 := eq_true p163; replace q163 := eq_true q163))
                              go_ret
                              exact ⟨by first | rfl | (simp [errW_none, errW_some] <;> rfl) | (simp [*, errW_none, errW_some] <;> rfl), by repeat (first | (with_reducible first | exact HB.out | apply below_alloc | apply pw_below_drewN | apply below_drew1) | exact HB.out)⟩
                            · rw [if_neg c36] at H
                              have c36b0 : decide (x4_3 ≤ 57343) = false := decide_eq_false c36
                              clear c36
                              by_cases c40 : x4_3 > 1114111
                              · rw [if_pos c40] at H
                                have c40b0 : decide (1114111 < x4_3) = true := decide_eq_true c40
                                clear c40
                                obtain rfl := Option.some.inj H
                                go_wp2_with (first | ((with_reducible refine gate_dst (N := 59) rfl ?_); (try (refine gate_guard (by rfl) ?_; dsimp only)); refine Kd.R_lit (Kd.int .i64) _ 3 ?hg (N := 59) ?hd (xs := ([0, 128, 2048, 65536] : List Int)) (inner := [.int .i64 0, .int .i64 128, .int .i64 2048, .int .i64 65536]) (ok := fun _ => True) (okp := fun _ => True) ?hr ?hp (fun _ hk => hk) trivial (Below.refl _ _) (Nat.le_refl _) (by simp) ?_; (case hd => rfl); (case hg => rfl); (case hr => first | (go_simp; done) | (go_simp; rfl)); (case hp => exact (Reps.one (show Kd.M (Kd.int .i64) _ _ _ 0 [.int .i64 0] from rfl) (Reps.one (show Kd.M (Kd.int .i64) _ _ _ 128 [.int .i64 128] from rfl) (Reps.one (show Kd.M (Kd.int .i64) _ _ _ 2048 [.int .i64 2048] from rfl) (Reps.one (show Kd.M (Kd.int .i64) _ _ _ 65536 [.int .i64 65536] from rfl) (Reps.none _ _)))))); intro v161 w41 ho42 hb hg_ hnew_; clear hg_ hnew_; (first | rw [← Ny160.out] at ho42 | (simp only [Int.reduceToNat] at ho42; rw [← Ny160.out] at ho42)); have n0_ := Aside0.mk (Kd.R_lower ho42 (below_size (by repeat (first | (with_reducible first | exact HB.out | apply below_alloc | apply pw_below_drewN | apply below_drew1) | exact HB.out)))); have n1_ := Aside0.mk (below_step (by repeat (first | (with_reducible first | exact HB.out | apply below_alloc | apply pw_below_drewN | apply below_drew1) | exact HB.out)) hb); clear HB; have HO162 := n0_; have HB := n1_; clear n0_ n1_; clear hb ho42; obtain ⟨Ao43, co43, eo43⟩ := Kd.R_slice HO162.out; subst eo43; have p163 : 0 ≤ (t159 : Int) := of_decide_eq_true (by first | (with_reducible assumption) | assumption); have q163 : t159 < (y160.length : Int) := of_decide_eq_true (by first | (with_reducible assumption) | assumption); obtain ⟨ad163, e163, hx163_0⟩ := Kd.at_int (Kd.R_reads' HO162.out).2.2 t159 p163 q163; cases e163; replace p163 := eq_true p163; replace q163 := eq_true q163))
                                go_ret
                                exact ⟨by first | rfl | (simp [errW_none, errW_some] <;> rfl) | (simp [*, errW_none, errW_some] <;> rfl), by repeat (first | (with_reducible first | exact HB.out | apply below_alloc | apply pw_below_drewN | apply below_drew1) | exact HB.out)⟩
                              · rw [if_neg c40] at H
                                have c40b0 : decide (1114111 < x4_3) = false := decide_eq_false c40
                                clear c40
                                obtain rfl := Option.some.inj H
                                go_wp2_with (first | ((with_reducible refine gate_dst (N := 59) rfl ?_); (try (refine gate_guard (by rfl) ?_; dsimp only)); refine Kd.R_lit (Kd.int .i64) _ 3 ?hg (N := 59) ?hd (xs := ([0, 128, 2048, 65536] : List Int)) (inner := [.int .i64 0, .int .i64 128, .int .i64 2048, .int .i64 65536]) (ok := fun _ => True) (okp := fun _ => True) ?hr ?hp (fun _ hk => hk) trivial (Below.refl _ _) (Nat.le_refl _) (by simp) ?_; (case hd => rfl); (case hg => rfl); (case hr => first | (go_simp; done) | (go_simp; rfl)); (case hp => exact (Reps.one (show Kd.M (Kd.int .i64) _ _ _ 0 [.int .i64 0] from rfl) (Reps.one (show Kd.M (Kd.int .i64) _ _ _ 128 [.int .i64 128] from rfl) (Reps.one (show Kd.M (Kd.int .i64) _ _ _ 2048 [.int .i64 2048] from rfl) (Reps.one (show Kd.M (Kd.int .i64) _ _ _ 65536 [.int .i64 65536] from rfl) (Reps.none _ _)))))); intro v161 w44 ho45 hb hg_ hnew_; clear hg_ hnew_; (first | rw [← Ny160.out] at ho45 | (simp only [Int.reduceToNat] at ho45; rw [← Ny160.out] at ho45)); have n0_ := Aside0.mk (Kd.R_lower ho45 (below_size (by repeat (first | (with_reducible first | exact HB.out | apply below_alloc | apply pw_below_drewN | apply below_drew1) | exact HB.out)))); have n1_ := Aside0.mk (below_step (by repeat (first | (with_reducible first | exact HB.out | apply below_alloc | apply pw_below_drewN | apply below_drew1) | exact HB.out)) hb); clear HB; have HO162 := n0_; have HB := n1_; clear n0_ n1_; clear hb ho45; obtain ⟨Ao46, co46, eo46⟩ := Kd.R_slice HO162.out; subst eo46; have p163 : 0 ≤ (t159 : Int) := of_decide_eq_true (by first | (with_reducible assumption) | assumption); have q163 : t159 < (y160.length : Int) := of_decide_eq_true (by first | (with_reducible assumption) | assumption); obtain ⟨ad163, e163, hx163_0⟩ := Kd.at_int (Kd.R_reads' HO162.out).2.2 t159 p163 q163; cases e163; replace p163 := eq_true p163; replace q163 := eq_true q163))
                                go_ret
                                exact ⟨by first | rfl | (simp [errW_none, errW_some] <;> rfl) | (simp [*, errW_none, errW_some] <;> rfl), by repeat (first | (with_reducible first | exact HB.out | apply below_alloc | apply pw_below_drewN | apply below_drew1) | exact HB.out)⟩
                          · rw [if_neg c35] at H
                            have c35b0 : decide (55296 ≤ x4_3) = false := decide_eq_false c35
                            clear c35
                            by_cases c47 : x4_3 > 1114111
                            · rw [if_pos c47] at H
                              have c47b0 : decide (1114111 < x4_3) = true := decide_eq_true c47
                              clear c47
                              obtain rfl := Option.some.inj H
                              go_wp2_with (first | ((with_reducible refine gate_dst (N := 59) rfl ?_); (try (refine gate_guard (by rfl) ?_; dsimp only)); refine Kd.R_lit (Kd.int .i64) _ 3 ?hg (N := 59) ?hd (xs := ([0, 128, 2048, 65536] : List Int)) (inner := [.int .i64 0, .int .i64 128, .int .i64 2048, .int .i64 65536]) (ok := fun _ => True) (okp := fun _ => True) ?hr ?hp (fun _ hk => hk) trivial (Below.refl _ _) (Nat.le_refl _) (by simp) ?_; (case hd => rfl); (case hg => rfl); (case hr => first | (go_simp; done) | (go_simp; rfl)); (case hp => exact (Reps.one (show Kd.M (Kd.int .i64) _ _ _ 0 [.int .i64 0] from rfl) (Reps.one (show Kd.M (Kd.int .i64) _ _ _ 128 [.int .i64 128] from rfl) (Reps.one (show Kd.M (Kd.int .i64) _ _ _ 2048 [.int .i64 2048] from rfl) (Reps.one (show Kd.M (Kd.int .i64) _ _ _ 65536 [.int .i64 65536] from rfl) (Reps.none _ _)))))); intro v161 w48 ho49 hb hg_ hnew_; clear hg_ hnew_; (first | rw [← Ny160.out] at ho49 | (simp only [Int.reduceToNat] at ho49; rw [← Ny160.out] at ho49)); have n0_ := Aside0.mk (Kd.R_lower ho49 (below_size (by repeat (first | (with_reducible first | exact HB.out | apply below_alloc | apply pw_below_drewN | apply below_drew1) | exact HB.out)))); have n1_ := Aside0.mk (below_step (by repeat (first | (with_reducible first | exact HB.out | apply below_alloc | apply pw_below_drewN | apply below_drew1) | exact HB.out)) hb); clear HB; have HO162 := n0_; have HB := n1_; clear n0_ n1_; clear hb ho49; obtain ⟨Ao50, co50, eo50⟩ := Kd.R_slice HO162.out; subst eo50; have p163 : 0 ≤ (t159 : Int) := of_decide_eq_true (by first | (with_reducible assumption) | assumption); have q163 : t159 < (y160.length : Int) := of_decide_eq_true (by first | (with_reducible assumption) | assumption); obtain ⟨ad163, e163, hx163_0⟩ := Kd.at_int (Kd.R_reads' HO162.out).2.2 t159 p163 q163; cases e163; replace p163 := eq_true p163; replace q163 := eq_true q163))
                              go_ret
                              exact ⟨by first | rfl | (simp [errW_none, errW_some] <;> rfl) | (simp [*, errW_none, errW_some] <;> rfl), by repeat (first | (with_reducible first | exact HB.out | apply below_alloc | apply pw_below_drewN | apply below_drew1) | exact HB.out)⟩
                            · rw [if_neg c47] at H
                              have c47b0 : decide (1114111 < x4_3) = false := decide_eq_false c47
                              clear c47
                              obtain rfl := Option.some.inj H
                              go_wp2_with (first | ((with_reducible refine gate_dst (N := 59) rfl ?_); (try (refine gate_guard (by rfl) ?_; dsimp only)); refine Kd.R_lit (Kd.int .i64) _ 3 ?hg (N := 59) ?hd (xs := ([0, 128, 2048, 65536] : List Int)) (inner := [.int .i64 0, .int .i64 128, .int .i64 2048, .int .i64 65536]) (ok := fun _ => True) (okp := fun _ => True) ?hr ?hp (fun _ hk => hk) trivial (Below.refl _ _) (Nat.le_refl _) (by simp) ?_; (case hd => rfl); (case hg => rfl); (case hr => first | (go_simp; done) | (go_simp; rfl)); (case hp => exact (Reps.one (show Kd.M (Kd.int .i64) _ _ _ 0 [.int .i64 0] from rfl) (Reps.one (show Kd.M (Kd.int .i64) _ _ _ 128 [.int .i64 128] from rfl) (Reps.one (show Kd.M (Kd.int .i64) _ _ _ 2048 [.int .i64 2048] from rfl) (Reps.one (show Kd.M (Kd.int .i64) _ _ _ 65536 [.int .i64 65536] from rfl) (Reps.none _ _)))))); intro v161 w51 ho52 hb hg_ hnew_; clear hg_ hnew_; (first | rw [← Ny160.out] at ho52 | (simp only [Int.reduceToNat] at ho52; rw [← Ny160.out] at ho52)); have n0_ := Aside0.mk (Kd.R_lower ho52 (below_size (by repeat (first | (with_reducible first | exact HB.out | apply below_alloc | apply pw_below_drewN | apply below_drew1) | exact HB.out)))); have n1_ := Aside0.mk (below_step (by repeat (first | (with_reducible first | exact HB.out | apply below_alloc | apply pw_below_drewN | apply below_drew1) | exact HB.out)) hb); clear HB; have HO162 := n0_; have HB := n1_; clear n0_ n1_; clear hb ho52; obtain ⟨Ao53, co53, eo53⟩ := Kd.R_slice HO162.out; subst eo53; have p163 : 0 ≤ (t159 : Int) := of_decide_eq_true (by first | (with_reducible assumption) | assumption); have q163 : t159 < (y160.length : Int) := of_decide_eq_true (by first | (with_reducible assumption) | assumption); obtain ⟨ad163, e163, hx163_0⟩ := Kd.at_int (Kd.R_reads' HO162.out).2.2 t159 p163 q163; cases e163; replace p163 := eq_true p163; replace q163 := eq_true q163))
                              go_ret
                              exact ⟨by first | rfl | (simp [errW_none, errW_some] <;> rfl) | (simp [*, errW_none, errW_some] <;> rfl), by repeat (first | (with_reducible first | exact HB.out | apply below_alloc | apply pw_below_drewN | apply below_drew1) | exact HB.out)⟩
                      · rw [if_neg c30] at H
                        exact absurd H (by simp)
                    · rw [if_neg c29] at H
                      exact absurd H (by simp)
        · rw [if_neg c11] at H
          exact absurd H (by simp)

end Go.Proofs.YtpibbokkdjjgeaaDoor.Pg

/-
  What the functions of these laws compute, as plain Lean functions, and that the machine's calls compute it: written by this session's own hook over the kit's print.
-/
namespace Go.Proofs.YtpibbokkdjjgeaaDoor.Pg
open Go.RowKit Go.Proofs.YtpibbokkdjjgeaaDoorW.PrintWords Go.Proofs.YtpibbokkdjjgeaaDoorW.PrintLast Go.Proofs.YtpibbokkdjjgeaaDoorW.PrintMore
attribute [local go_sem] max2_int min2_int max_two min_two max_three min_three max_four min_four   -- for this text's walks alone
set_option linter.unusedVariables false
set_option linter.unusedSimpArgs false

/-! ### heliastref01_Check: function 22 -/
def heliastref01_Check.l0 : Nat → ByteArray → Int → Option (Int)
  | 0, _, _ => none
  | k + 1, x0, x3 => if x3 < (x0.size : Int) then (if 0 ≤ x3 then (if x3 ≤ (x0.size : Int) then ((heliastref01_One.f k (x0.extract (x3 : Int).toNat x0.size)).bind fun t164 => (if t164 = 0 then (some x3) else (heliastref01_Check.l0 k x0 (wrap64 (x3 + t164))))) else (none)) else (none)) else (some (-1))
def heliastref01_Check.f (k : Nat) (a0 : ByteArray) : Option (Int) := heliastref01_Check.l0 k a0 0
theorem heliastref01_Check.mono_l : ∀ k, (∀ y0 y1, LeO (heliastref01_Check.l0 k y0 y1) (heliastref01_Check.l0 (k + 1) y0 y1))
  | 0 => fun _ _ r h => by simp [heliastref01_Check.l0] at h
  | k + 1 => by
    have ih0 := heliastref01_Check.mono_l k
    · intro y0 y1
      unfold heliastref01_Check.l0
      repeat' first
      | (with_reducible exact ih0 _ _)
      | (with_reducible exact heliastref01_One.mono _ _)
      | (with_reducible exact LeO.refl _)
      | (with_reducible exact LeO.none _)
      | (with_reducible refine LeO.ite ?_ ?_)
      | (with_reducible refine LeO.bind ?_ (fun _ => ?_))
      | exact ih0 _ _
      | exact heliastref01_One.mono _ _
      | exact LeO.none _
      | refine LeO.ite ?_ ?_
      | refine LeO.bind ?_ (fun _ => ?_)
theorem heliastref01_Check.mono : ∀ a0 k, LeO (heliastref01_Check.f k a0) (heliastref01_Check.f (k + 1) a0) := by
  intro a0 k
  have ih0 := heliastref01_Check.mono_l k
  unfold heliastref01_Check.f
  repeat' first
      | (with_reducible exact ih0 _ _)
      | (with_reducible exact heliastref01_One.mono _ _)
      | (with_reducible exact LeO.refl _)
      | (with_reducible exact LeO.none _)
      | (with_reducible refine LeO.ite ?_ ?_)
      | (with_reducible refine LeO.bind ?_ (fun _ => ?_))
      | exact ih0 _ _
      | exact heliastref01_One.mono _ _
      | exact LeO.none _
      | refine LeO.ite ?_ ?_
      | refine LeO.bind ?_ (fun _ => ?_)
set_option maxHeartbeats 8000000 in
set_option maxRecDepth 100000 in
theorem heliastref01_Check.calls (k : Nat) (a0 : ByteArray) (r : Int) (w : World) (h : heliastref01_Check.f k a0 = some r) :
    Calls Tryd.prog 22 #[.string a0] w fun e w' => e = .returned (.int .i64 r) ∧ Below w.heap.size w w' := by
  have HB := Aside0.mk (Below.refl w.heap.size w)
  have H : (heliastref01_Check.l0 k a0 0) = some r := h
  clear h
  have H' := Aside0.mk H
  clear H
  go_enter Tryd.func22, Tryd.ntmps22
  go_wp2
  go_loopg [3] k (fun kq v3 w' => ∃ (x3_1 : Int), v3 = .int .i64 x3_1 ∧ Aside0 (heliastref01_Check.l0 kq a0 x3_1 = some r) ∧ Aside0 (kq ≤ k) ∧ Aside0 (Below w.heap.size w w'))
  case atStart => exact ⟨(0), (by first | rfl | (simp; done) | (simp [*]; done)), H', ⟨Nat.le_refl _⟩, ⟨by repeat (first | (with_reducible first | exact HB.out | apply below_alloc | apply pw_below_drewN | apply below_drew1) | exact HB.out)⟩⟩
  case round =>
    clear H'
    obtain ⟨x3_1, rfl, HA, HK1, HB⟩ := hrel
    cases gk with
    | zero => exact absurd HA.out (by simp [heliastref01_Check.l0])
    | succ k1 =>
      have H := HA.out
      clear HA
      simp only [heliastref01_Check.l0] at H
      by_cases c2 : x3_1 < (a0.size : Int)
      · rw [if_pos c2] at H
        have c2b0 : decide (x3_1 < (a0.size : Int)) = true := decide_eq_true c2
        clear c2
        by_cases c3 : 0 ≤ x3_1
        · rw [if_pos c3] at H
          have c3b0 := eq_true c3
          have c3b1 : decide (0 ≤ x3_1) = true := decide_eq_true c3
          clear c3
          by_cases c4 : x3_1 ≤ (a0.size : Int)
          · rw [if_pos c4] at H
            have c4b0 := eq_true c4
            have c4b1 : decide (x3_1 ≤ (a0.size : Int)) = true := decide_eq_true c4
            clear c4
            replace H := Option.bind_eq_some_iff.mp H
            obtain ⟨t164, A50, H⟩ := H
            replace H : (if t164 = 0 then (some x3_1) else (heliastref01_Check.l0 k1 a0 (wrap64 (x3_1 + t164)))) = some r := H
            have A5 := Aside0.mk A50
            clear A50
            by_cases c6 : t164 = 0
            · rw [if_pos c6] at H
              have c6b0 : (t164 == 0) = true := beq_iff_eq.mpr c6
              have c6b1 : (t164 != 0) = false := bne_eq_false_iff_eq.mpr c6
              clear c6
              obtain rfl := Option.some.inj H
              go_wp2_with (first | ((with_reducible refine gate_callee (f := 37) rfl ?_); refine goesL_ (some 12) rfl rfl Tryd.func37 (by kernel_rfl) rfl #[.string (a0.extract (x3_1 : Int).toNat a0.size)] rfl (by (try simp only [List.map_toArray, List.map_cons, List.map_nil]); first | done | rfl | (simp only [List.length_drop, List.length_take]; rfl)) ?_; (with_reducible refine (heliastref01_One.calls k1 (a0.extract (x3_1 : Int).toNat a0.size) t164 _ A5.out).mono ?_); rintro e w7 ⟨rfl, hb⟩; refine ⟨_, rfl, ?_⟩; have n0_ := Aside0.mk (below_step (by repeat (first | (with_reducible first | exact HB.out | apply below_alloc | apply pw_below_drewN | apply below_drew1) | exact HB.out)) hb); clear HB; have HB := n0_; clear n0_; (try clear hb); (try clear hb2); (try clear hk); (try clear hi)))
              go_ret
              exact ⟨by first | rfl | (simp [errW_none, errW_some] <;> rfl) | (simp [*, errW_none, errW_some] <;> rfl), by repeat (first | (with_reducible first | exact HB.out | apply below_alloc | apply pw_below_drewN | apply below_drew1) | exact HB.out)⟩
            · rw [if_neg c6] at H
              have c6b0 : (t164 == 0) = false := beq_eq_false_iff_ne.mpr c6
              have c6b1 : (t164 != 0) = true := bne_iff_ne.mpr c6
              have H' := Aside0.mk H
              clear H
              go_wp2_with (first | ((with_reducible refine gate_callee (f := 37) rfl ?_); refine goesL_ (some 12) rfl rfl Tryd.func37 (by kernel_rfl) rfl #[.string (a0.extract (x3_1 : Int).toNat a0.size)] rfl (by (try simp only [List.map_toArray, List.map_cons, List.map_nil]); first | done | rfl | (simp only [List.length_drop, List.length_take]; rfl)) ?_; (with_reducible refine (heliastref01_One.calls k1 (a0.extract (x3_1 : Int).toNat a0.size) t164 _ A5.out).mono ?_); rintro e w8 ⟨rfl, hb⟩; refine ⟨_, rfl, ?_⟩; have n0_ := Aside0.mk (below_step (by repeat (first | (with_reducible first | exact HB.out | apply below_alloc | apply pw_below_drewN | apply below_drew1) | exact HB.out)) hb); clear HB; have HB := n0_; clear n0_; (try clear hb); (try clear hb2); (try clear hk); (try clear hi)))
              go_roundg k1
              case measure => have := HK1.out; omega
              case rel => exact ⟨(wrap64 (x3_1 + t164)), (by first | rfl | (simp; done) | (simp [*]; done)), H', ⟨by have := HK1.out; omega⟩, ⟨by repeat (first | (with_reducible first | exact HB.out | apply below_alloc | apply pw_below_drewN | apply below_drew1) | exact HB.out)⟩⟩
          · rw [if_neg c4] at H
            exact absurd H (by simp)
        · rw [if_neg c3] at H
          exact absurd H (by simp)
      · rw [if_neg c2] at H
        have c2b0 : decide (x3_1 < (a0.size : Int)) = false := decide_eq_false c2
        clear c2
        obtain rfl := Option.some.inj H
        go_wp2
        go_ret
        exact ⟨by first | rfl | (simp [errW_none, errW_some] <;> rfl) | (simp [*, errW_none, errW_some] <;> rfl), by repeat (first | (with_reducible first | exact HB.out | apply below_alloc | apply pw_below_drewN | apply below_drew1) | exact HB.out)⟩

end Go.Proofs.YtpibbokkdjjgeaaDoor.Pg

/-
  The reference's One and Check are the plain vw and checkF.
-/
namespace Go.Proofs.YtpibbokkdjjgeaaDoor
open Go.RowKit Go.Lib Go.Proofs.YtpibbokkdjjgeaaDoorW.PrintWords Go.Proofs.YtpibbokkdjjgeaaDoorW.PrintLast Go.Proofs.YtpibbokkdjjgeaaDoorW.PrintMore Pg
set_option linter.unusedSimpArgs false
set_option linter.unusedVariables false
theorem rbt_at (s : ByteArray) (i : Nat) : bt s (i : Int) = (at4 s.data.toList i : Int) := by
  unfold bt at4
  rw [Int.toNat_natCast]
  by_cases h : i < s.size
  · rw [dif_pos h, List.getD_eq_getElem?_getD, List.getElem?_eq_getElem (by rw [len_data]; exact h), Option.getD_some]
    rfl
  · rw [dif_neg h, List.getD_eq_getElem?_getD, List.getElem?_eq_none (by rw [len_data]; omega)]
    rfl
def moreN (b : Nat) : Int := if b < 128 then 0 else if 194 ≤ b ∧ b ≤ 223 then 1 else if 224 ≤ b ∧ b ≤ 239 then 2 else if 240 ≤ b ∧ b ≤ 244 then 3 else -1
theorem more_is12 : ∀ n : Fin 256, heliastref01_more.f 12 (n.val : Int) = some (moreN n.val) := by decide +kernel
theorem more_is11 : ∀ n : Fin 256, heliastref01_more.f 11 (n.val : Int) = some (moreN n.val) := by decide +kernel
theorem w64_nat (n : Nat) (h : n ≤ 9000000000000000000) : wrap64 (n : Int) = (n : Int) := by unfold wrap64; omega
theorem one_step (k : Nat) (s : ByteArray) (n x5 x4 c : Nat) (hc : at4 s.data.toList x5 = c) (h : x5 ≤ n) (hs : x5 < s.size) (hx : x4 ≤ 40000000) (hn : n ≤ 3) :
    heliastref01_One.l0 (k + 1) s (n : Int) (x4 : Int) (x5 : Int) = if 128 ≤ c ∧ c ≤ 191 then heliastref01_One.l0 k s (n : Int) ((64 * x4 + c % 64 : Nat) : Int) ((x5 + 1 : Nat) : Int) else some 0 := by
  have hc2 : c < 256 := by rw [← hc]; exact at4_lt _ _
  simp only [heliastref01_One.l0]
  rw [if_pos (by omega), if_pos (by omega), if_pos (by omega), rbt_at, hc]
  by_cases h1 : (c : Int) < 128
  · rw [if_pos h1, if_neg (by omega)]
  · rw [if_neg h1]
    by_cases h2 : (c : Int) > 191
    · rw [if_pos h2, if_neg (by omega)]
    · rw [if_neg h2, if_pos (by omega)]
      have e : Int.tmod (c : Int) 64 = ((c % 64 : Nat) : Int) := rfl
      rw [e]
      have hm : c % 64 < 64 := Nat.mod_lt _ (by omega)
      generalize c % 64 = m at hm
      clear e h1 h2 hc hc2 hs
      have f1 : wrap64 (64 * (x4 : Int)) = ((64 * x4 : Nat) : Int) := w64_nat (64 * x4) (by omega)
      have f2 : wrap64 (((64 * x4 : Nat) : Int) + (m : Int)) = ((64 * x4 + m : Nat) : Int) := w64_nat (64 * x4 + m) (by omega)
      have f3 : wrap64 ((x5 : Int) + 1) = ((x5 + 1 : Nat) : Int) := w64_nat (x5 + 1) (by omega)
      rw [f1, w64_nat m (by omega), f2, f3]
def leastN (n : Nat) : Nat := if n = 0 then 0 else if n = 1 then 128 else if n = 2 then 2048 else 65536
theorem one_end (k : Nat) (s : ByteArray) (n x4 : Nat) (hn : n ≤ 3) :
    heliastref01_One.l0 (k + 1) s (n : Int) (x4 : Int) ((n + 1 : Nat) : Int) = if leastN n ≤ x4 ∧ (x4 < 55296 ∨ 57343 < x4) ∧ x4 ≤ 1114111 then some ((n + 1 : Nat) : Int) else some 0 := by
  simp only [heliastref01_One.l0]
  rw [if_neg (by omega), Option.bind_some, if_pos (by omega), if_pos (by simp only [List.length_cons, List.length_nil]; omega)]
  have e : rd [0, 128, 2048, 65536] (n : Int) = (leastN n : Int) := by
    have : n = 0 ∨ n = 1 ∨ n = 2 ∨ n = 3 := by omega
    rcases this with rfl | rfl | rfl | rfl <;> rfl
  rw [e, show wrap64 ((n : Int) + 1) = ((n + 1 : Nat) : Int) from w64_nat (n + 1) (by omega)]
  by_cases h1 : leastN n ≤ x4
  · rw [if_neg (by omega)]
    by_cases h2 : (x4 : Int) ≥ 55296
    · rw [if_pos h2]
      by_cases h3 : (x4 : Int) ≤ 57343
      · rw [if_pos h3, if_neg (by omega)]
      · rw [if_neg h3]
        by_cases h4 : (x4 : Int) > 1114111
        · rw [if_pos h4, if_neg (by omega)]
        · rw [if_neg h4, if_pos (by omega)]
    · rw [if_neg h2, if_neg (by omega), if_pos (by omega)]
  · rw [if_pos (by omega), if_neg (by omega)]
theorem vw_un (l : List UInt8) (h : l ≠ []) : vw l = if dec l = (65533, 1) then 0 else (dec l).2 := by
  unfold vw
  simp [h]
theorem vw0 (n b0 b1 b2 b3 : Nat) (h : b0 < 128) : decodeN n b0 b1 b2 b3 = (b0, 1) := by
  unfold decodeN
  rw [if_pos h]
theorem vwx (n b0 b1 b2 b3 : Nat) (h : moreN b0 = -1) (h0 : b0 < 256) : decodeN n b0 b1 b2 b3 = (65533, 1) := by
  unfold moreN at h
  repeat' split at h
  all_goals first | omega | skip
  unfold decodeN
  repeat' split
  all_goals first | omega | rfl
theorem vw1 (n b0 b1 b2 b3 : Nat) (h : 194 ≤ b0 ∧ b0 ≤ 223) : (if decodeN n b0 b1 b2 b3 = (65533, 1) then 0 else (decodeN n b0 b1 b2 b3).2) = if 1 < n ∧ 128 ≤ b1 ∧ b1 ≤ 191 then 2 else 0 := by
  by_cases h1 : 1 < n ∧ 128 ≤ b1 ∧ b1 ≤ 191
  · have e : decodeN n b0 b1 b2 b3 = (b0 % 32 * 64 + b1 % 64, 2) := by
      unfold decodeN
      rw [if_neg (by omega), if_pos (show b0 / 32 = 6 ∧ (1 < n ∧ b1 / 64 = 2) by omega), if_pos (by omega)]
    rw [e, if_pos h1, if_neg (by simp)]
  · have e : decodeN n b0 b1 b2 b3 = (65533, 1) := by
      unfold decodeN
      rw [if_neg (by omega), if_neg (show ¬ (b0 / 32 = 6 ∧ (1 < n ∧ b1 / 64 = 2)) by omega), if_neg (by omega), if_neg (by omega)]
    rw [e, if_neg h1, if_pos rfl]
theorem vw2 (n b0 b1 b2 b3 : Nat) (h : 224 ≤ b0 ∧ b0 ≤ 239) : (if decodeN n b0 b1 b2 b3 = (65533, 1) then 0 else (decodeN n b0 b1 b2 b3).2) =
    if 2 < n ∧ (128 ≤ b1 ∧ b1 ≤ 191) ∧ (128 ≤ b2 ∧ b2 ≤ 191) ∧ 2048 ≤ 64 * (64 * (b0 % 16) + b1 % 64) + b2 % 64 ∧ (64 * (64 * (b0 % 16) + b1 % 64) + b2 % 64 < 55296 ∨ 57343 < 64 * (64 * (b0 % 16) + b1 % 64) + b2 % 64) then 3 else 0 := by
  have e : b0 % 16 * 4096 + b1 % 64 * 64 + b2 % 64 = 64 * (64 * (b0 % 16) + b1 % 64) + b2 % 64 := by omega
  obtain ⟨x, hx⟩ : ∃ x, 64 * (64 * (b0 % 16) + b1 % 64) + b2 % 64 = x := ⟨_, rfl⟩
  have hx2 : x ≤ 65535 := by omega
  rw [hx] at e ⊢
  clear hx
  by_cases h1 : 2 < n ∧ (128 ≤ b1 ∧ b1 ≤ 191) ∧ (128 ≤ b2 ∧ b2 ≤ 191)
  · have e1 : decodeN n b0 b1 b2 b3 = if x ≥ 2048 ∧ (x < 55296 ∨ (57344 ≤ x ∧ x ≤ 1114111)) then (x, 3) else (65533, 1) := by
      unfold decodeN
      rw [if_neg (by omega), if_neg (by omega), e, if_pos (show b0 / 16 = 14 ∧ (1 < n ∧ b1 / 64 = 2) ∧ (2 < n ∧ b2 / 64 = 2) by omega)]
    rw [e1]
    by_cases h2 : 2048 ≤ x ∧ (x < 55296 ∨ 57343 < x)
    · have h3 : x ≥ 2048 ∧ (x < 55296 ∨ (57344 ≤ x ∧ x ≤ 1114111)) := by omega
      have h4 : 2 < n ∧ (128 ≤ b1 ∧ b1 ≤ 191) ∧ (128 ≤ b2 ∧ b2 ≤ 191) ∧ 2048 ≤ x ∧ (x < 55296 ∨ 57343 < x) := by omega
      rw [if_pos h3, if_pos h4, if_neg (by simp)]
    · have h3 : ¬ (x ≥ 2048 ∧ (x < 55296 ∨ (57344 ≤ x ∧ x ≤ 1114111))) := by omega
      have h4 : ¬ (2 < n ∧ (128 ≤ b1 ∧ b1 ≤ 191) ∧ (128 ≤ b2 ∧ b2 ≤ 191) ∧ 2048 ≤ x ∧ (x < 55296 ∨ 57343 < x)) := by omega
      rw [if_neg h3, if_neg h4, if_pos rfl]
  · have e1 : decodeN n b0 b1 b2 b3 = (65533, 1) := by
      unfold decodeN
      rw [if_neg (by omega), if_neg (by omega), if_neg (show ¬ (b0 / 16 = 14 ∧ (1 < n ∧ b1 / 64 = 2) ∧ (2 < n ∧ b2 / 64 = 2)) by omega), if_neg (by omega)]
    have h4 : ¬ (2 < n ∧ (128 ≤ b1 ∧ b1 ≤ 191) ∧ (128 ≤ b2 ∧ b2 ≤ 191) ∧ 2048 ≤ x ∧ (x < 55296 ∨ 57343 < x)) := by omega
    rw [e1, if_neg h4, if_pos rfl]
theorem vw3 (n b0 b1 b2 b3 : Nat) (h : 240 ≤ b0 ∧ b0 ≤ 244) : (if decodeN n b0 b1 b2 b3 = (65533, 1) then 0 else (decodeN n b0 b1 b2 b3).2) =
    if 3 < n ∧ (128 ≤ b1 ∧ b1 ≤ 191) ∧ (128 ≤ b2 ∧ b2 ≤ 191) ∧ (128 ≤ b3 ∧ b3 ≤ 191) ∧ 65536 ≤ 64 * (64 * (64 * (b0 % 8) + b1 % 64) + b2 % 64) + b3 % 64 ∧ 64 * (64 * (64 * (b0 % 8) + b1 % 64) + b2 % 64) + b3 % 64 ≤ 1114111 then 4 else 0 := by
  have e : b0 % 8 * 262144 + b1 % 64 * 4096 + b2 % 64 * 64 + b3 % 64 = 64 * (64 * (64 * (b0 % 8) + b1 % 64) + b2 % 64) + b3 % 64 := by omega
  obtain ⟨x, hx⟩ : ∃ x, 64 * (64 * (64 * (b0 % 8) + b1 % 64) + b2 % 64) + b3 % 64 = x := ⟨_, rfl⟩
  rw [hx] at e ⊢
  clear hx
  by_cases h1 : 3 < n ∧ (128 ≤ b1 ∧ b1 ≤ 191) ∧ (128 ≤ b2 ∧ b2 ≤ 191) ∧ (128 ≤ b3 ∧ b3 ≤ 191)
  · have e1 : decodeN n b0 b1 b2 b3 = if x ≥ 65536 ∧ (x < 55296 ∨ (57344 ≤ x ∧ x ≤ 1114111)) then (x, 4) else (65533, 1) := by
      unfold decodeN
      rw [if_neg (by omega), if_neg (by omega), if_neg (by omega), e, if_pos (show b0 / 8 = 30 ∧ (1 < n ∧ b1 / 64 = 2) ∧ (2 < n ∧ b2 / 64 = 2) ∧ (3 < n ∧ b3 / 64 = 2) by omega)]
    rw [e1]
    by_cases h2 : 65536 ≤ x ∧ x ≤ 1114111
    · have h3 : x ≥ 65536 ∧ (x < 55296 ∨ (57344 ≤ x ∧ x ≤ 1114111)) := by omega
      have h4 : 3 < n ∧ (128 ≤ b1 ∧ b1 ≤ 191) ∧ (128 ≤ b2 ∧ b2 ≤ 191) ∧ (128 ≤ b3 ∧ b3 ≤ 191) ∧ 65536 ≤ x ∧ x ≤ 1114111 := by omega
      rw [if_pos h3, if_pos h4, if_neg (by simp)]
    · have h3 : ¬ (x ≥ 65536 ∧ (x < 55296 ∨ (57344 ≤ x ∧ x ≤ 1114111))) := by omega
      have h4 : ¬ (3 < n ∧ (128 ≤ b1 ∧ b1 ≤ 191) ∧ (128 ≤ b2 ∧ b2 ≤ 191) ∧ (128 ≤ b3 ∧ b3 ≤ 191) ∧ 65536 ≤ x ∧ x ≤ 1114111) := by omega
      rw [if_neg h3, if_neg h4, if_pos rfl]
  · have e1 : decodeN n b0 b1 b2 b3 = (65533, 1) := by
      unfold decodeN
      rw [if_neg (by omega), if_neg (by omega), if_neg (by omega), if_neg (show ¬ (b0 / 8 = 30 ∧ (1 < n ∧ b1 / 64 = 2) ∧ (2 < n ∧ b2 / 64 = 2) ∧ (3 < n ∧ b3 / 64 = 2)) by omega)]
    have h4 : ¬ (3 < n ∧ (128 ≤ b1 ∧ b1 ≤ 191) ∧ (128 ≤ b2 ∧ b2 ≤ 191) ∧ (128 ≤ b3 ∧ b3 ≤ 191) ∧ 65536 ≤ x ∧ x ≤ 1114111) := by omega
    rw [e1, if_neg h4, if_pos rfl]
theorem ite_some (p : Prop) [Decidable p] (a b : Int) : (if p then some a else some b) = some (if p then a else b) := by split <;> rfl
theorem ite_two (A B : Prop) [Decidable A] [Decidable B] (x : Int) : (if A then (if B then x else 0) else 0) = if A ∧ B then x else 0 := by
  by_cases a : A <;> by_cases b : B <;> simp [a, b]
theorem ite_fin (A B : Prop) [Decidable A] [Decidable B] (n : Nat) (h : A ↔ B) : (if A then (n : Int) else 0) = ((if B then n else 0 : Nat) : Int) := by
  by_cases a : A
  · rw [if_pos a, if_pos (h.1 a)]
  · rw [if_neg a, if_neg (fun b => a (h.2 b))]; rfl
theorem one_is (s : ByteArray) (hs : s.size ≤ 1000000000) : heliastref01_One.f 12 s = some (vw s.data.toList : Int) := by
  by_cases he : s.data.toList = []
  · have : s.toList = [] := by rw [ByteArray.toList_eq]; exact he
    unfold heliastref01_One.f
    rw [if_pos this, he]
    rfl
  · have h1 : ¬ s.toList = [] := by rw [ByteArray.toList_eq]; exact he
    have hl := len_data s
    have hp : 0 < s.size := by rw [← hl]; exact List.length_pos_iff.2 he
    obtain ⟨b0, e0⟩ : ∃ b, at4 s.data.toList 0 = b := ⟨_, rfl⟩
    obtain ⟨b1, e1⟩ : ∃ b, at4 s.data.toList 1 = b := ⟨_, rfl⟩
    obtain ⟨b2, e2⟩ : ∃ b, at4 s.data.toList 2 = b := ⟨_, rfl⟩
    obtain ⟨b3, e3⟩ : ∃ b, at4 s.data.toList 3 = b := ⟨_, rfl⟩
    have l0 : b0 < 256 := by rw [← e0]; exact at4_lt _ _
    have hb : bt s 0 = (b0 : Int) := by rw [← e0]; exact rbt_at s 0
    have m12 := more_is12 ⟨b0, l0⟩
    have m11 := more_is11 ⟨b0, l0⟩
    simp only [] at m12 m11
    have hw : vw s.data.toList = if decodeN s.size b0 b1 b2 b3 = (65533, 1) then 0 else (decodeN s.size b0 b1 b2 b3).2 := by
      rw [vw_un _ he]
      unfold dec
      rw [e0, e1, e2, e3, hl]
    rw [hw]
    unfold heliastref01_One.f
    rw [if_neg h1, if_pos (by omega), hb, m12, Option.bind_some]
    by_cases c1 : moreN b0 < 0
    · have c2 : moreN b0 = -1 := by
        unfold moreN at c1 ⊢
        repeat' split at c1
        all_goals first | omega | (simp_all; done)
      rw [if_pos c1, vwx _ _ _ _ _ c2 l0]
      rfl
    · rw [if_neg c1, Option.bind_some]
      by_cases c2 : moreN b0 ≥ (s.size : Int)
      · have c3 : (if decodeN s.size b0 b1 b2 b3 = (65533, 1) then 0 else (decodeN s.size b0 b1 b2 b3).2) = 0 := by
          unfold moreN at c1 c2
          split at c2
          · omega
          · split at c2
            · rw [vw1 _ _ _ _ _ (by omega), if_neg (by omega)]
            · split at c2
              · rw [vw2 _ _ _ _ _ (by omega), if_neg (by omega)]
              · split at c2
                · rw [vw3 _ _ _ _ _ (by omega), if_neg (by omega)]
                · omega
        rw [c3, decide_eq_true c2]
        rfl
      · rw [decide_eq_false c2]
        simp only [heliastref01_One.j0, Bool.false_eq_true, if_false]
        rw [if_pos (by omega), hb, m11, Option.bind_some, w64_nat b0 (by omega)]
        by_cases k0 : b0 < 128
        · have e : moreN b0 = 0 := by unfold moreN; rw [if_pos k0]
          rw [e, if_neg (by omega)]
          simp only [heliastref01_One.j1]
          have := one_end 9 s 0 b0 (by omega)
          rw [show ((0 + 1 : Nat) : Int) = 1 from rfl] at this
          rw [show ((0 : Nat) : Int) = 0 from rfl] at this
          rw [this, if_pos (by unfold leastN; simp only [if_true]; omega), vw0 _ _ _ _ _ k0, if_neg (fun e => by have := (Prod.mk.inj e).1; omega)]
          rfl
        · by_cases k1 : 194 ≤ b0 ∧ b0 ≤ 223
          · have e : moreN b0 = 1 := by unfold moreN; rw [if_neg k0, if_pos k1]
            rw [e] at c2 ⊢
            rw [if_pos (by omega), if_pos (by decide), if_neg (by decide), show shr .i64 64 (IntKind.u64.wrap 1) = 32 from by decide, show Int.tmod (b0 : Int) 32 = ((b0 % 32 : Nat) : Int) from rfl]
            simp only [heliastref01_One.j1]
            have a1 := one_step 9 s 1 1 (b0 % 32) b1 e1 (by omega) (by omega) (by omega) (by omega)
            have a2 := one_end 8 s 1 (64 * (b0 % 32) + b1 % 64) (by omega)
            rw [show ((1 : Nat) : Int) = 1 from rfl] at a1 a2
            rw [a1, a2, vw1 _ _ _ _ _ k1, ite_some, ite_some, ite_two]
            refine congrArg some (ite_fin _ _ 2 ?_)
            have e5 : leastN 1 = 128 := rfl
            rw [e5]
            omega
          · by_cases k2 : 224 ≤ b0 ∧ b0 ≤ 239
            · have e : moreN b0 = 2 := by unfold moreN; rw [if_neg k0, if_neg k1, if_pos k2]
              rw [e] at c2 ⊢
              rw [if_pos (by omega), if_pos (by decide), if_neg (by decide), show shr .i64 64 (IntKind.u64.wrap 2) = 16 from by decide, show Int.tmod (b0 : Int) 16 = ((b0 % 16 : Nat) : Int) from rfl]
              simp only [heliastref01_One.j1]
              have a1 := one_step 9 s 2 1 (b0 % 16) b1 e1 (by omega) (by omega) (by omega) (by omega)
              have a2 := one_step 8 s 2 2 (64 * (b0 % 16) + b1 % 64) b2 e2 (by omega) (by omega) (by omega) (by omega)
              have a3 := one_end 7 s 2 (64 * (64 * (b0 % 16) + b1 % 64) + b2 % 64) (by omega)
              rw [show ((1 : Nat) : Int) = 1 from rfl, show ((2 : Nat) : Int) = 2 from rfl] at a1
              rw [show ((2 : Nat) : Int) = 2 from rfl] at a2 a3
              rw [a1, a2, a3, vw2 _ _ _ _ _ k2, ite_some, ite_some, ite_some, ite_two, ite_two]
              refine congrArg some (ite_fin _ _ 3 ?_)
              have e5 : leastN 2 = 2048 := rfl
              rw [e5]
              omega
            · by_cases k3 : 240 ≤ b0 ∧ b0 ≤ 244
              · have e : moreN b0 = 3 := by unfold moreN; rw [if_neg k0, if_neg k1, if_neg k2, if_pos k3]
                rw [e] at c2 ⊢
                rw [if_pos (by omega), if_pos (by decide), if_neg (by decide), show shr .i64 64 (IntKind.u64.wrap 3) = 8 from by decide, show Int.tmod (b0 : Int) 8 = ((b0 % 8 : Nat) : Int) from rfl]
                simp only [heliastref01_One.j1]
                have a1 := one_step 9 s 3 1 (b0 % 8) b1 e1 (by omega) (by omega) (by omega) (by omega)
                have a2 := one_step 8 s 3 2 (64 * (b0 % 8) + b1 % 64) b2 e2 (by omega) (by omega) (by omega) (by omega)
                have a3 := one_step 7 s 3 3 (64 * (64 * (b0 % 8) + b1 % 64) + b2 % 64) b3 e3 (by omega) (by omega) (by omega) (by omega)
                have a4 := one_end 6 s 3 (64 * (64 * (64 * (b0 % 8) + b1 % 64) + b2 % 64) + b3 % 64) (by omega)
                rw [show ((1 : Nat) : Int) = 1 from rfl, show ((3 : Nat) : Int) = 3 from rfl] at a1
                rw [show ((3 : Nat) : Int) = 3 from rfl, show ((2 : Nat) : Int) = 2 from rfl] at a2
                rw [show ((3 : Nat) : Int) = 3 from rfl] at a3 a4
                rw [a1, show ((1 + 1 : Nat) : Int) = 2 from rfl, a2, a3, a4, vw3 _ _ _ _ _ k3, ite_some, ite_some, ite_some, ite_some, ite_two, ite_two, ite_two]
                refine congrArg some (ite_fin _ _ 4 ?_)
                have e5 : leastN 3 = 65536 := rfl
                rw [e5]
                omega
              · have e : moreN b0 = -1 := by unfold moreN; rw [if_neg k0, if_neg k1, if_neg k2, if_neg k3]
                omega
theorem one_ev (s : ByteArray) (hs : s.size ≤ 1000000000) : Ev (fun k => heliastref01_One.f k s) (vw s.data.toList : Int) := Ev.of (heliastref01_One.mono s) (one_is s hs)
theorem rtail_data (s : ByteArray) (p : Nat) : (s.extract p s.size).data.toList = s.data.toList.drop p := by
  rw [extract_bsL, bsL_toList, List.take_of_length_le (by rw [len_data]; exact Nat.le_refl _)]
theorem rtail_size (s : ByteArray) (p : Nat) : (s.extract p s.size).size ≤ s.size := by
  rw [← len_data, rtail_data, List.length_drop, len_data]
  omega
theorem refcheck_l0 (s : ByteArray) (hs : s.size ≤ 1000000000) : ∀ m p : Nat, s.size - p ≤ m → p ≤ s.size → Ev (fun k => heliastref01_Check.l0 k s (p : Int)) (optI (checkF (s.data.toList.drop p) p)) := by
  intro m
  induction m with
  | zero =>
    intro p h hp
    have e : s.data.toList.drop p = [] := List.drop_eq_nil_of_le (by rw [len_data]; omega)
    rw [e, checkF_step]
    refine Ev.step (f := fun _ => some (-1)) (fun k => ?_) (Ev.now _)
    simp only [heliastref01_Check.l0]
    rw [if_neg (by omega)]
  | succ m ih =>
    intro p h hp
    by_cases hlt : p < s.size
    · have hX := rtail_data s p
      have hXs := rtail_size s p
      have hne : s.data.toList.drop p ≠ [] := by
        intro e
        have := congrArg List.length e
        rw [List.length_drop, len_data, List.length_nil] at this
        omega
      obtain ⟨X, eX⟩ : ∃ X, s.extract p s.size = X := ⟨_, rfl⟩
      rw [eX] at hX hXs
      have hone := one_ev X (by omega)
      rw [hX] at hone
      have hvl := (vw_le (s.data.toList.drop p)).1
      rw [List.length_drop, len_data] at hvl
      rw [checkF_step]
      refine Ev.step (f := fun k => (heliastref01_One.f k X).bind fun t => if t = 0 then some (p : Int) else heliastref01_Check.l0 k s (wrap64 ((p : Int) + t))) (fun k => ?_) (Ev.bind hone ?_)
      · simp only [heliastref01_Check.l0]
        rw [if_pos (by omega), if_pos (by omega), if_pos (by omega), Int.toNat_natCast, eX]
      · by_cases hv : vw (s.data.toList.drop p) = 0
        · rw [hv, if_pos rfl, if_neg hne]
          exact Ev.now _
        · rw [if_neg hv, List.drop_drop]
          have f : wrap64 ((p : Int) + (vw (s.data.toList.drop p) : Int)) = ((p + vw (s.data.toList.drop p) : Nat) : Int) := w64_nat (p + vw (s.data.toList.drop p)) (by omega)
          have := ih (p + vw (s.data.toList.drop p)) (by omega) (by omega)
          refine Ev.congr (fun k => ?_) this
          show (if (vw (s.data.toList.drop p) : Int) = 0 then _ else _) = _
          rw [if_neg (by omega), f]
    · have e : s.data.toList.drop p = [] := List.drop_eq_nil_of_le (by rw [len_data]; omega)
      rw [e, checkF_step]
      refine Ev.step (f := fun _ => some (-1)) (fun k => ?_) (Ev.now _)
      simp only [heliastref01_Check.l0]
      rw [if_neg (by omega)]
theorem refcheck_any (s : ByteArray) (hs : s.size ≤ 1000000000) (w : World) : Calls Tryd.prog 22 #[.string s] w fun e w' => e = .returned (.int .i64 (optI (checkF s.data.toList 0))) ∧ Below w.heap.size w w' := by
  have h := refcheck_l0 s hs s.size 0 (by omega) (by omega)
  rw [List.drop_zero] at h
  obtain ⟨k, hk⟩ := Ev.rounds h
  exact heliastref01_Check.calls k s _ w hk
end Go.Proofs.YtpibbokkdjjgeaaDoor

/-
  The law GlyphLess, walked: of two texts just one stands ahead, unless they are the same; what stands behind both changes nothing.
-/
namespace Go.Proofs.YtpibbokkdjjgeaaDoor
open Go.RowKit
set_option linter.unusedSimpArgs false
set_option linter.unusedVariables false
theorem cmp_self : ∀ a : List UInt8, Lib.compareBytes a a = 0
  | [] => rfl
  | a :: t => by
    rw [Lib.compareBytes, if_neg (by simp), if_neg (by simp), cmp_self t]
theorem cmp_tri : ∀ a b : List UInt8, (Lib.compareBytes a b < 0 ∧ ¬ Lib.compareBytes b a < 0 ∧ a ≠ b) ∨ (¬ Lib.compareBytes a b < 0 ∧ Lib.compareBytes b a < 0 ∧ a ≠ b) ∨ (¬ Lib.compareBytes a b < 0 ∧ ¬ Lib.compareBytes b a < 0 ∧ a = b)
  | [], [] => .inr (.inr ⟨by decide, by decide, rfl⟩)
  | [], b :: t => .inl ⟨by simp [Lib.compareBytes], by simp [Lib.compareBytes], by simp⟩
  | a :: s, [] => .inr (.inl ⟨by simp [Lib.compareBytes], by simp [Lib.compareBytes], by simp⟩)
  | a :: s, b :: t => by
    rw [Lib.compareBytes, Lib.compareBytes]
    rcases Nat.lt_trichotomy a.toNat b.toNat with h | h | h
    · have h1 : a < b := UInt8.lt_iff_toNat_lt.2 h
      have h2 : ¬ b < a := fun e => by have := UInt8.lt_iff_toNat_lt.1 e; omega
      rw [if_pos h1, if_neg h2, if_pos h1]
      exact .inl ⟨by decide, by decide, fun e => by have := (List.cons.inj e).1; subst this; omega⟩
    · have e : a = b := UInt8.toNat_inj.1 h
      subst e
      rw [if_neg (by simp), if_neg (by simp), if_neg (by simp), if_neg (by simp)]
      rcases cmp_tri s t with ⟨h1, h2, h3⟩ | ⟨h1, h2, h3⟩ | ⟨h1, h2, h3⟩
      · exact .inl ⟨h1, h2, fun e => h3 (List.cons.inj e).2⟩
      · exact .inr (.inl ⟨h1, h2, fun e => h3 (List.cons.inj e).2⟩)
      · exact .inr (.inr ⟨h1, h2, by rw [h3]⟩)
    · have h1 : b < a := UInt8.lt_iff_toNat_lt.2 h
      have h2 : ¬ a < b := fun e => by have := UInt8.lt_iff_toNat_lt.1 e; omega
      rw [if_neg h2, if_pos h1, if_pos h1]
      exact .inr (.inl ⟨by decide, by decide, fun e => by have := (List.cons.inj e).1; subst this; omega⟩)
theorem cmp_front : ∀ f a b : List UInt8, Lib.compareBytes (f ++ a) (f ++ b) = Lib.compareBytes a b
  | [], a, b => rfl
  | c :: f, a, b => by
    rw [List.cons_append, List.cons_append, Lib.compareBytes, if_neg (by simp), if_neg (by simp), cmp_front f a b]
theorem cmp_longer : ∀ (a : List UInt8) (c : UInt8) (t : List UInt8), Lib.compareBytes a (a ++ c :: t) = -1
  | [], c, t => rfl
  | a :: s, c, t => by
    rw [List.cons_append, Lib.compareBytes, if_neg (by simp), if_neg (by simp), cmp_longer s c t]
theorem runes_le : ∀ (n : Nat) (l : List UInt8), l.length ≤ n → runesF l ≤ l.length
  | 0, l, h => by
    have : l = [] := List.length_eq_zero_iff.1 (by omega)
    rw [this, runesF_step]
    exact Nat.le_refl _
  | n + 1, l, h => by
    rw [runesF_step]
    split
    · omega
    · rename_i hne
      have hw := dec_width l hne
      have := runes_le n (l.drop (dec l).2) (by rw [List.length_drop]; omega)
      rw [List.length_drop] at this
      omega
theorem app_data (x y : ByteArray) : (x ++ y).data.toList = x.data.toList ++ y.data.toList := by rw [ByteArray.data_append, Array.toList_append]
theorem below_trs {w w1 w2 : World} (h : Below w.heap.size w w1) (h2 : Below w1.heap.size w1 w2) : Below w.heap.size w w2 := h.trans (h2.mono h.size)
set_option maxRecDepth 100000 in
set_option maxHeartbeats 2000000 in
theorem glyphLess_walk (a0 : Option Addr) (len0 cap0 : Nat) (z0 : List Int) (a1 : Option Addr) (len1 cap1 : Nat) (z1 : List Int) (a2 : ByteArray) (W : World)
    (x0 : z0.length = len0) (y0 : RowAt W a0 (z0.map (.int .u8))) (u0 : ∀ z ∈ z0, (Lit.int .u8 z).wf = true) (b0 : len0 * 1 ≤ 140737488351232) (c0 : len0 ≤ cap0) (m0 : cap0 ≤ maxLen)
    (x1 : z1.length = len1) (y1 : RowAt W a1 (z1.map (.int .u8))) (u1 : ∀ z ∈ z1, (Lit.int .u8 z).wf = true) (b1 : len1 * 1 ≤ 140737488351232) (c1 : len1 ≤ cap1) (m1 : cap1 ≤ maxLen)
    (s2 : a2.size ≤ 140737488351232) (hT : Tabs W) :
    Calls Tryd.prog 7 #[.slice a0 len0 cap0, .slice a1 len1 cap1, .string a2] W fun e w' => e = .returned (.bool true) ∧ Below W.heap.size W w' := by
  subst x0 x1
  obtain ⟨A, hA, hcA⟩ := text_row y0 u0 b0 c0
  obtain ⟨B, hB, hcB⟩ := text_row y1 u1 b1 c1
  clear y0 u0 y1 u1 m0 m1 c0 c1 b0 b1
  have HCA := Lib.hid hcA; have HCB := Lib.hid hcB; have HT := Lib.hid hT
  clear hcA hcB hT
  have hk := fun w (hb : Below W.heap.size W w) => known_any w (HT.out.below hb)
  have HK := Lib.hid hk
  clear hk
  by_cases hbig : 50 < a2.size
  · go_enter Tryd.func7, Tryd.ntmps7
    go_wp2_with fail
    refine (HCA.out _ (Below.refl _ _)).mono ?_
    rintro e w1 ⟨rfl, hb1⟩
    have HB1 := Lib.hid hb1; clear hb1
    go_wp2_with fail
    refine (HCB.out _ HB1.out).mono ?_
    rintro e w2 ⟨rfl, hb2⟩
    have HB2 := Lib.hid (below_trs HB1.out hb2); clear hb2 HB1
    go_wp2_with fail
    refine (HK.out _ HB2.out).mono ?_
    rintro e w3 ⟨rfl, hb3⟩
    have HB3 := Lib.hid (below_trs HB2.out hb3); clear hb3 HB2
    go_wp2_with fail
    go_ret
    exact ⟨rfl, HB3.out⟩
  · have hab := fun w => less_any A B w
    have hba := fun w => less_any B A w
    have hfab := fun w => less_any (a2 ++ A) (a2 ++ B) w
    have haa := fun w => less_any A (A ++ ⟨#[97]⟩) w
    have hru := fun w => runes_any A (by omega) w
    have hrl := runes_le _ A.data.toList (Nat.le_refl _)
    rw [len_data] at hrl
    have htr := cmp_tri A.data.toList B.data.toList
    rw [show lessL (a2 ++ A).data.toList (a2 ++ B).data.toList = lessL A.data.toList B.data.toList from by unfold lessL; rw [app_data, app_data, cmp_front]] at hfab
    rw [show lessL A.data.toList (A ++ ⟨#[97]⟩).data.toList = true from by unfold lessL; rw [app_data, show (⟨#[97]⟩ : ByteArray).data.toList = [97] from rfl, cmp_longer]; rfl] at haa
    obtain ⟨v1, h1⟩ : ∃ v, lessL A.data.toList B.data.toList = v := ⟨_, rfl⟩
    obtain ⟨v2, h2⟩ : ∃ v, lessL B.data.toList A.data.toList = v := ⟨_, rfl⟩
    obtain ⟨v3, h3⟩ : ∃ v, (A.toList == B.toList) = v := ⟨_, rfl⟩
    obtain ⟨n, hn⟩ : ∃ n, runesF A.data.toList = n := ⟨_, rfl⟩
    rw [hn] at hru hrl
    have hv : (v1 = true ∧ v2 = false ∧ v3 = false) ∨ (v1 = false ∧ v2 = true ∧ v3 = false) ∨ (v1 = false ∧ v2 = false ∧ v3 = true) := by
      rw [← h1, ← h2, ← h3, ByteArray.toList_eq, ByteArray.toList_eq]
      unfold lessL
      rcases htr with ⟨g1, g2, g3⟩ | ⟨g1, g2, g3⟩ | ⟨g1, g2, g3⟩
      · exact .inl ⟨decide_eq_true g1, decide_eq_false g2, by simpa using g3⟩
      · exact .inr (.inl ⟨decide_eq_false g1, decide_eq_true g2, by simpa using g3⟩)
      · exact .inr (.inr ⟨decide_eq_false g1, decide_eq_false g2, by simpa using g3⟩)
    rw [h1] at hab hfab
    rw [h2] at hba
    have hne : (A.toList != B.toList) = !v3 := by rw [← h3]; rfl
    have hni : (n : Int) ≤ (A.size : Int) := by omega
    have HAB := Lib.hid hab; have HBA := Lib.hid hba; have HFAB := Lib.hid hfab; have HAA := Lib.hid haa; have HRU := Lib.hid hru
    clear hab hba hfab haa hru hrl htr h1 h2 hn
    rcases hv with ⟨rfl, rfl, rfl⟩ | ⟨rfl, rfl, rfl⟩ | ⟨rfl, rfl, rfl⟩
    all_goals
      have h4 : A.toList = B.toList ↔ (A.toList == B.toList) = true := by simp
      rw [h3] at h4
      simp only [Bool.false_eq_true, iff_false, iff_true] at h4
      go_enter Tryd.func7, Tryd.ntmps7
      go_wp2_with fail
      refine (HCA.out _ (Below.refl _ _)).mono ?_
      rintro e w1 ⟨rfl, hb1⟩
      have HB1 := Lib.hid hb1; clear hb1
      go_wp2_with fail
      refine (HCB.out _ HB1.out).mono ?_
      rintro e w2 ⟨rfl, hb2⟩
      have HB2 := Lib.hid (below_trs HB1.out hb2); clear hb2 HB1
      go_wp2_with fail
      refine (HAB.out _).mono ?_
      rintro e w3 ⟨rfl, hb3⟩
      have HB3 := Lib.hid (below_trs HB2.out hb3); clear hb3 HB2
      go_wp2_with fail
      refine (HBA.out _).mono ?_
      rintro e w4 ⟨rfl, hb4⟩
      have HB4 := Lib.hid (below_trs HB3.out hb4); clear hb4 HB3
      go_wp2_with fail
      refine (HK.out _ HB4.out).mono ?_
      rintro e w5 ⟨rfl, hb5⟩
      have HB5 := Lib.hid (below_trs HB4.out hb5); clear hb5 HB4
      go_wp2_with fail
      refine (HFAB.out _).mono ?_
      rintro e w6 ⟨rfl, hb6⟩
      have HB6 := Lib.hid (below_trs HB5.out hb6); clear hb6 HB5
      go_wp2_with fail
      refine (HAB.out _).mono ?_
      rintro e w7 ⟨rfl, hb7⟩
      have HB7 := Lib.hid (below_trs HB6.out hb7); clear hb7 HB6
      go_wp2_with fail
      refine (HAA.out _).mono ?_
      rintro e w8 ⟨rfl, hb8⟩
      have HB8 := Lib.hid (below_trs HB7.out hb8); clear hb8 HB7
      go_wp2_with fail
      refine (HRU.out _).mono ?_
      rintro e w9 ⟨rfl, hb9⟩
      have HB9 := Lib.hid (below_trs HB8.out hb9); clear hb9 HB8
      go_wp2_with fail
      go_ret
      exact ⟨rfl, HB9.out⟩
end Go.Proofs.YtpibbokkdjjgeaaDoor

/-
  What the functions of these laws compute, as plain Lean functions, and that the machine's calls compute it: written by this session's own hook over the kit's print.
-/
namespace Go.Proofs.YtpibbokkdjjgeaaDoor.Pg
open Go.RowKit Go.Proofs.YtpibbokkdjjgeaaDoorW.PrintWords Go.Proofs.YtpibbokkdjjgeaaDoorW.PrintLast Go.Proofs.YtpibbokkdjjgeaaDoorW.PrintMore
attribute [local go_sem] max2_int min2_int max_two min_two max_three min_three max_four min_four   -- for this text's walks alone
set_option linter.unusedVariables false
set_option linter.unusedSimpArgs false

/-! ### heliastlaw01_hex: function 18 -/
def heliastlaw01_hex.f (a0 : Int) : Option (ByteArray) := if 0 ≤ (Int.tmod (wrap64 (Int.tdiv a0 4096)) 16) then (if (Int.tmod (wrap64 (Int.tdiv a0 4096)) 16) < 16 then (if 0 ≤ (Int.tmod (wrap64 (Int.tdiv a0 256)) 16) then (if (Int.tmod (wrap64 (Int.tdiv a0 256)) 16) < 16 then (if 0 ≤ (Int.tmod (wrap64 (Int.tdiv a0 16)) 16) then (if (Int.tmod (wrap64 (Int.tdiv a0 16)) 16) < 16 then (if 0 ≤ (Int.tmod a0 16) then (if (Int.tmod a0 16) < 16 then ((some (([bt (⟨#[48, 49, 50, 51, 52, 53, 54, 55, 56, 57, 97, 98, 99, 100, 101, 102]⟩ : ByteArray) (Int.tmod (wrap64 (Int.tdiv a0 4096)) 16), bt (⟨#[48, 49, 50, 51, 52, 53, 54, 55, 56, 57, 97, 98, 99, 100, 101, 102]⟩ : ByteArray) (Int.tmod (wrap64 (Int.tdiv a0 256)) 16), bt (⟨#[48, 49, 50, 51, 52, 53, 54, 55, 56, 57, 97, 98, 99, 100, 101, 102]⟩ : ByteArray) (Int.tmod (wrap64 (Int.tdiv a0 16)) 16), bt (⟨#[48, 49, 50, 51, 52, 53, 54, 55, 56, 57, 97, 98, 99, 100, 101, 102]⟩ : ByteArray) (Int.tmod a0 16)] : List Int) : List Int)).bind fun y196 => (if 2 + (strOfNums y196).size ≤ 9223372036854775807 then (some ((⟨#[92, 117]⟩ : ByteArray) ++ (strOfNums y196))) else (none))) else (none)) else (none)) else (none)) else (none)) else (none)) else (none)) else (none)) else (none)
def heliastlaw01_hex.T1 : Bool × List (List Nat × List Nat) := (true, [([], []), ([0], [0]), ([1], [1]), ([2], [2]), ([], []), ([4], [4]), ([5], [5]), ([6], [6]), ([], []), ([8], [8]), ([9], [9]), ([10], [10]), ([], []), ([12], [12]), ([13], [13]), ([3, 7, 11, 14], [3, 7, 11, 14]), ([15], [15]), ([16], [16]), ([17, 0, 1, 2, 3, 4, 5, 6, 7, 8, 9, 10, 11, 12, 13, 14, 15, 16, 17], [17])])
def heliastlaw01_hex.B1 : List Nat := [0, 1, 3, 7, 0, 16, 48, 112, 0, 256, 768, 1792, 0, 4096, 12288, 32767, 65535, 131071, 262143]
theorem heliastlaw01_hex.tab1 : rtab .any (opsOf Tryd.f18 1) = heliastlaw01_hex.T1 := by kernel_rfl
theorem heliastlaw01_hex.bits1 : waitsOk heliastlaw01_hex.T1.2 heliastlaw01_hex.B1 = true := by kernel_rfl
set_option maxHeartbeats 8000000 in
set_option maxRecDepth 100000 in
theorem heliastlaw01_hex.calls (a0 : Int) (r : ByteArray) (w : World) (h : heliastlaw01_hex.f a0 = some r) :
    Calls Tryd.prog 18 #[.int .i64 a0] w fun e w' => e = .returned (.string r) ∧ Below w.heap.size w w' := by
  have HB := Aside0.mk (Below.refl w.heap.size w)
  have H : (if 0 ≤ (Int.tmod (wrap64 (Int.tdiv a0 4096)) 16) then (if (Int.tmod (wrap64 (Int.tdiv a0 4096)) 16) < 16 then (if 0 ≤ (Int.tmod (wrap64 (Int.tdiv a0 256)) 16) then (if (Int.tmod (wrap64 (Int.tdiv a0 256)) 16) < 16 then (if 0 ≤ (Int.tmod (wrap64 (Int.tdiv a0 16)) 16) then (if (Int.tmod (wrap64 (Int.tdiv a0 16)) 16) < 16 then (if 0 ≤ (Int.tmod a0 16) then (if (Int.tmod a0 16) < 16 then ((some (([bt (⟨#[48, 49, 50, 51, 52, 53, 54, 55, 56, 57, 97, 98, 99, 100, 101, 102]⟩ : ByteArray) (Int.tmod (wrap64 (Int.tdiv a0 4096)) 16), bt (⟨#[48, 49, 50, 51, 52, 53, 54, 55, 56, 57, 97, 98, 99, 100, 101, 102]⟩ : ByteArray) (Int.tmod (wrap64 (Int.tdiv a0 256)) 16), bt (⟨#[48, 49, 50, 51, 52, 53, 54, 55, 56, 57, 97, 98, 99, 100, 101, 102]⟩ : ByteArray) (Int.tmod (wrap64 (Int.tdiv a0 16)) 16), bt (⟨#[48, 49, 50, 51, 52, 53, 54, 55, 56, 57, 97, 98, 99, 100, 101, 102]⟩ : ByteArray) (Int.tmod a0 16)] : List Int) : List Int)).bind fun y196 => (if 2 + (strOfNums y196).size ≤ 9223372036854775807 then (some ((⟨#[92, 117]⟩ : ByteArray) ++ (strOfNums y196))) else (none))) else (none)) else (none)) else (none)) else (none)) else (none)) else (none)) else (none)) else (none)) = some r := h
  clear h
  obtain ⟨ji2, hji2⟩ : ∃ j_ : Int, (Int.tmod (wrap64 (Int.tdiv a0 4096)) 16) = j_ := ⟨_, rfl⟩
  replace H : (if 0 ≤ (ji2) then (if (ji2) < 16 then (if 0 ≤ (Int.tmod (wrap64 (Int.tdiv a0 256)) 16) then (if (Int.tmod (wrap64 (Int.tdiv a0 256)) 16) < 16 then (if 0 ≤ (Int.tmod (wrap64 (Int.tdiv a0 16)) 16) then (if (Int.tmod (wrap64 (Int.tdiv a0 16)) 16) < 16 then (if 0 ≤ (Int.tmod a0 16) then (if (Int.tmod a0 16) < 16 then ((some (([bt (⟨#[48, 49, 50, 51, 52, 53, 54, 55, 56, 57, 97, 98, 99, 100, 101, 102]⟩ : ByteArray) (ji2), bt (⟨#[48, 49, 50, 51, 52, 53, 54, 55, 56, 57, 97, 98, 99, 100, 101, 102]⟩ : ByteArray) (Int.tmod (wrap64 (Int.tdiv a0 256)) 16), bt (⟨#[48, 49, 50, 51, 52, 53, 54, 55, 56, 57, 97, 98, 99, 100, 101, 102]⟩ : ByteArray) (Int.tmod (wrap64 (Int.tdiv a0 16)) 16), bt (⟨#[48, 49, 50, 51, 52, 53, 54, 55, 56, 57, 97, 98, 99, 100, 101, 102]⟩ : ByteArray) (Int.tmod a0 16)] : List Int) : List Int)).bind fun y196 => (if 2 + (strOfNums y196).size ≤ 9223372036854775807 then (some ((⟨#[92, 117]⟩ : ByteArray) ++ (strOfNums y196))) else (none))) else (none)) else (none)) else (none)) else (none)) else (none)) else (none)) else (none)) else (none)) = some r := by first | (rw [hji2] at H; exact H) | (simp only [hji2] at H ⊢; exact H)
  by_cases c3 : 0 ≤ (ji2)
  · rw [if_pos c3] at H
    have c3b0 : decide (0 ≤ (ji2)) = true := decide_eq_true c3
    clear c3
    by_cases c4 : (ji2) < 16
    · rw [if_pos c4] at H
      have c4b0 : decide ((ji2) < 16) = true := decide_eq_true c4
      clear c4
      obtain ⟨ji6, hji6⟩ : ∃ j_ : Int, (Int.tmod (wrap64 (Int.tdiv a0 256)) 16) = j_ := ⟨_, rfl⟩
      replace H : (if 0 ≤ (ji6) then (if (ji6) < 16 then (if 0 ≤ (Int.tmod (wrap64 (Int.tdiv a0 16)) 16) then (if (Int.tmod (wrap64 (Int.tdiv a0 16)) 16) < 16 then (if 0 ≤ (Int.tmod a0 16) then (if (Int.tmod a0 16) < 16 then ((some (([bt (⟨#[48, 49, 50, 51, 52, 53, 54, 55, 56, 57, 97, 98, 99, 100, 101, 102]⟩ : ByteArray) (ji2), bt (⟨#[48, 49, 50, 51, 52, 53, 54, 55, 56, 57, 97, 98, 99, 100, 101, 102]⟩ : ByteArray) (ji6), bt (⟨#[48, 49, 50, 51, 52, 53, 54, 55, 56, 57, 97, 98, 99, 100, 101, 102]⟩ : ByteArray) (Int.tmod (wrap64 (Int.tdiv a0 16)) 16), bt (⟨#[48, 49, 50, 51, 52, 53, 54, 55, 56, 57, 97, 98, 99, 100, 101, 102]⟩ : ByteArray) (Int.tmod a0 16)] : List Int) : List Int)).bind fun y196 => (if 2 + (strOfNums y196).size ≤ 9223372036854775807 then (some ((⟨#[92, 117]⟩ : ByteArray) ++ (strOfNums y196))) else (none))) else (none)) else (none)) else (none)) else (none)) else (none)) else (none)) = some r := by first | (rw [hji6] at H; exact H) | (simp only [hji6] at H ⊢; exact H)
      by_cases c7 : 0 ≤ (ji6)
      · rw [if_pos c7] at H
        have c7b0 : decide (0 ≤ (ji6)) = true := decide_eq_true c7
        clear c7
        by_cases c8 : (ji6) < 16
        · rw [if_pos c8] at H
          have c8b0 : decide ((ji6) < 16) = true := decide_eq_true c8
          clear c8
          obtain ⟨ji10, hji10⟩ : ∃ j_ : Int, (Int.tmod (wrap64 (Int.tdiv a0 16)) 16) = j_ := ⟨_, rfl⟩
          replace H : (if 0 ≤ (ji10) then (if (ji10) < 16 then (if 0 ≤ (Int.tmod a0 16) then (if (Int.tmod a0 16) < 16 then ((some (([bt (⟨#[48, 49, 50, 51, 52, 53, 54, 55, 56, 57, 97, 98, 99, 100, 101, 102]⟩ : ByteArray) (ji2), bt (⟨#[48, 49, 50, 51, 52, 53, 54, 55, 56, 57, 97, 98, 99, 100, 101, 102]⟩ : ByteArray) (ji6), bt (⟨#[48, 49, 50, 51, 52, 53, 54, 55, 56, 57, 97, 98, 99, 100, 101, 102]⟩ : ByteArray) (ji10), bt (⟨#[48, 49, 50, 51, 52, 53, 54, 55, 56, 57, 97, 98, 99, 100, 101, 102]⟩ : ByteArray) (Int.tmod a0 16)] : List Int) : List Int)).bind fun y196 => (if 2 + (strOfNums y196).size ≤ 9223372036854775807 then (some ((⟨#[92, 117]⟩ : ByteArray) ++ (strOfNums y196))) else (none))) else (none)) else (none)) else (none)) else (none)) = some r := by first | (rw [hji10] at H; exact H) | (simp only [hji10] at H ⊢; exact H)
          by_cases c11 : 0 ≤ (ji10)
          · rw [if_pos c11] at H
            have c11b0 : decide (0 ≤ (ji10)) = true := decide_eq_true c11
            clear c11
            by_cases c12 : (ji10) < 16
            · rw [if_pos c12] at H
              have c12b0 : decide ((ji10) < 16) = true := decide_eq_true c12
              clear c12
              obtain ⟨ji14, hji14⟩ : ∃ j_ : Int, (Int.tmod a0 16) = j_ := ⟨_, rfl⟩
              replace H : (if 0 ≤ (ji14) then (if (ji14) < 16 then ((some (([bt (⟨#[48, 49, 50, 51, 52, 53, 54, 55, 56, 57, 97, 98, 99, 100, 101, 102]⟩ : ByteArray) (ji2), bt (⟨#[48, 49, 50, 51, 52, 53, 54, 55, 56, 57, 97, 98, 99, 100, 101, 102]⟩ : ByteArray) (ji6), bt (⟨#[48, 49, 50, 51, 52, 53, 54, 55, 56, 57, 97, 98, 99, 100, 101, 102]⟩ : ByteArray) (ji10), bt (⟨#[48, 49, 50, 51, 52, 53, 54, 55, 56, 57, 97, 98, 99, 100, 101, 102]⟩ : ByteArray) (ji14)] : List Int) : List Int)).bind fun y196 => (if 2 + (strOfNums y196).size ≤ 9223372036854775807 then (some ((⟨#[92, 117]⟩ : ByteArray) ++ (strOfNums y196))) else (none))) else (none)) else (none)) = some r := by first | (rw [hji14] at H; exact H) | (simp only [hji14] at H ⊢; exact H)
              by_cases c15 : 0 ≤ (ji14)
              · rw [if_pos c15] at H
                have c15b0 : decide (0 ≤ (ji14)) = true := decide_eq_true c15
                clear c15
                by_cases c16 : (ji14) < 16
                · rw [if_pos c16] at H
                  have c16b0 : decide ((ji14) < 16) = true := decide_eq_true c16
                  clear c16
                  obtain ⟨y196, hy196⟩ : ∃ y_ : List Int, y_ = (([bt (⟨#[48, 49, 50, 51, 52, 53, 54, 55, 56, 57, 97, 98, 99, 100, 101, 102]⟩ : ByteArray) (ji2), bt (⟨#[48, 49, 50, 51, 52, 53, 54, 55, 56, 57, 97, 98, 99, 100, 101, 102]⟩ : ByteArray) (ji6), bt (⟨#[48, 49, 50, 51, 52, 53, 54, 55, 56, 57, 97, 98, 99, 100, 101, 102]⟩ : ByteArray) (ji10), bt (⟨#[48, 49, 50, 51, 52, 53, 54, 55, 56, 57, 97, 98, 99, 100, 101, 102]⟩ : ByteArray) (ji14)] : List Int)) := ⟨_, rfl⟩
                  replace H : (if 2 + (strOfNums y196).size ≤ 9223372036854775807 then (some ((⟨#[92, 117]⟩ : ByteArray) ++ (strOfNums y196))) else (none)) = some r := by first | (rw [hy196]; with_reducible exact H) | (have H2_ := (Option.bind_some _ _).symm.trans H; rw [hy196]; with_reducible exact H2_) | (have H2_ := (Option.bind_some _ _).symm.trans H; with_reducible exact H2_) | with_reducible exact H | (rw [hy196]; exact H) | exact H
                  have Ny196 := Aside0.mk hy196
                  clear hy196
                  by_cases c18 : 2 + (strOfNums y196).size ≤ 9223372036854775807
                  · rw [if_pos c18] at H
                    have c18b0 := eq_true c18
                    have c18b1 : decide (2 + (strOfNums y196).size ≤ 9223372036854775807) = true := decide_eq_true c18
                    try have c18b2 : (9223372036854775807 < 2 + (strOfNums y196).size) = False := eq_false (Nat.not_lt.2 c18)
                    obtain rfl := Option.some.inj H
                    go_enter Tryd.func18, Tryd.ntmps18
                    try go_wp2
                    have n0_ := Aside0.mk (below_drew1 HB.out)
                    clear HB
                    have HB := n0_
                    clear n0_
                    have p5 : 0 ≤ ((ji2) : Int) := of_decide_eq_true (by first | (with_reducible assumption) | assumption)
                    have q5 : (ji2) < (16 : Int) := of_decide_eq_true (by first | (with_reducible assumption) | assumption)
                    have hx5 := bt_at (⟨#[48, 49, 50, 51, 52, 53, 54, 55, 56, 57, 97, 98, 99, 100, 101, 102]⟩ : ByteArray) (ji2)
                    replace p5 := eq_true p5
                    replace q5 := eq_true q5
                    have p9 : 0 ≤ ((ji6) : Int) := of_decide_eq_true (by first | (with_reducible assumption) | assumption)
                    have q9 : (ji6) < (16 : Int) := of_decide_eq_true (by first | (with_reducible assumption) | assumption)
                    have hx9 := bt_at (⟨#[48, 49, 50, 51, 52, 53, 54, 55, 56, 57, 97, 98, 99, 100, 101, 102]⟩ : ByteArray) (ji6)
                    replace p9 := eq_true p9
                    replace q9 := eq_true q9
                    have p13 : 0 ≤ ((ji10) : Int) := of_decide_eq_true (by first | (with_reducible assumption) | assumption)
                    have q13 : (ji10) < (16 : Int) := of_decide_eq_true (by first | (with_reducible assumption) | assumption)
                    have hx13 := bt_at (⟨#[48, 49, 50, 51, 52, 53, 54, 55, 56, 57, 97, 98, 99, 100, 101, 102]⟩ : ByteArray) (ji10)
                    replace p13 := eq_true p13
                    replace q13 := eq_true q13
                    have p17 : 0 ≤ ((ji14) : Int) := of_decide_eq_true (by first | (with_reducible assumption) | assumption)
                    have q17 : (ji14) < (16 : Int) := of_decide_eq_true (by first | (with_reducible assumption) | assumption)
                    have hx17 := bt_at (⟨#[48, 49, 50, 51, 52, 53, 54, 55, 56, 57, 97, 98, 99, 100, 101, 102]⟩ : ByteArray) (ji14)
                    replace p17 := eq_true p17
                    replace q17 := eq_true q17
                    refine start_ (n := 19) (S := fun w' => True) (ds := []) #[false, false, false, false, false, false, false, false, false, false, false, false, false, false, false, false, false, false, false] (by kernel_rfl) rfl rfl trivial (fun hHeld => ?_); refine with_tabW heliastlaw01_hex.tab1 heliastlaw01_hex.bits1 (fun HT_ HW_ => ?_)
                    generalize w.drew = w19 at HB hHeld ⊢
                    refine pure_ (i := 0) (N := some 3) (v := ?_) (a' := ?_) #[true, false, false, false, false, false, false, false, false, false, false, false, false, false, false, false, false, false, false] rfl rfl (any_of HT_.out (by kernel_rfl)) (fun _ _ _ h => h) (Or.inl ⟨by rfl, ?_⟩) ?_ ?_
                    rotate_left
                    · intro w'
                      go_simp
                      with_reducible rfl
                    rotate_left
                    · simp only [Act.put, List.setIfInBounds_toArray, List.set_cons_zero, List.set_cons_succ, i64_w, i32_w]
                      rfl
                    refine pure_ (i := 1) (N := some 4) (v := ?_) (a' := ?_) #[true, true, false, false, false, false, false, false, false, false, false, false, false, false, false, false, false, false, false] rfl rfl (any_of HT_.out (by kernel_rfl)) (fun _ _ _ h => h) (Or.inl ⟨by rfl, ?_⟩) ?_ ?_
                    rotate_left
                    · intro w'
                      go_simp
                      with_reducible rfl
                    rotate_left
                    · simp only [Act.put, List.setIfInBounds_toArray, List.set_cons_zero, List.set_cons_succ, i64_w, i32_w]
                      rfl
                    refine pure_ (i := 2) (N := some 5) (v := ?_) (a' := ?_) #[true, true, true, false, false, false, false, false, false, false, false, false, false, false, false, false, false, false, false] rfl rfl (any_of HT_.out (by kernel_rfl)) (fun _ _ _ h => h) (Or.inl ⟨by rfl, ?_⟩) ?_ ?_
                    rotate_left
                    · intro w'
                      go_simp
                      with_reducible rfl
                    rotate_left
                    · simp only [Act.put, List.setIfInBounds_toArray, List.set_cons_zero, List.set_cons_succ, i64_w, i32_w]
                      rfl
                    refine pure_ (i := 4) (N := some 7) (v := ?_) (a' := ?_) #[true, true, true, false, true, false, false, false, false, false, false, false, false, false, false, false, false, false, false] rfl rfl (any_of HT_.out (by kernel_rfl)) (fun _ _ _ h => h) (Or.inl ⟨by rfl, ?_⟩) ?_ ?_
                    rotate_left
                    · intro w'
                      go_simp
                      with_reducible rfl
                    rotate_left
                    · simp only [Act.put, List.setIfInBounds_toArray, List.set_cons_zero, List.set_cons_succ, i64_w, i32_w]
                      rfl
                    refine pure_ (i := 5) (N := some 8) (v := ?_) (a' := ?_) #[true, true, true, false, true, true, false, false, false, false, false, false, false, false, false, false, false, false, false] rfl rfl (any_of HT_.out (by kernel_rfl)) (fun _ _ _ h => h) (Or.inl ⟨by rfl, ?_⟩) ?_ ?_
                    rotate_left
                    · intro w'
                      go_simp
                      with_reducible rfl
                    rotate_left
                    · simp only [Act.put, List.setIfInBounds_toArray, List.set_cons_zero, List.set_cons_succ, i64_w, i32_w]
                      rfl
                    refine pure_ (i := 6) (N := some 9) (v := ?_) (a' := ?_) #[true, true, true, false, true, true, true, false, false, false, false, false, false, false, false, false, false, false, false] rfl rfl (any_of HT_.out (by kernel_rfl)) (fun _ _ _ h => h) (Or.inl ⟨by rfl, ?_⟩) ?_ ?_
                    rotate_left
                    · intro w'
                      go_simp
                      with_reducible rfl
                    rotate_left
                    · simp only [Act.put, List.setIfInBounds_toArray, List.set_cons_zero, List.set_cons_succ, i64_w, i32_w]
                      rfl
                    refine pure_ (i := 8) (N := some 11) (v := ?_) (a' := ?_) #[true, true, true, false, true, true, true, false, true, false, false, false, false, false, false, false, false, false, false] rfl rfl (any_of HT_.out (by kernel_rfl)) (fun _ _ _ h => h) (Or.inl ⟨by rfl, ?_⟩) ?_ ?_
                    rotate_left
                    · intro w'
                      go_simp
                      with_reducible rfl
                    rotate_left
                    · simp only [Act.put, List.setIfInBounds_toArray, List.set_cons_zero, List.set_cons_succ, i64_w, i32_w]
                      rfl
                    refine pure_ (i := 9) (N := some 12) (v := ?_) (a' := ?_) #[true, true, true, false, true, true, true, false, true, true, false, false, false, false, false, false, false, false, false] rfl rfl (any_of HT_.out (by kernel_rfl)) (fun _ _ _ h => h) (Or.inl ⟨by rfl, ?_⟩) ?_ ?_
                    rotate_left
                    · intro w'
                      go_simp
                      with_reducible rfl
                    rotate_left
                    · simp only [Act.put, List.setIfInBounds_toArray, List.set_cons_zero, List.set_cons_succ, i64_w, i32_w]
                      rfl
                    refine pure_ (i := 10) (N := some 13) (v := ?_) (a' := ?_) #[true, true, true, false, true, true, true, false, true, true, true, false, false, false, false, false, false, false, false] rfl rfl (any_of HT_.out (by kernel_rfl)) (fun _ _ _ h => h) (Or.inl ⟨by rfl, ?_⟩) ?_ ?_
                    rotate_left
                    · intro w'
                      go_simp
                      with_reducible rfl
                    rotate_left
                    · simp only [Act.put, List.setIfInBounds_toArray, List.set_cons_zero, List.set_cons_succ, i64_w, i32_w]
                      rfl
                    refine pure_ (i := 12) (N := some 15) (v := ?_) (a' := ?_) #[true, true, true, false, true, true, true, false, true, true, true, false, true, false, false, false, false, false, false] rfl rfl (any_of HT_.out (by kernel_rfl)) (fun _ _ _ h => h) (Or.inl ⟨by rfl, ?_⟩) ?_ ?_
                    rotate_left
                    · intro w'
                      go_simp
                      with_reducible rfl
                    rotate_left
                    · simp only [Act.put, List.setIfInBounds_toArray, List.set_cons_zero, List.set_cons_succ, i64_w, i32_w]
                      rfl
                    refine pure_ (i := 13) (N := some 16) (v := ?_) (a' := ?_) #[true, true, true, false, true, true, true, false, true, true, true, false, true, true, false, false, false, false, false] rfl rfl (any_of HT_.out (by kernel_rfl)) (fun _ _ _ h => h) (Or.inl ⟨by rfl, ?_⟩) ?_ ?_
                    rotate_left
                    · intro w'
                      go_simp
                      with_reducible rfl
                    rotate_left
                    · simp only [Act.put, List.setIfInBounds_toArray, List.set_cons_zero, List.set_cons_succ, i64_w, i32_w]
                      rfl
                    refine take_ (i := 3) (N := some 6) (v := ?_) (a' := ?_) #[true, true, true, true, true, true, true, false, true, true, true, false, true, true, false, false, false, false, false] rfl rfl (take_ofW HT_.out HW_.out (by kernel_rfl)) (fun _ _ _ h => h) (Or.inl ⟨by rfl, ?_⟩) hHeld ?_ ?_
                    rotate_left
                    · intro w' _
                      go_simp
                      with_reducible rfl
                    rotate_left
                    · simp only [Act.put, List.setIfInBounds_toArray, List.set_cons_zero, List.set_cons_succ, i64_w, i32_w]
                      rfl
                    refine take_ (i := 7) (N := some 10) (v := ?_) (a' := ?_) #[true, true, true, true, true, true, true, true, true, true, true, false, true, true, false, false, false, false, false] rfl rfl (take_ofW HT_.out HW_.out (by kernel_rfl)) (fun _ _ _ h => h) (Or.inl ⟨by rfl, ?_⟩) hHeld ?_ ?_
                    rotate_left
                    · intro w' _
                      go_simp
                      with_reducible rfl
                    rotate_left
                    · simp only [Act.put, List.setIfInBounds_toArray, List.set_cons_zero, List.set_cons_succ, i64_w, i32_w]
                      rfl
                    refine take_ (i := 11) (N := some 14) (v := ?_) (a' := ?_) #[true, true, true, true, true, true, true, true, true, true, true, true, true, true, false, false, false, false, false] rfl rfl (take_ofW HT_.out HW_.out (by kernel_rfl)) (fun _ _ _ h => h) (Or.inl ⟨by rfl, ?_⟩) hHeld ?_ ?_
                    rotate_left
                    · intro w' _
                      go_simp
                      with_reducible rfl
                    rotate_left
                    · simp only [Act.put, List.setIfInBounds_toArray, List.set_cons_zero, List.set_cons_succ, i64_w, i32_w]
                      rfl
                    refine take_ (i := 14) (N := some 17) (v := ?_) (a' := ?_) #[true, true, true, true, true, true, true, true, true, true, true, true, true, true, true, false, false, false, false] rfl rfl (take_ofW HT_.out HW_.out (by kernel_rfl)) (fun _ _ _ h => h) (Or.inl ⟨by rfl, ?_⟩) hHeld ?_ ?_
                    rotate_left
                    · intro w' _
                      go_simp
                      with_reducible rfl
                    rotate_left
                    · simp only [Act.put, List.setIfInBounds_toArray, List.set_cons_zero, List.set_cons_succ, i64_w, i32_w]
                      rfl
                    refine one_ (i := 15) (N := some 18) #[true, true, true, true, true, true, true, true, true, true, true, true, true, true, true, true, false, false, false] rfl rfl (one_of HT_.out (by kernel_rfl)) (by decide) (fun K hK => ?_)
                    refine Kd.R_lit_step (Kd.int .u8) _ 5 ?hg (N := 18) ?hd (xs := ([bt (⟨#[48, 49, 50, 51, 52, 53, 54, 55, 56, 57, 97, 98, 99, 100, 101, 102]⟩ : ByteArray) (ji2), bt (⟨#[48, 49, 50, 51, 52, 53, 54, 55, 56, 57, 97, 98, 99, 100, 101, 102]⟩ : ByteArray) (ji6), bt (⟨#[48, 49, 50, 51, 52, 53, 54, 55, 56, 57, 97, 98, 99, 100, 101, 102]⟩ : ByteArray) (ji10), bt (⟨#[48, 49, 50, 51, 52, 53, 54, 55, 56, 57, 97, 98, 99, 100, 101, 102]⟩ : ByteArray) (ji14)] : List Int)) (inner := [.int .u8 (bt (⟨#[48, 49, 50, 51, 52, 53, 54, 55, 56, 57, 97, 98, 99, 100, 101, 102]⟩ : ByteArray) (ji2)), .int .u8 (bt (⟨#[48, 49, 50, 51, 52, 53, 54, 55, 56, 57, 97, 98, 99, 100, 101, 102]⟩ : ByteArray) (ji6)), .int .u8 (bt (⟨#[48, 49, 50, 51, 52, 53, 54, 55, 56, 57, 97, 98, 99, 100, 101, 102]⟩ : ByteArray) (ji10)), .int .u8 (bt (⟨#[48, 49, 50, 51, 52, 53, 54, 55, 56, 57, 97, 98, 99, 100, 101, 102]⟩ : ByteArray) (ji14))]) (ok := fun _ => True) (okp := fun _ => True) ?hr ?hp (fun _ hk => hk) trivial (Below.refl _ _) (Nat.le_refl _) (by simp) ?_; (case hd => rfl); (case hg => rfl); (case hr => first | (go_simp; done) | (go_simp; rfl)); (case hp => exact (Reps.one (show Kd.M (Kd.int .u8) _ _ _ (bt (⟨#[48, 49, 50, 51, 52, 53, 54, 55, 56, 57, 97, 98, 99, 100, 101, 102]⟩ : ByteArray) (ji2)) [.int .u8 (bt (⟨#[48, 49, 50, 51, 52, 53, 54, 55, 56, 57, 97, 98, 99, 100, 101, 102]⟩ : ByteArray) (ji2))] from rfl) (Reps.one (show Kd.M (Kd.int .u8) _ _ _ (bt (⟨#[48, 49, 50, 51, 52, 53, 54, 55, 56, 57, 97, 98, 99, 100, 101, 102]⟩ : ByteArray) (ji6)) [.int .u8 (bt (⟨#[48, 49, 50, 51, 52, 53, 54, 55, 56, 57, 97, 98, 99, 100, 101, 102]⟩ : ByteArray) (ji6))] from rfl) (Reps.one (show Kd.M (Kd.int .u8) _ _ _ (bt (⟨#[48, 49, 50, 51, 52, 53, 54, 55, 56, 57, 97, 98, 99, 100, 101, 102]⟩ : ByteArray) (ji10)) [.int .u8 (bt (⟨#[48, 49, 50, 51, 52, 53, 54, 55, 56, 57, 97, 98, 99, 100, 101, 102]⟩ : ByteArray) (ji10))] from rfl) (Reps.one (show Kd.M (Kd.int .u8) _ _ _ (bt (⟨#[48, 49, 50, 51, 52, 53, 54, 55, 56, 57, 97, 98, 99, 100, 101, 102]⟩ : ByteArray) (ji14)) [.int .u8 (bt (⟨#[48, 49, 50, 51, 52, 53, 54, 55, 56, 57, 97, 98, 99, 100, 101, 102]⟩ : ByteArray) (ji14))] from rfl) (Reps.none _ _))))))
                    intro v197 w20 ho21 hb hg_ hnew_
                    clear hg_ hnew_
                    (first | rw [← Ny196.out] at ho21 | (simp only [Int.reduceToNat] at ho21; rw [← Ny196.out] at ho21))
                    have n0_ := Aside0.mk (Kd.R_lower ho21 (below_size (by repeat (first | (with_reducible first | exact HB.out | apply below_alloc | apply pw_below_drewN | apply below_drew1) | exact HB.out))))
                    have n1_ := Aside0.mk (below_step (by repeat (first | (with_reducible first | exact HB.out | apply below_alloc | apply pw_below_drewN | apply below_drew1) | exact HB.out)) hb)
                    clear HB
                    have HO198 := n0_
                    have HB := n1_
                    clear n0_ n1_
                    clear hb ho21
                    refine hK.out _ _ trivial (fun hHeld => ?_)
                    clear hK K
                    refine norm_ (a' := ?_) ?_ ?_
                    rotate_left
                    · show Act.put _ (some 18) _ = _
                      simp only [Act.put, List.setIfInBounds_toArray, List.set_cons_zero, List.set_cons_succ, i64_w, i32_w]
                      rfl
                    refine one_ (i := 16) (N := some 19) #[true, true, true, true, true, true, true, true, true, true, true, true, true, true, true, true, true, false, false] rfl rfl (one_of HT_.out (by kernel_rfl)) (by decide) (fun K hK => ?_)
                    have hcv22 := own_string (P := Tryd.prog) Tryd.underlying22 Tryd.underlying5 Tryd.underlying9 (Kd.own_of_R HO198.out)
                    refine value_ (w1 := ?_) (v := ?_) (by rfl) rfl ?_ ?_
                    rotate_left 2
                    · go_simp
                      constructor
                      · rfl
                      · rfl
                    clear hcv22
                    refine hK.out _ _ trivial (fun hHeld => ?_)
                    clear hK K
                    refine norm_ (a' := ?_) ?_ ?_
                    rotate_left
                    · show Act.put _ (some 19) _ = _
                      simp only [Act.put, List.setIfInBounds_toArray, List.set_cons_zero, List.set_cons_succ, i64_w, i32_w]
                      rfl
                    refine pure_ (i := 17) (N := some 20) (v := ?_) (a' := ?_) #[true, true, true, true, true, true, true, true, true, true, true, true, true, true, true, true, true, true, false] rfl rfl (any_of HT_.out (by kernel_rfl)) (fun _ _ _ h => h) (Or.inl ⟨by rfl, ?_⟩) ?_ ?_
                    rotate_left
                    · intro w'
                      go_simp
                      with_reducible rfl
                    rotate_left
                    · simp only [Act.put, List.setIfInBounds_toArray, List.set_cons_zero, List.set_cons_succ, i64_w, i32_w]
                      rfl
                    refine pure_ (i := 18) (N := some 2) (v := ?_) (a' := ?_) #[true, true, true, true, true, true, true, true, true, true, true, true, true, true, true, true, true, true, true] rfl rfl (any_of HT_.out (by kernel_rfl)) (fun _ _ _ h => h) (Or.inl ⟨by rfl, ?_⟩) ?_ ?_
                    rotate_left
                    · intro w'
                      go_simp
                      with_reducible rfl
                    rotate_left
                    · simp only [Act.put, List.setIfInBounds_toArray, List.set_cons_zero, List.set_cons_succ, i64_w, i32_w]
                      rfl
                    refine done_ (done_of HT_.out (by kernel_rfl)) ?_
                    try go_wp2
                    go_ret
                    exact ⟨by first | rfl | (simp [errW_none, errW_some] <;> rfl) | (simp only [← hji2, ← hji6, ← hji10, ← hji14]; first | rfl | (simp [errW_none, errW_some] <;> rfl)) | (simp [*, errW_none, errW_some] <;> rfl), by repeat (first | (with_reducible first | exact HB.out | apply below_alloc | apply pw_below_drewN | apply below_drew1) | exact HB.out)⟩
                  · rw [if_neg c18] at H
                    exact absurd H (by simp)
                · rw [if_neg c16] at H
                  exact absurd H (by simp)
              · rw [if_neg c15] at H
                exact absurd H (by simp)
            · rw [if_neg c12] at H
              exact absurd H (by simp)
          · rw [if_neg c11] at H
            exact absurd H (by simp)
        · rw [if_neg c8] at H
          exact absurd H (by simp)
      · rw [if_neg c7] at H
        exact absurd H (by simp)
    · rw [if_neg c4] at H
      exact absurd H (by simp)
  · rw [if_neg c3] at H
    exact absurd H (by simp)

end Go.Proofs.YtpibbokkdjjgeaaDoor.Pg

/-
  What the functions of these laws compute, as plain Lean functions, and that the machine's calls compute it: written by this session's own hook over the kit's print.
-/
namespace Go.Proofs.YtpibbokkdjjgeaaDoor.Pg
open Go.RowKit Go.Proofs.YtpibbokkdjjgeaaDoorW.PrintWords Go.Proofs.YtpibbokkdjjgeaaDoorW.PrintLast Go.Proofs.YtpibbokkdjjgeaaDoorW.PrintMore
attribute [local go_sem] max2_int min2_int max_two min_two max_three min_three max_four min_four   -- for this text's walks alone
set_option linter.unusedVariables false
set_option linter.unusedSimpArgs false

/-! ### heliastlaw01_four: function 19 -/
def heliastlaw01_four.f (a0 : Int) : Option (ByteArray) := if a0 < 128 then (some (strOfNums (([(a0) % 256] : List Int)))) else (if a0 < 2048 then (some (strOfNums (([(wrap64 (192 + (wrap64 (Int.tdiv a0 64)))) % 256, (wrap64 (128 + (Int.tmod a0 64))) % 256] : List Int)))) else (if a0 < 65536 then (some (strOfNums (([(wrap64 (224 + (wrap64 (Int.tdiv a0 4096)))) % 256, (wrap64 (128 + (Int.tmod (wrap64 (Int.tdiv a0 64)) 64))) % 256, (wrap64 (128 + (Int.tmod a0 64))) % 256] : List Int)))) else (some (strOfNums (([(wrap64 (240 + (wrap64 (Int.tdiv a0 262144)))) % 256, (wrap64 (128 + (Int.tmod (wrap64 (Int.tdiv a0 4096)) 64))) % 256, (wrap64 (128 + (Int.tmod (wrap64 (Int.tdiv a0 64)) 64))) % 256, (wrap64 (128 + (Int.tmod a0 64))) % 256] : List Int))))))
set_option maxHeartbeats 8000000 in
set_option maxRecDepth 100000 in
theorem heliastlaw01_four.calls (a0 : Int) (r : ByteArray) (w : World) (h : heliastlaw01_four.f a0 = some r) :
    Calls Tryd.prog 19 #[.int .i64 a0] w fun e w' => e = .returned (.string r) ∧ Below w.heap.size w w' := by
  have HB := Aside0.mk (Below.refl w.heap.size w)
  have H : (if a0 < 128 then (some (strOfNums (([(a0) % 256] : List Int)))) else (if a0 < 2048 then (some (strOfNums (([(wrap64 (192 + (wrap64 (Int.tdiv a0 64)))) % 256, (wrap64 (128 + (Int.tmod a0 64))) % 256] : List Int)))) else (if a0 < 65536 then (some (strOfNums (([(wrap64 (224 + (wrap64 (Int.tdiv a0 4096)))) % 256, (wrap64 (128 + (Int.tmod (wrap64 (Int.tdiv a0 64)) 64))) % 256, (wrap64 (128 + (Int.tmod a0 64))) % 256] : List Int)))) else (some (strOfNums (([(wrap64 (240 + (wrap64 (Int.tdiv a0 262144)))) % 256, (wrap64 (128 + (Int.tmod (wrap64 (Int.tdiv a0 4096)) 64))) % 256, (wrap64 (128 + (Int.tmod (wrap64 (Int.tdiv a0 64)) 64))) % 256, (wrap64 (128 + (Int.tmod a0 64))) % 256] : List Int))))))) = some r := h
  clear h
  by_cases c2 : a0 < 128
  · rw [if_pos c2] at H
    have c2b0 : decide (a0 < 128) = true := decide_eq_true c2
    clear c2
    obtain ⟨y199, hy199⟩ : ∃ y_ : List Int, y_ = (([(a0) % 256] : List Int)) := ⟨_, rfl⟩
    replace H : (some (strOfNums y199)) = some r := by first | (rw [hy199]; with_reducible exact H) | (have H2_ := (Option.bind_some _ _).symm.trans H; rw [hy199]; with_reducible exact H2_) | (have H2_ := (Option.bind_some _ _).symm.trans H; with_reducible exact H2_) | with_reducible exact H | (rw [hy199]; exact H) | exact H
    have Ny199 := Aside0.mk hy199
    clear hy199
    obtain rfl := Option.some.inj H
    go_enter Tryd.func19, Tryd.ntmps19
    go_wp2_with (first | ((with_reducible refine gate_dst (N := 8) rfl ?_); refine Kd.R_lit (Kd.int .u8) _ 5 ?hg (N := 8) ?hd (xs := ([(a0) % 256] : List Int)) (inner := [.int .u8 ((a0) % 256)]) (ok := fun _ => True) (okp := fun _ => True) ?hr ?hp (fun _ hk => hk) trivial (Below.refl _ _) (Nat.le_refl _) (by simp) ?_; (case hd => rfl); (case hg => rfl); (case hr => first | (go_simp; done) | (go_simp; rfl)); (case hp => exact (Reps.one (show Kd.M (Kd.int .u8) _ _ _ ((a0) % 256) [.int .u8 ((a0) % 256)] from rfl) (Reps.none _ _))); intro v200 w3 ho4 hb hg_ hnew_; clear hg_ hnew_; (first | rw [← Ny199.out] at ho4 | (simp only [Int.reduceToNat] at ho4; rw [← Ny199.out] at ho4)); have n0_ := Aside0.mk (Kd.R_lower ho4 (below_size (by repeat (first | (with_reducible first | exact HB.out | apply below_alloc | apply pw_below_drewN | apply below_drew1) | exact HB.out)))); have n1_ := Aside0.mk (below_step (by repeat (first | (with_reducible first | exact HB.out | apply below_alloc | apply pw_below_drewN | apply below_drew1) | exact HB.out)) hb); clear HB; have HO201 := n0_; have HB := n1_; clear n0_ n1_; clear hb ho4; have hcv5 := own_string (P := Tryd.prog) Tryd.underlying22 Tryd.underlying5 Tryd.underlying9 (Kd.own_of_R HO201.out)))
    go_ret
    exact ⟨by first | rfl | (simp [errW_none, errW_some] <;> rfl) | (simp [*, errW_none, errW_some] <;> rfl), by repeat (first | (with_reducible first | exact HB.out | apply below_alloc | apply pw_below_drewN | apply below_drew1) | exact HB.out)⟩
  · rw [if_neg c2] at H
    have c2b0 : decide (a0 < 128) = false := decide_eq_false c2
    clear c2
    by_cases c6 : a0 < 2048
    · rw [if_pos c6] at H
      have c6b0 : decide (a0 < 2048) = true := decide_eq_true c6
      clear c6
      obtain ⟨y202, hy202⟩ : ∃ y_ : List Int, y_ = (([(wrap64 (192 + (wrap64 (Int.tdiv a0 64)))) % 256, (wrap64 (128 + (Int.tmod a0 64))) % 256] : List Int)) := ⟨_, rfl⟩
      replace H : (some (strOfNums y202)) = some r := by first | (rw [hy202]; with_reducible exact H) | (have H2_ := (Option.bind_some _ _).symm.trans H; rw [hy202]; with_reducible exact H2_) | (have H2_ := (Option.bind_some _ _).symm.trans H; with_reducible exact H2_) | with_reducible exact H | (rw [hy202]; exact H) | exact H
      have Ny202 := Aside0.mk hy202
      clear hy202
      obtain rfl := Option.some.inj H
      go_enter Tryd.func19, Tryd.ntmps19
      go_wp2_with (first | ((with_reducible refine gate_dst (N := 21) rfl ?_); refine Kd.R_lit (Kd.int .u8) _ 5 ?hg (N := 21) ?hd (xs := ([(wrap64 (192 + (wrap64 (Int.tdiv a0 64)))) % 256, (wrap64 (128 + (Int.tmod a0 64))) % 256] : List Int)) (inner := [.int .u8 ((wrap64 (192 + (wrap64 (Int.tdiv a0 64)))) % 256), .int .u8 ((wrap64 (128 + (Int.tmod a0 64))) % 256)]) (ok := fun _ => True) (okp := fun _ => True) ?hr ?hp (fun _ hk => hk) trivial (Below.refl _ _) (Nat.le_refl _) (by simp) ?_; (case hd => rfl); (case hg => rfl); (case hr => first | (go_simp; done) | (go_simp; rfl)); (case hp => exact (Reps.one (show Kd.M (Kd.int .u8) _ _ _ ((wrap64 (192 + (wrap64 (Int.tdiv a0 64)))) % 256) [.int .u8 ((wrap64 (192 + (wrap64 (Int.tdiv a0 64)))) % 256)] from rfl) (Reps.one (show Kd.M (Kd.int .u8) _ _ _ ((wrap64 (128 + (Int.tmod a0 64))) % 256) [.int .u8 ((wrap64 (128 + (Int.tmod a0 64))) % 256)] from rfl) (Reps.none _ _)))); intro v203 w7 ho8 hb hg_ hnew_; clear hg_ hnew_; (first | rw [← Ny202.out] at ho8 | (simp only [Int.reduceToNat] at ho8; rw [← Ny202.out] at ho8)); have n0_ := Aside0.mk (Kd.R_lower ho8 (below_size (by repeat (first | (with_reducible first | exact HB.out | apply below_alloc | apply pw_below_drewN | apply below_drew1) | exact HB.out)))); have n1_ := Aside0.mk (below_step (by repeat (first | (with_reducible first | exact HB.out | apply below_alloc | apply pw_below_drewN | apply below_drew1) | exact HB.out)) hb); clear HB; have HO204 := n0_; have HB := n1_; clear n0_ n1_; clear hb ho8; have hcv9 := own_string (P := Tryd.prog) Tryd.underlying22 Tryd.underlying5 Tryd.underlying9 (Kd.own_of_R HO204.out)))
      go_ret
      exact ⟨by first | rfl | (simp [errW_none, errW_some] <;> rfl) | (simp [*, errW_none, errW_some] <;> rfl), by repeat (first | (with_reducible first | exact HB.out | apply below_alloc | apply pw_below_drewN | apply below_drew1) | exact HB.out)⟩
    · rw [if_neg c6] at H
      have c6b0 : decide (a0 < 2048) = false := decide_eq_false c6
      clear c6
      by_cases c10 : a0 < 65536
      · rw [if_pos c10] at H
        have c10b0 : decide (a0 < 65536) = true := decide_eq_true c10
        clear c10
        obtain ⟨y205, hy205⟩ : ∃ y_ : List Int, y_ = (([(wrap64 (224 + (wrap64 (Int.tdiv a0 4096)))) % 256, (wrap64 (128 + (Int.tmod (wrap64 (Int.tdiv a0 64)) 64))) % 256, (wrap64 (128 + (Int.tmod a0 64))) % 256] : List Int)) := ⟨_, rfl⟩
        replace H : (some (strOfNums y205)) = some r := by first | (rw [hy205]; with_reducible exact H) | (have H2_ := (Option.bind_some _ _).symm.trans H; rw [hy205]; with_reducible exact H2_) | (have H2_ := (Option.bind_some _ _).symm.trans H; with_reducible exact H2_) | with_reducible exact H | (rw [hy205]; exact H) | exact H
        have Ny205 := Aside0.mk hy205
        clear hy205
        obtain rfl := Option.some.inj H
        go_enter Tryd.func19, Tryd.ntmps19
        go_wp2_with (first | ((with_reducible refine gate_dst (N := 39) rfl ?_); refine Kd.R_lit (Kd.int .u8) _ 5 ?hg (N := 39) ?hd (xs := ([(wrap64 (224 + (wrap64 (Int.tdiv a0 4096)))) % 256, (wrap64 (128 + (Int.tmod (wrap64 (Int.tdiv a0 64)) 64))) % 256, (wrap64 (128 + (Int.tmod a0 64))) % 256] : List Int)) (inner := [.int .u8 ((wrap64 (224 + (wrap64 (Int.tdiv a0 4096)))) % 256), .int .u8 ((wrap64 (128 + (Int.tmod (wrap64 (Int.tdiv a0 64)) 64))) % 256), .int .u8 ((wrap64 (128 + (Int.tmod a0 64))) % 256)]) (ok := fun _ => True) (okp := fun _ => True) ?hr ?hp (fun _ hk => hk) trivial (Below.refl _ _) (Nat.le_refl _) (by simp) ?_; (case hd => rfl); (case hg => rfl); (case hr => first | (go_simp; done) | (go_simp; rfl)); (case hp => exact (Reps.one (show Kd.M (Kd.int .u8) _ _ _ ((wrap64 (224 + (wrap64 (Int.tdiv a0 4096)))) % 256) [.int .u8 ((wrap64 (224 + (wrap64 (Int.tdiv a0 4096)))) % 256)] from rfl) (Reps.one (show Kd.M (Kd.int .u8) _ _ _ ((wrap64 (128 + (Int.tmod (wrap64 (Int.tdiv a0 64)) 64))) % 256) [.int .u8 ((wrap64 (128 + (Int.tmod (wrap64 (Int.tdiv a0 64)) 64))) % 256)] from rfl) (Reps.one (show Kd.M (Kd.int .u8) _ _ _ ((wrap64 (128 + (Int.tmod a0 64))) % 256) [.int .u8 ((wrap64 (128 + (Int.tmod a0 64))) % 256)] from rfl) (Reps.none _ _))))); intro v206 w11 ho12 hb hg_ hnew_; clear hg_ hnew_; (first | rw [← Ny205.out] at ho12 | (simp only [Int.reduceToNat] at ho12; rw [← Ny205.out] at ho12)); have n0_ := Aside0.mk (Kd.R_lower ho12 (below_size (by repeat (first | (with_reducible first | exact HB.out | apply below_alloc | apply pw_below_drewN | apply below_drew1) | exact HB.out)))); have n1_ := Aside0.mk (below_step (by repeat (first | (with_reducible first | exact HB.out | apply below_alloc | apply pw_below_drewN | apply below_drew1) | exact HB.out)) hb); clear HB; have HO207 := n0_; have HB := n1_; clear n0_ n1_; clear hb ho12; have hcv13 := own_string (P := Tryd.prog) Tryd.underlying22 Tryd.underlying5 Tryd.underlying9 (Kd.own_of_R HO207.out)))
        go_ret
        exact ⟨by first | rfl | (simp [errW_none, errW_some] <;> rfl) | (simp [*, errW_none, errW_some] <;> rfl), by repeat (first | (with_reducible first | exact HB.out | apply below_alloc | apply pw_below_drewN | apply below_drew1) | exact HB.out)⟩
      · rw [if_neg c10] at H
        have c10b0 : decide (a0 < 65536) = false := decide_eq_false c10
        clear c10
        obtain ⟨y208, hy208⟩ : ∃ y_ : List Int, y_ = (([(wrap64 (240 + (wrap64 (Int.tdiv a0 262144)))) % 256, (wrap64 (128 + (Int.tmod (wrap64 (Int.tdiv a0 4096)) 64))) % 256, (wrap64 (128 + (Int.tmod (wrap64 (Int.tdiv a0 64)) 64))) % 256, (wrap64 (128 + (Int.tmod a0 64))) % 256] : List Int)) := ⟨_, rfl⟩
        replace H : (some (strOfNums y208)) = some r := by first | (rw [hy208]; with_reducible exact H) | (have H2_ := (Option.bind_some _ _).symm.trans H; rw [hy208]; with_reducible exact H2_) | (have H2_ := (Option.bind_some _ _).symm.trans H; with_reducible exact H2_) | with_reducible exact H | (rw [hy208]; exact H) | exact H
        have Ny208 := Aside0.mk hy208
        clear hy208
        obtain rfl := Option.some.inj H
        go_enter Tryd.func19, Tryd.ntmps19
        go_wp2_with (first | ((with_reducible refine gate_dst (N := 59) rfl ?_); refine Kd.R_lit (Kd.int .u8) _ 5 ?hg (N := 59) ?hd (xs := ([(wrap64 (240 + (wrap64 (Int.tdiv a0 262144)))) % 256, (wrap64 (128 + (Int.tmod (wrap64 (Int.tdiv a0 4096)) 64))) % 256, (wrap64 (128 + (Int.tmod (wrap64 (Int.tdiv a0 64)) 64))) % 256, (wrap64 (128 + (Int.tmod a0 64))) % 256] : List Int)) (inner := [.int .u8 ((wrap64 (240 + (wrap64 (Int.tdiv a0 262144)))) % 256), .int .u8 ((wrap64 (128 + (Int.tmod (wrap64 (Int.tdiv a0 4096)) 64))) % 256), .int .u8 ((wrap64 (128 + (Int.tmod (wrap64 (Int.tdiv a0 64)) 64))) % 256), .int .u8 ((wrap64 (128 + (Int.tmod a0 64))) % 256)]) (ok := fun _ => True) (okp := fun _ => True) ?hr ?hp (fun _ hk => hk) trivial (Below.refl _ _) (Nat.le_refl _) (by simp) ?_; (case hd => rfl); (case hg => rfl); (case hr => first | (go_simp; done) | (go_simp; rfl)); (case hp => exact (Reps.one (show Kd.M (Kd.int .u8) _ _ _ ((wrap64 (240 + (wrap64 (Int.tdiv a0 262144)))) % 256) [.int .u8 ((wrap64 (240 + (wrap64 (Int.tdiv a0 262144)))) % 256)] from rfl) (Reps.one (show Kd.M (Kd.int .u8) _ _ _ ((wrap64 (128 + (Int.tmod (wrap64 (Int.tdiv a0 4096)) 64))) % 256) [.int .u8 ((wrap64 (128 + (Int.tmod (wrap64 (Int.tdiv a0 4096)) 64))) % 256)] from rfl) (Reps.one (show Kd.M (Kd.int .u8) _ _ _ ((wrap64 (128 + (Int.tmod (wrap64 (Int.tdiv a0 64)) 64))) % 256) [.int .u8 ((wrap64 (128 + (Int.tmod (wrap64 (Int.tdiv a0 64)) 64))) % 256)] from rfl) (Reps.one (show Kd.M (Kd.int .u8) _ _ _ ((wrap64 (128 + (Int.tmod a0 64))) % 256) [.int .u8 ((wrap64 (128 + (Int.tmod a0 64))) % 256)] from rfl) (Reps.none _ _)))))); intro v209 w14 ho15 hb hg_ hnew_; clear hg_ hnew_; (first | rw [← Ny208.out] at ho15 | (simp only [Int.reduceToNat] at ho15; rw [← Ny208.out] at ho15)); have n0_ := Aside0.mk (Kd.R_lower ho15 (below_size (by repeat (first | (with_reducible first | exact HB.out | apply below_alloc | apply pw_below_drewN | apply below_drew1) | exact HB.out)))); have n1_ := Aside0.mk (below_step (by repeat (first | (with_reducible first | exact HB.out | apply below_alloc | apply pw_below_drewN | apply below_drew1) | exact HB.out)) hb); clear HB; have HO210 := n0_; have HB := n1_; clear n0_ n1_; clear hb ho15; have hcv16 := own_string (P := Tryd.prog) Tryd.underlying22 Tryd.underlying5 Tryd.underlying9 (Kd.own_of_R HO210.out)))
        go_ret
        exact ⟨by first | rfl | (simp [errW_none, errW_some] <;> rfl) | (simp [*, errW_none, errW_some] <;> rfl), by repeat (first | (with_reducible first | exact HB.out | apply below_alloc | apply pw_below_drewN | apply below_drew1) | exact HB.out)⟩

-- NOT PRINTED: function 6 (heliastlaw01_GlyphPairs)

-- NOT PRINTED: function 7 (heliastlaw01_GlyphLess)

-- NOT PRINTED: function 8 (heliastlaw01_GlyphPlain)

-- NOT PRINTED: function 9 (heliastlaw01_GlyphJoin)

-- NOT PRINTED: function 10 (heliastlaw01_GlyphShort)

end Go.Proofs.YtpibbokkdjjgeaaDoor.Pg

/-
  The law's own escapes and runes: hex and four, in plain words; what an escape of a number tells.
-/
namespace Go.Proofs.YtpibbokkdjjgeaaDoor
open Go.RowKit Go.Lib Go.Proofs.YtpibbokkdjjgeaaDoorW.PrintWords Go.Proofs.YtpibbokkdjjgeaaDoorW.PrintLast Go.Proofs.YtpibbokkdjjgeaaDoorW.PrintMore Pg
set_option linter.unusedSimpArgs false
set_option linter.unusedVariables false
def hx4 (n : Nat) : List UInt8 := [digB (n / 4096 % 16), digB (n / 256 % 16), digB (n / 16 % 16), digB (n % 16)]
theorem bt_dig : ∀ d : Fin 16, UInt8.ofNat (bt (⟨#[48, 49, 50, 51, 52, 53, 54, 55, 56, 57, 97, 98, 99, 100, 101, 102]⟩ : ByteArray) (d.val : Int)).toNat = digB d.val := by decide +kernel
theorem hex_dig : ∀ d : Fin 16, hexB (digB d.val) = some d.val := by decide +kernel
theorem hex_is (n : Nat) (h : n ≤ 65535) : heliastlaw01_hex.f (n : Int) = some (bsL (92 :: 117 :: hx4 n)) := by
  have e1 : Int.tmod (wrap64 (Int.tdiv (n : Int) 4096)) 16 = ((n / 4096 % 16 : Nat) : Int) := by
    rw [show Int.tdiv (n : Int) 4096 = ((n / 4096 : Nat) : Int) from rfl, w64_nat _ (by omega)]; rfl
  have e2 : Int.tmod (wrap64 (Int.tdiv (n : Int) 256)) 16 = ((n / 256 % 16 : Nat) : Int) := by
    rw [show Int.tdiv (n : Int) 256 = ((n / 256 : Nat) : Int) from rfl, w64_nat _ (by omega)]; rfl
  have e3 : Int.tmod (wrap64 (Int.tdiv (n : Int) 16)) 16 = ((n / 16 % 16 : Nat) : Int) := by
    rw [show Int.tdiv (n : Int) 16 = ((n / 16 : Nat) : Int) from rfl, w64_nat _ (by omega)]; rfl
  have e4 : Int.tmod (n : Int) 16 = ((n % 16 : Nat) : Int) := rfl
  unfold heliastlaw01_hex.f hx4
  rw [e1, e2, e3, e4]
  clear e1 e2 e3 e4
  have h3 : n / 4096 % 16 < 16 := Nat.mod_lt _ (by omega)
  have h2 : n / 256 % 16 < 16 := Nat.mod_lt _ (by omega)
  have h1 : n / 16 % 16 < 16 := Nat.mod_lt _ (by omega)
  have h0 : n % 16 < 16 := Nat.mod_lt _ (by omega)
  generalize n / 4096 % 16 = d3 at *
  generalize n / 256 % 16 = d2 at *
  generalize n / 16 % 16 = d1 at *
  generalize n % 16 = d0 at *
  rw [if_pos (by omega), if_pos (by omega), if_pos (by omega), if_pos (by omega), if_pos (by omega), if_pos (by omega), if_pos (by omega), if_pos (by omega), Option.bind_some, strOfNums_size, if_pos (by simp only [List.length_cons, List.length_nil]; omega)]
  refine congrArg some ?_
  apply ByteArray.ext
  apply Array.toList_inj.mp
  rw [app_data, strOfNums_data, bsL_toList]
  simp only [List.map_cons, List.map_nil]
  rw [bt_dig ⟨d3, h3⟩, bt_dig ⟨d2, h2⟩, bt_dig ⟨d1, h1⟩, bt_dig ⟨d0, h0⟩]
  rfl
theorem unit_hex (n : Nat) (h : n ≤ 65535) (t : List UInt8) : unitL (92 :: 117 :: (hx4 n ++ t)) = some n := by
  unfold hx4
  have h3 : n / 4096 % 16 < 16 := Nat.mod_lt _ (by omega)
  have h2 : n / 256 % 16 < 16 := Nat.mod_lt _ (by omega)
  have h1 : n / 16 % 16 < 16 := Nat.mod_lt _ (by omega)
  have h0 : n % 16 < 16 := Nat.mod_lt _ (by omega)
  have e : n = 16 * (16 * (16 * (16 * 0 + n / 4096 % 16) + n / 256 % 16) + n / 16 % 16) + n % 16 := by omega
  generalize n / 4096 % 16 = d3 at *
  generalize n / 256 % 16 = d2 at *
  generalize n / 16 % 16 = d1 at *
  generalize n % 16 = d0 at *
  show hexL [digB d3, digB d2, digB d1, digB d0] 0 = some n
  have g3 := hex_dig ⟨d3, h3⟩; have g2 := hex_dig ⟨d2, h2⟩; have g1 := hex_dig ⟨d1, h1⟩; have g0 := hex_dig ⟨d0, h0⟩
  simp only [] at g3 g2 g1 g0
  simp only [hexL, g3, g2, g1, g0]
  rw [← e]
theorem esc_un (l : List UInt8) : escL (92 :: 117 :: l) = match unitL (92 :: 117 :: l) with
    | none => none
    | some a => if 56320 ≤ a ∧ a ≤ 57343 then none else if a < 55296 ∨ 57343 < a then some (a, 6) else
      match unitL ((92 :: 117 :: l).drop 6) with
      | none => none
      | some b => if b < 56320 ∨ 57343 < b then none else some (65536 + (a - 55296) * 1024 + (b - 56320), 12) := by
  unfold escL
  rw [show ((92 :: 117 :: l : List UInt8)[1]?).bind meantB = none from rfl]
  rfl
theorem unq_esc (l acc : List UInt8) (p : Nat) : unqF (92 :: 117 :: l) acc p = match escL (92 :: 117 :: l) with
    | none => none
    | some (r, n) => unqF ((92 :: 117 :: l).drop n) (acc ++ encodeRune (r : Int)) (p + n) := by
  rw [unqF_step]
  simp only [List.head?_cons, show ¬ (some (92 : UInt8) = some 34) from by decide, if_false, if_true]
  cases escL (92 :: 117 :: l) with
  | none => rfl
  | some x => rfl
theorem unq_end (acc r : List UInt8) (p : Nat) : unqF (34 :: r) acc p = some (acc, p + 1) := by
  rw [unqF_step]
  simp
theorem hx4_len (n : Nat) : (hx4 n).length = 4 := rfl
theorem drop_hex (n : Nat) (t : List UInt8) : (92 :: 117 :: (hx4 n ++ t)).drop 6 = t := rfl
theorem drop_two (n m : Nat) (t : List UInt8) : (92 :: 117 :: (hx4 n ++ 92 :: 117 :: (hx4 m ++ t))).drop 12 = t := rfl
theorem tell_one (n : Nat) (h : n ≤ 65535) (hh : n < 55296 ∨ 57343 < n) : unquoteL (34 :: 92 :: 117 :: (hx4 n ++ [34])) = (encodeRune (n : Int), 8) := by
  show (unqF (92 :: 117 :: (hx4 n ++ [34])) [] 1).getD ([], 0) = _
  rw [unq_esc, esc_un, unit_hex n h]
  simp only []
  rw [if_neg (by omega), if_pos hh]
  simp only []
  rw [drop_hex, unq_end]
  rfl
theorem tell_low (n : Nat) (h : 56320 ≤ n ∧ n ≤ 57343) (t : List UInt8) : unquoteL (34 :: 92 :: 117 :: (hx4 n ++ t)) = ([], 0) := by
  show (unqF (92 :: 117 :: (hx4 n ++ t)) [] 1).getD ([], 0) = _
  rw [unq_esc, esc_un, unit_hex n (by omega)]
  simp only []
  rw [if_pos h]
  rfl
theorem tell_high (n : Nat) (h : 55296 ≤ n ∧ n ≤ 56319) : unquoteL (34 :: 92 :: 117 :: (hx4 n ++ [34])) = ([], 0) := by
  show (unqF (92 :: 117 :: (hx4 n ++ [34])) [] 1).getD ([], 0) = _
  rw [unq_esc, esc_un, unit_hex n (by omega)]
  simp only []
  rw [if_neg (by omega), if_neg (by omega), drop_hex]
  rfl
theorem tell_two (n m : Nat) (h : 55296 ≤ n ∧ n ≤ 56319) (h2 : 56320 ≤ m ∧ m ≤ 57343) : unquoteL (34 :: 92 :: 117 :: (hx4 n ++ 92 :: 117 :: (hx4 m ++ [34]))) = (encodeRune ((65536 + (n - 55296) * 1024 + (m - 56320) : Nat) : Int), 14) := by
  show (unqF (92 :: 117 :: (hx4 n ++ 92 :: 117 :: (hx4 m ++ [34]))) [] 1).getD ([], 0) = _
  rw [unq_esc, esc_un, unit_hex n (by omega)]
  simp only []
  rw [if_neg (by omega), if_neg (by omega), drop_hex, unit_hex m (by omega)]
  simp only []
  rw [if_neg (by omega)]
  simp only []
  rw [drop_two, unq_end, Option.getD_some, List.nil_append]
theorem enc_of (r : Int) (zs : List Int) (h : encodeRuneZ r = zs) : strOfNums zs = bsL (encodeRune r) := by
  unfold encodeRune
  rw [h]
  rfl
theorem le9 {x r : Nat} (hx : x ≤ r) (h : r ≤ 1114111) : x ≤ 9000000000000000000 := by omega
theorem w64_sum (a x : Nat) (ha : a ≤ 240) (hx : x ≤ 1114111) : wrap64 ((a : Int) + (x : Int)) = ((a + x : Nat) : Int) := w64_nat (a + x) (by omega)
theorem four_is (r : Nat) (h : r ≤ 1114111) (hh : r < 55296 ∨ 57343 < r) : heliastlaw01_four.f (r : Int) = some (bsL (encodeRune (r : Int))) := by
  have d1 : Int.tdiv (r : Int) 64 = ((r / 64 : Nat) : Int) := rfl
  have d2 : Int.tdiv (r : Int) 4096 = ((r / 4096 : Nat) : Int) := rfl
  have d3 : Int.tdiv (r : Int) 262144 = ((r / 262144 : Nat) : Int) := rfl
  have m0 : Int.tmod (r : Int) 64 = ((r % 64 : Nat) : Int) := rfl
  have m1 : Int.tmod ((r / 64 : Nat) : Int) 64 = ((r / 64 % 64 : Nat) : Int) := rfl
  have m2 : Int.tmod ((r / 4096 : Nat) : Int) 64 = ((r / 4096 % 64 : Nat) : Int) := rfl
  have w1 : wrap64 ((r / 64 : Nat) : Int) = ((r / 64 : Nat) : Int) := w64_nat _ (le9 (Nat.div_le_self _ _) h)
  have w2 : wrap64 ((r / 4096 : Nat) : Int) = ((r / 4096 : Nat) : Int) := w64_nat _ (le9 (Nat.div_le_self _ _) h)
  have w3 : wrap64 ((r / 262144 : Nat) : Int) = ((r / 262144 : Nat) : Int) := w64_nat _ (le9 (Nat.div_le_self _ _) h)
  unfold heliastlaw01_four.f
  rw [d1, d2, d3, m0, w1, w2, w3, m1, m2]
  have k1 := w64_sum 192 (r / 64) (by decide) (Nat.le_trans (Nat.div_le_self _ _) h)
  have k2 := w64_sum 128 (r % 64) (by decide) (Nat.le_trans (Nat.mod_le _ _) h)
  have k3 := w64_sum 224 (r / 4096) (by decide) (Nat.le_trans (Nat.div_le_self _ _) h)
  have k4 := w64_sum 128 (r / 64 % 64) (by decide) (Nat.le_trans (Nat.mod_le _ _) (Nat.le_trans (Nat.div_le_self _ _) h))
  have k5 := w64_sum 240 (r / 262144) (by decide) (Nat.le_trans (Nat.div_le_self _ _) h)
  have k6 := w64_sum 128 (r / 4096 % 64) (by decide) (Nat.le_trans (Nat.mod_le _ _) (Nat.le_trans (Nat.div_le_self _ _) h))
  rw [show ((192 : Nat) : Int) = 192 from rfl] at k1
  rw [show ((128 : Nat) : Int) = 128 from rfl] at k2 k4 k6
  rw [show ((224 : Nat) : Int) = 224 from rfl] at k3
  rw [show ((240 : Nat) : Int) = 240 from rfl] at k5
  rw [k1, k2, k3, k4, k5, k6]
  clear d1 d2 d3 m0 m1 m2 w1 w2 w3 k1 k2 k3 k4 k5 k6
  by_cases c1 : r < 128
  · rw [if_pos (by omega)]
    refine congrArg some (enc_of _ _ ?_)
    rw [encodeRuneZ_one (by omega) (by omega)]
    congr 1
    omega
  · rw [if_neg (by omega)]
    by_cases c2 : r < 2048
    · rw [if_pos (by omega)]
      refine congrArg some (enc_of _ _ ?_)
      rw [encodeRuneZ_two (by omega) (by omega)]
      congr 1
      · omega
      · congr 1; omega
    · rw [if_neg (by omega)]
      by_cases c3 : r < 65536
      · rw [if_pos (by omega)]
        refine congrArg some (enc_of _ _ ?_)
        rw [encodeRuneZ_three (by omega)]
        congr 1
        · omega
        · congr 1
          · omega
          · congr 1; omega
      · rw [if_neg (by omega)]
        refine congrArg some (enc_of _ _ ?_)
        rw [encodeRuneZ_four (by omega) (by omega)]
        congr 1
        · omega
        · congr 1
          · omega
          · congr 1
            · omega
            · congr 1; omega
theorem hex_any (n : Nat) (h : n ≤ 65535) (w : World) : Calls Tryd.prog 18 #[.int .i64 (n : Int)] w fun e w' => e = .returned (.string (bsL (92 :: 117 :: hx4 n))) ∧ Below w.heap.size w w' := heliastlaw01_hex.calls _ _ w (hex_is n h)
theorem four_any (r : Nat) (h : r ≤ 1114111) (hh : r < 55296 ∨ 57343 < r) (w : World) : Calls Tryd.prog 19 #[.int .i64 (r : Int)] w fun e w' => e = .returned (.string (bsL (encodeRune (r : Int)))) ∧ Below w.heap.size w w' := heliastlaw01_four.calls _ _ w (four_is r h hh)
end Go.Proofs.YtpibbokkdjjgeaaDoor

/-
  The law GlyphPairs, walked: two halves are one rune; one half alone is none; each rune has an escape of its own.
-/
namespace Go.Proofs.YtpibbokkdjjgeaaDoor
open Go.RowKit
set_option linter.unusedSimpArgs false
set_option linter.unusedVariables false
theorem dq2 (x y : Nat) : ((⟨#[34]⟩ : ByteArray) ++ bsL (92 :: 117 :: hx4 x) ++ bsL (92 :: 117 :: hx4 y) ++ ⟨#[34]⟩).data.toList = 34 :: 92 :: 117 :: (hx4 x ++ 92 :: 117 :: (hx4 y ++ [34])) := by
  rw [app_data, app_data, app_data, bsL_toList, bsL_toList]
  rfl
theorem dq1 (x : Nat) : ((⟨#[34]⟩ : ByteArray) ++ bsL (92 :: 117 :: hx4 x) ++ ⟨#[34]⟩).data.toList = 34 :: 92 :: 117 :: (hx4 x ++ [34]) := by
  rw [app_data, app_data, bsL_toList]
  rfl
theorem size_hex (x : Nat) : (bsL (92 :: 117 :: hx4 x)).size = 6 := by rw [bsL_size]; rfl
theorem u16_range {z : Int} (h : (Lit.int .u16 z).wf = true) : 0 ≤ z ∧ z ≤ 65535 := by
  simpa [Lit.wf, IntKind.min, IntKind.max, IntKind.signed, IntKind.bits] using h
theorem unq2 (W w : World) (hT : Tabs W) (hb : Below W.heap.size W w) (x y : Nat) : Calls Tryd.prog 16 #[.string ((⟨#[34]⟩ : ByteArray) ++ bsL (92 :: 117 :: hx4 x) ++ bsL (92 :: 117 :: hx4 y) ++ ⟨#[34]⟩)] w fun e w' => e = .returned (.tuple #[.string (bsL (unquoteL (34 :: 92 :: 117 :: (hx4 x ++ 92 :: 117 :: (hx4 y ++ [34])))).1), .int .i64 ((unquoteL (34 :: 92 :: 117 :: (hx4 x ++ 92 :: 117 :: (hx4 y ++ [34])))).2 : Int)]) ∧ Below w.heap.size w w' := by
  have h := unquote_any ((⟨#[34]⟩ : ByteArray) ++ bsL (92 :: 117 :: hx4 x) ++ bsL (92 :: 117 :: hx4 y) ++ ⟨#[34]⟩) (by rw [ByteArray.size_append, ByteArray.size_append, ByteArray.size_append, size_hex, size_hex]; decide) w (hT.below hb)
  rw [dq2] at h
  exact h
theorem unq1 (W w : World) (hT : Tabs W) (hb : Below W.heap.size W w) (x : Nat) : Calls Tryd.prog 16 #[.string ((⟨#[34]⟩ : ByteArray) ++ bsL (92 :: 117 :: hx4 x) ++ ⟨#[34]⟩)] w fun e w' => e = .returned (.tuple #[.string (bsL (unquoteL (34 :: 92 :: 117 :: (hx4 x ++ [34]))).1), .int .i64 ((unquoteL (34 :: 92 :: 117 :: (hx4 x ++ [34]))).2 : Int)]) ∧ Below w.heap.size w w' := by
  have h := unquote_any ((⟨#[34]⟩ : ByteArray) ++ bsL (92 :: 117 :: hx4 x) ++ ⟨#[34]⟩) (by rw [ByteArray.size_append, ByteArray.size_append, size_hex]; decide) w (hT.below hb)
  rw [dq1] at h
  exact h
set_option maxRecDepth 100000 in
set_option maxHeartbeats 2000000 in
theorem glyphPairs_walk (a0 a1 : Int) (W : World) (h0 : (Lit.int .u16 a0).wf = true) (h1 : (Lit.int .u16 a1).wf = true) (hT : Tabs W) :
    Calls Tryd.prog 6 #[.int .u16 a0, .int .u16 a1] W fun e w' => e = .returned (.bool true) ∧ Below W.heap.size W w' := by
  have r0 := u16_range h0
  have r1 := u16_range h1
  clear h0 h1
  obtain ⟨a, rfl⟩ : ∃ a : Nat, a0 = a := ⟨a0.toNat, by omega⟩
  obtain ⟨b, rfl⟩ : ∃ b : Nat, a1 = b := ⟨a1.toNat, by omega⟩
  obtain ⟨i, hi, hmi⟩ : ∃ i : Nat, i ≤ 1023 ∧ Int.tmod (a : Int) 1024 = (i : Int) := ⟨a % 1024, by omega, rfl⟩
  obtain ⟨j, hj, hmj⟩ : ∃ j : Nat, j ≤ 1023 ∧ Int.tmod (b : Int) 1024 = (j : Int) := ⟨b % 1024, by omega, rfl⟩
  have ha : a ≤ 65535 := by omega
  clear r0 r1
  have cx := fun w => hex_any (55296 + i) (by omega) w
  have cy := fun w => hex_any (56320 + j) (by omega) w
  have ca := fun w => hex_any a ha w
  rw [show ((55296 + i : Nat) : Int) = 55296 + (i : Int) from by omega] at cx
  rw [show ((56320 + j : Nat) : Int) = 56320 + (j : Int) from by omega] at cy
  have u1 := fun w hb => unq2 W w hT hb (55296 + i) (56320 + j)
  have u2 := fun w hb => unq1 W w hT hb (55296 + i)
  have u3 := fun w hb => unq2 W w hT hb (56320 + j) (55296 + i)
  have u4 := fun w hb => unq2 W w hT hb (56320 + j) (56320 + j)
  have u5 := fun w hb => unq1 W w hT hb (56320 + j)
  have u6 := fun w hb => unq1 W w hT hb a
  rw [tell_two _ _ (by omega) (by omega)] at u1
  rw [tell_high _ (by omega)] at u2
  rw [tell_low _ (by omega)] at u3 u4 u5
  have eR : 65536 + (55296 + i - 55296) * 1024 + (56320 + j - 56320) = 65536 + i * 1024 + j := by omega
  rw [eR] at u1
  have cf := fun w => four_any (65536 + i * 1024 + j) (by omega) (by omega) w
  obtain ⟨X, hX⟩ : ∃ X, bsL (92 :: 117 :: hx4 (55296 + i)) = X := ⟨_, rfl⟩
  obtain ⟨Y, hY⟩ : ∃ Y, bsL (92 :: 117 :: hx4 (56320 + j)) = Y := ⟨_, rfl⟩
  obtain ⟨S, hS⟩ : ∃ S, bsL (Lib.encodeRune ((65536 + i * 1024 + j : Nat) : Int)) = S := ⟨_, rfl⟩
  have sX : X.size = 6 := by rw [← hX]; exact size_hex _
  have sY : Y.size = 6 := by rw [← hY]; exact size_hex _
  simp only [hX, hY, hS] at cx cy u1 u2 u3 u4 u5 cf
  have eF : ((65536 + i * 1024 + j : Nat) : Int) = 65536 + (i : Int) * 1024 + (j : Int) := by omega
  rw [eF] at cf
  have n1 : bsL (([], 0) : List UInt8 × Nat).1 = ⟨#[]⟩ := rfl
  simp only [n1] at u2 u3 u4 u5
  have cf1 : ∀ E : Int, E = 65536 + (i : Int) * 1024 + (j : Int) → ∀ w, Calls Tryd.prog 19 #[.int .i64 E] w fun e w' => e = .returned (.string S) ∧ Below w.heap.size w w' := by
    rintro E rfl
    exact cf
  have hk := fun w (hb : Below W.heap.size W w) => known_any w (hT.below hb)
  have HK := Lib.hid hk; have CX := Lib.hid cx; have CY := Lib.hid cy
  have U1 := Lib.hid u1; have U2 := Lib.hid u2; have U3 := Lib.hid u3; have U4 := Lib.hid u4; have U5 := Lib.hid u5; have CF := Lib.hid cf1
  clear hk cx cy u1 u2 u3 u4 u5 cf cf1 hX hY hS eR eF n1 hT
  have hii : (i : Int) ≤ 1023 := by omega
  have hjj : (j : Int) ≤ 1023 := by omega
  have haa : (a : Int) ≤ 65535 := by omega
  obtain ⟨H, hH⟩ : ∃ H, bsL (92 :: 117 :: hx4 a) = H := ⟨_, rfl⟩
  have sH : H.size = 6 := by rw [← hH]; exact size_hex _
  rw [hH] at ca
  have CA := Lib.hid ca
  clear ca
  have HB := Lib.hid (Below.refl W.heap.size W)
  by_cases c1 : a < 55296
  · have t1 : ((55296 : Int) ≤ (a : Int)) = False := eq_false (by omega)
    rw [tell_one a ha (.inl c1), hH] at u6
    have cf2 := fun w => four_any a (by omega) (.inl c1) w
    obtain ⟨S2, hS2⟩ : ∃ S, bsL (Lib.encodeRune (a : Int)) = S := ⟨_, rfl⟩
    simp only [hS2] at u6 cf2
    have U6 := Lib.hid u6; have CF2 := Lib.hid cf2
    clear u6 cf2 hS2 c1 hH ha hi hj
    go_enter Tryd.func6, Tryd.ntmps6
    go_wp2_with fail
    refine (CX.out _).mono ?_
    rintro e w1 ⟨rfl, hb⟩
    have HBn := Lib.hid (below_trs HB.out hb); clear hb HB
    have HB := HBn; clear HBn
    go_wp2_with fail
    refine (CY.out _).mono ?_
    rintro e w2 ⟨rfl, hb⟩
    have HBn := Lib.hid (below_trs HB.out hb); clear hb HB
    have HB := HBn; clear HBn
    go_wp2_with fail
    refine (U1.out _ HB.out).mono ?_
    rintro e w3 ⟨rfl, hb⟩
    have HBn := Lib.hid (below_trs HB.out hb); clear hb HB
    have HB := HBn; clear HBn
    go_wp2_with fail
    refine (CX.out _).mono ?_
    rintro e w4 ⟨rfl, hb⟩
    have HBn := Lib.hid (below_trs HB.out hb); clear hb HB
    have HB := HBn; clear HBn
    go_wp2_with fail
    refine (U2.out _ HB.out).mono ?_
    rintro e w5 ⟨rfl, hb⟩
    have HBn := Lib.hid (below_trs HB.out hb); clear hb HB
    have HB := HBn; clear HBn
    go_wp2_with fail
    refine (CY.out _).mono ?_
    rintro e w6 ⟨rfl, hb⟩
    have HBn := Lib.hid (below_trs HB.out hb); clear hb HB
    have HB := HBn; clear HBn
    go_wp2_with fail
    refine (CX.out _).mono ?_
    rintro e w7 ⟨rfl, hb⟩
    have HBn := Lib.hid (below_trs HB.out hb); clear hb HB
    have HB := HBn; clear HBn
    go_wp2_with fail
    refine (U3.out _ HB.out).mono ?_
    rintro e w8 ⟨rfl, hb⟩
    have HBn := Lib.hid (below_trs HB.out hb); clear hb HB
    have HB := HBn; clear HBn
    go_wp2_with fail
    refine (CY.out _).mono ?_
    rintro e w9 ⟨rfl, hb⟩
    have HBn := Lib.hid (below_trs HB.out hb); clear hb HB
    have HB := HBn; clear HBn
    go_wp2_with fail
    refine (CY.out _).mono ?_
    rintro e w10 ⟨rfl, hb⟩
    have HBn := Lib.hid (below_trs HB.out hb); clear hb HB
    have HB := HBn; clear HBn
    go_wp2_with fail
    refine (U4.out _ HB.out).mono ?_
    rintro e w11 ⟨rfl, hb⟩
    have HBn := Lib.hid (below_trs HB.out hb); clear hb HB
    have HB := HBn; clear HBn
    go_wp2_with fail
    refine (CY.out _).mono ?_
    rintro e w12 ⟨rfl, hb⟩
    have HBn := Lib.hid (below_trs HB.out hb); clear hb HB
    have HB := HBn; clear HBn
    go_wp2_with fail
    refine (U5.out _ HB.out).mono ?_
    rintro e w13 ⟨rfl, hb⟩
    have HBn := Lib.hid (below_trs HB.out hb); clear hb HB
    have HB := HBn; clear HBn
    go_wp2_with fail
    refine (CF.out _ (by first | omega | (unfold wrap64; omega)) _).mono ?_
    rintro e w14 ⟨rfl, hb⟩
    have HBn := Lib.hid (below_trs HB.out hb); clear hb HB
    have HB := HBn; clear HBn
    go_wp2_with fail
    refine (CA.out _).mono ?_
    rintro e w15 ⟨rfl, hb⟩
    have HBn := Lib.hid (below_trs HB.out hb); clear hb HB
    have HB := HBn; clear HBn
    go_wp2_with fail
    refine (U6.out _ HB.out).mono ?_
    rintro e w16 ⟨rfl, hb⟩
    have HBn := Lib.hid (below_trs HB.out hb); clear hb HB
    have HB := HBn; clear HBn
    go_wp2_with fail
    refine (HK.out _ HB.out).mono ?_
    rintro e w17 ⟨rfl, hb⟩
    have HBn := Lib.hid (below_trs HB.out hb); clear hb HB
    have HB := HBn; clear HBn
    go_wp2_with fail
    refine (CF2.out _).mono ?_
    rintro e w18 ⟨rfl, hb⟩
    have HBn := Lib.hid (below_trs HB.out hb); clear hb HB
    have HB := HBn; clear HBn
    go_wp2_with fail
    go_ret
    exact ⟨rfl, HB.out⟩
  · by_cases c2 : a ≤ 57343
    · have t1 : ((55296 : Int) ≤ (a : Int)) = True := eq_true (by omega)
      have t2 : ((a : Int) ≤ 57343) = True := eq_true (by omega)
      have hz : unquoteL (34 :: 92 :: 117 :: (hx4 a ++ [34])) = ([], 0) := by
        by_cases c3 : a ≤ 56319
        · exact tell_high a (by omega)
        · exact tell_low a (by omega) _
      rw [hz, hH, show bsL (([], 0) : List UInt8 × Nat).1 = ⟨#[]⟩ from rfl] at u6
      have U6 := Lib.hid u6
      clear u6 c1 c2 hH ha hi hj hz
      go_enter Tryd.func6, Tryd.ntmps6
      go_wp2_with fail
      refine (CX.out _).mono ?_
      rintro e w1 ⟨rfl, hb⟩
      have HBn := Lib.hid (below_trs HB.out hb); clear hb HB
      have HB := HBn; clear HBn
      go_wp2_with fail
      refine (CY.out _).mono ?_
      rintro e w2 ⟨rfl, hb⟩
      have HBn := Lib.hid (below_trs HB.out hb); clear hb HB
      have HB := HBn; clear HBn
      go_wp2_with fail
      refine (U1.out _ HB.out).mono ?_
      rintro e w3 ⟨rfl, hb⟩
      have HBn := Lib.hid (below_trs HB.out hb); clear hb HB
      have HB := HBn; clear HBn
      go_wp2_with fail
      refine (CX.out _).mono ?_
      rintro e w4 ⟨rfl, hb⟩
      have HBn := Lib.hid (below_trs HB.out hb); clear hb HB
      have HB := HBn; clear HBn
      go_wp2_with fail
      refine (U2.out _ HB.out).mono ?_
      rintro e w5 ⟨rfl, hb⟩
      have HBn := Lib.hid (below_trs HB.out hb); clear hb HB
      have HB := HBn; clear HBn
      go_wp2_with fail
      refine (CY.out _).mono ?_
      rintro e w6 ⟨rfl, hb⟩
      have HBn := Lib.hid (below_trs HB.out hb); clear hb HB
      have HB := HBn; clear HBn
      go_wp2_with fail
      refine (CX.out _).mono ?_
      rintro e w7 ⟨rfl, hb⟩
      have HBn := Lib.hid (below_trs HB.out hb); clear hb HB
      have HB := HBn; clear HBn
      go_wp2_with fail
      refine (U3.out _ HB.out).mono ?_
      rintro e w8 ⟨rfl, hb⟩
      have HBn := Lib.hid (below_trs HB.out hb); clear hb HB
      have HB := HBn; clear HBn
      go_wp2_with fail
      refine (CY.out _).mono ?_
      rintro e w9 ⟨rfl, hb⟩
      have HBn := Lib.hid (below_trs HB.out hb); clear hb HB
      have HB := HBn; clear HBn
      go_wp2_with fail
      refine (CY.out _).mono ?_
      rintro e w10 ⟨rfl, hb⟩
      have HBn := Lib.hid (below_trs HB.out hb); clear hb HB
      have HB := HBn; clear HBn
      go_wp2_with fail
      refine (U4.out _ HB.out).mono ?_
      rintro e w11 ⟨rfl, hb⟩
      have HBn := Lib.hid (below_trs HB.out hb); clear hb HB
      have HB := HBn; clear HBn
      go_wp2_with fail
      refine (CY.out _).mono ?_
      rintro e w12 ⟨rfl, hb⟩
      have HBn := Lib.hid (below_trs HB.out hb); clear hb HB
      have HB := HBn; clear HBn
      go_wp2_with fail
      refine (U5.out _ HB.out).mono ?_
      rintro e w13 ⟨rfl, hb⟩
      have HBn := Lib.hid (below_trs HB.out hb); clear hb HB
      have HB := HBn; clear HBn
      go_wp2_with fail
      refine (CF.out _ (by first | omega | (unfold wrap64; omega)) _).mono ?_
      rintro e w14 ⟨rfl, hb⟩
      have HBn := Lib.hid (below_trs HB.out hb); clear hb HB
      have HB := HBn; clear HBn
      go_wp2_with fail
      refine (CA.out _).mono ?_
      rintro e w15 ⟨rfl, hb⟩
      have HBn := Lib.hid (below_trs HB.out hb); clear hb HB
      have HB := HBn; clear HBn
      go_wp2_with fail
      refine (U6.out _ HB.out).mono ?_
      rintro e w16 ⟨rfl, hb⟩
      have HBn := Lib.hid (below_trs HB.out hb); clear hb HB
      have HB := HBn; clear HBn
      go_wp2_with fail
      refine (HK.out _ HB.out).mono ?_
      rintro e w17 ⟨rfl, hb⟩
      have HBn := Lib.hid (below_trs HB.out hb); clear hb HB
      have HB := HBn; clear HBn
      go_wp2_with fail
      go_ret
      exact ⟨rfl, HB.out⟩
    · have t1 : ((55296 : Int) ≤ (a : Int)) = True := eq_true (by omega)
      have t2 : ((a : Int) ≤ 57343) = False := eq_false (by omega)
      rw [tell_one a ha (.inr (by omega)), hH] at u6
      have cf2 := fun w => four_any a (by omega) (.inr (by omega)) w
      obtain ⟨S2, hS2⟩ : ∃ S, bsL (Lib.encodeRune (a : Int)) = S := ⟨_, rfl⟩
      simp only [hS2] at u6 cf2
      have U6 := Lib.hid u6; have CF2 := Lib.hid cf2
      clear u6 cf2 hS2 c1 c2 hH ha hi hj
      go_enter Tryd.func6, Tryd.ntmps6
      go_wp2_with fail
      refine (CX.out _).mono ?_
      rintro e w1 ⟨rfl, hb⟩
      have HBn := Lib.hid (below_trs HB.out hb); clear hb HB
      have HB := HBn; clear HBn
      go_wp2_with fail
      refine (CY.out _).mono ?_
      rintro e w2 ⟨rfl, hb⟩
      have HBn := Lib.hid (below_trs HB.out hb); clear hb HB
      have HB := HBn; clear HBn
      go_wp2_with fail
      refine (U1.out _ HB.out).mono ?_
      rintro e w3 ⟨rfl, hb⟩
      have HBn := Lib.hid (below_trs HB.out hb); clear hb HB
      have HB := HBn; clear HBn
      go_wp2_with fail
      refine (CX.out _).mono ?_
      rintro e w4 ⟨rfl, hb⟩
      have HBn := Lib.hid (below_trs HB.out hb); clear hb HB
      have HB := HBn; clear HBn
      go_wp2_with fail
      refine (U2.out _ HB.out).mono ?_
      rintro e w5 ⟨rfl, hb⟩
      have HBn := Lib.hid (below_trs HB.out hb); clear hb HB
      have HB := HBn; clear HBn
      go_wp2_with fail
      refine (CY.out _).mono ?_
      rintro e w6 ⟨rfl, hb⟩
      have HBn := Lib.hid (below_trs HB.out hb); clear hb HB
      have HB := HBn; clear HBn
      go_wp2_with fail
      refine (CX.out _).mono ?_
      rintro e w7 ⟨rfl, hb⟩
      have HBn := Lib.hid (below_trs HB.out hb); clear hb HB
      have HB := HBn; clear HBn
      go_wp2_with fail
      refine (U3.out _ HB.out).mono ?_
      rintro e w8 ⟨rfl, hb⟩
      have HBn := Lib.hid (below_trs HB.out hb); clear hb HB
      have HB := HBn; clear HBn
      go_wp2_with fail
      refine (CY.out _).mono ?_
      rintro e w9 ⟨rfl, hb⟩
      have HBn := Lib.hid (below_trs HB.out hb); clear hb HB
      have HB := HBn; clear HBn
      go_wp2_with fail
      refine (CY.out _).mono ?_
      rintro e w10 ⟨rfl, hb⟩
      have HBn := Lib.hid (below_trs HB.out hb); clear hb HB
      have HB := HBn; clear HBn
      go_wp2_with fail
      refine (U4.out _ HB.out).mono ?_
      rintro e w11 ⟨rfl, hb⟩
      have HBn := Lib.hid (below_trs HB.out hb); clear hb HB
      have HB := HBn; clear HBn
      go_wp2_with fail
      refine (CY.out _).mono ?_
      rintro e w12 ⟨rfl, hb⟩
      have HBn := Lib.hid (below_trs HB.out hb); clear hb HB
      have HB := HBn; clear HBn
      go_wp2_with fail
      refine (U5.out _ HB.out).mono ?_
      rintro e w13 ⟨rfl, hb⟩
      have HBn := Lib.hid (below_trs HB.out hb); clear hb HB
      have HB := HBn; clear HBn
      go_wp2_with fail
      refine (CF.out _ (by first | omega | (unfold wrap64; omega)) _).mono ?_
      rintro e w14 ⟨rfl, hb⟩
      have HBn := Lib.hid (below_trs HB.out hb); clear hb HB
      have HB := HBn; clear HBn
      go_wp2_with fail
      refine (CA.out _).mono ?_
      rintro e w15 ⟨rfl, hb⟩
      have HBn := Lib.hid (below_trs HB.out hb); clear hb HB
      have HB := HBn; clear HBn
      go_wp2_with fail
      refine (U6.out _ HB.out).mono ?_
      rintro e w16 ⟨rfl, hb⟩
      have HBn := Lib.hid (below_trs HB.out hb); clear hb HB
      have HB := HBn; clear HBn
      go_wp2_with fail
      refine (HK.out _ HB.out).mono ?_
      rintro e w17 ⟨rfl, hb⟩
      have HBn := Lib.hid (below_trs HB.out hb); clear hb HB
      have HB := HBn; clear HBn
      go_wp2_with fail
      refine (CF2.out _).mono ?_
      rintro e w18 ⟨rfl, hb⟩
      have HBn := Lib.hid (below_trs HB.out hb); clear hb HB
      have HB := HBn; clear HBn
      go_wp2_with fail
      go_ret
      exact ⟨rfl, HB.out⟩
end Go.Proofs.YtpibbokkdjjgeaaDoor

/-
  The row of the law GlyphPairs: whatever the input, it answers true and leaves its arguments as they were; out of its walk.
-/
namespace Go.Proofs.YtpibbokkdjjgeaaDoor.glyphPairs
open Go.ChangeShapes Go.WideShapes Go.ChangeAt Go.RowKit
open Go.ChangeMaps (open_string shut_string)
theorem own : ownKnob Tryd.prog.godebug = none := by kernel_rfl
set_option maxRecDepth 100000 in
theorem lifted (os : Os) (started : os.Started) (H : Type) (enc : TypeId × Value → H) :
    ReturnsInHanded {} Tryd.checked os 6 .any (fun w args => (Rows.glyphPairsSpec.pre enc Tryd.prog Tryd.f6 Rows.glyphPairsRow.domain false w args ∧ laidMetH Tryd.prog Rows.glyphPairsRow.laid w) ∧ sizedMet enc Tryd.prog Tryd.f6 (OpenSpec.ofChange Rows.glyphPairsSpec) false w args)
      (Rows.glyphPairsSpec.post enc Tryd.prog Tryd.f6 false true false false) := by
  refine returnsInHanded_of_change_and (C := Tryd.checked) (X := fun w _ => laidMetH Tryd.prog Rows.glyphPairsRow.laid w) (fun _ _ _ hh h => h.of_heap hh) own started (by kernel_rfl) Tryd.func6
    (ChangeSpec.witness_shaped (enc := enc) (C := Tryd.checked) (os := os) (X := fun w _ => laidMetH Tryd.prog Rows.glyphPairsRow.laid w) false (World.laidAll Tryd.prog os Rows.glyphPairsRow.laid) #[.int .u16 0, .int .u16 0] 8 (World.laidAll_os _ _ _)
      (World.shaped_of_ZipB (by kernel_rfl) (by kernel_rfl)) (by kernel_rfl) (by kernel_rfl) (by kernel_rfl)
      (by rw [MakeChecks.laidMetH_plain _ _ _ (by kernel_rfl)]; exact laidMet_laidAll _ (by kernel_rfl) (by kernel_rfl))) ?_
  intro W base args ds gs before hval0 hW _ _ hL _
  have hval : ∀ (j : Nat) t v, Tryd.f6.params[j]? = some t → args[j]? = some v → Value.okWide Tryd.prog W .any base t v := hval0
  have hW' := hW
  obtain ⟨p, q, hA0, hV, rfl, hfz, hnd⟩ := hW
  have hA : DataW.TrodAll enc Tryd.prog W 0 (fun _ => true) true Tryd.f6.params.toList args.toList ds p := hA0
  rw [Tryd.params6] at hA hval
  obtain ⟨v0, vs0, d0, ds0, p0, q0, hargs, rfl, rfl, h0, r0⟩ := trodAll_cons hA
  obtain ⟨v1, vs1, d1, ds1, p1, q1, rfl, rfl, rfl, h1, r1⟩ := trodAll_cons r0
  obtain ⟨rfl, rfl, rfl⟩ := trodAll_nil r1
  obtain rfl : args = #[v0, v1] := by cases args; simp_all
  obtain ⟨rfl, rfl⟩ := trodVars_none hV
  obtain ⟨a0, rfl, rfl, rfl, w0⟩ := open_int Tryd.underlying33 (hval 0 33 v0 rfl rfl) h0
  obtain ⟨a1, rfl, rfl, rfl, w1⟩ := open_int Tryd.underlying33 (hval 1 33 v1 rfl rfl) h1
  have hLF := tabs_laid hL
  refine (glyphPairs_walk a0 a1 W w0 w1 hLF).mono fun e W' ⟨he, bel⟩ => ?_
  subst he
  exact ⟨_, rfl, _, _, _, [], _, [], hW', trodAll_mk1 (shut_bool Tryd.underlying4 _), (trodAll_cons_mk (shut_int Tryd.underlying33 w0) (trodAll_cons_mk (shut_int Tryd.underlying33 w1) trodAll_mk0)), rfl, bel.frame _, fun h => by cases h⟩
theorem over : Rows.glyphPairsRow.holds Tryd.pinned (OpenSpec.ofChange Rows.glyphPairsSpec) :=
  OpenClaim.holds_of_wide 6 Tryd.f6 rfl rfl rfl rfl rfl rfl rfl ⟨rfl, rfl, rfl, rfl, rfl⟩ rfl rfl rfl rfl rfl (by kernel_rfl) Tryd.func6 (by kernel_rfl)
    (of_decide_eq_true (by kernel_rfl)) (by unfold Func.isWrapper; first | (rw [if_pos (by decide +kernel)]; kernel_rfl) | (rw [if_neg (by decide +kernel)]; exact ⟨rfl, rfl⟩))
    (fun os started H enc _ => lifted os started H enc)
theorem card : Rows.GlyphPairsCardSaid :=
  Claim7.holds_tied_plain_at .later [] [.data, .pinned, .pinned] true (true, "8997b7ca5b9aadf95f02a1b32bf30f586cd5774f65f73148a006a57d44064d5a") false over (fun _ h => by cases h) (by kernel_rfl) (fun _ h => by cases h) glyphPairs_row_tie rfl ⟨rfl, rfl⟩ (by kernel_rfl) rfl
    (fun f fn hf hfn => by
      obtain rfl : f = 6 := Option.some.inj ((show Tryd.prog.funcNamed "heliast/heliastlaw01.GlyphPairs" = some 6 by kernel_rfl).symm.trans hf) |>.symm
      obtain rfl : fn = Tryd.f6 := (Option.some.inj (Tryd.func6.symm.trans hfn)).symm
      exact ⟨by kernel_rfl, fun j t ht => by
        rw [Tryd.params6] at ht
        have hm : t ∈ [33, 33] := by simpa using Array.mem_of_getElem? ht
        have hall : ([33, 33].all fun u => !Tryd.prog.wantsStandIn u) = true := by kernel_rfl
        exact (show Tryd.prog.wantsStandIn t = false by simpa using List.all_eq_true.1 hall t hm)⟩)
    (by kernel_rfl)
end Go.Proofs.YtpibbokkdjjgeaaDoor.glyphPairs
namespace Go.Proofs.YtpibbokkdjjgeaaDoor
/-- The row, under a short name. -/
theorem glyphPairs_holds : Rows.GlyphPairsCardSaid := glyphPairs.card
#print axioms glyphPairs_holds
end Go.Proofs.YtpibbokkdjjgeaaDoor

