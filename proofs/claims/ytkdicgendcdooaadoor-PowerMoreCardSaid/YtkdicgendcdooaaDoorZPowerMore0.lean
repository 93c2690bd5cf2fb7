/-
  Texts of this session, merged in build order: PMore, RPowerMore.
-/
import Derived.Test.YtkdicgendcdooaaDoorZD0
import Derived.Test.YtkdicgendcdooaaDoorRows
import Derived.Test.YtkdicgendcdooaaDoorZC0
import Derived.Test.YtkdicgendcdooaaDoorCards
import Derived.Test.YtkdicgendcdooaaDoorTie
import Derived.LaidMore
import Derived.Lay
import Derived.SevenTiedAt
import Derived.Stop.Joined
set_option linter.unusedVariables false
set_option linter.unusedSimpArgs false
/-
  The law PowerMore, walked.
-/
namespace Go.Proofs.YtkdicgendcdooaaDoor
open Go.RowKit Go.Lib Go.Proofs.YtkdicgendcdooaaDoorW.PrintWords
set_option linter.unusedSimpArgs false
set_option linter.unusedVariables false
theorem above_more {o : Option Int} {a b : Int} (h : a ≤ b) (hb : aboveO o b = true) : aboveO o a = true := by
  cases o with
  | none => exact hb
  | some m => simp [aboveO] at hb ⊢; omega
theorem any_less {l : List TT} {f g : TT → Bool} (h : ∀ t, g t = true → f t = true) (hf : ¬ l.any f = true) : ¬ l.any g = true := fun hg => hf (by
  obtain ⟨t, ht, e⟩ := List.any_eq_true.1 hg
  exact List.any_eq_true.2 ⟨t, ht, h t e⟩)
theorem change_more {x y : V} {a b : Int} {me : ByteArray} (h : a ≤ b) (h0 : changeV x y a me = 0) : changeV x y b me = 0 := by
  have ho : ∀ t, overB b t = true → overB a t = true := fun t ht => by
    unfold overB at ht ⊢
    rcases Bool.or_eq_true_iff.1 ht with ht | ht
    · rw [above_more h ht]; rfl
    · rw [above_more h ht]; simp
  have hh : ∀ t, highB b me t = true → highB a me t = true := fun t ht => by
    unfold highB at ht ⊢
    simp only [Bool.and_eq_true, decide_eq_true_eq] at ht ⊢
    exact ⟨ht.1, by omega⟩
  have hg : ∀ t, givesB b t = true → givesB a t = true := fun t ht => above_more h ht
  unfold changeV at h0 ⊢
  split at h0
  · cases h0
  · rename_i h1
    split at h0
    · cases h0
    · rename_i h2
      split at h0
      · cases h0
      · rename_i h3
        split at h0
        · cases h0
        · rename_i h4
          rw [if_neg (any_less ho h1), if_neg (any_less ho h2), if_neg (any_less hh h3), if_neg (any_less hg h4)]
theorem tmod_bound (z k : Int) (hk : 0 < k) : -k < z.tmod k ∧ z.tmod k < k := by
  rcases Int.le_total 0 z with h | h
  · have h1 := Int.tmod_eq_emod_of_nonneg (b := k) h
    have h2 := Int.emod_nonneg z (Int.ne_of_gt hk)
    have h3 := Int.emod_lt_of_pos z hk
    omega
  · have e : z = -(-z) := by omega
    have h0 : 0 ≤ -z := by omega
    have h1 := Int.tmod_eq_emod_of_nonneg (b := k) h0
    have h2 := Int.emod_nonneg (-z) (Int.ne_of_gt hk)
    have h3 := Int.emod_lt_of_pos (-z) hk
    have h4 : z.tmod k = -((-z).tmod k) := by
      conv => lhs; rw [e]
      rw [Int.neg_tmod]
    omega
set_option maxRecDepth 100000 in
set_option maxHeartbeats 2000000 in
theorem more_go (a0 : Option Addr) (cap0 : Nat) (l : List UInt8) (a1 : Option Addr) (cap1 : Nat) (l' : List UInt8) (k m : Nat) (z : Int) (hk : k ≤ 255) (hm : m ≤ 255) (hz1 : -32768 ≤ z) (hz2 : z ≤ 32767) (W : World) (hl : l.length ≤ 140737488351232) (hl' : l'.length ≤ 140737488351232) (y : Bytes8 W a0 l) (y' : Bytes8 W a1 l') (hT : Tabs W) :
    Calls Tryd.prog 9 #[.slice a0 l.length cap0, .slice a1 l'.length cap1, .int .u8 (k : Int), .int .u8 (m : Int), .int .i16 z] W (EndI W (.bool true)) := by
  have HL := Lib.hid (levels_any (cap := cap0) y hl)
  have HL' := Lib.hid (fun w (hb : Below W.heap.size W w) => levels_any (cap := cap1) (y'.below hb) hl')
  have HUS := Lib.hid (fun w => user_any k (by omega) w)
  have hFit := Lib.hid (levels_fit l)
  have hFit' := Lib.hid (levels_fit l')
  have HT := Lib.hid hT
  obtain ⟨x, hx⟩ : ∃ x, levelsV l = x := ⟨_, rfl⟩
  obtain ⟨x', hx'⟩ : ∃ x, levelsV l' = x := ⟨_, rfl⟩
  rw [hx] at HL hFit
  rw [hx'] at HL' hFit'
  obtain ⟨n, hn⟩ : ∃ n, l.length = n := ⟨_, rfl⟩
  obtain ⟨n', hn'⟩ : ∃ n, l'.length = n := ⟨_, rfl⟩
  rw [hn] at HL ⊢
  rw [hn'] at HL' ⊢
  obtain ⟨u, hu⟩ : ∃ u, userB k = u := ⟨_, rfl⟩
  rw [hu] at HUS
  obtain ⟨lo, hlo⟩ : ∃ lo, z.tmod 150 = lo := ⟨_, rfl⟩
  have h1 : -150 < lo := hlo ▸ (tmod_bound z 150 (by decide)).1
  have h2 : lo < 150 := hlo ▸ (tmod_bound z 150 (by decide)).2
  clear hT hx hx' hn hn' hu hl hl' y y'
  go_enter Tryd.func9, Tryd.ntmps9
  go_wp2_with fail
  refine HL.out.mono ?_
  clear HL
  rintro e w1 ⟨v, rfl, hv, hb⟩
  obtain ⟨E3, e3, E4, e4, rfl, _⟩ := hv.open_
  replace HT := Lib.hid (HT.out.below hb (Nat.le_refl _))
  have HBW := Lib.hid hb
  clear hb
  have HB11 := Lib.hid (BoxOf.new hv)
  have hb := (Below.refl w1.heap.size w1).alloc (Nat.le_refl _) (.cells #[.int .i64 x.f0, .int .i64 x.f1, .string x.f2, .slice E3 x.f3.length e3, .slice E4 x.f4.length e4] 27)
  go_wp2_with fail
  generalize hW : w1.alloc (.cells #[.int .i64 x.f0, .int .i64 x.f1, .string x.f2, .slice E3 x.f3.length e3, .slice E4 x.f4.length e4] 27) = W2 at HB11 hb ⊢
  clear hW hv
  replace HT := Lib.hid (HT.out.below hb (Nat.le_refl _))
  replace HBW := Lib.hid (HBW.out.trans (Below.mono hb HBW.out.size))
  clear hb
  refine (HL'.out _ HBW.out).mono ?_
  clear HL'
  rintro e w3 ⟨v, rfl, hv, hb⟩
  obtain ⟨E3, e3, E4, e4, rfl, _⟩ := hv.open_
  replace HT := Lib.hid (HT.out.below hb (Nat.le_refl _))
  replace HBW := Lib.hid (HBW.out.trans (Below.mono hb HBW.out.size))
  replace HB11 := Lib.hid (HB11.out.below hb)
  clear hb
  have HB12 := Lib.hid (BoxOf.new hv)
  have hb := (Below.refl w3.heap.size w3).alloc (Nat.le_refl _) (.cells #[.int .i64 x'.f0, .int .i64 x'.f1, .string x'.f2, .slice E3 x'.f3.length e3, .slice E4 x'.f4.length e4] 27)
  go_wp2_with fail
  generalize hW : w3.alloc (.cells #[.int .i64 x'.f0, .int .i64 x'.f1, .string x'.f2, .slice E3 x'.f3.length e3, .slice E4 x'.f4.length e4] 27) = W4 at HB12 hb ⊢
  clear hW hv
  replace HT := Lib.hid (HT.out.below hb (Nat.le_refl _))
  replace HBW := Lib.hid (HBW.out.trans (Below.mono hb HBW.out.size))
  replace HB11 := Lib.hid (HB11.out.below hb)
  clear hb
  refine (HUS.out _).mono ?_
  clear HUS
  rintro e w5 ⟨rfl, hb⟩
  replace HT := Lib.hid (HT.out.below hb (Nat.le_refl _))
  replace HBW := Lib.hid (HBW.out.trans (Below.mono hb HBW.out.size))
  replace HB11 := Lib.hid (HB11.out.below hb)
  replace HB12 := Lib.hid (HB12.out.below hb)
  clear hb
  obtain ⟨A1, a1, C1, c1, hc1, hv1⟩ := HB11.out.read
  obtain ⟨A2, a2, C2, c2, hc2, hv2⟩ := HB12.out.read
  have hch := change_any hv1.any hFit.out.1 hv2.any hFit'.out.1 lo u HT.out
  obtain ⟨d0, d1, d2, d3, d4⟩ := hc1
  obtain ⟨f0, f1, f2, f3, f4⟩ := hc2
  clear hv1 hv2
  go_wp2_with fail
  refine hch.mono ?_
  clear hch d0 d1 d2 d3 d4 f0 f1 f2 f3 f4
  rintro e w6 ⟨rfl, hb⟩
  replace HT := Lib.hid (HT.out.below hb (Nat.le_refl _))
  replace HBW := Lib.hid (HBW.out.trans (Below.mono hb HBW.out.size))
  replace HB11 := Lib.hid (HB11.out.below hb)
  replace HB12 := Lib.hid (HB12.out.below hb)
  clear hb
  have HCM := Lib.hid (fun b (hb : lo ≤ b) => change_more (x := x) (y := x') (me := u) hb)
  obtain ⟨r, hr⟩ : ∃ r, changeV x x' lo u = r := ⟨_, rfl⟩
  rw [hr] at HCM ⊢
  clear hr
  by_cases h0 : r = 0
  · subst h0
    go_wp2_with fail
    refine (known_any _ HT.out).mono ?_
    rintro e w7 ⟨rfl, hb⟩
    replace HT := Lib.hid (HT.out.below hb (Nat.le_refl _))
    replace HBW := Lib.hid (HBW.out.trans (Below.mono hb HBW.out.size))
    replace HB11 := Lib.hid (HB11.out.below hb)
    replace HB12 := Lib.hid (HB12.out.below hb)
    clear hb
    obtain ⟨A1, a1, C1, c1, hc1, hv1⟩ := HB11.out.read
    obtain ⟨A2, a2, C2, c2, hc2, hv2⟩ := HB12.out.read
    have hch := change_any hv1.any hFit.out.1 hv2.any hFit'.out.1 (lo + (m : Int)) u HT.out
    rw [HCM.out (lo + (m : Int)) (by omega) (by first | trivial | rfl)] at hch
    obtain ⟨d0, d1, d2, d3, d4⟩ := hc1
    obtain ⟨f0, f1, f2, f3, f4⟩ := hc2
    clear hv1 hv2
    go_wp2_with fail
    refine hch.mono ?_
    clear hch d0 d1 d2 d3 d4 f0 f1 f2 f3 f4
    rintro e w8 ⟨rfl, hb⟩
    go_wp2_with fail
    go_ret
    exact ⟨rfl, HBW.out.trans (Below.mono hb HBW.out.size)⟩
  · go_wp2_with fail
    refine (known_any _ HT.out).mono ?_
    rintro e w7 ⟨rfl, hb⟩
    go_wp2_with fail
    go_ret
    exact ⟨rfl, HBW.out.trans (Below.mono hb HBW.out.size)⟩
theorem i16_int {z : Int} (h : (Lit.int .i16 z).wf = true) : -32768 ≤ z ∧ z ≤ 32767 := by
  simpa [Lit.wf, IntKind.min, IntKind.max, IntKind.signed, IntKind.bits] using h
set_option maxRecDepth 100000 in
theorem powerMore_walk (a0 : Option Addr) (len0 cap0 : Nat) (z0 : List Int) (a1 : Option Addr) (len1 cap1 : Nat) (z1 : List Int) (a2 a3 a4 : Int) (W : World)
    (x0 : z0.length = len0) (y0 : RowAt W a0 (z0.map (.int .u8))) (u0 : ∀ z ∈ z0, (Lit.int .u8 z).wf = true) (b0 : len0 * 1 ≤ 140737488351232) (c0 : len0 ≤ cap0) (m0 : cap0 ≤ maxLen)
    (x1 : z1.length = len1) (y1 : RowAt W a1 (z1.map (.int .u8))) (u1 : ∀ z ∈ z1, (Lit.int .u8 z).wf = true) (b1 : len1 * 1 ≤ 140737488351232) (c1 : len1 ≤ cap1) (m1 : cap1 ≤ maxLen)
    (u2 : (Lit.int .u8 a2).wf = true) (u3 : (Lit.int .u8 a3).wf = true) (u4 : (Lit.int .i16 a4).wf = true) (hT : Tabs W) :
    Calls Tryd.prog 9 #[.slice a0 len0 cap0, .slice a1 len1 cap1, .int .u8 a2, .int .u8 a3, .int .i16 a4] W fun e w' => e = .returned (.bool true) ∧ Below W.heap.size W w' := by
  obtain ⟨l, hl, hy⟩ := bytes8_row y0 u0
  obtain ⟨l', hl', hy'⟩ := bytes8_row y1 u1
  obtain ⟨k, rfl, hk⟩ := u8_int u2
  obtain ⟨m, rfl, hm⟩ := u8_int u3
  have hz := i16_int u4
  have h := more_go a0 cap0 l a1 cap1 l' k m a4 hk hm hz.1 hz.2 W (by omega) (by omega) hy hy' hT
  rw [hl, hl', x0, x1] at h
  exact h
end Go.Proofs.YtkdicgendcdooaaDoor

/-
  The row of the law PowerMore: whatever the input, it answers true and leaves its arguments as they were; out of its walk.
-/
namespace Go.Proofs.YtkdicgendcdooaaDoor.powerMore
open Go.ChangeShapes Go.WideShapes Go.ChangeAt Go.RowKit
open Go.ChangeMaps (open_string shut_string)
theorem own : ownKnob Tryd.prog.godebug = none := by kernel_rfl
theorem laidOut : laidOutB Tryd.prog = true := by kernel_rfl
set_option maxRecDepth 100000 in
theorem lifted (os : Os) (started : os.Started) (H : Type) (enc : TypeId × Value → H) :
    ReturnsInHanded {} Tryd.checked os 9 .any (fun w args => (Rows.powerMoreSpec.pre enc Tryd.prog Tryd.f9 Rows.powerMoreRow.domain false w args ∧ laidMetH Tryd.prog Rows.powerMoreRow.laid w) ∧ sizedMet enc Tryd.prog Tryd.f9 (OpenSpec.ofChange Rows.powerMoreSpec) false w args)
      (Rows.powerMoreSpec.post enc Tryd.prog Tryd.f9 false true false false) := by
  refine returnsInHanded_of_change_and (C := Tryd.checked) (X := fun w _ => laidMetH Tryd.prog Rows.powerMoreRow.laid w) (fun _ _ _ hh h => h.of_heap hh) own started (by kernel_rfl) Tryd.func9
    (ChangeSpec.witness_shaped (enc := enc) (C := Tryd.checked) (os := os) (X := fun w _ => laidMetH Tryd.prog Rows.powerMoreRow.laid w) false (World.laidAll Tryd.prog os Rows.powerMoreRow.laid) #[.slice none 0 0, .slice none 0 0, .int .u8 0, .int .u8 0, .int .i16 0] 8 (World.laidAll_os _ _ _)
      (World.shaped_of_ZipB (by kernel_rfl) (by kernel_rfl)) (by kernel_rfl) (by kernel_rfl) (by kernel_rfl)
      (by rw [MakeChecks.laidMetH_plain _ _ _ (by kernel_rfl)]; exact laidMet_laidAll _ (by kernel_rfl) (by kernel_rfl))) ?_
  intro W base args ds gs before hval0 hW _ hsz0 hL _
  have hsz : (DataW.weightsEach Tryd.prog (Tryd.f9.params.toList ++ Rows.powerMoreSpec.plain.varTypes Tryd.prog) (ds ++ gs)).all (· ≤ reachBytes) = true := hsz0
  have hval : ∀ (j : Nat) t v, Tryd.f9.params[j]? = some t → args[j]? = some v → Value.okWide Tryd.prog W .any base t v := hval0
  have hW' := hW
  obtain ⟨p, q, hA0, hV, rfl, hfz, hnd⟩ := hW
  have hA : DataW.TrodAll enc Tryd.prog W 0 (fun _ => true) true Tryd.f9.params.toList args.toList ds p := hA0
  rw [Tryd.params9] at hA hval hsz
  obtain ⟨v0, vs0, d0, ds0, p0, q0, hargs, rfl, rfl, h0, r0⟩ := trodAll_cons hA
  obtain ⟨v1, vs1, d1, ds1, p1, q1, rfl, rfl, rfl, h1, r1⟩ := trodAll_cons r0
  obtain ⟨v2, vs2, d2, ds2, p2, q2, rfl, rfl, rfl, h2, r2⟩ := trodAll_cons r1
  obtain ⟨v3, vs3, d3, ds3, p3, q3, rfl, rfl, rfl, h3, r3⟩ := trodAll_cons r2
  obtain ⟨v4, vs4, d4, ds4, p4, q4, rfl, rfl, rfl, h4, r4⟩ := trodAll_cons r3
  obtain ⟨rfl, rfl, rfl⟩ := trodAll_nil r4
  obtain rfl : args = #[v0, v1, v2, v3, v4] := by cases args; simp_all
  obtain ⟨rfl, rfl⟩ := trodVars_none hV
  obtain ⟨a0, len0, cap0, rfl⟩ := okWide_slice Tryd.underlying22 (hval 0 22 v0 rfl rfl)
  have k0 := h0
  have lt0 : ∀ x ∈ p0, x.block < W.heap.size := by obtain ⟨m, hm⟩ := k0; exact DataW.trod_lt m _ _ _ hm
  obtain ⟨z0, x0, y0, u0, b0, c0, m0⟩ := open_nums hsz (j := 0) (t := 22) rfl rfl Tryd.underlying22 Tryd.underlying5 (by kernel_rfl) (B := 1) (by kernel_rfl) h0
  obtain ⟨a1, len1, cap1, rfl⟩ := okWide_slice Tryd.underlying22 (hval 1 22 v1 rfl rfl)
  have k1 := h1
  have lt1 : ∀ x ∈ p1, x.block < W.heap.size := by obtain ⟨m, hm⟩ := k1; exact DataW.trod_lt m _ _ _ hm
  obtain ⟨z1, x1, y1, u1, b1, c1, m1⟩ := open_nums hsz (j := 1) (t := 22) rfl rfl Tryd.underlying22 Tryd.underlying5 (by kernel_rfl) (B := 1) (by kernel_rfl) h1
  obtain ⟨a2, rfl, rfl, rfl, w2⟩ := open_int Tryd.underlying5 (hval 2 5 v2 rfl rfl) h2
  obtain ⟨a3, rfl, rfl, rfl, w3⟩ := open_int Tryd.underlying5 (hval 3 5 v3 rfl rfl) h3
  obtain ⟨a4, rfl, rfl, rfl, w4⟩ := open_int Tryd.underlying53 (hval 4 53 v4 rfl rfl) h4
  have hLF := tabs_laid hL
  refine (powerMore_walk a0 len0 cap0 z0 a1 len1 cap1 z1 a2 a3 a4 W x0 y0 u0 b0 c0 m0 x1 y1 u1 b1 c1 m1 w2 w3 w4 hLF).mono fun e W' ⟨he, bel⟩ => ?_
  subst he
  exact ⟨_, rfl, _, _, _, [], _, [], hW', trodAll_mk1 (shut_bool Tryd.underlying4 _), (trodAll_cons_mk (Below.trod laidOut (by kernel_rfl) (of_decide_eq_true (by kernel_rfl)) k0 bel lt0) (trodAll_cons_mk (Below.trod laidOut (by kernel_rfl) (of_decide_eq_true (by kernel_rfl)) k1 bel lt1) (trodAll_cons_mk (shut_int Tryd.underlying5 w2) (trodAll_cons_mk (shut_int Tryd.underlying5 w3) (trodAll_cons_mk (shut_int Tryd.underlying53 w4) trodAll_mk0))))), rfl, bel.frame _, fun h => by cases h⟩
theorem over : Rows.powerMoreRow.holds Tryd.pinned (OpenSpec.ofChange Rows.powerMoreSpec) :=
  OpenClaim.holds_of_wide 9 Tryd.f9 rfl rfl rfl rfl rfl rfl rfl ⟨rfl, rfl, rfl, rfl, rfl⟩ rfl rfl rfl rfl rfl (by kernel_rfl) Tryd.func9 (by kernel_rfl)
    (of_decide_eq_true (by kernel_rfl)) (by unfold Func.isWrapper; first | (rw [if_pos (by decide +kernel)]; kernel_rfl) | (rw [if_neg (by decide +kernel)]; exact ⟨rfl, rfl⟩))
    (fun os started H enc _ => lifted os started H enc)
theorem card : Rows.PowerMoreCardSaid :=
  Claim7.holds_tied_plain_at .later [] [.listed, .data] true (true, "4f1c08a675811627051cff13577676a97a6e49129b751d86a50caffb64183432") false over (fun _ h => by cases h) (by kernel_rfl) (fun _ h => by cases h) powerMore_row_tie rfl ⟨rfl, rfl⟩ (by kernel_rfl) rfl
    (fun f fn hf hfn => by
      obtain rfl : f = 9 := Option.some.inj ((show Tryd.prog.funcNamed "heliast/heliastlaw14.PowerMore" = some 9 by kernel_rfl).symm.trans hf) |>.symm
      obtain rfl : fn = Tryd.f9 := (Option.some.inj (Tryd.func9.symm.trans hfn)).symm
      exact ⟨by kernel_rfl, fun j t ht => by
        rw [Tryd.params9] at ht
        have hm : t ∈ [22, 22, 5, 5, 53] := by simpa using Array.mem_of_getElem? ht
        have hall : ([22, 22, 5, 5, 53].all fun u => !Tryd.prog.wantsStandIn u) = true := by kernel_rfl
        exact (show Tryd.prog.wantsStandIn t = false by simpa using List.all_eq_true.1 hall t hm)⟩)
    (by kernel_rfl)
end Go.Proofs.YtkdicgendcdooaaDoor.powerMore
namespace Go.Proofs.YtkdicgendcdooaaDoor
/-- The row, under a short name. -/
theorem powerMore_holds : Rows.PowerMoreCardSaid := powerMore.card
#print axioms powerMore_holds
end Go.Proofs.YtkdicgendcdooaaDoor

