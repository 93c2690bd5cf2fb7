/-
  Texts of this session, merged in build order: RCut, PNamL, PChL, PSame, RPowerSame.
-/
import Derived.Test.YtkdicgendcdooaaDoorZC0
import Derived.Test.YtkdicgendcdooaaDoorZC1
import Derived.Test.YtkdicgendcdooaaDoorZD0
import Derived.Test.YtkdicgendcdooaaDoorRows
import Derived.Test.YtkdicgendcdooaaDoorCards
import Derived.Test.YtkdicgendcdooaaDoorTie
import Derived.LaidMore
import Derived.Lay
import Derived.SevenTiedAt
import Derived.Stop.Joined
set_option linter.unusedVariables false
set_option linter.unusedSimpArgs false
/-
  Without: the document's answer.
-/
namespace Go.Proofs.YtkdicgendcdooaaDoor
open Go.RowKit Go.Lib Go.Proofs.YtkdicgendcdooaaDoorW.PrintWords
set_option linter.unusedSimpArgs false
set_option linter.unusedVariables false
set_option maxRecDepth 100000 in
theorem cut_any {w : World} {ok : Nat → Prop} {x : V} {v : Value} (h : VF w ok x v) (hf : Fit x) (key : ByteArray) :
    Calls Tryd.prog 20 #[v, .string key] w (EndV w ok (cutV x key)) := by
  have HX := Lib.hid h.bound
  obtain ⟨A3, c3, A4, c4, rfl, l3, f3, l4, f4⟩ := h.open_
  have HP := Lib.hid (fun w' (hb : Below w.heap.size w w') => rplace_any (HX.out.below hb) key)
  cases hg : getV x key with
  | none =>
    have HPL := Lib.hid (getV_none hg)
    have HT := Lib.hid (show cutV x key = x by unfold cutV; rw [HPL.out, if_pos (by decide)])
    clear h f3 f4 l3 l4 hg hf
    go_enter Tryd.func20, Tryd.ntmps20
    go_wp2_with fail
    refine calls_box2 ?_
    intro W1 hx1 hr1 hs1 hb1
    refine (HP.out _ hb1).mono ?_
    rintro e w1 ⟨rfl, hb⟩
    rw [HPL.out]
    obtain ⟨d0, d1, d2, d3, d4⟩ := cells5v ((hb.block _ (by omega)).trans hx1)
    have hr2 := (hb.block _ (by omega)).trans hr1
    obtain ⟨r0, r1, r2, r3, r4⟩ := cells5v hr2
    have rs := softv hr2
    have HB1 := Lib.hid (hb1.trans (hb.mono (by omega)))
    clear hx1 hr1 hs1 hb1 hb hr2
    go_wp2_with fail
    have hO := off5 w1 (w.heap.size + 1) (.int .i64 x.f0) (.int .i64 x.f1) (.string x.f2) (.slice A3 x.f3.length c3) (.slice A4 x.f4.length c4)
    refine bodyPost_ret (v := .agg #[.int .i64 x.f0, .int .i64 x.f1, .string x.f2, .slice A3 x.f3.length c3, .slice A4 x.f4.length c4]) (by simp [results, Tryd.results20, go_sem, r0, r1, r2, r3, r4]) rfl ⟨_, rfl, ?_, Off.below HB1.out hO (by simp)⟩
    rw [HT.out]
    refine (hO.vf (HX.out.below HB1.out) (fun k hk _ hm => ?_)).mono (fun k hk => .inl hk.1)
    simp at hm
    have := hk.2
    omega
  | some y =>
    obtain ⟨i, hi4, hpl, _⟩ := getV_some hg
    have HPL := Lib.hid hpl
    have HI := Lib.hid (show i + 1 ≤ min x.f3.length x.f4.length by
      unfold placeV at hpl
      split at hpl
      · rename_i hc
        obtain ⟨_, h1, h2⟩ := hc
        omega
      · omega)
    have HT := Lib.hid (show cutV x key = withV x i 1 [] [] by unfold cutV; rw [HPL.out, if_neg (by omega)]; rfl)
    have HF := Lib.hid hf
    clear h f3 f4 l3 l4 hg hf hpl
    go_enter Tryd.func20, Tryd.ntmps20
    go_wp2_with fail
    refine calls_box2 ?_
    intro W1 hx1 hr1 hs1 hb1
    refine (HP.out _ hb1).mono ?_
    rintro e w1 ⟨rfl, hb⟩
    rw [HPL.out]
    obtain ⟨d0, d1, d2, d3, d4⟩ := cells5v ((hb.block _ (by omega)).trans hx1)
    have HR2 := Lib.hid ((hb.block _ (by omega)).trans hr1)
    have HB1 := Lib.hid (hb1.trans (hb.mono (by omega)))
    have HZ := Lib.hid (show w.heap.size + 2 ≤ w1.heap.size by have := hb.size; omega)
    clear hx1 hr1 hs1 hb1 hb
    go_wp2_with fail
    have hc := with_any (HX.out.below HB1.out) HF.out i 1 (ks := []) (ys := []) (ck := 0) (cv := 0) (Kd.F_nil _ _ _) (Nat.le_refl _) (Kd.F_nil _ _ _) (Nat.le_refl _) HI.out (by simp) (by simp)
    refine hc.mono ?_
    clear hc
    rintro e w3 ⟨v3, rfl, hv3, hb3⟩
    obtain ⟨z, hz⟩ : ∃ z, withV x i 1 [] [] = z := ⟨_, rfl⟩
    rw [hz] at hv3 HT
    obtain ⟨D3, q3, D4, q4, rfl, _⟩ := hv3.open_
    have hz1 := HZ.out
    have hr3 := (hb3.block _ (by omega)).trans HR2.out
    obtain ⟨r0, r1, r2, r3, r4⟩ := cells5v hr3
    have rs := softv hr3
    have HV3 := Lib.hid hv3
    have HB3 := Lib.hid (HB1.out.trans (hb3.mono HB1.out.size))
    clear hv3 hb3 hr3 hz hz1 d0 d1 d2 d3 d4
    go_wp2_with fail
    have hz1 := HZ.out
    have hO := off5 w3 (w.heap.size + 1) (.int .i64 z.f0) (.int .i64 z.f1) (.string z.f2) (.slice D3 z.f3.length q3) (.slice D4 z.f4.length q4)
    refine bodyPost_ret (v := .agg #[.int .i64 z.f0, .int .i64 z.f1, .string z.f2, .slice D3 z.f3.length q3, .slice D4 z.f4.length q4]) (by simp [results, Tryd.results20, go_sem, r0, r1, r2, r3, r4]) rfl ⟨_, rfl, ?_, Off.below HB3.out hO (by simp)⟩
    rw [HT.out]
    refine (hO.vf HV3.out (fun k hk _ hm => ?_)).mono (fun k hk => ?_)
    · simp at hm
      rcases hk with h | h
      · have := h.2
        omega
      · omega
    · rcases hk with h | h
      · exact .inl h.1
      · exact .inr (by omega)
end Go.Proofs.YtkdicgendcdooaaDoor

/-
  What is told by name behind a put, and behind a cut: plain laws.
-/
namespace Go.Proofs.YtkdicgendcdooaaDoor
open Go.RowKit Go.Lib
set_option linter.unusedSimpArgs false
set_option linter.unusedVariables false
theorem put_obj (x : V) (key : ByteArray) (y : V) : (putV x key y).f0 = 5 := by
  unfold putV
  split
  · split <;> rfl
  · rfl
theorem put_fresh {x : V} (h : x.f0 ≠ 5) (key : ByteArray) (y : V) : putV x key y = ⟨5, 0, ⟨#[]⟩, [key], [y]⟩ := by unfold putV; rw [if_neg h]
theorem put_same' {x : V} (h : x.f0 = 5 → WF x) (key : ByteArray) (y : V) : getV (putV x key y) key = some y := by
  by_cases hx : x.f0 = 5
  · exact put_same (h hx) key y
  · rw [put_fresh hx]
    simp [getV, posK]
theorem put_other' {x : V} (h : x.f0 = 5 → WF x) {key k : ByteArray} (hk : k ≠ key) (y : V) : getV (putV x key y) k = getV x k := by
  by_cases hx : x.f0 = 5
  · exact put_other (h hx) hk y
  · rw [put_fresh hx]
    have h1 : getV x k = none := by unfold getV; exact if_neg (fun hc => hx hc.1)
    rw [h1]
    simp [getV, posK]
    exact fun e => hk e.symm
theorem getD_wf {P : ByteArray → Prop} {r : Option V} (h : ∀ y, r = some y → Tab P y) : (r.getD zV).f0 = 5 → WF (r.getD zV) := by
  cases r with
  | none => intro e; exact absurd (show (0 : Int) = 5 from e) (by decide)
  | some y => exact fun _ => (h y rfl).wf
/-! Keys that stand once. -/
theorem put_nodup {x : V} (h : WF x) (hn : x.f3.Nodup) (key : ByteArray) (y : V) : (putV x key y).f3.Nodup := by
  have hl := h.len
  unfold putV
  rw [if_pos h.obj]
  unfold placeV
  by_cases hp : posK x.f3 key < x.f3.length
  · rw [if_pos (⟨h.obj, hp, by omega⟩ : x.f0 = 5 ∧ posK x.f3 key < x.f3.length ∧ posK x.f3 key < x.f4.length), if_pos (by omega), Int.toNat_natCast, withV_f h]
    have e3 : x.f3 = x.f3.take (posK x.f3 key) ++ [key] ++ x.f3.drop (posK x.f3 key + 1) := by
      conv => lhs; rw [← List.take_append_drop (posK x.f3 key) x.f3, List.drop_eq_getElem_cons hp, posK_get]
      simp
    show (x.f3.take (posK x.f3 key) ++ [key] ++ x.f3.drop (posK x.f3 key + 1)).Nodup
    rw [← e3]
    exact hn
  · have hm : key ∉ x.f3 := fun hm => hp (posK_mem _ _ hm)
    rw [show (if x.f0 = 5 ∧ posK x.f3 key < x.f3.length ∧ posK x.f3 key < x.f4.length then ((posK x.f3 key : Nat) : Int) else -1) = -1 from if_neg (fun hc => hp hc.2.1), if_neg (by decide), withV_f h]
    obtain ⟨i, hi⟩ : ∃ i, insP (x.f3.take (min x.f3.length x.f4.length)) key = i := ⟨_, rfl⟩
    rw [hi]
    show (x.f3.take i ++ [key] ++ x.f3.drop (i + 0)).Nodup
    rw [Nat.add_zero, List.append_assoc]
    have hp2 : (x.f3.take i ++ ([key] ++ x.f3.drop i)).Perm (key :: x.f3) := by
      have := (List.perm_middle (a := key) (l₁ := x.f3.take i) (l₂ := x.f3.drop i))
      rw [List.take_append_drop] at this
      exact this
    exact hp2.nodup_iff.2 (List.nodup_cons.2 ⟨hm, hn⟩)
theorem levels_once (c : List UInt8) : (levelsV c).f3.Nodup := by
  have h : ∀ k, ((goLv c k).v.f3.Nodup ∧ True) := by
    intro k
    induction k with
    | zero => exact ⟨List.nodup_nil, trivial⟩
    | succ k ih =>
      have ht := goLv_tab c k
      unfold goLv stepLv
      split
      · exact ⟨put_nodup ht.v.wf ih.1 _ _, trivial⟩
      · split
        · exact ih
        · exact ih
  have h0 := (h (roundsLv c.length)).1
  have ht := goLv_tab c (roundsLv c.length)
  unfold levelsV
  obtain ⟨s, hs⟩ : ∃ s, goLv c (roundsLv c.length) = s := ⟨_, rfl⟩
  rw [hs] at h0 ht ⊢
  have w1 : WF (if 0 < c.length % 3 then putV s.v bUsers s.u else s.v) ∧ (if 0 < c.length % 3 then putV s.v bUsers s.u else s.v).f3.Nodup := by
    split
    · exact ⟨put_wf ht.v.wf _ _, put_nodup ht.v.wf h0 _ _⟩
    · exact ⟨ht.v.wf, h0⟩
  show (if 0 < c.length % 5 then putV (if 0 < c.length % 3 then putV s.v bUsers s.u else s.v) bEvents s.e else (if 0 < c.length % 3 then putV s.v bUsers s.u else s.v)).f3.Nodup
  obtain ⟨x, hx⟩ : ∃ x, (if 0 < c.length % 3 then putV s.v bUsers s.u else s.v) = x := ⟨_, rfl⟩
  rw [hx] at w1 ⊢
  split
  · exact put_nodup w1.1 w1.2 _ _
  · exact w1.2
theorem cut_form {x : V} (h : WF x) (key : ByteArray) (hm : posK x.f3 key < x.f3.length) : cutV x key = ⟨5, x.f1, x.f2, x.f3.take (posK x.f3 key) ++ x.f3.drop (posK x.f3 key + 1), x.f4.take (posK x.f3 key) ++ x.f4.drop (posK x.f3 key + 1)⟩ := by
  have hl := h.len
  unfold cutV placeV
  rw [if_pos (⟨h.obj, hm, by omega⟩ : x.f0 = 5 ∧ posK x.f3 key < x.f3.length ∧ posK x.f3 key < x.f4.length), if_neg (by omega), Int.toNat_natCast, withV_f h]
  simp
theorem cut_none {x : V} (h : WF x) (key : ByteArray) (hm : ¬ posK x.f3 key < x.f3.length) : cutV x key = x := by
  have hp : placeV x key = -1 := by unfold placeV; exact if_neg (fun hc => hm hc.2.1)
  unfold cutV
  rw [hp, if_pos (by decide)]
theorem cut_wf {x : V} (h : WF x) (key : ByteArray) : WF (cutV x key) := by
  have hl := h.len
  by_cases hm : posK x.f3 key < x.f3.length
  · rw [cut_form h key hm]
    exact ⟨rfl, by simp; omega⟩
  · rw [cut_none h key hm]; exact h
theorem cut_same {x : V} (h : WF x) (hn : x.f3.Nodup) (key : ByteArray) : getV (cutV x key) key = none := by
  have hl := h.len
  have hw := cut_wf h key
  rw [getV_lk hw]
  by_cases hm : posK x.f3 key < x.f3.length
  · rw [cut_form h key hm]
    refine lk_not _ _ _ ?_
    show key ∉ x.f3.take (posK x.f3 key) ++ x.f3.drop (posK x.f3 key + 1)
    have e3 : x.f3 = x.f3.take (posK x.f3 key) ++ (key :: x.f3.drop (posK x.f3 key + 1)) := by
      conv => lhs; rw [← List.take_append_drop (posK x.f3 key) x.f3, List.drop_eq_getElem_cons hm, posK_get]
    rw [e3] at hn
    have h2 := (List.nodup_append.1 hn)
    intro hmem
    rcases List.mem_append.1 hmem with h3 | h3
    · exact posK_take _ _ h3
    · exact (List.nodup_cons.1 h2.2.1).1 h3
  · rw [cut_none h key hm]
    exact lk_not _ _ _ (fun hmem => hm (posK_mem _ _ hmem))
theorem cut_other {x : V} (h : WF x) {key k : ByteArray} (hk : k ≠ key) : getV (cutV x key) k = getV x k := by
  have hl := h.len
  have hw := cut_wf h key
  rw [getV_lk hw, getV_lk h]
  by_cases hm : posK x.f3 key < x.f3.length
  · rw [cut_form h key hm]
    have e3 : x.f3 = x.f3.take (posK x.f3 key) ++ (key :: x.f3.drop (posK x.f3 key + 1)) := by
      conv => lhs; rw [← List.take_append_drop (posK x.f3 key) x.f3, List.drop_eq_getElem_cons hm, posK_get]
    have hp4 : posK x.f3 key < x.f4.length := by omega
    have e4 : x.f4 = x.f4.take (posK x.f3 key) ++ (x.f4[posK x.f3 key] :: x.f4.drop (posK x.f3 key + 1)) := by
      conv => lhs; rw [← List.take_append_drop (posK x.f3 key) x.f4, List.drop_eq_getElem_cons hp4]
    have e : lk x.f3 x.f4 k = lk (x.f3.take (posK x.f3 key) ++ (key :: x.f3.drop (posK x.f3 key + 1))) (x.f4.take (posK x.f3 key) ++ (x.f4[posK x.f3 key] :: x.f4.drop (posK x.f3 key + 1))) k := by
      rw [← e3, ← e4]
    have a1 := lk_app (x.f3.take (posK x.f3 key)) (x.f4.take (posK x.f3 key)) (x.f3.drop (posK x.f3 key + 1)) (x.f4.drop (posK x.f3 key + 1)) k (by rw [List.length_take, List.length_take]; omega)
    have a2 := lk_app (x.f3.take (posK x.f3 key)) (x.f4.take (posK x.f3 key)) (key :: x.f3.drop (posK x.f3 key + 1)) (x.f4[posK x.f3 key] :: x.f4.drop (posK x.f3 key + 1)) k (by rw [List.length_take, List.length_take]; omega)
    rw [lk_cons, if_neg (fun e => hk e.symm)] at a2
    exact a1.trans (a2.symm.trans e.symm)
  · rw [cut_none h key hm]
/-! What levels tell behind such changes. -/
theorem at_num {x : V} {key : ByteArray} {n : Int} (h : getV x key = some (numV n)) : atV x key = some n := by
  unfold atV
  rw [h]
  rfl
theorem at_none {x : V} {key : ByteArray} (h : getV x key = none) : atV x key = none := by
  unfold atV
  rw [h]
theorem in_some {x y : V} {key : ByteArray} (h : getV x key = some y) (hy : y.f0 = 5) : inV x key = y := by
  unfold inV
  rw [h]
  exact if_pos hy
theorem in_none {x : V} {key : ByteArray} (h : getV x key = none) : inV x key = zObj := by
  unfold inV
  rw [h]
theorem at_zObj (key : ByteArray) : atV zObj key = none := by simp [atV, getV, zObj, posK]
theorem named_level {x : V} (h : Lev x) (user creator : ByteArray) (n : Int) : levelV (putV x bUsers (putV ((getV x bUsers).getD zV) user (numV n))) true creator user = n := by
  unfold levelV
  rw [if_pos rfl, in_some (put_same h.wf _ _) (put_obj _ _ _), at_num (put_same' (getD_wf h.users) user (numV n))]
  rfl
theorem named_gone {x : V} (h : Lev x) (hn : x.f3.Nodup) (user creator : ByteArray) (n : Int) : levelV (cutV (putV x bUsersDefault (numV n)) bUsers) true creator user = n := by
  have hw := put_wf h.wf bUsersDefault (numV n)
  have hd := put_nodup h.wf hn bUsersDefault (numV n)
  unfold levelV
  rw [if_pos rfl, in_none (cut_same hw hd bUsers), at_zObj, at_num ((cut_other hw (by decide)).trans (put_same h.wf _ _))]
  rfl
theorem named_need {x : V} (h : Lev x) (kind : ByteArray) (is : Bool) (n : Int) : needV (putV x bEvents (putV ((getV x bEvents).getD zV) kind (numV n))) true kind is = n := by
  unfold needV
  rw [if_neg (by decide), in_some (put_same h.wf _ _) (put_obj _ _ _), at_num (put_same' (getD_wf h.events) kind (numV n))]
  rfl
theorem named_none {x : V} (h : Lev x) (hn : x.f3.Nodup) (kind : ByteArray) (is : Bool) (n : Int) : needV (cutV (putV (putV x bStateDefault (numV n)) bEventsDefault (numV n)) bEvents) true kind is = n := by
  have hw1 := put_wf h.wf bStateDefault (numV n)
  have hd1 := put_nodup h.wf hn bStateDefault (numV n)
  have hw := put_wf hw1 bEventsDefault (numV n)
  have hd := put_nodup hw1 hd1 bEventsDefault (numV n)
  unfold needV
  rw [if_neg (by decide), in_none (cut_same hw hd bEvents), at_zObj, at_num ((cut_other hw (by decide)).trans (put_same hw1 _ _)), at_num ((cut_other hw (by decide)).trans ((put_other hw1 (by decide) _).trans (put_same h.wf _ _)))]
  cases is <;> rfl
end Go.Proofs.YtkdicgendcdooaaDoor

/-
  What Change answers where one user's level alone is another one: plain laws.
-/
namespace Go.Proofs.YtkdicgendcdooaaDoor
open Go.RowKit Go.Lib
set_option linter.unusedSimpArgs false
set_option linter.unusedVariables false
theorem not_turned {x y : V} {k : ByteArray} (h : atV x k = atV y k) : turnedB (turnOf x y k) = false := by
  unfold turnedB turnOf
  simp [h]
theorem turns_none {x y : V} {keys : List ByteArray} (h : ∀ k ∈ keys, atV x k = atV y k) : turnsL x y keys = [] := by
  unfold turnsL
  rw [List.filter_eq_nil_iff]
  intro t ht
  obtain ⟨k, hk, rfl⟩ := List.mem_map.1 ht
  rw [not_turned (h k hk)]
  decide
theorem turns_one {x y : V} {keys : List ByteArray} {who : ByteArray} (hw : who ∈ keys) (h : ∀ k ∈ keys, k ≠ who → atV x k = atV y k) (f : TT → Bool) :
    (turnsL x y keys).any f = (turnedB (turnOf x y who) && f (turnOf x y who)) := by
  rw [Bool.eq_iff_iff, List.any_eq_true, Bool.and_eq_true]
  constructor
  · rintro ⟨t, ht, hf⟩
    unfold turnsL at ht
    obtain ⟨hm, hb⟩ := List.mem_filter.1 ht
    obtain ⟨k, hk, rfl⟩ := List.mem_map.1 hm
    by_cases hkw : k = who
    · subst hkw; exact ⟨hb, hf⟩
    · rw [not_turned (h k hk hkw)] at hb; cases hb
  · rintro ⟨hb, hf⟩
    exact ⟨_, List.mem_filter.2 ⟨List.mem_map.2 ⟨who, hw, rfl⟩, hb⟩, hf⟩
theorem change_same (x : V) (lv : Int) (me : ByteArray) : changeV x x lv me = 0 := by
  unfold changeV turnsIn
  rw [turns_none (fun _ _ => rfl), turns_none (fun _ _ => rfl), turns_none (fun _ _ => rfl)]
  rfl
theorem at_put_same {x : V} (h : WF x) (key : ByteArray) (n : Int) : atV (putV x key (numV n)) key = some n := at_num (put_same h key (numV n))
theorem at_put_other {x : V} (h : WF x) {key k : ByteArray} (hk : k ≠ key) (y : V) : atV (putV x key y) k = atV x k := by
  unfold atV
  rw [put_other h hk]
theorem in_put_other {x : V} (h : WF x) {key k : ByteArray} (hk : k ≠ key) (y : V) : inV (putV x key y) k = inV x k := by
  unfold inV
  rw [put_other h hk]
theorem put_key {x : V} (h : WF x) (key : ByteArray) (y : V) : key ∈ (putV x key y).f3 := by
  obtain ⟨i, o, hi, e, _⟩ := put_form h key y
  rw [e]
  show key ∈ x.f3.take i ++ [key] ++ x.f3.drop (i + o)
  simp
/-- One user's level alone is another one. -/
theorem change_user {x y : V} (h : Lev x) (hy : getV x bUsers = some y) (who me : ByteArray) (n lv : Int) :
    changeV x (putV x bUsers (putV y who (numV n))) lv me =
      if atV y who = some n then 0 else if (¬ who = me) ∧ (atV y who).isSome = true ∧ lv ≤ (atV y who).getD 0 then 3 else if lv < n then 4 else 0 := by
  have ht := h.users y hy
  have hiy : inV x bUsers = y := in_some hy ht.wf.obj
  have hib : inV (putV x bUsers (putV y who (numV n))) bUsers = putV y who (numV n) := in_some (put_same h.wf _ _) (put_wf ht.wf _ _).obj
  have h1 : turnsL x (putV x bUsers (putV y who (numV n))) plainL = [] := turns_none fun k hk => (at_put_other h.wf (plainL_ne k hk).1 _).symm
  have h2 : turnsIn x (putV x bUsers (putV y who (numV n))) bEvents = [] := by
    unfold turnsIn
    rw [in_put_other h.wf (by decide)]
    exact turns_none fun _ _ => rfl
  have h3 : ∀ f, (turnsIn x (putV x bUsers (putV y who (numV n))) bUsers).any f = (turnedB (turnOf y (putV y who (numV n)) who) && f (turnOf y (putV y who (numV n)) who)) := fun f => by
    unfold turnsIn
    rw [hiy, hib]
    exact turns_one (List.mem_append.2 (.inr (put_key ht.wf _ _))) (fun k _ hk => (at_put_other ht.wf hk _).symm) f
  unfold changeV
  rw [h1, h2, h3, h3]
  have hT : turnOf y (putV y who (numV n)) who = ⟨who, atV y who, some n⟩ := by unfold turnOf; rw [at_put_same ht.wf]
  rw [hT]
  have hB : turnedB ⟨who, atV y who, some n⟩ = !(decide (atV y who = some n)) := rfl
  rw [hB]
  by_cases he : atV y who = some n
  · rw [if_pos he]
    simp [he]
  · rw [if_neg he, decide_eq_false he]
    have hH : highB lv me ⟨who, atV y who, some n⟩ = decide ((¬ who = me) ∧ (atV y who).isSome = true ∧ lv ≤ (atV y who).getD 0) := by
      unfold highB
      by_cases a : who = me <;> by_cases b : (atV y who).isSome = true <;> by_cases c : lv ≤ (atV y who).getD 0 <;> simp [a, b, c]
    have hG : givesB lv ⟨who, atV y who, some n⟩ = decide (lv < n) := rfl
    rw [hH, hG]
    simp
/-- Numbers of a level. -/
def NumsOK (x : V) : Prop := ∀ y ∈ x.f4, -5 ≤ y.f1 ∧ y.f1 ≤ 101
theorem numL_ok (i : Nat) : -5 ≤ (numV (numL i)).f1 ∧ (numV (numL i)).f1 ≤ 101 := by
  show -5 ≤ numL i ∧ numL i ≤ 101
  unfold numL
  repeat (first | exact ⟨by omega, by omega⟩ | split)
theorem NumsOK.put {x : V} (h : NumsOK x) (hw : WF x) (key : ByteArray) (i : Nat) : NumsOK (putV x key (numV (numL i))) := fun y hy => (put_mem4 hw hy).elim (fun e => e ▸ numL_ok i) (h y)
theorem goLv_nums (c : List UInt8) : ∀ k, NumsOK (goLv c k).v ∧ NumsOK (goLv c k).u ∧ NumsOK (goLv c k).e
  | 0 => ⟨fun _ h => (by cases h), fun _ h => (by cases h), fun _ h => (by cases h)⟩
  | k + 1 => by
    have h := goLv_nums c k
    have ht := goLv_tab c k
    unfold goLv stepLv
    split
    · exact ⟨h.1.put ht.v.wf _ _, h.2.1, h.2.2⟩
    · split
      · exact ⟨h.1, h.2.1, h.2.2.put ht.e.wf _ _⟩
      · exact ⟨h.1, h.2.1.put ht.u.wf _ _, h.2.2⟩
theorem NumsOK.at_ {x : V} (h : NumsOK x) {key : ByteArray} {n : Int} (e : atV x key = some n) : -5 ≤ n ∧ n ≤ 101 := by
  unfold atV at e
  cases hg : getV x key with
  | none => rw [hg] at e; cases e
  | some y =>
    rw [hg] at e
    have e : (if y.f0 = 2 then some y.f1 else none) = some n := e
    obtain ⟨i, hi, _, hy⟩ := getV_some hg
    split at e
    · injection e with e
      exact e ▸ hy ▸ h _ (List.getElem_mem hi)
    · cases e
theorem levels_nums (c : List UInt8) : (∀ k, k ≠ bUsers → k ≠ bEvents → ∀ n, atV (levelsV c) k = some n → -5 ≤ n ∧ n ≤ 101) ∧ (∀ y, getV (levelsV c) bUsers = some y → NumsOK y) := by
  have hn := goLv_nums c (roundsLv c.length)
  have h := goLv_tab c (roundsLv c.length)
  unfold levelsV
  obtain ⟨s, hs⟩ : ∃ s, goLv c (roundsLv c.length) = s := ⟨_, rfl⟩
  rw [hs] at h hn ⊢
  have n1 : getV s.v bUsers = none := h.v.no (fun ⟨i, e⟩ => (plain_ne i).1 e.symm)
  have w1 : WF (if 0 < c.length % 3 then putV s.v bUsers s.u else s.v) ∧ (∀ k, k ≠ bUsers → ∀ n, atV (if 0 < c.length % 3 then putV s.v bUsers s.u else s.v) k = some n → -5 ≤ n ∧ n ≤ 101) ∧
      (∀ y, getV (if 0 < c.length % 3 then putV s.v bUsers s.u else s.v) bUsers = some y → NumsOK y) := by
    split
    · refine ⟨put_wf h.v.wf _ _, fun k hk n e => ?_, fun y e => ?_⟩
      · rw [at_put_other h.v.wf hk] at e; exact hn.1.at_ e
      · rw [put_same h.v.wf] at e; injection e with e; exact e ▸ hn.2.1
    · exact ⟨h.v.wf, fun k _ n e => hn.1.at_ e, fun y e => by rw [n1] at e; cases e⟩
  show (∀ k, k ≠ bUsers → k ≠ bEvents → ∀ n, atV (if 0 < c.length % 5 then putV (if 0 < c.length % 3 then putV s.v bUsers s.u else s.v) bEvents s.e else (if 0 < c.length % 3 then putV s.v bUsers s.u else s.v)) k = some n → -5 ≤ n ∧ n ≤ 101) ∧
    (∀ y, getV (if 0 < c.length % 5 then putV (if 0 < c.length % 3 then putV s.v bUsers s.u else s.v) bEvents s.e else (if 0 < c.length % 3 then putV s.v bUsers s.u else s.v)) bUsers = some y → NumsOK y)
  obtain ⟨x, hx⟩ : ∃ x, (if 0 < c.length % 3 then putV s.v bUsers s.u else s.v) = x := ⟨_, rfl⟩
  rw [hx] at w1 ⊢
  split
  · refine ⟨fun k h1 h2 n e => ?_, fun y e => ?_⟩
    · rw [at_put_other w1.1 h2] at e; exact w1.2.1 k h1 n e
    · rw [put_other w1.1 (by decide)] at e; exact w1.2.2 y e
  · exact ⟨fun k h1 _ n e => w1.2.1 k h1 n e, w1.2.2⟩
theorem level_bound (c : List UInt8) (creator user : ByteArray) : -5 ≤ levelV (levelsV c) true creator user ∧ levelV (levelsV c) true creator user ≤ 101 := by
  have h := levels_nums c
  have hl := levels_lev c
  unfold levelV
  rw [if_pos rfl]
  cases h1 : atV (inV (levelsV c) bUsers) user with
  | some n =>
    show -5 ≤ n ∧ n ≤ 101
    cases hg : getV (levelsV c) bUsers with
    | none => rw [in_none hg, at_zObj] at h1; cases h1
    | some y =>
      rw [in_some hg (hl.users y hg).wf.obj] at h1
      exact (h.2 y hg).at_ h1
  | none =>
    show -5 ≤ (atV (levelsV c) bUsersDefault).getD 0 ∧ (atV (levelsV c) bUsersDefault).getD 0 ≤ 101
    cases h2 : atV (levelsV c) bUsersDefault with
    | none => exact ⟨by decide, by decide⟩
    | some n => exact h.1 _ (by decide) (by decide) n h2
end Go.Proofs.YtkdicgendcdooaaDoor

/-
  The law PowerSame, walked.
-/
namespace Go.Proofs.YtkdicgendcdooaaDoor
open Go.RowKit Go.Lib Go.Proofs.YtkdicgendcdooaaDoorW.PrintWords
set_option linter.unusedSimpArgs false
set_option linter.unusedVariables false
set_option maxRecDepth 100000 in
set_option maxHeartbeats 2000000 in
theorem same_go (a0 : Option Addr) (cap0 : Nat) (l : List UInt8) (k m : Nat) (lv : Int) (hk : k ≤ 255) (hm : m ≤ 255) (W : World) (hl : l.length ≤ 140737488351232) (y : Bytes8 W a0 l) (hT : Tabs W) :
    Calls Tryd.prog 8 #[.slice a0 l.length cap0, .int .u8 (k : Int), .int .i64 lv, .int .u8 (m : Int)] W (EndI W (.bool true)) := by
  have HL := Lib.hid (levels_any (cap := cap0) y hl)
  have HUS := Lib.hid (fun w => user_any k (by omega) w)
  have hLev := Lib.hid (levels_lev l)
  have hFit := Lib.hid (levels_fit l)
  have hSub := Lib.hid (levels_subs l)
  have hBd := level_bound l ⟨#[]⟩ (userB k)
  have hus : (userB k).size ≤ 100000 := by rw [userB_size]; omega
  have HT := Lib.hid hT
  obtain ⟨x, hx⟩ : ∃ x, levelsV l = x := ⟨_, rfl⟩
  rw [hx] at HL hLev hFit hSub hBd
  obtain ⟨n, hn⟩ : ∃ n, l.length = n := ⟨_, rfl⟩
  rw [hn] at HL ⊢
  obtain ⟨me, hme⟩ : ∃ u, userB k = u := ⟨_, rfl⟩
  rw [hme] at HUS hBd hus
  have HUS8 := Lib.hid hus
  obtain ⟨mine, hmi⟩ : ∃ i, levelV x true ⟨#[]⟩ me = i := ⟨_, rfl⟩
  rw [hmi] at hBd
  obtain ⟨hb1, hb2⟩ := hBd
  have HMI := Lib.hid hmi
  clear hT hx hn hme hmi hl y hus
  go_enter Tryd.func8, Tryd.ntmps8
  go_wp2_with fail
  refine HL.out.mono ?_
  clear HL
  rintro e w1 ⟨v, rfl, hv, hb⟩
  obtain ⟨E3, e3, E4, e4, rfl, _⟩ := hv.open_
  replace HT := Lib.hid (HT.out.below hb (Nat.le_refl _))
  have HBW := Lib.hid hb
  clear hb
  go_wp2_with fail
  have HB9 := Lib.hid (BoxOf.new hv)
  have hb := (Below.refl w1.heap.size w1).alloc (Nat.le_refl _) (.cells #[.int .i64 x.f0, .int .i64 x.f1, .string x.f2, .slice E3 x.f3.length e3, .slice E4 x.f4.length e4] 27)
  generalize hW : w1.alloc (.cells #[.int .i64 x.f0, .int .i64 x.f1, .string x.f2, .slice E3 x.f3.length e3, .slice E4 x.f4.length e4] 27) = W2 at HB9 hb ⊢
  clear hW hv
  replace HT := Lib.hid (HT.out.below hb (Nat.le_refl _))
  replace HBW := Lib.hid (HBW.out.trans (Below.mono hb HBW.out.size))
  clear hb
  refine (HUS.out _).mono ?_
  clear HUS
  rintro e w3 ⟨rfl, hb⟩
  replace HT := Lib.hid (HT.out.below hb (Nat.le_refl _))
  replace HBW := Lib.hid (HBW.out.trans (Below.mono hb HBW.out.size))
  replace HB9 := Lib.hid (HB9.out.below hb)
  clear hb
  obtain ⟨A9, a9, C9, c9, hc9, hv9⟩ := HB9.out.read
  have hlv := level_has hv9 hFit.out.1 ⟨#[]⟩ me
  rw [HMI.out] at hlv
  obtain ⟨d0, d1, d2, d3, d4⟩ := hc9
  clear hv9
  go_wp2_with fail
  refine hlv.mono ?_
  clear hlv d0 d1 d2 d3 d4
  rintro e w4 ⟨rfl, hb⟩
  replace HT := Lib.hid (HT.out.below hb (Nat.le_refl _))
  replace HBW := Lib.hid (HBW.out.trans (Below.mono hb HBW.out.size))
  replace HB9 := Lib.hid (HB9.out.below hb)
  clear hb
  obtain ⟨A9, a9, C9, c9, hc9, hv9⟩ := HB9.out.read
  have hget := rget_any hv9 bUsers
  obtain ⟨d0, d1, d2, d3, d4⟩ := hc9
  clear hv9
  go_wp2_with fail
  refine hget.mono ?_
  clear hget d0 d1 d2 d3 d4
  rintro e w5 ⟨v, rfl, hv, hb⟩
  have HFu := Lib.hid (getD_fitk hSub.out.1)
  cases hg : getV x bUsers with
  | none =>
    rw [hg] at hv
    simp only [Option.getD_none, Option.isSome_none] at hv ⊢
    obtain ⟨E3, e3, E4, e4, rfl, _⟩ := VF.open_ (x := zV) hv
    replace HT := Lib.hid (HT.out.below hb (Nat.le_refl _))
    replace HBW := Lib.hid (HBW.out.trans (Below.mono hb HBW.out.size))
    replace HB9 := Lib.hid (HB9.out.below hb)
    clear hb
    clear HFu
    go_wp2_with fail
    have HB12 := Lib.hid (BoxOf.new hv)
    have hb := (Below.refl w5.heap.size w5).alloc (Nat.le_refl _) (.cells #[.int .i64 zV.f0, .int .i64 zV.f1, .string zV.f2, .slice E3 zV.f3.length e3, .slice E4 zV.f4.length e4] 27)
    generalize hW : w5.alloc (.cells #[.int .i64 zV.f0, .int .i64 zV.f1, .string zV.f2, .slice E3 zV.f3.length e3, .slice E4 zV.f4.length e4] 27) = W6 at HB12 hb ⊢
    clear hW hv
    replace HT := Lib.hid (HT.out.below hb (Nat.le_refl _))
    replace HBW := Lib.hid (HBW.out.trans (Below.mono hb HBW.out.size))
    replace HB9 := Lib.hid (HB9.out.below hb)
    clear hb
    go_wp2_with fail
    refine (known_any _ HT.out).mono ?_
    rintro e w6 ⟨rfl, hb⟩
    replace HT := Lib.hid (HT.out.below hb (Nat.le_refl _))
    replace HBW := Lib.hid (HBW.out.trans (Below.mono hb HBW.out.size))
    replace HB9 := Lib.hid (HB9.out.below hb)
    replace HB12 := Lib.hid (HB12.out.below hb)
    clear hb
    obtain ⟨A9, a9, C9, c9, hc9, hv9⟩ := HB9.out.read
    have hch := change_any hv9.any hFit.out.1 hv9.any hFit.out.1 lv me HT.out
    rw [change_same] at hch
    obtain ⟨d0, d1, d2, d3, d4⟩ := hc9
    clear hv9
    go_wp2_with fail
    refine hch.mono ?_
    clear hch d0 d1 d2 d3 d4
    rintro e w7 ⟨rfl, hb⟩
    replace HT := Lib.hid (HT.out.below hb (Nat.le_refl _))
    replace HBW := Lib.hid (HBW.out.trans (Below.mono hb HBW.out.size))
    replace HB9 := Lib.hid (HB9.out.below hb)
    replace HB12 := Lib.hid (HB12.out.below hb)
    clear hb
    go_wp2_with fail
    go_ret
    exact ⟨rfl, HBW.out⟩
  | some u =>
    rw [hg] at hv HFu
    simp only [Option.getD_some, Option.isSome_some] at hv HFu ⊢
    have hu5 := int_eq_t (hLev.out.users u hg).wf.obj
    have HG := Lib.hid hg
    clear hg
    obtain ⟨E3, e3, E4, e4, rfl, _⟩ := hv.open_
    go_wp2_with fail
    replace HT := Lib.hid (HT.out.below hb (Nat.le_refl _))
    replace HBW := Lib.hid (HBW.out.trans (Below.mono hb HBW.out.size))
    replace HB9 := Lib.hid (HB9.out.below hb)
    clear hb
    have HB12 := Lib.hid (BoxOf.new hv)
    have hb := (Below.refl w5.heap.size w5).alloc (Nat.le_refl _) (.cells #[.int .i64 u.f0, .int .i64 u.f1, .string u.f2, .slice E3 u.f3.length e3, .slice E4 u.f4.length e4] 27)
    generalize hW : w5.alloc (.cells #[.int .i64 u.f0, .int .i64 u.f1, .string u.f2, .slice E3 u.f3.length e3, .slice E4 u.f4.length e4] 27) = W6 at HB12 hb ⊢
    clear hW hv
    replace HT := Lib.hid (HT.out.below hb (Nat.le_refl _))
    replace HBW := Lib.hid (HBW.out.trans (Below.mono hb HBW.out.size))
    replace HB9 := Lib.hid (HB9.out.below hb)
    clear hb
    obtain ⟨n1, hn1⟩ : ∃ i : Int, mine - (m : Int) = i := ⟨_, rfl⟩
    have HNF : Hid (Fit (numV n1)) := Lib.hid (numV_fit (by omega) (by omega))
    have HN1 : Hid (n1 ≤ mine) := Lib.hid (by omega)
    obtain ⟨y7, hz⟩ : ∃ z, putV u me (numV n1) = z := ⟨_, rfl⟩
    have Hy7 := Lib.hid hz
    clear hz
    obtain ⟨z14, hz⟩ : ∃ z, putV x bUsers y7 = z := ⟨_, rfl⟩
    have Hz14 := Lib.hid hz
    clear hz
    have HFz : Hid (Fit z14) := Lib.hid (by rw [← Hz14.out, ← Hy7.out]; exact (putV_fit hFit.out (by omega) (by decide) (putV_fit HFu.out (by omega) HUS8.out HNF.out).1).1)
    obtain ⟨A9, a9, C9, c9, hc9, hv9⟩ := HB9.out.readD
    obtain ⟨A12, a12, C12, c12, hc12, hv12⟩ := HB12.out.readD
    refine region_box (L := 11) (i8 := 10) (i27 := 9) (d8 := 14) (d27 := 52) (z := z14) (pks := [.val (.agg #[.int .i64 x.f0, .int .i64 x.f1, .string x.f2, .slice A9 x.f3.length a9, .slice C9 x.f4.length c9]), .val (.agg #[.int .i64 u.f0, .int .i64 u.f1, .string u.f2, .slice A12 u.f3.length a12, .slice C12 u.f4.length c12]), .val (.string me), .val (.int .i64 mine), .val (.int .u8 (m : Int)), .val (.int .i64 (m : Int)), .val (.int .i64 n1), .nv (numV n1), .nv y7, .nv z14, .box0]) (by kernel_rfl) (by kernel_rfl) rfl rfl (by decide) (by decide) rfl rfl rfl rfl rfl rfl ?_ ?_
    · intro i hi
      have : i = 0 ∨ i = 1 ∨ i = 2 ∨ i = 3 ∨ i = 4 ∨ i = 5 ∨ i = 6 ∨ i = 7 ∨ i = 8 ∨ i = 9 ∨ i = 10 := by omega
      rcases this with rfl | rfl | rfl | rfl | rfl | rfl | rfl | rfl | rfl | rfl | rfl
      · exact mk_load rfl rfl rfl rfl (by kernel_rfl) hc9 ⟨rfl, rfl, rfl, rfl, rfl⟩ rfl
      · exact mk_load rfl rfl rfl rfl (by kernel_rfl) hc12 ⟨rfl, rfl, rfl, rfl, rfl⟩ rfl
      · exact mk_move rfl rfl rfl rfl (by kernel_rfl) rfl
      · exact mk_move rfl rfl rfl rfl (by kernel_rfl) rfl
      · exact mk_move rfl rfl rfl rfl (by kernel_rfl) rfl
      · refine mk_run rfl rfl rfl (fun own a W hB hK hD => ?_)
        have g4 : a.tmps.getD 47 undef = _ := hD 4 47 (by kernel_rfl) rfl
        show Sem.run _ (do pure (Next.value (← convert 5 2 (a.tmps.getD 47 undef)))) W = _
        rw [g4]
        go_simp
        rw [IntKind.wrap_i64]; omega
      · refine mk_run rfl rfl rfl (fun own a W hB hK hD => ?_)
        have g3 : a.tmps.getD 46 undef = _ := hD 3 46 (by kernel_rfl) rfl
        have g5 : a.tmps.getD 48 undef = _ := hD 5 48 (by kernel_rfl) rfl
        show Sem.run _ (do pure (Next.value (← (do eqGuard .sub 2 (.tmp 46) (.tmp 48) (a.tmps.getD 46 undef) (a.tmps.getD 48 undef); binOp .sub 2 (a.tmps.getD 46 undef) (a.tmps.getD 48 undef))))) W = _
        rw [g3, g5]
        go_simp
        rw [IntKind.wrap_i64]; omega
      · refine mk_call rfl rfl rfl eg19 (fun own a W hB hO hK hD => ?_)
        have g6 : a.tmps.getD 49 undef = _ := hD 6 49 (by kernel_rfl) rfl
        show Calls _ _ #[a.tmps.getD 49 undef] W _
        rw [g6]
        refine (num_any n1 (fun k => k < W.heap.size ∧ k ∉ own) W).mono ?_
        rintro e W' ⟨v, rfl, hv, hb⟩
        exact ⟨v, rfl, NV.made hv hO hb, hb⟩
      · refine mk_call rfl rfl rfl eg18 (fun own a W hB hO hK hD => ?_)
        have g1 : a.tmps.getD 44 undef = _ := hD 1 44 (by kernel_rfl) rfl
        have g2 : a.tmps.getD 45 undef = _ := hD 2 45 (by kernel_rfl) rfl
        have g7 := hD 7 50 (by kernel_rfl) rfl
        show Calls _ _ #[a.tmps.getD 44 undef, a.tmps.getD 45 undef, a.tmps.getD 50 undef] W _
        rw [g1, g2]
        refine (put_any (ok := fun k => k < W.heap.size ∧ k ∉ own) (NV.old hv12 hB hO) HFu.out.1 g7 me HUS8.out).mono ?_
        rintro e W' ⟨v, rfl, hv, hb⟩
        rw [Hy7.out] at hv
        exact ⟨v, rfl, NV.made hv hO hb, hb⟩
      · refine mk_call rfl rfl rfl eg18 (fun own a W hB hO hK hD => ?_)
        have g0 : a.tmps.getD 43 undef = _ := hD 0 43 (by kernel_rfl) rfl
        have g8 := hD 8 51 (by kernel_rfl) rfl
        show Calls _ _ #[a.tmps.getD 43 undef, .string bUsers, a.tmps.getD 51 undef] W _
        rw [g0]
        refine (put_any (ok := fun k => k < W.heap.size ∧ k ∉ own) (NV.old hv9 hB hO) hFit.out.1 g8 bUsers (by decide)).mono ?_
        rintro e W' ⟨v, rfl, hv, hb⟩
        rw [Hz14.out] at hv
        exact ⟨v, rfl, NV.made hv hO hb, hb⟩
      · exact mk_box rfl rfl rfl rfl
    intro vs p14 W14 hvl e8 hb hp0 hlt hBn
    obtain ⟨u14_0, t0, rfl, hq0⟩ := len_cons hvl
    obtain ⟨u14_1, t1, rfl, hq1⟩ := len_cons hq0
    obtain ⟨u14_2, t2, rfl, hq2⟩ := len_cons hq1
    obtain ⟨u14_3, t3, rfl, hq3⟩ := len_cons hq2
    obtain ⟨u14_4, t4, rfl, hq4⟩ := len_cons hq3
    obtain ⟨u14_5, t5, rfl, hq5⟩ := len_cons hq4
    obtain ⟨u14_6, t6, rfl, hq6⟩ := len_cons hq5
    obtain ⟨u14_7, t7, rfl, hq7⟩ := len_cons hq6
    obtain ⟨u14_8, t8, rfl, hq8⟩ := len_cons hq7
    obtain ⟨u14_9, t9, rfl, hq9⟩ := len_cons hq8
    obtain ⟨u14_10, t10, rfl, hq10⟩ := len_cons hq9
    obtain ⟨u14_11, t11, rfl, hq11⟩ := len_cons hq10
    obtain rfl := List.length_eq_zero_iff.1 hq11
    have e8 : u14_10 = .pointer (some ⟨p14, 0, none⟩) := e8
    subst e8
    simp only [dstsOf, List.map_cons, List.map_nil, fillT, List.setIfInBounds_toArray, List.set_cons_zero, List.set_cons_succ]
    have HB14 := Lib.hid hBn.any
    clear hBn hlt hp0 hvl
    clear hc9 hv9
    clear hc12 hv12
    replace HT := Lib.hid (HT.out.below hb (Nat.le_refl _))
    replace HBW := Lib.hid (HBW.out.trans (Below.mono hb HBW.out.size))
    replace HB9 := Lib.hid (HB9.out.below hb)
    replace HB12 := Lib.hid (HB12.out.below hb)
    clear hb
    clear HB12
    go_wp2_with fail
    refine (known_any _ HT.out).mono ?_
    rintro e w_1 ⟨rfl, hb⟩
    replace HT := Lib.hid (HT.out.below hb (Nat.le_refl _))
    replace HBW := Lib.hid (HBW.out.trans (Below.mono hb HBW.out.size))
    replace HB9 := Lib.hid (HB9.out.below hb)
    replace HB14 := Lib.hid (HB14.out.below hb)
    clear hb
    obtain ⟨A9, a9, C9, c9, hc9, hv9⟩ := HB9.out.read
    have hch := change_any hv9.any hFit.out.1 hv9.any hFit.out.1 lv me HT.out
    rw [change_same] at hch
    obtain ⟨d0, d1, d2, d3, d4⟩ := hc9
    clear hv9
    go_wp2_with fail
    refine hch.mono ?_
    clear hch d0 d1 d2 d3 d4
    rintro e w_2 ⟨rfl, hb⟩
    replace HT := Lib.hid (HT.out.below hb (Nat.le_refl _))
    replace HBW := Lib.hid (HBW.out.trans (Below.mono hb HBW.out.size))
    replace HB9 := Lib.hid (HB9.out.below hb)
    replace HB14 := Lib.hid (HB14.out.below hb)
    clear hb
    obtain ⟨A9, a9, C9, c9, hc9, hv9⟩ := HB9.out.read
    obtain ⟨A14, a14, C14, c14, hc14, hv14⟩ := HB14.out.read
    have hch := change_any hv9.any hFit.out.1 hv14.any HFz.out mine me HT.out
    rw [show changeV x z14 mine me = 0 by rw [← Hz14.out, ← Hy7.out, change_user hLev.out HG.out]; have := HN1.out; split; rfl; rw [if_neg (fun h => h.1 rfl), if_neg (by omega)]] at hch
    obtain ⟨d0, d1, d2, d3, d4⟩ := hc9
    obtain ⟨f0, f1, f2, f3, f4⟩ := hc14
    clear hv9 hv14
    go_wp2_with fail
    refine hch.mono ?_
    clear hch d0 d1 d2 d3 d4 f0 f1 f2 f3 f4
    rintro e w_3 ⟨rfl, hb⟩
    replace HT := Lib.hid (HT.out.below hb (Nat.le_refl _))
    replace HBW := Lib.hid (HBW.out.trans (Below.mono hb HBW.out.size))
    replace HB9 := Lib.hid (HB9.out.below hb)
    replace HB14 := Lib.hid (HB14.out.below hb)
    clear hb
    go_wp2_with fail
    go_ret
    exact ⟨rfl, HBW.out⟩
set_option maxRecDepth 100000 in
theorem powerSame_walk (a0 : Option Addr) (len0 cap0 : Nat) (z0 : List Int) (a1 a2 a3 : Int) (W : World)
    (x0 : z0.length = len0) (y0 : RowAt W a0 (z0.map (.int .u8))) (u0 : ∀ z ∈ z0, (Lit.int .u8 z).wf = true) (b0 : len0 * 1 ≤ 140737488351232) (c0 : len0 ≤ cap0) (m0 : cap0 ≤ maxLen) (u1 : (Lit.int .u8 a1).wf = true) (u2 : (Lit.int .i64 a2).wf = true) (u3 : (Lit.int .u8 a3).wf = true) (hT : Tabs W) :
    Calls Tryd.prog 8 #[.slice a0 len0 cap0, .int .u8 a1, .int .i64 a2, .int .u8 a3] W fun e w' => e = .returned (.bool true) ∧ Below W.heap.size W w' := by
  obtain ⟨l, hl, hy⟩ := bytes8_row y0 u0
  obtain ⟨k, rfl, hk⟩ := u8_int u1
  obtain ⟨m, rfl, hm⟩ := u8_int u3
  have h := same_go a0 cap0 l k m a2 hk hm W (by omega) hy hT
  rw [hl, x0] at h
  exact h
end Go.Proofs.YtkdicgendcdooaaDoor

/-
  The row of the law PowerSame: whatever the input, it answers true and leaves its arguments as they were; out of its walk.
-/
namespace Go.Proofs.YtkdicgendcdooaaDoor.powerSame
open Go.ChangeShapes Go.WideShapes Go.ChangeAt Go.RowKit
open Go.ChangeMaps (open_string shut_string)
theorem own : ownKnob Tryd.prog.godebug = none := by kernel_rfl
theorem laidOut : laidOutB Tryd.prog = true := by kernel_rfl
set_option maxRecDepth 100000 in
theorem lifted (os : Os) (started : os.Started) (H : Type) (enc : TypeId × Value → H) :
    ReturnsInHanded {} Tryd.checked os 8 .any (fun w args => (Rows.powerSameSpec.pre enc Tryd.prog Tryd.f8 Rows.powerSameRow.domain false w args ∧ laidMetH Tryd.prog Rows.powerSameRow.laid w) ∧ sizedMet enc Tryd.prog Tryd.f8 (OpenSpec.ofChange Rows.powerSameSpec) false w args)
      (Rows.powerSameSpec.post enc Tryd.prog Tryd.f8 false true false false) := by
  refine returnsInHanded_of_change_and (C := Tryd.checked) (X := fun w _ => laidMetH Tryd.prog Rows.powerSameRow.laid w) (fun _ _ _ hh h => h.of_heap hh) own started (by kernel_rfl) Tryd.func8
    (ChangeSpec.witness_shaped (enc := enc) (C := Tryd.checked) (os := os) (X := fun w _ => laidMetH Tryd.prog Rows.powerSameRow.laid w) false (World.laidAll Tryd.prog os Rows.powerSameRow.laid) #[.slice none 0 0, .int .u8 0, .int .i64 0, .int .u8 0] 8 (World.laidAll_os _ _ _)
      (World.shaped_of_ZipB (by kernel_rfl) (by kernel_rfl)) (by kernel_rfl) (by kernel_rfl) (by kernel_rfl)
      (by rw [MakeChecks.laidMetH_plain _ _ _ (by kernel_rfl)]; exact laidMet_laidAll _ (by kernel_rfl) (by kernel_rfl))) ?_
  intro W base args ds gs before hval0 hW _ hsz0 hL _
  have hsz : (DataW.weightsEach Tryd.prog (Tryd.f8.params.toList ++ Rows.powerSameSpec.plain.varTypes Tryd.prog) (ds ++ gs)).all (· ≤ reachBytes) = true := hsz0
  have hval : ∀ (j : Nat) t v, Tryd.f8.params[j]? = some t → args[j]? = some v → Value.okWide Tryd.prog W .any base t v := hval0
  have hW' := hW
  obtain ⟨p, q, hA0, hV, rfl, hfz, hnd⟩ := hW
  have hA : DataW.TrodAll enc Tryd.prog W 0 (fun _ => true) true Tryd.f8.params.toList args.toList ds p := hA0
  rw [Tryd.params8] at hA hval hsz
  obtain ⟨v0, vs0, d0, ds0, p0, q0, hargs, rfl, rfl, h0, r0⟩ := trodAll_cons hA
  obtain ⟨v1, vs1, d1, ds1, p1, q1, rfl, rfl, rfl, h1, r1⟩ := trodAll_cons r0
  obtain ⟨v2, vs2, d2, ds2, p2, q2, rfl, rfl, rfl, h2, r2⟩ := trodAll_cons r1
  obtain ⟨v3, vs3, d3, ds3, p3, q3, rfl, rfl, rfl, h3, r3⟩ := trodAll_cons r2
  obtain ⟨rfl, rfl, rfl⟩ := trodAll_nil r3
  obtain rfl : args = #[v0, v1, v2, v3] := by cases args; simp_all
  obtain ⟨rfl, rfl⟩ := trodVars_none hV
  obtain ⟨a0, len0, cap0, rfl⟩ := okWide_slice Tryd.underlying22 (hval 0 22 v0 rfl rfl)
  have k0 := h0
  have lt0 : ∀ x ∈ p0, x.block < W.heap.size := by obtain ⟨m, hm⟩ := k0; exact DataW.trod_lt m _ _ _ hm
  obtain ⟨z0, x0, y0, u0, b0, c0, m0⟩ := open_nums hsz (j := 0) (t := 22) rfl rfl Tryd.underlying22 Tryd.underlying5 (by kernel_rfl) (B := 1) (by kernel_rfl) h0
  obtain ⟨a1, rfl, rfl, rfl, w1⟩ := open_int Tryd.underlying5 (hval 1 5 v1 rfl rfl) h1
  obtain ⟨a2, rfl, rfl, rfl, w2⟩ := open_int Tryd.underlying2 (hval 2 2 v2 rfl rfl) h2
  obtain ⟨a3, rfl, rfl, rfl, w3⟩ := open_int Tryd.underlying5 (hval 3 5 v3 rfl rfl) h3
  have hLF := tabs_laid hL
  refine (powerSame_walk a0 len0 cap0 z0 a1 a2 a3 W x0 y0 u0 b0 c0 m0 w1 w2 w3 hLF).mono fun e W' ⟨he, bel⟩ => ?_
  subst he
  exact ⟨_, rfl, _, _, _, [], _, [], hW', trodAll_mk1 (shut_bool Tryd.underlying4 _), (trodAll_cons_mk (Below.trod laidOut (by kernel_rfl) (of_decide_eq_true (by kernel_rfl)) k0 bel lt0) (trodAll_cons_mk (shut_int Tryd.underlying5 w1) (trodAll_cons_mk (shut_int Tryd.underlying2 w2) (trodAll_cons_mk (shut_int Tryd.underlying5 w3) trodAll_mk0)))), rfl, bel.frame _, fun h => by cases h⟩
theorem over : Rows.powerSameRow.holds Tryd.pinned (OpenSpec.ofChange Rows.powerSameSpec) :=
  OpenClaim.holds_of_wide 8 Tryd.f8 rfl rfl rfl rfl rfl rfl rfl ⟨rfl, rfl, rfl, rfl, rfl⟩ rfl rfl rfl rfl rfl (by kernel_rfl) Tryd.func8 (by kernel_rfl)
    (of_decide_eq_true (by kernel_rfl)) (by unfold Func.isWrapper; first | (rw [if_pos (by decide +kernel)]; kernel_rfl) | (rw [if_neg (by decide +kernel)]; exact ⟨rfl, rfl⟩))
    (fun os started H enc _ => lifted os started H enc)
theorem card : Rows.PowerSameCardSaid :=
  Claim7.holds_tied_plain_at .later [] [.listed, .data] true (true, "4f1c08a675811627051cff13577676a97a6e49129b751d86a50caffb64183432") false over (fun _ h => by cases h) (by kernel_rfl) (fun _ h => by cases h) powerSame_row_tie rfl ⟨rfl, rfl⟩ (by kernel_rfl) rfl
    (fun f fn hf hfn => by
      obtain rfl : f = 8 := Option.some.inj ((show Tryd.prog.funcNamed "heliast/heliastlaw14.PowerSame" = some 8 by kernel_rfl).symm.trans hf) |>.symm
      obtain rfl : fn = Tryd.f8 := (Option.some.inj (Tryd.func8.symm.trans hfn)).symm
      exact ⟨by kernel_rfl, fun j t ht => by
        rw [Tryd.params8] at ht
        have hm : t ∈ [22, 5, 2, 5] := by simpa using Array.mem_of_getElem? ht
        have hall : ([22, 5, 2, 5].all fun u => !Tryd.prog.wantsStandIn u) = true := by kernel_rfl
        exact (show Tryd.prog.wantsStandIn t = false by simpa using List.all_eq_true.1 hall t hm)⟩)
    (by kernel_rfl)
end Go.Proofs.YtkdicgendcdooaaDoor.powerSame
namespace Go.Proofs.YtkdicgendcdooaaDoor
/-- The row, under a short name. -/
theorem powerSame_holds : Rows.PowerSameCardSaid := powerSame.card
#print axioms powerSame_holds
end Go.Proofs.YtkdicgendcdooaaDoor

