/-
  Texts of this session, merged in build order: RCut, PNamL, PChL, PMore, POwn, PRaise0, Reg4, PRaise1, PRaise, RPowerRaise.
-/
import Derived.Test.YtkdicgendcdooaaDoorZC0
import Derived.Test.YtkdicgendcdooaaDoorZC1
import Derived.Test.YtkdicgendcdooaaDoorZD0
import Derived.Test.YtkdicgendcdooaaDoorRows
import Derived.Test.YtkdicgendcdooaaDoorCards
import Derived.Test.YtkdicgendcdooaaDoorTie
import Derived.LaidMore
import Derived.Lay
import Derived.SevenTiedAt
import Derived.Stop.Joined
set_option linter.unusedVariables false
set_option linter.unusedSimpArgs false
/-
  Without: the document's answer.
-/
namespace Go.Proofs.YtkdicgendcdooaaDoor
open Go.RowKit Go.Lib Go.Proofs.YtkdicgendcdooaaDoorW.PrintWords
set_option linter.unusedSimpArgs false
set_option linter.unusedVariables false
set_option maxRecDepth 100000 in
theorem cut_any {w : World} {ok : Nat → Prop} {x : V} {v : Value} (h : VF w ok x v) (hf : Fit x) (key : ByteArray) :
    Calls Tryd.prog 20 #[v, .string key] w (EndV w ok (cutV x key)) := by
  have HX := Lib.hid h.bound
  obtain ⟨A3, c3, A4, c4, rfl, l3, f3, l4, f4⟩ := h.open_
  have HP := Lib.hid (fun w' (hb : Below w.heap.size w w') => rplace_any (HX.out.below hb) key)
  cases hg : getV x key with
  | none =>
    have HPL := Lib.hid (getV_none hg)
    have HT := Lib.hid (show cutV x key = x by unfold cutV; rw [HPL.out, if_pos (by decide)])
    clear h f3 f4 l3 l4 hg hf
    go_enter Tryd.func20, Tryd.ntmps20
    go_wp2_with fail
    refine calls_box2 ?_
    intro W1 hx1 hr1 hs1 hb1
    refine (HP.out _ hb1).mono ?_
    rintro e w1 ⟨rfl, hb⟩
    rw [HPL.out]
    obtain ⟨d0, d1, d2, d3, d4⟩ := cells5v ((hb.block _ (by omega)).trans hx1)
    have hr2 := (hb.block _ (by omega)).trans hr1
    obtain ⟨r0, r1, r2, r3, r4⟩ := cells5v hr2
    have rs := softv hr2
    have HB1 := Lib.hid (hb1.trans (hb.mono (by omega)))
    clear hx1 hr1 hs1 hb1 hb hr2
    go_wp2_with fail
    have hO := off5 w1 (w.heap.size + 1) (.int .i64 x.f0) (.int .i64 x.f1) (.string x.f2) (.slice A3 x.f3.length c3) (.slice A4 x.f4.length c4)
    refine bodyPost_ret (v := .agg #[.int .i64 x.f0, .int .i64 x.f1, .string x.f2, .slice A3 x.f3.length c3, .slice A4 x.f4.length c4]) (by simp [results, Tryd.results20, go_sem, r0, r1, r2, r3, r4]) rfl ⟨_, rfl, ?_, Off.below HB1.out hO (by simp)⟩
    rw [HT.out]
    refine (hO.vf (HX.out.below HB1.out) (fun k hk _ hm => ?_)).mono (fun k hk => .inl hk.1)
    simp at hm
    have := hk.2
    omega
  | some y =>
    obtain ⟨i, hi4, hpl, _⟩ := getV_some hg
    have HPL := Lib.hid hpl
    have HI := Lib.hid (show i + 1 ≤ min x.f3.length x.f4.length by
      unfold placeV at hpl
      split at hpl
      · rename_i hc
        obtain ⟨_, h1, h2⟩ := hc
        omega
      · omega)
    have HT := Lib.hid (show cutV x key = withV x i 1 [] [] by unfold cutV; rw [HPL.out, if_neg (by omega)]; rfl)
    have HF := Lib.hid hf
    clear h f3 f4 l3 l4 hg hf hpl
    go_enter Tryd.func20, Tryd.ntmps20
    go_wp2_with fail
    refine calls_box2 ?_
    intro W1 hx1 hr1 hs1 hb1
    refine (HP.out _ hb1).mono ?_
    rintro e w1 ⟨rfl, hb⟩
    rw [HPL.out]
    obtain ⟨d0, d1, d2, d3, d4⟩ := cells5v ((hb.block _ (by omega)).trans hx1)
    have HR2 := Lib.hid ((hb.block _ (by omega)).trans hr1)
    have HB1 := Lib.hid (hb1.trans (hb.mono (by omega)))
    have HZ := Lib.hid (show w.heap.size + 2 ≤ w1.heap.size by have := hb.size; omega)
    clear hx1 hr1 hs1 hb1 hb
    go_wp2_with fail
    have hc := with_any (HX.out.below HB1.out) HF.out i 1 (ks := []) (ys := []) (ck := 0) (cv := 0) (Kd.F_nil _ _ _) (Nat.le_refl _) (Kd.F_nil _ _ _) (Nat.le_refl _) HI.out (by simp) (by simp)
    refine hc.mono ?_
    clear hc
    rintro e w3 ⟨v3, rfl, hv3, hb3⟩
    obtain ⟨z, hz⟩ : ∃ z, withV x i 1 [] [] = z := ⟨_, rfl⟩
    rw [hz] at hv3 HT
    obtain ⟨D3, q3, D4, q4, rfl, _⟩ := hv3.open_
    have hz1 := HZ.out
    have hr3 := (hb3.block _ (by omega)).trans HR2.out
    obtain ⟨r0, r1, r2, r3, r4⟩ := cells5v hr3
    have rs := softv hr3
    have HV3 := Lib.hid hv3
    have HB3 := Lib.hid (HB1.out.trans (hb3.mono HB1.out.size))
    clear hv3 hb3 hr3 hz hz1 d0 d1 d2 d3 d4
    go_wp2_with fail
    have hz1 := HZ.out
    have hO := off5 w3 (w.heap.size + 1) (.int .i64 z.f0) (.int .i64 z.f1) (.string z.f2) (.slice D3 z.f3.length q3) (.slice D4 z.f4.length q4)
    refine bodyPost_ret (v := .agg #[.int .i64 z.f0, .int .i64 z.f1, .string z.f2, .slice D3 z.f3.length q3, .slice D4 z.f4.length q4]) (by simp [results, Tryd.results20, go_sem, r0, r1, r2, r3, r4]) rfl ⟨_, rfl, ?_, Off.below HB3.out hO (by simp)⟩
    rw [HT.out]
    refine (hO.vf HV3.out (fun k hk _ hm => ?_)).mono (fun k hk => ?_)
    · simp at hm
      rcases hk with h | h
      · have := h.2
        omega
      · omega
    · rcases hk with h | h
      · exact .inl h.1
      · exact .inr (by omega)
end Go.Proofs.YtkdicgendcdooaaDoor

/-
  What is told by name behind a put, and behind a cut: plain laws.
-/
namespace Go.Proofs.YtkdicgendcdooaaDoor
open Go.RowKit Go.Lib
set_option linter.unusedSimpArgs false
set_option linter.unusedVariables false
theorem put_obj (x : V) (key : ByteArray) (y : V) : (putV x key y).f0 = 5 := by
  unfold putV
  split
  · split <;> rfl
  · rfl
theorem put_fresh {x : V} (h : x.f0 ≠ 5) (key : ByteArray) (y : V) : putV x key y = ⟨5, 0, ⟨#[]⟩, [key], [y]⟩ := by unfold putV; rw [if_neg h]
theorem put_same' {x : V} (h : x.f0 = 5 → WF x) (key : ByteArray) (y : V) : getV (putV x key y) key = some y := by
  by_cases hx : x.f0 = 5
  · exact put_same (h hx) key y
  · rw [put_fresh hx]
    simp [getV, posK]
theorem put_other' {x : V} (h : x.f0 = 5 → WF x) {key k : ByteArray} (hk : k ≠ key) (y : V) : getV (putV x key y) k = getV x k := by
  by_cases hx : x.f0 = 5
  · exact put_other (h hx) hk y
  · rw [put_fresh hx]
    have h1 : getV x k = none := by unfold getV; exact if_neg (fun hc => hx hc.1)
    rw [h1]
    simp [getV, posK]
    exact fun e => hk e.symm
theorem getD_wf {P : ByteArray → Prop} {r : Option V} (h : ∀ y, r = some y → Tab P y) : (r.getD zV).f0 = 5 → WF (r.getD zV) := by
  cases r with
  | none => intro e; exact absurd (show (0 : Int) = 5 from e) (by decide)
  | some y => exact fun _ => (h y rfl).wf
/-! Keys that stand once. -/
theorem put_nodup {x : V} (h : WF x) (hn : x.f3.Nodup) (key : ByteArray) (y : V) : (putV x key y).f3.Nodup := by
  have hl := h.len
  unfold putV
  rw [if_pos h.obj]
  unfold placeV
  by_cases hp : posK x.f3 key < x.f3.length
  · rw [if_pos (⟨h.obj, hp, by omega⟩ : x.f0 = 5 ∧ posK x.f3 key < x.f3.length ∧ posK x.f3 key < x.f4.length), if_pos (by omega), Int.toNat_natCast, withV_f h]
    have e3 : x.f3 = x.f3.take (posK x.f3 key) ++ [key] ++ x.f3.drop (posK x.f3 key + 1) := by
      conv => lhs; rw [← List.take_append_drop (posK x.f3 key) x.f3, List.drop_eq_getElem_cons hp, posK_get]
      simp
    show (x.f3.take (posK x.f3 key) ++ [key] ++ x.f3.drop (posK x.f3 key + 1)).Nodup
    rw [← e3]
    exact hn
  · have hm : key ∉ x.f3 := fun hm => hp (posK_mem _ _ hm)
    rw [show (if x.f0 = 5 ∧ posK x.f3 key < x.f3.length ∧ posK x.f3 key < x.f4.length then ((posK x.f3 key : Nat) : Int) else -1) = -1 from if_neg (fun hc => hp hc.2.1), if_neg (by decide), withV_f h]
    obtain ⟨i, hi⟩ : ∃ i, insP (x.f3.take (min x.f3.length x.f4.length)) key = i := ⟨_, rfl⟩
    rw [hi]
    show (x.f3.take i ++ [key] ++ x.f3.drop (i + 0)).Nodup
    rw [Nat.add_zero, List.append_assoc]
    have hp2 : (x.f3.take i ++ ([key] ++ x.f3.drop i)).Perm (key :: x.f3) := by
      have := (List.perm_middle (a := key) (l₁ := x.f3.take i) (l₂ := x.f3.drop i))
      rw [List.take_append_drop] at this
      exact this
    exact hp2.nodup_iff.2 (List.nodup_cons.2 ⟨hm, hn⟩)
theorem levels_once (c : List UInt8) : (levelsV c).f3.Nodup := by
  have h : ∀ k, ((goLv c k).v.f3.Nodup ∧ True) := by
    intro k
    induction k with
    | zero => exact ⟨List.nodup_nil, trivial⟩
    | succ k ih =>
      have ht := goLv_tab c k
      unfold goLv stepLv
      split
      · exact ⟨put_nodup ht.v.wf ih.1 _ _, trivial⟩
      · split
        · exact ih
        · exact ih
  have h0 := (h (roundsLv c.length)).1
  have ht := goLv_tab c (roundsLv c.length)
  unfold levelsV
  obtain ⟨s, hs⟩ : ∃ s, goLv c (roundsLv c.length) = s := ⟨_, rfl⟩
  rw [hs] at h0 ht ⊢
  have w1 : WF (if 0 < c.length % 3 then putV s.v bUsers s.u else s.v) ∧ (if 0 < c.length % 3 then putV s.v bUsers s.u else s.v).f3.Nodup := by
    split
    · exact ⟨put_wf ht.v.wf _ _, put_nodup ht.v.wf h0 _ _⟩
    · exact ⟨ht.v.wf, h0⟩
  show (if 0 < c.length % 5 then putV (if 0 < c.length % 3 then putV s.v bUsers s.u else s.v) bEvents s.e else (if 0 < c.length % 3 then putV s.v bUsers s.u else s.v)).f3.Nodup
  obtain ⟨x, hx⟩ : ∃ x, (if 0 < c.length % 3 then putV s.v bUsers s.u else s.v) = x := ⟨_, rfl⟩
  rw [hx] at w1 ⊢
  split
  · exact put_nodup w1.1 w1.2 _ _
  · exact w1.2
theorem cut_form {x : V} (h : WF x) (key : ByteArray) (hm : posK x.f3 key < x.f3.length) : cutV x key = ⟨5, x.f1, x.f2, x.f3.take (posK x.f3 key) ++ x.f3.drop (posK x.f3 key + 1), x.f4.take (posK x.f3 key) ++ x.f4.drop (posK x.f3 key + 1)⟩ := by
  have hl := h.len
  unfold cutV placeV
  rw [if_pos (⟨h.obj, hm, by omega⟩ : x.f0 = 5 ∧ posK x.f3 key < x.f3.length ∧ posK x.f3 key < x.f4.length), if_neg (by omega), Int.toNat_natCast, withV_f h]
  simp
theorem cut_none {x : V} (h : WF x) (key : ByteArray) (hm : ¬ posK x.f3 key < x.f3.length) : cutV x key = x := by
  have hp : placeV x key = -1 := by unfold placeV; exact if_neg (fun hc => hm hc.2.1)
  unfold cutV
  rw [hp, if_pos (by decide)]
theorem cut_wf {x : V} (h : WF x) (key : ByteArray) : WF (cutV x key) := by
  have hl := h.len
  by_cases hm : posK x.f3 key < x.f3.length
  · rw [cut_form h key hm]
    exact ⟨rfl, by simp; omega⟩
  · rw [cut_none h key hm]; exact h
theorem cut_same {x : V} (h : WF x) (hn : x.f3.Nodup) (key : ByteArray) : getV (cutV x key) key = none := by
  have hl := h.len
  have hw := cut_wf h key
  rw [getV_lk hw]
  by_cases hm : posK x.f3 key < x.f3.length
  · rw [cut_form h key hm]
    refine lk_not _ _ _ ?_
    show key ∉ x.f3.take (posK x.f3 key) ++ x.f3.drop (posK x.f3 key + 1)
    have e3 : x.f3 = x.f3.take (posK x.f3 key) ++ (key :: x.f3.drop (posK x.f3 key + 1)) := by
      conv => lhs; rw [← List.take_append_drop (posK x.f3 key) x.f3, List.drop_eq_getElem_cons hm, posK_get]
    rw [e3] at hn
    have h2 := (List.nodup_append.1 hn)
    intro hmem
    rcases List.mem_append.1 hmem with h3 | h3
    · exact posK_take _ _ h3
    · exact (List.nodup_cons.1 h2.2.1).1 h3
  · rw [cut_none h key hm]
    exact lk_not _ _ _ (fun hmem => hm (posK_mem _ _ hmem))
theorem cut_other {x : V} (h : WF x) {key k : ByteArray} (hk : k ≠ key) : getV (cutV x key) k = getV x k := by
  have hl := h.len
  have hw := cut_wf h key
  rw [getV_lk hw, getV_lk h]
  by_cases hm : posK x.f3 key < x.f3.length
  · rw [cut_form h key hm]
    have e3 : x.f3 = x.f3.take (posK x.f3 key) ++ (key :: x.f3.drop (posK x.f3 key + 1)) := by
      conv => lhs; rw [← List.take_append_drop (posK x.f3 key) x.f3, List.drop_eq_getElem_cons hm, posK_get]
    have hp4 : posK x.f3 key < x.f4.length := by omega
    have e4 : x.f4 = x.f4.take (posK x.f3 key) ++ (x.f4[posK x.f3 key] :: x.f4.drop (posK x.f3 key + 1)) := by
      conv => lhs; rw [← List.take_append_drop (posK x.f3 key) x.f4, List.drop_eq_getElem_cons hp4]
    have e : lk x.f3 x.f4 k = lk (x.f3.take (posK x.f3 key) ++ (key :: x.f3.drop (posK x.f3 key + 1))) (x.f4.take (posK x.f3 key) ++ (x.f4[posK x.f3 key] :: x.f4.drop (posK x.f3 key + 1))) k := by
      rw [← e3, ← e4]
    have a1 := lk_app (x.f3.take (posK x.f3 key)) (x.f4.take (posK x.f3 key)) (x.f3.drop (posK x.f3 key + 1)) (x.f4.drop (posK x.f3 key + 1)) k (by rw [List.length_take, List.length_take]; omega)
    have a2 := lk_app (x.f3.take (posK x.f3 key)) (x.f4.take (posK x.f3 key)) (key :: x.f3.drop (posK x.f3 key + 1)) (x.f4[posK x.f3 key] :: x.f4.drop (posK x.f3 key + 1)) k (by rw [List.length_take, List.length_take]; omega)
    rw [lk_cons, if_neg (fun e => hk e.symm)] at a2
    exact a1.trans (a2.symm.trans e.symm)
  · rw [cut_none h key hm]
/-! What levels tell behind such changes. -/
theorem at_num {x : V} {key : ByteArray} {n : Int} (h : getV x key = some (numV n)) : atV x key = some n := by
  unfold atV
  rw [h]
  rfl
theorem at_none {x : V} {key : ByteArray} (h : getV x key = none) : atV x key = none := by
  unfold atV
  rw [h]
theorem in_some {x y : V} {key : ByteArray} (h : getV x key = some y) (hy : y.f0 = 5) : inV x key = y := by
  unfold inV
  rw [h]
  exact if_pos hy
theorem in_none {x : V} {key : ByteArray} (h : getV x key = none) : inV x key = zObj := by
  unfold inV
  rw [h]
theorem at_zObj (key : ByteArray) : atV zObj key = none := by simp [atV, getV, zObj, posK]
theorem named_level {x : V} (h : Lev x) (user creator : ByteArray) (n : Int) : levelV (putV x bUsers (putV ((getV x bUsers).getD zV) user (numV n))) true creator user = n := by
  unfold levelV
  rw [if_pos rfl, in_some (put_same h.wf _ _) (put_obj _ _ _), at_num (put_same' (getD_wf h.users) user (numV n))]
  rfl
theorem named_gone {x : V} (h : Lev x) (hn : x.f3.Nodup) (user creator : ByteArray) (n : Int) : levelV (cutV (putV x bUsersDefault (numV n)) bUsers) true creator user = n := by
  have hw := put_wf h.wf bUsersDefault (numV n)
  have hd := put_nodup h.wf hn bUsersDefault (numV n)
  unfold levelV
  rw [if_pos rfl, in_none (cut_same hw hd bUsers), at_zObj, at_num ((cut_other hw (by decide)).trans (put_same h.wf _ _))]
  rfl
theorem named_need {x : V} (h : Lev x) (kind : ByteArray) (is : Bool) (n : Int) : needV (putV x bEvents (putV ((getV x bEvents).getD zV) kind (numV n))) true kind is = n := by
  unfold needV
  rw [if_neg (by decide), in_some (put_same h.wf _ _) (put_obj _ _ _), at_num (put_same' (getD_wf h.events) kind (numV n))]
  rfl
theorem named_none {x : V} (h : Lev x) (hn : x.f3.Nodup) (kind : ByteArray) (is : Bool) (n : Int) : needV (cutV (putV (putV x bStateDefault (numV n)) bEventsDefault (numV n)) bEvents) true kind is = n := by
  have hw1 := put_wf h.wf bStateDefault (numV n)
  have hd1 := put_nodup h.wf hn bStateDefault (numV n)
  have hw := put_wf hw1 bEventsDefault (numV n)
  have hd := put_nodup hw1 hd1 bEventsDefault (numV n)
  unfold needV
  rw [if_neg (by decide), in_none (cut_same hw hd bEvents), at_zObj, at_num ((cut_other hw (by decide)).trans (put_same hw1 _ _)), at_num ((cut_other hw (by decide)).trans ((put_other hw1 (by decide) _).trans (put_same h.wf _ _)))]
  cases is <;> rfl
end Go.Proofs.YtkdicgendcdooaaDoor

/-
  What Change answers where one user's level alone is another one: plain laws.
-/
namespace Go.Proofs.YtkdicgendcdooaaDoor
open Go.RowKit Go.Lib
set_option linter.unusedSimpArgs false
set_option linter.unusedVariables false
theorem not_turned {x y : V} {k : ByteArray} (h : atV x k = atV y k) : turnedB (turnOf x y k) = false := by
  unfold turnedB turnOf
  simp [h]
theorem turns_none {x y : V} {keys : List ByteArray} (h : ∀ k ∈ keys, atV x k = atV y k) : turnsL x y keys = [] := by
  unfold turnsL
  rw [List.filter_eq_nil_iff]
  intro t ht
  obtain ⟨k, hk, rfl⟩ := List.mem_map.1 ht
  rw [not_turned (h k hk)]
  decide
theorem turns_one {x y : V} {keys : List ByteArray} {who : ByteArray} (hw : who ∈ keys) (h : ∀ k ∈ keys, k ≠ who → atV x k = atV y k) (f : TT → Bool) :
    (turnsL x y keys).any f = (turnedB (turnOf x y who) && f (turnOf x y who)) := by
  rw [Bool.eq_iff_iff, List.any_eq_true, Bool.and_eq_true]
  constructor
  · rintro ⟨t, ht, hf⟩
    unfold turnsL at ht
    obtain ⟨hm, hb⟩ := List.mem_filter.1 ht
    obtain ⟨k, hk, rfl⟩ := List.mem_map.1 hm
    by_cases hkw : k = who
    · subst hkw; exact ⟨hb, hf⟩
    · rw [not_turned (h k hk hkw)] at hb; cases hb
  · rintro ⟨hb, hf⟩
    exact ⟨_, List.mem_filter.2 ⟨List.mem_map.2 ⟨who, hw, rfl⟩, hb⟩, hf⟩
theorem change_same (x : V) (lv : Int) (me : ByteArray) : changeV x x lv me = 0 := by
  unfold changeV turnsIn
  rw [turns_none (fun _ _ => rfl), turns_none (fun _ _ => rfl), turns_none (fun _ _ => rfl)]
  rfl
theorem at_put_same {x : V} (h : WF x) (key : ByteArray) (n : Int) : atV (putV x key (numV n)) key = some n := at_num (put_same h key (numV n))
theorem at_put_other {x : V} (h : WF x) {key k : ByteArray} (hk : k ≠ key) (y : V) : atV (putV x key y) k = atV x k := by
  unfold atV
  rw [put_other h hk]
theorem in_put_other {x : V} (h : WF x) {key k : ByteArray} (hk : k ≠ key) (y : V) : inV (putV x key y) k = inV x k := by
  unfold inV
  rw [put_other h hk]
theorem put_key {x : V} (h : WF x) (key : ByteArray) (y : V) : key ∈ (putV x key y).f3 := by
  obtain ⟨i, o, hi, e, _⟩ := put_form h key y
  rw [e]
  show key ∈ x.f3.take i ++ [key] ++ x.f3.drop (i + o)
  simp
/-- One user's level alone is another one. -/
theorem change_user {x y : V} (h : Lev x) (hy : getV x bUsers = some y) (who me : ByteArray) (n lv : Int) :
    changeV x (putV x bUsers (putV y who (numV n))) lv me =
      if atV y who = some n then 0 else if (¬ who = me) ∧ (atV y who).isSome = true ∧ lv ≤ (atV y who).getD 0 then 3 else if lv < n then 4 else 0 := by
  have ht := h.users y hy
  have hiy : inV x bUsers = y := in_some hy ht.wf.obj
  have hib : inV (putV x bUsers (putV y who (numV n))) bUsers = putV y who (numV n) := in_some (put_same h.wf _ _) (put_wf ht.wf _ _).obj
  have h1 : turnsL x (putV x bUsers (putV y who (numV n))) plainL = [] := turns_none fun k hk => (at_put_other h.wf (plainL_ne k hk).1 _).symm
  have h2 : turnsIn x (putV x bUsers (putV y who (numV n))) bEvents = [] := by
    unfold turnsIn
    rw [in_put_other h.wf (by decide)]
    exact turns_none fun _ _ => rfl
  have h3 : ∀ f, (turnsIn x (putV x bUsers (putV y who (numV n))) bUsers).any f = (turnedB (turnOf y (putV y who (numV n)) who) && f (turnOf y (putV y who (numV n)) who)) := fun f => by
    unfold turnsIn
    rw [hiy, hib]
    exact turns_one (List.mem_append.2 (.inr (put_key ht.wf _ _))) (fun k _ hk => (at_put_other ht.wf hk _).symm) f
  unfold changeV
  rw [h1, h2, h3, h3]
  have hT : turnOf y (putV y who (numV n)) who = ⟨who, atV y who, some n⟩ := by unfold turnOf; rw [at_put_same ht.wf]
  rw [hT]
  have hB : turnedB ⟨who, atV y who, some n⟩ = !(decide (atV y who = some n)) := rfl
  rw [hB]
  by_cases he : atV y who = some n
  · rw [if_pos he]
    simp [he]
  · rw [if_neg he, decide_eq_false he]
    have hH : highB lv me ⟨who, atV y who, some n⟩ = decide ((¬ who = me) ∧ (atV y who).isSome = true ∧ lv ≤ (atV y who).getD 0) := by
      unfold highB
      by_cases a : who = me <;> by_cases b : (atV y who).isSome = true <;> by_cases c : lv ≤ (atV y who).getD 0 <;> simp [a, b, c]
    have hG : givesB lv ⟨who, atV y who, some n⟩ = decide (lv < n) := rfl
    rw [hH, hG]
    simp
/-- Numbers of a level. -/
def NumsOK (x : V) : Prop := ∀ y ∈ x.f4, -5 ≤ y.f1 ∧ y.f1 ≤ 101
theorem numL_ok (i : Nat) : -5 ≤ (numV (numL i)).f1 ∧ (numV (numL i)).f1 ≤ 101 := by
  show -5 ≤ numL i ∧ numL i ≤ 101
  unfold numL
  repeat (first | exact ⟨by omega, by omega⟩ | split)
theorem NumsOK.put {x : V} (h : NumsOK x) (hw : WF x) (key : ByteArray) (i : Nat) : NumsOK (putV x key (numV (numL i))) := fun y hy => (put_mem4 hw hy).elim (fun e => e ▸ numL_ok i) (h y)
theorem goLv_nums (c : List UInt8) : ∀ k, NumsOK (goLv c k).v ∧ NumsOK (goLv c k).u ∧ NumsOK (goLv c k).e
  | 0 => ⟨fun _ h => (by cases h), fun _ h => (by cases h), fun _ h => (by cases h)⟩
  | k + 1 => by
    have h := goLv_nums c k
    have ht := goLv_tab c k
    unfold goLv stepLv
    split
    · exact ⟨h.1.put ht.v.wf _ _, h.2.1, h.2.2⟩
    · split
      · exact ⟨h.1, h.2.1, h.2.2.put ht.e.wf _ _⟩
      · exact ⟨h.1, h.2.1.put ht.u.wf _ _, h.2.2⟩
theorem NumsOK.at_ {x : V} (h : NumsOK x) {key : ByteArray} {n : Int} (e : atV x key = some n) : -5 ≤ n ∧ n ≤ 101 := by
  unfold atV at e
  cases hg : getV x key with
  | none => rw [hg] at e; cases e
  | some y =>
    rw [hg] at e
    have e : (if y.f0 = 2 then some y.f1 else none) = some n := e
    obtain ⟨i, hi, _, hy⟩ := getV_some hg
    split at e
    · injection e with e
      exact e ▸ hy ▸ h _ (List.getElem_mem hi)
    · cases e
theorem levels_nums (c : List UInt8) : (∀ k, k ≠ bUsers → k ≠ bEvents → ∀ n, atV (levelsV c) k = some n → -5 ≤ n ∧ n ≤ 101) ∧ (∀ y, getV (levelsV c) bUsers = some y → NumsOK y) := by
  have hn := goLv_nums c (roundsLv c.length)
  have h := goLv_tab c (roundsLv c.length)
  unfold levelsV
  obtain ⟨s, hs⟩ : ∃ s, goLv c (roundsLv c.length) = s := ⟨_, rfl⟩
  rw [hs] at h hn ⊢
  have n1 : getV s.v bUsers = none := h.v.no (fun ⟨i, e⟩ => (plain_ne i).1 e.symm)
  have w1 : WF (if 0 < c.length % 3 then putV s.v bUsers s.u else s.v) ∧ (∀ k, k ≠ bUsers → ∀ n, atV (if 0 < c.length % 3 then putV s.v bUsers s.u else s.v) k = some n → -5 ≤ n ∧ n ≤ 101) ∧
      (∀ y, getV (if 0 < c.length % 3 then putV s.v bUsers s.u else s.v) bUsers = some y → NumsOK y) := by
    split
    · refine ⟨put_wf h.v.wf _ _, fun k hk n e => ?_, fun y e => ?_⟩
      · rw [at_put_other h.v.wf hk] at e; exact hn.1.at_ e
      · rw [put_same h.v.wf] at e; injection e with e; exact e ▸ hn.2.1
    · exact ⟨h.v.wf, fun k _ n e => hn.1.at_ e, fun y e => by rw [n1] at e; cases e⟩
  show (∀ k, k ≠ bUsers → k ≠ bEvents → ∀ n, atV (if 0 < c.length % 5 then putV (if 0 < c.length % 3 then putV s.v bUsers s.u else s.v) bEvents s.e else (if 0 < c.length % 3 then putV s.v bUsers s.u else s.v)) k = some n → -5 ≤ n ∧ n ≤ 101) ∧
    (∀ y, getV (if 0 < c.length % 5 then putV (if 0 < c.length % 3 then putV s.v bUsers s.u else s.v) bEvents s.e else (if 0 < c.length % 3 then putV s.v bUsers s.u else s.v)) bUsers = some y → NumsOK y)
  obtain ⟨x, hx⟩ : ∃ x, (if 0 < c.length % 3 then putV s.v bUsers s.u else s.v) = x := ⟨_, rfl⟩
  rw [hx] at w1 ⊢
  split
  · refine ⟨fun k h1 h2 n e => ?_, fun y e => ?_⟩
    · rw [at_put_other w1.1 h2] at e; exact w1.2.1 k h1 n e
    · rw [put_other w1.1 (by decide)] at e; exact w1.2.2 y e
  · exact ⟨fun k h1 _ n e => w1.2.1 k h1 n e, w1.2.2⟩
theorem level_bound (c : List UInt8) (creator user : ByteArray) : -5 ≤ levelV (levelsV c) true creator user ∧ levelV (levelsV c) true creator user ≤ 101 := by
  have h := levels_nums c
  have hl := levels_lev c
  unfold levelV
  rw [if_pos rfl]
  cases h1 : atV (inV (levelsV c) bUsers) user with
  | some n =>
    show -5 ≤ n ∧ n ≤ 101
    cases hg : getV (levelsV c) bUsers with
    | none => rw [in_none hg, at_zObj] at h1; cases h1
    | some y =>
      rw [in_some hg (hl.users y hg).wf.obj] at h1
      exact (h.2 y hg).at_ h1
  | none =>
    show -5 ≤ (atV (levelsV c) bUsersDefault).getD 0 ∧ (atV (levelsV c) bUsersDefault).getD 0 ≤ 101
    cases h2 : atV (levelsV c) bUsersDefault with
    | none => exact ⟨by decide, by decide⟩
    | some n => exact h.1 _ (by decide) (by decide) n h2
end Go.Proofs.YtkdicgendcdooaaDoor

/-
  The law PowerMore, walked.
-/
namespace Go.Proofs.YtkdicgendcdooaaDoor
open Go.RowKit Go.Lib Go.Proofs.YtkdicgendcdooaaDoorW.PrintWords
set_option linter.unusedSimpArgs false
set_option linter.unusedVariables false
theorem above_more {o : Option Int} {a b : Int} (h : a ≤ b) (hb : aboveO o b = true) : aboveO o a = true := by
  cases o with
  | none => exact hb
  | some m => simp [aboveO] at hb ⊢; omega
theorem any_less {l : List TT} {f g : TT → Bool} (h : ∀ t, g t = true → f t = true) (hf : ¬ l.any f = true) : ¬ l.any g = true := fun hg => hf (by
  obtain ⟨t, ht, e⟩ := List.any_eq_true.1 hg
  exact List.any_eq_true.2 ⟨t, ht, h t e⟩)
theorem change_more {x y : V} {a b : Int} {me : ByteArray} (h : a ≤ b) (h0 : changeV x y a me = 0) : changeV x y b me = 0 := by
  have ho : ∀ t, overB b t = true → overB a t = true := fun t ht => by
    unfold overB at ht ⊢
    rcases Bool.or_eq_true_iff.1 ht with ht | ht
    · rw [above_more h ht]; rfl
    · rw [above_more h ht]; simp
  have hh : ∀ t, highB b me t = true → highB a me t = true := fun t ht => by
    unfold highB at ht ⊢
    simp only [Bool.and_eq_true, decide_eq_true_eq] at ht ⊢
    exact ⟨ht.1, by omega⟩
  have hg : ∀ t, givesB b t = true → givesB a t = true := fun t ht => above_more h ht
  unfold changeV at h0 ⊢
  split at h0
  · cases h0
  · rename_i h1
    split at h0
    · cases h0
    · rename_i h2
      split at h0
      · cases h0
      · rename_i h3
        split at h0
        · cases h0
        · rename_i h4
          rw [if_neg (any_less ho h1), if_neg (any_less ho h2), if_neg (any_less hh h3), if_neg (any_less hg h4)]
theorem tmod_bound (z k : Int) (hk : 0 < k) : -k < z.tmod k ∧ z.tmod k < k := by
  rcases Int.le_total 0 z with h | h
  · have h1 := Int.tmod_eq_emod_of_nonneg (b := k) h
    have h2 := Int.emod_nonneg z (Int.ne_of_gt hk)
    have h3 := Int.emod_lt_of_pos z hk
    omega
  · have e : z = -(-z) := by omega
    have h0 : 0 ≤ -z := by omega
    have h1 := Int.tmod_eq_emod_of_nonneg (b := k) h0
    have h2 := Int.emod_nonneg (-z) (Int.ne_of_gt hk)
    have h3 := Int.emod_lt_of_pos (-z) hk
    have h4 : z.tmod k = -((-z).tmod k) := by
      conv => lhs; rw [e]
      rw [Int.neg_tmod]
    omega
set_option maxRecDepth 100000 in
set_option maxHeartbeats 2000000 in
theorem more_go (a0 : Option Addr) (cap0 : Nat) (l : List UInt8) (a1 : Option Addr) (cap1 : Nat) (l' : List UInt8) (k m : Nat) (z : Int) (hk : k ≤ 255) (hm : m ≤ 255) (hz1 : -32768 ≤ z) (hz2 : z ≤ 32767) (W : World) (hl : l.length ≤ 140737488351232) (hl' : l'.length ≤ 140737488351232) (y : Bytes8 W a0 l) (y' : Bytes8 W a1 l') (hT : Tabs W) :
    Calls Tryd.prog 9 #[.slice a0 l.length cap0, .slice a1 l'.length cap1, .int .u8 (k : Int), .int .u8 (m : Int), .int .i16 z] W (EndI W (.bool true)) := by
  have HL := Lib.hid (levels_any (cap := cap0) y hl)
  have HL' := Lib.hid (fun w (hb : Below W.heap.size W w) => levels_any (cap := cap1) (y'.below hb) hl')
  have HUS := Lib.hid (fun w => user_any k (by omega) w)
  have hFit := Lib.hid (levels_fit l)
  have hFit' := Lib.hid (levels_fit l')
  have HT := Lib.hid hT
  obtain ⟨x, hx⟩ : ∃ x, levelsV l = x := ⟨_, rfl⟩
  obtain ⟨x', hx'⟩ : ∃ x, levelsV l' = x := ⟨_, rfl⟩
  rw [hx] at HL hFit
  rw [hx'] at HL' hFit'
  obtain ⟨n, hn⟩ : ∃ n, l.length = n := ⟨_, rfl⟩
  obtain ⟨n', hn'⟩ : ∃ n, l'.length = n := ⟨_, rfl⟩
  rw [hn] at HL ⊢
  rw [hn'] at HL' ⊢
  obtain ⟨u, hu⟩ : ∃ u, userB k = u := ⟨_, rfl⟩
  rw [hu] at HUS
  obtain ⟨lo, hlo⟩ : ∃ lo, z.tmod 150 = lo := ⟨_, rfl⟩
  have h1 : -150 < lo := hlo ▸ (tmod_bound z 150 (by decide)).1
  have h2 : lo < 150 := hlo ▸ (tmod_bound z 150 (by decide)).2
  clear hT hx hx' hn hn' hu hl hl' y y'
  go_enter Tryd.func9, Tryd.ntmps9
  go_wp2_with fail
  refine HL.out.mono ?_
  clear HL
  rintro e w1 ⟨v, rfl, hv, hb⟩
  obtain ⟨E3, e3, E4, e4, rfl, _⟩ := hv.open_
  replace HT := Lib.hid (HT.out.below hb (Nat.le_refl _))
  have HBW := Lib.hid hb
  clear hb
  have HB11 := Lib.hid (BoxOf.new hv)
  have hb := (Below.refl w1.heap.size w1).alloc (Nat.le_refl _) (.cells #[.int .i64 x.f0, .int .i64 x.f1, .string x.f2, .slice E3 x.f3.length e3, .slice E4 x.f4.length e4] 27)
  go_wp2_with fail
  generalize hW : w1.alloc (.cells #[.int .i64 x.f0, .int .i64 x.f1, .string x.f2, .slice E3 x.f3.length e3, .slice E4 x.f4.length e4] 27) = W2 at HB11 hb ⊢
  clear hW hv
  replace HT := Lib.hid (HT.out.below hb (Nat.le_refl _))
  replace HBW := Lib.hid (HBW.out.trans (Below.mono hb HBW.out.size))
  clear hb
  refine (HL'.out _ HBW.out).mono ?_
  clear HL'
  rintro e w3 ⟨v, rfl, hv, hb⟩
  obtain ⟨E3, e3, E4, e4, rfl, _⟩ := hv.open_
  replace HT := Lib.hid (HT.out.below hb (Nat.le_refl _))
  replace HBW := Lib.hid (HBW.out.trans (Below.mono hb HBW.out.size))
  replace HB11 := Lib.hid (HB11.out.below hb)
  clear hb
  have HB12 := Lib.hid (BoxOf.new hv)
  have hb := (Below.refl w3.heap.size w3).alloc (Nat.le_refl _) (.cells #[.int .i64 x'.f0, .int .i64 x'.f1, .string x'.f2, .slice E3 x'.f3.length e3, .slice E4 x'.f4.length e4] 27)
  go_wp2_with fail
  generalize hW : w3.alloc (.cells #[.int .i64 x'.f0, .int .i64 x'.f1, .string x'.f2, .slice E3 x'.f3.length e3, .slice E4 x'.f4.length e4] 27) = W4 at HB12 hb ⊢
  clear hW hv
  replace HT := Lib.hid (HT.out.below hb (Nat.le_refl _))
  replace HBW := Lib.hid (HBW.out.trans (Below.mono hb HBW.out.size))
  replace HB11 := Lib.hid (HB11.out.below hb)
  clear hb
  refine (HUS.out _).mono ?_
  clear HUS
  rintro e w5 ⟨rfl, hb⟩
  replace HT := Lib.hid (HT.out.below hb (Nat.le_refl _))
  replace HBW := Lib.hid (HBW.out.trans (Below.mono hb HBW.out.size))
  replace HB11 := Lib.hid (HB11.out.below hb)
  replace HB12 := Lib.hid (HB12.out.below hb)
  clear hb
  obtain ⟨A1, a1, C1, c1, hc1, hv1⟩ := HB11.out.read
  obtain ⟨A2, a2, C2, c2, hc2, hv2⟩ := HB12.out.read
  have hch := change_any hv1.any hFit.out.1 hv2.any hFit'.out.1 lo u HT.out
  obtain ⟨d0, d1, d2, d3, d4⟩ := hc1
  obtain ⟨f0, f1, f2, f3, f4⟩ := hc2
  clear hv1 hv2
  go_wp2_with fail
  refine hch.mono ?_
  clear hch d0 d1 d2 d3 d4 f0 f1 f2 f3 f4
  rintro e w6 ⟨rfl, hb⟩
  replace HT := Lib.hid (HT.out.below hb (Nat.le_refl _))
  replace HBW := Lib.hid (HBW.out.trans (Below.mono hb HBW.out.size))
  replace HB11 := Lib.hid (HB11.out.below hb)
  replace HB12 := Lib.hid (HB12.out.below hb)
  clear hb
  have HCM := Lib.hid (fun b (hb : lo ≤ b) => change_more (x := x) (y := x') (me := u) hb)
  obtain ⟨r, hr⟩ : ∃ r, changeV x x' lo u = r := ⟨_, rfl⟩
  rw [hr] at HCM ⊢
  clear hr
  by_cases h0 : r = 0
  · subst h0
    go_wp2_with fail
    refine (known_any _ HT.out).mono ?_
    rintro e w7 ⟨rfl, hb⟩
    replace HT := Lib.hid (HT.out.below hb (Nat.le_refl _))
    replace HBW := Lib.hid (HBW.out.trans (Below.mono hb HBW.out.size))
    replace HB11 := Lib.hid (HB11.out.below hb)
    replace HB12 := Lib.hid (HB12.out.below hb)
    clear hb
    obtain ⟨A1, a1, C1, c1, hc1, hv1⟩ := HB11.out.read
    obtain ⟨A2, a2, C2, c2, hc2, hv2⟩ := HB12.out.read
    have hch := change_any hv1.any hFit.out.1 hv2.any hFit'.out.1 (lo + (m : Int)) u HT.out
    rw [HCM.out (lo + (m : Int)) (by omega) (by first | trivial | rfl)] at hch
    obtain ⟨d0, d1, d2, d3, d4⟩ := hc1
    obtain ⟨f0, f1, f2, f3, f4⟩ := hc2
    clear hv1 hv2
    go_wp2_with fail
    refine hch.mono ?_
    clear hch d0 d1 d2 d3 d4 f0 f1 f2 f3 f4
    rintro e w8 ⟨rfl, hb⟩
    go_wp2_with fail
    go_ret
    exact ⟨rfl, HBW.out.trans (Below.mono hb HBW.out.size)⟩
  · go_wp2_with fail
    refine (known_any _ HT.out).mono ?_
    rintro e w7 ⟨rfl, hb⟩
    go_wp2_with fail
    go_ret
    exact ⟨rfl, HBW.out.trans (Below.mono hb HBW.out.size)⟩
theorem i16_int {z : Int} (h : (Lit.int .i16 z).wf = true) : -32768 ≤ z ∧ z ≤ 32767 := by
  simpa [Lit.wf, IntKind.min, IntKind.max, IntKind.signed, IntKind.bits] using h
set_option maxRecDepth 100000 in
theorem powerMore_walk (a0 : Option Addr) (len0 cap0 : Nat) (z0 : List Int) (a1 : Option Addr) (len1 cap1 : Nat) (z1 : List Int) (a2 a3 a4 : Int) (W : World)
    (x0 : z0.length = len0) (y0 : RowAt W a0 (z0.map (.int .u8))) (u0 : ∀ z ∈ z0, (Lit.int .u8 z).wf = true) (b0 : len0 * 1 ≤ 140737488351232) (c0 : len0 ≤ cap0) (m0 : cap0 ≤ maxLen)
    (x1 : z1.length = len1) (y1 : RowAt W a1 (z1.map (.int .u8))) (u1 : ∀ z ∈ z1, (Lit.int .u8 z).wf = true) (b1 : len1 * 1 ≤ 140737488351232) (c1 : len1 ≤ cap1) (m1 : cap1 ≤ maxLen)
    (u2 : (Lit.int .u8 a2).wf = true) (u3 : (Lit.int .u8 a3).wf = true) (u4 : (Lit.int .i16 a4).wf = true) (hT : Tabs W) :
    Calls Tryd.prog 9 #[.slice a0 len0 cap0, .slice a1 len1 cap1, .int .u8 a2, .int .u8 a3, .int .i16 a4] W fun e w' => e = .returned (.bool true) ∧ Below W.heap.size W w' := by
  obtain ⟨l, hl, hy⟩ := bytes8_row y0 u0
  obtain ⟨l', hl', hy'⟩ := bytes8_row y1 u1
  obtain ⟨k, rfl, hk⟩ := u8_int u2
  obtain ⟨m, rfl, hm⟩ := u8_int u3
  have hz := i16_int u4
  have h := more_go a0 cap0 l a1 cap1 l' k m a4 hk hm hz.1 hz.2 W (by omega) (by omega) hy hy' hT
  rw [hl, hl', x0, x1] at h
  exact h
end Go.Proofs.YtkdicgendcdooaaDoor

/-
  The law PowerOwn, walked.
-/
namespace Go.Proofs.YtkdicgendcdooaaDoor
open Go.RowKit Go.Lib Go.Proofs.YtkdicgendcdooaaDoorW.PrintWords
set_option linter.unusedSimpArgs false
set_option linter.unusedVariables false
theorem at_getD {x : V} (hn : ∀ y ∈ x.f4, y.f0 = 2) (key : ByteArray) : atV x key = (getV x key).map V.f1 := by
  unfold atV
  cases hg : getV x key with
  | none => rfl
  | some y =>
    obtain ⟨i, hi, _, e⟩ := getV_some hg
    show (if y.f0 = 2 then some y.f1 else none) = some y.f1
    rw [if_pos (hn y (e ▸ List.getElem_mem hi))]
set_option maxRecDepth 100000 in
set_option maxHeartbeats 1500000 in
theorem own_go (a0 : Option Addr) (cap0 : Nat) (l : List UInt8) (k j : Nat) (z : Int) (hk : k ≤ 255) (hj : j ≤ 255) (hz1 : -32768 ≤ z) (hz2 : z ≤ 32767) (W : World) (hl : l.length ≤ 140737488351232) (y : Bytes8 W a0 l) (hT : Tabs W) :
    Calls Tryd.prog 10 #[.slice a0 l.length cap0, .int .u8 (k : Int), .int .u8 (j : Int), .int .i16 z] W (EndI W (.bool true)) := by
  have HL := Lib.hid (levels_any (cap := cap0) y hl)
  have HUS := Lib.hid (fun w => user_any k (by omega) w)
  have HUW := Lib.hid (fun w => user_any j (by omega) w)
  have hLev := Lib.hid (levels_lev l)
  have hFit := Lib.hid (levels_fit l)
  have hSub := Lib.hid (levels_subs l)
  have hus : (userB j).size ≤ 100000 := by rw [userB_size]; omega
  have HT := Lib.hid hT
  obtain ⟨x, hx⟩ : ∃ x, levelsV l = x := ⟨_, rfl⟩
  rw [hx] at HL hLev hFit hSub
  obtain ⟨n, hn⟩ : ∃ n, l.length = n := ⟨_, rfl⟩
  rw [hn] at HL ⊢
  obtain ⟨me, hme⟩ : ∃ u, userB k = u := ⟨_, rfl⟩
  obtain ⟨who, hwho⟩ : ∃ u, userB j = u := ⟨_, rfl⟩
  rw [hme] at HUS
  rw [hwho] at HUW hus
  have HUS8 := Lib.hid hus
  obtain ⟨mine, hmi⟩ : ∃ i, levelV x true ⟨#[]⟩ me = i := ⟨_, rfl⟩
  have HMI := Lib.hid hmi
  obtain ⟨nx, hnx⟩ : ∃ lo, z.tmod 200 = lo := ⟨_, rfl⟩
  have h1 : -200 < nx := hnx ▸ (tmod_bound z 200 (by decide)).1
  have h2 : nx < 200 := hnx ▸ (tmod_bound z 200 (by decide)).2
  have HNF : Hid (Fit (numV nx)) := Lib.hid (numV_fit (by omega) (by omega))
  clear hT hx hn hme hwho hmi hl y hus
  go_enter Tryd.func10, Tryd.ntmps10
  go_wp2_with fail
  refine HL.out.mono ?_
  clear HL
  rintro e w1 ⟨v, rfl, hv, hb⟩
  obtain ⟨E3, e3, E4, e4, rfl, _⟩ := hv.open_
  replace HT := Lib.hid (HT.out.below hb (Nat.le_refl _))
  have HBW := Lib.hid hb
  clear hb
  go_wp2_with fail
  have HB9 := Lib.hid (BoxOf.new hv)
  have hb := (Below.refl w1.heap.size w1).alloc (Nat.le_refl _) (.cells #[.int .i64 x.f0, .int .i64 x.f1, .string x.f2, .slice E3 x.f3.length e3, .slice E4 x.f4.length e4] 27)
  generalize hW : w1.alloc (.cells #[.int .i64 x.f0, .int .i64 x.f1, .string x.f2, .slice E3 x.f3.length e3, .slice E4 x.f4.length e4] 27) = W2 at HB9 hb ⊢
  clear hW hv
  replace HT := Lib.hid (HT.out.below hb (Nat.le_refl _))
  replace HBW := Lib.hid (HBW.out.trans (Below.mono hb HBW.out.size))
  clear hb
  refine (HUS.out _).mono ?_
  clear HUS
  rintro e w3 ⟨rfl, hb⟩
  replace HT := Lib.hid (HT.out.below hb (Nat.le_refl _))
  replace HBW := Lib.hid (HBW.out.trans (Below.mono hb HBW.out.size))
  replace HB9 := Lib.hid (HB9.out.below hb)
  clear hb
  go_wp2_with fail
  refine (HUW.out _).mono ?_
  clear HUW
  rintro e w4 ⟨rfl, hb⟩
  replace HT := Lib.hid (HT.out.below hb (Nat.le_refl _))
  replace HBW := Lib.hid (HBW.out.trans (Below.mono hb HBW.out.size))
  replace HB9 := Lib.hid (HB9.out.below hb)
  clear hb
  obtain ⟨A9, a9, C9, c9, hc9, hv9⟩ := HB9.out.read
  have hlv := level_has hv9 hFit.out.1 ⟨#[]⟩ me
  rw [HMI.out] at hlv
  obtain ⟨d0, d1, d2, d3, d4⟩ := hc9
  clear hv9
  go_wp2_with fail
  refine hlv.mono ?_
  clear hlv d0 d1 d2 d3 d4
  rintro e w5 ⟨rfl, hb⟩
  replace HT := Lib.hid (HT.out.below hb (Nat.le_refl _))
  replace HBW := Lib.hid (HBW.out.trans (Below.mono hb HBW.out.size))
  replace HB9 := Lib.hid (HB9.out.below hb)
  clear hb
  obtain ⟨A9, a9, C9, c9, hc9, hv9⟩ := HB9.out.read
  have hget := rget_any hv9 bUsers
  obtain ⟨d0, d1, d2, d3, d4⟩ := hc9
  clear hv9
  go_wp2_with fail
  refine hget.mono ?_
  clear hget d0 d1 d2 d3 d4
  rintro e w6 ⟨v, rfl, hv, hb⟩
  have HFu := Lib.hid (getD_fitk hSub.out.1)
  obtain ⟨gu, hgu⟩ : ∃ r, getV x bUsers = r := ⟨_, rfl⟩
  obtain ⟨u, hu⟩ : ∃ u, (getV x bUsers).getD zV = u := ⟨_, rfl⟩
  rw [hu] at hv HFu
  rw [hgu]
  have HU := Lib.hid hu
  have HGU := Lib.hid hgu
  clear hu hgu
  obtain ⟨E3, e3, E4, e4, rfl, _⟩ := hv.open_
  replace HT := Lib.hid (HT.out.below hb (Nat.le_refl _))
  replace HBW := Lib.hid (HBW.out.trans (Below.mono hb HBW.out.size))
  replace HB9 := Lib.hid (HB9.out.below hb)
  clear hb
  go_wp2_with fail
  have hget := rget_any ((hv.bound.mono (ok' := fun k => k < w6.heap.size) (fun k hk => hk.2)).below ((Below.refl w6.heap.size w6).alloc (Nat.le_refl _) (.cells #[.int .i64 u.f0, .int .i64 u.f1, .string u.f2, .slice E3 u.f3.length e3, .slice E4 u.f4.length e4] 27))) who
  have HB13 := Lib.hid (BoxOf.new hv)
  have hb := (Below.refl w6.heap.size w6).alloc (Nat.le_refl _) (.cells #[.int .i64 u.f0, .int .i64 u.f1, .string u.f2, .slice E3 u.f3.length e3, .slice E4 u.f4.length e4] 27)
  generalize hW : w6.alloc (.cells #[.int .i64 u.f0, .int .i64 u.f1, .string u.f2, .slice E3 u.f3.length e3, .slice E4 u.f4.length e4] 27) = W6 at HB13 hget hb ⊢
  clear hW hv
  replace HT := Lib.hid (HT.out.below hb (Nat.le_refl _))
  replace HBW := Lib.hid (HBW.out.trans (Below.mono hb HBW.out.size))
  replace HB9 := Lib.hid (HB9.out.below hb)
  clear hb
  refine hget.mono ?_
  clear hget
  rintro e w7 ⟨v, rfl, hv, hb⟩
  obtain ⟨go, hgo⟩ : ∃ r, getV u who = r := ⟨_, rfl⟩
  obtain ⟨o, ho⟩ : ∃ o, (getV u who).getD zV = o := ⟨_, rfl⟩
  rw [ho] at hv
  rw [hgo]
  have HO := Lib.hid ho
  have HGO := Lib.hid hgo
  clear ho hgo
  obtain ⟨E3, e3, E4, e4, rfl, _⟩ := hv.open_
  replace HT := Lib.hid (HT.out.below hb (Nat.le_refl _))
  replace HBW := Lib.hid (HBW.out.trans (Below.mono hb HBW.out.size))
  replace HB9 := Lib.hid (HB9.out.below hb)
  replace HB13 := Lib.hid (HB13.out.below hb)
  clear hb
  go_wp2_with fail
  have HB15 := Lib.hid (BoxOf.new hv)
  have hb := (Below.refl w7.heap.size w7).alloc (Nat.le_refl _) (.cells #[.int .i64 o.f0, .int .i64 o.f1, .string o.f2, .slice E3 o.f3.length e3, .slice E4 o.f4.length e4] 27)
  generalize hW : w7.alloc (.cells #[.int .i64 o.f0, .int .i64 o.f1, .string o.f2, .slice E3 o.f3.length e3, .slice E4 o.f4.length e4] 27) = W7 at HB15 hb ⊢
  clear hW hv
  replace HT := Lib.hid (HT.out.below hb (Nat.le_refl _))
  replace HBW := Lib.hid (HBW.out.trans (Below.mono hb HBW.out.size))
  replace HB9 := Lib.hid (HB9.out.below hb)
  replace HB13 := Lib.hid (HB13.out.below hb)
  clear hb
  obtain ⟨y8, hz⟩ : ∃ z, putV u who (numV nx) = z := ⟨_, rfl⟩
  have Hy8 := Lib.hid hz
  clear hz
  obtain ⟨z18, hz⟩ : ∃ z, putV x bUsers y8 = z := ⟨_, rfl⟩
  have Hz18 := Lib.hid hz
  clear hz
  have HFz : Hid (Fit z18) := Lib.hid (by rw [← Hz18.out, ← Hy8.out]; exact (putV_fit hFit.out (by omega) (by decide) (putV_fit HFu.out (by omega) HUS8.out HNF.out).1).1)
  obtain ⟨A9, a9, C9, c9, hc9, hv9⟩ := HB9.out.readD
  obtain ⟨A13, a13, C13, c13, hc13, hv13⟩ := HB13.out.readD
  refine region_box (L := 8) (i8 := 7) (i27 := 6) (d8 := 18) (d27 := 51) (z := z18) (pks := [.val (.agg #[.int .i64 x.f0, .int .i64 x.f1, .string x.f2, .slice A9 x.f3.length a9, .slice C9 x.f4.length c9]), .val (.agg #[.int .i64 u.f0, .int .i64 u.f1, .string u.f2, .slice A13 u.f3.length a13, .slice C13 u.f4.length c13]), .val (.string who), .val (.int .i64 nx), .nv (numV nx), .nv y8, .nv z18, .box0]) (by kernel_rfl) (by kernel_rfl) rfl rfl (by decide) (by decide) rfl rfl rfl rfl rfl rfl ?_ ?_
  · intro i hi
    have : i = 0 ∨ i = 1 ∨ i = 2 ∨ i = 3 ∨ i = 4 ∨ i = 5 ∨ i = 6 ∨ i = 7 := by omega
    rcases this with rfl | rfl | rfl | rfl | rfl | rfl | rfl | rfl
    · exact mk_load rfl rfl rfl rfl (by kernel_rfl) hc9 ⟨rfl, rfl, rfl, rfl, rfl⟩ rfl
    · exact mk_load rfl rfl rfl rfl (by kernel_rfl) hc13 ⟨rfl, rfl, rfl, rfl, rfl⟩ rfl
    · exact mk_move rfl rfl rfl rfl (by kernel_rfl) rfl
    · exact mk_move rfl rfl rfl rfl (by kernel_rfl) rfl
    · refine mk_call rfl rfl rfl eg19 (fun own a W hB hO hK hD => ?_)
      have g3 : a.tmps.getD 48 undef = _ := hD 3 48 (by kernel_rfl) rfl
      show Calls _ _ #[a.tmps.getD 48 undef] W _
      rw [g3]
      refine (num_any nx (fun k => k < W.heap.size ∧ k ∉ own) W).mono ?_
      rintro e W' ⟨v, rfl, hv, hb⟩
      exact ⟨v, rfl, NV.made hv hO hb, hb⟩
    · refine mk_call rfl rfl rfl eg18 (fun own a W hB hO hK hD => ?_)
      have g1 : a.tmps.getD 46 undef = _ := hD 1 46 (by kernel_rfl) rfl
      have g2 : a.tmps.getD 47 undef = _ := hD 2 47 (by kernel_rfl) rfl
      have g4 := hD 4 49 (by kernel_rfl) rfl
      show Calls _ _ #[a.tmps.getD 46 undef, a.tmps.getD 47 undef, a.tmps.getD 49 undef] W _
      rw [g1, g2]
      refine (put_any (ok := fun k => k < W.heap.size ∧ k ∉ own) (NV.old hv13 hB hO) HFu.out.1 g4 who HUS8.out).mono ?_
      rintro e W' ⟨v, rfl, hv, hb⟩
      rw [Hy8.out] at hv
      exact ⟨v, rfl, NV.made hv hO hb, hb⟩
    · refine mk_call rfl rfl rfl eg18 (fun own a W hB hO hK hD => ?_)
      have g0 : a.tmps.getD 45 undef = _ := hD 0 45 (by kernel_rfl) rfl
      have g5 := hD 5 50 (by kernel_rfl) rfl
      show Calls _ _ #[a.tmps.getD 45 undef, .string bUsers, a.tmps.getD 50 undef] W _
      rw [g0]
      refine (put_any (ok := fun k => k < W.heap.size ∧ k ∉ own) (NV.old hv9 hB hO) hFit.out.1 g5 bUsers (by decide)).mono ?_
      rintro e W' ⟨v, rfl, hv, hb⟩
      rw [Hz18.out] at hv
      exact ⟨v, rfl, NV.made hv hO hb, hb⟩
    · exact mk_box rfl rfl rfl rfl
  intro vs p18 W18 hvl e8 hb hp0 hlt hBn
  obtain ⟨u18_0, t0, rfl, hq0⟩ := len_cons hvl
  obtain ⟨u18_1, t1, rfl, hq1⟩ := len_cons hq0
  obtain ⟨u18_2, t2, rfl, hq2⟩ := len_cons hq1
  obtain ⟨u18_3, t3, rfl, hq3⟩ := len_cons hq2
  obtain ⟨u18_4, t4, rfl, hq4⟩ := len_cons hq3
  obtain ⟨u18_5, t5, rfl, hq5⟩ := len_cons hq4
  obtain ⟨u18_6, t6, rfl, hq6⟩ := len_cons hq5
  obtain ⟨u18_7, t7, rfl, hq7⟩ := len_cons hq6
  obtain ⟨u18_8, t8, rfl, hq8⟩ := len_cons hq7
  obtain rfl := List.length_eq_zero_iff.1 hq8
  have e8 : u18_7 = .pointer (some ⟨p18, 0, none⟩) := e8
  subst e8
  simp only [dstsOf, List.map_cons, List.map_nil, fillT, List.setIfInBounds_toArray, List.set_cons_zero, List.set_cons_succ]
  have HB18 := Lib.hid hBn.any
  clear hBn hlt hp0 hvl
  clear hc9 hv9
  clear hc13 hv13
  replace HT := Lib.hid (HT.out.below hb (Nat.le_refl _))
  replace HBW := Lib.hid (HBW.out.trans (Below.mono hb HBW.out.size))
  replace HB9 := Lib.hid (HB9.out.below hb)
  replace HB13 := Lib.hid (HB13.out.below hb)
  replace HB15 := Lib.hid (HB15.out.below hb)
  clear hb
  clear HB13
  obtain ⟨A9, a9, C9, c9, hc9, hv9⟩ := HB9.out.read
  have hget := rget_any hv9 bUsers
  obtain ⟨d0, d1, d2, d3, d4⟩ := hc9
  clear hv9
  go_wp2_with fail
  refine hget.mono ?_
  clear hget d0 d1 d2 d3 d4
  rintro e w8 ⟨v, rfl, hv, hb⟩
  rw [HGU.out] at hv ⊢
  obtain ⟨t, ht⟩ : ∃ t, gu.getD zV = t := ⟨_, rfl⟩
  rw [ht] at hv
  clear ht
  obtain ⟨E3, e3, E4, e4, rfl, _⟩ := hv.open_
  replace HT := Lib.hid (HT.out.below hb (Nat.le_refl _))
  replace HBW := Lib.hid (HBW.out.trans (Below.mono hb HBW.out.size))
  replace HB9 := Lib.hid (HB9.out.below hb)
  replace HB15 := Lib.hid (HB15.out.below hb)
  replace HB18 := Lib.hid (HB18.out.below hb)
  clear hb
  clear hv
  have hnum : ∀ s, gu = some s → atV s who = (getV s who).map V.f1 := fun s hs => at_getD (hLev.out.users s (HGU.out.trans hs)).num who
  have HNUM := Lib.hid hnum
  clear hnum
  cases gu with
  | none =>
    go_wp2_with fail
    have hb := (Below.refl w8.heap.size w8).alloc (Nat.le_refl _) (.cells #[.int .i64 t.f0, .int .i64 t.f1, .string t.f2, .slice E3 t.f3.length e3, .slice E4 t.f4.length e4] 27)
    generalize hW : w8.alloc (.cells #[.int .i64 t.f0, .int .i64 t.f1, .string t.f2, .slice E3 t.f3.length e3, .slice E4 t.f4.length e4] 27) = W9 at hb ⊢
    clear hW
    replace HT := Lib.hid (HT.out.below hb (Nat.le_refl _))
    replace HBW := Lib.hid (HBW.out.trans (Below.mono hb HBW.out.size))
    replace HB9 := Lib.hid (HB9.out.below hb)
    replace HB15 := Lib.hid (HB15.out.below hb)
    replace HB18 := Lib.hid (HB18.out.below hb)
    clear hb
    refine (known_any _ HT.out).mono ?_
    rintro e w9 ⟨rfl, hb⟩
    replace HT := Lib.hid (HT.out.below hb (Nat.le_refl _))
    replace HBW := Lib.hid (HBW.out.trans (Below.mono hb HBW.out.size))
    replace HB9 := Lib.hid (HB9.out.below hb)
    replace HB15 := Lib.hid (HB15.out.below hb)
    replace HB18 := Lib.hid (HB18.out.below hb)
    clear hb
    go_wp2_with fail
    go_ret
    exact ⟨rfl, HBW.out⟩
  | some s =>
    have hsu : s = u := by have := HU.out; rw [HGU.out] at this; exact this
    subst hsu
    have HCH := Lib.hid (change_user hLev.out HGU.out who me nx mine)
    have hat := HNUM.out s (by first | trivial | rfl)
    rw [HGO.out] at hat
    rw [Hy8.out, Hz18.out, hat] at HCH
    clear hat HNUM
    have hl15 := HB15.out.lt
    by_cases cw : who = me
    · have q0 := eq_t cw
      have q1 : (who.toList != me.toList) = false := by rw [cw]; simp
      have q2 : who.toList = me.toList := by rw [cw]
      have HCW := Lib.hid cw
      clear cw
      cases go with
      | none =>
        by_cases c1 : mine < nx
        · have c1' := eq_true c1
          go_wp2_with fail
          have hb := (Below.refl w8.heap.size w8).alloc (Nat.le_refl _) (.cells #[.int .i64 t.f0, .int .i64 t.f1, .string t.f2, .slice E3 t.f3.length e3, .slice E4 t.f4.length e4] 27)
          generalize hW : w8.alloc (.cells #[.int .i64 t.f0, .int .i64 t.f1, .string t.f2, .slice E3 t.f3.length e3, .slice E4 t.f4.length e4] 27) = W9 at hb ⊢
          clear hW
          replace HT := Lib.hid (HT.out.below hb (Nat.le_refl _))
          replace HBW := Lib.hid (HBW.out.trans (Below.mono hb HBW.out.size))
          replace HB9 := Lib.hid (HB9.out.below hb)
          replace HB15 := Lib.hid (HB15.out.below hb)
          replace HB18 := Lib.hid (HB18.out.below hb)
          clear hb
          refine (known_any _ HT.out).mono ?_
          rintro e w9 ⟨rfl, hb⟩
          replace HT := Lib.hid (HT.out.below hb (Nat.le_refl _))
          replace HBW := Lib.hid (HBW.out.trans (Below.mono hb HBW.out.size))
          replace HB9 := Lib.hid (HB9.out.below hb)
          replace HB15 := Lib.hid (HB15.out.below hb)
          replace HB18 := Lib.hid (HB18.out.below hb)
          clear hb
          obtain ⟨A9, a9, C9, c9, hc9, hv9⟩ := HB9.out.read
          obtain ⟨A18, a18, C18, c18, hc18, hv18⟩ := HB18.out.read
          have hch := change_any hv9.any hFit.out.1 hv18.any HFz.out mine me HT.out
          rw [show changeV x z18 mine me = 4 by rw [HCH.out]; simp [c1]] at hch
          obtain ⟨d0, d1, d2, d3, d4⟩ := hc9
          obtain ⟨f0, f1, f2, f3, f4⟩ := hc18
          clear hv9 hv18
          go_wp2_with fail
          refine hch.mono ?_
          clear hch d0 d1 d2 d3 d4 f0 f1 f2 f3 f4
          rintro e w10 ⟨rfl, hb⟩
          replace HT := Lib.hid (HT.out.below hb (Nat.le_refl _))
          replace HBW := Lib.hid (HBW.out.trans (Below.mono hb HBW.out.size))
          replace HB9 := Lib.hid (HB9.out.below hb)
          replace HB15 := Lib.hid (HB15.out.below hb)
          replace HB18 := Lib.hid (HB18.out.below hb)
          clear hb
          go_wp2_with fail
          go_ret
          exact ⟨rfl, HBW.out⟩
        · have c1' := eq_false c1
          go_wp2_with fail
          have hb := (Below.refl w8.heap.size w8).alloc (Nat.le_refl _) (.cells #[.int .i64 t.f0, .int .i64 t.f1, .string t.f2, .slice E3 t.f3.length e3, .slice E4 t.f4.length e4] 27)
          generalize hW : w8.alloc (.cells #[.int .i64 t.f0, .int .i64 t.f1, .string t.f2, .slice E3 t.f3.length e3, .slice E4 t.f4.length e4] 27) = W9 at hb ⊢
          clear hW
          replace HT := Lib.hid (HT.out.below hb (Nat.le_refl _))
          replace HBW := Lib.hid (HBW.out.trans (Below.mono hb HBW.out.size))
          replace HB9 := Lib.hid (HB9.out.below hb)
          replace HB15 := Lib.hid (HB15.out.below hb)
          replace HB18 := Lib.hid (HB18.out.below hb)
          clear hb
          refine (known_any _ HT.out).mono ?_
          rintro e w9 ⟨rfl, hb⟩
          replace HT := Lib.hid (HT.out.below hb (Nat.le_refl _))
          replace HBW := Lib.hid (HBW.out.trans (Below.mono hb HBW.out.size))
          replace HB9 := Lib.hid (HB9.out.below hb)
          replace HB15 := Lib.hid (HB15.out.below hb)
          replace HB18 := Lib.hid (HB18.out.below hb)
          clear hb
          obtain ⟨A9, a9, C9, c9, hc9, hv9⟩ := HB9.out.read
          obtain ⟨A18, a18, C18, c18, hc18, hv18⟩ := HB18.out.read
          have hch := change_any hv9.any hFit.out.1 hv18.any HFz.out mine me HT.out
          rw [show changeV x z18 mine me = 0 by rw [HCH.out]; simp [c1]] at hch
          obtain ⟨d0, d1, d2, d3, d4⟩ := hc9
          obtain ⟨f0, f1, f2, f3, f4⟩ := hc18
          clear hv9 hv18
          go_wp2_with fail
          refine hch.mono ?_
          clear hch d0 d1 d2 d3 d4 f0 f1 f2 f3 f4
          rintro e w10 ⟨rfl, hb⟩
          replace HT := Lib.hid (HT.out.below hb (Nat.le_refl _))
          replace HBW := Lib.hid (HBW.out.trans (Below.mono hb HBW.out.size))
          replace HB9 := Lib.hid (HB9.out.below hb)
          replace HB15 := Lib.hid (HB15.out.below hb)
          replace HB18 := Lib.hid (HB18.out.below hb)
          clear hb
          go_wp2_with fail
          go_ret
          exact ⟨rfl, HBW.out⟩
      | some r =>
        have hro : r = o := by have := HO.out; rw [HGO.out] at this; exact this
        subst hro
        obtain ⟨A15, a15, C15, c15, hc15, _⟩ := HB15.out.read
        obtain ⟨f0, f1, f2, f3, f4⟩ := hc15
        by_cases c0 : r.f1 = nx
        · have c0' := int_ne_f c0
          have c0'' := int_eq_t c0
          have HC0 := Lib.hid c0
          clear c0
          go_wp2_with fail
          have hb := (Below.refl w8.heap.size w8).alloc (Nat.le_refl _) (.cells #[.int .i64 t.f0, .int .i64 t.f1, .string t.f2, .slice E3 t.f3.length e3, .slice E4 t.f4.length e4] 27)
          generalize hW : w8.alloc (.cells #[.int .i64 t.f0, .int .i64 t.f1, .string t.f2, .slice E3 t.f3.length e3, .slice E4 t.f4.length e4] 27) = W9 at hb ⊢
          clear hW
          replace HT := Lib.hid (HT.out.below hb (Nat.le_refl _))
          replace HBW := Lib.hid (HBW.out.trans (Below.mono hb HBW.out.size))
          replace HB9 := Lib.hid (HB9.out.below hb)
          replace HB15 := Lib.hid (HB15.out.below hb)
          replace HB18 := Lib.hid (HB18.out.below hb)
          clear hb
          refine (known_any _ HT.out).mono ?_
          rintro e w9 ⟨rfl, hb⟩
          replace HT := Lib.hid (HT.out.below hb (Nat.le_refl _))
          replace HBW := Lib.hid (HBW.out.trans (Below.mono hb HBW.out.size))
          replace HB9 := Lib.hid (HB9.out.below hb)
          replace HB15 := Lib.hid (HB15.out.below hb)
          replace HB18 := Lib.hid (HB18.out.below hb)
          clear hb
          obtain ⟨A9, a9, C9, c9, hc9, hv9⟩ := HB9.out.read
          obtain ⟨A18, a18, C18, c18, hc18, hv18⟩ := HB18.out.read
          have hch := change_any hv9.any hFit.out.1 hv18.any HFz.out mine me HT.out
          rw [show changeV x z18 mine me = 0 by rw [HCH.out]; simp [HC0.out]] at hch
          obtain ⟨d0, d1, d2, d3, d4⟩ := hc9
          obtain ⟨f0, f1, f2, f3, f4⟩ := hc18
          clear hv9 hv18
          go_wp2_with fail
          refine hch.mono ?_
          clear hch d0 d1 d2 d3 d4 f0 f1 f2 f3 f4
          rintro e w10 ⟨rfl, hb⟩
          replace HT := Lib.hid (HT.out.below hb (Nat.le_refl _))
          replace HBW := Lib.hid (HBW.out.trans (Below.mono hb HBW.out.size))
          replace HB9 := Lib.hid (HB9.out.below hb)
          replace HB15 := Lib.hid (HB15.out.below hb)
          replace HB18 := Lib.hid (HB18.out.below hb)
          clear hb
          go_wp2_with fail
          go_ret
          exact ⟨rfl, HBW.out⟩
        · have c0' := int_ne_t c0
          have c0'' := int_eq_f c0
          have HC0 := Lib.hid c0
          clear c0
          by_cases c1 : mine < nx
          · have c1' := eq_true c1
            go_wp2_with fail
            have hb := (Below.refl w8.heap.size w8).alloc (Nat.le_refl _) (.cells #[.int .i64 t.f0, .int .i64 t.f1, .string t.f2, .slice E3 t.f3.length e3, .slice E4 t.f4.length e4] 27)
            generalize hW : w8.alloc (.cells #[.int .i64 t.f0, .int .i64 t.f1, .string t.f2, .slice E3 t.f3.length e3, .slice E4 t.f4.length e4] 27) = W9 at hb ⊢
            clear hW
            replace HT := Lib.hid (HT.out.below hb (Nat.le_refl _))
            replace HBW := Lib.hid (HBW.out.trans (Below.mono hb HBW.out.size))
            replace HB9 := Lib.hid (HB9.out.below hb)
            replace HB15 := Lib.hid (HB15.out.below hb)
            replace HB18 := Lib.hid (HB18.out.below hb)
            clear hb
            refine (known_any _ HT.out).mono ?_
            rintro e w9 ⟨rfl, hb⟩
            replace HT := Lib.hid (HT.out.below hb (Nat.le_refl _))
            replace HBW := Lib.hid (HBW.out.trans (Below.mono hb HBW.out.size))
            replace HB9 := Lib.hid (HB9.out.below hb)
            replace HB15 := Lib.hid (HB15.out.below hb)
            replace HB18 := Lib.hid (HB18.out.below hb)
            clear hb
            obtain ⟨A9, a9, C9, c9, hc9, hv9⟩ := HB9.out.read
            obtain ⟨A18, a18, C18, c18, hc18, hv18⟩ := HB18.out.read
            have hch := change_any hv9.any hFit.out.1 hv18.any HFz.out mine me HT.out
            rw [show changeV x z18 mine me = 4 by rw [HCH.out]; simp [HC0.out, HCW.out, c1]] at hch
            obtain ⟨d0, d1, d2, d3, d4⟩ := hc9
            obtain ⟨f0, f1, f2, f3, f4⟩ := hc18
            clear hv9 hv18
            go_wp2_with fail
            refine hch.mono ?_
            clear hch d0 d1 d2 d3 d4 f0 f1 f2 f3 f4
            rintro e w10 ⟨rfl, hb⟩
            replace HT := Lib.hid (HT.out.below hb (Nat.le_refl _))
            replace HBW := Lib.hid (HBW.out.trans (Below.mono hb HBW.out.size))
            replace HB9 := Lib.hid (HB9.out.below hb)
            replace HB15 := Lib.hid (HB15.out.below hb)
            replace HB18 := Lib.hid (HB18.out.below hb)
            clear hb
            go_wp2_with fail
            go_ret
            exact ⟨rfl, HBW.out⟩
          · have c1' := eq_false c1
            go_wp2_with fail
            have hb := (Below.refl w8.heap.size w8).alloc (Nat.le_refl _) (.cells #[.int .i64 t.f0, .int .i64 t.f1, .string t.f2, .slice E3 t.f3.length e3, .slice E4 t.f4.length e4] 27)
            generalize hW : w8.alloc (.cells #[.int .i64 t.f0, .int .i64 t.f1, .string t.f2, .slice E3 t.f3.length e3, .slice E4 t.f4.length e4] 27) = W9 at hb ⊢
            clear hW
            replace HT := Lib.hid (HT.out.below hb (Nat.le_refl _))
            replace HBW := Lib.hid (HBW.out.trans (Below.mono hb HBW.out.size))
            replace HB9 := Lib.hid (HB9.out.below hb)
            replace HB15 := Lib.hid (HB15.out.below hb)
            replace HB18 := Lib.hid (HB18.out.below hb)
            clear hb
            refine (known_any _ HT.out).mono ?_
            rintro e w9 ⟨rfl, hb⟩
            replace HT := Lib.hid (HT.out.below hb (Nat.le_refl _))
            replace HBW := Lib.hid (HBW.out.trans (Below.mono hb HBW.out.size))
            replace HB9 := Lib.hid (HB9.out.below hb)
            replace HB15 := Lib.hid (HB15.out.below hb)
            replace HB18 := Lib.hid (HB18.out.below hb)
            clear hb
            obtain ⟨A9, a9, C9, c9, hc9, hv9⟩ := HB9.out.read
            obtain ⟨A18, a18, C18, c18, hc18, hv18⟩ := HB18.out.read
            have hch := change_any hv9.any hFit.out.1 hv18.any HFz.out mine me HT.out
            rw [show changeV x z18 mine me = 0 by rw [HCH.out]; simp [HC0.out, HCW.out, c1]] at hch
            obtain ⟨d0, d1, d2, d3, d4⟩ := hc9
            obtain ⟨f0, f1, f2, f3, f4⟩ := hc18
            clear hv9 hv18
            go_wp2_with fail
            refine hch.mono ?_
            clear hch d0 d1 d2 d3 d4 f0 f1 f2 f3 f4
            rintro e w10 ⟨rfl, hb⟩
            replace HT := Lib.hid (HT.out.below hb (Nat.le_refl _))
            replace HBW := Lib.hid (HBW.out.trans (Below.mono hb HBW.out.size))
            replace HB9 := Lib.hid (HB9.out.below hb)
            replace HB15 := Lib.hid (HB15.out.below hb)
            replace HB18 := Lib.hid (HB18.out.below hb)
            clear hb
            go_wp2_with fail
            go_ret
            exact ⟨rfl, HBW.out⟩
    · have q0 := eq_f cw
      have q1 := neq_t cw
      have q2 : ¬ who.toList = me.toList := fun e => cw ((Lib.bytes_beq_iff who me).1 (by rw [e]; exact beq_self_eq_true _))
      have HCW := Lib.hid cw
      clear cw
      cases go with
      | none =>
        by_cases c1 : mine < nx
        · have c1' := eq_true c1
          go_wp2_with fail
          have hb := (Below.refl w8.heap.size w8).alloc (Nat.le_refl _) (.cells #[.int .i64 t.f0, .int .i64 t.f1, .string t.f2, .slice E3 t.f3.length e3, .slice E4 t.f4.length e4] 27)
          generalize hW : w8.alloc (.cells #[.int .i64 t.f0, .int .i64 t.f1, .string t.f2, .slice E3 t.f3.length e3, .slice E4 t.f4.length e4] 27) = W9 at hb ⊢
          clear hW
          replace HT := Lib.hid (HT.out.below hb (Nat.le_refl _))
          replace HBW := Lib.hid (HBW.out.trans (Below.mono hb HBW.out.size))
          replace HB9 := Lib.hid (HB9.out.below hb)
          replace HB15 := Lib.hid (HB15.out.below hb)
          replace HB18 := Lib.hid (HB18.out.below hb)
          clear hb
          refine (known_any _ HT.out).mono ?_
          rintro e w9 ⟨rfl, hb⟩
          replace HT := Lib.hid (HT.out.below hb (Nat.le_refl _))
          replace HBW := Lib.hid (HBW.out.trans (Below.mono hb HBW.out.size))
          replace HB9 := Lib.hid (HB9.out.below hb)
          replace HB15 := Lib.hid (HB15.out.below hb)
          replace HB18 := Lib.hid (HB18.out.below hb)
          clear hb
          obtain ⟨A9, a9, C9, c9, hc9, hv9⟩ := HB9.out.read
          obtain ⟨A18, a18, C18, c18, hc18, hv18⟩ := HB18.out.read
          have hch := change_any hv9.any hFit.out.1 hv18.any HFz.out mine me HT.out
          rw [show changeV x z18 mine me = 4 by rw [HCH.out]; simp [c1]] at hch
          obtain ⟨d0, d1, d2, d3, d4⟩ := hc9
          obtain ⟨f0, f1, f2, f3, f4⟩ := hc18
          clear hv9 hv18
          go_wp2_with fail
          refine hch.mono ?_
          clear hch d0 d1 d2 d3 d4 f0 f1 f2 f3 f4
          rintro e w10 ⟨rfl, hb⟩
          replace HT := Lib.hid (HT.out.below hb (Nat.le_refl _))
          replace HBW := Lib.hid (HBW.out.trans (Below.mono hb HBW.out.size))
          replace HB9 := Lib.hid (HB9.out.below hb)
          replace HB15 := Lib.hid (HB15.out.below hb)
          replace HB18 := Lib.hid (HB18.out.below hb)
          clear hb
          go_wp2_with fail
          go_ret
          exact ⟨rfl, HBW.out⟩
        · have c1' := eq_false c1
          go_wp2_with fail
          have hb := (Below.refl w8.heap.size w8).alloc (Nat.le_refl _) (.cells #[.int .i64 t.f0, .int .i64 t.f1, .string t.f2, .slice E3 t.f3.length e3, .slice E4 t.f4.length e4] 27)
          generalize hW : w8.alloc (.cells #[.int .i64 t.f0, .int .i64 t.f1, .string t.f2, .slice E3 t.f3.length e3, .slice E4 t.f4.length e4] 27) = W9 at hb ⊢
          clear hW
          replace HT := Lib.hid (HT.out.below hb (Nat.le_refl _))
          replace HBW := Lib.hid (HBW.out.trans (Below.mono hb HBW.out.size))
          replace HB9 := Lib.hid (HB9.out.below hb)
          replace HB15 := Lib.hid (HB15.out.below hb)
          replace HB18 := Lib.hid (HB18.out.below hb)
          clear hb
          refine (known_any _ HT.out).mono ?_
          rintro e w9 ⟨rfl, hb⟩
          replace HT := Lib.hid (HT.out.below hb (Nat.le_refl _))
          replace HBW := Lib.hid (HBW.out.trans (Below.mono hb HBW.out.size))
          replace HB9 := Lib.hid (HB9.out.below hb)
          replace HB15 := Lib.hid (HB15.out.below hb)
          replace HB18 := Lib.hid (HB18.out.below hb)
          clear hb
          obtain ⟨A9, a9, C9, c9, hc9, hv9⟩ := HB9.out.read
          obtain ⟨A18, a18, C18, c18, hc18, hv18⟩ := HB18.out.read
          have hch := change_any hv9.any hFit.out.1 hv18.any HFz.out mine me HT.out
          rw [show changeV x z18 mine me = 0 by rw [HCH.out]; simp [c1]] at hch
          obtain ⟨d0, d1, d2, d3, d4⟩ := hc9
          obtain ⟨f0, f1, f2, f3, f4⟩ := hc18
          clear hv9 hv18
          go_wp2_with fail
          refine hch.mono ?_
          clear hch d0 d1 d2 d3 d4 f0 f1 f2 f3 f4
          rintro e w10 ⟨rfl, hb⟩
          replace HT := Lib.hid (HT.out.below hb (Nat.le_refl _))
          replace HBW := Lib.hid (HBW.out.trans (Below.mono hb HBW.out.size))
          replace HB9 := Lib.hid (HB9.out.below hb)
          replace HB15 := Lib.hid (HB15.out.below hb)
          replace HB18 := Lib.hid (HB18.out.below hb)
          clear hb
          go_wp2_with fail
          go_ret
          exact ⟨rfl, HBW.out⟩
      | some r =>
        have hro : r = o := by have := HO.out; rw [HGO.out] at this; exact this
        subst hro
        obtain ⟨A15, a15, C15, c15, hc15, _⟩ := HB15.out.read
        obtain ⟨f0, f1, f2, f3, f4⟩ := hc15
        by_cases c0 : r.f1 = nx
        · have c0' := int_ne_f c0
          have c0'' := int_eq_t c0
          have HC0 := Lib.hid c0
          clear c0
          go_wp2_with fail
          have hb := (Below.refl w8.heap.size w8).alloc (Nat.le_refl _) (.cells #[.int .i64 t.f0, .int .i64 t.f1, .string t.f2, .slice E3 t.f3.length e3, .slice E4 t.f4.length e4] 27)
          generalize hW : w8.alloc (.cells #[.int .i64 t.f0, .int .i64 t.f1, .string t.f2, .slice E3 t.f3.length e3, .slice E4 t.f4.length e4] 27) = W9 at hb ⊢
          clear hW
          replace HT := Lib.hid (HT.out.below hb (Nat.le_refl _))
          replace HBW := Lib.hid (HBW.out.trans (Below.mono hb HBW.out.size))
          replace HB9 := Lib.hid (HB9.out.below hb)
          replace HB15 := Lib.hid (HB15.out.below hb)
          replace HB18 := Lib.hid (HB18.out.below hb)
          clear hb
          refine (known_any _ HT.out).mono ?_
          rintro e w9 ⟨rfl, hb⟩
          replace HT := Lib.hid (HT.out.below hb (Nat.le_refl _))
          replace HBW := Lib.hid (HBW.out.trans (Below.mono hb HBW.out.size))
          replace HB9 := Lib.hid (HB9.out.below hb)
          replace HB15 := Lib.hid (HB15.out.below hb)
          replace HB18 := Lib.hid (HB18.out.below hb)
          clear hb
          obtain ⟨A9, a9, C9, c9, hc9, hv9⟩ := HB9.out.read
          obtain ⟨A18, a18, C18, c18, hc18, hv18⟩ := HB18.out.read
          have hch := change_any hv9.any hFit.out.1 hv18.any HFz.out mine me HT.out
          rw [show changeV x z18 mine me = 0 by rw [HCH.out]; simp [HC0.out]] at hch
          obtain ⟨d0, d1, d2, d3, d4⟩ := hc9
          obtain ⟨f0, f1, f2, f3, f4⟩ := hc18
          clear hv9 hv18
          go_wp2_with fail
          refine hch.mono ?_
          clear hch d0 d1 d2 d3 d4 f0 f1 f2 f3 f4
          rintro e w10 ⟨rfl, hb⟩
          replace HT := Lib.hid (HT.out.below hb (Nat.le_refl _))
          replace HBW := Lib.hid (HBW.out.trans (Below.mono hb HBW.out.size))
          replace HB9 := Lib.hid (HB9.out.below hb)
          replace HB15 := Lib.hid (HB15.out.below hb)
          replace HB18 := Lib.hid (HB18.out.below hb)
          clear hb
          go_wp2_with fail
          go_ret
          exact ⟨rfl, HBW.out⟩
        · have c0' := int_ne_t c0
          have c0'' := int_eq_f c0
          have HC0 := Lib.hid c0
          clear c0
          by_cases cm : mine ≤ r.f1
          · have cm' := eq_true cm
            go_wp2_with fail
            have hb := (Below.refl w8.heap.size w8).alloc (Nat.le_refl _) (.cells #[.int .i64 t.f0, .int .i64 t.f1, .string t.f2, .slice E3 t.f3.length e3, .slice E4 t.f4.length e4] 27)
            generalize hW : w8.alloc (.cells #[.int .i64 t.f0, .int .i64 t.f1, .string t.f2, .slice E3 t.f3.length e3, .slice E4 t.f4.length e4] 27) = W9 at hb ⊢
            clear hW
            replace HT := Lib.hid (HT.out.below hb (Nat.le_refl _))
            replace HBW := Lib.hid (HBW.out.trans (Below.mono hb HBW.out.size))
            replace HB9 := Lib.hid (HB9.out.below hb)
            replace HB15 := Lib.hid (HB15.out.below hb)
            replace HB18 := Lib.hid (HB18.out.below hb)
            clear hb
            refine (known_any _ HT.out).mono ?_
            rintro e w9 ⟨rfl, hb⟩
            replace HT := Lib.hid (HT.out.below hb (Nat.le_refl _))
            replace HBW := Lib.hid (HBW.out.trans (Below.mono hb HBW.out.size))
            replace HB9 := Lib.hid (HB9.out.below hb)
            replace HB15 := Lib.hid (HB15.out.below hb)
            replace HB18 := Lib.hid (HB18.out.below hb)
            clear hb
            obtain ⟨A9, a9, C9, c9, hc9, hv9⟩ := HB9.out.read
            obtain ⟨A18, a18, C18, c18, hc18, hv18⟩ := HB18.out.read
            have hch := change_any hv9.any hFit.out.1 hv18.any HFz.out mine me HT.out
            rw [show changeV x z18 mine me = 3 by rw [HCH.out]; simp [HC0.out, HCW.out, cm]] at hch
            obtain ⟨d0, d1, d2, d3, d4⟩ := hc9
            obtain ⟨f0, f1, f2, f3, f4⟩ := hc18
            clear hv9 hv18
            go_wp2_with fail
            refine hch.mono ?_
            clear hch d0 d1 d2 d3 d4 f0 f1 f2 f3 f4
            rintro e w10 ⟨rfl, hb⟩
            replace HT := Lib.hid (HT.out.below hb (Nat.le_refl _))
            replace HBW := Lib.hid (HBW.out.trans (Below.mono hb HBW.out.size))
            replace HB9 := Lib.hid (HB9.out.below hb)
            replace HB15 := Lib.hid (HB15.out.below hb)
            replace HB18 := Lib.hid (HB18.out.below hb)
            clear hb
            go_wp2_with fail
            go_ret
            exact ⟨rfl, HBW.out⟩
          · have cm' := eq_false cm
            by_cases c1 : mine < nx
            · have c1' := eq_true c1
              go_wp2_with fail
              have hb := (Below.refl w8.heap.size w8).alloc (Nat.le_refl _) (.cells #[.int .i64 t.f0, .int .i64 t.f1, .string t.f2, .slice E3 t.f3.length e3, .slice E4 t.f4.length e4] 27)
              generalize hW : w8.alloc (.cells #[.int .i64 t.f0, .int .i64 t.f1, .string t.f2, .slice E3 t.f3.length e3, .slice E4 t.f4.length e4] 27) = W9 at hb ⊢
              clear hW
              replace HT := Lib.hid (HT.out.below hb (Nat.le_refl _))
              replace HBW := Lib.hid (HBW.out.trans (Below.mono hb HBW.out.size))
              replace HB9 := Lib.hid (HB9.out.below hb)
              replace HB15 := Lib.hid (HB15.out.below hb)
              replace HB18 := Lib.hid (HB18.out.below hb)
              clear hb
              refine (known_any _ HT.out).mono ?_
              rintro e w9 ⟨rfl, hb⟩
              replace HT := Lib.hid (HT.out.below hb (Nat.le_refl _))
              replace HBW := Lib.hid (HBW.out.trans (Below.mono hb HBW.out.size))
              replace HB9 := Lib.hid (HB9.out.below hb)
              replace HB15 := Lib.hid (HB15.out.below hb)
              replace HB18 := Lib.hid (HB18.out.below hb)
              clear hb
              obtain ⟨A9, a9, C9, c9, hc9, hv9⟩ := HB9.out.read
              obtain ⟨A18, a18, C18, c18, hc18, hv18⟩ := HB18.out.read
              have hch := change_any hv9.any hFit.out.1 hv18.any HFz.out mine me HT.out
              rw [show changeV x z18 mine me = 4 by rw [HCH.out]; simp [HC0.out, HCW.out, cm, c1]] at hch
              obtain ⟨d0, d1, d2, d3, d4⟩ := hc9
              obtain ⟨f0, f1, f2, f3, f4⟩ := hc18
              clear hv9 hv18
              go_wp2_with fail
              refine hch.mono ?_
              clear hch d0 d1 d2 d3 d4 f0 f1 f2 f3 f4
              rintro e w10 ⟨rfl, hb⟩
              replace HT := Lib.hid (HT.out.below hb (Nat.le_refl _))
              replace HBW := Lib.hid (HBW.out.trans (Below.mono hb HBW.out.size))
              replace HB9 := Lib.hid (HB9.out.below hb)
              replace HB15 := Lib.hid (HB15.out.below hb)
              replace HB18 := Lib.hid (HB18.out.below hb)
              clear hb
              go_wp2_with fail
              go_ret
              exact ⟨rfl, HBW.out⟩
            · have c1' := eq_false c1
              go_wp2_with fail
              have hb := (Below.refl w8.heap.size w8).alloc (Nat.le_refl _) (.cells #[.int .i64 t.f0, .int .i64 t.f1, .string t.f2, .slice E3 t.f3.length e3, .slice E4 t.f4.length e4] 27)
              generalize hW : w8.alloc (.cells #[.int .i64 t.f0, .int .i64 t.f1, .string t.f2, .slice E3 t.f3.length e3, .slice E4 t.f4.length e4] 27) = W9 at hb ⊢
              clear hW
              replace HT := Lib.hid (HT.out.below hb (Nat.le_refl _))
              replace HBW := Lib.hid (HBW.out.trans (Below.mono hb HBW.out.size))
              replace HB9 := Lib.hid (HB9.out.below hb)
              replace HB15 := Lib.hid (HB15.out.below hb)
              replace HB18 := Lib.hid (HB18.out.below hb)
              clear hb
              refine (known_any _ HT.out).mono ?_
              rintro e w9 ⟨rfl, hb⟩
              replace HT := Lib.hid (HT.out.below hb (Nat.le_refl _))
              replace HBW := Lib.hid (HBW.out.trans (Below.mono hb HBW.out.size))
              replace HB9 := Lib.hid (HB9.out.below hb)
              replace HB15 := Lib.hid (HB15.out.below hb)
              replace HB18 := Lib.hid (HB18.out.below hb)
              clear hb
              obtain ⟨A9, a9, C9, c9, hc9, hv9⟩ := HB9.out.read
              obtain ⟨A18, a18, C18, c18, hc18, hv18⟩ := HB18.out.read
              have hch := change_any hv9.any hFit.out.1 hv18.any HFz.out mine me HT.out
              rw [show changeV x z18 mine me = 0 by rw [HCH.out]; simp only [HC0.out, HCW.out]; simp; intro _; rw [if_neg (by omega), if_neg (by omega)]] at hch
              obtain ⟨d0, d1, d2, d3, d4⟩ := hc9
              obtain ⟨f0, f1, f2, f3, f4⟩ := hc18
              clear hv9 hv18
              go_wp2_with fail
              refine hch.mono ?_
              clear hch d0 d1 d2 d3 d4 f0 f1 f2 f3 f4
              rintro e w10 ⟨rfl, hb⟩
              replace HT := Lib.hid (HT.out.below hb (Nat.le_refl _))
              replace HBW := Lib.hid (HBW.out.trans (Below.mono hb HBW.out.size))
              replace HB9 := Lib.hid (HB9.out.below hb)
              replace HB15 := Lib.hid (HB15.out.below hb)
              replace HB18 := Lib.hid (HB18.out.below hb)
              clear hb
              go_wp2_with fail
              go_ret
              exact ⟨rfl, HBW.out⟩
set_option maxRecDepth 100000 in
theorem powerOwn_walk (a0 : Option Addr) (len0 cap0 : Nat) (z0 : List Int) (a1 a2 a3 : Int) (W : World)
    (x0 : z0.length = len0) (y0 : RowAt W a0 (z0.map (.int .u8))) (u0 : ∀ z ∈ z0, (Lit.int .u8 z).wf = true) (b0 : len0 * 1 ≤ 140737488351232) (c0 : len0 ≤ cap0) (m0 : cap0 ≤ maxLen) (u1 : (Lit.int .u8 a1).wf = true) (u2 : (Lit.int .u8 a2).wf = true) (u3 : (Lit.int .i16 a3).wf = true) (hT : Tabs W) :
    Calls Tryd.prog 10 #[.slice a0 len0 cap0, .int .u8 a1, .int .u8 a2, .int .i16 a3] W fun e w' => e = .returned (.bool true) ∧ Below W.heap.size W w' := by
  obtain ⟨l, hl, hy⟩ := bytes8_row y0 u0
  obtain ⟨k, rfl, hk⟩ := u8_int u1
  obtain ⟨m, rfl, hm⟩ := u8_int u2
  have hz := i16_int u3
  have h := own_go a0 cap0 l k m a3 hk hm hz.1 hz.2 W (by omega) hy hT
  rw [hl, x0] at h
  exact h
end Go.Proofs.YtkdicgendcdooaaDoor

/-
  The law's own functions named and turned.
-/
namespace Go.Proofs.YtkdicgendcdooaaDoor
open Go.RowKit Go.Lib Go.Proofs.YtkdicgendcdooaaDoorW.PrintWords
set_option linter.unusedSimpArgs false
set_option linter.unusedVariables false
def namedV (x : V) (user : ByteArray) : V := (getV ((getV x bUsers).getD zV) user).getD zV
def namedB (x : V) (user : ByteArray) : Bool := (getV ((getV x bUsers).getD zV) user).isSome && decide (2 = (namedV x user).f0)
set_option maxRecDepth 100000 in
set_option maxHeartbeats 1000000 in
theorem named_any {w : World} {ok : Nat → Prop} {x : V} {v : Value} (h : VF w ok x v) (user : ByteArray) :
    Calls Tryd.prog 29 #[v, .string user] w fun e w' => e = .returned (.tuple #[.int .i64 (namedV x user).f1, .bool (namedB x user)]) ∧ Below w.heap.size w w' := by
  obtain ⟨E3, e3, E4, e4, rfl, _⟩ := h.open_
  have hget := rget_any ((h.bound.mono (ok' := fun k => k < w.heap.size) (fun k hk => hk.2)).below ((Below.refl w.heap.size w).alloc (Nat.le_refl _) (.cells #[.int .i64 x.f0, .int .i64 x.f1, .string x.f2, .slice E3 x.f3.length e3, .slice E4 x.f4.length e4] 27))) bUsers
  have hb := (Below.refl w.heap.size w).alloc (Nat.le_refl _) (.cells #[.int .i64 x.f0, .int .i64 x.f1, .string x.f2, .slice E3 x.f3.length e3, .slice E4 x.f4.length e4] 27)
  have HBW := Lib.hid hb
  obtain ⟨u, hu⟩ : ∃ u, (getV x bUsers).getD zV = u := ⟨_, rfl⟩
  obtain ⟨r, hr⟩ : ∃ r, getV u user = r := ⟨_, rfl⟩
  obtain ⟨z, hz⟩ : ∃ z, r.getD zV = z := ⟨_, rfl⟩
  have hN : namedV x user = z := by unfold namedV; rw [hu, hr, hz]
  have hB : namedB x user = (r.isSome && decide (2 = z.f0)) := by unfold namedB; rw [hN, hu, hr]
  rw [hN, hB]
  unfold Got at hget
  rw [hu] at hget
  have HG := Lib.hid hget; have HR := Lib.hid hr; have HZ := Lib.hid hz
  clear h hget hb hu hr hz hN hB
  go_enter Tryd.func29, Tryd.ntmps29
  go_wp2_with fail
  generalize hW : w.alloc (.cells #[.int .i64 x.f0, .int .i64 x.f1, .string x.f2, .slice E3 x.f3.length e3, .slice E4 x.f4.length e4] 27) = W1 at HG HBW ⊢
  clear hW
  refine HG.out.mono ?_
  clear HG
  rintro e w2 ⟨v, rfl, hv, hb⟩
  obtain ⟨E3, e3, E4, e4, rfl, _⟩ := hv.open_
  replace HBW := Lib.hid (HBW.out.trans (Below.mono hb HBW.out.size))
  clear hb
  have hget := rget_any ((hv.bound.mono (ok' := fun k => k < w2.heap.size) (fun k hk => hk.2)).below ((Below.refl w2.heap.size w2).alloc (Nat.le_refl _) (.cells #[.int .i64 u.f0, .int .i64 u.f1, .string u.f2, .slice E3 u.f3.length e3, .slice E4 u.f4.length e4] 27))) user
  have hb := (Below.refl w2.heap.size w2).alloc (Nat.le_refl _) (.cells #[.int .i64 u.f0, .int .i64 u.f1, .string u.f2, .slice E3 u.f3.length e3, .slice E4 u.f4.length e4] 27)
  unfold Got at hget
  rw [HR.out, HZ.out] at hget
  have HG := Lib.hid hget
  clear hget hv
  go_wp2_with fail
  generalize hW : w2.alloc (.cells #[.int .i64 u.f0, .int .i64 u.f1, .string u.f2, .slice E3 u.f3.length e3, .slice E4 u.f4.length e4] 27) = W2 at HG hb ⊢
  clear hW
  replace HBW := Lib.hid (HBW.out.trans (Below.mono hb HBW.out.size))
  clear hb
  refine HG.out.mono ?_
  clear HG
  rintro e w3 ⟨v, rfl, hv, hb⟩
  obtain ⟨E3, e3, E4, e4, rfl, _⟩ := hv.open_
  replace HBW := Lib.hid (HBW.out.trans (Below.mono hb HBW.out.size))
  have HB3 := Lib.hid ((Below.refl w3.heap.size w3).alloc (Nat.le_refl _) (.cells #[.int .i64 z.f0, .int .i64 z.f1, .string z.f2, .slice E3 z.f3.length e3, .slice E4 z.f4.length e4] 27))
  clear hb hv
  go_wp2_with fail
  have hc := cells5v (heap_alloc_new w3 (.cells #[.int .i64 z.f0, .int .i64 z.f1, .string z.f2, .slice E3 z.f3.length e3, .slice E4 z.f4.length e4] 27))
  generalize hW : w3.alloc (.cells #[.int .i64 z.f0, .int .i64 z.f1, .string z.f2, .slice E3 z.f3.length e3, .slice E4 z.f4.length e4] 27) = W3 at HB3 hc ⊢
  clear hW
  obtain ⟨d0, d1, d2, d3, d4⟩ := hc
  cases r with
  | none =>
    simp only [Option.isSome_none]
    go_quiet (fail)
    go_wp2_with fail
    go_ret2
    exact ⟨rfl, HBW.out.trans (Below.mono (HB3.out.trans ((below_drewN W3 _).mono (by have := HB3.out.size; exact this))) HBW.out.size)⟩
  | some q =>
    simp only [Option.isSome_some]
    by_cases h2 : z.f0 = 2
    · have e2 := int_eq_t h2
      have H2 := Lib.hid h2
      clear h2
      go_quiet (fail)
      go_wp2_with fail
      go_ret2
      exact ⟨by simp [H2.out], HBW.out.trans (Below.mono (HB3.out.trans ((below_drewN W3 _).mono (by have := HB3.out.size; exact this))) HBW.out.size)⟩
    · have e2 := int_eq_f h2
      have H2 := Lib.hid h2
      clear h2
      go_quiet (fail)
      go_wp2_with fail
      go_ret2
      exact ⟨by simp [Ne.symm H2.out], HBW.out.trans (Below.mono (HB3.out.trans ((below_drewN W3 _).mono (by have := HB3.out.size; exact this))) HBW.out.size)⟩
set_option maxRecDepth 100000 in
set_option maxHeartbeats 1000000 in
theorem turned_true {w : World} {x y : V} {v u : Value} (hx : VF w Any x v) (hy : VF w Any y u) (key : ByteArray) (lv : Int) (h1 : ∀ z, getV x key = some z → z.f1 ≤ lv) (h2 : ∀ z, getV y key = some z → z.f1 ≤ lv) :
    Calls Tryd.prog 30 #[v, u, .string key, .int .i64 lv] w (EndI w (.bool true)) := by
  obtain ⟨A1, a1, C1, b1, rfl, _⟩ := hx.open_
  obtain ⟨A2, a2, C2, b2, rfl, _⟩ := hy.open_
  have hb := ((Below.refl w.heap.size w).alloc (Nat.le_refl _) (.cells #[.int .i64 x.f0, .int .i64 x.f1, .string x.f2, .slice A1 x.f3.length a1, .slice C1 x.f4.length b1] 27)).alloc (by simp) (.cells #[.int .i64 y.f0, .int .i64 y.f1, .string y.f2, .slice A2 y.f3.length a2, .slice C2 y.f4.length b2] 27)
  have hc1 := heap_alloc_old (w.alloc (.cells #[.int .i64 x.f0, .int .i64 x.f1, .string x.f2, .slice A1 x.f3.length a1, .slice C1 x.f4.length b1] 27)) (.cells #[.int .i64 y.f0, .int .i64 y.f1, .string y.f2, .slice A2 y.f3.length a2, .slice C2 y.f4.length b2] 27) (r := w.heap.size) (by simp)
  rw [heap_alloc_new] at hc1
  have hc2 := heap_alloc_new (w.alloc (.cells #[.int .i64 x.f0, .int .i64 x.f1, .string x.f2, .slice A1 x.f3.length a1, .slice C1 x.f4.length b1] 27)) (.cells #[.int .i64 y.f0, .int .i64 y.f1, .string y.f2, .slice A2 y.f3.length a2, .slice C2 y.f4.length b2] 27)
  rw [World.size_alloc] at hc2
  have HX := Lib.hid (hx.below hb)
  have HY := Lib.hid (hy.below hb)
  have HBW := Lib.hid hb
  obtain ⟨r, hr⟩ : ∃ r, getV x key = r := ⟨_, rfl⟩
  obtain ⟨r', hr'⟩ : ∃ r, getV y key = r := ⟨_, rfl⟩
  rw [hr] at h1
  rw [hr'] at h2
  have HR := Lib.hid hr; have HR' := Lib.hid hr'; have H1 := Lib.hid h1; have H2 := Lib.hid h2
  clear hx hy hr hr' hb h1 h2
  go_enter Tryd.func30, Tryd.ntmps30
  go_wp2_with fail
  generalize hW : (w.alloc (.cells #[.int .i64 x.f0, .int .i64 x.f1, .string x.f2, .slice A1 x.f3.length a1, .slice C1 x.f4.length b1] 27)).alloc (.cells #[.int .i64 y.f0, .int .i64 y.f1, .string y.f2, .slice A2 y.f3.length a2, .slice C2 y.f4.length b2] 27) = W1 at HX HY HBW hc1 hc2 ⊢
  clear hW
  have HC1 := Lib.hid hc1; have HC2 := Lib.hid hc2
  clear hc1 hc2
  have hg := rget_any HX.out key
  rw [HR.out] at hg
  refine hg.mono ?_
  clear hg
  rintro e w2 ⟨v, rfl, hv, hb⟩
  obtain ⟨z, hz⟩ : ∃ z, r.getD zV = z := ⟨_, rfl⟩
  rw [hz] at hv
  have HZ := Lib.hid hz
  clear hz
  obtain ⟨E3, e3, E4, e4, rfl, _⟩ := hv.open_
  have hlt2 : w.heap.size + 1 < W1.heap.size := (Array.getElem?_eq_some_iff.1 HC2.out).1
  have hd2 := cells5v ((hb.block _ hlt2).trans HC2.out)
  obtain ⟨d0, d1, d2, d3, d4⟩ := hd2
  have hlt3 : w.heap.size + 1 < w2.heap.size := Nat.lt_of_lt_of_le hlt2 hb.size
  have hb3 := hb.trans (((Below.refl w2.heap.size w2).alloc (Nat.le_refl _) (.cells #[.int .i64 z.f0, .int .i64 z.f1, .string z.f2, .slice E3 z.f3.length e3, .slice E4 z.f4.length e4] 27)).mono hb.size)
  have hz3 := heap_alloc_new w2 (.cells #[.int .i64 z.f0, .int .i64 z.f1, .string z.f2, .slice E3 z.f3.length e3, .slice E4 z.f4.length e4] 27)
  replace HBW := Lib.hid (HBW.out.trans (Below.mono hb3 HBW.out.size))
  have hg := rget_any (HY.out.below hb3) key
  rw [HR'.out] at hg
  unfold Got at hg
  have HG := Lib.hid hg
  clear hg hb hb3 hv hlt2
  go_wp2_with fail
  generalize hW : w2.alloc (.cells #[.int .i64 z.f0, .int .i64 z.f1, .string z.f2, .slice E3 z.f3.length e3, .slice E4 z.f4.length e4] 27) = W3 at HBW HG hz3 ⊢
  clear hW d0 d1 d2 d3 d4 hlt3
  refine HG.out.mono ?_
  clear HG
  have HZ3 := Lib.hid hz3
  clear hz3
  rintro e w4 ⟨v, rfl, hv, hb⟩
  obtain ⟨z', hz'⟩ : ∃ z, r'.getD zV = z := ⟨_, rfl⟩
  rw [hz'] at hv
  have HZ' := Lib.hid hz'
  clear hz'
  obtain ⟨E3, e3, E4, e4, rfl, _⟩ := hv.open_
  have hlt : w2.heap.size < W3.heap.size := (Array.getElem?_eq_some_iff.1 HZ3.out).1
  obtain ⟨d0, d1, d2, d3, d4⟩ := cells5v ((hb.block _ hlt).trans HZ3.out)
  have hlt4 : w2.heap.size < w4.heap.size := Nat.lt_of_lt_of_le hlt hb.size
  replace HBW := Lib.hid (HBW.out.trans (Below.mono (hb.trans (((Below.refl w4.heap.size w4).alloc (Nat.le_refl _) (.cells #[.int .i64 z'.f0, .int .i64 z'.f1, .string z'.f2, .slice E3 z'.f3.length e3, .slice E4 z'.f4.length e4] 27)).mono hb.size)) HBW.out.size))
  clear hb hv hlt
  cases r with
  | none =>
    cases r' with
    | none =>
      simp only [Option.isSome_none]
      go_wp2_with fail
      go_ret
      exact ⟨rfl, HBW.out⟩
    | some q' =>
      have hq' : q' = z' := HZ'.out
      subst hq'
      have l2 := H2.out q' rfl
      have e2 := eq_true l2
      simp only [Option.isSome_none, Option.isSome_some]
      go_wp2_with fail
      go_ret
      exact ⟨rfl, HBW.out⟩
  | some q =>
    have hq : q = z := HZ.out
    subst hq
    have l1 := H1.out q rfl
    have e1 := eq_true l1
    cases r' with
    | none =>
      simp only [Option.isSome_none, Option.isSome_some]
      go_wp2_with fail
      go_ret
      exact ⟨rfl, HBW.out⟩
    | some q' =>
      have hq' : q' = z' := HZ'.out
      subst hq'
      have l2 := H2.out q' rfl
      have e2 := eq_true l2
      simp only [Option.isSome_some]
      go_wp2_with fail
      go_ret
      exact ⟨rfl, HBW.out⟩
end Go.Proofs.YtkdicgendcdooaaDoor

/-
  Makers under a guard.
-/
namespace Go.Proofs.YtkdicgendcdooaaDoor
open Go.RowKit Go.Lib
set_option linter.unusedSimpArgs false
set_option linter.unusedVariables false
section
variable {ops : Array Oper} {Q : Exit → Act → World → Prop} {md : Region.Mode} {a0 : Act} {w0 : World} {pks : List PK}
theorem wanted_of {o : Oper} {g d : Nat} {b t : Bool} {tmps : Array Value} (hg : o.guard = some (g, b)) (hd : dstOf ops g = some d) (hv : tmps.getD d undef = .bool t) : Region.wanted o (yielded ops tmps) = (t == b) := by
  unfold Region.wanted yielded
  rw [hg]
  unfold dstOf at hd
  have hs : tmps[d]? = some (.bool t) := by
    rw [Array.getD_eq_getD_getElem?] at hv
    cases h : tmps[d]? with
    | none => rw [h] at hv; cases hv
    | some v => rw [h] at hv; exact congrArg some hv
  simp [hd, hs]
theorem wpOp_want {P : Program} {i : Nat} {o : Oper} {a : Act} {w : World} {K : Act → World → Prop} (hi : ops[i]? = some o) (hw : Region.wanted o (yielded ops a.tmps) = true) (h : o.wp P a w K Q) : wpOp P ops Q i K a w := by
  unfold wpOp
  simp [hi, hw, h]
theorem wpOp_off {P : Program} {i : Nat} {o : Oper} {a : Act} {w : World} {K : Act → World → Prop} (hi : ops[i]? = some o) (hw : Region.wanted o (yielded ops a.tmps) = false) (h : K (a.put o.dst undef) w) : wpOp P ops Q i K a w := by
  unfold wpOp
  simp [hi, hw, h]
/-- What is passed over. -/
theorem mk_off {i : Nat} {o : Oper} {g d : Nat} {b t : Bool} (ho : ops[i]? = some o) (hg : o.guard = some (g, b)) (hd : dstOf ops g = some d) (hgb : bindsOn md ops i g = true) (hpg : pks.getD g .any = .val (.bool t)) (hne : (t == b) = false) (hp : pks.getD i .any = .val undef) :
    MakesV ops Q md a0 w0 pks i := by
  intro own a W hB hO hK hD
  have hv : a.tmps.getD d undef = .bool t := by have := hD g d hgb hd; simp only [hpg] at this; exact this
  exact wpOp_off ho ((wanted_of hg hd hv).trans hne) ⟨undef, own, by rw [dst_is ho], by show (pks.getD i .any).sat own W undef; rw [hp]; rfl, Below.refl _ _, hO, Grows.refl _ _⟩
theorem mk_callG {i : Nat} {o : Oper} {f g d : Nat} {b : Bool} {xs : Array Operand} {ats : Array TypeId} (ho : ops[i]? = some o) (hop : o.op = .call { callee := .value (.func f), args := xs, argTypes := ats }) (hg : o.guard = some (g, b)) (hd : dstOf ops g = some d) (hgb : bindsOn md ops i g = true) (hpg : pks.getD g .any = .val (.bool b))
    (eg : ∀ args w, (callFunc f args).run Tryd.prog w = .ok (.enter f args) w)
    (h : ∀ own (a : Act) W, Below w0.heap.size w0 W → Own w0 own W → (∀ d, some d ∉ dstsOf ops → a.tmps.getD d undef = a0.tmps.getD d undef) →
      (∀ j d, bindsOn md ops i j = true → dstOf ops j = some d → (pks.getD j .any).sat own W (a.tmps.getD d undef)) →
      Calls Tryd.prog f (xs.toList.map a.eval).toArray W (fun e W' => ∃ v, e = .returned v ∧ (pks.getD i .any).sat own W' v ∧ Below W.heap.size W W')) :
    MakesV ops Q md a0 w0 pks i := by
  intro own a W hB hO hK hD
  have hv : a.tmps.getD d undef = .bool b := by have := hD g d hgb hd; simp only [hpg] at this; exact this
  refine wpOp_want ho ((wanted_of hg hd hv).trans (by cases b <;> rfl)) (wpv_enter (f := f) (args := (xs.toList.map a.eval).toArray) (w' := W) ?_ ((h own a W hB hO hK hD).mono ?_))
  · unfold execOp
    rw [hop]
    show (callFunc f (#[] ++ xs.map a.eval ++ #[])).run _ W = _
    have e : (#[] ++ xs.map a.eval ++ #[]) = (xs.toList.map a.eval).toArray := by apply Array.ext'; simp
    rw [e]
    exact eg _ _
  · rintro e W' ⟨v, rfl, hv, hb⟩
    exact ⟨v, rfl, v, own, by rw [dst_is ho], hv, hb, hO.mono hb, Grows.refl _ _⟩
theorem mk_runG {i : Nat} {o : Oper} {g d : Nat} {b : Bool} {v : Value} (ho : ops[i]? = some o) (hg : o.guard = some (g, b)) (hd : dstOf ops g = some d) (hgb : bindsOn md ops i g = true) (hpg : pks.getD g .any = .val (.bool b)) (hp : pks.getD i .any = .val v)
    (h : ∀ own (a : Act) W, Below w0.heap.size w0 W → (∀ d, some d ∉ dstsOf ops → a.tmps.getD d undef = a0.tmps.getD d undef) →
      (∀ j d, bindsOn md ops i j = true → dstOf ops j = some d → (pks.getD j .any).sat own W (a.tmps.getD d undef)) → (execOp a.eval o).run Tryd.prog W = .ok (.value v) W) :
    MakesV ops Q md a0 w0 pks i := by
  intro own a W hB hO hK hD
  have hv : a.tmps.getD d undef = .bool b := by have := hD g d hgb hd; simp only [hpg] at this; exact this
  exact wpOp_want ho ((wanted_of hg hd hv).trans (by cases b <;> rfl)) (wpv_val (w' := W) (v := v) (h own a W hB hK hD) ⟨v, own, by rw [dst_is ho], by show (pks.getD i .any).sat own W v; rw [hp]; rfl, Below.refl _ _, hO, Grows.refl _ _⟩)
theorem mk_loadG {i : Nat} {o : Oper} {s p g d : Nat} {b : Bool} {c0 c1 c2 c3 c4 : Value} (ho : ops[i]? = some o) (hop : o.op = .load 27 (.tmp s)) (hg : o.guard = some (g, b)) (hd : dstOf ops g = some d) (hgb : bindsOn md ops i g = true) (hpg : pks.getD g .any = .val (.bool b)) (hv : a0.tmps.getD s undef = .pointer (some ⟨p, 0, none⟩)) (hs : (dstsOf ops).contains (some s) = false)
    (hc : w0.cell? ⟨p, 0, none⟩ = some c0 ∧ w0.cell? ⟨p, 1, none⟩ = some c1 ∧ w0.cell? ⟨p, 2, none⟩ = some c2 ∧ w0.cell? ⟨p, 3, none⟩ = some c3 ∧ w0.cell? ⟨p, 4, none⟩ = some c4) (h1 : c0.oneCell' = true ∧ c1.oneCell' = true ∧ c2.oneCell' = true ∧ c3.oneCell' = true ∧ c4.oneCell' = true) (hp : pks.getD i .any = .val (.agg #[c0, c1, c2, c3, c4])) :
    MakesV ops Q md a0 w0 pks i := by
  refine mk_runG ho hg hd hgb hpg hp (fun own a' W hB hK hD => ?_)
  have hlt : p < w0.heap.size := World.block_lt_of_cell? w0 _ hc.1
  obtain ⟨k0, k1, k2, k3, k4⟩ := hc
  replace k0 := (hB.cell (p := ⟨p, 0, none⟩) hlt).trans k0
  replace k1 := (hB.cell (p := ⟨p, 1, none⟩) hlt).trans k1
  replace k2 := (hB.cell (p := ⟨p, 2, none⟩) hlt).trans k2
  replace k3 := (hB.cell (p := ⟨p, 3, none⟩) hlt).trans k3
  replace k4 := (hB.cell (p := ⟨p, 4, none⟩) hlt).trans k4
  have h2 : a'.eval (.tmp s) = .pointer (some ⟨p, 0, none⟩) := (hK s (by simpa using hs)).trans hv
  unfold execOp
  rw [hop]
  show Sem.run _ (do pure (Next.value (← Instr.loadAt 27 (a'.eval (.tmp s))))) W = _
  rw [h2]
  go_simp
end
end Go.Proofs.YtkdicgendcdooaaDoor

/-
  What may be turned leaves what stands high: plain laws.
-/
namespace Go.Proofs.YtkdicgendcdooaaDoor
open Go.RowKit Go.Lib Go.Proofs.YtkdicgendcdooaaDoorW.PrintWords
set_option linter.unusedSimpArgs false
set_option linter.unusedVariables false
theorem getV_mem {x y : V} {key : ByteArray} (h : getV x key = some y) : key ∈ x.f3 := by
  unfold getV at h
  split at h
  · rename_i hc
    have := posK_get x.f3 key hc.2
    exact this ▸ List.getElem_mem hc.2
  · cases h
theorem at_mem {x : V} {key : ByteArray} {n : Int} (h : atV x key = some n) : key ∈ x.f3 := by
  unfold atV at h
  cases hg : getV x key with
  | none => rw [hg] at h; cases h
  | some y => exact getV_mem hg
theorem named_is {x : V} (h : Lev x) (u : ByteArray) : namedB x u = (atV (inV x bUsers) u).isSome ∧ (namedV x u).f1 = (atV (inV x bUsers) u).getD 0 := by
  unfold namedB namedV
  cases hg : getV x bUsers with
  | none =>
    rw [in_none hg, at_zObj]
    have : getV zV u = none := rfl
    simp only [Option.getD_none, this]
    exact ⟨rfl, rfl⟩
  | some t =>
    have ht := h.users t hg
    rw [in_some hg ht.wf.obj, at_getD ht.num]
    simp only [Option.getD_some]
    obtain hu | ⟨z, hu⟩ : getV t u = none ∨ ∃ z, getV t u = some z := by
      cases getV t u with
      | none => exact .inl rfl
      | some z => exact .inr ⟨z, rfl⟩
    · simp only [hu]
      exact ⟨rfl, rfl⟩
    · have h2 : z.f0 = 2 := ht.at_ hu
      simp only [hu]
      refine ⟨?_, rfl⟩
      simp [h2]
theorem change_zero {x y : V} {lv : Int} {me : ByteArray} (h : changeV x y lv me = 0) :
    (∀ t ∈ turnsL x y plainL, overB lv t = false) ∧ (∀ t ∈ turnsIn x y bUsers, highB lv me t = false ∧ givesB lv t = false) := by
  have key : ∀ {l : List TT} {f : TT → Bool}, ¬ l.any f = true → ∀ t ∈ l, f t = false := fun {l f} hn t ht => by
    cases hf : f t with
    | false => rfl
    | true => exact absurd (List.any_eq_true.2 ⟨t, ht, hf⟩) hn
  unfold changeV at h
  split at h
  · cases h
  · rename_i h1
    split at h
    · cases h
    · split at h
      · cases h
      · rename_i h3
        split at h
        · cases h
        · rename_i h4
          exact ⟨key h1, fun t ht => ⟨key h3 t ht, key h4 t ht⟩⟩
theorem raise_user {x y : V} {lv : Int} {me : ByteArray} (h : changeV x y lv me = 0) (u : ByteArray) (hne : atV (inV x bUsers) u ≠ atV (inV y bUsers) u) :
    aboveO (atV (inV y bUsers) u) lv = false ∧ (u ≠ me → ∀ p, atV (inV x bUsers) u = some p → ¬ lv ≤ p) := by
  have hk : u ∈ (inV x bUsers).f3 ++ (inV y bUsers).f3 := by
    cases h1 : atV (inV x bUsers) u with
    | some n => exact List.mem_append.2 (.inl (at_mem h1))
    | none =>
      cases h2 : atV (inV y bUsers) u with
      | some n => exact List.mem_append.2 (.inr (at_mem h2))
      | none => exact absurd (h1.trans h2.symm) hne
  have ht : turnOf (inV x bUsers) (inV y bUsers) u ∈ turnsIn x y bUsers := by
    unfold turnsIn turnsL
    refine List.mem_filter.2 ⟨List.mem_map.2 ⟨u, hk, rfl⟩, ?_⟩
    unfold turnedB turnOf
    simp [hne]
  obtain ⟨h1, h2⟩ := (change_zero h).2 _ ht
  refine ⟨h2, fun hu p hp hl => ?_⟩
  unfold highB turnOf at h1
  simp only [hp] at h1
  simp [hu] at h1
  omega
theorem ban_in : bBan ∈ plainL := by unfold plainL; simp
theorem at_f1 {x : V} (h : Lev x) {z : V} (hz : getV x bBan = some z) : atV x bBan = some z.f1 := by
  have h2 := h.plain bBan z (by decide) (by decide) hz
  unfold atV
  rw [hz]
  exact if_pos h2
theorem raise_ban {x y : V} (hx : Lev x) (hy : Lev y) {lv : Int} {me : ByteArray} (h : changeV x y lv me = 0) :
    actV x true bBan = actV y true bBan ∨ ((∀ z, getV x bBan = some z → z.f1 ≤ lv) ∧ (∀ z, getV y bBan = some z → z.f1 ≤ lv)) := by
  by_cases he : atV x bBan = atV y bBan
  · left
    unfold actV
    rw [he]
  · right
    have ht : turnOf x y bBan ∈ turnsL x y plainL := by
      unfold turnsL
      refine List.mem_filter.2 ⟨List.mem_map.2 ⟨bBan, ban_in, rfl⟩, ?_⟩
      unfold turnedB turnOf
      simp [he]
    have h1 := (change_zero h).1 _ ht
    unfold overB turnOf at h1
    obtain ⟨a1, a2⟩ := Bool.or_eq_false_iff.1 h1
    refine ⟨fun z hz => ?_, fun z hz => ?_⟩
    · have a1 : aboveO (atV x bBan) lv = false := a1
      rw [at_f1 hx hz] at a1
      simp [aboveO] at a1
      omega
    · have a2 : aboveO (atV y bBan) lv = false := a2
      rw [at_f1 hy hz] at a2
      simp [aboveO] at a2
      omega
end Go.Proofs.YtkdicgendcdooaaDoor

/-
  The law PowerRaise, walked.
-/
namespace Go.Proofs.YtkdicgendcdooaaDoor
open Go.RowKit Go.Lib Go.Proofs.YtkdicgendcdooaaDoorW.PrintWords
set_option linter.unusedSimpArgs false
set_option linter.unusedVariables false
theorem eg11 (args : Array Value) (w : World) : (callFunc 11 args).run Tryd.prog w = .ok (.enter 11 args) w := enters_of Tryd.func11 (by rfl) (by rfl) args w
theorem eg15 (args : Array Value) (w : World) : (callFunc 15 args).run Tryd.prog w = .ok (.enter 15 args) w := enters_of Tryd.func15 (by rfl) (by rfl) args w
theorem eg30 (args : Array Value) (w : World) : (callFunc 30 args).run Tryd.prog w = .ok (.enter 30 args) w := enters_of Tryd.func30 (by rfl) (by rfl) args w
/-- What lies there in the law's loop. -/
structure RSt (w0 : World) (p q : Nat) (x y : V) (w : World) : Prop where
  x : BoxOf w p Any x
  y : BoxOf w q Any y
  t : Tabs w
  below : Below w0.heap.size w0 w
theorem RSt.next {w0 w W : World} {p q : Nat} {x y : V} (h : RSt w0 p q x y w) (hb : Below w.heap.size w W) : RSt w0 p q x y W :=
  ⟨h.x.below hb, h.y.below hb, h.t.below hb (Nat.le_refl _), h.below.trans (hb.mono h.below.size)⟩
set_option maxRecDepth 100000 in
set_option maxHeartbeats 2000000 in
theorem raise_go (a0 : Option Addr) (cap0 : Nat) (l : List UInt8) (a1 : Option Addr) (cap1 : Nat) (l' : List UInt8) (k : Nat) (hk : k ≤ 255) (W : World) (hl : l.length ≤ 140737488351232) (hl' : l'.length ≤ 140737488351232) (y : Bytes8 W a0 l) (y' : Bytes8 W a1 l') (hT : Tabs W) :
    Calls Tryd.prog 7 #[.slice a0 l.length cap0, .slice a1 l'.length cap1, .int .u8 (k : Int)] W (EndI W (.bool true)) := by
  have HL := Lib.hid (levels_any (cap := cap0) y hl)
  have HL' := Lib.hid (fun w (hb : Below W.heap.size W w) => levels_any (cap := cap1) (y'.below hb) hl')
  have HUS := Lib.hid (fun w => user_any k (by omega) w)
  have hFit := Lib.hid (levels_fit l)
  have hFit' := Lib.hid (levels_fit l')
  have hLev := Lib.hid (levels_lev l)
  have hLev' := Lib.hid (levels_lev l')
  have HT := Lib.hid hT
  obtain ⟨x, hx⟩ : ∃ x, levelsV l = x := ⟨_, rfl⟩
  obtain ⟨x', hx'⟩ : ∃ x, levelsV l' = x := ⟨_, rfl⟩
  rw [hx] at HL hFit hLev
  rw [hx'] at HL' hFit' hLev'
  obtain ⟨n, hn⟩ : ∃ n, l.length = n := ⟨_, rfl⟩
  obtain ⟨n', hn'⟩ : ∃ n, l'.length = n := ⟨_, rfl⟩
  rw [hn] at HL ⊢
  rw [hn'] at HL' ⊢
  obtain ⟨me, hu⟩ : ∃ u, userB k = u := ⟨_, rfl⟩
  rw [hu] at HUS
  obtain ⟨lv, hlv⟩ : ∃ i, levelV x true ⟨#[]⟩ me = i := ⟨_, rfl⟩
  have HLV := Lib.hid hlv
  clear hT hx hx' hn hn' hu hl hl' y y' hlv
  go_enter Tryd.func7, Tryd.ntmps7
  go_wp2_with fail
  refine HL.out.mono ?_
  clear HL
  rintro e w1 ⟨v, rfl, hv, hb⟩
  obtain ⟨E3, e3, E4, e4, rfl, _⟩ := hv.open_
  replace HT := Lib.hid (HT.out.below hb (Nat.le_refl _))
  have HBW := Lib.hid hb
  clear hb
  have HB11 := Lib.hid (BoxOf.new hv)
  have hb := (Below.refl w1.heap.size w1).alloc (Nat.le_refl _) (.cells #[.int .i64 x.f0, .int .i64 x.f1, .string x.f2, .slice E3 x.f3.length e3, .slice E4 x.f4.length e4] 27)
  go_wp2_with fail
  generalize hW : w1.alloc (.cells #[.int .i64 x.f0, .int .i64 x.f1, .string x.f2, .slice E3 x.f3.length e3, .slice E4 x.f4.length e4] 27) = W2 at HB11 hb ⊢
  clear hW hv
  replace HT := Lib.hid (HT.out.below hb (Nat.le_refl _))
  replace HBW := Lib.hid (HBW.out.trans (Below.mono hb HBW.out.size))
  clear hb
  refine (HL'.out _ HBW.out).mono ?_
  clear HL'
  rintro e w3 ⟨v, rfl, hv, hb⟩
  obtain ⟨E3, e3, E4, e4, rfl, _⟩ := hv.open_
  replace HT := Lib.hid (HT.out.below hb (Nat.le_refl _))
  replace HBW := Lib.hid (HBW.out.trans (Below.mono hb HBW.out.size))
  replace HB11 := Lib.hid (HB11.out.below hb)
  clear hb
  have HB12 := Lib.hid (BoxOf.new hv)
  have hb := (Below.refl w3.heap.size w3).alloc (Nat.le_refl _) (.cells #[.int .i64 x'.f0, .int .i64 x'.f1, .string x'.f2, .slice E3 x'.f3.length e3, .slice E4 x'.f4.length e4] 27)
  go_wp2_with fail
  generalize hW : w3.alloc (.cells #[.int .i64 x'.f0, .int .i64 x'.f1, .string x'.f2, .slice E3 x'.f3.length e3, .slice E4 x'.f4.length e4] 27) = W4 at HB12 hb ⊢
  clear hW hv
  have HS : Hid (RSt W w1.heap.size w3.heap.size x x' W4) := Lib.hid ⟨HB11.out.below hb, HB12.out, HT.out.below hb (Nat.le_refl _), HBW.out.trans (Below.mono hb HBW.out.size)⟩
  clear hb HB11 HB12 HT HBW
  obtain ⟨p, hp⟩ : ∃ p, w1.heap.size = p := ⟨_, rfl⟩
  obtain ⟨q, hq⟩ : ∃ p, w3.heap.size = p := ⟨_, rfl⟩
  rw [hp, hq] at HS ⊢
  clear hp hq
  refine (HUS.out _).mono ?_
  clear HUS
  rintro e w5 ⟨rfl, hb⟩
  replace HS := Lib.hid (HS.out.next hb)
  clear hb
  obtain ⟨A1, a1, C1, c1, hc1, hv1⟩ := HS.out.x.read
  have hch := level_has hv1 hFit.out.1 ⟨#[]⟩ me
  rw [HLV.out] at hch
  obtain ⟨d0, d1, d2, d3, d4⟩ := hc1
  clear hv1
  go_wp2_with fail
  refine hch.mono ?_
  clear hch d0 d1 d2 d3 d4
  rintro e w6 ⟨rfl, hb⟩
  replace HS := Lib.hid (HS.out.next hb)
  clear hb
  obtain ⟨A1, a1, C1, c1, hc1, hv1⟩ := HS.out.x.read
  obtain ⟨A2, a2, C2, c2, hc2, hv2⟩ := HS.out.y.read
  have hch := change_any hv1.any hFit.out.1 hv2.any hFit'.out.1 lv me HS.out.t
  obtain ⟨d0, d1, d2, d3, d4⟩ := hc1
  obtain ⟨f0, f1, f2, f3, f4⟩ := hc2
  clear hv1 hv2
  go_wp2_with fail
  refine hch.mono ?_
  clear hch d0 d1 d2 d3 d4 f0 f1 f2 f3 f4
  rintro e w7 ⟨rfl, hb⟩
  replace HS := Lib.hid (HS.out.next hb)
  clear hb
  obtain ⟨r, hr⟩ : ∃ r, changeV x x' lv me = r := ⟨_, rfl⟩
  have HR := Lib.hid hr
  rw [hr]
  clear hr
  by_cases h0 : r = 0
  · subst h0
    go_wp2_with fail
    go_loopw [11] (fun i wr => ∃ j : Nat, j ≤ 4 ∧ i = .int .u8 (j : Int) ∧ Hid (RSt W p q x x' wr)) (fun i wr => 4 - (intOf i).toNat)
    case atStart => exact ⟨0, by omega, rfl, HS⟩
    case round =>
      obtain ⟨j, hj, rfl, HSR⟩ := hrel
      clear HS
      by_cases hend : j < 4
      · have hus := Lib.hid (fun w => user_any j (by omega) w)
        obtain ⟨u, hu⟩ : ∃ u, userB j = u := ⟨_, rfl⟩
        rw [hu] at hus
        clear hu
        obtain ⟨hnb, hnn⟩ := named_is hLev.out u
        obtain ⟨hnb', hnn'⟩ := named_is hLev'.out u
        have hru := Lib.hid (raise_user HR.out u)
        obtain ⟨o, ho⟩ : ∃ o, atV (inV x bUsers) u = o := ⟨_, rfl⟩
        obtain ⟨o', ho'⟩ : ∃ o, atV (inV x' bUsers) u = o := ⟨_, rfl⟩
        rw [ho] at hnb hnn hru
        rw [ho'] at hnb' hnn' hru
        have HNB := Lib.hid hnb; have HNN := Lib.hid hnn; have HNB' := Lib.hid hnb'; have HNN' := Lib.hid hnn'
        clear ho ho' hnb hnn hnb' hnn'
        go_wp2_with fail
        refine (hus.out _).mono ?_
        clear hus
        rintro e w8 ⟨rfl, hb⟩
        replace HSR := Lib.hid (HSR.out.next hb)
        clear hb
        obtain ⟨A1, a1, C1, c1, hc1, hv1⟩ := HSR.out.x.read
        have hch := named_any hv1 u
        rw [HNB.out, HNN.out] at hch
        obtain ⟨d0, d1, d2, d3, d4⟩ := hc1
        clear hv1
        go_wp2_with fail
        refine hch.mono ?_
        clear hch d0 d1 d2 d3 d4
        rintro e w9 ⟨rfl, hb⟩
        replace HSR := Lib.hid (HSR.out.next hb)
        clear hb
        obtain ⟨A1, a1, C1, c1, hc1, hv1⟩ := HSR.out.y.read
        have hch := named_any hv1 u
        rw [HNB'.out, HNN'.out] at hch
        obtain ⟨d0, d1, d2, d3, d4⟩ := hc1
        clear hv1
        go_wp2_with fail
        refine hch.mono ?_
        clear hch d0 d1 d2 d3 d4
        rintro e w10 ⟨rfl, hb⟩
        replace HSR := Lib.hid (HSR.out.next hb)
        clear hb HNB HNN HNB' HNN'
        cases o with
        | none =>
          cases o' with
          | none =>
            simp only [Option.getD_none, Option.isSome_none]
            go_wp2_with fail
            go_roundw
            case rel => exact ⟨j + 1, by omega, by first | rfl | (simp <;> omega), HSR⟩
            case measure => simp [intOf]; omega
          | some q' =>
            obtain ⟨k1, _⟩ := hru.out (by simp)
            have k2 : ¬ lv < q' := by simp [aboveO] at k1; omega
            have e1 := eq_false k2
            clear k1 k2
            simp only [Option.getD_none, Option.isSome_none, Option.getD_some, Option.isSome_some]
            by_cases cw : u = me
            · have q0 := eq_t cw
              have q1 : (u.toList != me.toList) = false := by rw [cw]; simp
              have q2 : u.toList = me.toList := by rw [cw]
              clear cw
              go_wp2_with fail
              go_roundw
              case rel => exact ⟨j + 1, by omega, by first | rfl | (simp <;> omega), HSR⟩
              case measure => simp [intOf]; omega
            · have q0 := eq_f cw
              have q1 := neq_t cw
              have q2 : ¬ u.toList = me.toList := fun e => cw ((Lib.bytes_beq_iff u me).1 (by rw [e]; exact beq_self_eq_true _))
              clear cw
              go_wp2_with fail
              go_roundw
              case rel => exact ⟨j + 1, by omega, by first | rfl | (simp <;> omega), HSR⟩
              case measure => simp [intOf]; omega
        | some p' =>
          cases o' with
          | none =>
            obtain ⟨_, k1⟩ := hru.out (by simp)
            simp only [Option.getD_none, Option.isSome_none, Option.getD_some, Option.isSome_some]
            by_cases cw : u = me
            · have q0 := eq_t cw
              have q1 : (u.toList != me.toList) = false := by rw [cw]; simp
              have q2 : u.toList = me.toList := by rw [cw]
              clear cw
              go_wp2_with fail
              go_roundw
              case rel => exact ⟨j + 1, by omega, by first | rfl | (simp <;> omega), HSR⟩
              case measure => simp [intOf]; omega
            · have q0 := eq_f cw
              have q1 := neq_t cw
              have q2 : ¬ u.toList = me.toList := fun e => cw ((Lib.bytes_beq_iff u me).1 (by rw [e]; exact beq_self_eq_true _))
              have e2 : (lv ≤ p') = False := eq_false (by have := k1 cw p' rfl; omega)
              clear cw
              go_wp2_with fail
              go_roundw
              case rel => exact ⟨j + 1, by omega, by first | rfl | (simp <;> omega), HSR⟩
              case measure => simp [intOf]; omega
          | some q' =>
            simp only [Option.getD_some, Option.isSome_some]
            by_cases hpq : p' = q'
            · have e0 := int_ne_f hpq
              have e0' := int_eq_t hpq
              clear hpq
              go_wp2_with fail
              go_roundw
              case rel => exact ⟨j + 1, by omega, by first | rfl | (simp <;> omega), HSR⟩
              case measure => simp [intOf]; omega
            · have e0 := int_ne_t hpq
              have e0' := int_eq_f hpq
              obtain ⟨k0, k1⟩ := hru.out (by simpa using hpq)
              have k2 : ¬ lv < q' := by simp [aboveO] at k0; omega
              have e1 := eq_false k2
              clear k0 k2 hpq
              by_cases cw : u = me
              · have q0 := eq_t cw
                have q1 : (u.toList != me.toList) = false := by rw [cw]; simp
                have q2 : u.toList = me.toList := by rw [cw]
                clear cw
                go_wp2_with fail
                go_roundw
                case rel => exact ⟨j + 1, by omega, by first | rfl | (simp <;> omega), HSR⟩
                case measure => simp [intOf]; omega
              · have q0 := eq_f cw
                have q1 := neq_t cw
                have q2 : ¬ u.toList = me.toList := fun e => cw ((Lib.bytes_beq_iff u me).1 (by rw [e]; exact beq_self_eq_true _))
                have e2 : (lv ≤ p') = False := eq_false (by have := k1 cw p' rfl; omega)
                clear cw
                go_wp2_with fail
                go_roundw
                case rel => exact ⟨j + 1, by omega, by first | rfl | (simp <;> omega), HSR⟩
                case measure => simp [intOf]; omega
      · obtain rfl : j = 4 := by omega
        go_wp2_with fail
        obtain ⟨A1, a1, C1, c1, hc1, hv1⟩ := HSR.out.x.readD
        obtain ⟨A2, a2, C2, c2, hc2, hv2⟩ := HSR.out.y.readD
        have hTd : Tabs wr.drew := Tabs.below HSR.out.t ((Below.refl wr.heap.size wr).drew) (Nat.le_refl _)
        have HTD := Lib.hid hTd
        clear hTd
        by_cases heq : actV x true bBan = actV x' true bBan
        · obtain ⟨s1, hs1⟩ : ∃ s, actV x true bBan = s := ⟨_, rfl⟩
          obtain ⟨s2, hs2⟩ : ∃ s, actV x' true bBan = s := ⟨_, rfl⟩
          have HS1 := Lib.hid hs1; have HS2 := Lib.hid hs2
          have h12 : (s1 == s2) = true := int_eq_t (by rw [← hs1, ← hs2]; exact heq)
          clear hs1 hs2 heq
          refine region_vals2 [.val (.bool true), .val (.bool true), .val (.agg #[.int .i64 x.f0, .int .i64 x.f1, .string x.f2, .slice A1 x.f3.length a1, .slice C1 x.f4.length c1]), .val (.int .i64 s1), .val (.agg #[.int .i64 x'.f0, .int .i64 x'.f1, .string x'.f2, .slice A2 x'.f3.length a2, .slice C2 x'.f4.length c2]), .val (.int .i64 s2), .val (.bool true), .val (.bool true), .val undef, .val undef, .val undef, .val undef, .val (.bool true), .val (.bool true)] 14 (by kernel_rfl) (by kernel_rfl) ?_ ?_
          · intro i hi
            have : i = 0 ∨ i = 1 ∨ i = 2 ∨ i = 3 ∨ i = 4 ∨ i = 5 ∨ i = 6 ∨ i = 7 ∨ i = 8 ∨ i = 9 ∨ i = 10 ∨ i = 11 ∨ i = 12 ∨ i = 13 := by omega
            rcases this with rfl | rfl | rfl | rfl | rfl | rfl | rfl | rfl | rfl | rfl | rfl | rfl | rfl | rfl
            · refine mk_call rfl rfl rfl eg11 (fun own a W hB hO hK hD => ?_)
              refine (known_any W (HTD.out.below hB (Nat.le_refl _))).mono ?_
              rintro e W' ⟨rfl, hb⟩
              exact ⟨_, rfl, rfl, hb⟩
            · refine mk_run rfl rfl rfl (fun own a W hB hK hD => ?_)
              have g1 : a.tmps.getD 78 undef = _ := hD 0 78 (by kernel_rfl) rfl
              show Sem.run _ (pure (Next.value (a.tmps.getD 78 undef))) W = _
              rw [g1]
              rfl
            · exact mk_loadG rfl rfl rfl rfl (by kernel_rfl) rfl rfl (by kernel_rfl) hc1 ⟨rfl, rfl, rfl, rfl, rfl⟩ rfl
            · refine mk_callG rfl rfl rfl rfl (by kernel_rfl) rfl eg15 (fun own a W hB hO hK hD => ?_)
              have g1 : a.tmps.getD 80 undef = _ := hD 2 80 (by kernel_rfl) rfl
              show Calls _ _ #[a.tmps.getD 80 undef, .bool true, .string bBan] W _
              rw [g1]
              refine (act_has (hv1.below hB) hFit.out.1 bBan (by decide)).mono ?_
              rintro e W' ⟨rfl, hb⟩
              exact ⟨_, rfl, congrArg (Value.int .i64) HS1.out, hb⟩
            · exact mk_loadG rfl rfl rfl rfl (by kernel_rfl) rfl rfl (by kernel_rfl) hc2 ⟨rfl, rfl, rfl, rfl, rfl⟩ rfl
            · refine mk_callG rfl rfl rfl rfl (by kernel_rfl) rfl eg15 (fun own a W hB hO hK hD => ?_)
              have g1 : a.tmps.getD 82 undef = _ := hD 4 82 (by kernel_rfl) rfl
              show Calls _ _ #[a.tmps.getD 82 undef, .bool true, .string bBan] W _
              rw [g1]
              refine (act_has (hv2.below hB) hFit'.out.1 bBan (by decide)).mono ?_
              rintro e W' ⟨rfl, hb⟩
              exact ⟨_, rfl, congrArg (Value.int .i64) HS2.out, hb⟩
            · refine mk_runG rfl rfl rfl (by kernel_rfl) rfl rfl (fun own a W hB hK hD => ?_)
              have g1 : a.tmps.getD 81 undef = _ := hD 3 81 (by kernel_rfl) rfl
              have g2 : a.tmps.getD 83 undef = _ := hD 5 83 (by kernel_rfl) rfl
              show Sem.run _ (do pure (Next.value (← (do eqGuard .eql 2 (.tmp 81) (.tmp 83) (a.tmps.getD 81 undef) (a.tmps.getD 83 undef); binOp .eql 2 (a.tmps.getD 81 undef) (a.tmps.getD 83 undef))))) W = _
              rw [g1, g2]
              go_simp
            · refine mk_runG rfl rfl rfl (by kernel_rfl) rfl rfl (fun own a W hB hK hD => ?_)
              have g1 : a.tmps.getD 84 undef = _ := hD 6 84 (by kernel_rfl) rfl
              show Sem.run _ (pure (Next.value (a.tmps.getD 84 undef))) W = _
              rw [g1]
              rfl
            · exact mk_off rfl rfl rfl (by kernel_rfl) rfl rfl rfl
            · exact mk_off rfl rfl rfl (by kernel_rfl) rfl rfl rfl
            · exact mk_off rfl rfl rfl (by kernel_rfl) rfl rfl rfl
            · exact mk_off rfl rfl rfl (by kernel_rfl) rfl rfl rfl
            · refine mk_runG rfl rfl rfl (by kernel_rfl) rfl rfl (fun own a W hB hK hD => ?_)
              have g1 : a.tmps.getD 85 undef = _ := hD 7 85 (by kernel_rfl) rfl
              show Sem.run _ (do pure (Next.value (if ← asBool (a.tmps.getD 85 undef) then (.bool true) else a.tmps.getD 89 undef))) W = _
              rw [g1]
              rfl
            · refine mk_run rfl rfl rfl (fun own a W hB hK hD => ?_)
              have g1 : a.tmps.getD 79 undef = _ := hD 1 79 (by kernel_rfl) rfl
              have g2 : a.tmps.getD 90 undef = _ := hD 12 90 (by kernel_rfl) rfl
              show Sem.run _ (do pure (Next.value (if ← asBool (a.tmps.getD 79 undef) then (a.tmps.getD 90 undef) else (.bool false)))) W = _
              rw [g1, g2]
              rfl
          · intro own vs W9 fuel hB hO hPre hvl hfu
            obtain ⟨v0, t0, rfl, hq0⟩ := len_cons hvl
            obtain ⟨v1, t1, rfl, hq1⟩ := len_cons hq0
            obtain ⟨v2, t2, rfl, hq2⟩ := len_cons hq1
            obtain ⟨v3, t3, rfl, hq3⟩ := len_cons hq2
            obtain ⟨v4, t4, rfl, hq4⟩ := len_cons hq3
            obtain ⟨v5, t5, rfl, hq5⟩ := len_cons hq4
            obtain ⟨v6, t6, rfl, hq6⟩ := len_cons hq5
            obtain ⟨v7, t7, rfl, hq7⟩ := len_cons hq6
            obtain ⟨v8, t8, rfl, hq8⟩ := len_cons hq7
            obtain ⟨v9, t9, rfl, hq9⟩ := len_cons hq8
            obtain ⟨v10, t10, rfl, hq10⟩ := len_cons hq9
            obtain ⟨v11, t11, rfl, hq11⟩ := len_cons hq10
            obtain ⟨v12, t12, rfl, hq12⟩ := len_cons hq11
            obtain ⟨v13, t13, rfl, hq13⟩ := len_cons hq12
            obtain ⟨v14, t14, rfl, hq14⟩ := len_cons hq13
            obtain rfl := List.length_eq_zero_iff.1 hq14
            have e13 : v13 = .bool true := hPre 13 (by decide)
            subst e13
            obtain ⟨f, rfl⟩ : ∃ f, fuel = f + 1 := ⟨fuel - 1, by
              have : 1 ≤ fuel := hfu
              omega⟩
            simp only [dstsOf, List.map_cons, List.map_nil, fillT, List.setIfInBounds_toArray, List.set_cons_zero, List.set_cons_succ]
            have HEND := Lib.hid ((HSR.out.next hB).below)
            clear hPre hq0 hq1 hq2 hq3 hq4 hq5 hq6 hq7 hq8 hq9 hq10 hq11 hq12 hq13 hq14 hvl hfu hB hO
            refine wpAny_ready (rs := [14]) (by kernel_rfl) (by simp) ?_
            refine AllReady.cons rfl (fun K hK => ?_) AllReady.nil
            have HK := Lib.hid hK
            clear hK
            go_simp
            refine HK.out _ _ ?_
            clear HK K
            refine wpAny_done (by kernel_rfl) ?_ _
            go_wp2_with fail
            go_ret
            exact ⟨rfl, HEND.out⟩
        · have HTB := Lib.hid ((raise_ban hLev.out hLev'.out HR.out).resolve_left heq)
          obtain ⟨s1, hs1⟩ : ∃ s, actV x true bBan = s := ⟨_, rfl⟩
          obtain ⟨s2, hs2⟩ : ∃ s, actV x' true bBan = s := ⟨_, rfl⟩
          have HS1 := Lib.hid hs1; have HS2 := Lib.hid hs2
          have h12 : (s1 == s2) = false := int_eq_f (by rw [← hs1, ← hs2]; exact heq)
          clear hs1 hs2 heq
          refine region_vals2 [.val (.bool true), .val (.bool true), .val (.agg #[.int .i64 x.f0, .int .i64 x.f1, .string x.f2, .slice A1 x.f3.length a1, .slice C1 x.f4.length c1]), .val (.int .i64 s1), .val (.agg #[.int .i64 x'.f0, .int .i64 x'.f1, .string x'.f2, .slice A2 x'.f3.length a2, .slice C2 x'.f4.length c2]), .val (.int .i64 s2), .val (.bool false), .val (.bool false), .val (.agg #[.int .i64 x.f0, .int .i64 x.f1, .string x.f2, .slice A1 x.f3.length a1, .slice C1 x.f4.length c1]), .val (.agg #[.int .i64 x'.f0, .int .i64 x'.f1, .string x'.f2, .slice A2 x'.f3.length a2, .slice C2 x'.f4.length c2]), .val (.int .i64 lv), .val (.bool true), .val (.bool true), .val (.bool true)] 14 (by kernel_rfl) (by kernel_rfl) ?_ ?_
          · intro i hi
            have : i = 0 ∨ i = 1 ∨ i = 2 ∨ i = 3 ∨ i = 4 ∨ i = 5 ∨ i = 6 ∨ i = 7 ∨ i = 8 ∨ i = 9 ∨ i = 10 ∨ i = 11 ∨ i = 12 ∨ i = 13 := by omega
            rcases this with rfl | rfl | rfl | rfl | rfl | rfl | rfl | rfl | rfl | rfl | rfl | rfl | rfl | rfl
            · refine mk_call rfl rfl rfl eg11 (fun own a W hB hO hK hD => ?_)
              refine (known_any W (HTD.out.below hB (Nat.le_refl _))).mono ?_
              rintro e W' ⟨rfl, hb⟩
              exact ⟨_, rfl, rfl, hb⟩
            · refine mk_run rfl rfl rfl (fun own a W hB hK hD => ?_)
              have g1 : a.tmps.getD 78 undef = _ := hD 0 78 (by kernel_rfl) rfl
              show Sem.run _ (pure (Next.value (a.tmps.getD 78 undef))) W = _
              rw [g1]
              rfl
            · exact mk_loadG rfl rfl rfl rfl (by kernel_rfl) rfl rfl (by kernel_rfl) hc1 ⟨rfl, rfl, rfl, rfl, rfl⟩ rfl
            · refine mk_callG rfl rfl rfl rfl (by kernel_rfl) rfl eg15 (fun own a W hB hO hK hD => ?_)
              have g1 : a.tmps.getD 80 undef = _ := hD 2 80 (by kernel_rfl) rfl
              show Calls _ _ #[a.tmps.getD 80 undef, .bool true, .string bBan] W _
              rw [g1]
              refine (act_has (hv1.below hB) hFit.out.1 bBan (by decide)).mono ?_
              rintro e W' ⟨rfl, hb⟩
              exact ⟨_, rfl, congrArg (Value.int .i64) HS1.out, hb⟩
            · exact mk_loadG rfl rfl rfl rfl (by kernel_rfl) rfl rfl (by kernel_rfl) hc2 ⟨rfl, rfl, rfl, rfl, rfl⟩ rfl
            · refine mk_callG rfl rfl rfl rfl (by kernel_rfl) rfl eg15 (fun own a W hB hO hK hD => ?_)
              have g1 : a.tmps.getD 82 undef = _ := hD 4 82 (by kernel_rfl) rfl
              show Calls _ _ #[a.tmps.getD 82 undef, .bool true, .string bBan] W _
              rw [g1]
              refine (act_has (hv2.below hB) hFit'.out.1 bBan (by decide)).mono ?_
              rintro e W' ⟨rfl, hb⟩
              exact ⟨_, rfl, congrArg (Value.int .i64) HS2.out, hb⟩
            · refine mk_runG rfl rfl rfl (by kernel_rfl) rfl rfl (fun own a W hB hK hD => ?_)
              have g1 : a.tmps.getD 81 undef = _ := hD 3 81 (by kernel_rfl) rfl
              have g2 : a.tmps.getD 83 undef = _ := hD 5 83 (by kernel_rfl) rfl
              show Sem.run _ (do pure (Next.value (← (do eqGuard .eql 2 (.tmp 81) (.tmp 83) (a.tmps.getD 81 undef) (a.tmps.getD 83 undef); binOp .eql 2 (a.tmps.getD 81 undef) (a.tmps.getD 83 undef))))) W = _
              rw [g1, g2]
              go_simp
            · refine mk_runG rfl rfl rfl (by kernel_rfl) rfl rfl (fun own a W hB hK hD => ?_)
              have g1 : a.tmps.getD 84 undef = _ := hD 6 84 (by kernel_rfl) rfl
              show Sem.run _ (pure (Next.value (a.tmps.getD 84 undef))) W = _
              rw [g1]
              rfl
            · exact mk_loadG rfl rfl rfl rfl (by kernel_rfl) rfl rfl (by kernel_rfl) hc1 ⟨rfl, rfl, rfl, rfl, rfl⟩ rfl
            · exact mk_loadG rfl rfl rfl rfl (by kernel_rfl) rfl rfl (by kernel_rfl) hc2 ⟨rfl, rfl, rfl, rfl, rfl⟩ rfl
            · refine mk_runG rfl rfl rfl (by kernel_rfl) rfl rfl (fun own a W hB hK hD => ?_)
              have g1 : a.tmps.getD 10 undef = .int .i64 lv := hK 10 (by decide)
              show Sem.run _ (pure (Next.value (a.tmps.getD 10 undef))) W = _
              rw [g1]
              rfl
            · refine mk_callG rfl rfl rfl rfl (by kernel_rfl) rfl eg30 (fun own a W hB hO hK hD => ?_)
              have g1 : a.tmps.getD 86 undef = _ := hD 8 86 (by kernel_rfl) rfl
              have g2 : a.tmps.getD 87 undef = _ := hD 9 87 (by kernel_rfl) rfl
              have g3 : a.tmps.getD 88 undef = _ := hD 10 88 (by kernel_rfl) rfl
              show Calls _ _ #[a.tmps.getD 86 undef, a.tmps.getD 87 undef, .string bBan, a.tmps.getD 88 undef] W _
              rw [g1, g2, g3]
              refine (turned_true (VF.any (hv1.below hB)) (VF.any (hv2.below hB)) bBan lv HTB.out.1 HTB.out.2).mono ?_
              rintro e W' ⟨rfl, hb⟩
              exact ⟨_, rfl, rfl, hb⟩
            · refine mk_runG rfl rfl rfl (by kernel_rfl) rfl rfl (fun own a W hB hK hD => ?_)
              have g1 : a.tmps.getD 85 undef = _ := hD 7 85 (by kernel_rfl) rfl
              have g2 : a.tmps.getD 89 undef = _ := hD 11 89 (by kernel_rfl) rfl
              show Sem.run _ (do pure (Next.value (if ← asBool (a.tmps.getD 85 undef) then (.bool true) else a.tmps.getD 89 undef))) W = _
              rw [g1, g2]
              rfl
            · refine mk_run rfl rfl rfl (fun own a W hB hK hD => ?_)
              have g1 : a.tmps.getD 79 undef = _ := hD 1 79 (by kernel_rfl) rfl
              have g2 : a.tmps.getD 90 undef = _ := hD 12 90 (by kernel_rfl) rfl
              show Sem.run _ (do pure (Next.value (if ← asBool (a.tmps.getD 79 undef) then (a.tmps.getD 90 undef) else (.bool false)))) W = _
              rw [g1, g2]
              rfl
          · intro own vs W9 fuel hB hO hPre hvl hfu
            obtain ⟨v0, t0, rfl, hq0⟩ := len_cons hvl
            obtain ⟨v1, t1, rfl, hq1⟩ := len_cons hq0
            obtain ⟨v2, t2, rfl, hq2⟩ := len_cons hq1
            obtain ⟨v3, t3, rfl, hq3⟩ := len_cons hq2
            obtain ⟨v4, t4, rfl, hq4⟩ := len_cons hq3
            obtain ⟨v5, t5, rfl, hq5⟩ := len_cons hq4
            obtain ⟨v6, t6, rfl, hq6⟩ := len_cons hq5
            obtain ⟨v7, t7, rfl, hq7⟩ := len_cons hq6
            obtain ⟨v8, t8, rfl, hq8⟩ := len_cons hq7
            obtain ⟨v9, t9, rfl, hq9⟩ := len_cons hq8
            obtain ⟨v10, t10, rfl, hq10⟩ := len_cons hq9
            obtain ⟨v11, t11, rfl, hq11⟩ := len_cons hq10
            obtain ⟨v12, t12, rfl, hq12⟩ := len_cons hq11
            obtain ⟨v13, t13, rfl, hq13⟩ := len_cons hq12
            obtain ⟨v14, t14, rfl, hq14⟩ := len_cons hq13
            obtain rfl := List.length_eq_zero_iff.1 hq14
            have e13 : v13 = .bool true := hPre 13 (by decide)
            subst e13
            obtain ⟨f, rfl⟩ : ∃ f, fuel = f + 1 := ⟨fuel - 1, by
              have : 1 ≤ fuel := hfu
              omega⟩
            simp only [dstsOf, List.map_cons, List.map_nil, fillT, List.setIfInBounds_toArray, List.set_cons_zero, List.set_cons_succ]
            have HEND := Lib.hid ((HSR.out.next hB).below)
            clear hPre hq0 hq1 hq2 hq3 hq4 hq5 hq6 hq7 hq8 hq9 hq10 hq11 hq12 hq13 hq14 hvl hfu hB hO
            refine wpAny_ready (rs := [14]) (by kernel_rfl) (by simp) ?_
            refine AllReady.cons rfl (fun K hK => ?_) AllReady.nil
            have HK := Lib.hid hK
            clear hK
            go_simp
            refine HK.out _ _ ?_
            clear HK K
            refine wpAny_done (by kernel_rfl) ?_ _
            go_wp2_with fail
            go_ret
            exact ⟨rfl, HEND.out⟩
  · go_wp2_with fail
    refine (known_any _ HS.out.t).mono ?_
    rintro e w8 ⟨rfl, hb⟩
    go_wp2_with fail
    go_ret
    exact ⟨rfl, (HS.out.next hb).below⟩
set_option maxRecDepth 100000 in
theorem powerRaise_walk (a0 : Option Addr) (len0 cap0 : Nat) (z0 : List Int) (a1 : Option Addr) (len1 cap1 : Nat) (z1 : List Int) (a2 : Int) (W : World)
    (x0 : z0.length = len0) (y0 : RowAt W a0 (z0.map (.int .u8))) (u0 : ∀ z ∈ z0, (Lit.int .u8 z).wf = true) (b0 : len0 * 1 ≤ 140737488351232) (c0 : len0 ≤ cap0) (m0 : cap0 ≤ maxLen)
    (x1 : z1.length = len1) (y1 : RowAt W a1 (z1.map (.int .u8))) (u1 : ∀ z ∈ z1, (Lit.int .u8 z).wf = true) (b1 : len1 * 1 ≤ 140737488351232) (c1 : len1 ≤ cap1) (m1 : cap1 ≤ maxLen)
    (u2 : (Lit.int .u8 a2).wf = true) (hT : Tabs W) :
    Calls Tryd.prog 7 #[.slice a0 len0 cap0, .slice a1 len1 cap1, .int .u8 a2] W fun e w' => e = .returned (.bool true) ∧ Below W.heap.size W w' := by
  obtain ⟨l, hl, hy⟩ := bytes8_row y0 u0
  obtain ⟨l', hl', hy'⟩ := bytes8_row y1 u1
  obtain ⟨k, rfl, hk⟩ := u8_int u2
  have h := raise_go a0 cap0 l a1 cap1 l' k hk W (by omega) (by omega) hy hy' hT
  rw [hl, hl', x0, x1] at h
  exact h
end Go.Proofs.YtkdicgendcdooaaDoor

/-
  The row of the law PowerRaise: whatever the input, it answers true and leaves its arguments as they were; out of its walk.
-/
namespace Go.Proofs.YtkdicgendcdooaaDoor.powerRaise
open Go.ChangeShapes Go.WideShapes Go.ChangeAt Go.RowKit
open Go.ChangeMaps (open_string shut_string)
theorem own : ownKnob Tryd.prog.godebug = none := by kernel_rfl
theorem laidOut : laidOutB Tryd.prog = true := by kernel_rfl
set_option maxRecDepth 100000 in
theorem lifted (os : Os) (started : os.Started) (H : Type) (enc : TypeId × Value → H) :
    ReturnsInHanded {} Tryd.checked os 7 .any (fun w args => (Rows.powerRaiseSpec.pre enc Tryd.prog Tryd.f7 Rows.powerRaiseRow.domain false w args ∧ laidMetH Tryd.prog Rows.powerRaiseRow.laid w) ∧ sizedMet enc Tryd.prog Tryd.f7 (OpenSpec.ofChange Rows.powerRaiseSpec) false w args)
      (Rows.powerRaiseSpec.post enc Tryd.prog Tryd.f7 false true false false) := by
  refine returnsInHanded_of_change_and (C := Tryd.checked) (X := fun w _ => laidMetH Tryd.prog Rows.powerRaiseRow.laid w) (fun _ _ _ hh h => h.of_heap hh) own started (by kernel_rfl) Tryd.func7
    (ChangeSpec.witness_shaped (enc := enc) (C := Tryd.checked) (os := os) (X := fun w _ => laidMetH Tryd.prog Rows.powerRaiseRow.laid w) false (World.laidAll Tryd.prog os Rows.powerRaiseRow.laid) #[.slice none 0 0, .slice none 0 0, .int .u8 0] 8 (World.laidAll_os _ _ _)
      (World.shaped_of_ZipB (by kernel_rfl) (by kernel_rfl)) (by kernel_rfl) (by kernel_rfl) (by kernel_rfl)
      (by rw [MakeChecks.laidMetH_plain _ _ _ (by kernel_rfl)]; exact laidMet_laidAll _ (by kernel_rfl) (by kernel_rfl))) ?_
  intro W base args ds gs before hval0 hW _ hsz0 hL _
  have hsz : (DataW.weightsEach Tryd.prog (Tryd.f7.params.toList ++ Rows.powerRaiseSpec.plain.varTypes Tryd.prog) (ds ++ gs)).all (· ≤ reachBytes) = true := hsz0
  have hval : ∀ (j : Nat) t v, Tryd.f7.params[j]? = some t → args[j]? = some v → Value.okWide Tryd.prog W .any base t v := hval0
  have hW' := hW
  obtain ⟨p, q, hA0, hV, rfl, hfz, hnd⟩ := hW
  have hA : DataW.TrodAll enc Tryd.prog W 0 (fun _ => true) true Tryd.f7.params.toList args.toList ds p := hA0
  rw [Tryd.params7] at hA hval hsz
  obtain ⟨v0, vs0, d0, ds0, p0, q0, hargs, rfl, rfl, h0, r0⟩ := trodAll_cons hA
  obtain ⟨v1, vs1, d1, ds1, p1, q1, rfl, rfl, rfl, h1, r1⟩ := trodAll_cons r0
  obtain ⟨v2, vs2, d2, ds2, p2, q2, rfl, rfl, rfl, h2, r2⟩ := trodAll_cons r1
  obtain ⟨rfl, rfl, rfl⟩ := trodAll_nil r2
  obtain rfl : args = #[v0, v1, v2] := by cases args; simp_all
  obtain ⟨rfl, rfl⟩ := trodVars_none hV
  obtain ⟨a0, len0, cap0, rfl⟩ := okWide_slice Tryd.underlying22 (hval 0 22 v0 rfl rfl)
  have k0 := h0
  have lt0 : ∀ x ∈ p0, x.block < W.heap.size := by obtain ⟨m, hm⟩ := k0; exact DataW.trod_lt m _ _ _ hm
  obtain ⟨z0, x0, y0, u0, b0, c0, m0⟩ := open_nums hsz (j := 0) (t := 22) rfl rfl Tryd.underlying22 Tryd.underlying5 (by kernel_rfl) (B := 1) (by kernel_rfl) h0
  obtain ⟨a1, len1, cap1, rfl⟩ := okWide_slice Tryd.underlying22 (hval 1 22 v1 rfl rfl)
  have k1 := h1
  have lt1 : ∀ x ∈ p1, x.block < W.heap.size := by obtain ⟨m, hm⟩ := k1; exact DataW.trod_lt m _ _ _ hm
  obtain ⟨z1, x1, y1, u1, b1, c1, m1⟩ := open_nums hsz (j := 1) (t := 22) rfl rfl Tryd.underlying22 Tryd.underlying5 (by kernel_rfl) (B := 1) (by kernel_rfl) h1
  obtain ⟨a2, rfl, rfl, rfl, w2⟩ := open_int Tryd.underlying5 (hval 2 5 v2 rfl rfl) h2
  have hLF := tabs_laid hL
  refine (powerRaise_walk a0 len0 cap0 z0 a1 len1 cap1 z1 a2 W x0 y0 u0 b0 c0 m0 x1 y1 u1 b1 c1 m1 w2 hLF).mono fun e W' ⟨he, bel⟩ => ?_
  subst he
  exact ⟨_, rfl, _, _, _, [], _, [], hW', trodAll_mk1 (shut_bool Tryd.underlying4 _), (trodAll_cons_mk (Below.trod laidOut (by kernel_rfl) (of_decide_eq_true (by kernel_rfl)) k0 bel lt0) (trodAll_cons_mk (Below.trod laidOut (by kernel_rfl) (of_decide_eq_true (by kernel_rfl)) k1 bel lt1) (trodAll_cons_mk (shut_int Tryd.underlying5 w2) trodAll_mk0))), rfl, bel.frame _, fun h => by cases h⟩
theorem over : Rows.powerRaiseRow.holds Tryd.pinned (OpenSpec.ofChange Rows.powerRaiseSpec) :=
  OpenClaim.holds_of_wide 7 Tryd.f7 rfl rfl rfl rfl rfl rfl rfl ⟨rfl, rfl, rfl, rfl, rfl⟩ rfl rfl rfl rfl rfl (by kernel_rfl) Tryd.func7 (by kernel_rfl)
    (of_decide_eq_true (by kernel_rfl)) (by unfold Func.isWrapper; first | (rw [if_pos (by decide +kernel)]; kernel_rfl) | (rw [if_neg (by decide +kernel)]; exact ⟨rfl, rfl⟩))
    (fun os started H enc _ => lifted os started H enc)
theorem card : Rows.PowerRaiseCardSaid :=
  Claim7.holds_tied_plain_at .later [] [.listed, .data] true (true, "4f1c08a675811627051cff13577676a97a6e49129b751d86a50caffb64183432") false over (fun _ h => by cases h) (by kernel_rfl) (fun _ h => by cases h) powerRaise_row_tie rfl ⟨rfl, rfl⟩ (by kernel_rfl) rfl
    (fun f fn hf hfn => by
      obtain rfl : f = 7 := Option.some.inj ((show Tryd.prog.funcNamed "heliast/heliastlaw14.PowerRaise" = some 7 by kernel_rfl).symm.trans hf) |>.symm
      obtain rfl : fn = Tryd.f7 := (Option.some.inj (Tryd.func7.symm.trans hfn)).symm
      exact ⟨by kernel_rfl, fun j t ht => by
        rw [Tryd.params7] at ht
        have hm : t ∈ [22, 22, 5] := by simpa using Array.mem_of_getElem? ht
        have hall : ([22, 22, 5].all fun u => !Tryd.prog.wantsStandIn u) = true := by kernel_rfl
        exact (show Tryd.prog.wantsStandIn t = false by simpa using List.all_eq_true.1 hall t hm)⟩)
    (by kernel_rfl)
end Go.Proofs.YtkdicgendcdooaaDoor.powerRaise
namespace Go.Proofs.YtkdicgendcdooaaDoor
/-- The row, under a short name. -/
theorem powerRaise_holds : Rows.PowerRaiseCardSaid := powerRaise.card
#print axioms powerRaise_holds
end Go.Proofs.YtkdicgendcdooaaDoor

