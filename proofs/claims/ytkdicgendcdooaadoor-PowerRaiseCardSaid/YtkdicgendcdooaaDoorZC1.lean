/-
  Texts of this session, merged in build order: PValid, PAct, PKnown, PLaid, NBase, NCut, NOf, NParts, NUser, PCom.
-/
import Derived.Test.YtkdicgendcdooaaDoorZC0
import Derived.Lib.SmallJoins
import Derived.Maps.OwnOps
import Derived.Maps.Own
import Derived.Maps.OwnSet
import Derived.StringKeys
import Derived.Maps.Views
import Derived.Test.YtkdicgendcdooaaDoorRows
import Derived.Lib.LaidTab
import Derived.PinnedBridge
import Derived.LaidMore
import Derived.Stop.LaidErr
import Derived.WalkKit
import Derived.BigCall
import Derived.BigQuiet
import Derived.Deep.QuietTactic
import Derived.Lib.Hide
import Derived.Lib.OthersKept
import Derived.Laws.RangeAny
import Derived.OwnWalk
import Derived.Maps.AppendAt
set_option linter.unusedVariables false
set_option linter.unusedSimpArgs false
/-
  power's Valid.
-/
namespace Go.Proofs.YtkdicgendcdooaaDoor
open Go.RowKit Go.Lib Go.Proofs.YtkdicgendcdooaaDoorW.PrintWords
set_option linter.unusedSimpArgs false
set_option linter.unusedVariables false
abbrev bInviteK : ByteArray := ⟨#[105, 110, 118, 105, 116, 101]⟩
abbrev bPlain : ByteArray := ⟨#[98, 97, 110, 32, 101, 118, 101, 110, 116, 115, 95, 100, 101, 102, 97, 117, 108, 116, 32, 105, 110, 118, 105, 116, 101, 32, 107, 105, 99, 107, 32, 115, 116, 97, 116, 101, 95, 100, 101, 102, 97, 117, 108, 116, 32, 117, 115, 101, 114, 115, 95, 100, 101, 102, 97, 117, 108, 116]⟩
def plainL : List ByteArray := [bBan, bEventsDefault, bInviteK, bKick, bStateDefault, bUsersDefault]
def Tabs (w : World) : Prop := Lib.TabIs Tryd.prog w "strings.asciiSpace" .u8 Lib.asciiSpaceTab
theorem Tabs.below {w w' : World} {B : Nat} (h : Tabs w) (hb : Below B w w') (hB : w.heap.size ≤ B) : Tabs w' := Go.Joins.tab_stays (g := Tryd.lays157_ren.g 0) (by kernel_rfl) h hb hB
def okKey (x : V) (k : ByteArray) : Bool := (getV x k).isNone || (atV x k).isSome
def validV (x : V) (uok : ByteArray → Bool) : Bool := plainL.all (okKey x) && decide (x.f0 = 5) && tableV x uok bUsers && tableV x (fun _ => true) bEvents
theorem eg37 (args : Array Value) (w : World) : (callFunc 37 args).run Tryd.prog w = .ok (.enter 37 args) w := enters_of Tryd.func37 (by rfl) (by rfl) args w
theorem eg38 (args : Array Value) (w : World) : (callFunc 38 args).run Tryd.prog w = .ok (.enter 38 args) w := enters_of Tryd.func38 (by rfl) (by rfl) args w
theorem fields_plain (w : World) (hT : Tabs w) : Calls Tryd.prog 34 #[.string bPlain] w fun e w' => e = .returned (.slice (some ⟨w.heap.size, 0, none⟩) 6 6) ∧ w' = w.alloc (.cells #[.string bBan, .string bEventsDefault, .string bInviteK, .string bKick, .string bStateDefault, .string bUsersDefault] 9) := by
  have h := Tryd.strings_Fields bPlain w (by decide) (fun j b hb => by
    have hm := List.mem_of_getElem? hb
    have ha : ∀ b ∈ bPlain.data.toList, b.toNat < 128 := by decide
    exact ha b hm) hT
  have e : Lib.fields bPlain.data.toList = plainL.map (fun s => s.data.toList) := by decide
  rw [e] at h
  exact h
set_option maxRecDepth 100000 in
theorem yes_any (k : ByteArray) (w : World) : Calls Tryd.prog 38 #[.string k] w (EndI w (.bool true)) := by
  go_enter Tryd.func38, Tryd.ntmps38
  go_wp2_with fail
  go_ret
  exact ⟨rfl, Below.refl _ w⟩
theorem plain_cell {W : World} {p : Nat} (h : W.heap[p]? = some (.cells #[.string bBan, .string bEventsDefault, .string bInviteK, .string bKick, .string bStateDefault, .string bUsersDefault] 9 (0, 0))) (k : Nat) (hk : k < plainL.length) : W.cell? ⟨p, k, none⟩ = some (.string plainL[k]) := by
  unfold World.cell?
  rw [h]
  match k, hk with
  | 0, _ => rfl
  | 1, _ => rfl
  | 2, _ => rfl
  | 3, _ => rfl
  | 4, _ => rfl
  | 5, _ => rfl
theorem level_is (a : Int) (b : Bool) (w : World) : (Instr.field 58 (.agg #[.int .i64 a, .bool b]) 1).run Tryd.prog w = .ok (.bool b) w := by kernel_rfl
set_option maxRecDepth 100000 in
set_option maxHeartbeats 1000000 in
theorem valid_any {w : World} {ok : Nat → Prop} {x : V} {v : Value} (h : VF w ok x v) (hf : Fit x) (hT : Tabs w) (uok : ByteArray → Bool)
    (hU : ∀ y, getV x bUsers = some y → ∀ k ∈ y.f3, ∀ W, Below w.heap.size w W → Calls Tryd.prog 37 #[.string k] W (EndI W (.bool (uok k)))) :
    Calls Tryd.prog 16 #[v] w (EndI w (.bool (validV x uok))) := by
  obtain ⟨A3, c3, A4, c4, rfl, h3, f3, h4, f4⟩ := h.open_
  have HG := Lib.hid (fun w' (hb : Below w.heap.size w w') key => get_any (h.below hb) hf key)
  have HA := Lib.hid (fun w' (hb : Below w.heap.size w w') key => at_any (h.below hb) hf key)
  have HT1 := Lib.hid (fun w' (hb : Below w.heap.size w w') => table_any (h.below hb) hf bUsers 37 #[] uok eg37 (fun y hy k hk W hW => by rw [Array.append_empty]; exact hU y hy k hk W (hb.trans (hW.mono hb.size))))
  have HT2 := Lib.hid (fun w' (hb : Below w.heap.size w w') => table_any (h.below hb) hf bEvents 38 #[] (fun _ => true) eg38 (fun y hy k hk W hW => by rw [Array.append_empty]; exact yes_any k W))
  have HF := Lib.hid (fields_plain (w.alloc (.cells #[.int .i64 x.f0, .int .i64 x.f1, .string x.f2, .slice A3 x.f3.length c3, .slice A4 x.f4.length c4] 27)) (hT.below ((Below.refl _ w).alloc (Nat.le_refl _) _) (Nat.le_refl _)))
  rw [World.size_alloc] at HF
  obtain ⟨t, ht⟩ : ∃ t, validV x uok = t := ⟨_, rfl⟩
  have HTT := Lib.hid ht
  rw [ht]
  clear ht h f3 f4 h3 h4 hU hT
  go_enter Tryd.func16, Tryd.ntmps16
  go_wp2_with fail
  refine HF.out.mono ?_
  clear HF
  rintro e W1 ⟨rfl, hW1⟩
  have hx : W1.heap[w.heap.size]? = some (.cells #[.int .i64 x.f0, .int .i64 x.f1, .string x.f2, .slice A3 x.f3.length c3, .slice A4 x.f4.length c4] 27 (0, 0)) := by rw [hW1]; exact (heap_alloc_old _ _ (by rw [World.size_alloc]; omega)).trans (heap_alloc_new _ _)
  have hk := hW1 ▸ heap_alloc_new (w.alloc (.cells #[.int .i64 x.f0, .int .i64 x.f1, .string x.f2, .slice A3 x.f3.length c3, .slice A4 x.f4.length c4] 27)) (.cells #[.string bBan, .string bEventsDefault, .string bInviteK, .string bKick, .string bStateDefault, .string bUsersDefault] 9)
  rw [World.size_alloc] at hk
  have hs1 : W1.heap.size = w.heap.size + 2 := by rw [hW1]; simp
  have hb1 : Below w.heap.size w W1 := by rw [hW1]; exact ((Below.refl _ w).alloc (Nat.le_refl _) _).alloc (by simp) _
  clear hW1
  obtain ⟨g0, g1, g2, g3, g4⟩ := cells5v hx
  have hkc := Lib.hid (fun k hkl => plain_cell hk k hkl)
  have HB1 := Lib.hid hb1
  have HS1 := Lib.hid hs1
  clear hk hx hb1 hs1
  go_wp2_with fail
  go_loopw [9] (fun i wr => ∃ k : Nat, k ≤ 6 ∧ i = .int .i64 k ∧ (∀ j (hj : j < plainL.length), j < k → okKey x plainL[j] = true) ∧ Below W1.heap.size W1 wr) (fun i _ => 6 - (intOf i).toNat)
  case atStart => exact ⟨0, by omega, rfl, fun j _ h => absurd h (Nat.not_lt_zero _), Below.refl _ _⟩
  case round =>
    obtain ⟨k, hk, rfl, ht, hbl⟩ := hrel
    have HO := Lib.hid ht
    have HB := Lib.hid hbl
    have hbw : Below w.heap.size w wr := HB1.out.trans (hbl.mono HB1.out.size)
    have f0 := (hbl.cell (p := ⟨w.heap.size, 0, none⟩) (by rw [HS1.out]; simp)).trans g0
    have f1 := (hbl.cell (p := ⟨w.heap.size, 1, none⟩) (by rw [HS1.out]; simp)).trans g1
    have f2 := (hbl.cell (p := ⟨w.heap.size, 2, none⟩) (by rw [HS1.out]; simp)).trans g2
    have f3 := (hbl.cell (p := ⟨w.heap.size, 3, none⟩) (by rw [HS1.out]; simp)).trans g3
    have f4 := (hbl.cell (p := ⟨w.heap.size, 4, none⟩) (by rw [HS1.out]; simp)).trans g4
    have hsz := hbl.size
    have HBW := Lib.hid hbw
    have hhl : w.heap.size < wr.heap.size := by have := HS1.out; omega
    clear ht hbl hbw g0 g1 g2 g3 g4
    by_cases hlt : k < 6
    · have hk2 : k < plainL.length := hlt
      have c1 := (HB.out.cell (p := ⟨w.heap.size + 1, k, none⟩) (by rw [HS1.out]; simp)).trans (hkc.out k hk2)
      obtain ⟨s1, hs1⟩ : ∃ s1, plainL[k] = s1 := ⟨_, rfl⟩
      rw [hs1] at c1
      have Hs1 := Lib.hid hs1
      have hki : (k : Int) < 6 := by omega
      clear hs1 hsz
      have hgo := HG.out _ HBW.out s1
      obtain ⟨r, hr⟩ : ∃ r, getV x s1 = r := ⟨_, rfl⟩
      rw [hr] at hgo
      have HR := Lib.hid hr
      clear hr
      go_wp2_with fail
      refine hgo.mono ?_
      clear hgo
      rintro e W3 ⟨v, rfl, hv, hb⟩
      obtain ⟨D3, q3, D4, q4, rfl, _⟩ := hv.open_
      have HB3 := Lib.hid (HB.out.trans (hb.mono HB.out.size))
      have HBW3 := Lib.hid (HBW.out.trans (hb.mono HBW.out.size))
      have d0 := (hb.cell (p := ⟨w.heap.size, 0, none⟩) hhl).trans f0
      have d1 := (hb.cell (p := ⟨w.heap.size, 1, none⟩) hhl).trans f1
      have d2 := (hb.cell (p := ⟨w.heap.size, 2, none⟩) hhl).trans f2
      have d3 := (hb.cell (p := ⟨w.heap.size, 3, none⟩) hhl).trans f3
      have d4 := (hb.cell (p := ⟨w.heap.size, 4, none⟩) hhl).trans f4
      have hhl3 : w.heap.size < W3.heap.size := by have := hb.size; omega
      clear hb hv f0 f1 f2 f3 f4 hhl
      cases r with
      | none =>
        have HOK : Hid (okKey x plainL[k] = true) := Lib.hid (by rw [Hs1.out]; unfold okKey; rw [HR.out]; rfl)
        simp only [Option.getD_none, Option.isSome_none]
        go_wp2_with fail
        go_round
        case rel => exact ⟨k + 1, by omega, by go_num, fun j hj hjk => by
          rcases Nat.lt_succ_iff_lt_or_eq.1 hjk with h | h
          · exact HO.out j hj h
          · subst h
            exact HOK.out, HB3.out.alloc HB3.out.size _⟩
        case measure => simp [intOf]; omega
      | some y =>
        simp only [Option.getD_some, Option.isSome_some]
        go_wp2_with fail
        refine (HA.out _ (HBW3.out.alloc HBW3.out.size _) s1).mono ?_
        obtain ⟨b, hb⟩ : ∃ b, (atV x s1).isSome = b := ⟨_, rfl⟩
        rw [hb]
        have HAS := Lib.hid hb
        clear hb
        rintro e W4 ⟨rfl, hb⟩
        have hfd := level_is ((atV x s1).getD 0) b W4
        have HB4 := Lib.hid ((HB3.out.alloc HB3.out.size (.cells #[.int .i64 y.f0, .int .i64 y.f1, .string y.f2, .slice D3 y.f3.length q3, .slice D4 y.f4.length q4] 27)).trans (hb.mono (by rw [World.size_alloc]; have := HB3.out.size; omega)))
        have HBW4 := Lib.hid ((HBW3.out.alloc HBW3.out.size (.cells #[.int .i64 y.f0, .int .i64 y.f1, .string y.f2, .slice D3 y.f3.length q3, .slice D4 y.f4.length q4] 27)).trans (hb.mono (by rw [World.size_alloc]; have := HBW3.out.size; omega)))
        clear hb
        cases b with
        | true =>
          have HOK : Hid (okKey x plainL[k] = true) := Lib.hid (by rw [Hs1.out]; unfold okKey; rw [HAS.out, Bool.or_true])
          go_wp2_with fail
          go_round
          case rel => exact ⟨k + 1, by omega, by go_num, fun j hj hjk => by
            rcases Nat.lt_succ_iff_lt_or_eq.1 hjk with h | h
            · exact HO.out j hj h
            · subst h
              exact HOK.out, HB4.out⟩
          case measure => simp [intOf]; omega
        | false =>
          have HOK : Hid (okKey x plainL[k] = false) := Lib.hid (by rw [Hs1.out]; unfold okKey; rw [HAS.out, HR.out]; rfl)
          have HN : Hid (t = false) := Lib.hid (by
            rw [← HTT.out]
            have : plainL.all (okKey x) = false := List.all_eq_false.2 ⟨plainL[k], List.getElem_mem hk2, by rw [HOK.out]; decide⟩
            unfold validV
            rw [this]
            rfl)
          go_wp2_with fail
          go_ret
          exact ⟨by rw [HN.out]; rfl, HBW4.out⟩
    · obtain rfl : k = 6 := by omega
      have hki : ¬ ((6 : Int) < 6) := by omega
      have HALL : Hid (plainL.all (okKey x) = true) := Lib.hid (List.all_eq_true.2 fun s hs => by
        obtain ⟨j, hj, rfl⟩ := List.getElem_of_mem hs
        exact HO.out j hj hj)
      have hsz2 := hhl
      by_cases hk5 : x.f0 = 5
      · have e5 := int_eq_t hk5
        have HT0 : Hid (t = (tableV x uok bUsers && tableV x (fun _ => true) bEvents)) := Lib.hid (by
          rw [← HTT.out]; unfold validV; rw [HALL.out, decide_eq_true hk5]; rfl)
        clear hk5
        go_wp2_with fail
        refine (HT1.out _ HBW.out).mono ?_
        obtain ⟨b, hb⟩ : ∃ b, tableV x uok bUsers = b := ⟨_, rfl⟩
        rw [hb] at HT0 ⊢
        clear hb
        rintro e W3 ⟨rfl, hb⟩
        have HBW3 := Lib.hid (HBW.out.trans (hb.mono HBW.out.size))
        cases b with
        | false =>
          clear hb
          go_wp2_with fail
          go_ret
          exact ⟨by rw [HT0.out]; rfl, HBW3.out⟩
        | true =>
          have d0 := (hb.cell (p := ⟨w.heap.size, 0, none⟩) hhl).trans f0
          have d1 := (hb.cell (p := ⟨w.heap.size, 1, none⟩) hhl).trans f1
          have d2 := (hb.cell (p := ⟨w.heap.size, 2, none⟩) hhl).trans f2
          have d3 := (hb.cell (p := ⟨w.heap.size, 3, none⟩) hhl).trans f3
          have d4 := (hb.cell (p := ⟨w.heap.size, 4, none⟩) hhl).trans f4
          have hhl3 : w.heap.size < W3.heap.size := by have := hb.size; omega
          clear hb f0 f1 f2 f3 f4 hhl hsz hsz2
          go_wp2_with fail
          refine (HT2.out _ HBW3.out).mono ?_
          obtain ⟨b, hb⟩ : ∃ b, tableV x (fun _ => true) bEvents = b := ⟨_, rfl⟩
          rw [hb] at HT0 ⊢
          clear hb
          rintro e W4 ⟨rfl, hb⟩
          go_wp2_with fail
          go_ret
          exact ⟨by rw [HT0.out]; rfl, HBW3.out.trans (hb.mono HBW3.out.size)⟩
      · have e5 := int_eq_f hk5
        have HT0 : Hid (t = false) := Lib.hid (by
          rw [← HTT.out]; unfold validV; rw [decide_eq_false hk5, Bool.and_false]; rfl)
        clear hk5
        go_wp2_with fail
        go_ret
        exact ⟨by rw [HT0.out]; rfl, HBW.out⟩
end Go.Proofs.YtkdicgendcdooaaDoor

/-
  What an act asks for, as the package power tells it.
-/
namespace Go.Proofs.YtkdicgendcdooaaDoor
open Go.RowKit Go.Lib Go.Maps Go.Proofs.YtkdicgendcdooaaDoorW.PrintWords
set_option linter.unusedSimpArgs false
set_option linter.unusedVariables false
def defA (name : ByteArray) : Int := if name = bBan ∨ name = bKick then 50 else 0
def actV (x : V) (has : Bool) (name : ByteArray) : Int := if has = true then (atV x name).getD (defA name) else defA name
theorem keyedA : Keyed Tryd.prog 9 := string_keyed Tryd.underlying9
theorem zeroA (w : World) : (zeroValue 2).run Tryd.prog w = .ok (.int .i64 0) w := by kernel_rfl
theorem keyA (s : ByteArray) (h : s.size ≤ maxLen) : keyOf Tryd.prog 9 (.string s) = some (.string s.data.toList) := Go.WideMaps.keyOf_string_mk Tryd.underlying9 h
theorem keyA_ne {a b : ByteArray} (h : a ≠ b) : (Lit.string a.data.toList) ≠ .string b.data.toList := fun e => h (by
  injection e with e
  exact ByteArray.ext (Array.toList_inj.1 e))
set_option maxRecDepth 100000 in
theorem act_map (W : World) (name : ByteArray) (hn : name.size ≤ maxLen) : ∃ W2 W3, (Instr.mapUpdate 61 (.map (some W.heap.size)) (.string ⟨#[98, 97, 110]⟩) (.int .i64 50)).run Tryd.prog (W.alloc (.map #[] 0)) = .ok () W2 ∧
    (Instr.mapUpdate 61 (.map (some W.heap.size)) (.string ⟨#[107, 105, 99, 107]⟩) (.int .i64 50)).run Tryd.prog W2 = .ok () W3 ∧ (Instr.lookup 61 (.map (some W.heap.size)) (.string name) false).run Tryd.prog W3 = .ok (.int .i64 (defA name)) W3 ∧ Below W.heap.size W W3 := by
  have h0 := World.ownsMap_made W Tryd.prog 9 (plainElem (H := Unit) Tryd.prog 2)
  have hv : plainElem (H := Unit) Tryd.prog 2 (.int .i64 50) = some (.lit (.int .i64 50), []) := plainElem_int Tryd.underlying2 (by decide)
  obtain ⟨W2, r2, h2, g2⟩ := h0.update keyedA Tryd.underlying61 (by decide) (key := .string bBan) (keyA bBan (by decide)) hv
  obtain ⟨W3, r3, h3, g3⟩ := h2.update keyedA Tryd.underlying61 (by decide) (key := .string bKick) (keyA bKick (by decide)) hv
  obtain ⟨c, rl, hc, _⟩ := h3.lookup_int keyedA Tryd.underlying61 Tryd.underlying2 (zeroA W3) (keyA name hn)
  have hB : Below W.heap.size W W3 := (((Below.refl _ W).alloc (Nat.le_refl _) _).grown g2 (by simp) (fun k e => by cases e; exact Nat.le_refl _)).grown g3 (by have := g2.size; simp at this; omega) (fun k e => by cases e; exact Nat.le_refl _)
  refine ⟨W2, W3, r2, r3, ?_, hB⟩
  have hcd : c = defA name := by
    unfold defA
    by_cases hk : name = bKick
    · rw [if_pos (.inr hk)]
      subst hk
      rw [atKey_put_same h2.isMap (by trivial)] at hc
      injection hc with hc
      injection hc with _ hc
      exact hc.symm
    · rw [atKey_put_other (keyA_ne hk)] at hc
      by_cases hb : name = bBan
      · rw [if_pos (.inl hb)]
        subst hb
        rw [atKey_put_same h0.isMap (by trivial)] at hc
        injection hc with hc
        injection hc with _ hc
        exact hc.symm
      · rw [atKey_put_other (keyA_ne hb)] at hc
        rw [if_neg (fun h => h.elim hb hk)]
        have hc : (DataW.lit (.int .i64 0) : DataW Unit) = .lit (.int .i64 c) := hc
        injection hc with hc
        injection hc with _ hc
        exact hc.symm
  rw [← hcd]
  exact rl
set_option maxRecDepth 100000 in
theorem act_no {w : World} {ok : Nat → Prop} {x : V} {v : Value} (h : VF w ok x v) (name : ByteArray) (hn : name.size ≤ maxLen) :
    Calls Tryd.prog 15 #[v, .bool false, .string name] w (EndI w (.int .i64 (actV x false name))) := by
  obtain ⟨A3, c3, A4, c4, rfl, h3, f3, h4, f4⟩ := h.open_
  have HT := Lib.hid (show actV x false name = defA name by unfold actV; rw [if_neg (by decide)])
  rw [HT.out]
  have hmm := @run_makeMap Tryd.prog
  obtain ⟨W2, W3, r2, r3, rl, hB⟩ := act_map (w.alloc (.cells #[.int .i64 x.f0, .int .i64 x.f1, .string x.f2, .slice A3 x.f3.length c3, .slice A4 x.f4.length c4] 27)) name hn
  rw [World.size_alloc] at r2 r3 rl
  have HB := Lib.hid (((Below.refl _ w).alloc (Nat.le_refl _) _).trans (hB.mono (by simp)))
  clear h f3 f4 h3 h4 hB
  go_enter Tryd.func15, Tryd.ntmps15
  go_wp2_with fail
  go_ret
  exact ⟨rfl, HB.out⟩
set_option maxRecDepth 100000 in
theorem act_has {w : World} {ok : Nat → Prop} {x : V} {v : Value} (h : VF w ok x v) (hf : Fit x) (name : ByteArray) (hn : name.size ≤ maxLen) :
    Calls Tryd.prog 15 #[v, .bool true, .string name] w (EndI w (.int .i64 (actV x true name))) := by
  obtain ⟨A3, c3, A4, c4, rfl, h3, f3, h4, f4⟩ := h.open_
  have HT := Lib.hid (show actV x true name = (atV x name).getD (defA name) by unfold actV; rw [if_pos rfl])
  rw [HT.out]
  have hmm := @run_makeMap Tryd.prog
  have HA := Lib.hid (fun w' (hb : Below w.heap.size w w') => at_any (h.below hb) hf name)
  obtain ⟨o, ho⟩ : ∃ o, atV x name = o := ⟨_, rfl⟩
  rw [ho] at HA ⊢
  obtain ⟨W2, W3, r2, r3, rl, hB⟩ := act_map (w.alloc (.cells #[.int .i64 x.f0, .int .i64 x.f1, .string x.f2, .slice A3 x.f3.length c3, .slice A4 x.f4.length c4] 27)) name hn
  have H3 := Lib.hid ((BoxV.new w (.int .i64 x.f0) (.int .i64 x.f1) (.string x.f2) (.slice A3 x.f3.length c3) (.slice A4 x.f4.length c4) 27).keep hB)
  rw [World.size_alloc] at r2 r3 rl
  obtain ⟨d0, d1, d2, d3, d4⟩ := H3.out.cells
  clear h f3 f4 h3 h4 hB ho hf
  go_enter Tryd.func15, Tryd.ntmps15
  go_wp2_with fail
  refine (HA.out _ H3.out.below).mono ?_
  rintro e w1 ⟨rfl, hb⟩
  have H4 := Lib.hid (H3.out.keep hb); clear hb d0 d1 d2 d3 d4
  go_wp2_with fail
  refine (or_any _ _ _).mono ?_
  rintro e w2 ⟨rfl, hb⟩
  have H5 := Lib.hid (H4.out.keep hb); clear hb
  go_wp2_with fail
  go_ret
  exact ⟨rfl, H5.out.below⟩
end Go.Proofs.YtkdicgendcdooaaDoor

/-
  The chapter's example.
-/
namespace Go.Proofs.YtkdicgendcdooaaDoor
open Go.RowKit Go.Lib Go.Proofs.YtkdicgendcdooaaDoorW.PrintWords
set_option linter.unusedSimpArgs false
set_option linter.unusedVariables false
theorem validV_obj (uok : ByteArray → Bool) : validV zObj uok = true := rfl
theorem validV_none (uok : ByteArray → Bool) : validV zV uok = false := rfl
abbrev uA : ByteArray := ⟨#[64, 97, 58, 115]⟩
abbrev uB : ByteArray := ⟨#[64, 98, 58, 115]⟩
set_option maxRecDepth 100000 in
set_option maxHeartbeats 1000000 in
theorem known_any (w : World) (hT : Tabs w) : Calls Tryd.prog 11 #[] w (EndI w (.bool true)) := by
  have c1 := Lib.hid (fun w' => level_no (w := w') (ok := Any) (VF.zero w' Any) uA uA)
  have c2 := Lib.hid (fun w' => level_no (w := w') (ok := Any) (VF.zero w' Any) uA uB)
  have c3 := Lib.hid (fun w' => act_no (w := w') (ok := Any) (VF.zero w' Any) bBan (by decide))
  have c4 := Lib.hid (fun w' (hT : Tabs w') => valid_any (w := w') (ok := Any) (VF.obj w' Any) Fit.obj hT (fun _ => true) (fun y hy => by cases hy))
  have c5 := Lib.hid (fun w' (hT : Tabs w') => valid_any (w := w') (ok := Any) (VF.zero w' Any) Fit.zero hT (fun _ => true) (fun y hy => by cases hy))
  have c6 := Lib.hid (fun w' => need_is (w := w') (ok := Any) (VF.obj w' Any) Fit.obj ⟨#[116]⟩ true)
  rw [validV_obj] at c4
  rw [validV_none] at c5
  rw [show levelV zV false uA uA = 100 from rfl] at c1
  rw [show levelV zV false uA uB = 0 from rfl] at c2
  rw [show actV zV false bBan = 50 from rfl] at c3
  rw [show needV zObj true ⟨#[116]⟩ true = 50 from rfl] at c6
  have h0 : Below w.heap.size w (w.alloc (.cells #[.int .i64 0, .int .i64 0, .string ⟨#[]⟩, .slice none 0 0, .slice none 0 0] 27)) := (Below.refl _ w).alloc (Nat.le_refl _) _
  have HT := Lib.hid hT
  clear hT
  go_enter Tryd.func11, Tryd.ntmps11
  go_wp2_with fail
  refine calls_let ?_
  intro W0 hW0
  have HX := Lib.hid (hW0 ▸ BoxV.new w (.int .i64 0) (.int .i64 0) (.string ⟨#[]⟩) (.slice none 0 0) (.slice none 0 0) 27)
  clear hW0 h0
  refine (c1.out _).mono ?_
  clear c1
  rintro e w1 ⟨rfl, hb⟩
  have H1 := Lib.hid (HX.out.keep hb)
  clear hb
  obtain ⟨d0, d1, d2, d3, d4⟩ := H1.out.cells
  have hlt := H1.out.lt
  go_wp2_with fail
  clear d0 d1 d2 d3 d4 hlt
  refine (c2.out _).mono ?_
  clear c2
  rintro e w2 ⟨rfl, hb⟩
  have H2 := Lib.hid (H1.out.keep hb)
  clear hb
  obtain ⟨d0, d1, d2, d3, d4⟩ := H2.out.cells
  have hlt := H2.out.lt
  go_wp2_with fail
  clear d0 d1 d2 d3 d4 hlt
  refine (c3.out _).mono ?_
  clear c3
  rintro e w3 ⟨rfl, hb⟩
  have H3 := Lib.hid (H2.out.keep hb)
  clear hb
  go_wp2_with fail
  refine (c4.out _ (HT.out.below H3.out.below (Nat.le_refl _))).mono ?_
  clear c4
  rintro e w4 ⟨rfl, hb⟩
  have H4 := Lib.hid (H3.out.keep hb)
  clear hb
  obtain ⟨d0, d1, d2, d3, d4⟩ := H4.out.cells
  have hlt := H4.out.lt
  go_wp2_with fail
  clear d0 d1 d2 d3 d4 hlt
  refine (c5.out _ (HT.out.below H4.out.below (Nat.le_refl _))).mono ?_
  clear c5
  rintro e w5 ⟨rfl, hb⟩
  have H5 := Lib.hid (H4.out.keep hb)
  clear hb
  go_wp2_with fail
  refine (c6.out _).mono ?_
  clear c6
  rintro e w6 ⟨rfl, hb⟩
  have H6 := Lib.hid (H5.out.keep hb)
  clear hb
  go_wp2_with fail
  go_ret
  exact ⟨rfl, H6.out.below⟩
end Go.Proofs.YtkdicgendcdooaaDoor

/-
  The listed table, as the walks want it.
-/
namespace Go.Proofs.YtkdicgendcdooaaDoor
open Go.RowKit Go.Lib Go.Shelf
theorem space_eq : (Rows.laid_strings_asciiSpace : DataW Unit) = tabData .u8 asciiSpaceTab := by kernel_rfl
theorem tabs_laid {W : World} (h : laidMetH Tryd.prog [("unicode.White_Space", Rows.laid_unicode_White_Space), ("strings.asciiSpace", Rows.laid_strings_asciiSpace)] W) : Tabs W := by
  rw [MakeChecks.laidMetH_plain _ _ _ (by kernel_rfl)] at h
  have h1 := laidMet.tail h
  rw [space_eq] at h1
  exact tabIs_of_head (g := 0) (t := 79) (e := 5) (n := 256) (by kernel_rfl) (by kernel_rfl) (by kernel_rfl) (by kernel_rfl) (by kernel_rfl) (by kernel_rfl) h1
end Go.Proofs.YtkdicgendcdooaaDoor

/-
  Small laws for the walks of names.
-/
namespace Go.Proofs.YtkdicgendcdooaaDoor
open Go.RowKit
set_option linter.unusedSimpArgs false
set_option linter.unusedVariables false
theorem below_drewN (w : World) (n : Nat) : Below w.heap.size w (w.drewN n) := ⟨rfl, rfl, rfl, Nat.le_refl _, fun _ _ => rfl⟩
def bkV : Option Nat → Int
  | none => -1
  | some k => (k : Nat)
def gMeas (P S p i f : Nat) : Nat := (S - f) * (P + S + 1) + (P - p) + (S - i)
theorem m_star {P S p i f : Nat} (hp : p < P) (hf : f ≤ i) : gMeas P S (p + 1) i i < gMeas P S p i f := by
  unfold gMeas
  have : (S - i) * (P + S + 1) ≤ (S - f) * (P + S + 1) := Nat.mul_le_mul_right _ (by omega)
  omega
theorem m_one {P S p i f : Nat} (hp : p < P) (hi : i < S) : gMeas P S (p + 1) (i + 1) f < gMeas P S p i f := by
  unfold gMeas
  omega
theorem m_back {P S p i f k : Nat} (hi : i < S) (hf : f ≤ i) : gMeas P S k (f + 1) (f + 1) < gMeas P S p i f := by
  unfold gMeas
  have e : S - f = (S - (f + 1)) + 1 := by omega
  rw [e, Nat.add_mul]
  omega
theorem int_toNat (n : Nat) : ((n : Int)).toNat = n := Int.toNat_natCast n
theorem at_data (s : ByteArray) (i : Nat) (h : i < s.size) : s.data.toList[i]? = some (s[i]'h) := by
  rw [List.getElem?_eq_getElem (by rw [Array.length_toList]; exact h)]
  rfl
theorem none_data (s : ByteArray) (i : Nat) (h : ¬ i < s.size) : s.data.toList[i]? = none := List.getElem?_eq_none (by rw [Array.length_toList]; have : s.data.size = s.size := rfl; omega)
theorem dropWhile_nil (p : UInt8 → Bool) (l : List UInt8) : l.dropWhile p = [] ↔ ∀ x ∈ l, p x = true := by
  induction l with
  | nil => simp
  | cons x l ih =>
    rw [List.dropWhile_cons]
    by_cases h : p x = true
    · simp [h, ih]
    · simp [h]
end Go.Proofs.YtkdicgendcdooaaDoor

/-
  strings.Cut at one byte, and names' closure, walked.
-/
namespace Go.Proofs.YtkdicgendcdooaaDoor
open Go.RowKit
set_option linter.unusedSimpArgs false
set_option linter.unusedVariables false
/-- What stands ahead of a byte, and behind it. -/
def cutB (l : List UInt8) (c : UInt8) : List UInt8 × List UInt8 × Bool := if l.contains c then (l.takeWhile (· != c), (l.dropWhile (· != c)).drop 1, true) else (l, [], false)
theorem indexByte_iff : ∀ (l : List UInt8) (c : UInt8), (0 ≤ Lib.indexByte l c ∧ l.contains c = true ∧ l.take (Lib.indexByte l c).toNat = l.takeWhile (· != c) ∧ l.drop ((Lib.indexByte l c).toNat + 1) = (l.dropWhile (· != c)).drop 1 ∧ (Lib.indexByte l c).toNat < l.length) ∨ (Lib.indexByte l c = -1 ∧ l.contains c = false)
  | [], c => .inr ⟨rfl, rfl⟩
  | b :: l, c => by
    unfold Lib.indexByte
    by_cases h : b = c
    · subst h
      simp
    · have h1 : (b == c) = false := by simpa using h
      have h2 : (c == b) = false := by simpa using (fun e => h e.symm)
      have h3 : (b != c) = true := by simpa using h
      rcases indexByte_iff l c with ⟨i1, i2, i3, i4, i5⟩ | ⟨i1, i2⟩
      · have h4 : (Lib.indexByte l c == -1) = false := by simp; omega
        obtain ⟨k, hk⟩ : ∃ k : Nat, Lib.indexByte l c = k := ⟨(Lib.indexByte l c).toNat, by omega⟩
        rw [hk] at i3 i4 i5 h4
        simp only [Int.toNat_natCast] at i3 i4 i5
        have e : ((k : Int) + 1).toNat = k + 1 := by omega
        refine .inl ?_
        rw [hk, if_neg (by simp [h1]), if_neg (by simp [h4]), e]
        refine ⟨by omega, by simp only [List.contains_cons, h2, i2, Bool.or_true], ?_, ?_, by simp; omega⟩
        · rw [List.take_succ_cons, List.takeWhile_cons, if_pos h3, i3]
        · rw [List.drop_succ_cons, List.dropWhile_cons, if_pos h3, i4]
      · refine .inr ⟨?_, by simp only [List.contains_cons, h2, i2, Bool.or_false]⟩
        rw [i1, if_neg (by simp [h1]), if_pos (by rfl)]
def bsL (l : List UInt8) : ByteArray := ⟨l.toArray⟩
theorem bsL_toList (l : List UInt8) : (bsL l).data.toList = l := by unfold bsL; simp
theorem bsL_size (l : List UInt8) : (bsL l).size = l.length := by unfold bsL; simp [ByteArray.size]
theorem bsL_data (s : ByteArray) : bsL s.data.toList = s := by unfold bsL; simp
theorem extract_bsL (s : ByteArray) (i j : Nat) : s.extract i j = bsL ((s.data.toList.take j).drop i) := by
  apply ByteArray.ext
  apply Array.toList_inj.mp
  rw [ByteArray.data_extract, Array.toList_extract, List.extract_eq_take_drop, bsL_toList, List.drop_take]
set_option maxRecDepth 100000 in
set_option maxHeartbeats 1000000 in
theorem litecut_any (s : ByteArray) (c : UInt8) (hs : s.size ≤ 1000000) (w : World) :
    Calls Tryd.prog 93 #[.string s, .string ⟨#[c]⟩] w fun e w' => e = .returned (.tuple #[.string (bsL (cutB s.data.toList c).1), .string (bsL (cutB s.data.toList c).2.1), .bool (cutB s.data.toList c).2.2]) ∧ Below w.heap.size w w' := by
  have hl : s.data.toList.length = s.size := Array.length_toList
  have hc1 : (⟨#[c]⟩ : ByteArray).size = 1 := rfl
  rcases indexByte_iff s.data.toList c with ⟨i1, i2, i3, i4, i5⟩ | ⟨i1, i2⟩
  · obtain ⟨k, hk⟩ : ∃ k : Nat, Lib.indexByte s.data.toList c = k := ⟨(Lib.indexByte s.data.toList c).toNat, by omega⟩
    rw [hk] at i3 i4 i5
    simp only [Int.toNat_natCast] at i3 i4 i5
    have hcall := fun w => Tryd.stringslite_Index_one s c w
    rw [hk] at hcall
    have hk1 : k < s.size := by omega
    have hk2 : (k : Int) ≤ (s.size : Int) := by omega
    have hk3 : (k : Int) + 1 ≤ (s.size : Int) := by omega
    have hk4 : IntKind.i64.wrap ((k : Int) + 1) = (k : Int) + 1 := by rw [IntKind.wrap_i64]; omega
    have r1 : s.extract 0 k = bsL (cutB s.data.toList c).1 := by unfold cutB; rw [if_pos i2, extract_bsL, ← i3]; rfl
    have r2 : s.extract (k + 1) s.size = bsL (cutB s.data.toList c).2.1 := by unfold cutB; rw [if_pos i2, extract_bsL, ← i4, ← hl, List.take_length]
    have r3 : (cutB s.data.toList c).2.2 = true := by unfold cutB; rw [if_pos i2]
    rw [← r1, ← r2, r3]
    have HC := Lib.hid hcall
    clear hcall r1 r2 r3 i1 i2 i3 i4 i5 hk hl
    go_enter Tryd.func93, Tryd.ntmps93
    go_wp2_with fail
    refine (HC.out _).mono ?_
    rintro e w1 ⟨rfl, rfl⟩
    go_wp2_with fail
    go_quiet (fail)
    go_wp2_with fail
    go_ret3
    exact ⟨rfl, below_drewN _ _⟩
  · have hcall := fun w => Tryd.stringslite_Index_one s c w
    rw [i1] at hcall
    have r1 : cutB s.data.toList c = (s.data.toList, [], false) := by unfold cutB; rw [if_neg (by simpa using i2)]
    rw [r1, bsL_data]
    have HC := Lib.hid hcall
    clear hcall r1 i1 i2 hl
    go_enter Tryd.func93, Tryd.ntmps93
    go_wp2_with fail
    refine (HC.out _).mono ?_
    rintro e w1 ⟨rfl, rfl⟩
    go_wp2_with fail
    go_ret3
    exact ⟨rfl, Below.refl _ _⟩
end Go.Proofs.YtkdicgendcdooaaDoor

/-
  names.of, walked: some bytes alone, as many as may be.
-/
namespace Go.Proofs.YtkdicgendcdooaaDoor
open Go.RowKit
set_option linter.unusedSimpArgs false
set_option linter.unusedVariables false
def inB (bs : List UInt8) (b : UInt8) : Bool := decide (b.toNat ≤ 122) && bs.contains b
def pOther (bs : List UInt8) (x : Nat) : Bool := decide (122 < x) || decide (Lib.indexByte bs (UInt8.ofNat x) < 0)
def ofL (bs s : List UInt8) : Bool := !s.isEmpty && decide (s.length ≤ 40) && s.all (inB bs)
theorem indexByte_lt (l : List UInt8) (c : UInt8) : decide (Lib.indexByte l c < 0) = !l.contains c := by
  rcases indexByte_iff l c with ⟨i1, i2, _⟩ | ⟨i1, i2⟩
  · rw [i2]; simp; exact i1
  · rw [i2, i1]; rfl
theorem pOther_byte (bs : List UInt8) (b : UInt8) : pOther bs b.toNat = !inB bs b := by
  unfold pOther inB
  rw [indexByte_lt, show UInt8.ofNat b.toNat = b from by simp]
  by_cases h : b.toNat ≤ 122
  · simp [h]; omega
  · simp [h]; omega
theorem pOther_high (bs : List UInt8) (x : Nat) (h : 128 ≤ x) : pOther bs x = true := by
  unfold pOther
  rw [decide_eq_true (by omega)]
  rfl
theorem inB_high (bs : List UInt8) (b : UInt8) (h : 128 ≤ b.toNat) : inB bs b = false := by
  unfold inB
  rw [decide_eq_false (by omega)]
  rfl
theorem idxFrom_of (bs : List UInt8) (s : ByteArray) : ∀ (f pos : Nat), s.size ≤ pos + f → decide (Lib.idxFuncFrom (pOther bs) true s f pos < 0) = (s.data.toList.drop pos).all (inB bs)
  | 0, pos, h => by
    rw [List.drop_eq_nil_of_le (by rw [Array.length_toList]; exact h)]
    rfl
  | f + 1, pos, h => by
    unfold Lib.idxFuncFrom
    by_cases hp : pos < s.size
    · have hl : pos < s.data.toList.length := by rw [Array.length_toList]; exact hp
      have hd : s.data.toList.drop pos = (s[pos]'hp) :: s.data.toList.drop (pos + 1) := List.drop_eq_getElem_cons hl
      rw [if_pos hp, hd, List.all_cons]
      by_cases ha : (s[pos]'hp).toNat < 128
      · rw [decode_ascii s pos hp ha, pOther_byte]
        cases hb : inB bs (s[pos]'hp) with
        | true =>
          simp only [Bool.not_true, Bool.false_eq_true, if_false, Bool.true_and]
          exact idxFrom_of bs s f (pos + 1) (by omega)
        | false =>
          simp only [Bool.not_false, if_true, Bool.false_and]
          exact decide_eq_false (by omega)
      · obtain ⟨h1, h2⟩ := decode_high s pos hp (by omega)
        rw [pOther_high bs _ h1, if_pos rfl, inB_high bs _ (by omega), Bool.false_and]
        exact decide_eq_false (by omega)
    · rw [if_neg hp, List.drop_eq_nil_of_le (by rw [Array.length_toList]; have : s.data.size = s.size := rfl; omega)]
      rfl
theorem idx_of (bs : List UInt8) (s : ByteArray) : decide (Lib.idxFunc (pOther bs) true s < 0) = s.data.toList.all (inB bs) := by
  have h := idxFrom_of bs s s.size 0 (by omega)
  rw [List.drop_zero] at h
  exact h
set_option maxRecDepth 100000 in
set_option maxHeartbeats 1000000 in
theorem other_any (bs : ByteArray) (x : Nat) (hx : x ≤ 1114111) (g : Nat) (w : World) (hc : w.cell? ⟨g, 0, none⟩ = some (.string bs)) :
    Calls Tryd.prog 94 #[.int .i32 x, .pointer (some ⟨g, 0, none⟩)] w fun e w' => e = .returned (.bool (pOther bs.data.toList x)) ∧ Below w.heap.size w w' := by
  have hi := fun w => Tryd.strings_IndexByte bs (x : Int) w
  have e1 : ((x : Int)).toNat.toUInt8 = UInt8.ofNat x := by
    rw [Int.toNat_natCast]
  rw [e1] at hi
  obtain ⟨j, hj⟩ : ∃ j, Lib.indexByte bs.data.toList (UInt8.ofNat x) = j := ⟨_, rfl⟩
  have hp : pOther bs.data.toList x = (decide (122 < x) || decide (j < 0)) := by unfold pOther; rw [hj]
  rw [hj] at hi
  rw [hp]
  have HI := Lib.hid hi
  clear hi hj hp e1
  go_enter Tryd.func94, Tryd.ntmps94
  by_cases hbig : (122 : Int) < (x : Int)
  · go_wp2_with fail
    go_ret
    refine ⟨?_, Below.refl _ _⟩
    rw [decide_eq_true (show 122 < x by omega)]
    rfl
  · go_wp2_with fail
    refine (HI.out _).mono ?_
    rintro e w1 ⟨rfl, rfl⟩
    go_wp2_with fail
    go_ret
    refine ⟨?_, Below.refl _ _⟩
    rw [decide_eq_false (show ¬ 122 < x by omega)]
    rfl
set_option maxRecDepth 100000 in
set_option maxHeartbeats 1000000 in
theorem of_any (s bs : ByteArray) (hs : s.size ≤ 1000000) (w : World) :
    Calls Tryd.prog 86 #[.string s, .string bs] w fun e w' => e = .returned (.bool (ofL bs.data.toList s.data.toList)) ∧ Below w.heap.size w w' := by
  have hl : s.data.toList.length = s.size := Array.length_toList
  by_cases h0 : s.data.toList = []
  · have h2 : s.toList = [] := by rw [ByteArray.toList_eq]; exact h0
    have h3 : ofL bs.data.toList s.data.toList = false := by rw [h0]; rfl
    go_enter Tryd.func86, Tryd.ntmps86
    go_wp2_with fail
    go_ret
    exact ⟨by rw [h3]; rfl, (Below.refl _ w).alloc (Nat.le_refl _) _⟩
  · have h2 : ¬ s.toList = [] := by rw [ByteArray.toList_eq]; exact h0
    have h3 : s.toList.isEmpty = false := by cases hq : s.toList with | nil => exact absurd hq h2 | cons _ _ => rfl
    have h4 : s.data.toList.isEmpty = false := by cases hq : s.data.toList with | nil => exact absurd hq h0 | cons _ _ => rfl
    by_cases h40 : s.size ≤ 40
    · have h5 : ofL bs.data.toList s.data.toList = decide (Lib.idxFunc (pOther bs.data.toList) true s < 0) := by
        rw [idx_of]
        unfold ofL
        rw [h4, decide_eq_true (by omega)]
        rfl
      have hcall : Calls Tryd.prog 96 #[.string s, .func (.func 94) #[] #[.pointer (some ⟨w.heap.size, 0, none⟩)]] (w.alloc (.cells #[.string bs] 9)) fun e w' => e = .returned (.int .i64 (Lib.idxFunc (pOther bs.data.toList) true s)) ∧ Below (w.alloc (.cells #[.string bs] 9)).heap.size (w.alloc (.cells #[.string bs] 9)) w' := by
        refine Tryd.strings_IndexFunc_grows 94 #[.pointer (some ⟨w.heap.size, 0, none⟩)] (enters_of Tryd.func94 (by kernel_rfl) rfl) _ s _ fun W x hx hb => ?_
        refine other_any bs x hx w.heap.size W ?_
        have hc : (w.alloc (.cells #[.string bs] 9)).cell? ⟨w.heap.size, 0, none⟩ = some (.string bs) := cell_one_new w _ _ 0 _ rfl
        rw [hb.cell (by show w.heap.size < (w.heap.push _).size; rw [Array.size_push]; omega)]
        exact hc
      obtain ⟨j, hj⟩ : ∃ j, Lib.idxFunc (pOther bs.data.toList) true s = j := ⟨_, rfl⟩
      rw [hj] at hcall h5
      rw [h5]
      have HC := Lib.hid hcall
      clear hcall hj h5 hl h0 h4
      go_enter Tryd.func86, Tryd.ntmps86
      go_wp2_with fail
      refine HC.out.mono ?_
      rintro e w1 ⟨rfl, hb1⟩
      have HB := Lib.hid (((Below.refl _ w).alloc (Nat.le_refl _) (.cells #[.string bs] 9)).trans (hb1.mono ((Below.refl _ w).alloc (Nat.le_refl _) (.cells #[.string bs] 9)).size))
      clear hb1
      go_wp2_with fail
      go_ret
      exact ⟨rfl, HB.out⟩
    · have h5 : ofL bs.data.toList s.data.toList = false := by
        unfold ofL
        rw [decide_eq_false (by omega), Bool.and_false, Bool.false_and]
      rw [h5]
      clear h5 hl h0 h4
      go_enter Tryd.func86, Tryd.ntmps86
      go_wp2_with fail
      go_ret
      exact ⟨rfl, (Below.refl _ w).alloc (Nat.le_refl _) _⟩
end Go.Proofs.YtkdicgendcdooaaDoor

/-
  names.parts, Host, User, Room, Server, walked.
-/
namespace Go.Proofs.YtkdicgendcdooaaDoor
open Go.RowKit
set_option linter.unusedSimpArgs false
set_option linter.unusedVariables false
theorem below_tr {B C : Nat} {w w1 w2 : World} (h : Below B w w1) (h2 : Below C w1 w2) (hc : B ≤ C) : Below B w w2 := h.trans (h2.mono hc)
theorem below_trs {w w1 w2 : World} (h : Below w.heap.size w w1) (h2 : Below w1.heap.size w1 w2) : Below w.heap.size w w2 := h.trans (h2.mono h.size)
def PL : List UInt8 := [97, 98, 99, 100, 101, 102, 103, 104, 105, 106, 107, 108, 109, 110, 111, 112, 113, 114, 115, 116, 117, 118, 119, 120, 121, 122, 48, 49, 50, 51, 52, 53, 54, 55, 56, 57, 46, 45]
def ML : List UInt8 := [97, 98, 99, 100, 101, 102, 103, 104, 105, 106, 107, 108, 109, 110, 111, 112, 113, 114, 115, 116, 117, 118, 119, 120, 121, 122, 48, 49, 50, 51, 52, 53, 54, 55, 56, 57, 46, 45, 95, 61, 47]
/-- A text's parts behind a sign: the server's name, and whether it has just these parts. -/
def partsL (s sign : List UInt8) : List UInt8 × Bool :=
  ((cutB (Lib.trimPrefix s sign) 58).2.1, Lib.hasPrefix s sign && (cutB (Lib.trimPrefix s sign) 58).2.2 && ofL ML (cutB (Lib.trimPrefix s sign) 58).1 && ofL PL (cutB (Lib.trimPrefix s sign) 58).2.1)
theorem of_plain (s : ByteArray) (hs : s.size ≤ 1000000) (w : World) : Calls Tryd.prog 86 #[.string s, .string ⟨#[97, 98, 99, 100, 101, 102, 103, 104, 105, 106, 107, 108, 109, 110, 111, 112, 113, 114, 115, 116, 117, 118, 119, 120, 121, 122, 48, 49, 50, 51, 52, 53, 54, 55, 56, 57, 46, 45]⟩] w fun e w' => e = .returned (.bool (ofL PL s.data.toList)) ∧ Below w.heap.size w w' :=
  of_any s ⟨#[97, 98, 99, 100, 101, 102, 103, 104, 105, 106, 107, 108, 109, 110, 111, 112, 113, 114, 115, 116, 117, 118, 119, 120, 121, 122, 48, 49, 50, 51, 52, 53, 54, 55, 56, 57, 46, 45]⟩ hs w
theorem of_more (s : ByteArray) (hs : s.size ≤ 1000000) (w : World) : Calls Tryd.prog 86 #[.string s, .string ⟨#[97, 98, 99, 100, 101, 102, 103, 104, 105, 106, 107, 108, 109, 110, 111, 112, 113, 114, 115, 116, 117, 118, 119, 120, 121, 122, 48, 49, 50, 51, 52, 53, 54, 55, 56, 57, 46, 45, 95, 61, 47]⟩] w fun e w' => e = .returned (.bool (ofL ML s.data.toList)) ∧ Below w.heap.size w w' :=
  of_any s ⟨#[97, 98, 99, 100, 101, 102, 103, 104, 105, 106, 107, 108, 109, 110, 111, 112, 113, 114, 115, 116, 117, 118, 119, 120, 121, 122, 48, 49, 50, 51, 52, 53, 54, 55, 56, 57, 46, 45, 95, 61, 47]⟩ hs w
set_option maxRecDepth 100000 in
theorem host_any (s : ByteArray) (hs : s.size ≤ 1000000) (w : World) :
    Calls Tryd.prog 87 #[.string s] w fun e w' => e = .returned (.bool (ofL PL s.data.toList)) ∧ Below w.heap.size w w' := by
  have h := of_plain s hs
  obtain ⟨b, hb⟩ : ∃ b, ofL PL s.data.toList = b := ⟨_, rfl⟩
  rw [hb] at h ⊢
  have H := Lib.hid h
  clear h hb
  go_enter Tryd.func87, Tryd.ntmps87
  go_wp2_with fail
  refine (H.out _).mono ?_
  rintro e w1 ⟨rfl, hb1⟩
  go_wp2_with fail
  go_ret
  exact ⟨rfl, hb1⟩
set_option maxRecDepth 100000 in
theorem scut_any (s : ByteArray) (c : UInt8) (hs : s.size ≤ 1000000) (w : World) :
    Calls Tryd.prog 85 #[.string s, .string ⟨#[c]⟩] w fun e w' => e = .returned (.tuple #[.string (bsL (cutB s.data.toList c).1), .string (bsL (cutB s.data.toList c).2.1), .bool (cutB s.data.toList c).2.2]) ∧ Below w.heap.size w w' := by
  have h := litecut_any s c hs
  obtain ⟨r, hr⟩ : ∃ r, cutB s.data.toList c = r := ⟨_, rfl⟩
  rw [hr] at h ⊢
  obtain ⟨a, b, d⟩ := r
  have H := Lib.hid h
  clear h hr
  go_enter Tryd.func85, Tryd.ntmps85
  go_wp2_with fail
  refine (H.out _).mono ?_
  rintro e w1 ⟨rfl, hb1⟩
  go_wp2_with fail
  go_ret3
  exact ⟨rfl, hb1⟩
theorem trimPrefix_le (l p : List UInt8) : (Lib.trimPrefix l p).length ≤ l.length := by
  unfold Lib.trimPrefix
  split
  · rw [List.length_drop]; omega
  · exact Nat.le_refl _
theorem cutB_le (l : List UInt8) (c : UInt8) : (cutB l c).1.length ≤ l.length ∧ (cutB l c).2.1.length ≤ l.length := by
  unfold cutB
  split
  · refine ⟨(List.takeWhile_prefix _).length_le, ?_⟩
    rw [List.length_drop]
    have := (List.dropWhile_suffix (l := l) (fun x => x != c)).length_le
    omega
  · exact ⟨Nat.le_refl _, Nat.zero_le _⟩
set_option maxRecDepth 100000 in
set_option maxHeartbeats 1000000 in
theorem parts_any (s sign : ByteArray) (hs : s.size ≤ 100000) (w : World) :
    Calls Tryd.prog 65 #[.string s, .string sign] w fun e w' => e = .returned (.tuple #[.string (bsL (partsL s.data.toList sign.data.toList).1), .bool (partsL s.data.toList sign.data.toList).2]) ∧ Below w.heap.size w w' := by
  have hcp := fun w => Tryd.strings_CutPrefix s sign w
  have hl : s.data.toList.length = s.size := Array.length_toList
  have ht := trimPrefix_le s.data.toList sign.data.toList
  unfold partsL
  obtain ⟨R, hR⟩ : ∃ R, Lib.trimPrefix s.data.toList sign.data.toList = R := ⟨_, rfl⟩
  obtain ⟨bi, hbi⟩ : ∃ bi, Lib.hasPrefix s.data.toList sign.data.toList = bi := ⟨_, rfl⟩
  rw [hR, hbi] at hcp ⊢
  rw [hR] at ht
  have hcp2 : ∀ w, Calls Tryd.prog 84 #[.string s, .string sign] w fun e w' => e = .returned (.tuple #[.string (bsL R), .bool bi]) ∧ w' = w := hcp
  have hRs : (bsL R).size ≤ 100000 := by rw [bsL_size]; omega
  have hct := fun w => scut_any (bsL R) 58 (by omega) w
  rw [bsL_toList] at hct
  have hle := cutB_le R 58
  obtain ⟨r, hr⟩ : ∃ r, cutB R 58 = r := ⟨_, rfl⟩
  rw [hr] at hct hle ⊢
  obtain ⟨lo, ho, bc⟩ := r
  simp only at hct hle ⊢
  have hom := fun w => of_more (bsL lo) (by rw [bsL_size]; omega) w
  have hoh := fun w => host_any (bsL ho) (by rw [bsL_size]; omega) w
  rw [bsL_toList] at hom hoh
  obtain ⟨b1, hb1⟩ : ∃ b, ofL ML lo = b := ⟨_, rfl⟩
  obtain ⟨b2, hb2⟩ : ∃ b, ofL PL ho = b := ⟨_, rfl⟩
  rw [hb1] at hom ⊢
  rw [hb2] at hoh ⊢
  obtain ⟨LO, hLO⟩ : ∃ t, bsL lo = t := ⟨_, rfl⟩
  obtain ⟨HO, hHO⟩ : ∃ t, bsL ho = t := ⟨_, rfl⟩
  obtain ⟨RE, hRE⟩ : ∃ t, bsL R = t := ⟨_, rfl⟩
  rw [hLO] at hom hct
  rw [hHO] at hoh hct ⊢
  rw [hRE] at hct hcp2
  have HCP := Lib.hid hcp2; have HCT := Lib.hid hct; have HOM := Lib.hid hom; have HOH := Lib.hid hoh
  clear hcp hcp2 hct hom hoh hb1 hb2 hLO hHO hRE hr hR hbi hRs ht hle hl
  cases bi <;> cases bc <;> cases b1 <;>
  · go_enter Tryd.func65, Tryd.ntmps65
    go_wp2_with fail
    refine (HCP.out _).mono ?_
    rintro e w1 ⟨rfl, rfl⟩
    go_wp2_with fail
    refine (HCT.out _).mono ?_
    rintro e w2 ⟨rfl, hb2⟩
    have HB2 := Lib.hid hb2
    clear hb2
    go_wp2_with fail
    first
      | (go_ret2; exact ⟨rfl, HB2.out⟩)
      | (refine (HOM.out _).mono ?_
         rintro e w3 ⟨rfl, hb3⟩
         have HB3 := Lib.hid (below_trs HB2.out hb3)
         clear hb3
         go_wp2_with fail
         first
           | (go_ret2; exact ⟨rfl, HB3.out⟩)
           | (refine (HOH.out _).mono ?_
              rintro e w4 ⟨rfl, hb4⟩
              have HB4 := Lib.hid (below_trs HB3.out hb4)
              clear hb4
              go_wp2_with fail
              go_ret2
              exact ⟨rfl, HB4.out⟩))
end Go.Proofs.YtkdicgendcdooaaDoor

/-
  names.User, Room, Server, walked.
-/
namespace Go.Proofs.YtkdicgendcdooaaDoor
open Go.RowKit
set_option linter.unusedSimpArgs false
set_option linter.unusedVariables false
def userL (s : List UInt8) : Bool := (partsL s [64]).2
def roomL (s : List UInt8) : Bool := (partsL s [33]).2
def serverL (s : List UInt8) : List UInt8 := if (partsL s [64]).2 then (partsL s [64]).1 else if (partsL s [33]).2 then (partsL s [33]).1 else []
set_option maxRecDepth 100000 in
theorem nuser_any (s : ByteArray) (hs : s.size ≤ 100000) (w : World) :
    Calls Tryd.prog 37 #[.string s] w fun e w' => e = .returned (.bool (userL s.data.toList)) ∧ Below w.heap.size w w' := by
  have h := fun w => parts_any s ⟨#[64]⟩ hs w
  change ∀ w, Calls Tryd.prog 65 #[.string s, .string ⟨#[64]⟩] w fun e w' => e = .returned (.tuple #[.string (bsL (partsL s.data.toList [64]).1), .bool (partsL s.data.toList [64]).2]) ∧ Below w.heap.size w w' at h
  unfold userL
  obtain ⟨r, hr⟩ : ∃ r, partsL s.data.toList [64] = r := ⟨_, rfl⟩
  rw [hr] at h ⊢
  obtain ⟨a, b⟩ := r
  have H := Lib.hid h
  clear h hr
  go_enter Tryd.func37, Tryd.ntmps37
  go_wp2_with fail
  refine (H.out _).mono ?_
  rintro e w1 ⟨rfl, hb1⟩
  go_wp2_with fail
  go_ret
  exact ⟨rfl, hb1⟩
end Go.Proofs.YtkdicgendcdooaaDoor

/-
  What the laws of power have in common: a content of levels is one; names of users; a row of bytes.
-/
namespace Go.Proofs.YtkdicgendcdooaaDoor
open Go.RowKit Go.Lib Go.Proofs.YtkdicgendcdooaaDoorW.PrintWords
set_option linter.unusedSimpArgs false
set_option linter.unusedVariables false
theorem plainL_ne : ∀ k ∈ plainL, k ≠ bUsers ∧ k ≠ bEvents := by
  intro k hk
  unfold plainL at hk
  simp only [List.mem_cons, List.not_mem_nil, or_false] at hk
  rcases hk with rfl | rfl | rfl | rfl | rfl | rfl <;> exact ⟨by decide, by decide⟩
theorem Lev.ok {x : V} (h : Lev x) {k : ByteArray} (h1 : k ≠ bUsers) (h2 : k ≠ bEvents) : okKey x k = true := by
  unfold okKey atV
  cases hg : getV x k with
  | none => rfl
  | some y =>
    have := h.plain k y h1 h2 hg
    simp [this]
theorem Tab.table {P : ByteArray → Prop} {x y : V} {key : ByteArray} {pf : ByteArray → Bool} (hg : getV x key = some y) (h : Tab P y) (hp : ∀ k, P k → pf k = true) : tableV x pf key = true := by
  unfold tableV
  rw [hg]
  have h1 : (y.f4.any notInt) = false := List.any_eq_false.2 fun z hz => by unfold notInt; simp [h.num z hz]
  have h2 : (y.f3.any fun k => !pf k) = false := List.any_eq_false.2 fun k hk => by rw [hp k (h.key k hk)]; decide
  show (decide (y.f0 = 5) && !(y.f4.any notInt) && !(y.f3.any fun k => !pf k)) = true
  rw [h1, h2, decide_eq_true h.wf.obj]
  rfl
theorem table_no {x : V} {key : ByteArray} {pf : ByteArray → Bool} (hg : getV x key = none) : tableV x pf key = true := by
  unfold tableV
  rw [hg]
theorem Lev.valid {x : V} (h : Lev x) {uok : ByteArray → Bool} (hu : ∀ k, UserK k → uok k = true) : validV x uok = true := by
  have h1 : plainL.all (okKey x) = true := List.all_eq_true.2 fun k hk => h.ok (plainL_ne k hk).1 (plainL_ne k hk).2
  have h2 : tableV x uok bUsers = true := by
    cases hg : getV x bUsers with
    | none => exact table_no hg
    | some y => exact (h.users y hg).table hg hu
  have h3 : tableV x (fun _ => true) bEvents = true := by
    cases hg : getV x bEvents with
    | none => exact table_no hg
    | some y => exact (h.events y hg).table hg (fun _ _ => rfl)
  unfold validV
  rw [h1, h2, h3, decide_eq_true h.wf.obj]
  rfl
def uokB (k : ByteArray) : Bool := userL k.data.toList
theorem uok_user (k : ByteArray) (h : UserK k) : uokB k = true := by
  obtain ⟨i, rfl⟩ := h
  unfold userB
  repeat (first | decide | split)
theorem uok_any {x : V} (hf : Fit x) (w : World) : ∀ y, getV x bUsers = some y → ∀ k ∈ y.f3, ∀ W, Below w.heap.size w W → Calls Tryd.prog 37 #[.string k] W (EndI W (.bool (uokB k))) :=
  fun y hy k hk W _ => nuser_any k ((getV_fit hf hy).key k hk) W
theorem valid_lev {w : World} {ok : Nat → Prop} {x : V} {v : Value} (h : VF w ok x v) (hf : Fit x) (hT : Tabs w) (hl : Lev x) : Calls Tryd.prog 16 #[v] w (EndI w (.bool true)) := by
  have h1 := valid_any h hf hT uokB (uok_any hf w)
  rw [hl.valid uok_user] at h1
  exact h1
theorem u8_int {z : Int} (h : (Lit.int .u8 z).wf = true) : ∃ n : Nat, z = n ∧ n ≤ 255 := by
  have : 0 ≤ z ∧ z ≤ 255 := by simpa [Lit.wf, IntKind.min, IntKind.max, IntKind.signed, IntKind.bits] using h
  exact ⟨z.toNat, by omega, by omega⟩
theorem is_t {a b : ByteArray} {l : List UInt8} (hl : b.data.toList = l) (h : a = b) : a.toList = l := by rw [h, ByteArray.toList_eq, hl]
theorem is_f {a b : ByteArray} {l : List UInt8} (hl : b.data.toList = l) (h : ¬ a = b) : ¬ a.toList = l := fun e => h ((Lib.bytes_beq_iff a b).1 (by rw [e, ByteArray.toList_eq, hl]; exact beq_self_eq_true _))
theorem bytes8_row {W : World} {a : Option Addr} {z : List Int} (h : RowAt W a (z.map (.int .u8))) (u : ∀ x ∈ z, (Lit.int .u8 x).wf = true) : ∃ l : List UInt8, l.length = z.length ∧ Bytes8 W a l := by
  refine ⟨z.map fun x => UInt8.ofNat x.toNat, List.length_map _, ?_⟩
  unfold Bytes8
  have e : (z.map fun x => UInt8.ofNat x.toNat).map (fun c => Value.int .u8 (c.toNat : Int)) = z.map (.int .u8) := by
    rw [List.map_map]
    refine List.map_congr_left fun x hx => ?_
    obtain ⟨n, rfl, hn⟩ := u8_int (u x hx)
    simp [Function.comp, Nat.mod_eq_of_lt (show n < 256 by omega)]
  rw [e]
  exact h
end Go.Proofs.YtkdicgendcdooaaDoor
