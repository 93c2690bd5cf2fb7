/-
  Texts of this session, merged in build order: VBase, VGet, VCopy, VGet2, RPlace, PAt, RWith, RLess, RPut, VFit, PUser, PLevel, Open, PLevels, PLaw, PTable, PTab, Shelf.
-/
import Derived.Test.YtkdicgendcdooaaDoorProg
import Derived.Test.YtkdicgendcdooaaDoorWMore
import Derived.Test.YtkdicgendcdooaaDoorWNEv
import Derived.Test.YtkdicgendcdooaaDoorWFoot
import Derived.Test.YtkdicgendcdooaaDoorWShare
import Derived.Test.YtkdicgendcdooaaDoorWN
import Derived.WalkKit
import Derived.BigQuiet
import Derived.Deep.QuietTactic
import Derived.Deep.RegionHeld3
import Derived.Lib.Hide
import Derived.LoopTactic
import Derived.IntWalk
import Derived.Lib.Strings
import Derived.Lib.SlicesS
import Derived.Carry
import Derived.Lib.SliceRun
import Derived.OwnWalk
import Derived.ProofKit
import Derived.OpenShut
import Derived.ShutString
import Derived.ChangeOld
import Derived.Below
import Derived.SizedLaws
import Derived.SliceStrings
import Derived.StillTailTactics
import Derived.Deep.RegionHeld
import Derived.Shelf.Abstract
import Derived.Shelf.Small.Strs
import Derived.Shelf.Small.Wraps
import Derived.Shelf.Strings.Search1
import Derived.Shelf.Strings.Search2
import Derived.Shelf.GgClosure.StringsIndexFunc
import Derived.Ground.GgwProg
import Derived.Shelf.GgClosure.StringsIndexFuncTop
import Derived.Shelf.Strings.Prefix
import Derived.Shelf.Strings.Fields
import Derived.Shelf.Unicode.Latin
import Derived.Shelf.Unicode.Is16White
import Derived.Shelf.Unicode.IsSpaceAny
import Derived.Shelf.Strings.FuncGrows
set_option linter.unusedVariables false
set_option linter.unusedSimpArgs false
/-
  A value of the package api as it lies in memory: what its cells say, and the blocks that it leads to.
-/
namespace Go.Proofs.YtkdicgendcdooaaDoor
open Go.RowKit Go.Lib Go.Proofs.YtkdicgendcdooaaDoorW.PrintWords Go.Proofs.YtkdicgendcdooaaDoorW.PrintLast Go.Proofs.YtkdicgendcdooaaDoorW.PrintMore
set_option linter.unusedSimpArgs false
set_option linter.unusedVariables false
/-! #### struct api.Val, nested in itself -/
structure V where
  f0 : Int
  f1 : Int
  f2 : ByteArray
  f3 : (List ByteArray)
  f4 : (List V)
def zV : V := ⟨(0 : Int), (0 : Int), (⟨#[]⟩ : ByteArray), ([] : List ByteArray), ([] : List V)⟩
def FnV (d : Kd V) : Kd V := Kd.iso (Kd.pair (Kd.int .i64) (Kd.pair (Kd.int .i64) (Kd.pair Kd.string (Kd.pair (Kd.slice 9 Kd.string) (Kd.slice 27 d))))) (fun x : V => (x.f0, x.f1, x.f2, x.f3, x.f4))
theorem monoV : Kd.Mono FnV := Kd.mono_iso _ (Kd.mono_pair (Kd.mono_const _) (Kd.mono_pair (Kd.mono_const _) (Kd.mono_pair (Kd.mono_const _) (Kd.mono_pair (Kd.mono_const _) (Kd.mono_slice 27 Kd.mono_id)))))
theorem subV : Kd.Sub FnV [9, 27] := Kd.sub_iso _ (Kd.sub_pair (Kd.sub_const _ (by decide)) (Kd.sub_pair (Kd.sub_const _ (by decide)) (Kd.sub_pair (Kd.sub_const _ (by decide)) (Kd.sub_pair (Kd.sub_const _ (by decide)) (Kd.sub_slice 27 (by decide) Kd.sub_id)))))
theorem szV : ∀ n, (Kd.upto FnV 5 [9, 27] n).sz = 5 := Kd.upto_sz (fun _ => rfl)
def kV : Kd V := Kd.fix FnV 5 [9, 27] szV (Kd.upto_E subV)
theorem kV_heap : Kd.Heap kV := Kd.heap_fix (fun _ h_ => Kd.heap_iso _ (Kd.heap_pair (Kd.heap_int .i64) (Kd.heap_pair (Kd.heap_int .i64) (Kd.heap_pair Kd.heap_string (Kd.heap_pair (Kd.heap_slice 9 Kd.heap_string) (Kd.heap_slice 27 h_))))))
theorem kV_open {w : World} {x : V} {cs : List Value} (h : kV.K w x cs) : ∃ A3 c3 A4 c4, cs = [.int .i64 x.f0, .int .i64 x.f1, .string x.f2, .slice A3 x.f3.length c3, .slice A4 x.f4.length c4] ∧ x.f3.length ≤ c3 ∧ Kd.string.C w A3 x.f3.length x.f3 ∧ x.f4.length ≤ c4 ∧ kV.C w A4 x.f4.length x.f4 := by
  obtain ⟨n, h⟩ := h
  cases n with
  | zero => exact h.elim
  | succ n =>
    obtain ⟨_, _, rfl, rfl, ⟨_, _, rfl, rfl, ⟨_, _, rfl, rfl, ⟨_, _, rfl, ⟨A3, c3, rfl, l3, g3⟩, ⟨A4, c4, rfl, l4, g4⟩⟩⟩⟩⟩ := h
    exact ⟨A3, c3, A4, c4, rfl, l3, g3, l4, Kd.fix_C g4⟩
theorem kV_openM {w : World} {base : Nat} {ok : Nat → Prop} {x : V} {cs : List Value} (h : kV.M w base ok x cs) : ∃ v3 v4, cs = [.int .i64 x.f0, .int .i64 x.f1, .string x.f2, v3, v4] ∧ Kd.string.R 9 w base ok v3 x.f3 ∧ kV.R 27 w base ok v4 x.f4 := by
  obtain ⟨n, h⟩ := h
  cases n with
  | zero => exact h.elim
  | succ n =>
    obtain ⟨_, _, rfl, rfl, ⟨_, _, rfl, rfl, ⟨_, _, rfl, rfl, ⟨_, _, rfl, ⟨v3, rfl, g3⟩, ⟨v4, rfl, g4⟩⟩⟩⟩⟩ := h
    exact ⟨v3, v4, rfl, g3, Kd.fix_R g4⟩
theorem kV_mk (w : World) (x : V) {A3 : Option Addr} {c3 : Nat} (l3 : x.f3.length ≤ c3) (g3 : Kd.string.C w A3 x.f3.length x.f3) {A4 : Option Addr} {c4 : Nat} (l4 : x.f4.length ≤ c4) (g4 : kV.C w A4 x.f4.length x.f4) : kV.K w x [.int .i64 x.f0, .int .i64 x.f1, .string x.f2, .slice A3 x.f3.length c3, .slice A4 x.f4.length c4] := by
  obtain ⟨n4, q4⟩ := Kd.fix_C_back monoV g4
  have r4 := Kd.upto_C_le monoV szV (show n4 ≤ n4 by omega) q4
  exact ⟨n4 + 1, ⟨[.int .i64 x.f0], [.int .i64 x.f1, .string x.f2, .slice A3 x.f3.length c3, .slice A4 x.f4.length c4], rfl, rfl, ⟨[.int .i64 x.f1], [.string x.f2, .slice A3 x.f3.length c3, .slice A4 x.f4.length c4], rfl, rfl, ⟨[.string x.f2], [.slice A3 x.f3.length c3, .slice A4 x.f4.length c4], rfl, rfl, ⟨[.slice A3 x.f3.length c3], [.slice A4 x.f4.length c4], rfl, ⟨A3, c3, rfl, l3, g3⟩, ⟨A4, c4, rfl, l4, r4⟩⟩⟩⟩⟩⟩
theorem kV_mkM (w : World) (base : Nat) (ok : Nat → Prop) (x : V) {v3 : Value} (g3 : Kd.string.R 9 w base ok v3 x.f3) {v4 : Value} (g4 : kV.R 27 w base ok v4 x.f4) : kV.M w base ok x [.int .i64 x.f0, .int .i64 x.f1, .string x.f2, v3, v4] := by
  obtain ⟨n4, q4⟩ := Kd.fix_R_back monoV g4
  have r4 := Kd.upto_R_le monoV szV (show n4 ≤ n4 by omega) q4
  exact ⟨n4 + 1, ⟨[.int .i64 x.f0], [.int .i64 x.f1, .string x.f2, v3, v4], rfl, rfl, ⟨[.int .i64 x.f1], [.string x.f2, v3, v4], rfl, rfl, ⟨[.string x.f2], [v3, v4], rfl, rfl, ⟨[v3], [v4], rfl, ⟨v3, rfl, g3⟩, ⟨v4, rfl, r4⟩⟩⟩⟩⟩⟩
theorem kV_openF {W : World} {ok : Nat → Prop} {x : V} {cs : List Value} (h : Kd.FK kV W ok x cs) : ∃ A3 c3 A4 c4, cs = [.int .i64 x.f0, .int .i64 x.f1, .string x.f2, .slice A3 x.f3.length c3, .slice A4 x.f4.length c4] ∧ x.f3.length ≤ c3 ∧ Kd.F Kd.string W ok A3 x.f3.length x.f3 ∧ x.f4.length ≤ c4 ∧ Kd.F kV W ok A4 x.f4.length x.f4 := by
  obtain ⟨A3, c3, A4, c4, rfl, l3, _, l4, _⟩ := kV_open (Kd.FK_now h)
  exact ⟨A3, c3, A4, c4, rfl, l3, (fun W' hW => by obtain ⟨A3_, c3_, A4_, c4_, he, l3_, g3_, l4_, g4_⟩ := kV_open (h W' hW); injection (Option.some.inj (show some (Value.slice A3 x.f3.length c3) = some (Value.slice A3_ x.f3.length c3_) from congrArg (fun l => l[3]?) he)) with ha_ _ _; rw [ha_]; exact g3_), l4, (fun W' hW => by obtain ⟨A3_, c3_, A4_, c4_, he, l3_, g3_, l4_, g4_⟩ := kV_open (h W' hW); injection (Option.some.inj (show some (Value.slice A4 x.f4.length c4) = some (Value.slice A4_ x.f4.length c4_) from congrArg (fun l => l[4]?) he)) with ha_ _ _; rw [ha_]; exact g4_)⟩
theorem kV_mkF (W : World) (ok : Nat → Prop) (x : V) {A3 : Option Addr} {c3 : Nat} (l3 : x.f3.length ≤ c3) (g3 : Kd.F Kd.string W ok A3 x.f3.length x.f3) {A4 : Option Addr} {c4 : Nat} (l4 : x.f4.length ≤ c4) (g4 : Kd.F kV W ok A4 x.f4.length x.f4) : Kd.FK kV W ok x [.int .i64 x.f0, .int .i64 x.f1, .string x.f2, .slice A3 x.f3.length c3, .slice A4 x.f4.length c4] := fun W2 hW => kV_mk W2 x l3 (g3 W2 hW) l4 (g4 W2 hW)
def rd_vals (xs : List V) (i : Int) : V := xs.getD i.toNat zV
theorem at_vals {w : World} {A : Option Addr} {n : Nat} {xs : List V} (h : Kd.C kV w A n xs) (i : Int) (h0 : 0 ≤ i) (h1 : i < n) : ∃ ad A3 c3 A4 c4, A = some ad ∧ w.cell? (ad.add (i.toNat * 5)) = some (.int .i64 (rd_vals xs i).f0) ∧ w.cell? ⟨(ad.add (i.toNat * 5)).block, (ad.add (i.toNat * 5)).off + 1, none⟩ = some (.int .i64 (rd_vals xs i).f1) ∧ w.cell? ⟨(ad.add (i.toNat * 5)).block, (ad.add (i.toNat * 5)).off + 2, none⟩ = some (.string (rd_vals xs i).f2) ∧ w.cell? ⟨(ad.add (i.toNat * 5)).block, (ad.add (i.toNat * 5)).off + 3, none⟩ = some (.slice A3 (rd_vals xs i).f3.length c3) ∧ w.cell? ⟨(ad.add (i.toNat * 5)).block, (ad.add (i.toNat * 5)).off + 4, none⟩ = some (.slice A4 (rd_vals xs i).f4.length c4) ∧ (rd_vals xs i).f3.length ≤ c3 ∧ Kd.string.C w A3 (rd_vals xs i).f3.length (rd_vals xs i).f3 ∧ (rd_vals xs i).f4.length ≤ c4 ∧ kV.C w A4 (rd_vals xs i).f4.length (rd_vals xs i).f4 := by
  obtain ⟨ad, c, e, _, hK, hc0⟩ := Kd.C_get h zV i h0 h1
  have hc : ∀ j u, c[j]? = some u → w.cell? (ad.add (i.toNat * 5 + j)) = some u := hc0
  obtain ⟨A3, c3, A4, c4, rfl, l3, g3, l4, g4⟩ := kV_open hK
  exact ⟨ad, A3, c3, A4, c4, e, hc 0 _ rfl, by rw [← add_field _ _ 1 (by omega)]; exact hc 1 _ rfl, by rw [← add_field _ _ 2 (by omega)]; exact hc 2 _ rfl, by rw [← add_field _ _ 3 (by omega)]; exact hc 3 _ rfl, by rw [← add_field _ _ 4 (by omega)]; exact hc 4 _ rfl, l3, g3, l4, g4⟩


/-- A value that is read: what it leads to lies in ok. -/
def VF (w : World) (ok : Nat → Prop) (x : V) (v : Value) : Prop := ∃ A3 c3 A4 c4, v = .agg #[.int .i64 x.f0, .int .i64 x.f1, .string x.f2, .slice A3 x.f3.length c3, .slice A4 x.f4.length c4] ∧ Kd.FK kV w ok x [.int .i64 x.f0, .int .i64 x.f1, .string x.f2, .slice A3 x.f3.length c3, .slice A4 x.f4.length c4]
def Old (w : World) (ok : Nat → Prop) (k : Nat) : Prop := ok k ∨ w.heap.size ≤ k
def Any (_ : Nat) : Prop := True
theorem VF.mono {w : World} {ok ok' : Nat → Prop} {x : V} {v : Value} (h : VF w ok x v) (hok : ∀ k, ok k → ok' k) : VF w ok' x v := by
  obtain ⟨A3, c3, A4, c4, rfl, h⟩ := h
  exact ⟨A3, c3, A4, c4, rfl, Kd.FK_mono h hok⟩
theorem VF.any {w : World} {ok : Nat → Prop} {x : V} {v : Value} (h : VF w ok x v) : VF w Any x v := h.mono fun _ _ => trivial
theorem VF.below {w w' : World} {ok : Nat → Prop} {x : V} {v : Value} (h : VF w ok x v) (hb : Below w.heap.size w w') : VF w' ok x v := by
  obtain ⟨A3, c3, A4, c4, rfl, h⟩ := h
  exact ⟨A3, c3, A4, c4, rfl, Kd.FK_below h hb⟩
theorem VF.step {w w' : World} {ok : Nat → Prop} {x : V} {v : Value} (h : VF w ok x v) (hm : ∀ k, ok k → k < w.heap.size → w'.heap[k]? = w.heap[k]?) : VF w' ok x v := by
  obtain ⟨A3, c3, A4, c4, rfl, h⟩ := h
  exact ⟨A3, c3, A4, c4, rfl, Kd.FK_step h hm⟩
theorem VF.bound {w : World} {ok : Nat → Prop} {x : V} {v : Value} (h : VF w ok x v) : VF w (fun k => ok k ∧ k < w.heap.size) x v := by
  obtain ⟨A3, c3, A4, c4, rfl, h⟩ := h
  exact ⟨A3, c3, A4, c4, rfl, Kd.FK_bound h⟩
/-- Its five cells, and what the two rows lead to. -/
theorem VF.open_ {w : World} {ok : Nat → Prop} {x : V} {v : Value} (h : VF w ok x v) : ∃ A3 c3 A4 c4, v = .agg #[.int .i64 x.f0, .int .i64 x.f1, .string x.f2, .slice A3 x.f3.length c3, .slice A4 x.f4.length c4] ∧ x.f3.length ≤ c3 ∧ Kd.F Kd.string w ok A3 x.f3.length x.f3 ∧ x.f4.length ≤ c4 ∧ Kd.F kV w ok A4 x.f4.length x.f4 := by
  obtain ⟨A3, c3, A4, c4, rfl, h⟩ := h
  obtain ⟨B3, d3, B4, d4, he, h1, h2, h3, h4⟩ := kV_openF h
  injection he with _ he
  injection he with _ he
  injection he with _ he
  injection he with e3 he
  injection he with e4 _
  injection e3 with e3 _ e5
  injection e4 with e4 _ e6
  subst e3 e4 e5 e6
  exact ⟨_, _, _, _, rfl, h1, h2, h3, h4⟩
theorem VF.mk {w : World} {ok : Nat → Prop} {x : V} {A3 : Option Addr} {c3 : Nat} {A4 : Option Addr} {c4 : Nat} (l3 : x.f3.length ≤ c3) (g3 : Kd.F Kd.string w ok A3 x.f3.length x.f3) (l4 : x.f4.length ≤ c4) (g4 : Kd.F kV w ok A4 x.f4.length x.f4) : VF w ok x (.agg #[.int .i64 x.f0, .int .i64 x.f1, .string x.f2, .slice A3 x.f3.length c3, .slice A4 x.f4.length c4]) :=
  ⟨A3, c3, A4, c4, rfl, kV_mkF w ok x l3 g3 l4 g4⟩
theorem VF.zero (w : World) (ok : Nat → Prop) : VF w ok zV (.agg #[.int .i64 0, .int .i64 0, .string ⟨#[]⟩, .slice none 0 0, .slice none 0 0]) :=
  VF.mk (x := zV) (Nat.le_refl _) (Kd.F_nil _ _ _) (Nat.le_refl _) (Kd.F_nil _ _ _)
/-- A key's place among keys; their number: it is not there. -/
def posK : List ByteArray → ByteArray → Nat
  | [], _ => 0
  | k :: t, key => if k = key then 0 else posK t key + 1
def idxK (l : List ByteArray) (key : ByteArray) : Int := if posK l key < l.length then (posK l key : Int) else -1
def placeV (x : V) (key : ByteArray) : Int := if x.f0 = 5 ∧ posK x.f3 key < x.f3.length ∧ posK x.f3 key < x.f4.length then (posK x.f3 key : Int) else -1
def getV (x : V) (key : ByteArray) : Option V := if x.f0 = 5 ∧ posK x.f3 key < x.f3.length then x.f4[posK x.f3 key]? else none
theorem posK_le : ∀ (l : List ByteArray) (key : ByteArray), posK l key ≤ l.length
  | [], _ => Nat.le_refl _
  | k :: t, key => by
    unfold posK
    split
    · exact Nat.zero_le _
    · have := posK_le t key
      rw [List.length_cons]
      omega
theorem posK_at : ∀ (l : List ByteArray) (key : ByteArray) (i : Nat) (hi : i < l.length), l[i] = key → (∀ j (hj : j < i), l[j]'(by omega) ≠ key) → posK l key = i
  | [], _, i, hi, _, _ => absurd hi (Nat.not_lt_zero _)
  | k :: t, key, 0, hi, he, _ => by
    unfold posK
    rw [if_pos (show k = key from he)]
  | k :: t, key, i + 1, hi, he, hn => by
    unfold posK
    rw [if_neg (show ¬ k = key from hn 0 (by omega)), posK_at t key i (by simpa using hi) (by simpa using he) (fun j hj => by simpa using hn (j + 1) (by omega))]
theorem posK_none : ∀ (l : List ByteArray) (key : ByteArray), (∀ j (hj : j < l.length), l[j] ≠ key) → posK l key = l.length
  | [], _, _ => rfl
  | k :: t, key, hn => by
    unfold posK
    rw [if_neg (show ¬ k = key from hn 0 (by simp)), posK_none t key (fun j hj => hn (j + 1) (by rw [List.length_cons]; omega)), List.length_cons]
theorem add_zz (g o j : Nat) : (⟨g, o, none⟩ : Addr).add j = ⟨g, o + j, none⟩ := by unfold Addr.add; split <;> simp_all
/-- A row of texts: its cells. -/
theorem strs_at {w : World} {ok : Nat → Prop} {A : Option Addr} {n : Nat} {l : List ByteArray} (h : Kd.F Kd.string w ok A n l) (hp : 0 < l.length) : ∃ g o, A = some ⟨g, o, none⟩ ∧ ok g ∧ g < w.heap.size ∧ ∀ i (hi : i < l.length), w.cell? ⟨g, o + i, none⟩ = some (.string l[i]) := by
  obtain ⟨hl, _, hn⟩ := Kd.F_now h
  obtain ⟨ad, rfl, hc⟩ := hn (by omega)
  have hcell : ∀ i (hi : i < l.length), w.cell? (ad.add i) = some (.string l[i]) := fun i hi => by
    obtain ⟨c, _, hk, hcc⟩ := hc i l[i] (List.getElem?_eq_getElem hi)
    have hk : c = [.string l[i]] := hk
    have := hcc 0 (.string l[i]) (by rw [hk]; rfl)
    rwa [show i * Kd.string.sz + 0 = i from Nat.mul_one i] at this
  obtain ⟨g, o, sp⟩ := ad
  have hs : sp = none := by
    have := World.cell?_spot (hcell 0 hp)
    simpa [Addr.add] using this
  subst hs
  have hcell' : ∀ i (hi : i < l.length), w.cell? ⟨g, o + i, none⟩ = some (.string l[i]) := fun i hi => by
    rw [← add_zz]
    exact hcell i hi
  obtain ⟨ad, c, e, _, _, _, hok⟩ := Kd.F_get h ⟨#[]⟩ 0 (by omega) (by omega)
  injection e with e
  subst e
  exact ⟨g, o, rfl, hok (by decide), World.block_lt_of_cell? w _ (hcell' 0 hp), hcell'⟩
/-- A row of values: its cells, each with what it leads to. -/
theorem vals_at {w : World} {ok : Nat → Prop} {A : Option Addr} {n : Nat} {l : List V} (h : Kd.F kV w ok A n l) (hp : 0 < l.length) : ∃ g o, A = some ⟨g, o, none⟩ ∧ ok g ∧ g < w.heap.size ∧ ∀ i (hi : i < l.length), ∃ A3 c3 A4 c4, w.cell? ⟨g, o + i * 5, none⟩ = some (.int .i64 l[i].f0) ∧ w.cell? ⟨g, o + i * 5 + 1, none⟩ = some (.int .i64 l[i].f1) ∧ w.cell? ⟨g, o + i * 5 + 2, none⟩ = some (.string l[i].f2) ∧ w.cell? ⟨g, o + i * 5 + 3, none⟩ = some (.slice A3 l[i].f3.length c3) ∧ w.cell? ⟨g, o + i * 5 + 4, none⟩ = some (.slice A4 l[i].f4.length c4) ∧ VF w ok l[i] (.agg #[.int .i64 l[i].f0, .int .i64 l[i].f1, .string l[i].f2, .slice A3 l[i].f3.length c3, .slice A4 l[i].f4.length c4]) := by
  obtain ⟨hl, _, hn⟩ := Kd.F_now h
  obtain ⟨ad, rfl, _⟩ := hn (by omega)
  have key : ∀ i (hi : i < l.length), ∃ A3 c3 A4 c4, w.cell? (ad.add (i * 5 + 0)) = some (.int .i64 l[i].f0) ∧ w.cell? (ad.add (i * 5 + 1)) = some (.int .i64 l[i].f1) ∧ w.cell? (ad.add (i * 5 + 2)) = some (.string l[i].f2) ∧ w.cell? (ad.add (i * 5 + 3)) = some (.slice A3 l[i].f3.length c3) ∧ w.cell? (ad.add (i * 5 + 4)) = some (.slice A4 l[i].f4.length c4) ∧ VF w ok l[i] (.agg #[.int .i64 l[i].f0, .int .i64 l[i].f1, .string l[i].f2, .slice A3 l[i].f3.length c3, .slice A4 l[i].f4.length c4]) ∧ ok ad.block := fun i hi => by
    obtain ⟨ad', c, e, _, hk, hcc, hok⟩ := Kd.F_get h l[i] (i : Int) (by omega) (by omega)
    injection e with e
    subst e
    simp only [Int.toNat_natCast] at hk hcc
    rw [List.getD_eq_getElem?_getD, List.getElem?_eq_getElem hi] at hk
    obtain ⟨A3, c3, A4, c4, rfl, h3, f3, h4, f4⟩ := kV_openF hk
    exact ⟨A3, c3, A4, c4, hcc 0 _ rfl, hcc 1 _ rfl, hcc 2 _ rfl, hcc 3 _ rfl, hcc 4 _ rfl, VF.mk h3 f3 h4 f4, hok (by decide)⟩
  obtain ⟨g, o, sp⟩ := ad
  obtain ⟨_, _, _, _, h0, _, _, _, _, _, hok⟩ := key 0 hp
  have hs : sp = none := by
    have := World.cell?_spot h0
    simpa [Addr.add] using this
  subst hs
  refine ⟨g, o, rfl, hok, ?_, fun i hi => ?_⟩
  · have := World.block_lt_of_cell? w _ h0
    rwa [add_zz] at this
  · obtain ⟨A3, c3, A4, c4, h0, h1, h2, h3, h4, h5, _⟩ := key i hi
    rw [add_zz] at h0 h1 h2 h3 h4
    exact ⟨A3, c3, A4, c4, h0, h1, h2, h3, h4, h5⟩
theorem eq_t {a b : ByteArray} (h : a = b) : (a.toList == b.toList) = true := (Lib.bytes_beq_iff a b).2 h
theorem eq_f {a b : ByteArray} (h : a ≠ b) : (a.toList == b.toList) = false := (Lib.bytes_beq_false_iff a b).2 h
theorem neq_t {a b : ByteArray} (h : a ≠ b) : (a.toList != b.toList) = true := by
  show (!(a.toList == b.toList)) = true
  rw [eq_f h]
  rfl
theorem neq_f {a b : ByteArray} (h : a = b) : (a.toList != b.toList) = false := by
  show (!(a.toList == b.toList)) = false
  rw [eq_t h]
  rfl
theorem int_eq_t {a b : Int} (h : a = b) : (a == b) = true := beq_iff_eq.2 h
theorem int_eq_f {a b : Int} (h : a ≠ b) : (a == b) = false := beq_eq_false_iff_ne.2 h
theorem int_ne_t {a b : Int} (h : a ≠ b) : (a != b) = true := bne_iff_ne.2 h
theorem int_ne_f {a b : Int} (h : a = b) : (a != b) = false := by rw [h]; exact bne_self_eq_false b
theorem idxK_range (l : List ByteArray) (key : ByteArray) : -1 ≤ idxK l key ∧ idxK l key < l.length := by
  unfold idxK
  have := posK_le l key
  split <;> omega
theorem getV_none {x : V} {key : ByteArray} (h : getV x key = none) : placeV x key = -1 := by
  unfold getV at h
  unfold placeV
  split at h
  · rw [if_neg]
    rintro ⟨_, _, h2⟩
    rw [List.getElem?_eq_getElem h2] at h
    cases h
  · rename_i hn
    rw [if_neg]
    rintro ⟨h1, h2, _⟩
    exact hn ⟨h1, h2⟩
theorem getV_some {x y : V} {key : ByteArray} (h : getV x key = some y) : ∃ i : Nat, ∃ hi : i < x.f4.length, placeV x key = (i : Int) ∧ x.f4[i] = y := by
  unfold getV at h
  split at h
  · rename_i hn
    obtain ⟨hi, e⟩ := List.getElem?_eq_some_iff.1 h
    exact ⟨posK x.f3 key, hi, by unfold placeV; rw [if_pos ⟨hn.1, hn.2, hi⟩], e⟩
  · cases h
/-- A value whose rows and texts are of a size that a machine bears. -/
inductive Fit : V → Prop
  | mk (x : V) (h2 : x.f2.size ≤ 100000) (h3 : x.f3.length ≤ 100000) (h4 : x.f4.length ≤ 100000) (hk : ∀ k ∈ x.f3, k.size ≤ 100000) (hn : -9223372036854775808 ≤ x.f1 ∧ x.f1 ≤ 9223372036854775807) (hl : ∀ y ∈ x.f4, Fit y) : Fit x
theorem Fit.keys {x : V} (h : Fit x) : x.f3.length ≤ 100000 := by cases h; assumption
theorem Fit.vals {x : V} (h : Fit x) : x.f4.length ≤ 100000 := by cases h; assumption
theorem Fit.text {x : V} (h : Fit x) : x.f2.size ≤ 100000 := by cases h; assumption
theorem Fit.key {x : V} (h : Fit x) : ∀ k ∈ x.f3, k.size ≤ 100000 := by cases h; assumption
theorem Fit.num {x : V} (h : Fit x) : -9223372036854775808 ≤ x.f1 ∧ x.f1 ≤ 9223372036854775807 := by cases h; assumption
theorem Fit.val {x : V} (h : Fit x) : ∀ y ∈ x.f4, Fit y := by cases h; assumption
theorem Fit.zero : Fit zV := .mk _ (by decide) (by decide) (by decide) (fun _ h => by cases h) (by decide) (fun _ h => by cases h)
theorem getV_fit {x y : V} {key : ByteArray} (hf : Fit x) (h : getV x key = some y) : Fit y := by
  obtain ⟨i, hi, _, e⟩ := getV_some h
  exact hf.val y (e ▸ List.getElem_mem hi)
theorem cells5v {w : World} {p : Nat} {a b c d e : Value} {t : TypeId} {fr : Nat × Nat} (h : w.heap[p]? = some (.cells #[a, b, c, d, e] t fr)) :
    w.cell? ⟨p, 0, none⟩ = some a ∧ w.cell? ⟨p, 1, none⟩ = some b ∧ w.cell? ⟨p, 2, none⟩ = some c ∧ w.cell? ⟨p, 3, none⟩ = some d ∧ w.cell? ⟨p, 4, none⟩ = some e := by
  refine ⟨?_, ?_, ?_, ?_, ?_⟩ <;> (unfold World.cell?; simp only [h]; rfl)
theorem cells2v {w : World} {p : Nat} {a b : Value} {t : TypeId} {fr : Nat × Nat} (h : w.heap[p]? = some (.cells #[a, b] t fr)) :
    w.cell? ⟨p, 0, none⟩ = some a ∧ w.cell? ⟨p, 1, none⟩ = some b := by
  refine ⟨?_, ?_⟩ <;> (unfold World.cell?; simp only [h]; rfl)
theorem cells1v {w : World} {p : Nat} {a : Value} {t : TypeId} {fr : Nat × Nat} (h : w.heap[p]? = some (.cells #[a] t fr)) : w.cell? ⟨p, 0, none⟩ = some a := by
  unfold World.cell?; simp only [h]; rfl
theorem softv {w : World} {p : Nat} {c : Array Value} {t : TypeId} (h : w.heap[p]? = some (.cells c t (0, 0))) (o : Nat) : w.frozen? ⟨p, o, none⟩ = false := by
  unfold World.frozen?; simp only [h]; simp
theorem heap_setv {w : World} {p j : Nat} {c : Array Value} {t : TypeId} {fr : Nat × Nat} (h : w.heap[p]? = some (.cells c t fr)) (v : Value) : (w.setCell ⟨p, j, none⟩ v).heap[p]? = some (.cells (c.setIfInBounds j v) t fr) := by
  simp only [World.setCell, Array.getElem?_modify]
  rw [if_pos trivial, h]
  rfl
theorem heap_farv {w : World} {p j k : Nat} (v : Value) (hk : k ≠ p) : (w.setCell ⟨p, j, none⟩ v).heap[k]? = w.heap[k]? := Below.heap_setCell _ _ _ _ hk
theorem heap_size_setv (w : World) (p : Addr) (v : Value) : (w.setCell p v).heap.size = w.heap.size := by simp [World.setCell]
/-- Written in some blocks alone. -/
structure Off (S : List Nat) (w w' : World) : Prop where
  os : w'.os = w.os
  tape : w'.tape = w.tape
  output : w'.output = w.output
  size : w'.heap.size = w.heap.size
  block : ∀ k, k ∉ S → w'.heap[k]? = w.heap[k]?
theorem Off.refl (S : List Nat) (w : World) : Off S w w := ⟨rfl, rfl, rfl, rfl, fun _ _ => rfl⟩
theorem Off.set {S : List Nat} {w w' : World} (h : Off S w w') {p : Nat} (hp : p ∈ S) (j : Nat) (v : Value) : Off S w (w'.setCell ⟨p, j, none⟩ v) :=
  ⟨h.os, h.tape, h.output, (heap_size_setv _ _ _).trans h.size, fun k hk => (heap_farv (p := p) (k := k) v (fun e => hk (by rw [e]; exact hp))).trans (h.block k hk)⟩
theorem Off.drew {S : List Nat} {w w' : World} (h : Off S w w') : Off S w w'.drew := ⟨h.os, h.tape, h.output, h.size, h.block⟩
theorem Off.drewN {S : List Nat} {w w' : World} (h : Off S w w') (n : Nat) : Off S w (w'.drewN n) := ⟨h.os, h.tape, h.output, h.size, h.block⟩
theorem Off.below {S : List Nat} {B : Nat} {w0 w w' : World} (hb : Below B w0 w) (h : Off S w w') (hS : ∀ k ∈ S, B ≤ k) : Below B w0 w' :=
  ⟨h.os.trans hb.os, h.tape.trans hb.tape, h.output.trans hb.output, h.size ▸ hb.size, fun k hk => (h.block k (fun hm => by have := hS k hm; omega)).trans (hb.block k hk)⟩
theorem Off.row {S : List Nat} {α : Type} {d : Kd α} {w w' : World} {e base : Nat} {ok : Nat → Prop} {v : Value} {xs : List α} (h : Off S w w') (hr : d.R e w base ok v xs) (hS : ∀ k, base ≤ k → k ∉ S) : d.R e w' base ok v xs :=
  Kd.R_mono (Kd.R_step (ok := fun k => ok k ∧ base ≤ k) (Kd.R_mono (Kd.R_bound hr) (fun k hk => ⟨hk.1, hk.2.1⟩)) (fun k hk _ => h.block k (hS k hk.2))) (fun _ hk => hk.1)
theorem Off.vf {S : List Nat} {w w' : World} {ok : Nat → Prop} {x : V} {v : Value} (h : Off S w w') (hv : VF w ok x v) (hS : ∀ k, ok k → k < w.heap.size → k ∉ S) : VF w' ok x v := hv.step fun k hk hl => h.block k (hS k hk hl)
/-! A call behind new boxes: its world by one letter. -/
section
variable {P : Program} {f : Nat} {args : Array Value} {w : World} {o1 o2 o3 : Obj} {Q : Ending → World → Prop}
theorem calls_box1 (h : ∀ W1 : World, W1.heap[w.heap.size]? = some o1 → W1.heap.size = w.heap.size + 1 → Below w.heap.size w W1 → Calls P f args W1 Q) : Calls P f args (w.alloc o1) Q :=
  h _ (heap_alloc_new _ _) (World.size_alloc _ _) ((Below.refl _ w).alloc (Nat.le_refl _) _)
theorem calls_box2 (h : ∀ W1 : World, W1.heap[w.heap.size]? = some o1 → W1.heap[w.heap.size + 1]? = some o2 → W1.heap.size = w.heap.size + 2 → Below w.heap.size w W1 → Calls P f args W1 Q) : Calls P f args ((w.alloc o1).alloc o2) Q :=
  h _ (by rw [heap_alloc_old _ _ (by simp), heap_alloc_new]) (by rw [← World.size_alloc w o1, heap_alloc_new]) (by simp) (((Below.refl _ w).alloc (Nat.le_refl _) _).alloc (by simp) _)
theorem calls_box3 (h : ∀ W1 : World, W1.heap[w.heap.size]? = some o1 → W1.heap[w.heap.size + 1]? = some o2 → W1.heap[w.heap.size + 2]? = some o3 → W1.heap.size = w.heap.size + 3 → Below w.heap.size w W1 → Calls P f args W1 Q) : Calls P f args (((w.alloc o1).alloc o2).alloc o3) Q :=
  h _ (by rw [heap_alloc_old _ _ (by simp; omega), heap_alloc_old _ _ (by simp), heap_alloc_new]) (by rw [heap_alloc_old _ _ (by simp), ← World.size_alloc w o1, heap_alloc_new]) (by
    have : ((w.alloc o1).alloc o2).heap.size = w.heap.size + 2 := by simp
    rw [← this, heap_alloc_new]) (by simp) ((((Below.refl _ w).alloc (Nat.le_refl _) _).alloc (by simp) _).alloc (by simp; omega) _)
end
theorem off5 (w : World) (q : Nat) (a b c d e : Value) : Off [q] w (((((w.setCell ⟨q, 0, none⟩ a).setCell ⟨q, 1, none⟩ b).setCell ⟨q, 2, none⟩ c).setCell ⟨q, 3, none⟩ d).setCell ⟨q, 4, none⟩ e) :=
  (((((Off.refl _ _).set (by simp) _ _).set (by simp) _ _).set (by simp) _ _).set (by simp) _ _).set (by simp) _ _
/-- A box of five cells that lies there, whatever is made beside it. -/
theorem box_keep {B p : Nat} {w W W' : World} {a b c d e : Value} (h : Below B w W ∧ p < W.heap.size ∧ W.cell? ⟨p, 0, none⟩ = some a ∧ W.cell? ⟨p, 1, none⟩ = some b ∧ W.cell? ⟨p, 2, none⟩ = some c ∧ W.cell? ⟨p, 3, none⟩ = some d ∧ W.cell? ⟨p, 4, none⟩ = some e) (hb : Below W.heap.size W W') (hB : B ≤ w.heap.size) :
    Below B w W' ∧ p < W'.heap.size ∧ W'.cell? ⟨p, 0, none⟩ = some a ∧ W'.cell? ⟨p, 1, none⟩ = some b ∧ W'.cell? ⟨p, 2, none⟩ = some c ∧ W'.cell? ⟨p, 3, none⟩ = some d ∧ W'.cell? ⟨p, 4, none⟩ = some e := by
  obtain ⟨h0, h1, c0, c1, c2, c3, c4⟩ := h
  exact ⟨h0.trans (hb.mono (Nat.le_trans hB h0.size)), Nat.lt_of_lt_of_le h1 hb.size, (hb.cell (p := ⟨p, _, none⟩) h1).trans c0, (hb.cell (p := ⟨p, _, none⟩) h1).trans c1, (hb.cell (p := ⟨p, _, none⟩) h1).trans c2, (hb.cell (p := ⟨p, _, none⟩) h1).trans c3, (hb.cell (p := ⟨p, _, none⟩) h1).trans c4⟩
def BoxV (w : World) (p : Nat) (a b c d e : Value) (W : World) : Prop := Below w.heap.size w W ∧ p < W.heap.size ∧ W.cell? ⟨p, 0, none⟩ = some a ∧ W.cell? ⟨p, 1, none⟩ = some b ∧ W.cell? ⟨p, 2, none⟩ = some c ∧ W.cell? ⟨p, 3, none⟩ = some d ∧ W.cell? ⟨p, 4, none⟩ = some e
section
variable {p : Nat} {w W W' : World} {a b c d e : Value}
theorem BoxV.new (w : World) (a b c d e : Value) (t : TypeId) : BoxV w w.heap.size a b c d e (w.alloc (.cells #[a, b, c, d, e] t)) :=
  ⟨(Below.refl _ w).alloc (Nat.le_refl _) _, by simp, cells5v (heap_alloc_new w _)⟩
theorem BoxV.of (hb : Below w.heap.size w W) {t : TypeId} (h : W.heap[p]? = some (.cells #[a, b, c, d, e] t (0, 0))) : BoxV w p a b c d e W :=
  ⟨hb, (Array.getElem?_eq_some_iff.1 h).1, cells5v h⟩
theorem BoxV.keep (h : BoxV w p a b c d e W) (hb : Below W.heap.size W W') : BoxV w p a b c d e W' := box_keep h hb (Nat.le_refl _)
theorem BoxV.below (h : BoxV w p a b c d e W) : Below w.heap.size w W := h.1
theorem BoxV.cells (h : BoxV w p a b c d e W) : W.cell? ⟨p, 0, none⟩ = some a ∧ W.cell? ⟨p, 1, none⟩ = some b ∧ W.cell? ⟨p, 2, none⟩ = some c ∧ W.cell? ⟨p, 3, none⟩ = some d ∧ W.cell? ⟨p, 4, none⟩ = some e := h.2.2
theorem BoxV.lt (h : BoxV w p a b c d e W) : p < W.heap.size := h.2.1
end
theorem wpl_box2 {P : Program} {ops : Array Oper} {rest : List Oper} {a : Act} {R : Exit → Act → World → Prop} {w : World} {o1 o2 : Obj} (h : ∀ W1 : World, W1.heap[w.heap.size]? = some o1 → W1.heap[w.heap.size + 1]? = some o2 → W1.heap.size = w.heap.size + 2 → Below w.heap.size w W1 → wpList P ops R rest a W1) : wpList P ops R rest a ((w.alloc o1).alloc o2) :=
  h _ (by rw [heap_alloc_old _ _ (by simp), heap_alloc_new]) (by rw [← World.size_alloc w o1, heap_alloc_new]) (by simp) (((Below.refl _ w).alloc (Nat.le_refl _) _).alloc (by simp) _)
theorem row_read {α : Type} {d : Kd α} {e base : Nat} {w : World} {v : Value} {xs : List α} (h : d.R e w base Any v xs) : ∃ A c, v = .slice A xs.length c ∧ xs.length ≤ c ∧ Kd.F d w (fun k => base ≤ k ∧ k < w.heap.size) A xs.length xs := by
  obtain ⟨A, c, rfl, hl, _⟩ := Kd.R_reads h
  exact ⟨A, c, rfl, hl, Kd.R_F (Kd.R_mono (Kd.R_bound h) (fun k hk => ⟨hk.2.1, hk.2.2.1⟩))⟩
end Go.Proofs.YtkdicgendcdooaaDoor

/-
  A key's place in an object, as the program and as the document's answer ask for it.
-/
namespace Go.Proofs.YtkdicgendcdooaaDoor
open Go.RowKit Go.Lib Go.Proofs.YtkdicgendcdooaaDoorW.PrintWords
set_option linter.unusedSimpArgs false
set_option linter.unusedVariables false
set_option maxRecDepth 100000 in
theorem index_any {w : World} {ok : Nat → Prop} {A : Option Addr} {c : Nat} {l : List ByteArray} (h : Kd.F Kd.string w ok A l.length l) (key : ByteArray) :
    Calls Tryd.prog 79 #[.slice A l.length c, .string key] w fun e w' => e = .returned (.int .i64 (idxK l key)) ∧ w = w' := by
  have hm := Kd.F_max h
  have HS := Lib.hid (fun hp => strs_at h hp)
  obtain ⟨n, hn⟩ : ∃ n, l.length = n := ⟨_, rfl⟩
  have HN := Lib.hid hn
  rw [hn] at hm
  rw [hn]
  clear h hn
  go_enter Tryd.func79, Tryd.ntmps79
  go_wp2_with fail
  go_loop [8] (fun i => ∃ k : Nat, k ≤ n ∧ i = .int .i64 k ∧ ∀ j (hj : j < l.length), j < k → l[j] ≠ key) (fun i => n - (intOf i).toNat)
  case atStart => exact ⟨0, by omega, rfl, fun j _ h => absurd h (Nat.not_lt_zero _)⟩
  case round =>
    obtain ⟨k, hk, rfl, ht⟩ := hrel
    have HT := Lib.hid ht; clear ht
    by_cases hlt : k < n
    · have hk2 : k < l.length := by rw [HN.out]; exact hlt
      obtain ⟨g, o, rfl, _, _, hc⟩ := HS.out (by omega)
      have f1 := hc k hk2
      obtain ⟨s1, hs1⟩ : ∃ s1, l[k] = s1 := ⟨_, rfl⟩
      rw [hs1] at f1
      have Hs1 := Lib.hid hs1
      have hki : (k : Int) < (n : Int) := by omega
      clear hc hs1
      by_cases hs : s1 = key
      · have hb : (key.toList == s1.toList) = true := by rw [hs]; simp
        have HR : Hid (idxK l key = (k : Int)) := Lib.hid (by
          have := posK_at l key k hk2 (Hs1.out.trans hs) (fun j hj => HT.out j (by omega) hj)
          unfold idxK
          rw [this, if_pos hk2])
        clear hs
        go_wp2_with fail
        go_ret
        exact ⟨by rw [HR.out]; rfl, rfl⟩
      · have hb : (key.toList == s1.toList) = false := by
          rw [beq_eq_false_iff_ne, Lib.toList_data, Lib.toList_data]
          exact fun h => hs (by cases s1; cases key; simpa using h.symm)
        have HX := Lib.hid hs
        clear hs
        go_wp2_with fail
        go_round
        case rel => exact ⟨k + 1, by omega, by go_num, fun j hj hjk => by
          rcases Nat.lt_succ_iff_lt_or_eq.1 hjk with h | h
          · exact HT.out j hj h
          · subst h
            rw [Hs1.out]
            exact HX.out⟩
        case measure => simp [intOf]; omega
    · obtain rfl : k = n := by omega
      have HR : Hid (idxK l key = -1) := Lib.hid (by
        have := posK_none l key (fun j hj => HT.out j hj (by rw [← HN.out]; exact hj))
        unfold idxK
        rw [this, if_neg (by omega)])
      go_wp2_with fail
      go_ret
      exact ⟨by rw [HR.out]; rfl, rfl⟩
set_option maxRecDepth 100000 in
theorem place_any {w : World} {ok : Nat → Prop} {x : V} {v : Value} (h : VF w ok x v) (key : ByteArray) :
    Calls Tryd.prog 59 #[v, .string key] w fun e w' => e = .returned (.int .i64 (placeV x key)) ∧ Below w.heap.size w w' := by
  obtain ⟨A3, c3, A4, c4, rfl, h3, f3, h4, f4⟩ := h.open_
  have HI := Lib.hid (fun w' (hb : Below w.heap.size w w') => index_any (c := c3) (Kd.F_below f3 hb) key)
  obtain ⟨t, ht⟩ : ∃ t, idxK x.f3 key = t := ⟨_, rfl⟩
  have hm4 := Kd.F_max f4
  by_cases hk : x.f0 = 5
  · have hb := int_ne_f hk
    by_cases hl : t < (x.f4.length : Int)
    · have HR := Lib.hid (show placeV x key = t from by
        unfold idxK at ht
        unfold placeV
        subst ht
        have := posK_le x.f3 key
        by_cases hp : posK x.f3 key < x.f3.length
        · rw [if_pos hp] at hl ⊢
          rw [if_pos ⟨hk, hp, by omega⟩]
        · rw [if_neg hp] at hl ⊢
          rw [if_neg (fun h => hp h.2.1)])
      have HT := Lib.hid ht
      clear h f3 f4 h3 h4 hk ht
      go_enter Tryd.func59, Tryd.ntmps59
      go_wp2_with fail
      refine (HI.out _ ((Below.refl _ w).alloc (Nat.le_refl _) _)).mono ?_
      rintro e w1 ⟨rfl, rfl⟩
      rw [HT.out]
      go_wp2_with fail
      go_ret
      exact ⟨by rw [HR.out]; rfl, (Below.refl _ w).alloc (Nat.le_refl _) _⟩
    · have HR := Lib.hid (show placeV x key = -1 from by
        unfold idxK at ht
        unfold placeV
        subst ht
        have := posK_le x.f3 key
        by_cases hp : posK x.f3 key < x.f3.length
        · rw [if_pos hp] at hl
          rw [if_neg (fun h => hl (by omega))]
        · rw [if_neg (fun h => hp h.2.1)])
      have HT := Lib.hid ht
      clear h f3 f4 h3 h4 hk ht
      go_enter Tryd.func59, Tryd.ntmps59
      go_wp2_with fail
      refine (HI.out _ ((Below.refl _ w).alloc (Nat.le_refl _) _)).mono ?_
      rintro e w1 ⟨rfl, rfl⟩
      rw [HT.out]
      go_wp2_with fail
      go_ret
      exact ⟨by rw [HR.out]; rfl, (Below.refl _ w).alloc (Nat.le_refl _) _⟩
  · have hb := int_ne_t hk
    have HR := Lib.hid (show placeV x key = -1 from by unfold placeV; rw [if_neg (fun h => hk h.1)])
    clear h f3 f4 h3 h4 hk ht
    go_enter Tryd.func59, Tryd.ntmps59
    go_wp2_with fail
    go_ret
    exact ⟨by rw [HR.out]; rfl, (Below.refl _ w).alloc (Nat.le_refl _) _⟩
end Go.Proofs.YtkdicgendcdooaaDoor

/-
  A value copied into new memory.
-/
namespace Go.Proofs.YtkdicgendcdooaaDoor
open Go.RowKit Go.Lib Go.Proofs.YtkdicgendcdooaaDoorW.PrintWords
set_option linter.unusedSimpArgs false
set_option linter.unusedVariables false
set_option maxRecDepth 100000 in
theorem clone_any {w : World} {ok : Nat → Prop} {A : Option Addr} {c : Nat} {l : List ByteArray} (h : Kd.F Kd.string w ok A l.length l) (hc : l.length ≤ c) (hb : l.length ≤ 100000) :
    Calls Tryd.prog 80 #[.slice A l.length c] w fun e w' => ∃ v, e = .returned v ∧ Kd.string.R 9 w' w.heap.size Any v l ∧ Below w.heap.size w w' := by
  have hm := Kd.F_max h
  cases A with
  | none =>
    have hl : l = [] := by
      cases l with
      | nil => rfl
      | cons a t =>
        obtain ⟨g, o, e, _⟩ := strs_at h (by simp)
        cases e
    subst hl
    have hnil := fun w : World => Lib.run_eql_slice_nil (P := Tryd.prog) w 24 9 none 0 c 0 0 Tryd.underlying24
    simp only [Option.isNone_none] at hnil
    clear h
    go_enter Tryd.func80, Tryd.ntmps80
    go_wp2_with fail
    go_ret
    exact ⟨_, rfl, Kd.R_nil _ _ _ _ _, Below.refl _ _⟩
  | some ad =>
    obtain ⟨n, hn⟩ : ∃ n, l.length = n := ⟨_, rfl⟩
    have HN := Lib.hid hn
    rw [hn] at h hc hm
    rw [hn]
    rw [hn] at hb
    have HF := Lib.hid (Kd.F_below h ((Below.refl _ w).alloc (Nat.le_refl _) (.cells #[] 9)))
    have HO := Lib.hid (World.ownsRow_lit (base := w.heap.size) (e := 9) (size := 1) w #[] 0 (Nat.le_refl _) (by decide) rfl)
    have hnil := fun w : World => Lib.run_eql_slice_nil (P := Tryd.prog) w 24 9 (some ad) n c 0 0 Tryd.underlying24
    simp only [Option.isNone_some] at hnil
    clear hn h
    go_enter Tryd.func80, Tryd.ntmps80
    go_wp2_with (at_builtin; refine Kd.R_append_row Value.string ⟨#[]⟩ (h1 := fun _ => rfl) (w0 := w) w.heap.size rfl _ _ 24 9 (.string ⟨#[]⟩) 16 rfl Tryd.underlying24 (by kernel_rfl) rfl (by decide) _ [] l (some ad) n c Any rfl rfl (fun _ _ => trivial) (Kd.R_of_own HO.out (fun _ _ => trivial)) (Kd.F_now HF.out) ((Below.refl _ _).alloc (Nat.le_refl _) _) (by simp) (by simp; omega) ?_; intro v1 w1 hR hb1 hg hat)
    have HR := Lib.hid hR; have HB := Lib.hid hb1
    clear hR hb1 hg hat
    go_wp2_with fail
    go_ret
    exact ⟨v1, rfl, HR.out, HB.out⟩
/-- A value in new memory. -/
def Copied (w : World) (x : V) (e : Ending) (w' : World) : Prop := ∃ v3 v4, e = .returned (.agg #[.int .i64 x.f0, .int .i64 x.f1, .string x.f2, v3, v4]) ∧ Kd.string.R 9 w' w.heap.size Any v3 x.f3 ∧ kV.R 27 w' w.heap.size Any v4 x.f4 ∧ Below w.heap.size w w'
def CopiesTo (x : V) : Prop := ∀ (w : World) (ok : Nat → Prop) (v : Value), VF w ok x v → Calls Tryd.prog 60 #[v] w (Copied w x)
def RowMade (w : World) (l : List V) (e : Ending) (w' : World) : Prop := ∃ v, e = .returned v ∧ kV.R 27 w' w.heap.size Any v l ∧ Below w.heap.size w w'
set_option maxRecDepth 100000 in
theorem each_any {w : World} {ok : Nat → Prop} {A : Option Addr} {c : Nat} {l : List V} (h : Kd.F kV w ok A l.length l) (hb : l.length ≤ 100000) (hC : ∀ y ∈ l, CopiesTo y) :
    Calls Tryd.prog 81 #[.slice A l.length c, .func (.func 60) #[] #[]] w (RowMade w l) := by
  have HS := Lib.hid (fun hp => vals_at h hp)
  have HC := Lib.hid hC
  obtain ⟨n, hn⟩ : ∃ n, l.length = n := ⟨_, rfl⟩
  have HN := Lib.hid hn
  rw [hn] at hb
  rw [hn]
  clear h hn hC
  go_enter Tryd.func81, Tryd.ntmps81
  go_wp2_with fail
  go_loopw [10, 5] (fun i vo wr => ∃ k : Nat, k ≤ n ∧ i = .int .i64 k ∧ kV.R 27 wr w.heap.size Any vo (l.take k) ∧ Below w.heap.size w wr) (fun i _ _ => n - (intOf i).toNat)
  case atStart => exact ⟨0, by omega, rfl, Kd.R_nil _ _ _ _ _, Below.refl _ _⟩
  case round =>
    obtain ⟨k, hk, rfl, hR, hB⟩ := hrel
    have HR := Lib.hid hR; have HB := Lib.hid hB; clear hR hB
    by_cases hlt : k < n
    · have hk2 : k < l.length := by rw [HN.out]; exact hlt
      obtain ⟨g, o, rfl, _, hg, hc⟩ := HS.out (by omega)
      obtain ⟨y, hy⟩ : ∃ y, l[k] = y := ⟨_, rfl⟩
      have hc1 := hc k hk2
      rw [hy] at hc1
      obtain ⟨A3, c3, A4, c4, e0, e1, e2, e3, e4, hv⟩ := hc1
      have hold : ∀ j u, w.cell? ⟨g, j, none⟩ = some u → wr.cell? ⟨g, j, none⟩ = some u := fun j u hu => (HB.out.cell (p := ⟨g, j, none⟩) hg).trans hu
      have f0 := hold _ _ e0; have f1 := hold _ _ e1; have f2 := hold _ _ e2; have f3 := hold _ _ e3; have f4 := hold _ _ e4
      have HY := Lib.hid hy; have HV := Lib.hid hv
      have hki : (k : Int) < (n : Int) := by omega
      clear hc hold e0 e1 e2 e3 e4 hy hv
      go_wp2_with fail
      have hal : Below w.heap.size w (wr.alloc (.cells #[.int .i64 y.f0, .int .i64 y.f1, .string y.f2, .slice A3 y.f3.length c3, .slice A4 y.f4.length c4] 27)) := HB.out.alloc HB.out.size _
      have HAL := Lib.hid hal
      refine (HC.out y (by rw [← HY.out]; exact List.getElem_mem hk2) _ ok _ (HV.out.below hal)).mono ?_
      clear hal
      rintro e w2 ⟨v3, v4, rfl, hv3, hv4, hb2⟩
      have hR2 := Kd.R_below (Kd.R_below HR.out ((Below.refl _ wr).alloc (Nat.le_refl _) (.cells #[.int .i64 y.f0, .int .i64 y.f1, .string y.f2, .slice A3 y.f3.length c3, .slice A4 y.f4.length c4] 27))) hb2
      have hB2 : Below w.heap.size w w2 := HAL.out.trans (hb2.mono HAL.out.size)
      obtain ⟨inner, hown⟩ := Kd.R_own (Kd.R_below HR.out ((Below.refl _ wr).alloc (Nat.le_refl _) (.cells #[.int .i64 y.f0, .int .i64 y.f1, .string y.f2, .slice A3 y.f3.length c3, .slice A4 y.f4.length c4] 27)))
      have hM := Kd.M_new (kV_mkM w2 _ Any y hv3 hv4) hown
      have hM2 := kV.M_lower (HAL.out.size) hM
      have HM2 := Lib.hid hM2; have HR2 := Lib.hid hR2; have HB2 := Lib.hid hB2
      clear hv3 hv4 hb2 hR2 hB2 hown hM hM2
      have HL := Lib.hid (show (l.take k).length + 1 ≤ 100000 by rw [List.length_take]; omega)
      have HT : Hid (l.take k ++ [y] = l.take (k + 1)) := Lib.hid (by rw [← HY.out]; exact (List.take_succ_eq_append_getElem hk2).symm)
      go_wp2_with (at_builtin; refine Kd.R_append kV (w0 := w) w.heap.size rfl _ _ 25 27 (.agg #[.int .i64 0, .int .i64 0, .string ⟨#[]⟩, .slice none 0 0, .slice none 0 0]) 80 rfl Tryd.underlying25 (by kernel_rfl) rfl (by decide) (by decide) u5 (l.take k) y _ Any _ rfl rfl HM2.out (fun _ h => h) (fun _ _ => trivial) HR2.out HB2.out HB2.out.size (by have := HL.out; omega) ?_; intro v1 w3 hR3 hb3 hg3 hat3)
      rw [HT.out] at hR3
      have HR3 := Lib.hid hR3; have HB3 := Lib.hid hb3
      clear hR3 hb3 hg3 hat3
      go_wp2_with fail
      go_roundw
      case rel => exact ⟨k + 1, by omega, by go_num, HR3.out, HB3.out⟩
      case measure => simp [intOf]; omega
    · obtain rfl : k = n := by omega
      have hz : l.take k = l := List.take_of_length_le (by rw [HN.out]; omega)
      have HZ := Lib.hid hz
      clear hz
      go_wp2_with fail
      go_ret
      refine ⟨_, rfl, ?_, HB.out⟩
      have := HR.out
      rwa [HZ.out] at this
set_option maxRecDepth 100000 in
theorem copy_one (x : V) (h3 : x.f3.length ≤ 100000) (h4 : x.f4.length ≤ 100000) (hC : ∀ y ∈ x.f4, CopiesTo y) : CopiesTo x := fun w ok v h => by
  obtain ⟨A3, c3, A4, c4, rfl, l3, f3, l4, f4⟩ := h.open_
  have HK := Lib.hid (fun w' (hb : Below w.heap.size w w') => clone_any (c := c3) (Kd.F_below f3 hb) l3 h3)
  have HE := Lib.hid (fun w' (hb : Below w.heap.size w w') => each_any (c := c4) (Kd.F_below f4 hb) h4 hC)
  clear h f3 f4 hC h3 h4
  go_enter Tryd.func60, Tryd.ntmps60
  go_wp2_with fail
  have hW1 : Below w.heap.size w ((w.alloc (.cells #[.int .i64 x.f0, .int .i64 x.f1, .string x.f2, .slice A3 x.f3.length c3, .slice A4 x.f4.length c4] 27)).alloc (.cells #[.int .i64 0, .int .i64 0, .string ⟨#[]⟩, .slice none 0 0, .slice none 0 0] 27)) := ((Below.refl _ _).alloc (Nat.le_refl _) _).alloc (by simp) _
  refine (HK.out _ hW1).mono ?_
  rintro e w2 ⟨v3, rfl, hv3, hb2⟩
  obtain ⟨W1, hW⟩ : ∃ W1, (w.alloc (.cells #[.int .i64 x.f0, .int .i64 x.f1, .string x.f2, .slice A3 x.f3.length c3, .slice A4 x.f4.length c4] 27)).alloc (.cells #[.int .i64 0, .int .i64 0, .string ⟨#[]⟩, .slice none 0 0, .slice none 0 0] 27) = W1 := ⟨_, rfl⟩
  have hx1 : W1.heap[w.heap.size]? = some (.cells #[.int .i64 x.f0, .int .i64 x.f1, .string x.f2, .slice A3 x.f3.length c3, .slice A4 x.f4.length c4] 27 (0, 0)) := by
    rw [← hW, heap_alloc_old _ _ (by simp), heap_alloc_new]
  have hr1 : W1.heap[w.heap.size + 1]? = some (.cells #[.int .i64 0, .int .i64 0, .string ⟨#[]⟩, .slice none 0 0, .slice none 0 0] 27 (0, 0)) := by
    have := heap_alloc_new (w.alloc (.cells #[.int .i64 x.f0, .int .i64 x.f1, .string x.f2, .slice A3 x.f3.length c3, .slice A4 x.f4.length c4] 27)) (.cells #[.int .i64 0, .int .i64 0, .string ⟨#[]⟩, .slice none 0 0, .slice none 0 0] 27)
    rw [hW] at this
    rw [← this]
    simp
  have hs1 : W1.heap.size = w.heap.size + 2 := by rw [← hW]; simp
  rw [hW] at hv3 hb2 hW1
  have hx2 := (hb2.block _ (by omega)).trans hx1
  have hr2 := (hb2.block _ (by omega)).trans hr1
  obtain ⟨d0, d1, d2, d3, d4⟩ := cells5v hx2
  have ds := softv hx2
  have hB2 := hW1.trans (hb2.mono (by omega))
  obtain ⟨B3, b3, rfl⟩ := Kd.R_slice hv3
  have HV3 := Lib.hid hv3; have HX2 := Lib.hid hx2; have HR2 := Lib.hid hr2; have HS1 := Lib.hid hs1; have HSZ := Lib.hid hb2.size; have HB2 := Lib.hid hB2
  clear hW hx1 hr1 hW1 hv3 hb2 hx2 hr2 hs1 hB2 HK
  go_wp2_with fail
  have hW3 : Below w.heap.size w (w2.setCell ⟨w.heap.size, 3, none⟩ (.slice B3 x.f3.length b3)) := HB2.out.setCell (Nat.le_refl _) _
  obtain ⟨W3, hW⟩ : ∃ W3, w2.setCell ⟨w.heap.size, 3, none⟩ (.slice B3 x.f3.length b3) = W3 := ⟨_, rfl⟩
  have hx3 : W3.heap[w.heap.size]? = some (.cells #[.int .i64 x.f0, .int .i64 x.f1, .string x.f2, .slice B3 x.f3.length b3, .slice A4 x.f4.length c4] 27 (0, 0)) := by
    rw [← hW]; exact heap_setv HX2.out _
  have hr3 : W3.heap[w.heap.size + 1]? = some (.cells #[.int .i64 0, .int .i64 0, .string ⟨#[]⟩, .slice none 0 0, .slice none 0 0] 27 (0, 0)) := by
    rw [← hW, heap_farv _ (by omega)]; exact HR2.out
  have hs3 : W3.heap.size = w2.heap.size := by rw [← hW]; exact heap_size_setv _ _ _
  have hv3 : Kd.string.R 9 W3 W1.heap.size Any (.slice B3 x.f3.length b3) x.f3 := by
    rw [← hW]
    exact Kd.R_mono (Kd.R_far (p := ⟨w.heap.size, 3, none⟩) (Kd.R_mono (Kd.R_bound HV3.out) (ok' := fun k => W1.heap.size ≤ k) (fun k hk => hk.2.1)) (fun k hk => by have := HS1.out; show k ≠ w.heap.size; omega) _) (fun _ _ => trivial)
  rw [hW] at hW3 ⊢
  refine (HE.out _ hW3).mono ?_
  rintro e w4 ⟨v4, rfl, hv4, hb4⟩
  obtain ⟨B4, b4, rfl⟩ := Kd.R_slice hv4
  have hz2 := HSZ.out
  have hz1 := HS1.out
  have hx4 := (hb4.block _ (by omega)).trans hx3
  have hr4 := (hb4.block _ (by omega)).trans hr3
  obtain ⟨e0, e1, e2, e3, e4⟩ := cells5v hx4
  have es := softv hx4
  obtain ⟨r0, r1, r2, r3, r4⟩ := cells5v hr4
  have rs := softv hr4
  have HV3' := Lib.hid (Kd.R_below hv3 hb4); have HV4 := Lib.hid hv4; have HB4 := Lib.hid (hW3.trans (hb4.mono (by omega)))
  have HS3 := Lib.hid hs3
  clear hW hx3 hr3 hs3 hv3 hW3 hv4 hb4 hx4 hr4 HE d0 d1 d2 d3 d4 ds HV3 hz1 hz2
  go_wp2_with fail
  obtain ⟨W6, hW6, hO⟩ : ∃ W6, W6 = ((((((w4.setCell ⟨w.heap.size, 4, none⟩ (.slice B4 x.f4.length b4)).setCell ⟨w.heap.size + 1, 0, none⟩ (.int .i64 x.f0)).setCell ⟨w.heap.size + 1, 1, none⟩ (.int .i64 x.f1)).setCell ⟨w.heap.size + 1, 2, none⟩ (.string x.f2)).setCell ⟨w.heap.size + 1, 3, none⟩ (.slice B3 x.f3.length b3)).setCell ⟨w.heap.size + 1, 4, none⟩ (.slice B4 x.f4.length b4)) ∧ Off [w.heap.size, w.heap.size + 1] w4 W6 :=
    ⟨_, rfl, ((((((Off.refl _ _).set (by simp) _ _).set (by simp) _ _).set (by simp) _ _).set (by simp) _ _).set (by simp) _ _).set (by simp) _ _⟩
  have hz1 := HS1.out
  have hz2 := HSZ.out
  have hz3 := HS3.out
  have hE : Copied w x (.returned (.agg #[.int .i64 x.f0, .int .i64 x.f1, .string x.f2, .slice B3 x.f3.length b3, .slice B4 x.f4.length b4])) W6 := by
    refine ⟨_, _, rfl, Kd.R_lower (hO.row HV3'.out ?_) (by omega), Kd.R_lower (hO.row HV4.out ?_) (by omega), Off.below HB4.out hO ?_⟩
    · intro k hk hm
      simp at hm
      omega
    · intro k hk hm
      simp at hm
      omega
    · intro k hm
      simp at hm
      omega
  have HE := Lib.hid hE
  clear hE hO hz1 hz2 hz3
  refine bodyPost_ret (v := .agg #[.int .i64 x.f0, .int .i64 x.f1, .string x.f2, .slice B3 x.f3.length b3, .slice B4 x.f4.length b4]) (by simp [results, Tryd.results60, go_sem, r0, r1, r2, r3, r4]) rfl ?_
  rw [← hW6]
  exact HE.out
theorem copy_any {x : V} (h : Fit x) : CopiesTo x := by
  induction h with
  | mk x h2 h3 h4 hk hn hl ih => exact copy_one x h3 h4 ih
theorem Copied.vf {w w' : World} {x : V} {e : Ending} (h : Copied w x e w') : ∃ v, e = .returned v ∧ VF w' (fun k => w.heap.size ≤ k) x v ∧ Below w.heap.size w w' := by
  obtain ⟨v3, v4, rfl, h3, h4, hb⟩ := h
  obtain ⟨A3, c3, rfl, l3, _⟩ := Kd.R_reads h3
  obtain ⟨A4, c4, rfl, l4, _⟩ := Kd.R_reads h4
  have hn : ∀ {α : Type} {d : Kd α} {e : Nat} {v : Value} {xs : List α}, d.R e w' w.heap.size Any v xs → d.R e w' w.heap.size (fun k => w.heap.size ≤ k) v xs := fun h => Kd.R_mono (Kd.R_bound h) (fun k hk => hk.2.1)
  exact ⟨_, rfl, VF.mk l3 (Kd.R_F (hn h3)) l4 (Kd.R_F (hn h4)), hb⟩
end Go.Proofs.YtkdicgendcdooaaDoor

/-
  What an object has by a key: Get of the program, and of the document's answer.
-/
namespace Go.Proofs.YtkdicgendcdooaaDoor
open Go.RowKit Go.Lib Go.Proofs.YtkdicgendcdooaaDoorW.PrintWords
set_option linter.unusedSimpArgs false
set_option linter.unusedVariables false
def Got (w : World) (ok : Nat → Prop) (r : Option V) (e : Ending) (w' : World) : Prop := ∃ v, e = .returned (.tuple #[v, .bool r.isSome]) ∧ VF w' (Old w ok) (r.getD zV) v ∧ Below w.heap.size w w'
set_option maxRecDepth 100000 in
theorem get_any {w : World} {ok : Nat → Prop} {x : V} {v : Value} (h : VF w ok x v) (hf : Fit x) (key : ByteArray) :
    Calls Tryd.prog 35 #[v, .string key] w (Got w ok (getV x key)) := by
  obtain ⟨A3, c3, A4, c4, rfl, h3, f3, h4, f4⟩ := h.open_
  have HP := Lib.hid (fun w' (hb : Below w.heap.size w w') => place_any (h.below hb) key)
  cases hg : getV x key with
  | none =>
    have HPN := Lib.hid (getV_none hg)
    clear hg h f3 f4 h3 h4
    go_enter Tryd.func35, Tryd.ntmps35
    go_wp2_with fail
    refine calls_box2 ?_
    intro W1 hx1 hr1 hs1 hb0
    refine (HP.out _ hb0).mono ?_
    rintro e w1 ⟨rfl, hb⟩
    rw [HPN.out]
    have hr2 := (hb.block _ (by omega)).trans hr1
    obtain ⟨r0, r1, r2, r3, r4⟩ := cells5v hr2
    have rs := softv hr2
    have HB := Lib.hid (hb0.trans (hb.mono (by omega)))
    clear hx1 hr1 hs1 hb0 hb hr2
    go_wp2_with fail
    refine bodyPost_ret (v := .tuple #[.agg #[.int .i64 0, .int .i64 0, .string ⟨#[]⟩, .slice none 0 0, .slice none 0 0], .bool false]) (by simp [results, Tryd.results35, go_sem, r0, r1, r2, r3, r4]) rfl ⟨_, rfl, VF.zero _ _, Off.below HB.out (off5 _ _ _ _ _ _ _) (by simp)⟩
  | some y =>
    obtain ⟨i, hi, hpl, hy⟩ := getV_some hg
    have hfy := hf.val y (hy ▸ List.getElem_mem hi)
    obtain ⟨g, o, rfl, hokg, hgl, hc⟩ := vals_at f4 (by omega)
    obtain ⟨B3, b3, B4, b4, e0, e1, e2, e3, e4, hv⟩ := hc i hi
    rw [hy] at e0 e1 e2 e3 e4 hv
    obtain ⟨n, hn⟩ : ∃ n, x.f4.length = n := ⟨_, rfl⟩
    have hm := Kd.F_max f4
    rw [hn] at hi hm
    have HPL := Lib.hid hpl
    have HC := Lib.hid (fun w' (hb : Below w.heap.size w w') => (show w'.cell? ⟨g, o + i * 5, none⟩ = some (.int .i64 y.f0) ∧ w'.cell? ⟨g, o + i * 5 + 1, none⟩ = some (.int .i64 y.f1) ∧ w'.cell? ⟨g, o + i * 5 + 2, none⟩ = some (.string y.f2) ∧ w'.cell? ⟨g, o + i * 5 + 3, none⟩ = some (.slice B3 y.f3.length b3) ∧ w'.cell? ⟨g, o + i * 5 + 4, none⟩ = some (.slice B4 y.f4.length b4) from
      ⟨(hb.cell (p := ⟨g, _, none⟩) hgl).trans e0, (hb.cell (p := ⟨g, _, none⟩) hgl).trans e1, (hb.cell (p := ⟨g, _, none⟩) hgl).trans e2, (hb.cell (p := ⟨g, _, none⟩) hgl).trans e3, (hb.cell (p := ⟨g, _, none⟩) hgl).trans e4⟩))
    have HY := Lib.hid (fun w' (hb : Below w.heap.size w w') => copy_any hfy w' ok _ (hv.below hb))
    rw [hn] at HP
    rw [hn]
    clear hg h f3 f4 h3 hpl e0 e1 e2 e3 e4 hv hfy hc hy hn
    have hii : (i : Int) < (n : Int) := by omega
    go_enter Tryd.func35, Tryd.ntmps35
    go_wp2_with fail
    refine calls_box2 ?_
    intro W1 hx1 hr1 hs1 hb0
    refine (HP.out _ hb0).mono ?_
    rintro e w1 ⟨rfl, hb⟩
    rw [HPL.out]
    have hB1 := hb0.trans (hb.mono (by omega))
    obtain ⟨e0, e1, e2, e3, e4⟩ := HC.out _ hB1
    have hx2 := (hb.block _ (by omega)).trans hx1
    have hr2 := (hb.block _ (by omega)).trans hr1
    obtain ⟨d0, d1, d2, d3, d4⟩ := cells5v hx2
    have HR2 := Lib.hid hr2; have HB1 := Lib.hid hB1; have HZ := Lib.hid (show w.heap.size + 2 ≤ w1.heap.size by have := hb.size; omega)
    clear hx1 hr1 hs1 hb0 hb hr2 hB1 hx2
    go_wp2_with fail
    refine (HY.out _ HB1.out).mono ?_
    intro e w2 hcp
    obtain ⟨v, rfl, hv, hb2⟩ := hcp.vf
    obtain ⟨D3, q3, D4, q4, rfl, _⟩ := hv.open_
    have hr4 := (hb2.block _ (by have := HZ.out; omega)).trans HR2.out
    obtain ⟨r0, r1, r2, r3, r4⟩ := cells5v hr4
    have rs := softv hr4
    have HB2 := Lib.hid (HB1.out.trans (hb2.mono HB1.out.size))
    have HV := Lib.hid hv
    clear hcp hv hb2 hr4 d0 d1 d2 d3 d4 e0 e1 e2 e3 e4
    go_wp2_with fail
    have hz := HZ.out
    have hO := off5 w2 (w.heap.size + 1) (.int .i64 y.f0) (.int .i64 y.f1) (.string y.f2) (.slice D3 y.f3.length q3) (.slice D4 y.f4.length q4)
    refine bodyPost_ret (v := .tuple #[.agg #[.int .i64 y.f0, .int .i64 y.f1, .string y.f2, .slice D3 y.f3.length q3, .slice D4 y.f4.length q4], .bool true]) (by simp [results, Tryd.results35, go_sem, r0, r1, r2, r3, r4]) rfl ⟨_, rfl, (hO.vf HV.out (fun k hk _ hm => ?_)).mono (fun k hk => .inr ?_), Off.below HB2.out hO (by simp)⟩
    · simp at hm
      omega
    · omega
end Go.Proofs.YtkdicgendcdooaaDoor

/-
  A key's place and what an object has by it: the document's answer.
-/
namespace Go.Proofs.YtkdicgendcdooaaDoor
open Go.RowKit Go.Lib Go.Proofs.YtkdicgendcdooaaDoorW.PrintWords
set_option linter.unusedSimpArgs false
set_option linter.unusedVariables false
set_option maxRecDepth 100000 in
theorem rplace_any {w : World} {ok : Nat → Prop} {x : V} {v : Value} (h : VF w ok x v) (key : ByteArray) :
    Calls Tryd.prog 39 #[v, .string key] w fun e w' => e = .returned (.int .i64 (placeV x key)) ∧ Below w.heap.size w w' := by
  obtain ⟨A3, c3, A4, c4, rfl, h3, f3, h4, f4⟩ := h.open_
  have hm3 := Kd.F_max f3
  have hm4 := Kd.F_max f4
  by_cases hk : x.f0 = 5
  · have hb := int_ne_f hk
    have HS := Lib.hid (fun hp => strs_at f3 hp)
    obtain ⟨n, hn⟩ : ∃ n, x.f3.length = n := ⟨_, rfl⟩
    obtain ⟨m, hmm⟩ : ∃ m, x.f4.length = m := ⟨_, rfl⟩
    have HN := Lib.hid hn
    have HM := Lib.hid hmm
    have HK := Lib.hid hk
    rw [hn] at hm3
    rw [hmm] at hm4
    rw [hn, hmm]
    have H0 := Lib.hid (BoxV.new w (.int .i64 x.f0) (.int .i64 x.f1) (.string x.f2) (.slice A3 n c3) (.slice A4 m c4) 27)
    clear hn hmm hk h f3 f4 h3 h4
    go_enter Tryd.func39, Tryd.ntmps39
    go_wp2_with fail
    obtain ⟨W1, hW⟩ : ∃ W1, w.alloc (.cells #[.int .i64 x.f0, .int .i64 x.f1, .string x.f2, .slice A3 n c3, .slice A4 m c4] 27) = W1 := ⟨_, rfl⟩
    rw [hW] at H0 ⊢
    obtain ⟨d0, d1, d2, d3, d4⟩ := H0.out.cells
    clear hW d0 d1 d2
    go_loop [5] (fun i => ∃ k : Nat, k ≤ n ∧ i = .int .i64 k ∧ ∀ j (hj : j < x.f3.length), j < k → x.f3[j] ≠ key) (fun i => n - (intOf i).toNat)
    case atStart => exact ⟨0, by omega, rfl, fun j _ h => absurd h (Nat.not_lt_zero _)⟩
    case round =>
      obtain ⟨k, hk, rfl, ht⟩ := hrel
      have HT := Lib.hid ht; clear ht
      by_cases hlt : k < n
      · have hk2 : k < x.f3.length := by rw [HN.out]; exact hlt
        obtain ⟨g, o, rfl, _, hgl, hc⟩ := HS.out (by omega)
        have f1 := (H0.out.below.cell (p := ⟨g, o + k, none⟩) hgl).trans (hc k hk2)
        obtain ⟨s1, hs1⟩ : ∃ s1, x.f3[k] = s1 := ⟨_, rfl⟩
        rw [hs1] at f1
        have Hs1 := Lib.hid hs1
        have hki : (k : Int) < (n : Int) := by omega
        clear hc hs1
        by_cases hs : s1 = key
        · have hb := eq_t hs
          have HP := Lib.hid (posK_at x.f3 key k hk2 (Hs1.out.trans hs) (fun j hj => HT.out j (by omega) hj))
          by_cases hkm : k < m
          · have HR : Hid (placeV x key = (k : Int)) := Lib.hid (by
              unfold placeV
              rw [HP.out, if_pos ⟨HK.out, hk2, by rw [HM.out]; exact hkm⟩])
            have hkm2 : (k : Int) < (m : Int) := by omega
            clear hs
            go_wp2_with fail
            go_ret
            exact ⟨by rw [HR.out]; rfl, H0.out.below⟩
          · have HR : Hid (placeV x key = -1) := Lib.hid (by
              unfold placeV
              rw [HP.out, if_neg (fun h => hkm (by rw [← HM.out]; exact h.2.2))])
            have hkm2 : ¬ (k : Int) < (m : Int) := by omega
            clear hs
            go_wp2_with fail
            go_ret
            exact ⟨by rw [HR.out]; rfl, H0.out.below⟩
        · have hb := eq_f hs
          have HX := Lib.hid hs
          clear hs
          go_wp2_with fail
          go_round
          case rel => exact ⟨k + 1, by omega, by go_num, fun j hj hjk => by
            rcases Nat.lt_succ_iff_lt_or_eq.1 hjk with h | h
            · exact HT.out j hj h
            · subst h
              rw [Hs1.out]
              exact HX.out⟩
          case measure => simp [intOf]; omega
      · obtain rfl : k = n := by omega
        have HR : Hid (placeV x key = -1) := Lib.hid (by
          have := posK_none x.f3 key (fun j hj => HT.out j hj (by rw [← HN.out]; exact hj))
          unfold placeV
          rw [if_neg (fun h => by have := h.2.1; omega)])
        go_wp2_with fail
        go_ret
        exact ⟨by rw [HR.out]; rfl, H0.out.below⟩
  · have hb := int_ne_t hk
    have HR := Lib.hid (show placeV x key = -1 from by unfold placeV; rw [if_neg (fun h => hk h.1)])
    clear h f3 f4 h3 h4 hk
    go_enter Tryd.func39, Tryd.ntmps39
    go_wp2_with fail
    go_ret
    exact ⟨by rw [HR.out]; rfl, (Below.refl _ w).alloc (Nat.le_refl _) _⟩
set_option maxRecDepth 100000 in
theorem rget_any {w : World} {ok : Nat → Prop} {x : V} {v : Value} (h : VF w ok x v) (key : ByteArray) :
    Calls Tryd.prog 17 #[v, .string key] w (Got w ok (getV x key)) := by
  obtain ⟨A3, c3, A4, c4, rfl, h3, f3, h4, f4⟩ := h.bound.open_
  have HP := Lib.hid (fun w' (hb : Below w.heap.size w w') => rplace_any (h.below hb) key)
  cases hg : getV x key with
  | none =>
    have HPN := Lib.hid (getV_none hg)
    clear hg h f3 f4 h3 h4
    go_enter Tryd.func17, Tryd.ntmps17
    go_wp2_with fail
    refine calls_box2 ?_
    intro W1 hx1 hr1 hs1 hb0
    refine (HP.out _ hb0).mono ?_
    rintro e w1 ⟨rfl, hb⟩
    rw [HPN.out]
    have hr2 := (hb.block _ (by omega)).trans hr1
    obtain ⟨r0, r1, r2, r3, r4⟩ := cells5v hr2
    have rs := softv hr2
    have HB := Lib.hid (hb0.trans (hb.mono (by omega)))
    clear hx1 hr1 hs1 hb0 hb hr2
    go_wp2_with fail
    refine bodyPost_ret (v := .tuple #[.agg #[.int .i64 0, .int .i64 0, .string ⟨#[]⟩, .slice none 0 0, .slice none 0 0], .bool false]) (by simp [results, Tryd.results17, go_sem, r0, r1, r2, r3, r4]) rfl ⟨_, rfl, VF.zero _ _, Off.below HB.out (off5 _ _ _ _ _ _ _) (by simp)⟩
  | some y =>
    obtain ⟨i, hi, hpl, hy⟩ := getV_some hg
    obtain ⟨g, o, rfl, hokg, hgl, hc⟩ := vals_at f4 (by omega)
    obtain ⟨B3, b3, B4, b4, e0, e1, e2, e3, e4, hv⟩ := hc i hi
    rw [hy] at e0 e1 e2 e3 e4 hv
    obtain ⟨n, hn⟩ : ∃ n, x.f4.length = n := ⟨_, rfl⟩
    have hm := Kd.F_max f4
    rw [hn] at hi hm
    have HPL := Lib.hid hpl
    have HC := Lib.hid (fun w' (hb : Below w.heap.size w w') => (show w'.cell? ⟨g, o + i * 5, none⟩ = some (.int .i64 y.f0) ∧ w'.cell? ⟨g, o + i * 5 + 1, none⟩ = some (.int .i64 y.f1) ∧ w'.cell? ⟨g, o + i * 5 + 2, none⟩ = some (.string y.f2) ∧ w'.cell? ⟨g, o + i * 5 + 3, none⟩ = some (.slice B3 y.f3.length b3) ∧ w'.cell? ⟨g, o + i * 5 + 4, none⟩ = some (.slice B4 y.f4.length b4) from
      ⟨(hb.cell (p := ⟨g, _, none⟩) hgl).trans e0, (hb.cell (p := ⟨g, _, none⟩) hgl).trans e1, (hb.cell (p := ⟨g, _, none⟩) hgl).trans e2, (hb.cell (p := ⟨g, _, none⟩) hgl).trans e3, (hb.cell (p := ⟨g, _, none⟩) hgl).trans e4⟩))
    have HV := Lib.hid hv
    rw [hn] at HP
    rw [hn]
    clear hg h f3 f4 h3 hpl e0 e1 e2 e3 e4 hv hc hy hn
    have hii : (i : Int) < (n : Int) := by omega
    go_enter Tryd.func17, Tryd.ntmps17
    go_wp2_with fail
    refine calls_box2 ?_
    intro W1 hx1 hr1 hs1 hb0
    refine (HP.out _ hb0).mono ?_
    rintro e w1 ⟨rfl, hb⟩
    rw [HPL.out]
    have hB1 := hb0.trans (hb.mono (by omega))
    obtain ⟨e0, e1, e2, e3, e4⟩ := HC.out _ hB1
    have hx2 := (hb.block _ (by omega)).trans hx1
    have hr2 := (hb.block _ (by omega)).trans hr1
    obtain ⟨d0, d1, d2, d3, d4⟩ := cells5v hx2
    obtain ⟨r0, r1, r2, r3, r4⟩ := cells5v hr2
    have rs := softv hr2
    have HB1 := Lib.hid hB1; have HZ := Lib.hid (show w.heap.size + 2 ≤ w1.heap.size by have := hb.size; omega)
    clear hx1 hr1 hs1 hb0 hb hr2 hB1 hx2 d0 d1 d2 d3
    go_wp2_with fail
    have hz := HZ.out
    have hO := off5 w1 (w.heap.size + 1) (.int .i64 y.f0) (.int .i64 y.f1) (.string y.f2) (.slice B3 y.f3.length b3) (.slice B4 y.f4.length b4)
    refine bodyPost_ret (v := .tuple #[.agg #[.int .i64 y.f0, .int .i64 y.f1, .string y.f2, .slice B3 y.f3.length b3, .slice B4 y.f4.length b4], .bool true]) (by simp [results, Tryd.results17, go_sem, r0, r1, r2, r3, r4]) rfl ⟨_, rfl, (hO.vf (HV.out.below HB1.out) (fun k hk _ hm => ?_)).mono (fun k hk => .inl hk.1), Off.below HB1.out hO (by simp)⟩
    simp at hm
    have := hk.2
    omega
end Go.Proofs.YtkdicgendcdooaaDoor

/-
  A number by a key, an object by a key, as the package power asks for them.
-/
namespace Go.Proofs.YtkdicgendcdooaaDoor
open Go.RowKit Go.Lib Go.Proofs.YtkdicgendcdooaaDoorW.PrintWords
set_option linter.unusedSimpArgs false
set_option linter.unusedVariables false
/-- The number by a key. -/
def atV (x : V) (key : ByteArray) : Option Int := match getV x key with
  | none => none
  | some y => if y.f0 = 2 then some y.f1 else none
def zObj : V := ⟨5, 0, ⟨#[]⟩, [], []⟩
/-- The object by a key; an empty one: there is none. -/
def inV (x : V) (key : ByteArray) : V := match getV x key with
  | none => zObj
  | some y => if y.f0 = 5 then y else zObj
theorem Fit.obj : Fit zObj := .mk _ (by decide) (by decide) (by decide) (fun _ h => by cases h) (by decide) (fun _ h => by cases h)
theorem inV_fit {x : V} (h : Fit x) (key : ByteArray) : Fit (inV x key) := by
  unfold inV
  cases hg : getV x key with
  | none => exact Fit.obj
  | some y =>
    simp only
    split
    · exact getV_fit h hg
    · exact Fit.obj
theorem VF.obj (w : World) (ok : Nat → Prop) : VF w ok zObj (.agg #[.int .i64 5, .int .i64 0, .string ⟨#[]⟩, .slice none 0 0, .slice none 0 0]) :=
  VF.mk (x := zObj) (Nat.le_refl _) (Kd.F_nil _ _ _) (Nat.le_refl _) (Kd.F_nil _ _ _)
def EndI (w : World) (v : Value) (e : Ending) (w' : World) : Prop := e = .returned v ∧ Below w.heap.size w w'
def EndV (w : World) (ok : Nat → Prop) (x : V) (e : Ending) (w' : World) : Prop := ∃ v, e = .returned v ∧ VF w' (Old w ok) x v ∧ Below w.heap.size w w'
set_option maxRecDepth 100000 in
theorem at_any {w : World} {ok : Nat → Prop} {x : V} {v : Value} (h : VF w ok x v) (hf : Fit x) (key : ByteArray) :
    Calls Tryd.prog 31 #[v, .string key] w (EndI w (.agg #[.int .i64 ((atV x key).getD 0), .bool (atV x key).isSome])) := by
  obtain ⟨A3, c3, A4, c4, rfl, h3, f3, h4, f4⟩ := h.open_
  have HG := Lib.hid (fun w' (hb : Below w.heap.size w w') => get_any (h.below hb) hf key)
  obtain ⟨t, ht⟩ : ∃ t, atV x key = t := ⟨_, rfl⟩
  rw [ht]
  unfold atV at ht
  cases hg : getV x key with
  | none =>
    rw [hg] at ht
    obtain rfl : none = t := ht
    have HGN := Lib.hid hg
    clear hg h f3 f4 h3 h4
    go_enter Tryd.func31, Tryd.ntmps31
    go_wp2_with fail
    refine calls_box2 ?_
    intro W1 hx1 hr1 hs1 hb0
    have hgo := HG.out _ hb0
    rw [HGN.out] at hgo
    refine hgo.mono ?_
    clear hgo
    rintro e w1 ⟨v, rfl, hv, hb⟩
    obtain ⟨D3, q3, D4, q4, rfl, _⟩ := hv.open_
    have hr2 := (hb.block _ (by omega)).trans hr1
    obtain ⟨r0, r1⟩ := cells2v hr2
    have rs := softv hr2
    have hrl : w.heap.size + 1 < w1.heap.size := by have := hb.size; omega
    have HB := Lib.hid (hb0.trans (hb.mono (by omega)))
    clear hx1 hr1 hs1 hb0 hb hr2 hv
    simp only [Option.getD_none, Option.isSome_none]
    go_wp2_with fail
    refine bodyPost_ret (v := .agg #[.int .i64 0, .bool false]) (by simp [results, Tryd.results31, go_sem, r0, r1, hrl]) rfl ⟨rfl, ((HB.out.setCell (by simp) _).setCell (by simp) _).alloc (by simp [World.setCell]; omega) _⟩
  | some y =>
    rw [hg] at ht
    have ht : (if y.f0 = 2 then some y.f1 else none) = t := ht
    have HGN := Lib.hid hg
    clear hg h f3 f4 h3 h4
    by_cases hk : y.f0 = 2
    · rw [if_pos hk] at ht
      obtain rfl := ht
      have hb := int_ne_f hk
      clear hk
      go_enter Tryd.func31, Tryd.ntmps31
      go_wp2_with fail
      refine calls_box2 ?_
      intro W1 hx1 hr1 hs1 hb0
      have hgo := HG.out _ hb0
      rw [HGN.out] at hgo
      refine hgo.mono ?_
      clear hgo
      rintro e w1 ⟨v, rfl, hv, hb⟩
      obtain ⟨D3, q3, D4, q4, rfl, _⟩ := hv.open_
      have hr2 := (hb.block _ (by omega)).trans hr1
      obtain ⟨r0, r1⟩ := cells2v hr2
      have rs := softv hr2
      have hrl : w.heap.size + 1 < w1.heap.size := by have := hb.size; omega
      have HB := Lib.hid (hb0.trans (hb.mono (by omega)))
      clear hx1 hr1 hs1 hb0 hb hr2 hv
      simp only [Option.getD_some, Option.isSome_some]
      go_wp2_with fail
      refine bodyPost_ret (v := .agg #[.int .i64 y.f1, .bool true]) (by simp [results, Tryd.results31, go_sem, r0, r1, hrl]) rfl ⟨rfl, ((HB.out.setCell (by simp) _).setCell (by simp) _).alloc (by simp [World.setCell]; omega) _⟩
    · rw [if_neg hk] at ht
      obtain rfl := ht
      have hb := int_ne_t hk
      clear hk
      go_enter Tryd.func31, Tryd.ntmps31
      go_wp2_with fail
      refine calls_box2 ?_
      intro W1 hx1 hr1 hs1 hb0
      have hgo := HG.out _ hb0
      rw [HGN.out] at hgo
      refine hgo.mono ?_
      clear hgo
      rintro e w1 ⟨v, rfl, hv, hb⟩
      obtain ⟨D3, q3, D4, q4, rfl, _⟩ := hv.open_
      have hr2 := (hb.block _ (by omega)).trans hr1
      obtain ⟨r0, r1⟩ := cells2v hr2
      have rs := softv hr2
      have hrl : w.heap.size + 1 < w1.heap.size := by have := hb.size; omega
      have HB := Lib.hid (hb0.trans (hb.mono (by omega)))
      clear hx1 hr1 hs1 hb0 hb hr2 hv
      simp only [Option.getD_some, Option.isSome_some]
      go_wp2_with fail
      refine bodyPost_ret (v := .agg #[.int .i64 0, .bool false]) (by simp [results, Tryd.results31, go_sem, r0, r1, hrl]) rfl ⟨rfl, ((HB.out.setCell (by simp) _).setCell (by simp) _).alloc (by simp [World.setCell]; omega) _⟩
set_option maxRecDepth 100000 in
theorem in_any {w : World} {ok : Nat → Prop} {x : V} {v : Value} (h : VF w ok x v) (hf : Fit x) (key : ByteArray) :
    Calls Tryd.prog 32 #[v, .string key] w (EndV w ok (inV x key)) := by
  obtain ⟨A3, c3, A4, c4, rfl, h3, f3, h4, f4⟩ := h.open_
  have HG := Lib.hid (fun w' (hb : Below w.heap.size w w') => get_any (h.bound.below hb) hf key)
  obtain ⟨r, hr⟩ : ∃ r, getV x key = r := ⟨_, rfl⟩
  by_cases hk : (r.getD zV).f0 = 5
  · have ht : inV x key = r.getD zV := by
      unfold inV
      rw [hr]
      cases r with
      | none => exact absurd hk (by decide)
      | some y =>
        have hk : y.f0 = 5 := hk
        simp only [Option.getD_some]
        rw [if_pos hk]
    have HT := Lib.hid ht
    have HGN := Lib.hid hr
    have hb := int_ne_f hk
    clear hk hr h f3 f4 h3 h4 ht
    obtain ⟨y, hy⟩ : ∃ y, r.getD zV = y := ⟨_, rfl⟩
    rw [hy] at hb HT
    rw [HT.out]
    go_enter Tryd.func32, Tryd.ntmps32
    go_wp2_with fail
    refine calls_box2 ?_
    intro W1 hx1 hr1 hs1 hb0
    have hgo := HG.out _ hb0
    rw [HGN.out] at hgo
    refine hgo.mono ?_
    clear hgo
    rintro e w1 ⟨v, rfl, hv, hb1⟩
    rw [hy] at hv
    obtain ⟨D3, q3, D4, q4, rfl, _⟩ := hv.open_
    have hr2 := (hb1.block _ (by omega)).trans hr1
    obtain ⟨r0, r1, r2, r3, r4⟩ := cells5v hr2
    have rs := softv hr2
    have hrl : w.heap.size + 1 < w1.heap.size := by have := hb1.size; omega
    have HB := Lib.hid (hb0.trans (hb1.mono (by omega)))
    have HV := Lib.hid hv
    have HS1 := Lib.hid hs1
    clear hx1 hr1 hs1 hb0 hb1 hr2 hv hy HG HGN HT
    go_wp2_with fail
    have hz := HS1.out
    have hO := off5 w1 (w.heap.size + 1) (.int .i64 y.f0) (.int .i64 y.f1) (.string y.f2) (.slice D3 y.f3.length q3) (.slice D4 y.f4.length q4)
    have hV2 := (hO.vf HV.out (fun k hk _ hm => by simp at hm; rcases hk with h | h; omega; omega)).below ((Below.refl _ _).alloc (Nat.le_refl _) (.cells #[.int .i64 y.f0, .int .i64 y.f1, .string y.f2, .slice D3 y.f3.length q3, .slice D4 y.f4.length q4] 27))
    refine bodyPost_ret (v := .agg #[.int .i64 y.f0, .int .i64 y.f1, .string y.f2, .slice D3 y.f3.length q3, .slice D4 y.f4.length q4]) (by simp [results, Tryd.results32, go_sem, r0, r1, r2, r3, r4, hrl]) rfl ⟨_, rfl, hV2.mono (fun k hk => ?_), (Off.below HB.out hO (by simp)).alloc (by simp [World.setCell]; omega) _⟩
    rcases hk with h | h
    · exact .inl h.1
    · exact .inr (by omega)
  · have ht : inV x key = zObj := by
      unfold inV
      rw [hr]
      cases r with
      | none => rfl
      | some y =>
        have hk : ¬ y.f0 = 5 := hk
        simp only
        rw [if_neg hk]
    have HT := Lib.hid ht
    have HGN := Lib.hid hr
    have hb := int_ne_t hk
    clear hk hr h f3 f4 h3 h4 ht
    obtain ⟨y, hy⟩ : ∃ y, r.getD zV = y := ⟨_, rfl⟩
    rw [hy] at hb
    rw [HT.out]
    go_enter Tryd.func32, Tryd.ntmps32
    go_wp2_with fail
    refine calls_box2 ?_
    intro W1 hx1 hr1 hs1 hb0
    have hgo := HG.out _ hb0
    rw [HGN.out] at hgo
    refine hgo.mono ?_
    clear hgo
    rintro e w1 ⟨v, rfl, hv, hb1⟩
    rw [hy] at hv
    obtain ⟨D3, q3, D4, q4, rfl, _⟩ := hv.open_
    have hr2 := (hb1.block _ (by omega)).trans hr1
    obtain ⟨r0, r1, r2, r3, r4⟩ := cells5v hr2
    have rs := softv hr2
    have hrl : w.heap.size + 1 < w1.heap.size := by have := hb1.size; omega
    have HB := Lib.hid (hb0.trans (hb1.mono (by omega)))
    clear hx1 hr1 hs1 hb0 hb1 hr2 hv hy HG HGN HT
    go_wp2_with fail
    have hO := off5 w1 (w.heap.size + 1) (.int .i64 5) (.int .i64 0) (.string ⟨#[]⟩) (.slice none 0 0) (.slice none 0 0)
    refine bodyPost_ret (v := .agg #[.int .i64 5, .int .i64 0, .string ⟨#[]⟩, .slice none 0 0, .slice none 0 0]) (by simp [results, Tryd.results32, go_sem, r0, r1, r2, r3, r4, hrl]) rfl ⟨_, rfl, VF.obj _ _, (Off.below HB.out hO (by simp)).alloc (by simp [World.setCell]; omega) _⟩
set_option maxRecDepth 100000 in
theorem or_any (o : Option Int) (d : Int) (w : World) : Calls Tryd.prog 33 #[.agg #[.int .i64 (o.getD 0), .bool o.isSome], .int .i64 d] w (EndI w (.int .i64 (o.getD d))) := by
  cases o with
  | none =>
    simp only [Option.getD_none, Option.isSome_none]
    go_enter Tryd.func33, Tryd.ntmps33
    go_wp2_with fail
    go_ret
    exact ⟨rfl, (Below.refl _ w).alloc (Nat.le_refl _) _⟩
  | some n =>
    simp only [Option.getD_some, Option.isSome_some]
    go_enter Tryd.func33, Tryd.ntmps33
    go_wp2_with fail
    go_ret
    exact ⟨rfl, (Below.refl _ w).alloc (Nat.le_refl _) _⟩
def aboveO (o : Option Int) (n : Int) : Bool := match o with | none => false | some m => decide (n < m)
set_option maxRecDepth 100000 in
theorem above_any (o : Option Int) (d : Int) (w : World) : Calls Tryd.prog 53 #[.agg #[.int .i64 (o.getD 0), .bool o.isSome], .int .i64 d] w (EndI w (.bool (aboveO o d))) := by
  cases o with
  | none =>
    simp only [Option.getD_none, Option.isSome_none]
    go_enter Tryd.func53, Tryd.ntmps53
    go_wp2_with fail
    go_ret
    exact ⟨rfl, (Below.refl _ w).alloc (Nat.le_refl _) _⟩
  | some n =>
    simp only [Option.getD_some, Option.isSome_some]
    obtain ⟨b, hb⟩ : ∃ b, aboveO (some n) d = b := ⟨_, rfl⟩
    have hb' : decide (d < n) = b := hb
    rw [hb]
    have HB := Lib.hid hb'
    clear hb
    cases b with
    | false =>
      go_enter Tryd.func53, Tryd.ntmps53
      go_wp2_with fail
      go_ret
      exact ⟨rfl, (Below.refl _ w).alloc (Nat.le_refl _) _⟩
    | true =>
      go_enter Tryd.func53, Tryd.ntmps53
      go_wp2_with fail
      go_ret
      exact ⟨rfl, (Below.refl _ w).alloc (Nat.le_refl _) _⟩
end Go.Proofs.YtkdicgendcdooaaDoor

/-
  A pair put into an object, or taken out of it: the document's answer.
-/
namespace Go.Proofs.YtkdicgendcdooaaDoor
open Go.RowKit Go.Lib Go.Proofs.YtkdicgendcdooaaDoorW.PrintWords Go.Proofs.YtkdicgendcdooaaDoorW.PrintMore
set_option linter.unusedSimpArgs false
set_option linter.unusedVariables false
theorem cut_take {P : Program} (t e : TypeId) (kl : IntKind) {i : TypeInfo} (ht : P.underlying t = some (.slice e)) (hi : P.info? e = some i) (A : Option Addr) (n c : Nat) (j : Int) (h0 : 0 ≤ j) (hm : j ≤ n) (hc : n ≤ c) :
    ∀ W : World, (Instr.slice t (.slice A n c) none (some (.int kl j)) none).run P W = .ok (.slice A j.toNat c) W := by
  intro W
  have hel : P.elem t = e := by simp [Program.elem, ht]
  have hu : P.underlying t = some (.slice (P.elem t)) := by rw [hel]; exact ht
  have ha : (A.map fun x => x.add 0) = A := by cases A <;> simp [Addr.add]
  rw [run_slice_h W t A n c hu kl j h0 (by omega), hel]
  simp [sizeOf, typeInfo, hi, sliced, Result.andThen, ha]
def withV (x : V) (a o : Nat) (ks : List ByteArray) (ys : List V) : V :=
  ⟨5, x.f1, x.f2, x.f3.take a ++ ks ++ (x.f3.take (min x.f3.length x.f4.length)).drop (a + o), x.f4.take a ++ ys ++ (x.f4.take (min x.f3.length x.f4.length)).drop (a + o)⟩
theorem info9s : (Tryd.prog.info? 9).map (fun i => (i.zero, i.size, i.bytes)) = some (some (.string ⟨#[]⟩), 1, 16) := by kernel_rfl
theorem infoV : (Tryd.prog.info? 27).map (fun i => (i.zero, i.size, i.bytes)) = some (some (.agg #[.int .i64 0, .int .i64 0, .string ⟨#[]⟩, .slice none 0 0, .slice none 0 0]), 5, 80) := by kernel_rfl
attribute [local go_sem] min2_int min_two
set_option maxRecDepth 100000 in
theorem with_any {w : World} {ok : Nat → Prop} {x : V} {v : Value} (h : VF w ok x v) (hf : Fit x) (a o : Nat) {Ak Av : Option Addr} {ck cv : Nat} {ks : List ByteArray} {ys : List V} (hk : Kd.F Kd.string w ok Ak ks.length ks) (hck : ks.length ≤ ck) (hy : Kd.F kV w ok Av ys.length ys) (hcv : ys.length ≤ cv)
    (hao : a + o ≤ min x.f3.length x.f4.length) (hks : ks.length ≤ 100000) (hys : ys.length ≤ 100000) :
    Calls Tryd.prog 40 #[v, .int .i64 (a : Int), .int .i64 (o : Int), .slice Ak ks.length ck, .slice Av ys.length cv] w (EndV w ok (withV x a o ks ys)) := by
  obtain ⟨A3, c3, A4, c4, rfl, l3, f3, l4, f4⟩ := h.open_
  have hm3 := hf.keys
  have hm4 := hf.vals
  obtain ⟨p, hp⟩ : ∃ p, x.f3.length = p := ⟨_, rfl⟩
  obtain ⟨q, hq⟩ : ∃ q, x.f4.length = q := ⟨_, rfl⟩
  obtain ⟨n, hn⟩ : ∃ n, min p q = n := ⟨_, rfl⟩
  have hnp : n ≤ p := by omega
  have hnq : n ≤ q := by omega
  have han : a + o ≤ n := by omega
  have g1 : Kd.F Kd.string w ok A3 (x.f3.take a).length (x.f3.take a) := Kd.F_take f3 (by omega)
  have g2 := Kd.F_mid (lo := a + o) (hi := n) f3 (by omega) (by omega) l3
  have g3 : Kd.F kV w ok A4 (x.f4.take a).length (x.f4.take a) := Kd.F_take f4 (by omega)
  have g4 := Kd.F_mid (lo := a + o) (hi := n) f4 (by omega) (by omega) l4
  obtain ⟨i9, hi9, _, hs9, _⟩ := info_parts info9s
  obtain ⟨iV, hiV, _, hsV, _⟩ := info_parts infoV
  have t1 := cut_take (P := Tryd.prog) 24 9 .i64 Tryd.underlying24 hi9 A3 p c3 (a : Int) (by omega) (by omega) (by omega)
  have t2 := cut_mid (P := Tryd.prog) 24 9 .i64 .i64 Tryd.underlying24 hi9 1 hs9 A3 p c3 ((a : Int) + (o : Int)) (n : Int) (by omega) (by omega) (by omega) (by omega)
  have t3 := cut_take (P := Tryd.prog) 25 27 .i64 Tryd.underlying25 hiV A4 q c4 (a : Int) (by omega) (by omega) (by omega)
  have t4 := cut_mid (P := Tryd.prog) 25 27 .i64 .i64 Tryd.underlying25 hiV 5 hsV A4 q c4 ((a : Int) + (o : Int)) (n : Int) (by omega) (by omega) (by omega) (by omega)
  have hmn : (if q < p then (q : Int) else (p : Int)) = (n : Int) := by split <;> omega
  have ew : withV x a o ks ys = ⟨5, x.f1, x.f2, x.f3.take a ++ ks ++ (x.f3.take n).drop (a + o), x.f4.take a ++ ys ++ (x.f4.take n).drop (a + o)⟩ := by unfold withV; rw [hp, hq, hn]
  have e1 : (x.f3.take a).length = a := by rw [List.length_take]; omega
  have e2 : ((x.f3.take n).drop (a + o)).length = n - (a + o) := by rw [List.length_drop, List.length_take]; omega
  have e3 : (x.f4.take a).length = a := by rw [List.length_take]; omega
  have e4 : ((x.f4.take n).drop (a + o)).length = n - (a + o) := by rw [List.length_drop, List.length_take]; omega
  rw [e1] at g1
  rw [e2] at g2
  rw [e3] at g3
  rw [e4] at g4
  have hsum : IntKind.i64.wrap ((a : Int) + (o : Int)) = (a : Int) + (o : Int) := IntWalk.i64_in _ (by omega)
  simp only [Int.toNat_natCast] at t1 t3
  have h2 : ((a : Int) + (o : Int)).toNat = a + o := by omega
  rw [h2] at t2 t4
  simp only [Int.toNat_natCast] at t2 t4
  rw [hp, hq]
  rw [hp] at hm3
  rw [hq] at hm4
  obtain ⟨B3, hB3⟩ : ∃ B3, (if c3 = a + o then A3 else A3.map fun x => x.add ((a + o) * 1)) = B3 := ⟨_, rfl⟩
  obtain ⟨B4, hB4⟩ : ∃ B4, (if c4 = a + o then A4 else A4.map fun x => x.add ((a + o) * 5)) = B4 := ⟨_, rfl⟩
  have hB3' : (if c3 = a + o then A3 else A3.map fun x => x.add ((a + o) * Kd.string.sz)) = B3 := hB3
  have hB4' : (if c4 = a + o then A4 else A4.map fun x => x.add ((a + o) * kV.sz)) = B4 := hB4
  rw [hB3] at t2
  rw [hB4] at t4
  rw [hB3'] at g2
  rw [hB4'] at g4
  obtain ⟨nk, hnk⟩ : ∃ nk, ks.length = nk := ⟨_, rfl⟩
  obtain ⟨ny, hny⟩ : ∃ ny, ys.length = ny := ⟨_, rfl⟩
  rw [hnk] at hk hck hks ⊢
  rw [hny] at hy hcv hys ⊢
  have G1 := Lib.hid (Kd.F_bound g1); have G2 := Lib.hid (Kd.F_bound g2); have G3 := Lib.hid (Kd.F_bound g3); have G4 := Lib.hid (Kd.F_bound g4); have GK := Lib.hid (Kd.F_bound hk); have GY := Lib.hid (Kd.F_bound hy)
  have E1 := Lib.hid e1; have E2 := Lib.hid e2; have E3 := Lib.hid e3; have E4 := Lib.hid e4; have EW := Lib.hid ew; have EK := Lib.hid hnk; have EY := Lib.hid hny
  have HN := Lib.hid hn
  clear h hf f3 f4 hk hy g1 g2 g3 g4 e1 e2 e3 e4 ew hB3 hB4 hB3' hB4' hi9 hs9 hiV hsV hp hq hn l3 l4 hnk hny h2
  go_enter Tryd.func40, Tryd.ntmps40
  go_wp2_with (first
    | (at_builtin; refine wpl_box2 ?_; intro W0 hx0 hr0 hs0 hB0; refine Kd.R_append_row Value.string ⟨#[]⟩ (h1 := fun _ => rfl) (w0 := W0) W0.heap.size rfl (.tmp 21) (.tmp 25) 24 9 (.string ⟨#[]⟩) 16 rfl Tryd.underlying24 info9s rfl (by decide) (.slice none 0 0) [] (x.f3.take a) A3 a c3 Any rfl rfl (fun _ _ => trivial) (Kd.R_nil _ _ _ _ _) (Kd.F_now (Kd.F_below G1.out hB0)) (Below.refl _ _) (Nat.le_refl _) (by simp; omega) ?_; intro v1 w1 hR1 hb1 hg1 hat1; obtain ⟨b0, b1, b2, b3, b4⟩ := cells5v ((hb1.block w.heap.size (by omega)).trans hx0); have HR1 := Lib.hid hR1; have HB1 := Lib.hid hb1; have HX0 := Lib.hid hx0; have HR0 := Lib.hid hr0; have HS0 := Lib.hid hs0; have HB0 := Lib.hid hB0; clear hR1 hb1 hg1 hat1 hx0 hr0 hs0 hB0)
    | (at_builtin; refine Kd.R_append_row Value.string ⟨#[]⟩ (h1 := fun _ => rfl) (w0 := W0) W0.heap.size rfl (.tmp 27) (.tmp 28) 24 9 (.string ⟨#[]⟩) 16 rfl Tryd.underlying24 info9s rfl (by decide) v1 ([] ++ x.f3.take a) ks Ak nk ck Any rfl rfl (fun _ _ => trivial) HR1.out (Kd.F_now (Kd.F_below GK.out (HB0.out.trans (HB1.out.mono (by have := HS0.out; omega))))) HB1.out HB1.out.size (by rw [List.nil_append, E1.out]; omega) ?_; intro v2 w2 hR2 hb2 hg2 hat2; clear b0 b1 b2 b3 b4; obtain ⟨b0, b1, b2, b3, b4⟩ := cells5v ((hb2.block w.heap.size (by have := HS0.out; omega)).trans HX0.out); have HR2 := Lib.hid hR2; have HB2 := Lib.hid hb2; clear hR2 hb2 hg2 hat2)
    | (at_builtin; refine Kd.R_append_row Value.string ⟨#[]⟩ (h1 := fun _ => rfl) (w0 := W0) W0.heap.size rfl (.tmp 30) (.tmp 37) 24 9 (.string ⟨#[]⟩) 16 rfl Tryd.underlying24 info9s rfl (by decide) v2 ([] ++ x.f3.take a ++ ks) ((x.f3.take n).drop (a + o)) B3 (n - (a + o)) (c3 - (a + o)) Any rfl rfl (fun _ _ => trivial) HR2.out (Kd.F_now (Kd.F_below G2.out (HB0.out.trans (HB2.out.mono (by have := HS0.out; omega))))) HB2.out HB2.out.size (by rw [List.nil_append, List.length_append, E1.out, EK.out]; omega) ?_; intro v3 w3 hR3 hb3 hg3 hat3; obtain ⟨L3, hL3⟩ : ∃ L3, [] ++ x.f3.take a ++ ks ++ (x.f3.take n).drop (a + o) = L3 := ⟨_, rfl⟩; rw [hL3] at hR3; have HL3 := Lib.hid hL3; clear hL3; clear b0 b1 b2 b3 b4; obtain ⟨b0, b1, b2, b3, b4⟩ := cells5v ((hb3.block w.heap.size (by have := HS0.out; omega)).trans HX0.out); have HR3 := Lib.hid hR3; have HB3 := Lib.hid hb3; have HW3 := Lib.hid (HB0.out.trans (hb3.mono (by have := HS0.out; omega))); clear hR3 hb3 hg3 hat3)
    | (at_builtin; refine Kd.N_append_rows kV (w0 := w3) w3.heap.size rfl (.tmp 39) (.tmp 43) 25 27 (.agg #[.int .i64 0, .int .i64 0, .string ⟨#[]⟩, .slice none 0 0, .slice none 0 0]) 80 rfl Tryd.underlying25 infoV rfl (by decide) (by decide) (.slice none 0 0) [] (x.f4.take a) A4 a c4 (fun k => (ok k ∧ k < w.heap.size) ∨ w.heap.size + 2 ≤ k) (fun k => ok k ∧ k < w.heap.size) rfl rfl (Kd.N_nil _ _ _ _ _) (Kd.F_below G3.out HW3.out) (fun k hk => ⟨.inl hk, by simp [Value.ownBlock]⟩) (fun k hk => .inr (by have := HB3.out.size; have := HS0.out; omega)) (Below.refl _ _) (Nat.le_refl _) (by simp; omega) ?_; intro v4 w4 hN4 hb4 hg4 hat4; clear b0 b1 b2 b3 b4; obtain ⟨b0, b1, b2, b3, b4⟩ := cells5v ((hb4.block w.heap.size (by have := HB3.out.size; have := HS0.out; omega)).trans ((HB3.out.block w.heap.size (by have := HS0.out; omega)).trans HX0.out)); have HN4 := Lib.hid hN4; have HB4 := Lib.hid hb4; clear hN4 hb4 hg4 hat4)
    | (at_builtin; refine Kd.N_append_rows kV (w0 := w3) w3.heap.size rfl (.tmp 45) (.tmp 46) 25 27 (.agg #[.int .i64 0, .int .i64 0, .string ⟨#[]⟩, .slice none 0 0, .slice none 0 0]) 80 rfl Tryd.underlying25 infoV rfl (by decide) (by decide) v4 ([] ++ x.f4.take a) ys Av ny cv (fun k => (ok k ∧ k < w.heap.size) ∨ w.heap.size + 2 ≤ k) (fun k => ok k ∧ k < w.heap.size) rfl rfl HN4.out (Kd.F_below GY.out (HW3.out.trans (HB4.out.mono HW3.out.size))) (fun k hk => ⟨.inl hk, fun e => by have h1 := Kd.N_base HN4.out k e.symm; have h2 := HW3.out.size; have h3 := hk.2; omega⟩) (fun k hk => .inr (by have := HB4.out.size; have := HB3.out.size; have := HS0.out; omega)) HB4.out HB4.out.size (by rw [List.nil_append, E3.out]; omega) ?_; intro v5 w5 hN5 hb5 hg5 hat5; clear b0 b1 b2 b3 b4; obtain ⟨b0, b1, b2, b3, b4⟩ := cells5v ((hb5.block w.heap.size (by have := HB3.out.size; have := HS0.out; omega)).trans ((HB3.out.block w.heap.size (by have := HS0.out; omega)).trans HX0.out)); have HN5 := Lib.hid hN5; have HB5 := Lib.hid hb5; clear hN5 hb5 hg5 hat5)
    | (at_builtin; refine Kd.N_append_rows kV (w0 := w3) w3.heap.size rfl (.tmp 48) (.tmp 55) 25 27 (.agg #[.int .i64 0, .int .i64 0, .string ⟨#[]⟩, .slice none 0 0, .slice none 0 0]) 80 rfl Tryd.underlying25 infoV rfl (by decide) (by decide) v5 ([] ++ x.f4.take a ++ ys) ((x.f4.take n).drop (a + o)) B4 (n - (a + o)) (c4 - (a + o)) (fun k => (ok k ∧ k < w.heap.size) ∨ w.heap.size + 2 ≤ k) (fun k => ok k ∧ k < w.heap.size) rfl rfl HN5.out (Kd.F_below G4.out (HW3.out.trans (HB5.out.mono HW3.out.size))) (fun k hk => ⟨.inl hk, fun e => by have h1 := Kd.N_base HN5.out k e.symm; have h2 := HW3.out.size; have h3 := hk.2; omega⟩) (fun k hk => .inr (by have := HB5.out.size; have := HB3.out.size; have := HS0.out; omega)) HB5.out HB5.out.size (by rw [List.nil_append, List.length_append, E3.out, EY.out]; omega) ?_; intro v6 w6 hN6 hb6 hg6 hat6; obtain ⟨L4, hL4⟩ : ∃ L4, [] ++ x.f4.take a ++ ys ++ (x.f4.take n).drop (a + o) = L4 := ⟨_, rfl⟩; rw [hL4] at hN6; have HL4 := Lib.hid hL4; clear hL4; clear b0 b1 b2 b3 b4; obtain ⟨b0, b1, b2, b3, b4⟩ := cells5v ((hb6.block w.heap.size (by have := HB3.out.size; have := HS0.out; omega)).trans ((HB3.out.block w.heap.size (by have := HS0.out; omega)).trans HX0.out)); have hr6 := (hb6.block (w.heap.size + 1) (by have := HB3.out.size; have := HS0.out; omega)).trans ((HB3.out.block (w.heap.size + 1) (by have := HS0.out; omega)).trans HR0.out); obtain ⟨r0, r1, r2, r3, r4⟩ := cells5v hr6; have rs := softv hr6; obtain ⟨K3, k3, rfl, hk3, hF3⟩ := row_read HR3.out; obtain ⟨K6, k6, rfl, hk6, _⟩ := Kd.N_reads hN6; have HF3 := Lib.hid (Kd.F_below hF3 hb6); have HN6 := Lib.hid hN6; have HB6 := Lib.hid (HW3.out.trans (hb6.mono HW3.out.size)); have HK3 := Lib.hid hk3; have HK6 := Lib.hid hk6; clear hr6 hN6 hb6 hg6 hat6 hF3 hk3 hk6))
  have hE : withV x a o ks ys = ⟨5, x.f1, x.f2, L3, L4⟩ := by rw [EW.out, ← HL3.out, ← HL4.out, List.nil_append, List.nil_append]
  have hO := off5 w6 (w.heap.size + 1) (.int .i64 5) (.int .i64 x.f1) (.string x.f2) (.slice K3 L3.length k3) (.slice K6 L4.length k6)
  have hz0 := HS0.out
  have hV : VF (((((w6.setCell ⟨w.heap.size + 1, 0, none⟩ (.int .i64 5)).setCell ⟨w.heap.size + 1, 1, none⟩ (.int .i64 x.f1)).setCell ⟨w.heap.size + 1, 2, none⟩ (.string x.f2)).setCell ⟨w.heap.size + 1, 3, none⟩ (.slice K3 L3.length k3)).setCell ⟨w.heap.size + 1, 4, none⟩ (.slice K6 L4.length k6)) (Old w ok) ⟨5, x.f1, x.f2, L3, L4⟩ (.agg #[.int .i64 5, .int .i64 x.f1, .string x.f2, .slice K3 L3.length k3, .slice K6 L4.length k6]) := by
    refine VF.mk (x := ⟨5, x.f1, x.f2, L3, L4⟩) HK3.out (Kd.F_mono (Kd.F_step HF3.out (fun k hk _ => hO.block k (fun hm => ?_))) (fun k hk => .inr (by omega))) HK6.out (Kd.F_mono (Kd.F_step (Kd.N_F HN6.out) (fun k hk _ => hO.block k (fun hm => ?_))) (fun k hk => ?_))
    · simp at hm
      omega
    · simp at hm
      omega
    · rcases hk with h | h
      · exact .inl h.1
      · exact .inr (by omega)
  refine bodyPost_ret (v := .agg #[.int .i64 5, .int .i64 x.f1, .string x.f2, .slice K3 L3.length k3, .slice K6 L4.length k6]) (by simp [results, Tryd.results40, go_sem, r0, r1, r2, r3, r4]) rfl ⟨_, rfl, ?_, Off.below HB6.out hO (by simp)⟩
  rw [hE]
  exact hV
end Go.Proofs.YtkdicgendcdooaaDoor

/-
  The order of keys: the document's answer.
-/
namespace Go.Proofs.YtkdicgendcdooaaDoor
open Go.RowKit Go.Lib Go.Proofs.YtkdicgendcdooaaDoorW.PrintWords
set_option linter.unusedSimpArgs false
set_option linter.unusedVariables false
def lessL : List UInt8 → List UInt8 → Bool
  | [], [] => false
  | [], _ :: _ => true
  | _ :: _, [] => false
  | x :: xs, y :: ys => if x = y then lessL xs ys else decide (x < y)
theorem lessL_drop : ∀ (k : Nat) (a b : List UInt8), a.take k = b.take k → k ≤ a.length → k ≤ b.length → lessL a b = lessL (a.drop k) (b.drop k)
  | 0, a, b, _, _, _ => rfl
  | k + 1, [], b, _, h, _ => absurd h (by simp)
  | k + 1, _ :: _, [], _, _, h => absurd h (by simp)
  | k + 1, x :: xs, y :: ys, h, h1, h2 => by
    rw [List.take_succ_cons, List.take_succ_cons] at h
    injection h with hx ht
    show (if x = y then lessL xs ys else decide (x < y)) = _
    rw [if_pos hx]
    exact lessL_drop k xs ys ht (by simpa using h1) (by simpa using h2)
def lessB (a b : ByteArray) : Bool := lessL a.data.toList b.data.toList
theorem drop_at {l : List UInt8} {k : Nat} (h : k < l.length) : l.drop k = l[k] :: l.drop (k + 1) := List.drop_eq_getElem_cons h
theorem dlen (s : ByteArray) : s.data.toList.length = s.size := Array.length_toList
theorem dget (s : ByteArray) (k : Nat) (h : k < s.size) : s[k] = s.data.toList[k]'(by rw [dlen]; exact h) := rfl
set_option maxRecDepth 100000 in
theorem rless_any (a b : ByteArray) (w : World) (ha : a.size ≤ maxLen) (hb : b.size ≤ maxLen) :
    Calls Tryd.prog 41 #[.string a, .string b] w fun e w' => e = .returned (.bool (lessB a b)) ∧ ∃ n, w' = w.drewN n := by
  unfold maxLen at ha hb
  go_enter Tryd.func41, Tryd.ntmps41
  go_wp2_with fail
  go_loopw [5] (fun i wr => ∃ k : Nat, k ≤ a.size ∧ k ≤ b.size ∧ i = .int .i64 k ∧ a.data.toList.take k = b.data.toList.take k ∧ ∃ q, wr = w.drewN q) (fun i _ => a.size - (intOf i).toNat)
  case atStart => exact ⟨0, by omega, by omega, rfl, rfl, 0, rfl⟩
  case round =>
    obtain ⟨k, hka, hkb, rfl, ht, q, rfl⟩ := hrel
    have HL := Lib.hid (lessL_drop k _ _ ht (by rw [dlen]; exact hka) (by rw [dlen]; exact hkb))
    have HT := Lib.hid ht
    clear ht
    by_cases h1 : k < a.size
    · by_cases h2 : k < b.size
      · have da := Lib.hid (drop_at (l := a.data.toList) (k := k) (by rw [dlen]; exact h1))
        have db := Lib.hid (drop_at (l := b.data.toList) (k := k) (by rw [dlen]; exact h2))
        obtain ⟨x, hx⟩ : ∃ x, a.data.toList[k]'(by rw [dlen]; exact h1) = x := ⟨_, rfl⟩
        obtain ⟨y, hy⟩ : ∃ y, b.data.toList[k]'(by rw [dlen]; exact h2) = y := ⟨_, rfl⟩
        have hxa : a[k] = x := hx
        have hyb : b[k] = y := hy
        have HX := Lib.hid hx; have HY := Lib.hid hy
        have hk1 : (k : Int) < (a.size : Int) := by omega
        have hk2 : (k : Int) < (b.size : Int) := by omega
        have hk0 : (0 : Int) ≤ (k : Int) := by omega
        clear hx hy
        by_cases hxy : x = y
        · have he : ((x.toNat : Int) != (y.toNat : Int)) = false := by rw [hxy]; exact bne_self_eq_false _
          have HE := Lib.hid hxy
          clear hxy
          go_wp2_with fail
          go_quiet (fail)
          go_wp2_with fail
          go_roundw
          case rel => exact ⟨k + 1, by omega, by omega, by go_num, by
            rw [List.take_succ_eq_append_getElem (by rw [dlen]; exact h1), List.take_succ_eq_append_getElem (by rw [dlen]; exact h2), HT.out, HX.out, HY.out, HE.out], q + nq, rfl⟩
          case measure => simp [intOf]; omega
        · have he : ((x.toNat : Int) != (y.toNat : Int)) = true := bne_iff_ne.2 (fun h => hxy (UInt8.toNat_inj.1 (by omega)))
          obtain ⟨c, hc⟩ : ∃ c, decide ((x.toNat : Int) < (y.toNat : Int)) = c := ⟨_, rfl⟩
          have hc' : decide (x.toNat < y.toNat) = c := by
            rw [← hc]
            simp
          have HR := Lib.hid (show lessB a b = c by
            unfold lessB
            rw [HL.out, da.out, db.out, HX.out, HY.out]
            show (if x = y then _ else decide (x < y)) = c
            rw [if_neg hxy, ← hc']
            rfl)
          clear hxy
          go_wp2_with fail
          go_quiet (fail)
          go_wp2_with fail
          go_quiet (fail)
          go_wp2_with fail
          go_ret
          exact ⟨by rw [HR.out]; rfl, _, by rw [World.drewN_drewN, World.drewN_drewN]⟩
      · have hk2 : ¬ (k : Int) < (b.size : Int) := by omega
        have HR := Lib.hid (show lessB a b = false by
          unfold lessB
          have e1 : b.data.toList.drop k = [] := List.drop_of_length_le (by rw [dlen]; omega)
          have e2 := drop_at (l := a.data.toList) (k := k) (by rw [dlen]; exact h1)
          rw [HL.out, e1, e2]
          rfl)
        have hd : decide (a.size < b.size) = false := decide_eq_false (by omega)
        go_wp2_with fail
        go_ret
        exact ⟨by rw [HR.out]; rfl, q, rfl⟩
    · have hk1 : ¬ (k : Int) < (a.size : Int) := by omega
      have HR := Lib.hid (show lessB a b = decide (a.size < b.size) by
        unfold lessB
        have e1 : a.data.toList.drop k = [] := List.drop_of_length_le (by rw [dlen]; omega)
        rw [HL.out, e1]
        by_cases h2 : k < b.size
        · have e2 := drop_at (l := b.data.toList) (k := k) (by rw [dlen]; exact h2)
          rw [e2, decide_eq_true (by omega)]
          rfl
        · have e2 : b.data.toList.drop k = [] := List.drop_of_length_le (by rw [dlen]; omega)
          rw [e2, decide_eq_false (by omega)]
          rfl)
      go_wp2_with fail
      go_ret
      exact ⟨by rw [HR.out]; rfl, q, rfl⟩
end Go.Proofs.YtkdicgendcdooaaDoor

/-
  With, Without, Num and Str: the document's answer.
-/
namespace Go.Proofs.YtkdicgendcdooaaDoor
open Go.RowKit Go.Lib Go.Proofs.YtkdicgendcdooaaDoorW.PrintWords
set_option linter.unusedSimpArgs false
set_option linter.unusedVariables false
theorem one_str {W : World} {g : Nat} {t : TypeId} {key : ByteArray} (h : W.heap[g]? = some (.cells #[.string key] t (0, 0))) : Kd.F Kd.string W (fun k => k = g) (some ⟨g, 0, none⟩) [key].length [key] := fun W' hW => by
  have h' := (hW g rfl (Array.getElem?_eq_some_iff.1 h).1).trans h
  refine ⟨rfl, by simp, fun _ => ⟨_, rfl, fun j p hj => ?_⟩⟩
  cases j with
  | zero =>
    have hj : key = p := Option.some.inj hj
    subst hj
    refine ⟨[.string key], rfl, rfl, fun i u hu => ?_⟩
    cases i with
    | zero =>
      have hu : Value.string key = u := Option.some.inj hu
      subst hu
      rw [add_zz]
      exact cells1v h'
    | succ i => cases hu
  | succ j => cases hj
theorem one_val {W : World} {g : Nat} {t : TypeId} {y : V} {A3 A4 : Option Addr} {c3 c4 : Nat} {ok : Nat → Prop} (h : W.heap[g]? = some (.cells #[.int .i64 y.f0, .int .i64 y.f1, .string y.f2, .slice A3 y.f3.length c3, .slice A4 y.f4.length c4] t (0, 0)))
    (hv : VF W ok y (.agg #[.int .i64 y.f0, .int .i64 y.f1, .string y.f2, .slice A3 y.f3.length c3, .slice A4 y.f4.length c4])) : Kd.F kV W (fun k => k = g ∨ ok k) (some ⟨g, 0, none⟩) [y].length [y] := fun W' hW => by
  have h' := (hW g (.inl rfl) (Array.getElem?_eq_some_iff.1 h).1).trans h
  obtain ⟨B3, b3, B4, b4, he, hk⟩ := hv
  injection he with he
  have he := congrArg Array.toList he
  injection he with _ he
  injection he with _ he
  injection he with _ he
  injection he with e3 he
  injection he with e4 _
  injection e3 with e3 _ e5
  injection e4 with e4 _ e6
  subst e3 e4 e5 e6
  refine ⟨rfl, by simp, fun _ => ⟨_, rfl, fun j p hj => ?_⟩⟩
  cases j with
  | zero =>
    have hj : y = p := Option.some.inj hj
    subst hj
    refine ⟨_, rfl, hk W' (fun k hk hl => hW k (.inr hk) hl), fun i u hu => ?_⟩
    obtain ⟨q0, q1, q2, q3, q4⟩ := cells5v h'
    rw [add_zz]
    match i, hu with
    | 0, hu => exact Option.some.inj hu ▸ q0
    | 1, hu => exact Option.some.inj hu ▸ q1
    | 2, hu => exact Option.some.inj hu ▸ q2
    | 3, hu => exact Option.some.inj hu ▸ q3
    | 4, hu => exact Option.some.inj hu ▸ q4
  | succ j => cases hj
def insP : List ByteArray → ByteArray → Nat
  | [], _ => 0
  | k :: t, key => if lessB k key = true then insP t key + 1 else 0
theorem insP_le : ∀ (l : List ByteArray) (key : ByteArray), insP l key ≤ l.length
  | [], _ => Nat.le_refl _
  | k :: t, key => by
    unfold insP
    split
    · have := insP_le t key
      rw [List.length_cons]
      omega
    · exact Nat.zero_le _
theorem insP_at : ∀ (l : List ByteArray) (key : ByteArray) (i : Nat) (hi : i ≤ l.length), (∀ j (hj : j < i), lessB (l[j]'(by omega)) key = true) → (∀ h : i < l.length, lessB l[i] key = false) → insP l key = i
  | [], _, i, hi, _, _ => by
    have : i = 0 := by simpa using hi
    rw [this]; rfl
  | k :: t, key, 0, hi, _, hn => by
    unfold insP
    have : lessB k key = false := hn (by simp)
    rw [if_neg (by rw [this]; decide)]
  | k :: t, key, i + 1, hi, hl, hn => by
    unfold insP
    have h0 : lessB k key = true := hl 0 (by omega)
    rw [if_pos h0, insP_at t key i (by simpa using hi) (fun j hj => hl (j + 1) (by omega)) (fun h => hn (by rw [List.length_cons]; omega))]
/-- An object with a key more, or another value by it. -/
def putV (x : V) (key : ByteArray) (y : V) : V :=
  if x.f0 = 5 then (if 0 ≤ placeV x key then withV x (placeV x key).toNat 1 [key] [y] else withV x (insP (x.f3.take (min x.f3.length x.f4.length)) key) 0 [key] [y]) else ⟨5, 0, ⟨#[]⟩, [key], [y]⟩
def cutV (x : V) (key : ByteArray) : V := if placeV x key < 0 then x else withV x (placeV x key).toNat 1 [] []
def numV (n : Int) : V := ⟨2, n, ⟨#[]⟩, [], []⟩
def strV (s : ByteArray) : V := ⟨3, 0, s, [], []⟩
set_option maxRecDepth 100000 in
theorem num_any (n : Int) (ok : Nat → Prop) (w : World) : Calls Tryd.prog 19 #[.int .i64 n] w (EndV w ok (numV n)) := by
  go_enter Tryd.func19, Tryd.ntmps19
  go_wp2_with fail
  refine bodyPost_ret (v := .agg #[.int .i64 2, .int .i64 n, .string ⟨#[]⟩, .slice none 0 0, .slice none 0 0]) (by simp [results, Tryd.results19, go_sem]) rfl ⟨_, rfl, VF.mk (x := numV n) (Nat.le_refl _) (Kd.F_nil _ _ _) (Nat.le_refl _) (Kd.F_nil _ _ _), (Below.refl _ w).alloc (Nat.le_refl _) _⟩
set_option maxRecDepth 100000 in
theorem str_any (s : ByteArray) (ok : Nat → Prop) (w : World) : Calls Tryd.prog 21 #[.string s] w (EndV w ok (strV s)) := by
  go_enter Tryd.func21, Tryd.ntmps21
  go_wp2_with fail
  refine bodyPost_ret (v := .agg #[.int .i64 3, .int .i64 0, .string s, .slice none 0 0, .slice none 0 0]) (by simp [results, Tryd.results21, go_sem]) rfl ⟨_, rfl, VF.mk (x := strV s) (Nat.le_refl _) (Kd.F_nil _ _ _) (Nat.le_refl _) (Kd.F_nil _ _ _), (Below.refl _ w).alloc (Nat.le_refl _) _⟩
set_option maxRecDepth 100000 in
theorem put_new {w : World} {ok : Nat → Prop} {x y : V} {v u : Value} (h : VF w ok x v) (hy : VF w ok y u) (key : ByteArray) (hx : ¬ x.f0 = 5) :
    Calls Tryd.prog 18 #[v, .string key, u] w (EndV w ok (putV x key y)) := by
  obtain ⟨A3, c3, A4, c4, rfl, l3, f3, l4, f4⟩ := h.open_
  obtain ⟨B3, b3, B4, b4, rfl, _⟩ := hy.open_
  have HT := Lib.hid (show putV x key y = ⟨5, 0, ⟨#[]⟩, [key], [y]⟩ by unfold putV; rw [if_neg hx])
  have hb := int_ne_t hx
  have HY := Lib.hid hy.bound
  clear h f3 f4 l3 l4 hy
  go_enter Tryd.func18, Tryd.ntmps18
  go_wp2_with fail
  obtain ⟨W2, hW2⟩ : ∃ W2, ((w.alloc (.cells #[.int .i64 x.f0, .int .i64 x.f1, .string x.f2, .slice A3 x.f3.length c3, .slice A4 x.f4.length c4] 27)).alloc (.cells #[.int .i64 y.f0, .int .i64 y.f1, .string y.f2, .slice B3 y.f3.length b3, .slice B4 y.f4.length b4] 27)).alloc (.cells #[.int .i64 5, .int .i64 0, .string ⟨#[]⟩, .slice (some ⟨w.heap.size + 1 + 1 + 1, 0, none⟩) 1 1, .slice (some ⟨w.heap.size + 1 + 1 + 1 + 1, 0, none⟩) 1 1] 27) = W2 := ⟨_, rfl⟩
  have hs2 : W2.heap.size = w.heap.size + 1 + 1 + 1 := by rw [← hW2]; simp
  have hB2 : Below w.heap.size w W2 := by rw [← hW2]; exact (((Below.refl _ w).alloc (Nat.le_refl _) _).alloc (by simp) _).alloc (by simp; omega) _
  have hr2 : W2.heap[w.heap.size + 1 + 1]? = some (.cells #[.int .i64 5, .int .i64 0, .string ⟨#[]⟩, .slice (some ⟨w.heap.size + 1 + 1 + 1, 0, none⟩) 1 1, .slice (some ⟨w.heap.size + 1 + 1 + 1 + 1, 0, none⟩) 1 1] 27 (0, 0)) := by
    have := heap_alloc_new ((w.alloc (.cells #[.int .i64 x.f0, .int .i64 x.f1, .string x.f2, .slice A3 x.f3.length c3, .slice A4 x.f4.length c4] 27)).alloc (.cells #[.int .i64 y.f0, .int .i64 y.f1, .string y.f2, .slice B3 y.f3.length b3, .slice B4 y.f4.length b4] 27)) (.cells #[.int .i64 5, .int .i64 0, .string ⟨#[]⟩, .slice (some ⟨w.heap.size + 1 + 1 + 1, 0, none⟩) 1 1, .slice (some ⟨w.heap.size + 1 + 1 + 1 + 1, 0, none⟩) 1 1] 27)
    rw [hW2] at this
    rw [← this]
    simp
  rw [hW2]
  obtain ⟨W4, hW4⟩ : ∃ W4, (W2.alloc (.cells #[.string key] 9)).alloc (.cells #[.int .i64 y.f0, .int .i64 y.f1, .string y.f2, .slice B3 y.f3.length b3, .slice B4 y.f4.length b4] 27) = W4 := ⟨_, rfl⟩
  have hk4 : W4.heap[w.heap.size + 1 + 1 + 1]? = some (.cells #[.string key] 9 (0, 0)) := by
    rw [← hW4, ← hs2, heap_alloc_old _ _ (by simp), heap_alloc_new]
  have hy4 : W4.heap[w.heap.size + 1 + 1 + 1 + 1]? = some (.cells #[.int .i64 y.f0, .int .i64 y.f1, .string y.f2, .slice B3 y.f3.length b3, .slice B4 y.f4.length b4] 27 (0, 0)) := by
    rw [← hW4, ← hs2, ← World.size_alloc W2 (.cells #[.string key] 9), heap_alloc_new]
  have hB4 : Below W2.heap.size W2 W4 := by rw [← hW4]; exact ((Below.refl _ _).alloc (Nat.le_refl _) _).alloc (by simp) _
  have hr4 := (hB4.block _ (by omega)).trans hr2
  have hB := hB2.trans (hB4.mono (by omega))
  rw [hW4]
  obtain ⟨r0, r1, r2, r3, r4⟩ := cells5v hr4
  have hE : EndV w ok (putV x key y) (.returned (.agg #[.int .i64 5, .int .i64 0, .string ⟨#[]⟩, .slice (some ⟨w.heap.size + 1 + 1 + 1, 0, none⟩) 1 1, .slice (some ⟨w.heap.size + 1 + 1 + 1 + 1, 0, none⟩) 1 1])) W4 := by
    refine ⟨_, rfl, ?_, hB⟩
    rw [HT.out]
    refine VF.mk (x := ⟨5, 0, ⟨#[]⟩, [key], [y]⟩) (Nat.le_refl 1) (Kd.F_mono (one_str hk4) (fun k hk => .inr (by omega))) (Nat.le_refl 1) (Kd.F_mono (one_val hy4 (HY.out.below hB)) (fun k hk => ?_))
    rcases hk with h | h
    · exact .inr (by omega)
    · exact .inl h.1
  exact bodyPost_ret (v := .agg #[.int .i64 5, .int .i64 0, .string ⟨#[]⟩, .slice (some ⟨w.heap.size + 1 + 1 + 1, 0, none⟩) 1 1, .slice (some ⟨w.heap.size + 1 + 1 + 1 + 1, 0, none⟩) 1 1]) (by simp [results, Tryd.results18, go_sem, r0, r1, r2, r3, r4]) rfl hE
/-- The call of with out of With, at a world of its own. -/
theorem put_call {w W : World} {ok : Nat → Prop} {x y : V} {v : Value} {B3 B4 : Option Addr} {b3 b4 : Nat} (hx : VF w (fun k => ok k ∧ k < w.heap.size) x v) (hf : Fit x) (hy : VF w (fun k => ok k ∧ k < w.heap.size) y (.agg #[.int .i64 y.f0, .int .i64 y.f1, .string y.f2, .slice B3 y.f3.length b3, .slice B4 y.f4.length b4])) (key : ByteArray)
    (hB : Below w.heap.size w W) (hz : w.heap.size + 3 ≤ W.heap.size) (i o : Nat) (hi : i + o ≤ min x.f3.length x.f4.length) :
    Calls Tryd.prog 40 #[v, .int .i64 (i : Int), .int .i64 (o : Int), .slice (some ⟨W.heap.size, 0, none⟩) 1 1, .slice (some ⟨W.heap.size + 1, 0, none⟩) 1 1] ((W.alloc (.cells #[.string key] 9)).alloc (.cells #[.int .i64 y.f0, .int .i64 y.f1, .string y.f2, .slice B3 y.f3.length b3, .slice B4 y.f4.length b4] 27)) fun e w3 =>
      ∃ v3, e = .returned v3 ∧ VF w3 (fun k => (ok k ∧ k < w.heap.size) ∨ w.heap.size + 3 ≤ k) (withV x i o [key] [y]) v3 ∧ Below w.heap.size w w3 ∧ Below W.heap.size W w3 := by
  refine calls_box2 ?_
  intro W2 hk2 hy2 hs2 hb2
  have hB2 := hB.trans (hb2.mono hB.size)
  have hvx := (hx.below hB2).mono (ok' := fun k => (ok k ∧ k < w.heap.size) ∨ W.heap.size ≤ k) (fun k hk => .inl hk)
  have hvy := hy.below hB2
  refine (with_any hvx hf i o (ks := [key]) (ys := [y]) (ck := 1) (cv := 1) (Kd.F_mono (one_str hk2) (fun k hk => .inr (by omega))) (Nat.le_refl _) (Kd.F_mono (one_val hy2 hvy) (fun k hk => by
    rcases hk with h | h
    · exact .inr (by omega)
    · exact .inl h)) (Nat.le_refl _) hi (by simp) (by simp)).mono ?_
  rintro e w3 ⟨v3, rfl, hv3, hb3⟩
  refine ⟨v3, rfl, hv3.mono (fun k hk => ?_), hB2.trans (hb3.mono (by omega)), hb2.trans (hb3.mono (by omega))⟩
  rcases hk with (h | h) | h
  · exact .inl h
  · exact .inr (by omega)
  · exact .inr (by omega)
set_option maxRecDepth 100000 in
theorem put_there {w : World} {ok : Nat → Prop} {x y : V} {v u : Value} (h : VF w ok x v) (hf : Fit x) (hy : VF w ok y u) (key : ByteArray) (i : Nat) (hx : x.f0 = 5) (hp : placeV x key = (i : Int)) :
    Calls Tryd.prog 18 #[v, .string key, u] w (EndV w ok (putV x key y)) := by
  have hi : i + 1 ≤ min x.f3.length x.f4.length := by
    unfold placeV at hp
    split at hp
    · rename_i hc
      obtain ⟨_, h1, h2⟩ := hc
      omega
    · omega
  have h' := h.bound
  have HX := Lib.hid h'
  obtain ⟨A3, c3, A4, c4, rfl, l3, f3, l4, f4⟩ := h.open_
  obtain ⟨B3, b3, B4, b4, rfl, _⟩ := hy.open_
  have HT := Lib.hid (show putV x key y = withV x i 1 [key] [y] by unfold putV; rw [if_pos hx, hp, if_pos (by omega)]; rfl)
  have hb := int_ne_f hx
  have HY := Lib.hid hy.bound
  have HP := Lib.hid (fun w' (hb : Below w.heap.size w w') => rplace_any (HX.out.below hb) key)
  have HPL := Lib.hid hp
  have HF := Lib.hid hf
  have HI := Lib.hid hi
  clear h h' f3 f4 l3 l4 hy hx hp hf hi
  go_enter Tryd.func18, Tryd.ntmps18
  go_wp2_with fail
  refine calls_box3 ?_
  intro W1 hx1 hy1 hr1 hs1 hb1
  refine (HP.out _ hb1).mono ?_
  rintro e w1 ⟨rfl, hb⟩
  rw [HPL.out]
  have hB1 := hb1.trans (hb.mono (by omega))
  obtain ⟨d0, d1, d2, d3, d4⟩ := cells5v ((hb.block _ (by omega)).trans hx1)
  obtain ⟨e0, e1, e2, e3, e4⟩ := cells5v ((hb.block _ (by omega)).trans hy1)
  have HR1 := Lib.hid ((hb.block _ (by omega)).trans hr1)
  have HB1 := Lib.hid hB1
  have HZ := Lib.hid (show w.heap.size + 3 ≤ w1.heap.size by have := hb.size; omega)
  have hwz : w.heap.size < w1.heap.size := by have := hb.size; omega
  have hwz1 : w.heap.size + 1 < w1.heap.size := by have := hb.size; omega
  clear hx1 hy1 hr1 hs1 hb1 hb hB1
  go_wp2_with fail
  refine (put_call HX.out HF.out HY.out key HB1.out HZ.out i 1 HI.out).mono ?_
  rintro e w3 ⟨v3, rfl, hv3, hB3, hb3⟩
  obtain ⟨z, hz⟩ : ∃ z, withV x i 1 [key] [y] = z := ⟨_, rfl⟩
  rw [hz] at hv3 HT
  obtain ⟨D3, q3, D4, q4, rfl, _⟩ := hv3.open_
  have hz1 := HZ.out
  have hr3 := (hb3.block _ (by omega)).trans HR1.out
  obtain ⟨r0, r1, r2, r3, r4⟩ := cells5v hr3
  have rs := softv hr3
  have HV3 := Lib.hid hv3
  have HB3 := Lib.hid hB3
  clear hv3 hb3 hr3 hB3 hz hz1 d0 d1 d2 d3 d4 e0 e1 e2 e3 e4 hwz hwz1
  go_wp2_with fail
  have hO := off5 w3 (w.heap.size + 2) (.int .i64 z.f0) (.int .i64 z.f1) (.string z.f2) (.slice D3 z.f3.length q3) (.slice D4 z.f4.length q4)
  refine bodyPost_ret (v := .agg #[.int .i64 z.f0, .int .i64 z.f1, .string z.f2, .slice D3 z.f3.length q3, .slice D4 z.f4.length q4]) (by simp [results, Tryd.results18, go_sem, r0, r1, r2, r3, r4]) rfl ⟨_, rfl, ?_, Off.below HB3.out hO (by simp)⟩
  rw [HT.out]
  refine (hO.vf HV3.out (fun k hk _ hm => ?_)).mono (fun k hk => ?_)
  · simp at hm
    omega
  · rcases hk with h | h
    · exact .inl h.1
    · exact .inr (by omega)
set_option maxRecDepth 100000 in
set_option maxHeartbeats 1000000 in
theorem put_add {w : World} {ok : Nat → Prop} {x y : V} {v u : Value} (h : VF w ok x v) (hf : Fit x) (hy : VF w ok y u) (key : ByteArray) (hkey : key.size ≤ 100000) (hx : x.f0 = 5) (hp : placeV x key = -1) :
    Calls Tryd.prog 18 #[v, .string key, u] w (EndV w ok (putV x key y)) := by
  have HX := Lib.hid h.bound
  obtain ⟨A3, c3, A4, c4, rfl, l3, f3, l4, f4⟩ := h.open_
  obtain ⟨B3, b3, B4, b4, rfl, _⟩ := hy.open_
  have hb := int_ne_f hx
  have HY := Lib.hid hy.bound
  have HP := Lib.hid (fun w' (hb : Below w.heap.size w w') => rplace_any (HX.out.below hb) key)
  have hm3 := hf.keys
  have hm4 := hf.vals
  have HKS := Lib.hid hf.key
  have HS := Lib.hid (fun hp => strs_at f3 hp)
  obtain ⟨p, hpp⟩ : ∃ p, x.f3.length = p := ⟨_, rfl⟩
  obtain ⟨q, hq⟩ : ∃ q, x.f4.length = q := ⟨_, rfl⟩
  obtain ⟨n, hn⟩ : ∃ n, min p q = n := ⟨_, rfl⟩
  have hnp : n ≤ p := by omega
  have hnq : n ≤ q := by omega
  have hmn : (if q < p then (q : Int) else (p : Int)) = (n : Int) := by split <;> omega
  have HMN := Lib.hid (show min x.f3.length x.f4.length = n by rw [hpp, hq]; exact hn)
  have HT := Lib.hid (show putV x key y = withV x (insP (x.f3.take n) key) 0 [key] [y] by unfold putV; rw [if_pos hx, hp, if_neg (by omega), HMN.out])
  have HPL := Lib.hid hp
  have HF := Lib.hid hf
  have HPP := Lib.hid hpp
  rw [hpp] at hm3 HX HP ⊢
  rw [hq] at hm4 HX HP ⊢
  clear h f3 f4 l3 l4 hy hx hp hf hpp hq hn
  go_enter Tryd.func18, Tryd.ntmps18
  go_wp2_with fail
  refine calls_box3 ?_
  intro W1 hx1 hy1 hr1 hs1 hb1
  refine (HP.out _ hb1).mono ?_
  rintro e w1 ⟨rfl, hb⟩
  rw [HPL.out]
  have hB1 := hb1.trans (hb.mono (by omega))
  obtain ⟨d0, d1, d2, d3, d4⟩ := cells5v ((hb.block _ (by omega)).trans hx1)
  obtain ⟨e0, e1, e2, e3, e4⟩ := cells5v ((hb.block _ (by omega)).trans hy1)
  have HR1 := Lib.hid ((hb.block _ (by omega)).trans hr1)
  have HX1 := Lib.hid ((hb.block _ (by omega)).trans hx1)
  have HY1 := Lib.hid ((hb.block _ (by omega)).trans hy1)
  have HB1 := Lib.hid hB1
  have HZ := Lib.hid (show w.heap.size + 3 ≤ w1.heap.size by have := hb.size; omega)
  have hwz : w.heap.size < w1.heap.size := by have := hb.size; omega
  have hwz1 : w.heap.size + 1 < w1.heap.size := by have := hb.size; omega
  clear hx1 hy1 hr1 hs1 hb1 hb hB1
  go_wp2_with fail
  have HCALL := Lib.hid (fun (m : Nat) (k : Nat) (hk : k ≤ n) => put_call (W := w1.drewN m) HX.out HF.out HY.out key (pw_below_drewN HB1.out m) (by rw [World.heap_drewN]; exact HZ.out) k 0 (by rw [HMN.out]; exact hk))
  have HEND := Lib.hid (fun (k : Nat) (hk : k ≤ n) (hl : ∀ j (hj : j < x.f3.length), j < k → lessB x.f3[j] key = true) (hn : k = n ∨ ∀ h : k < x.f3.length, lessB x.f3[k] key = false) => (show insP (x.f3.take n) key = k from
    insP_at _ _ _ (by rw [List.length_take, HPP.out]; omega) (fun j hj => by rw [List.getElem_take]; exact hl j (by rw [HPP.out]; omega) hj) (fun h => by
      rw [List.length_take] at h
      rw [List.getElem_take]
      rcases hn with hn | hn
      · omega
      · exact hn _)))
  go_loopw [8] (fun i wr => ∃ k : Nat, k ≤ n ∧ i = .int .i64 k ∧ (∀ j (hj : j < x.f3.length), j < k → lessB x.f3[j] key = true) ∧ ∃ m, wr = w1.drewN m) (fun i _ => n - (intOf i).toNat)
  case atStart => exact ⟨0, by omega, rfl, fun j _ h => absurd h (Nat.not_lt_zero _), 0, rfl⟩
  case round =>
    obtain ⟨k, hk, rfl, ht, m, rfl⟩ := hrel
    have HTT := Lib.hid ht; clear ht
    by_cases hlt : k < n
    · have hk2 : k < x.f3.length := by rw [HPP.out]; omega
      obtain ⟨g, o, rfl, _, hgl, hc⟩ := HS.out (by omega)
      have f1 := (HB1.out.cell (p := ⟨g, o + k, none⟩) hgl).trans (hc k hk2)
      obtain ⟨s1, hs1⟩ : ∃ s1, x.f3[k] = s1 := ⟨_, rfl⟩
      rw [hs1] at f1
      have Hs1 := Lib.hid hs1
      have hs1k : s1.size ≤ 100000 := by rw [← hs1]; exact HKS.out _ (List.getElem_mem hk2)
      have HLESS := Lib.hid (rless_any s1 key (w1.drewN m) (by unfold maxLen; omega) (by unfold maxLen; omega))
      have hki : (k : Int) < (n : Int) := by omega
      obtain ⟨c, hcc⟩ : ∃ c, lessB s1 key = c := ⟨_, rfl⟩
      rw [hcc] at HLESS
      have HCC := Lib.hid hcc
      clear hc hs1 hcc hgl
      cases c with
      | true =>
        go_wp2_with fail
        refine HLESS.out.mono ?_
        rintro e w2 ⟨rfl, m2, rfl⟩
        go_wp2_with fail
        go_roundw
        case rel => exact ⟨k + 1, by omega, by go_num, fun j hj hjk => by
          rcases Nat.lt_succ_iff_lt_or_eq.1 hjk with h | h
          · exact HTT.out j hj h
          · subst h
            rw [Hs1.out]
            exact HCC.out, m + m2, rfl⟩
        case measure => simp [intOf]; omega
      | false =>
        have HE := Lib.hid (HEND.out k hk HTT.out (.inr (fun h => by rw [Hs1.out]; exact HCC.out)))
        rw [HE.out] at HT
        go_wp2_with fail
        refine HLESS.out.mono ?_
        rintro e w2 ⟨rfl, m2, rfl⟩
        rw [World.drewN_drewN]
        have hc2 := HCALL.out (m + m2) k hk
        obtain ⟨wq, hwq⟩ : ∃ wq, w1.drewN (m + m2) = wq := ⟨_, rfl⟩
        have hqh : wq.heap = w1.heap := by rw [← hwq, World.heap_drewN]
        rw [hwq] at hc2 ⊢
        have HC2 := Lib.hid hc2
        obtain ⟨p0, p1, p2, p3, p4⟩ := cells5v (w := wq) (by rw [hqh]; exact HX1.out)
        obtain ⟨y0, y1, y2, y3, y4⟩ := cells5v (w := wq) (by rw [hqh]; exact HY1.out)
        have hqz : w.heap.size + 1 < wq.heap.size := by rw [hqh]; exact hwz1
        have hqz0 : w.heap.size < wq.heap.size := by rw [hqh]; exact hwz
        have HQH := Lib.hid hqh
        clear hc2 hwq hqh d0 d1 d2 d3 d4 e0 e1 e2 e3 e4 f1 hwz hwz1
        go_wp2_with fail
        refine HC2.out.mono ?_
        rintro e w3 ⟨v3, rfl, hv3, hB3, hb3⟩
        obtain ⟨z, hz⟩ : ∃ z, withV x k 0 [key] [y] = z := ⟨_, rfl⟩
        rw [hz] at hv3 HT
        obtain ⟨D3, q3, D4, q4, rfl, _⟩ := hv3.open_
        have hz1 := HZ.out
        have hr3 := (hb3.block _ (by rw [HQH.out]; omega)).trans ((congrArg (fun h : Array Obj => h[w.heap.size + 2]?) HQH.out).trans HR1.out)
        obtain ⟨r0, r1, r2, r3, r4⟩ := cells5v hr3
        have rs := softv hr3
        have HV3 := Lib.hid hv3
        have HB3 := Lib.hid hB3
        clear hv3 hb3 hr3 hB3 hz hz1 p0 p1 p2 p3 p4 y0 y1 y2 y3 y4 hqz hqz0
        go_wp2_with fail
        have hO := off5 w3 (w.heap.size + 2) (.int .i64 z.f0) (.int .i64 z.f1) (.string z.f2) (.slice D3 z.f3.length q3) (.slice D4 z.f4.length q4)
        refine bodyPost_ret (v := .agg #[.int .i64 z.f0, .int .i64 z.f1, .string z.f2, .slice D3 z.f3.length q3, .slice D4 z.f4.length q4]) (by simp [results, Tryd.results18, go_sem, r0, r1, r2, r3, r4]) rfl ⟨_, rfl, ?_, Off.below HB3.out hO (by simp)⟩
        rw [HT.out]
        refine (hO.vf HV3.out (fun k hk _ hm => ?_)).mono (fun k hk => ?_)
        · simp at hm
          omega
        · rcases hk with h | h
          · exact .inl h.1
          · exact .inr (by omega)
    · obtain rfl : k = n := by omega
      have HE := Lib.hid (HEND.out k hk HTT.out (.inl rfl))
      rw [HE.out] at HT
      have hc2 := HCALL.out m k hk
      obtain ⟨wq, hwq⟩ : ∃ wq, w1.drewN m = wq := ⟨_, rfl⟩
      have hqh : wq.heap = w1.heap := by rw [← hwq, World.heap_drewN]
      rw [hwq] at hc2 ⊢
      have HC2 := Lib.hid hc2
      obtain ⟨p0, p1, p2, p3, p4⟩ := cells5v (w := wq) (by rw [hqh]; exact HX1.out)
      obtain ⟨y0, y1, y2, y3, y4⟩ := cells5v (w := wq) (by rw [hqh]; exact HY1.out)
      have hqz : w.heap.size + 1 < wq.heap.size := by rw [hqh]; exact hwz1
      have hqz0 : w.heap.size < wq.heap.size := by rw [hqh]; exact hwz
      have HQH := Lib.hid hqh
      clear hc2 hwq hqh d0 d1 d2 d3 d4 e0 e1 e2 e3 e4 hwz hwz1
      go_wp2_with fail
      refine HC2.out.mono ?_
      rintro e w3 ⟨v3, rfl, hv3, hB3, hb3⟩
      obtain ⟨z, hz⟩ : ∃ z, withV x k 0 [key] [y] = z := ⟨_, rfl⟩
      rw [hz] at hv3 HT
      obtain ⟨D3, q3, D4, q4, rfl, _⟩ := hv3.open_
      have hz1 := HZ.out
      have hr3 := (hb3.block _ (by rw [HQH.out]; omega)).trans ((congrArg (fun h : Array Obj => h[w.heap.size + 2]?) HQH.out).trans HR1.out)
      obtain ⟨r0, r1, r2, r3, r4⟩ := cells5v hr3
      have rs := softv hr3
      have HV3 := Lib.hid hv3
      have HB3 := Lib.hid hB3
      clear hv3 hb3 hr3 hB3 hz hz1 p0 p1 p2 p3 p4 y0 y1 y2 y3 y4 hqz hqz0
      go_wp2_with fail
      have hO := off5 w3 (w.heap.size + 2) (.int .i64 z.f0) (.int .i64 z.f1) (.string z.f2) (.slice D3 z.f3.length q3) (.slice D4 z.f4.length q4)
      refine bodyPost_ret (v := .agg #[.int .i64 z.f0, .int .i64 z.f1, .string z.f2, .slice D3 z.f3.length q3, .slice D4 z.f4.length q4]) (by simp [results, Tryd.results18, go_sem, r0, r1, r2, r3, r4]) rfl ⟨_, rfl, ?_, Off.below HB3.out hO (by simp)⟩
      rw [HT.out]
      refine (hO.vf HV3.out (fun k hk _ hm => ?_)).mono (fun k hk => ?_)
      · simp at hm
        omega
      · rcases hk with h | h
        · exact .inl h.1
        · exact .inr (by omega)
theorem put_any {w : World} {ok : Nat → Prop} {x y : V} {v u : Value} (h : VF w ok x v) (hf : Fit x) (hy : VF w ok y u) (key : ByteArray) (hkey : key.size ≤ 100000) :
    Calls Tryd.prog 18 #[v, .string key, u] w (EndV w ok (putV x key y)) := by
  by_cases hx : x.f0 = 5
  · cases hg : getV x key with
    | none =>
      by_cases hp : placeV x key = -1
      · exact put_add h hf hy key hkey hx hp
      · exact absurd (getV_none hg) hp
    | some z =>
      obtain ⟨i, _, hp, _⟩ := getV_some hg
      exact put_there h hf hy key i hx hp
  · exact put_new h hy key hx
end Go.Proofs.YtkdicgendcdooaaDoor

/-
  What With makes is of a size that a machine bears.
-/
namespace Go.Proofs.YtkdicgendcdooaaDoor
open Go.RowKit Go.Lib
set_option linter.unusedSimpArgs false
set_option linter.unusedVariables false
def FitK (k : Nat) (x : V) : Prop := Fit x ∧ x.f3.length ≤ k ∧ x.f4.length ≤ k
theorem FitK.mono {k k' : Nat} {x : V} (h : FitK k x) (hk : k ≤ k') : FitK k' x := ⟨h.1, Nat.le_trans h.2.1 hk, Nat.le_trans h.2.2 hk⟩
theorem mem_withV3 {x : V} {a o : Nat} {ks : List ByteArray} {ys : List V} {k : ByteArray} (h : k ∈ (withV x a o ks ys).f3) : k ∈ x.f3 ∨ k ∈ ks := by
  unfold withV at h
  simp only [List.mem_append] at h
  rcases h with (h | h) | h
  · exact .inl (List.mem_of_mem_take h)
  · exact .inr h
  · exact .inl (List.mem_of_mem_take (List.mem_of_mem_drop h))
theorem mem_withV4 {x : V} {a o : Nat} {ks : List ByteArray} {ys : List V} {y : V} (h : y ∈ (withV x a o ks ys).f4) : y ∈ x.f4 ∨ y ∈ ys := by
  unfold withV at h
  simp only [List.mem_append] at h
  rcases h with (h | h) | h
  · exact .inl (List.mem_of_mem_take h)
  · exact .inr h
  · exact .inl (List.mem_of_mem_take (List.mem_of_mem_drop h))
theorem len_withV (x : V) (a o : Nat) (ks : List ByteArray) (ys : List V) : (withV x a o ks ys).f3.length ≤ x.f3.length + ks.length + a ∧ (withV x a o ks ys).f4.length ≤ x.f4.length + ys.length + a := by
  unfold withV
  simp only [List.length_append, List.length_take, List.length_drop]
  omega
theorem len_withV' (x : V) (a o : Nat) (ks : List ByteArray) (ys : List V) (h : a + o ≤ min x.f3.length x.f4.length) : (withV x a o ks ys).f3.length ≤ x.f3.length + ks.length ∧ (withV x a o ks ys).f4.length ≤ x.f4.length + ys.length := by
  unfold withV
  simp only [List.length_append, List.length_take, List.length_drop]
  omega
theorem withV_fit {x : V} {a o : Nat} {ks : List ByteArray} {ys : List V} {k : Nat} (h : FitK k x) (ha : a + o ≤ min x.f3.length x.f4.length) (hk : k + 1 ≤ 100000) (h1 : ks.length ≤ 1) (h2 : ys.length ≤ 1) (hks : ∀ s ∈ ks, s.size ≤ 100000) (hys : ∀ y ∈ ys, Fit y) : FitK (k + 1) (withV x a o ks ys) := by
  have hl := len_withV' x a o ks ys ha
  obtain ⟨hf, l3, l4⟩ := h
  refine ⟨.mk _ hf.text (by omega) (by omega) (fun s hs => ?_) hf.num (fun y hy => ?_), by omega, by omega⟩
  · rcases mem_withV3 hs with h | h
    · exact hf.key s h
    · exact hks s h
  · rcases mem_withV4 hy with h | h
    · exact hf.val y h
    · exact hys y h
theorem placeV_le {x : V} {key : ByteArray} (h : 0 ≤ placeV x key) : (placeV x key).toNat + 1 ≤ min x.f3.length x.f4.length := by
  unfold placeV at h ⊢
  split
  · rename_i hc
    obtain ⟨_, h1, h2⟩ := hc
    omega
  · rename_i hc
    rw [if_neg hc] at h
    omega
theorem putV_fit {x y : V} {key : ByteArray} {k : Nat} (h : FitK k x) (hk : k + 1 ≤ 100000) (hkey : key.size ≤ 100000) (hy : Fit y) : FitK (k + 1) (putV x key y) := by
  unfold putV
  split
  · split
    · rename_i hp
      exact withV_fit h (placeV_le hp) hk (by simp) (by simp) (fun s hs => by rw [List.mem_singleton.1 hs]; exact hkey) (fun z hz => by rw [List.mem_singleton.1 hz]; exact hy)
    · refine withV_fit h ?_ hk (by simp) (by simp) (fun s hs => by rw [List.mem_singleton.1 hs]; exact hkey) (fun z hz => by rw [List.mem_singleton.1 hz]; exact hy)
      have := insP_le (x.f3.take (min x.f3.length x.f4.length)) key
      rw [List.length_take] at this
      omega
  · exact ⟨.mk _ (Nat.zero_le _) (by simp) (by simp) (fun s hs => by rw [List.mem_singleton.1 hs]; exact hkey) ⟨show (-9223372036854775808 : Int) ≤ 0 by omega, show (0 : Int) ≤ 9223372036854775807 by omega⟩ (fun z hz => by rw [List.mem_singleton.1 hz]; exact hy), by simp, by simp⟩
theorem cutV_fit {x : V} {key : ByteArray} {k : Nat} (h : FitK k x) (hk : k + 1 ≤ 100000) : FitK (k + 1) (cutV x key) := by
  unfold cutV
  split
  · exact h.mono (by omega)
  · rename_i hp
    exact withV_fit h (placeV_le (by omega)) hk (by simp) (by simp) (fun s hs => by cases hs) (fun z hz => by cases hz)
theorem numV_fit {n : Int} (h1 : -9223372036854775808 ≤ n) (h2 : n ≤ 9223372036854775807) : Fit (numV n) := .mk _ (Nat.zero_le _) (Nat.zero_le _) (Nat.zero_le _) (fun _ h => by cases h) ⟨h1, h2⟩ (fun _ h => by cases h)
theorem strV_fit {s : ByteArray} (h : s.size ≤ 100000) : Fit (strV s) := .mk _ h (Nat.zero_le _) (Nat.zero_le _) (fun _ h => by cases h) ⟨show (-9223372036854775808 : Int) ≤ 0 by omega, show (0 : Int) ≤ 9223372036854775807 by omega⟩ (fun _ h => by cases h)
end Go.Proofs.YtkdicgendcdooaaDoor

/-
  A user by a choice.
-/
namespace Go.Proofs.YtkdicgendcdooaaDoor
open Go.RowKit Go.Lib Go.Proofs.YtkdicgendcdooaaDoorW.PrintWords
set_option linter.unusedSimpArgs false
set_option linter.unusedVariables false
def userB (k : Nat) : ByteArray := if k % 4 = 0 then ⟨#[64, 97, 58, 115]⟩ else if k % 4 = 1 then ⟨#[64, 98, 58, 115]⟩ else if k % 4 = 2 then ⟨#[64, 99, 58, 116]⟩ else ⟨#[64, 100, 58, 116]⟩
theorem userB_size (k : Nat) : (userB k).size = 4 := by unfold userB; split; rfl; split; rfl; split; rfl; rfl
set_option maxRecDepth 100000 in
theorem user_any (k : Nat) (hk : k < 256) (w : World) : Calls Tryd.prog 25 #[.int .u8 (k : Int)] w (EndI w (.string (userB k))) := by
  obtain ⟨r, hr⟩ : ∃ r, userB k = r := ⟨_, rfl⟩
  rw [hr]
  unfold userB at hr
  have hc : k % 4 = 0 ∨ k % 4 = 1 ∨ k % 4 = 2 ∨ k % 4 = 3 := by omega
  rcases hc with h | h | h | h
  all_goals
    rw [h] at hr
    simp at hr
  · have hm : (k : Int) % 4 = 0 := by omega
    subst hr
    clear h
    go_enter Tryd.func25, Tryd.ntmps25
    go_wp2_with fail
    go_ret
    exact ⟨rfl, (Below.refl _ w).alloc (Nat.le_refl _) _⟩
  · have hm : (k : Int) % 4 = 1 := by omega
    subst hr
    clear h
    go_enter Tryd.func25, Tryd.ntmps25
    go_wp2_with fail
    go_ret
    exact ⟨rfl, (Below.refl _ w).alloc (Nat.le_refl _) _⟩
  · have hm : (k : Int) % 4 = 2 := by omega
    subst hr
    clear h
    go_enter Tryd.func25, Tryd.ntmps25
    go_wp2_with fail
    go_ret
    exact ⟨rfl, (Below.refl _ w).alloc (Nat.le_refl _) _⟩
  · have hm : (k : Int) % 4 = 3 := by omega
    subst hr
    clear h
    go_enter Tryd.func25, Tryd.ntmps25
    go_wp2_with fail
    go_ret
    exact ⟨rfl, (Below.refl _ w).alloc (Nat.le_refl _) _⟩
end Go.Proofs.YtkdicgendcdooaaDoor

/-
  A user's level, what a type asks for, and an act, as the package power tells them.
-/
namespace Go.Proofs.YtkdicgendcdooaaDoor
open Go.RowKit Go.Lib Go.Proofs.YtkdicgendcdooaaDoorW.PrintWords
set_option linter.unusedSimpArgs false
set_option linter.unusedVariables false
abbrev bUsers : ByteArray := ⟨#[117, 115, 101, 114, 115]⟩
abbrev bUsersDefault : ByteArray := ⟨#[117, 115, 101, 114, 115, 95, 100, 101, 102, 97, 117, 108, 116]⟩
abbrev bEvents : ByteArray := ⟨#[101, 118, 101, 110, 116, 115]⟩
abbrev bEventsDefault : ByteArray := ⟨#[101, 118, 101, 110, 116, 115, 95, 100, 101, 102, 97, 117, 108, 116]⟩
abbrev bStateDefault : ByteArray := ⟨#[115, 116, 97, 116, 101, 95, 100, 101, 102, 97, 117, 108, 116]⟩
abbrev bBan : ByteArray := ⟨#[98, 97, 110]⟩
abbrev bKick : ByteArray := ⟨#[107, 105, 99, 107]⟩
def levelV (x : V) (has : Bool) (creator user : ByteArray) : Int :=
  if has = true then (atV (inV x bUsers) user).getD ((atV x bUsersDefault).getD 0) else if user = creator then 100 else 0
set_option maxRecDepth 100000 in
theorem level_no {w : World} {ok : Nat → Prop} {x : V} {v : Value} (h : VF w ok x v) (creator user : ByteArray) :
    Calls Tryd.prog 13 #[v, .bool false, .string creator, .string user] w (EndI w (.int .i64 (levelV x false creator user))) := by
  obtain ⟨A3, c3, A4, c4, rfl, h3, f3, h4, f4⟩ := h.open_
  by_cases hu : user = creator
  · have HT := Lib.hid (show levelV x false creator user = 100 by unfold levelV; rw [if_neg (by decide), if_pos hu])
    have hb := eq_t hu
    rw [HT.out]
    clear h f3 f4 h3 h4 hu HT
    go_enter Tryd.func13, Tryd.ntmps13
    go_wp2_with fail
    go_ret
    exact ⟨rfl, (Below.refl _ w).alloc (Nat.le_refl _) _⟩
  · have HT := Lib.hid (show levelV x false creator user = 0 by unfold levelV; rw [if_neg (by decide), if_neg hu])
    have hb := eq_f hu
    rw [HT.out]
    clear h f3 f4 h3 h4 hu HT
    go_enter Tryd.func13, Tryd.ntmps13
    go_wp2_with fail
    go_ret
    exact ⟨rfl, (Below.refl _ w).alloc (Nat.le_refl _) _⟩
set_option maxRecDepth 100000 in
theorem level_has {w : World} {ok : Nat → Prop} {x : V} {v : Value} (h : VF w ok x v) (hf : Fit x) (creator user : ByteArray) :
    Calls Tryd.prog 13 #[v, .bool true, .string creator, .string user] w (EndI w (.int .i64 (levelV x true creator user))) := by
  obtain ⟨A3, c3, A4, c4, rfl, h3, f3, h4, f4⟩ := h.open_
  have HT := Lib.hid (show levelV x true creator user = (atV (inV x bUsers) user).getD ((atV x bUsersDefault).getD 0) by unfold levelV; rw [if_pos rfl])
  rw [HT.out]
  have HI := Lib.hid (fun w' (p : Prop) (hb : Below w.heap.size w w' ∧ p) => in_any (h.below hb.1) hf bUsers)
  have HA := Lib.hid (fun w' (p : Prop) (hb : Below w.heap.size w w' ∧ p) => at_any (h.below hb.1) hf bUsersDefault)
  obtain ⟨y, hy⟩ : ∃ y, inV x bUsers = y := ⟨_, rfl⟩
  have hfy : Fit y := hy ▸ inV_fit hf bUsers
  rw [hy] at HI ⊢
  obtain ⟨o1, ho1⟩ : ∃ o1, atV x bUsersDefault = o1 := ⟨_, rfl⟩
  rw [ho1] at HA ⊢
  have HY := Lib.hid (fun w' ok v (hv : VF w' ok y v) => at_any hv hfy user)
  obtain ⟨o2, ho2⟩ : ∃ o2, atV y user = o2 := ⟨_, rfl⟩
  rw [ho2] at HY ⊢
  clear h f3 f4 h3 h4 HT hy hfy ho1 ho2
  have hx1 := heap_alloc_new w (.cells #[.int .i64 x.f0, .int .i64 x.f1, .string x.f2, .slice A3 x.f3.length c3, .slice A4 x.f4.length c4] 27)
  have hB0 : Below w.heap.size w (w.alloc (.cells #[.int .i64 x.f0, .int .i64 x.f1, .string x.f2, .slice A3 x.f3.length c3, .slice A4 x.f4.length c4] 27)) := (Below.refl _ w).alloc (Nat.le_refl _) _
  have hz0 : w.heap.size < (w.alloc (.cells #[.int .i64 x.f0, .int .i64 x.f1, .string x.f2, .slice A3 x.f3.length c3, .slice A4 x.f4.length c4] 27)).heap.size := by simp
  go_enter Tryd.func13, Tryd.ntmps13
  go_wp2_with fail
  obtain ⟨W1, hW⟩ : ∃ W1, w.alloc (.cells #[.int .i64 x.f0, .int .i64 x.f1, .string x.f2, .slice A3 x.f3.length c3, .slice A4 x.f4.length c4] 27) = W1 := ⟨_, rfl⟩
  rw [hW] at hx1 hB0 hz0 ⊢
  obtain ⟨d0, d1, d2, d3, d4⟩ := cells5v hx1
  have hd0 := (show (fun W => Below w.heap.size w W ∧ w.heap.size < W.heap.size ∧ W.cell? ⟨w.heap.size, 0, none⟩ = some (.int .i64 x.f0) ∧ W.cell? ⟨w.heap.size, 1, none⟩ = some (.int .i64 x.f1) ∧ W.cell? ⟨w.heap.size, 2, none⟩ = some (.string x.f2) ∧ W.cell? ⟨w.heap.size, 3, none⟩ = some (.slice A3 x.f3.length c3) ∧ W.cell? ⟨w.heap.size, 4, none⟩ = some (.slice A4 x.f4.length c4)) W1.drew from ⟨hB0.drew, hz0, d0, d1, d2, d3, d4⟩)
  clear hW hx1
  go_region_held3 (fun W => Below w.heap.size w W ∧ w.heap.size < W.heap.size ∧ W.cell? ⟨w.heap.size, 0, none⟩ = some (.int .i64 x.f0) ∧ W.cell? ⟨w.heap.size, 1, none⟩ = some (.int .i64 x.f1) ∧ W.cell? ⟨w.heap.size, 2, none⟩ = some (.string x.f2) ∧ W.cell? ⟨w.heap.size, 3, none⟩ = some (.slice A3 x.f3.length c3) ∧ W.cell? ⟨w.heap.size, 4, none⟩ = some (.slice A4 x.f4.length c4)) (first | assumption | exact hd0) (first
    | (go_at_call 32; refine (HI.out _ _ (by assumption)).mono ?_; rintro e w1 ⟨v, rfl, hvA, hb⟩; obtain ⟨D3, q3, D4, q4, rfl, _⟩ := hvA.open_; have hd1 := box_keep (by assumption) hb (Nat.le_refl _); clear hb)
    | (go_at_call 31; (first | ((with_reducible refine (HA.out _ _ (by assumption)).mono ?_); rintro e w2 ⟨rfl, hb⟩; have hd1 := box_keep (by assumption) hb (Nat.le_refl _); (try replace hvA := VF.below hvA hb); clear hb) | ((with_reducible refine (HY.out _ _ _ hvA).mono ?_); rintro e w3 ⟨rfl, hb⟩; have hd1 := box_keep (by assumption) hb (Nat.le_refl _); clear hb)))
    | (go_at_call 33; refine (or_any _ _ _).mono ?_; rintro e w4 ⟨rfl, hb⟩; have hd1 := box_keep (by assumption) hb (Nat.le_refl _); (try replace hvA := VF.below hvA hb); clear hb))
  all_goals
    have HB := Lib.hid hd1.1
    clear hd0 hd1
    go_wp2_with fail
    go_ret
    exact ⟨rfl, HB.out⟩
def needV (x : V) (has : Bool) (kind : ByteArray) (is : Bool) : Int :=
  if has = false then 0 else (atV (inV x bEvents) kind).getD (if is = true then (atV x bStateDefault).getD 50 else (atV x bEventsDefault).getD 0)
set_option maxRecDepth 100000 in
theorem need_no {w : World} {ok : Nat → Prop} {x : V} {v : Value} (h : VF w ok x v) (kind : ByteArray) (is : Bool) :
    Calls Tryd.prog 14 #[v, .bool false, .string kind, .bool is] w (EndI w (.int .i64 0)) := by
  obtain ⟨A3, c3, A4, c4, rfl, h3, f3, h4, f4⟩ := h.open_
  clear h f3 f4 h3 h4
  go_enter Tryd.func14, Tryd.ntmps14
  go_wp2_with fail
  go_ret
  exact ⟨rfl, (Below.refl _ w).alloc (Nat.le_refl _) _⟩
set_option maxRecDepth 100000 in
theorem need_is {w : World} {ok : Nat → Prop} {x : V} {v : Value} (h : VF w ok x v) (hf : Fit x) (kind : ByteArray) (is : Bool) :
    Calls Tryd.prog 14 #[v, .bool true, .string kind, .bool is] w (EndI w (.int .i64 (needV x true kind is))) := by
  obtain ⟨A3, c3, A4, c4, rfl, h3, f3, h4, f4⟩ := h.open_
  have HT := Lib.hid (show needV x true kind is = (atV (inV x bEvents) kind).getD (if is = true then (atV x bStateDefault).getD 50 else (atV x bEventsDefault).getD 0) by unfold needV; rw [if_neg (by decide)])
  have HI := Lib.hid (fun w' (hb : Below w.heap.size w w') => in_any (h.below hb) hf bEvents)
  have HA := Lib.hid (fun w' (hb : Below w.heap.size w w') => at_any (h.below hb) hf bEventsDefault)
  have HS := Lib.hid (fun w' (hb : Below w.heap.size w w') => at_any (h.below hb) hf bStateDefault)
  obtain ⟨y, hy⟩ : ∃ y, inV x bEvents = y := ⟨_, rfl⟩
  have hfy : Fit y := hy ▸ inV_fit hf bEvents
  rw [hy] at HI HT
  obtain ⟨o1, ho1⟩ : ∃ o1, atV x bEventsDefault = o1 := ⟨_, rfl⟩
  rw [ho1] at HA HT
  obtain ⟨o3, ho3⟩ : ∃ o3, atV x bStateDefault = o3 := ⟨_, rfl⟩
  rw [ho3] at HS HT
  have HY := Lib.hid (fun w' ok v (hv : VF w' ok y v) => at_any hv hfy kind)
  obtain ⟨o2, ho2⟩ : ∃ o2, atV y kind = o2 := ⟨_, rfl⟩
  rw [ho2] at HY HT
  have H0 := Lib.hid (BoxV.new w (.int .i64 x.f0) (.int .i64 x.f1) (.string x.f2) (.slice A3 x.f3.length c3) (.slice A4 x.f4.length c4) 27)
  clear h f3 f4 h3 h4 hy hfy ho1 ho2 ho3
  rw [HT.out]
  cases is with
  | true =>
    simp only [if_true]
    go_enter Tryd.func14, Tryd.ntmps14
    go_wp2_with fail
    refine (HA.out _ H0.out.below).mono ?_
    rintro e w1 ⟨rfl, hb⟩
    have H1 := Lib.hid (H0.out.keep hb); clear hb
    go_wp2_with fail
    refine (or_any _ _ _).mono ?_
    rintro e w2 ⟨rfl, hb⟩
    have H2 := Lib.hid (H1.out.keep hb); clear hb
    obtain ⟨d0, d1, d2, d3, d4⟩ := H2.out.cells
    go_wp2_with fail
    refine (HS.out _ H2.out.below).mono ?_
    rintro e w3 ⟨rfl, hb⟩
    have H3 := Lib.hid (H2.out.keep hb); clear hb d0 d1 d2 d3 d4
    go_wp2_with fail
    refine (or_any _ _ _).mono ?_
    rintro e w4 ⟨rfl, hb⟩
    have H4 := Lib.hid (H3.out.keep hb); clear hb
    obtain ⟨d0, d1, d2, d3, d4⟩ := H4.out.cells
    go_wp2_with fail
    refine (HI.out _ H4.out.below).mono ?_
    rintro e w5 ⟨v, rfl, hvA, hb⟩
    obtain ⟨D3, q3, D4, q4, rfl, _⟩ := hvA.open_
    have H5 := Lib.hid (H4.out.keep hb); clear hb d0 d1 d2 d3 d4
    have HVA := Lib.hid hvA; clear hvA
    go_wp2_with fail
    refine (HY.out _ _ _ HVA.out).mono ?_
    rintro e w6 ⟨rfl, hb⟩
    have H6 := Lib.hid (H5.out.keep hb); clear hb
    go_wp2_with fail
    refine (or_any _ _ _).mono ?_
    rintro e w7 ⟨rfl, hb⟩
    have H7 := Lib.hid (H6.out.keep hb); clear hb
    go_wp2_with fail
    go_ret
    exact ⟨rfl, H7.out.below⟩
  | false =>
    simp only [Bool.false_eq_true, if_false]
    go_enter Tryd.func14, Tryd.ntmps14
    go_wp2_with fail
    refine (HA.out _ H0.out.below).mono ?_
    rintro e w1 ⟨rfl, hb⟩
    have H1 := Lib.hid (H0.out.keep hb); clear hb
    go_wp2_with fail
    refine (or_any _ _ _).mono ?_
    rintro e w2 ⟨rfl, hb⟩
    have H2 := Lib.hid (H1.out.keep hb); clear hb
    obtain ⟨d0, d1, d2, d3, d4⟩ := H2.out.cells
    go_wp2_with fail
    refine (HI.out _ H2.out.below).mono ?_
    rintro e w5 ⟨v, rfl, hvA, hb⟩
    obtain ⟨D3, q3, D4, q4, rfl, _⟩ := hvA.open_
    have H5 := Lib.hid (H2.out.keep hb); clear hb d0 d1 d2 d3 d4
    have HVA := Lib.hid hvA; clear hvA
    go_wp2_with fail
    refine (HY.out _ _ _ HVA.out).mono ?_
    rintro e w6 ⟨rfl, hb⟩
    have H6 := Lib.hid (H5.out.keep hb); clear hb
    go_wp2_with fail
    refine (or_any _ _ _).mono ?_
    rintro e w7 ⟨rfl, hb⟩
    have H7 := Lib.hid (H6.out.keep hb); clear hb
    go_wp2_with fail
    go_ret
    exact ⟨rfl, H7.out.below⟩
end Go.Proofs.YtkdicgendcdooaaDoor

/-
  What a law's arguments read as, in one form: a slice of bytes or of texts is a row of cells ('RowAt'), each no longer than the form's reach.
-/
namespace Go.Proofs.YtkdicgendcdooaaDoor
open Go.ChangeShapes Go.WideShapes Go.ChangeAt Go.RowKit

/-- The values lie in a row from a on. -/
def RowAt (W : World) (a : Option Addr) (vs : List Value) : Prop :=
  0 < vs.length → ∃ b off, a = some ⟨b, off, none⟩ ∧ b < W.heap.size ∧ ∀ i (h : i < vs.length), W.cell? ⟨b, off + i, none⟩ = some vs[i]
theorem RowAt.below {W W' : World} {a : Option Addr} {vs : List Value} (h : RowAt W a vs) (hb : Below W.heap.size W W') : RowAt W' a vs := fun hp => by
  obtain ⟨b, off, e, hlt, hc⟩ := h hp
  exact ⟨b, off, e, Nat.lt_of_lt_of_le hlt hb.size, fun i hi => (hb.cell (p := ⟨b, off + i, none⟩) hlt).trans (hc i hi)⟩

section
variable {H : Type} {enc : TypeId × Value → H} {P : Program} {W : World} {base : Nat} {spare : Nat → Bool} {held : Bool}
theorem weights_all_mem {e : TypeId} : ∀ {l : List (DataW H)} {d : DataW H}, d ∈ l → ∀ n ∈ d.weights P e, n ∈ DataW.weightsAll P e l
  | d0 :: l, d, hd, n, hn => by
    simp only [DataW.weightsAll, List.mem_append]
    rcases List.mem_cons.1 hd with rfl | hd
    · exact .inl hn
    · exact .inr (weights_all_mem hd n hn)
theorem row_of_cells {a : Addr} {vs : List Value} (hc : ∀ i (h : i < vs.length), W.cell? (a.add i) = some vs[i]) : RowAt W (some a) vs := fun hp => by
  have h0 := hc 0 hp
  obtain ⟨b, off, spot⟩ := a
  have hs : spot = none := by simpa [Addr.add] using World.cell?_spot h0
  subst hs
  refine ⟨b, off, rfl, ?_, fun i hi => ?_⟩
  · have := World.block_lt_of_cell? W _ h0
    simpa [Addr.add] using this
  · rw [← hc i hi]
    congr 1
    unfold Addr.add
    split <;> simp_all
/-- A slice of texts. -/
theorem open_strs {ts : List TypeId} {ds : List (DataW H)} {j : Nat} {t e : TypeId} {a : Option Addr} {len cap : Nat} {d : DataW H} {ps : List MemPlace}
    (hsz : (DataW.weightsEach P ts ds).all (· ≤ reachBytes) = true) (ht : ts[j]? = some t) (hd : ds[j]? = some d) (hu : P.underlying t = some (.slice e)) (he : P.underlying e = some .string) (hc : P.cellsOf e = 1) (hB : P.bytesOf e = 16)
    (h : DataW.Trod enc P W base spare held t (.slice a len cap) d ps) :
    ∃ ss : List ByteArray, ss.length = len ∧ RowAt W a (ss.map .string) ∧ (∀ s ∈ ss, s.size ≤ 140737488351232) ∧ len * 16 ≤ 140737488351232 := by
  obtain ⟨fuel, hf⟩ := h
  rcases open_strings hu he hc hf with ⟨hcs, _⟩ | ⟨x, l, c, zs, hcs, _, hl, _, hz, hx, hcell, _⟩
  · simp [Value.cells] at hcs
    obtain ⟨rfl, rfl, rfl⟩ := hcs
    exact ⟨[], rfl, (fun hp => absurd hp (by simp)), (by simp), by simp⟩
  · simp [Value.cells] at hcs
    obtain ⟨rfl, rfl, rfl⟩ := hcs
    obtain ⟨hx, _⟩ := Prod.mk.inj hx
    subst hx
    have hl2 : len ≤ zs.length := by
      rw [hz]
      split
      · exact hl
      · exact Nat.le_refl _
    have z := sized_slice hsz ht hd hu
    rw [hB] at z
    have h1 : (strs (H := H) (zs.take len)).length + (strs (H := H) (zs.drop len)).length = zs.length := by
      simp [strs]
      omega
    rw [h1] at z
    refine ⟨zs.take len, by simp; omega, row_of_cells fun i hi => ?_, fun s hs => ?_, Nat.le_trans (Nat.mul_le_mul_right _ hl2) z⟩
    · have hi' : i < zs.length := by simp at hi; omega
      rw [hcell i hi']
      simp [List.getD_eq_getElem?_getD, List.getElem?_eq_getElem hi']
    · have hm : (DataW.lit (.string s.data.toList) : DataW H) ∈ strs (H := H) (zs.take len) := List.mem_map.2 ⟨s, hs, rfl⟩
      have hn := weights_all_mem (P := P) (e := e) hm s.data.toList.length (by simp [DataW.weights])
      have hn2 : s.data.toList.length ∈ DataW.weights P t (.slice (strs (H := H) (zs.take len)) (strs (zs.drop len))) := by
        simp only [DataW.weights, hu, List.mem_cons, List.mem_append]
        exact .inr (.inl hn)
      have := List.all_eq_true.1 hsz _ (DataW.weights_mem_each ht hd _ hn2)
      rw [Array.length_toList] at this
      exact of_decide_eq_true this
theorem strs_cap {t e : TypeId} {a : Option Addr} {len cap : Nat} {d : DataW H} {ps : List MemPlace}
    (hu : P.underlying t = some (.slice e)) (he : P.underlying e = some .string) (hc : P.cellsOf e = 1)
    (h : DataW.Trod enc P W base spare held t (.slice a len cap) d ps) : len ≤ cap ∧ cap ≤ maxLen := by
  obtain ⟨fuel, hf⟩ := h
  rcases open_strings hu he hc hf with ⟨hcs, _⟩ | ⟨x, l, c, zs, hcs, _, hl, hm, _⟩
  · simp [Value.cells] at hcs
    obtain ⟨rfl, rfl, rfl⟩ := hcs
    exact ⟨Nat.le_refl _, Nat.zero_le _⟩
  · simp [Value.cells] at hcs
    obtain ⟨rfl, rfl, rfl⟩ := hcs
    exact ⟨hl, hm⟩
/-- A slice of whole numbers. -/
theorem open_nums {ts : List TypeId} {ds : List (DataW H)} {j : Nat} {t e : TypeId} {k : IntKind} {a : Option Addr} {len cap : Nat} {d : DataW H} {ps : List MemPlace}
    (hsz : (DataW.weightsEach P ts ds).all (· ≤ reachBytes) = true) (ht : ts[j]? = some t) (hd : ds[j]? = some d) (hu : P.underlying t = some (.slice e)) (he : P.underlying e = some (.int k)) (hc : P.cellsOf e = 1) {B : Nat} (hB : P.bytesOf e = B)
    (h : DataW.Trod enc P W base spare held t (.slice a len cap) d ps) :
    ∃ zs : List Int, zs.length = len ∧ RowAt W a (zs.map (.int k)) ∧ (∀ z ∈ zs, (Lit.int k z).wf = true) ∧ len * B ≤ 140737488351232 ∧ len ≤ cap ∧ cap ≤ maxLen := by
  obtain ⟨fuel, hf⟩ := h
  rcases open_ints hu he hc hf with ⟨hcs, _⟩ | ⟨x, l, c, zs, hcs, _, hl, hm, hz, hx, hcell, hwf⟩
  · simp [Value.cells] at hcs
    obtain ⟨rfl, rfl, rfl⟩ := hcs
    exact ⟨[], rfl, (fun hp => absurd hp (by simp)), (by simp), by simp, by simp, by simp [maxLen]⟩
  · simp [Value.cells] at hcs
    obtain ⟨rfl, rfl, rfl⟩ := hcs
    obtain ⟨hx, _⟩ := Prod.mk.inj hx
    subst hx
    have hl2 : len ≤ zs.length := by
      rw [hz]
      split
      · exact hl
      · exact Nat.le_refl _
    have z := sized_slice hsz ht hd hu
    rw [hB] at z
    have h1 : (lits (H := H) k (zs.take len)).length + (lits (H := H) k (zs.drop len)).length = zs.length := by
      simp [lits]
      omega
    rw [h1] at z
    refine ⟨zs.take len, by simp; omega, row_of_cells fun i hi => ?_, fun s hs => hwf s (List.mem_of_mem_take hs), Nat.le_trans (Nat.mul_le_mul_right _ hl2) z, hl, hm⟩
    have hi' : i < zs.length := by simp at hi; omega
    rw [hcell i hi']
    simp [List.getD_eq_getElem?_getD, List.getElem?_eq_getElem hi']
end
theorem byte_wf {z : Int} (h : (Lit.int .u8 z).wf = true) : ∃ c : UInt8, z = (c.toNat : Int) := by
  have := bounds_u8 h
  refine ⟨UInt8.ofNat z.toNat, ?_⟩
  rw [UInt8.toNat_ofNat']
  omega
theorem bytes_wf : ∀ {zs : List Int}, (∀ z ∈ zs, (Lit.int .u8 z).wf = true) → ∃ l : List UInt8, zs = l.map fun c => (c.toNat : Int)
  | [], _ => ⟨[], rfl⟩
  | z :: zs, h => by
    obtain ⟨c, hc⟩ := byte_wf (h z (by simp))
    obtain ⟨l, hl⟩ := bytes_wf (zs := zs) (fun x hx => h x (by simp [hx]))
    exact ⟨c :: l, by rw [hc, hl]; rfl⟩
end Go.Proofs.YtkdicgendcdooaaDoor

/-
  A content of levels, as choices say.
-/
namespace Go.Proofs.YtkdicgendcdooaaDoor
open Go.RowKit Go.Lib Go.Proofs.YtkdicgendcdooaaDoorW.PrintWords
set_option linter.unusedSimpArgs false
set_option linter.unusedVariables false
def Bytes8 (w : World) (a : Option Addr) (l : List UInt8) : Prop := RowAt w a (l.map fun c => Value.int .u8 (c.toNat : Int))
theorem Bytes8.below {w w' : World} {a : Option Addr} {l : List UInt8} (h : Bytes8 w a l) (hb : Below w.heap.size w w') : Bytes8 w' a l := RowAt.below h hb
theorem Bytes8.at_ {w : World} {a : Option Addr} {l : List UInt8} (h : Bytes8 w a l) (hp : 0 < l.length) : ∃ g o, a = some ⟨g, o, none⟩ ∧ g < w.heap.size ∧ ∀ i (hi : i < l.length), w.cell? ⟨g, o + i, none⟩ = some (.int .u8 (l[i].toNat : Int)) := by
  obtain ⟨g, o, e, hg, hc⟩ := h (by rw [List.length_map]; exact hp)
  refine ⟨g, o, e, hg, fun i hi => ?_⟩
  rw [hc i (by rw [List.length_map]; exact hi), List.getElem_map]
abbrev bInvite : ByteArray := ⟨#[105, 110, 118, 105, 116, 101]⟩
def plainB (i : Nat) : ByteArray := if i = 0 then bBan else if i = 1 then bEventsDefault else if i = 2 then bInvite else if i = 3 then bKick else if i = 4 then bStateDefault else bUsersDefault
def kindB (i : Nat) : ByteArray := if i = 0 then ⟨#[116]⟩ else if i = 1 then ⟨#[109, 46, 114, 111, 111, 109, 46, 109, 101, 115, 115, 97, 103, 101]⟩ else ⟨#[109, 46, 114, 111, 111, 109, 46, 112, 111, 119, 101, 114, 95, 108, 101, 118, 101, 108, 115]⟩
def numL (i : Nat) : Int := if i = 0 then 0 else if i = 1 then 10 else if i = 2 then 50 else if i = 3 then 99 else if i = 4 then 100 else if i = 5 then 101 else -5
structure Lv where
  v : V
  u : V
  e : V
def stepLv (s : Lv) (a b : Nat) : Lv :=
  if a % 4 = 0 then { s with v := putV s.v (plainB (a / 4 % 6)) (numV (numL (b % 7))) }
  else if a % 4 = 1 then { s with e := putV s.e (kindB (a / 4 % 3)) (numV (numL (b % 7))) }
  else { s with u := putV s.u (userB (a / 4)) (numV (numL (b % 7))) }
def goLv (c : List UInt8) : Nat → Lv
  | 0 => ⟨zObj, zObj, zObj⟩
  | k + 1 => stepLv (goLv c k) (c.getD (2 * k) 0).toNat (c.getD (2 * k + 1) 0).toNat
def FitLv (k : Nat) (s : Lv) : Prop := FitK k s.v ∧ FitK k s.u ∧ FitK k s.e
theorem FitK.obj : FitK 0 zObj := ⟨Fit.obj, Nat.le_refl _, Nat.le_refl _⟩
theorem numL_fit (i : Nat) : Fit (numV (numL i)) := by
  unfold numL
  repeat (first | exact numV_fit (by omega) (by omega) | split)
theorem plainB_size (i : Nat) : (plainB i).size ≤ 100 := by unfold plainB; repeat (first | decide | split)
theorem kindB_size (i : Nat) : (kindB i).size ≤ 100 := by unfold kindB; repeat (first | decide | split)
theorem stepLv_fit {k : Nat} {s : Lv} (h : FitLv k s) (hk : k + 1 ≤ 100000) (a b : Nat) : FitLv (k + 1) (stepLv s a b) := by
  obtain ⟨h1, h2, h3⟩ := h
  have p1 := plainB_size (a / 4 % 6)
  have p2 := kindB_size (a / 4 % 3)
  unfold stepLv
  split
  · exact ⟨putV_fit h1 hk (by omega) (numL_fit _), h2.mono (by omega), h3.mono (by omega)⟩
  · split
    · exact ⟨h1.mono (by omega), h2.mono (by omega), putV_fit h3 hk (by omega) (numL_fit _)⟩
    · exact ⟨h1.mono (by omega), putV_fit h2 hk (by rw [userB_size]; omega) (numL_fit _), h3.mono (by omega)⟩
theorem goLv_fit (c : List UInt8) : ∀ k, k ≤ 1000 → FitLv k (goLv c k)
  | 0, _ => ⟨FitK.obj, FitK.obj, FitK.obj⟩
  | k + 1, h => stepLv_fit (goLv_fit c k (by omega)) (by omega) _ _
def roundsLv (n : Nat) : Nat := min (n / 2) 15
def levelsV (c : List UInt8) : V :=
  let s := goLv c (roundsLv c.length)
  let v1 := if 0 < c.length % 3 then putV s.v bUsers s.u else s.v
  if 0 < c.length % 5 then putV v1 bEvents s.e else v1
/-- A box with a value. -/
def BoxOf (W : World) (p : Nat) (ok : Nat → Prop) (x : V) : Prop := ∃ A3 c3 A4 c4, W.heap[p]? = some (.cells #[.int .i64 x.f0, .int .i64 x.f1, .string x.f2, .slice A3 x.f3.length c3, .slice A4 x.f4.length c4] 27 (0, 0)) ∧ VF W ok x (.agg #[.int .i64 x.f0, .int .i64 x.f1, .string x.f2, .slice A3 x.f3.length c3, .slice A4 x.f4.length c4])
theorem BoxOf.below {W W' : World} {p : Nat} {ok : Nat → Prop} {x : V} (h : BoxOf W p ok x) (hb : Below W.heap.size W W') : BoxOf W' p ok x := by
  obtain ⟨A3, c3, A4, c4, h1, h2⟩ := h
  exact ⟨A3, c3, A4, c4, (hb.block _ (Array.getElem?_eq_some_iff.1 h1).1).trans h1, h2.below hb⟩
theorem BoxOf.off {W W' : World} {p q : Nat} {ok : Nat → Prop} {x : V} (h : BoxOf W p ok x) (hO : Off [q] W W') (hp : p ≠ q) (hq : ¬ ok q) : BoxOf W' p ok x := by
  obtain ⟨A3, c3, A4, c4, h1, h2⟩ := h
  refine ⟨A3, c3, A4, c4, (hO.block p (by simpa using hp)).trans h1, hO.vf h2 (fun k hk _ hm => ?_)⟩
  simp at hm
  exact hq (hm ▸ hk)
theorem BoxOf.put {W : World} {q : Nat} {ok : Nat → Prop} {x z : V} {A3 A4 : Option Addr} {c3 c4 : Nat} (h : BoxOf W q ok x) (hz : VF W ok z (.agg #[.int .i64 z.f0, .int .i64 z.f1, .string z.f2, .slice A3 z.f3.length c3, .slice A4 z.f4.length c4])) (hq : ¬ ok q) :
    BoxOf (((((W.setCell ⟨q, 0, none⟩ (.int .i64 z.f0)).setCell ⟨q, 1, none⟩ (.int .i64 z.f1)).setCell ⟨q, 2, none⟩ (.string z.f2)).setCell ⟨q, 3, none⟩ (.slice A3 z.f3.length c3)).setCell ⟨q, 4, none⟩ (.slice A4 z.f4.length c4)) q ok z := by
  obtain ⟨_, _, _, _, h1, _⟩ := h
  have hO := off5 W q (.int .i64 z.f0) (.int .i64 z.f1) (.string z.f2) (.slice A3 z.f3.length c3) (.slice A4 z.f4.length c4)
  refine ⟨A3, c3, A4, c4, ?_, hO.vf hz (fun k hk _ hm => ?_)⟩
  · exact heap_setv (heap_setv (heap_setv (heap_setv (heap_setv h1 _) _) _) _) _
  · simp at hm
    exact hq (hm ▸ hk)
def namesCells : Array Value := #[.string bBan, .string bEventsDefault, .string bInvite, .string bKick, .string bStateDefault, .string bUsersDefault]
structure LvSt (w : World) (s : Lv) (wr : World) : Prop where
  below : Below w.heap.size w wr
  size : w.heap.size + 5 ≤ wr.heap.size
  v : BoxOf wr (w.heap.size + 1) (fun k => w.heap.size + 5 ≤ k) s.v
  u : BoxOf wr (w.heap.size + 2) (fun k => w.heap.size + 5 ≤ k) s.u
  e : BoxOf wr (w.heap.size + 3) (fun k => w.heap.size + 5 ≤ k) s.e
  names : wr.heap[w.heap.size + 4]? = some (.cells namesCells 9 (0, 0))
  res : wr.heap[w.heap.size]? = some (.cells #[.int .i64 0, .int .i64 0, .string ⟨#[]⟩, .slice none 0 0, .slice none 0 0] 27 (0, 0))
theorem LvSt.keep {w wr w' : World} {s : Lv} (h : LvSt w s wr) (hb : Below wr.heap.size wr w') : LvSt w s w' :=
  have hz := h.size
  have lt : ∀ {k : Nat} {o : Obj}, wr.heap[k]? = some o → k < wr.heap.size := fun h => (Array.getElem?_eq_some_iff.1 h).1
  ⟨h.below.trans (hb.mono h.below.size), Nat.le_trans hz hb.size, h.v.below hb, h.u.below hb, h.e.below hb, (hb.block _ (lt h.names)).trans h.names, (hb.block _ (lt h.res)).trans h.res⟩
theorem LvSt.setV {w wr : World} {s : Lv} {z : V} {A3 A4 : Option Addr} {c3 c4 : Nat} (h : LvSt w s wr) (hz : VF wr (fun k => w.heap.size + 5 ≤ k) z (.agg #[.int .i64 z.f0, .int .i64 z.f1, .string z.f2, .slice A3 z.f3.length c3, .slice A4 z.f4.length c4])) :
    LvSt w { s with v := z } (((((wr.setCell ⟨w.heap.size + 1, 0, none⟩ (.int .i64 z.f0)).setCell ⟨w.heap.size + 1, 1, none⟩ (.int .i64 z.f1)).setCell ⟨w.heap.size + 1, 2, none⟩ (.string z.f2)).setCell ⟨w.heap.size + 1, 3, none⟩ (.slice A3 z.f3.length c3)).setCell ⟨w.heap.size + 1, 4, none⟩ (.slice A4 z.f4.length c4)) :=
  have hO := off5 wr (w.heap.size + 1) (.int .i64 z.f0) (.int .i64 z.f1) (.string z.f2) (.slice A3 z.f3.length c3) (.slice A4 z.f4.length c4)
  ⟨Off.below h.below hO (by simp), by rw [hO.size]; exact h.size, h.v.put hz (by omega), h.u.off hO (by omega) (by omega), h.e.off hO (by omega) (by omega), (hO.block _ (by simp)).trans h.names, (hO.block _ (by simp)).trans h.res⟩
theorem LvSt.setU {w wr : World} {s : Lv} {z : V} {A3 A4 : Option Addr} {c3 c4 : Nat} (h : LvSt w s wr) (hz : VF wr (fun k => w.heap.size + 5 ≤ k) z (.agg #[.int .i64 z.f0, .int .i64 z.f1, .string z.f2, .slice A3 z.f3.length c3, .slice A4 z.f4.length c4])) :
    LvSt w { s with u := z } (((((wr.setCell ⟨w.heap.size + 2, 0, none⟩ (.int .i64 z.f0)).setCell ⟨w.heap.size + 2, 1, none⟩ (.int .i64 z.f1)).setCell ⟨w.heap.size + 2, 2, none⟩ (.string z.f2)).setCell ⟨w.heap.size + 2, 3, none⟩ (.slice A3 z.f3.length c3)).setCell ⟨w.heap.size + 2, 4, none⟩ (.slice A4 z.f4.length c4)) :=
  have hO := off5 wr (w.heap.size + 2) (.int .i64 z.f0) (.int .i64 z.f1) (.string z.f2) (.slice A3 z.f3.length c3) (.slice A4 z.f4.length c4)
  ⟨Off.below h.below hO (by simp), by rw [hO.size]; exact h.size, h.v.off hO (by omega) (by omega), h.u.put hz (by omega), h.e.off hO (by omega) (by omega), (hO.block _ (by simp)).trans h.names, (hO.block _ (by simp)).trans h.res⟩
theorem LvSt.setE {w wr : World} {s : Lv} {z : V} {A3 A4 : Option Addr} {c3 c4 : Nat} (h : LvSt w s wr) (hz : VF wr (fun k => w.heap.size + 5 ≤ k) z (.agg #[.int .i64 z.f0, .int .i64 z.f1, .string z.f2, .slice A3 z.f3.length c3, .slice A4 z.f4.length c4])) :
    LvSt w { s with e := z } (((((wr.setCell ⟨w.heap.size + 3, 0, none⟩ (.int .i64 z.f0)).setCell ⟨w.heap.size + 3, 1, none⟩ (.int .i64 z.f1)).setCell ⟨w.heap.size + 3, 2, none⟩ (.string z.f2)).setCell ⟨w.heap.size + 3, 3, none⟩ (.slice A3 z.f3.length c3)).setCell ⟨w.heap.size + 3, 4, none⟩ (.slice A4 z.f4.length c4)) :=
  have hO := off5 wr (w.heap.size + 3) (.int .i64 z.f0) (.int .i64 z.f1) (.string z.f2) (.slice A3 z.f3.length c3) (.slice A4 z.f4.length c4)
  ⟨Off.below h.below hO (by simp), by rw [hO.size]; exact h.size, h.v.off hO (by omega) (by omega), h.u.off hO (by omega) (by omega), h.e.put hz (by omega), (hO.block _ (by simp)).trans h.names, (hO.block _ (by simp)).trans h.res⟩
theorem far5 {W : World} {q : Nat} {a b c d e : Value} {p : Addr} (h : p.block ≠ q) : (((((W.setCell ⟨q, 0, none⟩ a).setCell ⟨q, 1, none⟩ b).setCell ⟨q, 2, none⟩ c).setCell ⟨q, 3, none⟩ d).setCell ⟨q, 4, none⟩ e).cell? p = W.cell? p :=
  World.cell?_of_block ((off5 W q a b c d e).block _ (by simpa using h))
theorem names_at {W : World} {p : Nat} (h : W.heap[p]? = some (.cells namesCells 9 (0, 0))) {r : Nat} (hr : r < 6) : W.cell? ⟨p, r, none⟩ = some (.string (plainB r)) := by
  have : r = 0 ∨ r = 1 ∨ r = 2 ∨ r = 3 ∨ r = 4 ∨ r = 5 := by omega
  rcases this with rfl | rfl | rfl | rfl | rfl | rfl <;> (unfold World.cell?; simp only [h]; rfl)
theorem tab3 (r : Nat) (h : r < 3) (h' : r < ([.string ⟨#[116]⟩, .string ⟨#[109, 46, 114, 111, 111, 109, 46, 109, 101, 115, 115, 97, 103, 101]⟩, .string ⟨#[109, 46, 114, 111, 111, 109, 46, 112, 111, 119, 101, 114, 95, 108, 101, 118, 101, 108, 115]⟩] : List Value).length) :
    ([.string ⟨#[116]⟩, .string ⟨#[109, 46, 114, 111, 111, 109, 46, 109, 101, 115, 115, 97, 103, 101]⟩, .string ⟨#[109, 46, 114, 111, 111, 109, 46, 112, 111, 119, 101, 114, 95, 108, 101, 118, 101, 108, 115]⟩] : List Value)[r]'h' = .string (kindB r) := by
  have : r = 0 ∨ r = 1 ∨ r = 2 := by omega
  rcases this with rfl | rfl | rfl <;> rfl
theorem tab7 (r : Nat) (h : r < 7) (W : World) : (W.alloc (.cells #[.int .i64 0, .int .i64 10, .int .i64 50, .int .i64 99, .int .i64 100, .int .i64 101, .int .i64 (-5)] 2)).cell? ⟨W.heap.size, r, none⟩ = some (.int .i64 (numL r)) := by
  have : r = 0 ∨ r = 1 ∨ r = 2 ∨ r = 3 ∨ r = 4 ∨ r = 5 ∨ r = 6 := by omega
  have hn := heap_alloc_new W (.cells #[.int .i64 0, .int .i64 10, .int .i64 50, .int .i64 99, .int .i64 100, .int .i64 101, .int .i64 (-5)] 2)
  rcases this with rfl | rfl | rfl | rfl | rfl | rfl | rfl <;> (unfold World.cell?; simp only [hn]; rfl)
theorem LvSt.start (w : World) : LvSt w ⟨zObj, zObj, zObj⟩ (((((w.alloc (.cells #[.int .i64 0, .int .i64 0, .string ⟨#[]⟩, .slice none 0 0, .slice none 0 0] 27)).alloc (.cells #[.int .i64 5, .int .i64 0, .string ⟨#[]⟩, .slice none 0 0, .slice none 0 0] 27)).alloc (.cells #[.int .i64 5, .int .i64 0, .string ⟨#[]⟩, .slice none 0 0, .slice none 0 0] 27)).alloc (.cells #[.int .i64 5, .int .i64 0, .string ⟨#[]⟩, .slice none 0 0, .slice none 0 0] 27)).alloc (.cells namesCells 9)) := by
  have h1 : (w.alloc (.cells #[.int .i64 0, .int .i64 0, .string ⟨#[]⟩, .slice none 0 0, .slice none 0 0] 27)).heap.size = w.heap.size + 1 := World.size_alloc _ _
  obtain ⟨W1, e1⟩ : ∃ W1, w.alloc (.cells #[.int .i64 0, .int .i64 0, .string ⟨#[]⟩, .slice none 0 0, .slice none 0 0] 27) = W1 := ⟨_, rfl⟩
  have b1 : Below w.heap.size w W1 := by rw [← e1]; exact (Below.refl _ w).alloc (Nat.le_refl _) _
  have r1 : W1.heap[w.heap.size]? = some (.cells #[.int .i64 0, .int .i64 0, .string ⟨#[]⟩, .slice none 0 0, .slice none 0 0] 27 (0, 0)) := by rw [← e1]; exact heap_alloc_new _ _
  rw [e1] at h1 ⊢
  have key : ∀ W : World, (W.alloc (.cells #[.int .i64 5, .int .i64 0, .string ⟨#[]⟩, .slice none 0 0, .slice none 0 0] 27)).heap.size = W.heap.size + 1 ∧ Below W.heap.size W (W.alloc (.cells #[.int .i64 5, .int .i64 0, .string ⟨#[]⟩, .slice none 0 0, .slice none 0 0] 27)) ∧ BoxOf (W.alloc (.cells #[.int .i64 5, .int .i64 0, .string ⟨#[]⟩, .slice none 0 0, .slice none 0 0] 27)) W.heap.size (fun k => w.heap.size + 5 ≤ k) zObj := fun W =>
    ⟨World.size_alloc _ _, (Below.refl _ W).alloc (Nat.le_refl _) _, ⟨none, 0, none, 0, heap_alloc_new _ _, VF.obj _ _⟩⟩
  obtain ⟨s2, b2, x2⟩ := key W1
  obtain ⟨W2, e2⟩ : ∃ W2, W1.alloc (.cells #[.int .i64 5, .int .i64 0, .string ⟨#[]⟩, .slice none 0 0, .slice none 0 0] 27) = W2 := ⟨_, rfl⟩
  rw [e2] at s2 b2 x2 ⊢
  obtain ⟨s3, b3, x3⟩ := key W2
  obtain ⟨W3, e3⟩ : ∃ W3, W2.alloc (.cells #[.int .i64 5, .int .i64 0, .string ⟨#[]⟩, .slice none 0 0, .slice none 0 0] 27) = W3 := ⟨_, rfl⟩
  rw [e3] at s3 b3 x3 ⊢
  obtain ⟨s4, b4, x4⟩ := key W3
  obtain ⟨W4, e4⟩ : ∃ W4, W3.alloc (.cells #[.int .i64 5, .int .i64 0, .string ⟨#[]⟩, .slice none 0 0, .slice none 0 0] 27) = W4 := ⟨_, rfl⟩
  rw [e4] at s4 b4 x4 ⊢
  have b5 : Below W4.heap.size W4 (W4.alloc (.cells namesCells 9)) := (Below.refl _ _).alloc (Nat.le_refl _) _
  have hn := heap_alloc_new W4 (.cells namesCells 9)
  have s5 : (W4.alloc (.cells namesCells 9)).heap.size = W4.heap.size + 1 := World.size_alloc _ _
  have z4 : W4.heap.size = w.heap.size + 4 := by omega
  have z3 : W3.heap.size = w.heap.size + 3 := by omega
  have z2 : W2.heap.size = w.heap.size + 2 := by omega
  rw [h1] at x2
  rw [z2] at x3
  rw [z3] at x4
  rw [z4] at hn
  exact ⟨b1.trans ((b2.mono (by omega)).trans ((b3.mono (by omega)).trans ((b4.mono (by omega)).trans (b5.mono (by omega))))), by omega, ((x2.below b3).below b4).below b5, (x3.below b4).below b5, x4.below b5, hn, (b5.block _ (by omega)).trans ((b4.block _ (by omega)).trans ((b3.block _ (by omega)).trans ((b2.block _ (by omega)).trans r1)))⟩
set_option maxRecDepth 100000 in
set_option maxHeartbeats 1000000 in
theorem levels_any {w : World} {a : Option Addr} {cap : Nat} {l : List UInt8} (h : Bytes8 w a l) (hl : l.length ≤ 140737488351232) :
    Calls Tryd.prog 12 #[.slice a l.length cap] w (EndV w Any (levelsV l)) := by
  obtain ⟨n, hn⟩ : ∃ n, l.length = n := ⟨_, rfl⟩
  have HN := Lib.hid hn
  have HC := Lib.hid h
  rw [hn] at hl
  rw [hn]
  clear hn h
  go_enter Tryd.func12, Tryd.ntmps12
  go_wp2_with fail
  have h0 := LvSt.start w
  obtain ⟨W0, hW0⟩ : ∃ W0, (((((w.alloc (.cells #[.int .i64 0, .int .i64 0, .string ⟨#[]⟩, .slice none 0 0, .slice none 0 0] 27)).alloc (.cells #[.int .i64 5, .int .i64 0, .string ⟨#[]⟩, .slice none 0 0, .slice none 0 0] 27)).alloc (.cells #[.int .i64 5, .int .i64 0, .string ⟨#[]⟩, .slice none 0 0, .slice none 0 0] 27)).alloc (.cells #[.int .i64 5, .int .i64 0, .string ⟨#[]⟩, .slice none 0 0, .slice none 0 0] 27)).alloc (.cells namesCells 9)) = W0 := ⟨_, rfl⟩
  unfold namesCells at hW0 h0
  rw [hW0] at h0 ⊢
  have H0 := Lib.hid h0
  clear hW0 h0
  go_loopw [7] (fun i wr => ∃ k : Nat, k ≤ roundsLv n ∧ i = .int .i64 ((2 * k : Nat) : Int) ∧ LvSt w (goLv l k) wr) (fun i _ => 30 - (intOf i).toNat)
  case atStart => exact ⟨0, by omega, rfl, H0.out⟩
  case round =>
    obtain ⟨k, hk, rfl, hst⟩ := hrel
    have HK := Lib.hid hk
    have hr15 : roundsLv n ≤ 15 := by unfold roundsLv; omega
    have hr2 : 2 * roundsLv n ≤ n := by unfold roundsLv; omega
    have HS := Lib.hid hst
    clear hst
    by_cases hlt : k < roundsLv n
    · have hi1 : 2 * k + 1 < n := by omega
      have hi2 : 2 * k < 30 := by omega
      obtain ⟨g, o, rfl, hg, hc⟩ := HC.out.at_ (by rw [HN.out]; omega)
      have hg_ := hg
      have f0 := (HS.out.below.cell (p := ⟨g, o + 2 * k, none⟩) hg).trans (hc (2 * k) (by rw [HN.out]; omega))
      have f1 := (HS.out.below.cell (p := ⟨g, o + (2 * k + 1), none⟩) hg).trans (hc (2 * k + 1) (by rw [HN.out]; omega))
      obtain ⟨p, hp⟩ : ∃ p, (l[2 * k]'(by rw [HN.out]; omega)).toNat = p := ⟨_, rfl⟩
      obtain ⟨q, hq⟩ : ∃ q, (l[2 * k + 1]'(by rw [HN.out]; omega)).toNat = q := ⟨_, rfl⟩
      have hp8 : p < 256 := by rw [← hp]; exact UInt8.toNat_lt _
      have hq8 : q < 256 := by rw [← hq]; exact UInt8.toNat_lt _
      rw [hp] at f0
      rw [hq] at f1
      have HG := Lib.hid (show goLv l (k + 1) = stepLv (goLv l k) p q by
        have e1 : l.getD (2 * k) 0 = l[2 * k]'(by rw [HN.out]; omega) := by rw [List.getD_eq_getElem?_getD, List.getElem?_eq_getElem (by rw [HN.out]; omega)]; rfl
        have e2 : l.getD (2 * k + 1) 0 = l[2 * k + 1]'(by rw [HN.out]; omega) := by rw [List.getD_eq_getElem?_getD, List.getElem?_eq_getElem (by rw [HN.out]; omega)]; rfl
        show stepLv (goLv l k) (l.getD (2 * k) 0).toNat (l.getD (2 * k + 1) 0).toNat = _
        rw [e1, e2, hp, hq])
      obtain ⟨r, hr⟩ : ∃ r, q % 7 = r := ⟨_, rfl⟩
      have hr7 : r < 7 := by omega
      have hqr : (q : Int) % 7 = (r : Int) := by omega
      have htab := tab7 r hr7
      have hgr : g < wr.heap.size := Nat.lt_of_lt_of_le hg HS.out.below.size
      have HR_ := Lib.hid hr
      clear hp hq hc hr
      go_wp2_with fail
      refine (num_any (numL r) (fun _ => False) _).mono ?_
      rintro e w1 ⟨v, rfl, hv, hb⟩
      obtain ⟨N, hN⟩ : ∃ N, numV (numL r) = N := ⟨_, rfl⟩
      rw [hN] at hv
      have HNN := Lib.hid hN
      obtain ⟨D3, q3, D4, q4, rfl, _⟩ := hv.open_
      have hbw : Below wr.heap.size wr w1 := ((Below.refl _ wr).alloc (Nat.le_refl _) _).trans (hb.mono (by simp))
      have hS1 := HS.out.keep hbw
      have f0' := (hbw.cell (p := ⟨g, o + 2 * k, none⟩) hgr).trans f0
      have hgr1 : g < w1.heap.size := Nat.lt_of_lt_of_le hgr hbw.size
      have HV := Lib.hid (hv.mono (ok' := fun k => w.heap.size + 5 ≤ k) (fun k hk => by
        rcases hk with h | h
        · exact h.elim
        · have h1 := HS.out.size
          have h2 : (wr.alloc (.cells #[.int .i64 0, .int .i64 10, .int .i64 50, .int .i64 99, .int .i64 100, .int .i64 101, .int .i64 (-5)] 2)).heap.size = wr.heap.size + 1 := World.size_alloc _ _
          omega))
      have HS1 := Lib.hid hS1
      have HW1 := Lib.hid hS1.size
      clear hb hbw hS1 hv hN htab f0 f1 hqr HS hgr hg
      by_cases hp0 : p % 4 = 0
      · have hpd : (p : Int) % 4 = 0 := by omega
        obtain ⟨p4, hp4⟩ : ∃ p4, p / 4 = p4 := ⟨_, rfl⟩
        obtain ⟨r6, hr6⟩ : ∃ r6, p4 % 6 = r6 := ⟨_, rfl⟩
        have hw4 : IntKind.u8.wrap ((p : Int) / 4) = (p4 : Int) := by rw [IntKind.wrap_u8]; omega
        have hw6 : (p4 : Int).tmod 6 = (r6 : Int) := by rw [Int.tmod_eq_emod_of_nonneg (by omega)]; omega
        have hr66 : r6 < 6 := by omega
        have HP4 := Lib.hid hp4
        have HR6 := Lib.hid hr6
        clear hr6 hp4
        go_wp2_with fail
        obtain ⟨W2, hW2⟩ : ∃ W2, w1.alloc (.cells #[.int .i64 N.f0, .int .i64 N.f1, .string N.f2, .slice D3 N.f3.length q3, .slice D4 N.f4.length q4] 27) = W2 := ⟨_, rfl⟩
        have hb2 : Below w1.heap.size w1 W2 := by rw [← hW2]; exact (Below.refl _ _).alloc (Nat.le_refl _) _
        have hn2 : W2.heap[w1.heap.size]? = some (.cells #[.int .i64 N.f0, .int .i64 N.f1, .string N.f2, .slice D3 N.f3.length q3, .slice D4 N.f4.length q4] 27 (0, 0)) := by rw [← hW2]; exact heap_alloc_new _ _
        rw [hW2]
        have HS2 := Lib.hid (HS1.out.keep hb2)
        have f02 := (hb2.cell (p := ⟨g, o + 2 * k, none⟩) hgr1).trans f0'
        obtain ⟨X3, x3, X4, x4, hbx, hbv⟩ := HS2.out.v
        obtain ⟨d0, d1, d2, d3, d4⟩ := cells5v hbx
        obtain ⟨m0, m1, m2, m3, m4⟩ := cells5v hn2
        have hnm := names_at HS2.out.names hr66
        have HBV := Lib.hid (hbv.below ((Below.refl _ W2).drew))
        have HS3 := Lib.hid (HS2.out.keep ((Below.refl _ W2).drew))
        have HV3 := Lib.hid (HV.out.below hb2.drew)
        clear hW2 hb2 hn2 hbx hbv f0' HV HS1 HS2 hgr1
        have hki0 : (0 : Int) ≤ 2 * (k : Int) := by omega
        have hki1 : 2 * (k : Int) < (n : Int) := by omega
        have hri0 : (0 : Int) ≤ (r6 : Int) := by omega
        have hri1 : (r6 : Int) < 6 := by omega
        have h2k : (2 * (k : Int)).toNat = 2 * k := by omega
        go_still_tail 11, (by kernel_rfl)
        change wpList _ _ _ _ _ W2.drew
        obtain ⟨W3, hW3⟩ : ∃ W3, W2.drew = W3 := ⟨_, rfl⟩
        rw [hW3] at HBV HS3 HV3 ⊢
        clear hW3 d0 d1 d2 d3 d4 m0 m1 m2 m3 m4 hnm f02
        go_wp2_with fail
        have hfit := (goLv_fit l k (by omega)).1
        have hps := plainB_size r6
        refine (put_any HBV.out hfit.1 HV3.out (plainB r6) (by omega)).mono ?_
        rintro e w4 ⟨v4, rfl, hv4, hb4⟩
        obtain ⟨z, hz⟩ : ∃ z, putV (goLv l k).v (plainB r6) N = z := ⟨_, rfl⟩
        rw [hz] at hv4
        obtain ⟨E3, t3, E4, t4, rfl, _⟩ := hv4.open_
        have HZ := Lib.hid hz
        have hs4 := HS3.out.keep hb4
        have hv5 := hv4.mono (ok' := fun k => w.heap.size + 5 ≤ k) (fun k hk => by
          rcases hk with h | h
          · exact h
          · have := HS3.out.size
            omega)
        have HS4 := Lib.hid hs4
        have HV4 := Lib.hid hv5
        obtain ⟨Y3, y3, Y4, y4, hbx, _⟩ := hs4.v
        obtain ⟨d0, d1, d2, d3, d4⟩ := cells5v hbx
        have ds := softv hbx
        clear hv4 hb4 hs4 hv5 hbx hz hfit hps
        go_wp2_with fail
        have HR := Lib.hid (HS4.out.setV HV4.out)
        have hG : goLv l (k + 1) = { goLv l k with v := z } := by
          rw [HG.out]
          unfold stepLv
          rw [if_pos hp0, HP4.out, HR6.out, HR_.out, HNN.out, HZ.out]
        have HGE := Lib.hid hG
        clear hG d0 d1 d2 d3 d4 ds
        refine ⟨⟨k + 1, by omega, by go_num, ?_⟩, ?_⟩
        · rw [HGE.out]
          exact HR.out
        · simp [intOf]
          omega
      · by_cases hp1 : p % 4 = 1
        · have hpd : (p : Int) % 4 = 1 := by omega
          obtain ⟨p4, hp4⟩ : ∃ p4, p / 4 = p4 := ⟨_, rfl⟩
          obtain ⟨r3, hr3⟩ : ∃ r3, p4 % 3 = r3 := ⟨_, rfl⟩
          have hw4 : IntKind.u8.wrap ((p : Int) / 4) = (p4 : Int) := by rw [IntKind.wrap_u8]; omega
          have hw6 : (p4 : Int).tmod 3 = (r3 : Int) := by rw [Int.tmod_eq_emod_of_nonneg (by omega)]; omega
          have hr33 : r3 < 3 := by omega
          have hri0 : (0 : Int) ≤ (r3 : Int) := by omega
          have hri1 : (r3 : Int) < 3 := by omega
          have HP4 := Lib.hid hp4
          have HR3 := Lib.hid hr3
          clear hp4 hr3
          -- EVENTS
          go_wp2_with fail
          obtain ⟨W2, hW2⟩ : ∃ W2, w1.alloc (.cells #[.int .i64 N.f0, .int .i64 N.f1, .string N.f2, .slice D3 N.f3.length q3, .slice D4 N.f4.length q4] 27) = W2 := ⟨_, rfl⟩
          have hb2 : Below w1.heap.size w1 W2 := by rw [← hW2]; exact (Below.refl _ _).alloc (Nat.le_refl _) _
          have hn2 : W2.heap[w1.heap.size]? = some (.cells #[.int .i64 N.f0, .int .i64 N.f1, .string N.f2, .slice D3 N.f3.length q3, .slice D4 N.f4.length q4] 27 (0, 0)) := by rw [← hW2]; exact heap_alloc_new _ _
          rw [hW2]
          have hs2 := HS1.out.keep hb2
          obtain ⟨X3, x3, X4, x4, hbx, hbv⟩ := hs2.e
          obtain ⟨P, hP⟩ : ∃ P : World → Prop, P = fun W => LvSt w (goLv l k) W ∧ W.heap[w1.heap.size]? = some (.cells #[.int .i64 N.f0, .int .i64 N.f1, .string N.f2, .slice D3 N.f3.length q3, .slice D4 N.f4.length q4] 27 (0, 0)) ∧ VF W (fun k => w.heap.size + 5 ≤ k) N (.agg #[.int .i64 N.f0, .int .i64 N.f1, .string N.f2, .slice D3 N.f3.length q3, .slice D4 N.f4.length q4]) ∧ W.heap[w.heap.size + 3]? = some (.cells #[.int .i64 (goLv l k).e.f0, .int .i64 (goLv l k).e.f1, .string (goLv l k).e.f2, .slice X3 (goLv l k).e.f3.length x3, .slice X4 (goLv l k).e.f4.length x4] 27 (0, 0)) ∧ VF W (fun k => w.heap.size + 5 ≤ k) (goLv l k).e (.agg #[.int .i64 (goLv l k).e.f0, .int .i64 (goLv l k).e.f1, .string (goLv l k).e.f2, .slice X3 (goLv l k).e.f3.length x3, .slice X4 (goLv l k).e.f4.length x4]) ∧ W.cell? ⟨g, o + 2 * k, none⟩ = some (.int .u8 (p : Int)) ∧ g < W.heap.size := ⟨_, rfl⟩
          have HPO := Lib.hid (fun W (h : P W) => (by rw [hP] at h; exact h : LvSt w (goLv l k) W ∧ W.heap[w1.heap.size]? = some (.cells #[.int .i64 N.f0, .int .i64 N.f1, .string N.f2, .slice D3 N.f3.length q3, .slice D4 N.f4.length q4] 27 (0, 0)) ∧ VF W (fun k => w.heap.size + 5 ≤ k) N (.agg #[.int .i64 N.f0, .int .i64 N.f1, .string N.f2, .slice D3 N.f3.length q3, .slice D4 N.f4.length q4]) ∧ W.heap[w.heap.size + 3]? = some (.cells #[.int .i64 (goLv l k).e.f0, .int .i64 (goLv l k).e.f1, .string (goLv l k).e.f2, .slice X3 (goLv l k).e.f3.length x3, .slice X4 (goLv l k).e.f4.length x4] 27 (0, 0)) ∧ VF W (fun k => w.heap.size + 5 ≤ k) (goLv l k).e (.agg #[.int .i64 (goLv l k).e.f0, .int .i64 (goLv l k).e.f1, .string (goLv l k).e.f2, .slice X3 (goLv l k).e.f3.length x3, .slice X4 (goLv l k).e.f4.length x4]) ∧ W.cell? ⟨g, o + 2 * k, none⟩ = some (.int .u8 (p : Int)) ∧ g < W.heap.size))
          have HPK := Lib.hid (fun W W' (h : P W) (hb : Below W.heap.size W W') => (by
            rw [hP] at h ⊢
            obtain ⟨q1, q2, q3, q4, q5, q6, q7⟩ := h
            exact ⟨q1.keep hb, (hb.block _ (Array.getElem?_eq_some_iff.1 q2).1).trans q2, q3.below hb, (hb.block _ (Array.getElem?_eq_some_iff.1 q4).1).trans q4, q5.below hb, (hb.cell (p := ⟨g, _, none⟩) q7).trans q6, Nat.lt_of_lt_of_le q7 hb.size⟩ : P W'))
          have hP2 : P W2 := by
            rw [hP]
            exact ⟨hs2, hn2, HV.out.below hb2, hbx, hbv, (hb2.cell (p := ⟨g, o + 2 * k, none⟩) hgr1).trans f0', Nat.lt_of_lt_of_le hgr1 hb2.size⟩
          have hP3 := HPK.out _ _ hP2 ((Below.refl _ W2).drew)
          have hfit := Lib.hid (goLv_fit l k (by omega)).2.2
          clear hP hP2 hW2 hb2 hn2 hs2 hbx hbv HV HS1 f0'
          obtain ⟨_, hnu, _, hbxu, _, c0, _⟩ := HPO.out _ hP3
          obtain ⟨b0, b1, b2, b3, b4⟩ := cells5v hbxu
          obtain ⟨n0, n1, n2, n3, n4⟩ := cells5v hnu
          clear hnu hbxu
          have hgne : (⟨g, o + 2 * k, none⟩ : Addr).block ≠ w.heap.size + 3 := by have := hg_; show g ≠ _; omega
          have hne2 : w1.heap.size ≠ w.heap.size + 3 := by have := HW1.out; omega
          have hki0 : (0 : Int) ≤ 2 * (k : Int) := by omega
          have hki1 : 2 * (k : Int) < (n : Int) := by omega
          have h2k : (2 * (k : Int)).toNat = 2 * k := by omega
          clear hp8 hq8
          have htk := tab3 r3 hr33
          refine wp_region_held_drew (S := fun W => W.cell? ⟨g, o + 2 * k, none⟩ = some (.int .u8 (p : Int)) ∧ W.cell? ⟨w1.heap.size, 0, none⟩ = some (.int .i64 N.f0) ∧ W.cell? ⟨w1.heap.size, 1, none⟩ = some (.int .i64 N.f1) ∧ W.cell? ⟨w1.heap.size, 2, none⟩ = some (.string N.f2) ∧ W.cell? ⟨w1.heap.size, 3, none⟩ = some (.slice D3 N.f3.length q3) ∧ W.cell? ⟨w1.heap.size, 4, none⟩ = some (.slice D4 N.f4.length q4)) (by kernel_rfl) ⟨c0, n0, n1, n2, n3, n4⟩ (fun hHeld => ?_)
          refine wpAnyH_take (i := 2) (oi := { dst := some 66, op := Op.move (Operand.tmp 0), type := 22, pos := "law.go:36", after := #[], guard := none }) (v := .slice (some ⟨g, o, none⟩) n cap) rfl (by kernel_rfl) (by kernel_rfl) (by kernel_rfl) (fun _ _ _ h => h) (Or.inl ⟨by rfl, ?_⟩) (by assumption) ?_
          · intro w2 hSw
            (try dsimp only at hSw)
            go_simp
          try simp only [Act.put, List.setIfInBounds_toArray, List.set_cons_zero, List.set_cons_succ]
          refine wpAnyH_take (i := 3) (oi := { dst := some 67, op := Op.move (Operand.tmp 7), type := 3, pos := "law.go:36", after := #[], guard := none }) (v := .int .i64 (2 * (k : Int))) rfl (by kernel_rfl) (by kernel_rfl) (by kernel_rfl) (fun _ _ _ h => h) (Or.inl ⟨by rfl, ?_⟩) (by assumption) ?_
          · intro w2 hSw
            (try dsimp only at hSw)
            go_simp
          try simp only [Act.put, List.setIfInBounds_toArray, List.set_cons_zero, List.set_cons_succ]
          refine wpAnyH_take (i := 4) (oi := { dst := some 68, op := Op.indexAddr 22 (Operand.tmp 66) (Operand.tmp 67), type := 0, pos := "law.go:36", after := #[{ on := 2, ground := Ground.data }, { on := 3, ground := Ground.data }], guard := none }) (v := .pointer (some ⟨g, o + 2 * k, none⟩)) rfl (by kernel_rfl) (by kernel_rfl) (by kernel_rfl) (fun _ _ _ h => h) (Or.inl ⟨by rfl, ?_⟩) (by assumption) ?_
          · intro w2 hSw
            (try dsimp only at hSw)
            go_simp
          try simp only [Act.put, List.setIfInBounds_toArray, List.set_cons_zero, List.set_cons_succ]
          refine wpAnyH_take (i := 5) (oi := { dst := some 69, op := Op.load 5 (Operand.tmp 68), type := 5, pos := "law.go:36", after := #[{ on := 4, ground := Ground.data }], guard := none }) (v := .int .u8 (p : Int)) rfl (by kernel_rfl) (by kernel_rfl) (by kernel_rfl) (fun _ _ _ h => h) (Or.inl ⟨by rfl, ?_⟩) (by assumption) ?_
          · intro w2 hSw
            (try dsimp only at hSw)
            go_simp
          try simp only [Act.put, List.setIfInBounds_toArray, List.set_cons_zero, List.set_cons_succ]
          refine wpAnyH_take (i := 6) (oi := { dst := some 70, op := Op.binOp BinOp.quo 5 (Operand.tmp 69) (Operand.const (Value.int IntKind.u8 4)) 5, type := 5, pos := "law.go:36", after := #[{ on := 5, ground := Ground.data }], guard := none }) (v := .int .u8 (p4 : Int)) rfl (by kernel_rfl) (by kernel_rfl) (by kernel_rfl) (fun _ _ _ h => h) (Or.inl ⟨by rfl, ?_⟩) (by assumption) ?_
          · intro w2 hSw
            (try dsimp only at hSw)
            go_simp
          try simp only [Act.put, List.setIfInBounds_toArray, List.set_cons_zero, List.set_cons_succ]
          refine wpAnyH_take (i := 7) (oi := { dst := some 71, op := Op.binOp BinOp.rem 5 (Operand.tmp 70) (Operand.const (Value.int IntKind.u8 3)) 5, type := 5, pos := "law.go:36", after := #[{ on := 6, ground := Ground.data }], guard := none }) (v := .int .u8 (r3 : Int)) rfl (by kernel_rfl) (by kernel_rfl) (by kernel_rfl) (fun _ _ _ h => h) (Or.inl ⟨by rfl, ?_⟩) (by assumption) ?_
          · intro w2 hSw
            (try dsimp only at hSw)
            go_simp
          try simp only [Act.put, List.setIfInBounds_toArray, List.set_cons_zero, List.set_cons_succ]
          refine wpAnyH_take (i := 10) (oi := { dst := some 74, op := Op.load 27 (Operand.tmp 8), type := 27, pos := "law.go:36", after := #[], guard := none }) (v := .agg #[.int .i64 N.f0, .int .i64 N.f1, .string N.f2, .slice D3 N.f3.length q3, .slice D4 N.f4.length q4]) rfl (by kernel_rfl) (by kernel_rfl) (by kernel_rfl) (fun _ _ _ h => h) (Or.inl ⟨by rfl, ?_⟩) (by assumption) ?_
          · intro w2 hSw
            (try dsimp only at hSw)
            go_simp
          try simp only [Act.put, List.setIfInBounds_toArray, List.set_cons_zero, List.set_cons_succ]
          refine wpAnyH_ready (rs := [0, 1]) (by kernel_rfl) (by simp) ?_
          refine AllReadyH.cons (o := { dst := some 64, op := Op.load 27 (Operand.tmp 5), type := 27, pos := "law.go:36", after := #[], guard := none }) rfl (fun K hK => ?_) (AllReadyH.cons (o := { dst := some 65, op := Op.buildSlice 24 3 #[(0, Operand.const (Value.string { data := #[116] })), (1, Operand.const (Value.string { data := #[109, 46, 114, 111, 111, 109, 46, 109, 101, 115, 115, 97, 103, 101] })), (2, Operand.const (Value.string { data := #[109, 46, 114, 111, 111, 109, 46, 112, 111, 119, 101, 114, 95, 108, 101, 118, 101, 108, 115] }))], type := 24, pos := "law.go:36", after := #[], guard := none }) rfl (fun K hK => ?_) AllReadyH.nil)
          · skip
            go_simp
            refine hK.out _ _ (by assumption) (fun hHeld => ?_)
            clear hK K
            try simp only [Act.put, List.setIfInBounds_toArray, List.set_cons_zero, List.set_cons_succ]
            refine wpAnyH_ready (rs := [1]) (by kernel_rfl) (by simp) ?_
            refine AllReadyH.cons (o := { dst := some 65, op := Op.buildSlice 24 3 #[(0, Operand.const (Value.string { data := #[116] })), (1, Operand.const (Value.string { data := #[109, 46, 114, 111, 111, 109, 46, 109, 101, 115, 115, 97, 103, 101] })), (2, Operand.const (Value.string { data := #[109, 46, 114, 111, 111, 109, 46, 112, 111, 119, 101, 114, 95, 108, 101, 118, 101, 108, 115] }))], type := 24, pos := "law.go:36", after := #[], guard := none }) rfl (fun K hK => ?_) AllReadyH.nil
            go_simp
            have hPu : P (W2.alloc (.cells #[.string ⟨#[116]⟩, .string ⟨#[109, 46, 114, 111, 111, 109, 46, 109, 101, 115, 115, 97, 103, 101]⟩, .string ⟨#[109, 46, 114, 111, 111, 109, 46, 112, 111, 119, 101, 114, 95, 108, 101, 118, 101, 108, 115]⟩] 9)).drew := HPK.out _ _ hP3 (show Below W2.drew.heap.size W2.drew (W2.alloc (.cells #[.string ⟨#[116]⟩, .string ⟨#[109, 46, 114, 111, 111, 109, 46, 109, 101, 115, 115, 97, 103, 101]⟩, .string ⟨#[109, 46, 114, 111, 111, 109, 46, 112, 111, 119, 101, 114, 95, 108, 101, 118, 101, 108, 115]⟩] 9)).drew from (Below.refl _ W2.drew).alloc (Nat.le_refl _) (.cells #[.string ⟨#[116]⟩, .string ⟨#[109, 46, 114, 111, 111, 109, 46, 109, 101, 115, 115, 97, 103, 101]⟩, .string ⟨#[109, 46, 114, 111, 111, 109, 46, 112, 111, 119, 101, 114, 95, 108, 101, 118, 101, 108, 115]⟩] 9))
            clear c0 n0 n1 n2 n3 n4 b0 b1 b2 b3 b4
            obtain ⟨_, hnu, _, hbxu, _, c0, _⟩ := HPO.out _ hPu
            obtain ⟨b0, b1, b2, b3, b4⟩ := cells5v hbxu
            obtain ⟨n0, n1, n2, n3, n4⟩ := cells5v hnu
            clear hnu hbxu
            refine hK.out _ _ ⟨c0, n0, n1, n2, n3, n4⟩ (fun hHeld => ?_)
            clear hK K
            try simp only [Act.put, List.setIfInBounds_toArray, List.set_cons_zero, List.set_cons_succ]
            refine wpAnyH_take (i := 8) (oi := { dst := some 72, op := Op.indexAddr 24 (Operand.tmp 65) (Operand.tmp 71), type := 0, pos := "law.go:36", after := #[{ on := 1, ground := Ground.data }, { on := 7, ground := Ground.data }], guard := none }) (v := .pointer (some ⟨W2.heap.size, r3, none⟩)) rfl (by kernel_rfl) (by kernel_rfl) (by kernel_rfl) (fun _ _ _ h => h) (Or.inl ⟨by rfl, ?_⟩) (by assumption) ?_
            · intro w2 hSw
              (try dsimp only at hSw)
              go_simp
            try simp only [Act.put, List.setIfInBounds_toArray, List.set_cons_zero, List.set_cons_succ]
            refine wpAnyH_ready (rs := [9]) (by kernel_rfl) (by simp) ?_
            refine AllReadyH.cons (o := { dst := some 73, op := Op.load 9 (Operand.tmp 72), type := 9, pos := "law.go:36", after := #[{ on := 8, ground := Ground.data }], guard := none }) rfl (fun K hK => ?_) AllReadyH.nil
            go_simp
            refine hK.out _ _ (by assumption) (fun hHeld => ?_)
            clear hK K
            try simp only [Act.put, List.setIfInBounds_toArray, List.set_cons_zero, List.set_cons_succ]
            refine wpAnyH_ready (rs := [11]) (by kernel_rfl) (by simp) ?_
            refine AllReadyH.cons (o := { dst := some 75, op := Op.call { callee := Callee.value (Operand.func 18), args := #[Operand.tmp 64, Operand.tmp 73, Operand.tmp 74], argTypes := #[27, 9, 27] }, type := 27, pos := "law.go:36", after := #[{ on := 0, ground := Ground.data }, { on := 9, ground := Ground.data }, { on := 10, ground := Ground.data }], guard := none }) rfl (fun K hK => ?_) AllReadyH.nil
            go_simp
            refine (put_any (HPO.out _ (by assumption)).2.2.2.2.1 hfit.out.1 (HPO.out _ (by assumption)).2.2.1 (kindB r3) (by have := kindB_size r3; omega)).mono ?_
            rintro e w4 ⟨v4, rfl, hv4, hb4⟩
            obtain ⟨z, hz⟩ : ∃ z, putV (goLv l k).e (kindB r3) N = z := ⟨_, rfl⟩
            rw [hz] at hv4
            obtain ⟨E3, t3, E4, t4, rfl, _⟩ := hv4.open_
            have HZ := Lib.hid hz
            have hPu := HPK.out _ _ (by assumption) hb4
            clear c0 n0 n1 n2 n3 n4 b0 b1 b2 b3 b4
            obtain ⟨_, hnu, _, hbxu, _, c0, _⟩ := HPO.out _ hPu
            obtain ⟨b0, b1, b2, b3, b4⟩ := cells5v hbxu
            obtain ⟨n0, n1, n2, n3, n4⟩ := cells5v hnu
            clear hnu hbxu
            have vs := softv (HPO.out _ hPu).2.2.2.1
            have HS4 := Lib.hid (HPO.out _ hPu).1
            have HV4 := Lib.hid (hv4.mono (ok' := fun k => w.heap.size + 5 ≤ k) (fun k hk => by
              rcases hk with h | h
              · exact h
              · exact Nat.le_trans ((HPO.out _ (by assumption)).1.size) h))
            clear hv4 hb4 hz
            try dsimp only
            refine hK.out _ _ ⟨c0, n0, n1, n2, n3, n4⟩ (fun hHeld => ?_)
            clear hK K
            try simp only [Act.put, List.setIfInBounds_toArray, List.set_cons_zero, List.set_cons_succ]
            refine wpAnyH_ready (rs := [12]) (by kernel_rfl) (by simp) ?_
            refine AllReadyH.cons (o := { dst := none, op := Op.store 27 (Operand.tmp 5) (Operand.tmp 75), type := 0, pos := "law.go:36", after := #[{ on := 11, ground := Ground.data }, { on := 11, ground := Ground.chain }, { on := 0, ground := Ground.phase }, { on := 1, ground := Ground.phase }, { on := 2, ground := Ground.phase }, { on := 3, ground := Ground.phase }, { on := 4, ground := Ground.phase }, { on := 5, ground := Ground.phase }, { on := 6, ground := Ground.phase }, { on := 7, ground := Ground.phase }, { on := 8, ground := Ground.phase }, { on := 9, ground := Ground.phase }, { on := 10, ground := Ground.phase }, { on := 11, ground := Ground.phase }], guard := none }) rfl (fun K hK => ?_) AllReadyH.nil
            go_simp
            refine hK.out _ _ ⟨(far5 hgne).trans c0, (far5 hne2).trans n0, (far5 hne2).trans n1, (far5 hne2).trans n2, (far5 hne2).trans n3, (far5 hne2).trans n4⟩ (fun hHeld => ?_)
            clear hK K
            try simp only [Act.put, List.setIfInBounds_toArray, List.set_cons_zero, List.set_cons_succ]
            refine wpAnyH_done (by kernel_rfl) ?_ _
            have HR := Lib.hid (HS4.out.setE HV4.out)
            have hGE : goLv l (k + 1) = { goLv l k with e := z } := by
              rw [HG.out]
              unfold stepLv
              rw [if_neg hp0, if_pos hp1, HP4.out, HR3.out, HR_.out, HNN.out, HZ.out]
            have HGE := Lib.hid hGE
            clear hGE
            clear c0 n0 n1 n2 n3 n4 b0 b1 b2 b3 b4 vs
            go_wp2_with fail
            refine ⟨⟨k + 1, by omega, by go_num, ?_⟩, ?_⟩
            · rw [HGE.out]
              exact HR.out
            · simp [intOf]
              omega
          · skip
            go_simp
            have hPu : P (W2.alloc (.cells #[.string ⟨#[116]⟩, .string ⟨#[109, 46, 114, 111, 111, 109, 46, 109, 101, 115, 115, 97, 103, 101]⟩, .string ⟨#[109, 46, 114, 111, 111, 109, 46, 112, 111, 119, 101, 114, 95, 108, 101, 118, 101, 108, 115]⟩] 9)).drew := HPK.out _ _ hP3 (show Below W2.drew.heap.size W2.drew (W2.alloc (.cells #[.string ⟨#[116]⟩, .string ⟨#[109, 46, 114, 111, 111, 109, 46, 109, 101, 115, 115, 97, 103, 101]⟩, .string ⟨#[109, 46, 114, 111, 111, 109, 46, 112, 111, 119, 101, 114, 95, 108, 101, 118, 101, 108, 115]⟩] 9)).drew from (Below.refl _ W2.drew).alloc (Nat.le_refl _) (.cells #[.string ⟨#[116]⟩, .string ⟨#[109, 46, 114, 111, 111, 109, 46, 109, 101, 115, 115, 97, 103, 101]⟩, .string ⟨#[109, 46, 114, 111, 111, 109, 46, 112, 111, 119, 101, 114, 95, 108, 101, 118, 101, 108, 115]⟩] 9))
            clear c0 n0 n1 n2 n3 n4 b0 b1 b2 b3 b4
            obtain ⟨_, hnu, _, hbxu, _, c0, _⟩ := HPO.out _ hPu
            obtain ⟨b0, b1, b2, b3, b4⟩ := cells5v hbxu
            obtain ⟨n0, n1, n2, n3, n4⟩ := cells5v hnu
            clear hnu hbxu
            refine hK.out _ _ ⟨c0, n0, n1, n2, n3, n4⟩ (fun hHeld => ?_)
            clear hK K
            try simp only [Act.put, List.setIfInBounds_toArray, List.set_cons_zero, List.set_cons_succ]
            refine wpAnyH_take (i := 8) (oi := { dst := some 72, op := Op.indexAddr 24 (Operand.tmp 65) (Operand.tmp 71), type := 0, pos := "law.go:36", after := #[{ on := 1, ground := Ground.data }, { on := 7, ground := Ground.data }], guard := none }) (v := .pointer (some ⟨W2.heap.size, r3, none⟩)) rfl (by kernel_rfl) (by kernel_rfl) (by kernel_rfl) (fun _ _ _ h => h) (Or.inl ⟨by rfl, ?_⟩) (by assumption) ?_
            · intro w2 hSw
              (try dsimp only at hSw)
              go_simp
            try simp only [Act.put, List.setIfInBounds_toArray, List.set_cons_zero, List.set_cons_succ]
            refine wpAnyH_ready (rs := [0, 9]) (by kernel_rfl) (by simp) ?_
            refine AllReadyH.cons (o := { dst := some 64, op := Op.load 27 (Operand.tmp 5), type := 27, pos := "law.go:36", after := #[], guard := none }) rfl (fun K hK => ?_) (AllReadyH.cons (o := { dst := some 73, op := Op.load 9 (Operand.tmp 72), type := 9, pos := "law.go:36", after := #[{ on := 8, ground := Ground.data }], guard := none }) rfl (fun K hK => ?_) AllReadyH.nil)
            · skip
              go_simp
              refine hK.out _ _ (by assumption) (fun hHeld => ?_)
              clear hK K
              try simp only [Act.put, List.setIfInBounds_toArray, List.set_cons_zero, List.set_cons_succ]
              refine wpAnyH_ready (rs := [9]) (by kernel_rfl) (by simp) ?_
              refine AllReadyH.cons (o := { dst := some 73, op := Op.load 9 (Operand.tmp 72), type := 9, pos := "law.go:36", after := #[{ on := 8, ground := Ground.data }], guard := none }) rfl (fun K hK => ?_) AllReadyH.nil
              go_simp
              refine hK.out _ _ (by assumption) (fun hHeld => ?_)
              clear hK K
              try simp only [Act.put, List.setIfInBounds_toArray, List.set_cons_zero, List.set_cons_succ]
              refine wpAnyH_ready (rs := [11]) (by kernel_rfl) (by simp) ?_
              refine AllReadyH.cons (o := { dst := some 75, op := Op.call { callee := Callee.value (Operand.func 18), args := #[Operand.tmp 64, Operand.tmp 73, Operand.tmp 74], argTypes := #[27, 9, 27] }, type := 27, pos := "law.go:36", after := #[{ on := 0, ground := Ground.data }, { on := 9, ground := Ground.data }, { on := 10, ground := Ground.data }], guard := none }) rfl (fun K hK => ?_) AllReadyH.nil
              go_simp
              refine (put_any (HPO.out _ (by assumption)).2.2.2.2.1 hfit.out.1 (HPO.out _ (by assumption)).2.2.1 (kindB r3) (by have := kindB_size r3; omega)).mono ?_
              rintro e w4 ⟨v4, rfl, hv4, hb4⟩
              obtain ⟨z, hz⟩ : ∃ z, putV (goLv l k).e (kindB r3) N = z := ⟨_, rfl⟩
              rw [hz] at hv4
              obtain ⟨E3, t3, E4, t4, rfl, _⟩ := hv4.open_
              have HZ := Lib.hid hz
              have hPu := HPK.out _ _ (by assumption) hb4
              clear c0 n0 n1 n2 n3 n4 b0 b1 b2 b3 b4
              obtain ⟨_, hnu, _, hbxu, _, c0, _⟩ := HPO.out _ hPu
              obtain ⟨b0, b1, b2, b3, b4⟩ := cells5v hbxu
              obtain ⟨n0, n1, n2, n3, n4⟩ := cells5v hnu
              clear hnu hbxu
              have vs := softv (HPO.out _ hPu).2.2.2.1
              have HS4 := Lib.hid (HPO.out _ hPu).1
              have HV4 := Lib.hid (hv4.mono (ok' := fun k => w.heap.size + 5 ≤ k) (fun k hk => by
                rcases hk with h | h
                · exact h
                · exact Nat.le_trans ((HPO.out _ (by assumption)).1.size) h))
              clear hv4 hb4 hz
              try dsimp only
              refine hK.out _ _ ⟨c0, n0, n1, n2, n3, n4⟩ (fun hHeld => ?_)
              clear hK K
              try simp only [Act.put, List.setIfInBounds_toArray, List.set_cons_zero, List.set_cons_succ]
              refine wpAnyH_ready (rs := [12]) (by kernel_rfl) (by simp) ?_
              refine AllReadyH.cons (o := { dst := none, op := Op.store 27 (Operand.tmp 5) (Operand.tmp 75), type := 0, pos := "law.go:36", after := #[{ on := 11, ground := Ground.data }, { on := 11, ground := Ground.chain }, { on := 0, ground := Ground.phase }, { on := 1, ground := Ground.phase }, { on := 2, ground := Ground.phase }, { on := 3, ground := Ground.phase }, { on := 4, ground := Ground.phase }, { on := 5, ground := Ground.phase }, { on := 6, ground := Ground.phase }, { on := 7, ground := Ground.phase }, { on := 8, ground := Ground.phase }, { on := 9, ground := Ground.phase }, { on := 10, ground := Ground.phase }, { on := 11, ground := Ground.phase }], guard := none }) rfl (fun K hK => ?_) AllReadyH.nil
              go_simp
              refine hK.out _ _ ⟨(far5 hgne).trans c0, (far5 hne2).trans n0, (far5 hne2).trans n1, (far5 hne2).trans n2, (far5 hne2).trans n3, (far5 hne2).trans n4⟩ (fun hHeld => ?_)
              clear hK K
              try simp only [Act.put, List.setIfInBounds_toArray, List.set_cons_zero, List.set_cons_succ]
              refine wpAnyH_done (by kernel_rfl) ?_ _
              have HR := Lib.hid (HS4.out.setE HV4.out)
              have hGE : goLv l (k + 1) = { goLv l k with e := z } := by
                rw [HG.out]
                unfold stepLv
                rw [if_neg hp0, if_pos hp1, HP4.out, HR3.out, HR_.out, HNN.out, HZ.out]
              have HGE := Lib.hid hGE
              clear hGE
              clear c0 n0 n1 n2 n3 n4 b0 b1 b2 b3 b4 vs
              go_wp2_with fail
              refine ⟨⟨k + 1, by omega, by go_num, ?_⟩, ?_⟩
              · rw [HGE.out]
                exact HR.out
              · simp [intOf]
                omega
            · skip
              go_simp
              refine hK.out _ _ (by assumption) (fun hHeld => ?_)
              clear hK K
              try simp only [Act.put, List.setIfInBounds_toArray, List.set_cons_zero, List.set_cons_succ]
              refine wpAnyH_ready (rs := [0]) (by kernel_rfl) (by simp) ?_
              refine AllReadyH.cons (o := { dst := some 64, op := Op.load 27 (Operand.tmp 5), type := 27, pos := "law.go:36", after := #[], guard := none }) rfl (fun K hK => ?_) AllReadyH.nil
              go_simp
              refine hK.out _ _ (by assumption) (fun hHeld => ?_)
              clear hK K
              try simp only [Act.put, List.setIfInBounds_toArray, List.set_cons_zero, List.set_cons_succ]
              refine wpAnyH_ready (rs := [11]) (by kernel_rfl) (by simp) ?_
              refine AllReadyH.cons (o := { dst := some 75, op := Op.call { callee := Callee.value (Operand.func 18), args := #[Operand.tmp 64, Operand.tmp 73, Operand.tmp 74], argTypes := #[27, 9, 27] }, type := 27, pos := "law.go:36", after := #[{ on := 0, ground := Ground.data }, { on := 9, ground := Ground.data }, { on := 10, ground := Ground.data }], guard := none }) rfl (fun K hK => ?_) AllReadyH.nil
              go_simp
              refine (put_any (HPO.out _ (by assumption)).2.2.2.2.1 hfit.out.1 (HPO.out _ (by assumption)).2.2.1 (kindB r3) (by have := kindB_size r3; omega)).mono ?_
              rintro e w4 ⟨v4, rfl, hv4, hb4⟩
              obtain ⟨z, hz⟩ : ∃ z, putV (goLv l k).e (kindB r3) N = z := ⟨_, rfl⟩
              rw [hz] at hv4
              obtain ⟨E3, t3, E4, t4, rfl, _⟩ := hv4.open_
              have HZ := Lib.hid hz
              have hPu := HPK.out _ _ (by assumption) hb4
              clear c0 n0 n1 n2 n3 n4 b0 b1 b2 b3 b4
              obtain ⟨_, hnu, _, hbxu, _, c0, _⟩ := HPO.out _ hPu
              obtain ⟨b0, b1, b2, b3, b4⟩ := cells5v hbxu
              obtain ⟨n0, n1, n2, n3, n4⟩ := cells5v hnu
              clear hnu hbxu
              have vs := softv (HPO.out _ hPu).2.2.2.1
              have HS4 := Lib.hid (HPO.out _ hPu).1
              have HV4 := Lib.hid (hv4.mono (ok' := fun k => w.heap.size + 5 ≤ k) (fun k hk => by
                rcases hk with h | h
                · exact h
                · exact Nat.le_trans ((HPO.out _ (by assumption)).1.size) h))
              clear hv4 hb4 hz
              try dsimp only
              refine hK.out _ _ ⟨c0, n0, n1, n2, n3, n4⟩ (fun hHeld => ?_)
              clear hK K
              try simp only [Act.put, List.setIfInBounds_toArray, List.set_cons_zero, List.set_cons_succ]
              refine wpAnyH_ready (rs := [12]) (by kernel_rfl) (by simp) ?_
              refine AllReadyH.cons (o := { dst := none, op := Op.store 27 (Operand.tmp 5) (Operand.tmp 75), type := 0, pos := "law.go:36", after := #[{ on := 11, ground := Ground.data }, { on := 11, ground := Ground.chain }, { on := 0, ground := Ground.phase }, { on := 1, ground := Ground.phase }, { on := 2, ground := Ground.phase }, { on := 3, ground := Ground.phase }, { on := 4, ground := Ground.phase }, { on := 5, ground := Ground.phase }, { on := 6, ground := Ground.phase }, { on := 7, ground := Ground.phase }, { on := 8, ground := Ground.phase }, { on := 9, ground := Ground.phase }, { on := 10, ground := Ground.phase }, { on := 11, ground := Ground.phase }], guard := none }) rfl (fun K hK => ?_) AllReadyH.nil
              go_simp
              refine hK.out _ _ ⟨(far5 hgne).trans c0, (far5 hne2).trans n0, (far5 hne2).trans n1, (far5 hne2).trans n2, (far5 hne2).trans n3, (far5 hne2).trans n4⟩ (fun hHeld => ?_)
              clear hK K
              try simp only [Act.put, List.setIfInBounds_toArray, List.set_cons_zero, List.set_cons_succ]
              refine wpAnyH_done (by kernel_rfl) ?_ _
              have HR := Lib.hid (HS4.out.setE HV4.out)
              have hGE : goLv l (k + 1) = { goLv l k with e := z } := by
                rw [HG.out]
                unfold stepLv
                rw [if_neg hp0, if_pos hp1, HP4.out, HR3.out, HR_.out, HNN.out, HZ.out]
              have HGE := Lib.hid hGE
              clear hGE
              clear c0 n0 n1 n2 n3 n4 b0 b1 b2 b3 b4 vs
              go_wp2_with fail
              refine ⟨⟨k + 1, by omega, by go_num, ?_⟩, ?_⟩
              · rw [HGE.out]
                exact HR.out
              · simp [intOf]
                omega
        · have hpd0 : ((p : Int) % 4 == 0) = false := int_eq_f (by omega)
          have hpd1 : ((p : Int) % 4 == 1) = false := int_eq_f (by omega)
          obtain ⟨p4, hp4⟩ : ∃ p4, p / 4 = p4 := ⟨_, rfl⟩
          have hw4 : IntKind.u8.wrap ((p : Int) / 4) = (p4 : Int) := by rw [IntKind.wrap_u8]; omega
          have hp48 : p4 < 256 := by omega
          have HP4 := Lib.hid hp4
          clear hp4
          -- USERS
          go_wp2_with fail
          obtain ⟨W2, hW2⟩ : ∃ W2, w1.alloc (.cells #[.int .i64 N.f0, .int .i64 N.f1, .string N.f2, .slice D3 N.f3.length q3, .slice D4 N.f4.length q4] 27) = W2 := ⟨_, rfl⟩
          have hb2 : Below w1.heap.size w1 W2 := by rw [← hW2]; exact (Below.refl _ _).alloc (Nat.le_refl _) _
          have hn2 : W2.heap[w1.heap.size]? = some (.cells #[.int .i64 N.f0, .int .i64 N.f1, .string N.f2, .slice D3 N.f3.length q3, .slice D4 N.f4.length q4] 27 (0, 0)) := by rw [← hW2]; exact heap_alloc_new _ _
          rw [hW2]
          have hs2 := HS1.out.keep hb2
          obtain ⟨X3, x3, X4, x4, hbx, hbv⟩ := hs2.u
          obtain ⟨P, hP⟩ : ∃ P : World → Prop, P = fun W => LvSt w (goLv l k) W ∧ W.heap[w1.heap.size]? = some (.cells #[.int .i64 N.f0, .int .i64 N.f1, .string N.f2, .slice D3 N.f3.length q3, .slice D4 N.f4.length q4] 27 (0, 0)) ∧ VF W (fun k => w.heap.size + 5 ≤ k) N (.agg #[.int .i64 N.f0, .int .i64 N.f1, .string N.f2, .slice D3 N.f3.length q3, .slice D4 N.f4.length q4]) ∧ W.heap[w.heap.size + 2]? = some (.cells #[.int .i64 (goLv l k).u.f0, .int .i64 (goLv l k).u.f1, .string (goLv l k).u.f2, .slice X3 (goLv l k).u.f3.length x3, .slice X4 (goLv l k).u.f4.length x4] 27 (0, 0)) ∧ VF W (fun k => w.heap.size + 5 ≤ k) (goLv l k).u (.agg #[.int .i64 (goLv l k).u.f0, .int .i64 (goLv l k).u.f1, .string (goLv l k).u.f2, .slice X3 (goLv l k).u.f3.length x3, .slice X4 (goLv l k).u.f4.length x4]) ∧ W.cell? ⟨g, o + 2 * k, none⟩ = some (.int .u8 (p : Int)) ∧ g < W.heap.size := ⟨_, rfl⟩
          have HPO := Lib.hid (fun W (h : P W) => (by rw [hP] at h; exact h : LvSt w (goLv l k) W ∧ W.heap[w1.heap.size]? = some (.cells #[.int .i64 N.f0, .int .i64 N.f1, .string N.f2, .slice D3 N.f3.length q3, .slice D4 N.f4.length q4] 27 (0, 0)) ∧ VF W (fun k => w.heap.size + 5 ≤ k) N (.agg #[.int .i64 N.f0, .int .i64 N.f1, .string N.f2, .slice D3 N.f3.length q3, .slice D4 N.f4.length q4]) ∧ W.heap[w.heap.size + 2]? = some (.cells #[.int .i64 (goLv l k).u.f0, .int .i64 (goLv l k).u.f1, .string (goLv l k).u.f2, .slice X3 (goLv l k).u.f3.length x3, .slice X4 (goLv l k).u.f4.length x4] 27 (0, 0)) ∧ VF W (fun k => w.heap.size + 5 ≤ k) (goLv l k).u (.agg #[.int .i64 (goLv l k).u.f0, .int .i64 (goLv l k).u.f1, .string (goLv l k).u.f2, .slice X3 (goLv l k).u.f3.length x3, .slice X4 (goLv l k).u.f4.length x4]) ∧ W.cell? ⟨g, o + 2 * k, none⟩ = some (.int .u8 (p : Int)) ∧ g < W.heap.size))
          have HPK := Lib.hid (fun W W' (h : P W) (hb : Below W.heap.size W W') => (by
            rw [hP] at h ⊢
            obtain ⟨q1, q2, q3, q4, q5, q6, q7⟩ := h
            exact ⟨q1.keep hb, (hb.block _ (Array.getElem?_eq_some_iff.1 q2).1).trans q2, q3.below hb, (hb.block _ (Array.getElem?_eq_some_iff.1 q4).1).trans q4, q5.below hb, (hb.cell (p := ⟨g, _, none⟩) q7).trans q6, Nat.lt_of_lt_of_le q7 hb.size⟩ : P W'))
          have hP2 : P W2 := by
            rw [hP]
            exact ⟨hs2, hn2, HV.out.below hb2, hbx, hbv, (hb2.cell (p := ⟨g, o + 2 * k, none⟩) hgr1).trans f0', Nat.lt_of_lt_of_le hgr1 hb2.size⟩
          have hP3 := HPK.out _ _ hP2 ((Below.refl _ W2).drew)
          have hfit := Lib.hid (goLv_fit l k (by omega)).2.1
          clear hP hP2 hW2 hb2 hn2 hs2 hbx hbv HV HS1 f0'
          obtain ⟨_, hnu, _, hbxu, _, c0, _⟩ := HPO.out _ hP3
          obtain ⟨b0, b1, b2, b3, b4⟩ := cells5v hbxu
          obtain ⟨n0, n1, n2, n3, n4⟩ := cells5v hnu
          clear hnu hbxu
          have hgne : (⟨g, o + 2 * k, none⟩ : Addr).block ≠ w.heap.size + 2 := by have := hg_; show g ≠ _; omega
          have hne2 : w1.heap.size ≠ w.heap.size + 2 := by have := HW1.out; omega
          have hki0 : (0 : Int) ≤ 2 * (k : Int) := by omega
          have hki1 : 2 * (k : Int) < (n : Int) := by omega
          have h2k : (2 * (k : Int)).toNat = 2 * k := by omega
          clear hp8 hq8
          refine wp_region_held_drew (S := fun W => W.cell? ⟨g, o + 2 * k, none⟩ = some (.int .u8 (p : Int)) ∧ W.cell? ⟨w1.heap.size, 0, none⟩ = some (.int .i64 N.f0) ∧ W.cell? ⟨w1.heap.size, 1, none⟩ = some (.int .i64 N.f1) ∧ W.cell? ⟨w1.heap.size, 2, none⟩ = some (.string N.f2) ∧ W.cell? ⟨w1.heap.size, 3, none⟩ = some (.slice D3 N.f3.length q3) ∧ W.cell? ⟨w1.heap.size, 4, none⟩ = some (.slice D4 N.f4.length q4)) (by kernel_rfl) ⟨c0, n0, n1, n2, n3, n4⟩ (fun hHeld => ?_)
          refine wpAnyH_take (i := 1) (oi := { dst := some 40, op := Op.move (Operand.tmp 0), type := 22, pos := "law.go:38", after := #[], guard := none }) (v := .slice (some ⟨g, o, none⟩) n cap) rfl (by kernel_rfl) (by kernel_rfl) (by kernel_rfl) (fun _ _ _ h => h) (Or.inl ⟨by rfl, ?_⟩) (by assumption) ?_
          · intro w2 hSw
            (try dsimp only at hSw)
            go_simp
          try simp only [Act.put, List.setIfInBounds_toArray, List.set_cons_zero, List.set_cons_succ]
          refine wpAnyH_take (i := 2) (oi := { dst := some 41, op := Op.move (Operand.tmp 7), type := 3, pos := "law.go:38", after := #[], guard := none }) (v := .int .i64 (2 * (k : Int))) rfl (by kernel_rfl) (by kernel_rfl) (by kernel_rfl) (fun _ _ _ h => h) (Or.inl ⟨by rfl, ?_⟩) (by assumption) ?_
          · intro w2 hSw
            (try dsimp only at hSw)
            go_simp
          try simp only [Act.put, List.setIfInBounds_toArray, List.set_cons_zero, List.set_cons_succ]
          refine wpAnyH_take (i := 3) (oi := { dst := some 42, op := Op.indexAddr 22 (Operand.tmp 40) (Operand.tmp 41), type := 0, pos := "law.go:38", after := #[{ on := 1, ground := Ground.data }, { on := 2, ground := Ground.data }], guard := none }) (v := .pointer (some ⟨g, o + 2 * k, none⟩)) rfl (by kernel_rfl) (by kernel_rfl) (by kernel_rfl) (fun _ _ _ h => h) (Or.inl ⟨by rfl, ?_⟩) (by assumption) ?_
          · intro w2 hSw
            (try dsimp only at hSw)
            go_simp
          try simp only [Act.put, List.setIfInBounds_toArray, List.set_cons_zero, List.set_cons_succ]
          refine wpAnyH_take (i := 4) (oi := { dst := some 43, op := Op.load 5 (Operand.tmp 42), type := 5, pos := "law.go:38", after := #[{ on := 3, ground := Ground.data }], guard := none }) (v := .int .u8 (p : Int)) rfl (by kernel_rfl) (by kernel_rfl) (by kernel_rfl) (fun _ _ _ h => h) (Or.inl ⟨by rfl, ?_⟩) (by assumption) ?_
          · intro w2 hSw
            (try dsimp only at hSw)
            go_simp
          try simp only [Act.put, List.setIfInBounds_toArray, List.set_cons_zero, List.set_cons_succ]
          refine wpAnyH_take (i := 5) (oi := { dst := some 44, op := Op.binOp BinOp.quo 5 (Operand.tmp 43) (Operand.const (Value.int IntKind.u8 4)) 5, type := 5, pos := "law.go:38", after := #[{ on := 4, ground := Ground.data }], guard := none }) (v := .int .u8 (p4 : Int)) rfl (by kernel_rfl) (by kernel_rfl) (by kernel_rfl) (fun _ _ _ h => h) (Or.inl ⟨by rfl, ?_⟩) (by assumption) ?_
          · intro w2 hSw
            (try dsimp only at hSw)
            go_simp
          try simp only [Act.put, List.setIfInBounds_toArray, List.set_cons_zero, List.set_cons_succ]
          refine wpAnyH_take (i := 7) (oi := { dst := some 46, op := Op.load 27 (Operand.tmp 8), type := 27, pos := "law.go:38", after := #[], guard := none }) (v := .agg #[.int .i64 N.f0, .int .i64 N.f1, .string N.f2, .slice D3 N.f3.length q3, .slice D4 N.f4.length q4]) rfl (by kernel_rfl) (by kernel_rfl) (by kernel_rfl) (fun _ _ _ h => h) (Or.inl ⟨by rfl, ?_⟩) (by assumption) ?_
          · intro w2 hSw
            (try dsimp only at hSw)
            go_simp
          try simp only [Act.put, List.setIfInBounds_toArray, List.set_cons_zero, List.set_cons_succ]
          refine wpAnyH_ready (rs := [0, 6]) (by kernel_rfl) (by simp) ?_
          refine AllReadyH.cons (o := { dst := some 39, op := Op.load 27 (Operand.tmp 4), type := 27, pos := "law.go:38", after := #[], guard := none }) rfl (fun K hK => ?_) (AllReadyH.cons (o := { dst := some 45, op := Op.call { callee := Callee.value (Operand.func 25), args := #[Operand.tmp 44], argTypes := #[5] }, type := 9, pos := "law.go:38", after := #[{ on := 5, ground := Ground.data }], guard := none }) rfl (fun K hK => ?_) AllReadyH.nil)
          · skip
            go_simp
            refine hK.out _ _ (by assumption) (fun hHeld => ?_)
            clear hK K
            try simp only [Act.put, List.setIfInBounds_toArray, List.set_cons_zero, List.set_cons_succ]
            refine wpAnyH_ready (rs := [6]) (by kernel_rfl) (by simp) ?_
            refine AllReadyH.cons (o := { dst := some 45, op := Op.call { callee := Callee.value (Operand.func 25), args := #[Operand.tmp 44], argTypes := #[5] }, type := 9, pos := "law.go:38", after := #[{ on := 5, ground := Ground.data }], guard := none }) rfl (fun K hK => ?_) AllReadyH.nil
            go_simp
            refine (user_any p4 hp48 _).mono ?_
            rintro e wu ⟨rfl, hb⟩
            have hPu := HPK.out _ _ (by assumption) hb
            clear c0 n0 n1 n2 n3 n4 b0 b1 b2 b3 b4
            obtain ⟨_, hnu, _, hbxu, _, c0, _⟩ := HPO.out _ hPu
            obtain ⟨b0, b1, b2, b3, b4⟩ := cells5v hbxu
            obtain ⟨n0, n1, n2, n3, n4⟩ := cells5v hnu
            clear hnu hbxu
            clear hb
            try dsimp only
            refine hK.out _ _ ⟨c0, n0, n1, n2, n3, n4⟩ (fun hHeld => ?_)
            clear hK K
            try simp only [Act.put, List.setIfInBounds_toArray, List.set_cons_zero, List.set_cons_succ]
            refine wpAnyH_ready (rs := [8]) (by kernel_rfl) (by simp) ?_
            refine AllReadyH.cons (o := { dst := some 47, op := Op.call { callee := Callee.value (Operand.func 18), args := #[Operand.tmp 39, Operand.tmp 45, Operand.tmp 46], argTypes := #[27, 9, 27] }, type := 27, pos := "law.go:38", after := #[{ on := 0, ground := Ground.data }, { on := 6, ground := Ground.data }, { on := 7, ground := Ground.data }, { on := 6, ground := Ground.chain }], guard := none }) rfl (fun K hK => ?_) AllReadyH.nil
            go_simp
            refine (put_any (HPO.out _ (by assumption)).2.2.2.2.1 hfit.out.1 (HPO.out _ (by assumption)).2.2.1 (userB p4) (by rw [userB_size]; omega)).mono ?_
            rintro e w4 ⟨v4, rfl, hv4, hb4⟩
            obtain ⟨z, hz⟩ : ∃ z, putV (goLv l k).u (userB p4) N = z := ⟨_, rfl⟩
            rw [hz] at hv4
            obtain ⟨E3, t3, E4, t4, rfl, _⟩ := hv4.open_
            have HZ := Lib.hid hz
            have hPu := HPK.out _ _ (by assumption) hb4
            clear c0 n0 n1 n2 n3 n4 b0 b1 b2 b3 b4
            obtain ⟨_, hnu, _, hbxu, _, c0, _⟩ := HPO.out _ hPu
            obtain ⟨b0, b1, b2, b3, b4⟩ := cells5v hbxu
            obtain ⟨n0, n1, n2, n3, n4⟩ := cells5v hnu
            clear hnu hbxu
            have vs := softv (HPO.out _ hPu).2.2.2.1
            have HS4 := Lib.hid (HPO.out _ hPu).1
            have HV4 := Lib.hid (hv4.mono (ok' := fun k => w.heap.size + 5 ≤ k) (fun k hk => by
              rcases hk with h | h
              · exact h
              · exact Nat.le_trans ((HPO.out _ (by assumption)).1.size) h))
            clear hv4 hb4 hz
            try dsimp only
            refine hK.out _ _ ⟨c0, n0, n1, n2, n3, n4⟩ (fun hHeld => ?_)
            clear hK K
            try simp only [Act.put, List.setIfInBounds_toArray, List.set_cons_zero, List.set_cons_succ]
            refine wpAnyH_ready (rs := [9]) (by kernel_rfl) (by simp) ?_
            refine AllReadyH.cons (o := { dst := none, op := Op.store 27 (Operand.tmp 4) (Operand.tmp 47), type := 0, pos := "law.go:38", after := #[{ on := 8, ground := Ground.data }, { on := 8, ground := Ground.chain }, { on := 0, ground := Ground.phase }, { on := 1, ground := Ground.phase }, { on := 2, ground := Ground.phase }, { on := 3, ground := Ground.phase }, { on := 4, ground := Ground.phase }, { on := 5, ground := Ground.phase }, { on := 6, ground := Ground.phase }, { on := 7, ground := Ground.phase }, { on := 8, ground := Ground.phase }], guard := none }) rfl (fun K hK => ?_) AllReadyH.nil
            go_simp
            refine hK.out _ _ ⟨(far5 hgne).trans c0, (far5 hne2).trans n0, (far5 hne2).trans n1, (far5 hne2).trans n2, (far5 hne2).trans n3, (far5 hne2).trans n4⟩ (fun hHeld => ?_)
            clear hK K
            try simp only [Act.put, List.setIfInBounds_toArray, List.set_cons_zero, List.set_cons_succ]
            refine wpAnyH_done (by kernel_rfl) ?_ _
            have HR := Lib.hid (HS4.out.setU HV4.out)
            have hGE : goLv l (k + 1) = { goLv l k with u := z } := by
              rw [HG.out]
              unfold stepLv
              rw [if_neg hp0, if_neg hp1, HP4.out, HR_.out, HNN.out, HZ.out]
            have HGE := Lib.hid hGE
            clear hGE
            clear c0 n0 n1 n2 n3 n4 b0 b1 b2 b3 b4 vs
            go_wp2_with fail
            refine ⟨⟨k + 1, by omega, by go_num, ?_⟩, ?_⟩
            · rw [HGE.out]
              exact HR.out
            · simp [intOf]
              omega
          · skip
            go_simp
            refine (user_any p4 hp48 _).mono ?_
            rintro e wu ⟨rfl, hb⟩
            have hPu := HPK.out _ _ (by assumption) hb
            clear c0 n0 n1 n2 n3 n4 b0 b1 b2 b3 b4
            obtain ⟨_, hnu, _, hbxu, _, c0, _⟩ := HPO.out _ hPu
            obtain ⟨b0, b1, b2, b3, b4⟩ := cells5v hbxu
            obtain ⟨n0, n1, n2, n3, n4⟩ := cells5v hnu
            clear hnu hbxu
            clear hb
            try dsimp only
            refine hK.out _ _ ⟨c0, n0, n1, n2, n3, n4⟩ (fun hHeld => ?_)
            clear hK K
            try simp only [Act.put, List.setIfInBounds_toArray, List.set_cons_zero, List.set_cons_succ]
            refine wpAnyH_ready (rs := [0]) (by kernel_rfl) (by simp) ?_
            refine AllReadyH.cons (o := { dst := some 39, op := Op.load 27 (Operand.tmp 4), type := 27, pos := "law.go:38", after := #[], guard := none }) rfl (fun K hK => ?_) AllReadyH.nil
            go_simp
            refine hK.out _ _ (by assumption) (fun hHeld => ?_)
            clear hK K
            try simp only [Act.put, List.setIfInBounds_toArray, List.set_cons_zero, List.set_cons_succ]
            refine wpAnyH_ready (rs := [8]) (by kernel_rfl) (by simp) ?_
            refine AllReadyH.cons (o := { dst := some 47, op := Op.call { callee := Callee.value (Operand.func 18), args := #[Operand.tmp 39, Operand.tmp 45, Operand.tmp 46], argTypes := #[27, 9, 27] }, type := 27, pos := "law.go:38", after := #[{ on := 0, ground := Ground.data }, { on := 6, ground := Ground.data }, { on := 7, ground := Ground.data }, { on := 6, ground := Ground.chain }], guard := none }) rfl (fun K hK => ?_) AllReadyH.nil
            go_simp
            refine (put_any (HPO.out _ (by assumption)).2.2.2.2.1 hfit.out.1 (HPO.out _ (by assumption)).2.2.1 (userB p4) (by rw [userB_size]; omega)).mono ?_
            rintro e w4 ⟨v4, rfl, hv4, hb4⟩
            obtain ⟨z, hz⟩ : ∃ z, putV (goLv l k).u (userB p4) N = z := ⟨_, rfl⟩
            rw [hz] at hv4
            obtain ⟨E3, t3, E4, t4, rfl, _⟩ := hv4.open_
            have HZ := Lib.hid hz
            have hPu := HPK.out _ _ (by assumption) hb4
            clear c0 n0 n1 n2 n3 n4 b0 b1 b2 b3 b4
            obtain ⟨_, hnu, _, hbxu, _, c0, _⟩ := HPO.out _ hPu
            obtain ⟨b0, b1, b2, b3, b4⟩ := cells5v hbxu
            obtain ⟨n0, n1, n2, n3, n4⟩ := cells5v hnu
            clear hnu hbxu
            have vs := softv (HPO.out _ hPu).2.2.2.1
            have HS4 := Lib.hid (HPO.out _ hPu).1
            have HV4 := Lib.hid (hv4.mono (ok' := fun k => w.heap.size + 5 ≤ k) (fun k hk => by
              rcases hk with h | h
              · exact h
              · exact Nat.le_trans ((HPO.out _ (by assumption)).1.size) h))
            clear hv4 hb4 hz
            try dsimp only
            refine hK.out _ _ ⟨c0, n0, n1, n2, n3, n4⟩ (fun hHeld => ?_)
            clear hK K
            try simp only [Act.put, List.setIfInBounds_toArray, List.set_cons_zero, List.set_cons_succ]
            refine wpAnyH_ready (rs := [9]) (by kernel_rfl) (by simp) ?_
            refine AllReadyH.cons (o := { dst := none, op := Op.store 27 (Operand.tmp 4) (Operand.tmp 47), type := 0, pos := "law.go:38", after := #[{ on := 8, ground := Ground.data }, { on := 8, ground := Ground.chain }, { on := 0, ground := Ground.phase }, { on := 1, ground := Ground.phase }, { on := 2, ground := Ground.phase }, { on := 3, ground := Ground.phase }, { on := 4, ground := Ground.phase }, { on := 5, ground := Ground.phase }, { on := 6, ground := Ground.phase }, { on := 7, ground := Ground.phase }, { on := 8, ground := Ground.phase }], guard := none }) rfl (fun K hK => ?_) AllReadyH.nil
            go_simp
            refine hK.out _ _ ⟨(far5 hgne).trans c0, (far5 hne2).trans n0, (far5 hne2).trans n1, (far5 hne2).trans n2, (far5 hne2).trans n3, (far5 hne2).trans n4⟩ (fun hHeld => ?_)
            clear hK K
            try simp only [Act.put, List.setIfInBounds_toArray, List.set_cons_zero, List.set_cons_succ]
            refine wpAnyH_done (by kernel_rfl) ?_ _
            have HR := Lib.hid (HS4.out.setU HV4.out)
            have hGE : goLv l (k + 1) = { goLv l k with u := z } := by
              rw [HG.out]
              unfold stepLv
              rw [if_neg hp0, if_neg hp1, HP4.out, HR_.out, HNN.out, HZ.out]
            have HGE := Lib.hid hGE
            clear hGE
            clear c0 n0 n1 n2 n3 n4 b0 b1 b2 b3 b4 vs
            go_wp2_with fail
            refine ⟨⟨k + 1, by omega, by go_num, ?_⟩, ?_⟩
            · rw [HGE.out]
              exact HR.out
            · simp [intOf]
              omega
    · obtain rfl : k = roundsLv n := by omega
      obtain ⟨k, hke⟩ : ∃ k, roundsLv n = k := ⟨_, rfl⟩
      rw [hke] at HS ⊢
      have HE := Lib.hid (show levelsV l = (if 0 < n % 5 then putV (if 0 < n % 3 then putV (goLv l k).v bUsers (goLv l k).u else (goLv l k).v) bEvents (goLv l k).e else (if 0 < n % 3 then putV (goLv l k).v bUsers (goLv l k).u else (goLv l k).v)) by
        unfold levelsV
        rw [HN.out, hke])
      have hk15 : 2 * k + 1 < n → 2 * k = 30 := by unfold roundsLv at hke; omega
      have hk30 : k ≤ 15 := by omega
      clear hke HK hr15 hr2 hlt H0 HC
      have hexit : (decide (2 * (k : Int) + 1 < (n : Int)) = true ∧ decide (2 * (k : Int) < 30) = false) ∨ decide (2 * (k : Int) + 1 < (n : Int)) = false := by
        by_cases h : 2 * k + 1 < n
        · exact .inl ⟨decide_eq_true (by omega), decide_eq_false (by have := hk15 h; omega)⟩
        · exact .inr (decide_eq_false (by omega))
      clear hk15
      have hfit := Lib.hid (goLv_fit l k (by omega))
      by_cases h3 : 0 < n % 3
      · by_cases h5 : 0 < n % 5
        · skip
          have hd3 : decide ((0 : Int) < (n : Int) % 3) = true := decide_eq_true (by omega)
          have hi3 : (0 : Int) < (n : Int) % 3 := by omega
          have hd5 : decide ((0 : Int) < (n : Int) % 5) = true := decide_eq_true (by omega)
          have hi5 : (0 : Int) < (n : Int) % 5 := by omega
          rw [if_pos h5, if_pos h3] at HE
          rcases hexit with ⟨hx1, hx2⟩ | hx1
          all_goals
            obtain ⟨X3, x3, X4, x4, hbx, hbv⟩ := HS.out.v
            obtain ⟨d0, d1, d2, d3, d4⟩ := cells5v hbx
            have ds := softv hbx
            have HBV := Lib.hid hbv
            obtain ⟨Y3, y3, Y4, y4, hby, hbu⟩ := HS.out.u
            obtain ⟨e0, e1, e2, e3, e4⟩ := cells5v hby
            have HBU := Lib.hid hbu
            clear hby hbu
            obtain ⟨Z3, z3, Z4, z4, hbz, hbe⟩ := HS.out.e
            obtain ⟨g0, g1, g2, g3, g4⟩ := cells5v hbz
            have HBE := Lib.hid hbe
            clear hbz hbe
            obtain ⟨r0, r1, r2, r3, r4⟩ := cells5v HS.out.res
            have rs := softv HS.out.res
            clear hbx hbv
            go_wp2_with fail
            refine (put_any (HBV.out) hfit.out.1.1 (HBU.out) bUsers (by decide)).mono ?_
            rintro e w6 ⟨v6, rfl, hv4, hb4⟩
            obtain ⟨zu, hz⟩ : ∃ z, putV (goLv l k).v bUsers (goLv l k).u = z := ⟨_, rfl⟩
            rw [hz] at hv4 HE
            obtain ⟨E3, t3, E4, t4, rfl, _⟩ := hv4.open_
            have hs4 := LvSt.keep (HS.out) hb4
            have HV6 := Lib.hid (hv4.mono (ok' := fun k => w.heap.size + 5 ≤ k) (fun k hk => by
              rcases hk with h | h
              · exact h
              · exact Nat.le_trans (HS.out).size h))
            have HS6 := Lib.hid hs4
            have HF6 := Lib.hid (show FitK 100 zu from hz ▸ (putV_fit (hfit.out.1) (by omega) (by decide) (hfit.out.2.1.1)).mono (by omega))
            clear d0 d1 d2 d3 d4 ds r0 r1 r2 r3 r4 rs e0 e1 e2 e3 e4 g0 g1 g2 g3 g4
            obtain ⟨_, _, _, _, hbx, _⟩ := hs4.v
            obtain ⟨d0, d1, d2, d3, d4⟩ := cells5v hbx
            have ds := softv hbx
            obtain ⟨r0, r1, r2, r3, r4⟩ := cells5v hs4.res
            have rs := softv hs4.res
            obtain ⟨Z3, z3, Z4, z4, hbz, hbe⟩ := hs4.e
            obtain ⟨g0, g1, g2, g3, g4⟩ := cells5v hbz
            have HBE := Lib.hid hbe
            clear hbz hbe
            clear hv4 hb4 hs4 hbx hz
            go_wp2_with fail
            refine (put_any ((off5 w6 (w.heap.size + 1) (.int .i64 zu.f0) (.int .i64 zu.f1) (.string zu.f2) (.slice E3 zu.f3.length t3) (.slice E4 zu.f4.length t4)).vf HV6.out (fun k hk _ hm => by simp at hm; omega)) HF6.out.1 ((off5 w6 (w.heap.size + 1) (.int .i64 zu.f0) (.int .i64 zu.f1) (.string zu.f2) (.slice E3 zu.f3.length t3) (.slice E4 zu.f4.length t4)).vf HBE.out (fun k hk _ hm => by simp at hm; omega)) bEvents (by decide)).mono ?_
            rintro e w7 ⟨v7, rfl, hv4, hb4⟩
            obtain ⟨ze, hz⟩ : ∃ z, putV zu bEvents (goLv l k).e = z := ⟨_, rfl⟩
            rw [hz] at hv4 HE
            obtain ⟨U3, s3, U4, s4, rfl, _⟩ := hv4.open_
            have hs4 := LvSt.keep (HS6.out.setV HV6.out) hb4
            have HV7 := Lib.hid (hv4.mono (ok' := fun k => w.heap.size + 5 ≤ k) (fun k hk => by
              rcases hk with h | h
              · exact h
              · exact Nat.le_trans (HS6.out.setV HV6.out).size h))
            have HS7 := Lib.hid hs4
            clear d0 d1 d2 d3 d4 ds r0 r1 r2 r3 r4 rs g0 g1 g2 g3 g4
            obtain ⟨_, _, _, _, hbx, _⟩ := hs4.v
            obtain ⟨d0, d1, d2, d3, d4⟩ := cells5v hbx
            have ds := softv hbx
            obtain ⟨r0, r1, r2, r3, r4⟩ := cells5v hs4.res
            have rs := softv hs4.res
            clear hv4 hb4 hs4 hbx hz
            go_wp2_with fail
            have hO := off5 w7 (w.heap.size + 1) (.int .i64 ze.f0) (.int .i64 ze.f1) (.string ze.f2) (.slice U3 ze.f3.length s3) (.slice U4 ze.f4.length s4)
            have hV := hO.vf HV7.out (fun k hk _ hm => by simp at hm; omega)
            have hb := Off.below HS7.out.below hO (by simp)
            refine bodyPost_ret (v := .agg #[.int .i64 ze.f0, .int .i64 ze.f1, .string ze.f2, .slice U3 ze.f3.length s3, .slice U4 ze.f4.length s4]) (by simp [results, Tryd.results12, go_sem, r0, r1, r2, r3, r4]) rfl ⟨_, rfl, ?_, Off.below hb (off5 _ (w.heap.size) (.int .i64 ze.f0) (.int .i64 ze.f1) (.string ze.f2) (.slice U3 ze.f3.length s3) (.slice U4 ze.f4.length s4)) (by simp)⟩
            rw [HE.out]
            exact ((off5 _ (w.heap.size) (.int .i64 ze.f0) (.int .i64 ze.f1) (.string ze.f2) (.slice U3 ze.f3.length s3) (.slice U4 ze.f4.length s4)).vf hV (fun k hk _ hm => by simp at hm; omega)).mono (fun k hk => .inl trivial)
        · skip
          have hd3 : decide ((0 : Int) < (n : Int) % 3) = true := decide_eq_true (by omega)
          have hi3 : (0 : Int) < (n : Int) % 3 := by omega
          have hd5 : decide ((0 : Int) < (n : Int) % 5) = false := decide_eq_false (by omega)
          have hi5 : ¬ (0 : Int) < (n : Int) % 5 := by omega
          rw [if_neg h5, if_pos h3] at HE
          rcases hexit with ⟨hx1, hx2⟩ | hx1
          all_goals
            obtain ⟨X3, x3, X4, x4, hbx, hbv⟩ := HS.out.v
            obtain ⟨d0, d1, d2, d3, d4⟩ := cells5v hbx
            have ds := softv hbx
            have HBV := Lib.hid hbv
            obtain ⟨Y3, y3, Y4, y4, hby, hbu⟩ := HS.out.u
            obtain ⟨e0, e1, e2, e3, e4⟩ := cells5v hby
            have HBU := Lib.hid hbu
            clear hby hbu
            obtain ⟨r0, r1, r2, r3, r4⟩ := cells5v HS.out.res
            have rs := softv HS.out.res
            clear hbx hbv
            go_wp2_with fail
            refine (put_any (HBV.out) hfit.out.1.1 (HBU.out) bUsers (by decide)).mono ?_
            rintro e w6 ⟨v6, rfl, hv4, hb4⟩
            obtain ⟨zu, hz⟩ : ∃ z, putV (goLv l k).v bUsers (goLv l k).u = z := ⟨_, rfl⟩
            rw [hz] at hv4 HE
            obtain ⟨E3, t3, E4, t4, rfl, _⟩ := hv4.open_
            have hs4 := LvSt.keep (HS.out) hb4
            have HV6 := Lib.hid (hv4.mono (ok' := fun k => w.heap.size + 5 ≤ k) (fun k hk => by
              rcases hk with h | h
              · exact h
              · exact Nat.le_trans (HS.out).size h))
            have HS6 := Lib.hid hs4
            have HF6 := Lib.hid (show FitK 100 zu from hz ▸ (putV_fit (hfit.out.1) (by omega) (by decide) (hfit.out.2.1.1)).mono (by omega))
            clear d0 d1 d2 d3 d4 ds r0 r1 r2 r3 r4 rs e0 e1 e2 e3 e4
            obtain ⟨_, _, _, _, hbx, _⟩ := hs4.v
            obtain ⟨d0, d1, d2, d3, d4⟩ := cells5v hbx
            have ds := softv hbx
            obtain ⟨r0, r1, r2, r3, r4⟩ := cells5v hs4.res
            have rs := softv hs4.res
            clear hv4 hb4 hs4 hbx hz
            go_wp2_with fail
            have hO := off5 w6 (w.heap.size + 1) (.int .i64 zu.f0) (.int .i64 zu.f1) (.string zu.f2) (.slice E3 zu.f3.length t3) (.slice E4 zu.f4.length t4)
            have hV := hO.vf HV6.out (fun k hk _ hm => by simp at hm; omega)
            have hb := Off.below HS6.out.below hO (by simp)
            refine bodyPost_ret (v := .agg #[.int .i64 zu.f0, .int .i64 zu.f1, .string zu.f2, .slice E3 zu.f3.length t3, .slice E4 zu.f4.length t4]) (by simp [results, Tryd.results12, go_sem, r0, r1, r2, r3, r4]) rfl ⟨_, rfl, ?_, Off.below hb (off5 _ (w.heap.size) (.int .i64 zu.f0) (.int .i64 zu.f1) (.string zu.f2) (.slice E3 zu.f3.length t3) (.slice E4 zu.f4.length t4)) (by simp)⟩
            rw [HE.out]
            exact ((off5 _ (w.heap.size) (.int .i64 zu.f0) (.int .i64 zu.f1) (.string zu.f2) (.slice E3 zu.f3.length t3) (.slice E4 zu.f4.length t4)).vf hV (fun k hk _ hm => by simp at hm; omega)).mono (fun k hk => .inl trivial)
      · by_cases h5 : 0 < n % 5
        · skip
          have hd3 : decide ((0 : Int) < (n : Int) % 3) = false := decide_eq_false (by omega)
          have hi3 : ¬ (0 : Int) < (n : Int) % 3 := by omega
          have hd5 : decide ((0 : Int) < (n : Int) % 5) = true := decide_eq_true (by omega)
          have hi5 : (0 : Int) < (n : Int) % 5 := by omega
          rw [if_pos h5, if_neg h3] at HE
          rcases hexit with ⟨hx1, hx2⟩ | hx1
          all_goals
            obtain ⟨X3, x3, X4, x4, hbx, hbv⟩ := HS.out.v
            obtain ⟨d0, d1, d2, d3, d4⟩ := cells5v hbx
            have ds := softv hbx
            have HBV := Lib.hid hbv
            obtain ⟨Z3, z3, Z4, z4, hbz, hbe⟩ := HS.out.e
            obtain ⟨g0, g1, g2, g3, g4⟩ := cells5v hbz
            have HBE := Lib.hid hbe
            clear hbz hbe
            obtain ⟨r0, r1, r2, r3, r4⟩ := cells5v HS.out.res
            have rs := softv HS.out.res
            clear hbx hbv
            go_wp2_with fail
            refine (put_any (HBV.out) hfit.out.1.1 (HBE.out) bEvents (by decide)).mono ?_
            rintro e w7 ⟨v7, rfl, hv4, hb4⟩
            obtain ⟨ze, hz⟩ : ∃ z, putV (goLv l k).v bEvents (goLv l k).e = z := ⟨_, rfl⟩
            rw [hz] at hv4 HE
            obtain ⟨U3, s3, U4, s4, rfl, _⟩ := hv4.open_
            have hs4 := LvSt.keep (HS.out) hb4
            have HV7 := Lib.hid (hv4.mono (ok' := fun k => w.heap.size + 5 ≤ k) (fun k hk => by
              rcases hk with h | h
              · exact h
              · exact Nat.le_trans (HS.out).size h))
            have HS7 := Lib.hid hs4
            clear d0 d1 d2 d3 d4 ds r0 r1 r2 r3 r4 rs g0 g1 g2 g3 g4
            obtain ⟨_, _, _, _, hbx, _⟩ := hs4.v
            obtain ⟨d0, d1, d2, d3, d4⟩ := cells5v hbx
            have ds := softv hbx
            obtain ⟨r0, r1, r2, r3, r4⟩ := cells5v hs4.res
            have rs := softv hs4.res
            clear hv4 hb4 hs4 hbx hz
            go_wp2_with fail
            have hO := off5 w7 (w.heap.size + 1) (.int .i64 ze.f0) (.int .i64 ze.f1) (.string ze.f2) (.slice U3 ze.f3.length s3) (.slice U4 ze.f4.length s4)
            have hV := hO.vf HV7.out (fun k hk _ hm => by simp at hm; omega)
            have hb := Off.below HS7.out.below hO (by simp)
            refine bodyPost_ret (v := .agg #[.int .i64 ze.f0, .int .i64 ze.f1, .string ze.f2, .slice U3 ze.f3.length s3, .slice U4 ze.f4.length s4]) (by simp [results, Tryd.results12, go_sem, r0, r1, r2, r3, r4]) rfl ⟨_, rfl, ?_, Off.below hb (off5 _ (w.heap.size) (.int .i64 ze.f0) (.int .i64 ze.f1) (.string ze.f2) (.slice U3 ze.f3.length s3) (.slice U4 ze.f4.length s4)) (by simp)⟩
            rw [HE.out]
            exact ((off5 _ (w.heap.size) (.int .i64 ze.f0) (.int .i64 ze.f1) (.string ze.f2) (.slice U3 ze.f3.length s3) (.slice U4 ze.f4.length s4)).vf hV (fun k hk _ hm => by simp at hm; omega)).mono (fun k hk => .inl trivial)
        · skip
          have hd3 : decide ((0 : Int) < (n : Int) % 3) = false := decide_eq_false (by omega)
          have hi3 : ¬ (0 : Int) < (n : Int) % 3 := by omega
          have hd5 : decide ((0 : Int) < (n : Int) % 5) = false := decide_eq_false (by omega)
          have hi5 : ¬ (0 : Int) < (n : Int) % 5 := by omega
          rw [if_neg h5, if_neg h3] at HE
          rcases hexit with ⟨hx1, hx2⟩ | hx1
          all_goals
            obtain ⟨X3, x3, X4, x4, hbx, hbv⟩ := HS.out.v
            obtain ⟨d0, d1, d2, d3, d4⟩ := cells5v hbx
            have ds := softv hbx
            have HBV := Lib.hid hbv
            obtain ⟨r0, r1, r2, r3, r4⟩ := cells5v HS.out.res
            have rs := softv HS.out.res
            clear hbx hbv
            go_wp2_with fail
            have hV := HBV.out
            have hb := HS.out.below
            refine bodyPost_ret (v := .agg #[.int .i64 (goLv l k).v.f0, .int .i64 (goLv l k).v.f1, .string (goLv l k).v.f2, .slice X3 (goLv l k).v.f3.length x3, .slice X4 (goLv l k).v.f4.length x4]) (by simp [results, Tryd.results12, go_sem, r0, r1, r2, r3, r4]) rfl ⟨_, rfl, ?_, Off.below hb (off5 _ (w.heap.size) (.int .i64 (goLv l k).v.f0) (.int .i64 (goLv l k).v.f1) (.string (goLv l k).v.f2) (.slice X3 (goLv l k).v.f3.length x3) (.slice X4 (goLv l k).v.f4.length x4)) (by simp)⟩
            rw [HE.out]
            exact ((off5 _ (w.heap.size) (.int .i64 (goLv l k).v.f0) (.int .i64 (goLv l k).v.f1) (.string (goLv l k).v.f2) (.slice X3 (goLv l k).v.f3.length x3) (.slice X4 (goLv l k).v.f4.length x4)).vf hV (fun k hk _ hm => by simp at hm; omega)).mono (fun k hk => .inl trivial)
end Go.Proofs.YtkdicgendcdooaaDoor

/-
  What an object tells by a key after a put: plain laws.
-/
namespace Go.Proofs.YtkdicgendcdooaaDoor
set_option linter.unusedSimpArgs false
set_option linter.unusedVariables false
def lk : List ByteArray → List V → ByteArray → Option V
  | k :: ks, y :: ys, key => if k = key then some y else lk ks ys key
  | _, _, _ => none
theorem lk_cons (k : ByteArray) (ks : List ByteArray) (y : V) (ys : List V) (key : ByteArray) : lk (k :: ks) (y :: ys) key = if k = key then some y else lk ks ys key := rfl
structure WF (x : V) : Prop where
  obj : x.f0 = 5
  len : x.f3.length = x.f4.length
theorem lk_pos : ∀ (ks : List ByteArray) (ys : List V) (key : ByteArray), ks.length = ys.length → lk ks ys key = if posK ks key < ks.length then ys[posK ks key]? else none
  | [], [], _, _ => rfl
  | k :: ks, y :: ys, key, h => by
    unfold lk posK
    by_cases hk : k = key
    · rw [if_pos hk, if_pos hk, if_pos (by simp)]; rfl
    · rw [if_neg hk, if_neg hk, lk_pos ks ys key (by simpa using h)]
      simp
  | [], _ :: _, _, h => by simp at h
  | _ :: _, [], _, h => by simp at h
theorem getV_lk {x : V} (h : WF x) (key : ByteArray) : getV x key = lk x.f3 x.f4 key := by
  rw [lk_pos _ _ _ h.len]
  unfold getV
  simp [h.obj]
theorem lk_app : ∀ (a : List ByteArray) (a' : List V) (b : List ByteArray) (b' : List V) (key : ByteArray), a.length = a'.length → lk (a ++ b) (a' ++ b') key = (lk a a' key).or (lk b b' key)
  | [], [], _, _, _, _ => by simp [lk]
  | k :: a, y :: a', b, b', key, h => by
    rw [List.cons_append, List.cons_append, lk_cons, lk_cons]
    by_cases hk : k = key
    · simp [hk]
    · simp only [if_neg hk]
      exact lk_app a a' b b' key (by simpa using h)
  | [], _ :: _, _, _, _, h => by simp at h
  | _ :: _, [], _, _, _, h => by simp at h
theorem lk_not : ∀ (a : List ByteArray) (a' : List V) (key : ByteArray), key ∉ a → lk a a' key = none
  | [], [], _, _ => rfl
  | [], _ :: _, _, _ => rfl
  | _ :: _, [], _, _ => rfl
  | k :: a, y :: a', key, h => by
    unfold lk
    rw [if_neg (fun e => h (by rw [e]; exact List.mem_cons_self)), lk_not a a' key (fun hm => h (List.mem_cons_of_mem _ hm))]
theorem posK_take : ∀ (l : List ByteArray) (key : ByteArray), key ∉ l.take (posK l key)
  | [], _ => by simp
  | k :: t, key => by
    unfold posK
    by_cases hk : k = key
    · simp [hk]
    · rw [if_neg hk, List.take_succ_cons, List.mem_cons]
      rintro (h | h)
      · exact hk h.symm
      · exact posK_take t key h
theorem posK_get : ∀ (l : List ByteArray) (key : ByteArray) (h : posK l key < l.length), l[posK l key] = key
  | [], _, h => absurd h (Nat.not_lt_zero _)
  | k :: t, key, h => by
    by_cases hk : k = key
    · have e : posK (k :: t) key = 0 := by unfold posK; rw [if_pos hk]
      simp only [e]
      exact hk
    · have e : posK (k :: t) key = posK t key + 1 := by conv => lhs; unfold posK; rw [if_neg hk]
      simp only [e, List.getElem_cons_succ]
      exact posK_get t key (by rw [e] at h; simpa using h)
theorem posK_mem : ∀ (l : List ByteArray) (key : ByteArray), key ∈ l → posK l key < l.length
  | k :: t, key, h => by
    unfold posK
    by_cases hk : k = key
    · rw [if_pos hk]; simp
    · rw [if_neg hk, List.length_cons]
      rcases List.mem_cons.1 h with e | h
      · exact absurd e.symm hk
      · have := posK_mem t key h; omega
theorem withV_f {x : V} (h : WF x) (a o : Nat) (ks : List ByteArray) (ys : List V) : withV x a o ks ys = ⟨5, x.f1, x.f2, x.f3.take a ++ ks ++ x.f3.drop (a + o), x.f4.take a ++ ys ++ x.f4.drop (a + o)⟩ := by
  have hm : min x.f3.length x.f4.length = x.f3.length := by rw [h.len]; exact Nat.min_self _
  unfold withV
  rw [hm, List.take_length, h.len, List.take_length]
theorem put_form {x : V} (h : WF x) (key : ByteArray) (y : V) : ∃ i o, i + o ≤ x.f3.length ∧ putV x key y = ⟨5, x.f1, x.f2, x.f3.take i ++ [key] ++ x.f3.drop (i + o), x.f4.take i ++ [y] ++ x.f4.drop (i + o)⟩ ∧ key ∉ x.f3.take i ∧ (∀ k, k ≠ key → lk x.f3 x.f4 k = (lk (x.f3.take i) (x.f4.take i) k).or (lk (x.f3.drop (i + o)) (x.f4.drop (i + o)) k)) := by
  have hl := h.len
  unfold putV
  rw [if_pos h.obj]
  unfold placeV
  by_cases hp : posK x.f3 key < x.f3.length
  · have hc : x.f0 = 5 ∧ posK x.f3 key < x.f3.length ∧ posK x.f3 key < x.f4.length := ⟨h.obj, hp, by omega⟩
    rw [if_pos hc, if_pos (by omega), Int.toNat_natCast, withV_f h]
    refine ⟨posK x.f3 key, 1, by omega, rfl, posK_take _ _, fun k hk => ?_⟩
    have e3 : x.f3 = x.f3.take (posK x.f3 key) ++ (key :: x.f3.drop (posK x.f3 key + 1)) := by
      conv => lhs; rw [← List.take_append_drop (posK x.f3 key) x.f3, List.drop_eq_getElem_cons hp, posK_get]
    have hp4 : posK x.f3 key < x.f4.length := by omega
    have e4 : x.f4 = x.f4.take (posK x.f3 key) ++ (x.f4[posK x.f3 key] :: x.f4.drop (posK x.f3 key + 1)) := by
      conv => lhs; rw [← List.take_append_drop (posK x.f3 key) x.f4, List.drop_eq_getElem_cons hp4]
    have e : lk x.f3 x.f4 k = lk (x.f3.take (posK x.f3 key) ++ (key :: x.f3.drop (posK x.f3 key + 1))) (x.f4.take (posK x.f3 key) ++ (x.f4[posK x.f3 key] :: x.f4.drop (posK x.f3 key + 1))) k := by
      rw [← e3, ← e4]
    rw [e, lk_app _ _ _ _ _ (by rw [List.length_take, List.length_take]; omega)]
    congr 1
    rw [lk_cons, if_neg (fun e => hk e.symm)]
  · have hn : key ∉ x.f3 := fun hm => hp (posK_mem _ _ hm)
    rw [show (if x.f0 = 5 ∧ posK x.f3 key < x.f3.length ∧ posK x.f3 key < x.f4.length then ((posK x.f3 key : Nat) : Int) else -1) = -1 from if_neg (fun hc => hp hc.2.1), if_neg (by decide), withV_f h]
    have hi : insP (x.f3.take (min x.f3.length x.f4.length)) key ≤ x.f3.length := by
      have := insP_le (x.f3.take (min x.f3.length x.f4.length)) key
      rw [List.length_take] at this
      omega
    refine ⟨_, 0, by omega, rfl, fun hm => hn (List.mem_of_mem_take hm), fun k hk => ?_⟩
    rw [Nat.add_zero, ← lk_app _ _ _ _ _ (by rw [List.length_take, List.length_take]; omega), List.take_append_drop, List.take_append_drop]
theorem put_wf {x : V} (h : WF x) (key : ByteArray) (y : V) : WF (putV x key y) := by
  obtain ⟨i, o, hi, e, _⟩ := put_form h key y
  have hl := h.len
  rw [e]
  exact ⟨rfl, by simp; omega⟩
theorem put_same {x : V} (h : WF x) (key : ByteArray) (y : V) : getV (putV x key y) key = some y := by
  have hw := put_wf h key y
  rw [getV_lk hw]
  obtain ⟨i, o, hi, e, hn, _⟩ := put_form h key y
  have hl := h.len
  rw [e]
  show lk (x.f3.take i ++ [key] ++ x.f3.drop (i + o)) (x.f4.take i ++ [y] ++ x.f4.drop (i + o)) key = some y
  rw [List.append_assoc, List.append_assoc, lk_app _ _ _ _ _ (by rw [List.length_take, List.length_take]; omega), lk_not _ _ _ hn, List.singleton_append, List.singleton_append]
  unfold lk
  simp
theorem put_other {x : V} (h : WF x) {key k : ByteArray} (hk : k ≠ key) (y : V) : getV (putV x key y) k = getV x k := by
  have hw := put_wf h key y
  rw [getV_lk hw, getV_lk h]
  obtain ⟨i, o, hi, e, hn, hr⟩ := put_form h key y
  have hl := h.len
  rw [hr k hk, e]
  show lk (x.f3.take i ++ [key] ++ x.f3.drop (i + o)) (x.f4.take i ++ [y] ++ x.f4.drop (i + o)) k = _
  rw [List.append_assoc, List.append_assoc, lk_app _ _ _ _ _ (by rw [List.length_take, List.length_take]; omega), List.singleton_append, List.singleton_append]
  congr 1
  rw [lk_cons, if_neg (fun e => hk e.symm)]
theorem put_mem3 {x : V} (h : WF x) {key k : ByteArray} {y : V} (hm : k ∈ (putV x key y).f3) : k = key ∨ k ∈ x.f3 := by
  obtain ⟨i, o, hi, e, _⟩ := put_form h key y
  rw [e] at hm
  have hm : k ∈ x.f3.take i ++ [key] ++ x.f3.drop (i + o) := hm
  rw [List.mem_append, List.mem_append, List.mem_singleton] at hm
  rcases hm with (h | h) | h
  · exact .inr (List.mem_of_mem_take h)
  · exact .inl h
  · exact .inr (List.mem_of_mem_drop h)
theorem put_mem4 {x z : V} (h : WF x) {key : ByteArray} {y : V} (hm : z ∈ (putV x key y).f4) : z = y ∨ z ∈ x.f4 := by
  obtain ⟨i, o, hi, e, _⟩ := put_form h key y
  rw [e] at hm
  have hm : z ∈ x.f4.take i ++ [y] ++ x.f4.drop (i + o) := hm
  rw [List.mem_append, List.mem_append, List.mem_singleton] at hm
  rcases hm with (h | h) | h
  · exact .inr (List.mem_of_mem_take h)
  · exact .inl h
  · exact .inr (List.mem_of_mem_drop h)
/-- An object of numbers, by keys that may be. -/
structure Tab (P : ByteArray → Prop) (x : V) : Prop where
  wf : WF x
  num : ∀ y ∈ x.f4, y.f0 = 2
  key : ∀ k ∈ x.f3, P k
theorem Tab.obj (P : ByteArray → Prop) : Tab P zObj := ⟨⟨rfl, rfl⟩, fun _ h => (by cases h), fun _ h => (by cases h)⟩
theorem Tab.put {P : ByteArray → Prop} {x : V} (h : Tab P x) {key : ByteArray} (hk : P key) (n : Int) : Tab P (putV x key (numV n)) :=
  ⟨put_wf h.wf _ _, fun y hy => (put_mem4 h.wf hy).elim (fun e => e ▸ rfl) (h.num y), fun k hm => (put_mem3 h.wf hm).elim (fun e => e ▸ hk) (h.key k)⟩
theorem Tab.at_ {P : ByteArray → Prop} {x : V} (h : Tab P x) {key : ByteArray} {y : V} (e : getV x key = some y) : y.f0 = 2 := by
  obtain ⟨i, hi, _, e⟩ := getV_some e
  exact h.num y (e ▸ List.getElem_mem hi)
def UserK (k : ByteArray) : Prop := ∃ i, k = userB i
def PlainK (k : ByteArray) : Prop := ∃ i, k = plainB i
def KindK (k : ByteArray) : Prop := ∃ i, k = kindB i
structure TabLv (s : Lv) : Prop where
  v : Tab PlainK s.v
  u : Tab UserK s.u
  e : Tab KindK s.e
theorem goLv_tab (c : List UInt8) : ∀ k, TabLv (goLv c k)
  | 0 => ⟨Tab.obj _, Tab.obj _, Tab.obj _⟩
  | k + 1 => by
    have h := goLv_tab c k
    unfold goLv stepLv
    split
    · exact ⟨h.v.put ⟨_, rfl⟩ _, h.u, h.e⟩
    · split
      · exact ⟨h.v, h.u, h.e.put ⟨_, rfl⟩ _⟩
      · exact ⟨h.v, h.u.put ⟨_, rfl⟩ _, h.e⟩
/-- What a content of levels is: numbers by the plain keys; its users and its events tables, where there are such. -/
structure Lev (x : V) : Prop where
  wf : WF x
  plain : ∀ k y, k ≠ bUsers → k ≠ bEvents → getV x k = some y → y.f0 = 2
  users : ∀ y, getV x bUsers = some y → Tab UserK y
  events : ∀ y, getV x bEvents = some y → Tab KindK y
theorem plain_ne (i : Nat) : plainB i ≠ bUsers ∧ plainB i ≠ bEvents := by
  unfold plainB
  repeat (first | exact ⟨by decide, by decide⟩ | split)
theorem Tab.no {P : ByteArray → Prop} {x : V} (h : Tab P x) {k : ByteArray} (hk : ¬ P k) : getV x k = none := by
  rw [getV_lk h.wf]
  exact lk_not _ _ _ (fun hm => hk (h.key k hm))
theorem levels_lev (c : List UInt8) : Lev (levelsV c) := by
  have h := goLv_tab c (roundsLv c.length)
  unfold levelsV
  obtain ⟨s, hs⟩ : ∃ s, goLv c (roundsLv c.length) = s := ⟨_, rfl⟩
  rw [hs] at h ⊢
  have n1 : getV s.v bUsers = none := h.v.no (fun ⟨i, e⟩ => (plain_ne i).1 e.symm)
  have n2 : getV s.v bEvents = none := h.v.no (fun ⟨i, e⟩ => (plain_ne i).2 e.symm)
  have h0 : Lev s.v := ⟨h.v.wf, fun k y _ _ e => h.v.at_ e, fun y e => (by rw [n1] at e; cases e), fun y e => (by rw [n2] at e; cases e)⟩
  have h1 : Lev (if 0 < c.length % 3 then putV s.v bUsers s.u else s.v) := by
    split
    · refine ⟨put_wf h0.wf _ _, fun k y h1 h2 e => ?_, fun y e => ?_, fun y e => ?_⟩
      · rw [put_other h0.wf h1] at e; exact h0.plain k y h1 h2 e
      · rw [put_same h0.wf] at e; injection e with e; exact e ▸ h.u
      · rw [put_other h0.wf (by decide)] at e; exact h0.events y e
    · exact h0
  show Lev (if 0 < c.length % 5 then putV (if 0 < c.length % 3 then putV s.v bUsers s.u else s.v) bEvents s.e else (if 0 < c.length % 3 then putV s.v bUsers s.u else s.v))
  obtain ⟨x, hx⟩ : ∃ x, (if 0 < c.length % 3 then putV s.v bUsers s.u else s.v) = x := ⟨_, rfl⟩
  rw [hx] at h1 ⊢
  split
  · refine ⟨put_wf h1.wf _ _, fun k y h2 h3 e => ?_, fun y e => ?_, fun y e => ?_⟩
    · rw [put_other h1.wf h3] at e; exact h1.plain k y h2 h3 e
    · rw [put_other h1.wf (by decide)] at e; exact h1.users y e
    · rw [put_same h1.wf] at e; injection e with e; exact e ▸ h.e
  · exact h1
theorem levels_fit (c : List UInt8) : FitK 20 (levelsV c) := by
  have hr : roundsLv c.length ≤ 15 := Nat.min_le_right _ _
  have h := goLv_fit c (roundsLv c.length) (by omega)
  unfold levelsV
  obtain ⟨s, hs⟩ : ∃ s, goLv c (roundsLv c.length) = s := ⟨_, rfl⟩
  rw [hs] at h ⊢
  obtain ⟨h1, h2, h3⟩ := h
  have k1 : FitK 16 (if 0 < c.length % 3 then putV s.v bUsers s.u else s.v) := by
    split
    · exact (putV_fit h1 (by omega) (by decide) h2.1).mono (by omega)
    · exact h1.mono (by omega)
  show FitK 20 (if 0 < c.length % 5 then putV (if 0 < c.length % 3 then putV s.v bUsers s.u else s.v) bEvents s.e else (if 0 < c.length % 3 then putV s.v bUsers s.u else s.v))
  split
  · exact (putV_fit k1 (by omega) (by decide) h3.1).mono (by omega)
  · exact k1.mono (by omega)
theorem levels_subs (c : List UInt8) : (∀ y, getV (levelsV c) bUsers = some y → FitK 20 y) ∧ (∀ y, getV (levelsV c) bEvents = some y → FitK 20 y) := by
  have hr : roundsLv c.length ≤ 15 := Nat.min_le_right _ _
  have hf := goLv_fit c (roundsLv c.length) (by omega)
  have h := goLv_tab c (roundsLv c.length)
  unfold levelsV
  obtain ⟨s, hs⟩ : ∃ s, goLv c (roundsLv c.length) = s := ⟨_, rfl⟩
  rw [hs] at h hf ⊢
  have n1 : getV s.v bUsers = none := h.v.no (fun ⟨i, e⟩ => (plain_ne i).1 e.symm)
  have n2 : getV s.v bEvents = none := h.v.no (fun ⟨i, e⟩ => (plain_ne i).2 e.symm)
  have w1 : WF (if 0 < c.length % 3 then putV s.v bUsers s.u else s.v) := by
    split
    · exact put_wf h.v.wf _ _
    · exact h.v.wf
  have a1 : ∀ y, getV (if 0 < c.length % 3 then putV s.v bUsers s.u else s.v) bUsers = some y → FitK 20 y := by
    intro y e
    split at e
    · rw [put_same h.v.wf] at e; injection e with e; exact e ▸ hf.2.1.mono (by omega)
    · rw [n1] at e; cases e
  have a2 : getV (if 0 < c.length % 3 then putV s.v bUsers s.u else s.v) bEvents = none := by
    split
    · rw [put_other h.v.wf (by decide)]; exact n2
    · exact n2
  show (∀ y, getV (if 0 < c.length % 5 then putV (if 0 < c.length % 3 then putV s.v bUsers s.u else s.v) bEvents s.e else (if 0 < c.length % 3 then putV s.v bUsers s.u else s.v)) bUsers = some y → FitK 20 y) ∧
    (∀ y, getV (if 0 < c.length % 5 then putV (if 0 < c.length % 3 then putV s.v bUsers s.u else s.v) bEvents s.e else (if 0 < c.length % 3 then putV s.v bUsers s.u else s.v)) bEvents = some y → FitK 20 y)
  obtain ⟨x, hx⟩ : ∃ x, (if 0 < c.length % 3 then putV s.v bUsers s.u else s.v) = x := ⟨_, rfl⟩
  rw [hx] at w1 a1 a2 ⊢
  split
  · refine ⟨fun y e => ?_, fun y e => ?_⟩
    · rw [put_other w1 (by decide)] at e; exact a1 y e
    · rw [put_same w1] at e; injection e with e; exact e ▸ hf.2.2.mono (by omega)
  · exact ⟨a1, fun y e => by rw [a2] at e; cases e⟩
theorem getD_fitk {r : Option V} (h : ∀ y, r = some y → FitK 20 y) : FitK 20 (r.getD zV) := by
  cases r with
  | none => exact ⟨Fit.zero, by decide, by decide⟩
  | some y => exact h y rfl
end Go.Proofs.YtkdicgendcdooaaDoor

/-
  Is there an element of a kind: slices.IndexFunc and ContainsFunc at values and at texts; and power's table.
-/
namespace Go.Proofs.YtkdicgendcdooaaDoor
open Go.RowKit Go.Lib Go.Proofs.YtkdicgendcdooaaDoorW.PrintWords
set_option linter.unusedSimpArgs false
set_option linter.unusedVariables false
def idxL {α : Type} (q : α → Bool) : List α → Nat → Int
  | [], _ => -1
  | x :: t, i => if q x = true then (i : Int) else idxL q t (i + 1)
theorem idxL_any {α : Type} (q : α → Bool) : ∀ (l : List α) (i : Nat), decide (0 ≤ idxL q l i) = l.any q
  | [], _ => rfl
  | x :: t, i => by
    unfold idxL
    rw [List.any_cons]
    cases h : q x with
    | true => rw [if_pos rfl]; simp
    | false => rw [if_neg (by decide), idxL_any q t (i + 1)]; simp
theorem idxL_at {α : Type} (q : α → Bool) : ∀ (l : List α) (i k : Nat) (hk : k < l.length), (∀ j (hj : j < k), q (l[j]'(by omega)) = false) → q l[k] = true → idxL q l i = ((i + k : Nat) : Int)
  | x :: t, i, 0, hk, _, h => by
    unfold idxL
    rw [if_pos (show q x = true from h)]
    simp
  | x :: t, i, k + 1, hk, hl, h => by
    unfold idxL
    have h0 : q x = false := hl 0 (by omega)
    rw [if_neg (by rw [h0]; decide), idxL_at q t (i + 1) k (by simpa using hk) (fun j hj => hl (j + 1) (by omega)) h]
    omega
theorem idxL_none {α : Type} (q : α → Bool) : ∀ (l : List α) (i : Nat), (∀ j (hj : j < l.length), q l[j] = false) → idxL q l i = -1
  | [], _, _ => rfl
  | x :: t, i, h => by
    unfold idxL
    have h0 : q x = false := h 0 (by simp)
    rw [if_neg (by rw [h0]; decide), idxL_none q t (i + 1) (fun j hj => h (j + 1) (by rw [List.length_cons]; omega))]
set_option maxRecDepth 100000 in
set_option maxHeartbeats 1000000 in
theorem idxs_any {w : World} {ok : Nat → Prop} {A : Option Addr} {c : Nat} {l : List ByteArray} (h : Kd.F Kd.string w ok A l.length l) (hb : l.length ≤ 100000) (F : Nat) (cap : Array Value) (q : ByteArray → Bool)
    (eg : ∀ args w, (callFunc F args).run Tryd.prog w = .ok (.enter F args) w) (hF : ∀ k ∈ l, ∀ W, Below w.heap.size w W → Calls Tryd.prog F (#[.string k] ++ cap) W (EndI W (.bool (q k)))) :
    Calls Tryd.prog 83 #[.slice A l.length c, .func (.func F) #[] cap] w (EndI w (.int .i64 (idxL q l 0))) := by
  have HS := Lib.hid (fun hp => strs_at h hp)
  have HF := Lib.hid hF
  obtain ⟨n, hn⟩ : ∃ n, l.length = n := ⟨_, rfl⟩
  have HN := Lib.hid hn
  rw [hn] at hb
  rw [hn]
  clear h hn hF
  go_enter Tryd.func83, Tryd.ntmps83
  go_wp2_with fail
  go_loopw [8] (fun i wr => ∃ k : Nat, k ≤ n ∧ i = .int .i64 k ∧ (∀ j (hj : j < l.length), j < k → q l[j] = false) ∧ Below w.heap.size w wr) (fun i _ => n - (intOf i).toNat)
  case atStart => exact ⟨0, by omega, rfl, fun j _ h => absurd h (Nat.not_lt_zero _), Below.refl _ _⟩
  case round =>
    obtain ⟨k, hk, rfl, ht, hbl⟩ := hrel
    have HT := Lib.hid ht
    have HB := Lib.hid hbl
    clear ht hbl
    by_cases hlt : k < n
    · have hk2 : k < l.length := by rw [HN.out]; exact hlt
      obtain ⟨g, o, rfl, _, hgl, hc⟩ := HS.out (by omega)
      have f1 := (HB.out.cell (p := ⟨g, o + k, none⟩) hgl).trans (hc k hk2)
      obtain ⟨s1, hs1⟩ : ∃ s1, l[k] = s1 := ⟨_, rfl⟩
      have hcall := HF.out l[k] (List.getElem_mem hk2) _ HB.out
      rw [hs1] at f1 hcall
      have Hs1 := Lib.hid hs1
      have hki : (k : Int) < (n : Int) := by omega
      clear hc hs1 hgl
      obtain ⟨b, hbq⟩ : ∃ b, q s1 = b := ⟨_, rfl⟩
      rw [hbq] at hcall
      have HBQ := Lib.hid hbq
      clear hbq
      cases b with
      | true =>
        have HR : Hid (idxL q l 0 = (k : Int)) := Lib.hid (by
          have := idxL_at q l 0 k hk2 (fun j hj => HT.out j (by omega) hj) (by rw [Hs1.out]; exact HBQ.out)
          rw [this, Nat.zero_add])
        go_wp2_with fail
        refine hcall.mono ?_
        rintro e w' ⟨rfl, hb'⟩
        clear hcall
        go_wp2_with fail
        go_ret
        exact ⟨by rw [HR.out]; rfl, HB.out.trans (hb'.mono HB.out.size)⟩
      | false =>
        go_wp2_with fail
        refine hcall.mono ?_
        rintro e w' ⟨rfl, hb'⟩
        clear hcall
        go_wp2_with fail
        go_round
        case rel => exact ⟨k + 1, by omega, by go_num, fun j hj hjk => by
          rcases Nat.lt_succ_iff_lt_or_eq.1 hjk with h | h
          · exact HT.out j hj h
          · subst h
            rw [Hs1.out]
            exact HBQ.out, HB.out.trans (hb'.mono HB.out.size)⟩
        case measure => simp [intOf]; omega
    · obtain rfl : k = n := by omega
      have HR : Hid (idxL q l 0 = -1) := Lib.hid (idxL_none q l 0 fun j hj => HT.out j hj (by rw [HN.out] at hj; exact hj))
      have hki : ¬ ((k : Int) < (k : Int)) := by omega
      go_wp2_with fail
      go_ret
      exact ⟨by rw [HR.out]; rfl, HB.out⟩
set_option maxRecDepth 100000 in
set_option maxHeartbeats 1000000 in
theorem idxv_any {w : World} {ok : Nat → Prop} {A : Option Addr} {c : Nat} {l : List V} (h : Kd.F kV w ok A l.length l) (hb : l.length ≤ 100000) (F : Nat) (cap : Array Value) (q : V → Bool)
    (eg : ∀ args w, (callFunc F args).run Tryd.prog w = .ok (.enter F args) w) (hF : ∀ k ∈ l, ∀ W v, VF W ok k v → Below w.heap.size w W → Calls Tryd.prog F (#[v] ++ cap) W (EndI W (.bool (q k)))) :
    Calls Tryd.prog 82 #[.slice A l.length c, .func (.func F) #[] cap] w (EndI w (.int .i64 (idxL q l 0))) := by
  have HS := Lib.hid (fun hp => vals_at h hp)
  have HF := Lib.hid hF
  obtain ⟨n, hn⟩ : ∃ n, l.length = n := ⟨_, rfl⟩
  have HN := Lib.hid hn
  rw [hn] at hb
  rw [hn]
  clear h hn hF
  go_enter Tryd.func82, Tryd.ntmps82
  go_wp2_with fail
  go_loopw [8] (fun i wr => ∃ k : Nat, k ≤ n ∧ i = .int .i64 k ∧ (∀ j (hj : j < l.length), j < k → q l[j] = false) ∧ Below w.heap.size w wr) (fun i _ => n - (intOf i).toNat)
  case atStart => exact ⟨0, by omega, rfl, fun j _ h => absurd h (Nat.not_lt_zero _), Below.refl _ _⟩
  case round =>
    obtain ⟨k, hk, rfl, ht, hbl⟩ := hrel
    have HT := Lib.hid ht
    have HB := Lib.hid hbl
    clear ht hbl
    by_cases hlt : k < n
    · have hk2 : k < l.length := by rw [HN.out]; exact hlt
      obtain ⟨g, o, rfl, _, hgl, hc⟩ := HS.out (by omega)
      obtain ⟨A3, c3, A4, c4, g0, g1, g2, g3, g4, hv⟩ := hc k hk2
      have f0 := (HB.out.cell (p := ⟨g, o + k * 5, none⟩) hgl).trans g0
      have f1 := (HB.out.cell (p := ⟨g, o + k * 5 + 1, none⟩) hgl).trans g1
      have f2 := (HB.out.cell (p := ⟨g, o + k * 5 + 2, none⟩) hgl).trans g2
      have f3 := (HB.out.cell (p := ⟨g, o + k * 5 + 3, none⟩) hgl).trans g3
      have f4 := (HB.out.cell (p := ⟨g, o + k * 5 + 4, none⟩) hgl).trans g4
      have hcall := HF.out l[k] (List.getElem_mem hk2) _ _ (hv.below HB.out) HB.out
      obtain ⟨s1, hs1⟩ : ∃ s1, l[k] = s1 := ⟨_, rfl⟩
      rw [hs1] at f0 f1 f2 f3 f4 hcall
      clear g0 g1 g2 g3 g4 hv
      have Hs1 := Lib.hid hs1
      have hki : (k : Int) < (n : Int) := by omega
      clear hc hs1 hgl
      obtain ⟨b, hbq⟩ : ∃ b, q s1 = b := ⟨_, rfl⟩
      rw [hbq] at hcall
      have HBQ := Lib.hid hbq
      clear hbq
      cases b with
      | true =>
        have HR : Hid (idxL q l 0 = (k : Int)) := Lib.hid (by
          have := idxL_at q l 0 k hk2 (fun j hj => HT.out j (by omega) hj) (by rw [Hs1.out]; exact HBQ.out)
          rw [this, Nat.zero_add])
        go_wp2_with fail
        refine hcall.mono ?_
        rintro e w' ⟨rfl, hb'⟩
        clear hcall
        go_wp2_with fail
        go_ret
        exact ⟨by rw [HR.out]; rfl, HB.out.trans (hb'.mono HB.out.size)⟩
      | false =>
        go_wp2_with fail
        refine hcall.mono ?_
        rintro e w' ⟨rfl, hb'⟩
        clear hcall
        go_wp2_with fail
        go_round
        case rel => exact ⟨k + 1, by omega, by go_num, fun j hj hjk => by
          rcases Nat.lt_succ_iff_lt_or_eq.1 hjk with h | h
          · exact HT.out j hj h
          · subst h
            rw [Hs1.out]
            exact HBQ.out, HB.out.trans (hb'.mono HB.out.size)⟩
        case measure => simp [intOf]; omega
    · obtain rfl : k = n := by omega
      have HR : Hid (idxL q l 0 = -1) := Lib.hid (idxL_none q l 0 fun j hj => HT.out j hj (by rw [HN.out] at hj; exact hj))
      have hki : ¬ ((k : Int) < (k : Int)) := by omega
      go_wp2_with fail
      go_ret
      exact ⟨by rw [HR.out]; rfl, HB.out⟩
set_option maxRecDepth 100000 in
theorem hass_any {w : World} {ok : Nat → Prop} {A : Option Addr} {c : Nat} {l : List ByteArray} (h : Kd.F Kd.string w ok A l.length l) (hb : l.length ≤ 100000) (F : Nat) (cap : Array Value) (q : ByteArray → Bool)
    (eg : ∀ args w, (callFunc F args).run Tryd.prog w = .ok (.enter F args) w) (hF : ∀ k ∈ l, ∀ W, Below w.heap.size w W → Calls Tryd.prog F (#[.string k] ++ cap) W (EndI W (.bool (q k)))) :
    Calls Tryd.prog 63 #[.slice A l.length c, .func (.func F) #[] cap] w (EndI w (.bool (l.any q))) := by
  have HC := idxs_any (c := c) h hb F cap q eg hF
  rw [← idxL_any q l 0]
  obtain ⟨i, hi⟩ : ∃ i, idxL q l 0 = i := ⟨_, rfl⟩
  rw [hi] at HC ⊢
  obtain ⟨n, hn⟩ : ∃ n, l.length = n := ⟨_, rfl⟩
  rw [hn] at HC ⊢
  clear h hF hi hn hb
  go_enter Tryd.func63, Tryd.ntmps63
  go_wp2_with fail
  refine HC.mono ?_
  rintro e w' ⟨rfl, hb'⟩
  go_wp2_with fail
  go_ret
  exact ⟨rfl, hb'⟩
set_option maxRecDepth 100000 in
theorem hasv_any {w : World} {ok : Nat → Prop} {A : Option Addr} {c : Nat} {l : List V} (h : Kd.F kV w ok A l.length l) (hb : l.length ≤ 100000) (F : Nat) (cap : Array Value) (q : V → Bool)
    (eg : ∀ args w, (callFunc F args).run Tryd.prog w = .ok (.enter F args) w) (hF : ∀ k ∈ l, ∀ W v, VF W ok k v → Below w.heap.size w W → Calls Tryd.prog F (#[v] ++ cap) W (EndI W (.bool (q k)))) :
    Calls Tryd.prog 62 #[.slice A l.length c, .func (.func F) #[] cap] w (EndI w (.bool (l.any q))) := by
  have HC := idxv_any (c := c) h hb F cap q eg hF
  rw [← idxL_any q l 0]
  obtain ⟨i, hi⟩ : ∃ i, idxL q l 0 = i := ⟨_, rfl⟩
  rw [hi] at HC ⊢
  obtain ⟨n, hn⟩ : ∃ n, l.length = n := ⟨_, rfl⟩
  rw [hn] at HC ⊢
  clear h hF hi hn hb
  go_enter Tryd.func62, Tryd.ntmps62
  go_wp2_with fail
  refine HC.mono ?_
  rintro e w' ⟨rfl, hb'⟩
  go_wp2_with fail
  go_ret
  exact ⟨rfl, hb'⟩
end Go.Proofs.YtkdicgendcdooaaDoor

/-
  power's table: is an object there, of numbers alone, by keys that may be; or none.
-/
namespace Go.Proofs.YtkdicgendcdooaaDoor
open Go.RowKit Go.Lib Go.Proofs.YtkdicgendcdooaaDoorW.PrintWords
set_option linter.unusedSimpArgs false
set_option linter.unusedVariables false
theorem calls_let {P : Program} {f : FuncId} {args : Array Value} {w : World} {Q : Ending → World → Prop} (h : ∀ W, W = w → Calls P f args W Q) : Calls P f args w Q := h w rfl
def notInt (y : V) : Bool := decide (y.f0 ≠ 2)
def tableV (x : V) (pf : ByteArray → Bool) (key : ByteArray) : Bool := match getV x key with
  | none => true
  | some y => decide (y.f0 = 5) && !(y.f4.any notInt) && !(y.f3.any fun k => !pf k)
theorem eg61 (args : Array Value) (w : World) : (callFunc 61 args).run Tryd.prog w = .ok (.enter 61 args) w := enters_of Tryd.func61 (by rfl) (by rfl) args w
theorem eg64 (args : Array Value) (w : World) : (callFunc 64 args).run Tryd.prog w = .ok (.enter 64 args) w := enters_of Tryd.func64 (by rfl) (by rfl) args w
set_option maxRecDepth 100000 in
theorem tab1_any {w : World} {ok : Nat → Prop} {x : V} {v : Value} (h : VF w ok x v) :
    Calls Tryd.prog 61 #[v] w (EndI w (.bool (notInt x))) := by
  obtain ⟨A3, c3, A4, c4, rfl, h3, f3, h4, f4⟩ := h.open_
  clear h f3 f4 h3 h4
  by_cases hk : x.f0 = 2
  · have HT := Lib.hid (show notInt x = false by unfold notInt; simp [hk])
    rw [HT.out]
    have hb := int_ne_f hk
    clear hk HT
    go_enter Tryd.func61, Tryd.ntmps61
    go_wp2_with fail
    go_ret
    exact ⟨rfl, (Below.refl _ w).alloc (Nat.le_refl _) _⟩
  · have HT := Lib.hid (show notInt x = true by unfold notInt; simp [hk])
    rw [HT.out]
    have hb := int_ne_t hk
    clear hk HT
    go_enter Tryd.func61, Tryd.ntmps61
    go_wp2_with fail
    go_ret
    exact ⟨rfl, (Below.refl _ w).alloc (Nat.le_refl _) _⟩
set_option maxRecDepth 100000 in
theorem tab2_any {w : World} {p : Nat} {G : Nat} {cap : Array Value} (hp : w.cell? ⟨p, 0, none⟩ = some (.func (.func G) #[] cap)) (eg : ∀ args w, (callFunc G args).run Tryd.prog w = .ok (.enter G args) w)
    (k : ByteArray) (b : Bool) (hG : Calls Tryd.prog G (#[.string k] ++ cap) w (EndI w (.bool b))) :
    Calls Tryd.prog 64 #[.string k, .pointer (some ⟨p, 0, none⟩)] w (EndI w (.bool (!b))) := by
  have HG := Lib.hid hG
  clear hG
  go_enter Tryd.func64, Tryd.ntmps64
  go_wp2_with fail
  refine HG.out.mono ?_
  rintro e w' ⟨rfl, hb'⟩
  go_wp2_with fail
  go_ret
  exact ⟨rfl, hb'⟩
set_option maxRecDepth 100000 in
set_option maxHeartbeats 1000000 in
theorem table_any {w : World} {ok : Nat → Prop} {x : V} {v : Value} (h : VF w ok x v) (hf : Fit x) (key : ByteArray) (G : Nat) (cap : Array Value) (pf : ByteArray → Bool)
    (eg : ∀ args w, (callFunc G args).run Tryd.prog w = .ok (.enter G args) w)
    (hG : ∀ y, getV x key = some y → ∀ k ∈ y.f3, ∀ W, Below w.heap.size w W → Calls Tryd.prog G (#[.string k] ++ cap) W (EndI W (.bool (pf k)))) :
    Calls Tryd.prog 36 #[v, .string key, .func (.func G) #[] cap] w (EndI w (.bool (tableV x pf key))) := by
  obtain ⟨A3, c3, A4, c4, rfl, h3, f3, h4, f4⟩ := h.open_
  have HG := Lib.hid (fun w' (hb : Below w.heap.size w w') => get_any (h.bound.below hb) hf key)
  obtain ⟨t, ht⟩ : ∃ t, tableV x pf key = t := ⟨_, rfl⟩
  rw [ht]
  unfold tableV at ht
  cases hg : getV x key with
  | none =>
    rw [hg] at ht
    obtain rfl : true = t := ht
    have HGN := Lib.hid hg
    clear hg h f3 f4 h3 h4 hG
    go_enter Tryd.func36, Tryd.ntmps36
    go_wp2_with fail
    refine calls_box2 ?_
    intro W1 hx1 hr1 hs1 hb0
    have hgo := HG.out _ hb0
    rw [HGN.out] at hgo
    refine hgo.mono ?_
    clear hgo
    rintro e w1 ⟨v, rfl, hv, hb⟩
    obtain ⟨D3, q3, D4, q4, rfl, _⟩ := hv.open_
    have HB := Lib.hid (hb0.trans (hb.mono (by omega)))
    clear hx1 hr1 hs1 hb0 hb hv
    simp only [Option.getD_none, Option.isSome_none]
    go_wp2_with fail
    go_ret
    exact ⟨rfl, HB.out.alloc (by have := HB.out.size; omega) _⟩
  | some y =>
    rw [hg] at ht
    have ht : (decide (y.f0 = 5) && !(y.f4.any notInt) && !(y.f3.any fun k => !pf k)) = t := ht
    have HGN := Lib.hid hg
    have HP := Lib.hid (hG y hg)
    have hfy := getV_fit hf hg
    have hk3 := hfy.keys
    have hk4 := hfy.vals
    clear hg h f3 f4 h3 h4 hG hfy
    go_enter Tryd.func36, Tryd.ntmps36
    go_wp2_with fail
    refine calls_box2 ?_
    intro W1 hx1 hr1 hs1 hb0
    have hgo := HG.out _ hb0
    rw [HGN.out] at hgo
    refine hgo.mono ?_
    clear hgo
    rintro e w1 ⟨v, rfl, hv, hb⟩
    have hv : VF w1 _ y v := hv
    obtain ⟨D3, q3, D4, q4, rfl, l3, g3, l4, g4⟩ := hv.open_
    have hc := cells1v ((hb.block _ (by omega)).trans hr1)
    have hlt : w.heap.size + 1 < w1.heap.size := by have := hb.size; omega
    have HB := Lib.hid (hb0.trans (hb.mono (by omega)))
    clear hx1 hr1 hs1 hb0 hb hv
    simp only [Option.getD_some, Option.isSome_some]
    by_cases hk : y.f0 = 5
    · have e5 := int_eq_t hk
      clear hk
      go_wp2_with fail
      have HBX := Lib.hid (BoxV.new w1 (.int .i64 y.f0) (.int .i64 y.f1) (.string y.f2) (.slice D3 y.f3.length q3) (.slice D4 y.f4.length q4) 27)
      have HBW := Lib.hid (HB.out.alloc (o := .cells #[.int .i64 y.f0, .int .i64 y.f1, .string y.f2, .slice D3 y.f3.length q3, .slice D4 y.f4.length q4] 27) (by have := HB.out.size; omega))
      have hcx := ((Below.refl w1.heap.size w1).alloc (Nat.le_refl _) (.cells #[.int .i64 y.f0, .int .i64 y.f1, .string y.f2, .slice D3 y.f3.length q3, .slice D4 y.f4.length q4] 27)).cell (p := ⟨w.heap.size + 1, 0, none⟩) hlt
      refine calls_let ?_
      intro W2 hW2
      rw [← hW2] at HBX HBW hcx
      have hc2 := hcx.trans hc
      have hs2 : w1.heap.size < W2.heap.size := by rw [hW2]; simp
      have hbl : Below w1.heap.size w1 W2 := HBX.out.below
      have g42 := Kd.F_below g4 hbl
      have g32 := Kd.F_below g3 hbl
      clear hW2 hcx hc g3 g4 hbl
      have HG3 := Lib.hid g32
      have hh := hasv_any (c := q4) g42 hk4 61 #[] notInt eg61 (fun k _ W v hv _ => by rw [Array.append_empty]; exact tab1_any hv)
      refine hh.mono ?_
      clear hh g42 g32
      obtain ⟨b1, hb1⟩ : ∃ b1, y.f4.any notInt = b1 := ⟨_, rfl⟩
      rw [hb1] at ht ⊢
      clear hb1
      rintro e W3 ⟨rfl, hb⟩
      cases b1 with
      | true =>
        obtain rfl : false = t := by rw [← ht]; simp
        go_wp2_with fail
        go_ret
        exact ⟨rfl, HBW.out.trans (hb.mono HBW.out.size)⟩
      | false =>
        have ht : (decide (y.f0 = 5) && !false && !(y.f3.any fun k => !pf k)) = t := ht
        have hc3 := (hb.cell (p := ⟨w.heap.size + 1, 0, none⟩) (by simp only; omega)).trans hc2
        have HX3 := Lib.hid (HBX.out.keep hb)
        have HB3 := Lib.hid (HBW.out.trans (hb.mono HBW.out.size))
        obtain ⟨d0, d1, d2, d3, d4⟩ := HX3.out.cells
        have hdl := HX3.out.lt
        have G3 := Lib.hid (Kd.F_below HG3.out hb)
        clear hb hc2
        go_wp2_with fail
        have hgt : w.heap.size + 1 < W3.heap.size := by omega
        have hh := hass_any (c := q3) G3.out hk3 64 #[.pointer (some ⟨w.heap.size + 1, 0, none⟩)] (fun k => !pf k) eg64 (fun k hm W hb => tab2_any (G := G) (cap := cap) ((hb.cell (p := ⟨w.heap.size + 1, 0, none⟩) hgt).trans hc3) eg k (pf k) (HP.out k hm W (HB3.out.trans (hb.mono HB3.out.size))))
        refine hh.mono ?_
        clear hh
        obtain ⟨b2, hb2⟩ : ∃ b2, (y.f3.any fun k => !pf k) = b2 := ⟨_, rfl⟩
        rw [hb2] at ht ⊢
        clear hb2
        rintro e W4 ⟨rfl, hb⟩
        have ht : (decide (y.f0 = 5) && !false && !b2) = t := ht
        rw [decide_eq_true (of_decide_eq_true (by simpa using e5))] at ht
        cases b2 with
        | true =>
          obtain rfl : false = t := by rw [← ht]; rfl
          go_wp2_with fail
          go_ret
          exact ⟨rfl, HB3.out.trans (hb.mono HB3.out.size)⟩
        | false =>
          obtain rfl : true = t := by rw [← ht]; rfl
          go_wp2_with fail
          go_ret
          exact ⟨rfl, HB3.out.trans (hb.mono HB3.out.size)⟩
    · have e5 := int_eq_f hk
      rw [decide_eq_false hk] at ht
      obtain rfl : false = t := ht
      clear hk
      go_wp2_with fail
      go_ret
      exact ⟨rfl, HB.out.alloc (by have := HB.out.size; omega) _⟩
end Go.Proofs.YtkdicgendcdooaaDoor

/-
  DERIVED: THE SHELF's CONTRACTS AT THIS DUMP, IN PLAIN WORDS (tools/lay-plain.mjs out of 'TrydShelf.lean', which tools/lay-shelf.mjs wrote): THE SAME DECLARATIONS UNDER THE SAME NAMES: 'import', 'namespace', 'open', 'def', 'theorem' AND NOTHING ELSE: no command of the shelf's: FOR A HAND-IN. Each laying: the table of numbers ('.._ren') and one theorem, a field a fact of the dump's own or the kernel's comparison; each contract: ONE APPLICATION.
-/
namespace Go.Proofs
open Go.Shelf
def Tryd.lays137_ren : Go.Shelf.Ren := ⟨fun | 137 => 95 | 217 => 101 | 266 => 109 | n => n, fun | 9 => 9 | 5 => 5 | 3 => 3 | n => n, fun | n => n⟩
theorem Tryd.lays137 : Go.Proofs.Lays.n137 Tryd.prog Tryd.lays137_ren := {
  mixed := by kernel_rfl
  f137 := Tryd.func95.trans (congrArg some (by kernel_rfl))
  f217 := Tryd.func101.trans (congrArg some (by kernel_rfl))
  f266 := Tryd.func109.trans (congrArg some (by kernel_rfl))
  t3 := Tryd.underlying3
  a3 := Tryd.isAgg3
  z3 := Tryd.sizeOf3
  v3 := Tryd.zeroValue3
  t5 := Tryd.underlying5
  a5 := Tryd.isAgg5
  z5 := Tryd.sizeOf5
  v5 := Tryd.zeroValue5
  t9 := Tryd.underlying9
  a9 := Tryd.isAgg9
  z9 := Tryd.sizeOf9
  v9 := Tryd.zeroValue9 }
open Go.RowKit in
/-- strings.IndexByte: "IndexByte returns the index of the first instance of c in s, or -1 if c is not present in s.": IT RETURNS 'Lib.indexByte s c'; the world is as it was. (LAID: no walk: one application.) -/
theorem Tryd.strings_IndexByte (s : ByteArray) (c : Int) (w : World) :
    Calls Tryd.prog 95 #[.string s, .int .u8 c] w fun e w' => e = .returned (.int .i64 (Lib.indexByte s.data.toList c.toNat.toUInt8)) ∧ w' = w := Any.strings_IndexByte Tryd.lays137 s c w
def Tryd.lays210_ren : Go.Shelf.Ren := ⟨fun | 210 => 92 | 206 => 99 | n => n, fun | 9 => 9 | 4 => 4 | 3 => 3 | n => n, fun | n => n⟩
theorem Tryd.lays210 : Go.Proofs.Lays.n210 Tryd.prog Tryd.lays210_ren := {
  mixed := by kernel_rfl
  f206 := Tryd.func99.trans (congrArg some (by kernel_rfl))
  f210 := Tryd.func92.trans (congrArg some (by kernel_rfl))
  t3 := Tryd.underlying3
  a3 := Tryd.isAgg3
  z3 := Tryd.sizeOf3
  v3 := Tryd.zeroValue3
  t4 := Tryd.underlying4
  a4 := Tryd.isAgg4
  z4 := Tryd.sizeOf4
  v4 := Tryd.zeroValue4
  t9 := Tryd.underlying9
  a9 := Tryd.isAgg9
  z9 := Tryd.sizeOf9
  v9 := Tryd.zeroValue9 }
open Go.RowKit in
/-- internal/stringslite.CutPrefix (what strings.CutPrefix calls). (LAID: no walk: one application.) -/
theorem Tryd.stringslite_CutPrefix (s p : ByteArray) (w : World) :
    Calls Tryd.prog 92 #[.string s, .string p] w fun e w' => e = .returned (.tuple #[.string ⟨(Lib.trimPrefix s.data.toList p.data.toList).toArray⟩, .bool (Lib.hasPrefix s.data.toList p.data.toList)]) ∧ w' = w := Any.stringslite_CutPrefix Tryd.lays210 s p w
def Tryd.lays103_ren : Go.Shelf.Ren := ⟨fun | 103 => 84 | 210 => 92 | 206 => 99 | n => n, fun | 9 => 9 | 4 => 4 | 24 => 85 | 3 => 3 | n => n, fun | n => n⟩
theorem Tryd.lays103 : Go.Proofs.Lays.n103 Tryd.prog Tryd.lays103_ren := {
  mixed := by kernel_rfl
  f103 := Tryd.func84.trans (congrArg some (by kernel_rfl))
  f206 := Tryd.func99.trans (congrArg some (by kernel_rfl))
  f210 := Tryd.func92.trans (congrArg some (by kernel_rfl))
  t3 := Tryd.underlying3
  a3 := Tryd.isAgg3
  z3 := Tryd.sizeOf3
  v3 := Tryd.zeroValue3
  t4 := Tryd.underlying4
  a4 := Tryd.isAgg4
  z4 := Tryd.sizeOf4
  v4 := Tryd.zeroValue4
  t9 := Tryd.underlying9
  a9 := Tryd.isAgg9
  z9 := Tryd.sizeOf9
  v9 := Tryd.zeroValue9
  t24 := Tryd.underlying85
  a24 := Tryd.isAgg85
  z24 := Tryd.sizeOf85
  v24 := Tryd.zeroValue85 }
open Go.RowKit in
/-- strings.CutPrefix: "CutPrefix returns s without the provided leading prefix string and reports whether it found the prefix. If s doesn't start with prefix, CutPrefix returns s, false. If prefix is the empty string, CutPrefix returns s, true.": IT RETURNS '(Lib.trimPrefix s p, Lib.hasPrefix s p)'; the world is as it was. (LAID: no walk: one application.) -/
theorem Tryd.strings_CutPrefix (s p : ByteArray) (w : World) :
    Calls Tryd.prog 84 #[.string s, .string p] w fun e w' => e = .returned (.tuple #[.string ⟨(Lib.trimPrefix s.data.toList p.data.toList).toArray⟩, .bool (Lib.hasPrefix s.data.toList p.data.toList)]) ∧ w' = w := Any.strings_CutPrefix Tryd.lays103 s p w
def Tryd.lays217_ren : Go.Shelf.Ren := ⟨fun | 217 => 101 | 266 => 109 | n => n, fun | 9 => 9 | 5 => 5 | 3 => 3 | n => n, fun | n => n⟩
theorem Tryd.lays217 : Go.Proofs.Lays.n217 Tryd.prog Tryd.lays217_ren := {
  mixed := by kernel_rfl
  f217 := Tryd.func101.trans (congrArg some (by kernel_rfl))
  f266 := Tryd.func109.trans (congrArg some (by kernel_rfl))
  t3 := Tryd.underlying3
  a3 := Tryd.isAgg3
  z3 := Tryd.sizeOf3
  v3 := Tryd.zeroValue3
  t5 := Tryd.underlying5
  a5 := Tryd.isAgg5
  z5 := Tryd.sizeOf5
  v5 := Tryd.zeroValue5
  t9 := Tryd.underlying9
  a9 := Tryd.isAgg9
  z9 := Tryd.sizeOf9
  v9 := Tryd.zeroValue9 }
open Go.RowKit Go.Lib in
/-- internal/stringslite.IndexByte (what strings.IndexByte calls): IT RETURNS 'Lib.indexByte s c'; the world is as it was. (LAID: no walk: one application.) -/
theorem Tryd.stringslite_IndexByte (s : ByteArray) (c : Int) (w : World) :
    Calls Tryd.prog 101 #[.string s, .int .u8 c] w fun e w' => e = .returned (.int .i64 (Lib.indexByte s.data.toList c.toNat.toUInt8)) ∧ w' = w := Any.stringslite_IndexByte Tryd.lays217 s c w
def Tryd.lays224_ren : Go.Shelf.Ren := ⟨fun | 224 => 107 | n => n, fun | 3 => 3 | n => n, fun | n => n⟩
theorem Tryd.lays224 : Go.Proofs.Lays.n224 Tryd.prog Tryd.lays224_ren := {
  mixed := by kernel_rfl
  f224 := Tryd.func107.trans (congrArg some (by kernel_rfl))
  t3 := Tryd.underlying3
  a3 := Tryd.isAgg3
  z3 := Tryd.sizeOf3
  v3 := Tryd.zeroValue3 }
open Go.RowKit Go.Lib in
/-- internal/bytealg.Cutover: "Cutover reports the number of failures of IndexByte we should tolerate before switching over to Index. n is the number of bytes processed so far.": on amd64: (n + 16) / 8. (LAID: no walk: one application.) -/
theorem Tryd.bytealg_Cutover (n : Int) (h0 : 0 ≤ n) (h1 : n < 4611686018427387904) (w : World) :
    Calls Tryd.prog 107 #[.int .i64 n] w fun e w' => e = .returned (.int .i64 ((n + 16) / 8)) ∧ w' = w := Any.bytealg_Cutover Tryd.lays224 n h0 h1 w
def Tryd.lays314_ren : Go.Shelf.Ren := ⟨fun | 314 => 111 | n => n, fun | 9 => 9 | 51 => 99 | 3 => 3 | 4 => 4 | 5 => 5 | 46 => 123 | n => n, fun | n => n⟩
theorem Tryd.lays314 : Go.Proofs.Lays.n314 Tryd.prog Tryd.lays314_ren := {
  mixed := by kernel_rfl
  f314 := Tryd.func111.trans (congrArg some (by kernel_rfl))
  t3 := Tryd.underlying3
  a3 := Tryd.isAgg3
  z3 := Tryd.sizeOf3
  v3 := Tryd.zeroValue3
  t4 := Tryd.underlying4
  a4 := Tryd.isAgg4
  z4 := Tryd.sizeOf4
  v4 := Tryd.zeroValue4
  t5 := Tryd.underlying5
  a5 := Tryd.isAgg5
  z5 := Tryd.sizeOf5
  v5 := Tryd.zeroValue5
  t9 := Tryd.underlying9
  a9 := Tryd.isAgg9
  z9 := Tryd.sizeOf9
  v9 := Tryd.zeroValue9
  t46 := Tryd.underlying123
  a46 := Tryd.isAgg123
  z46 := Tryd.sizeOf123
  v46 := Tryd.zeroValue123
  t51 := Tryd.underlying99
  a51 := Tryd.isAgg99
  z51 := Tryd.sizeOf99
  v51 := Tryd.zeroValue99 }
open Go.RowKit Go.Lib in
/-- hashStr: "returns the hash and the appropriate multiplicative factor for use in Rabin-Karp algorithm": THE HASH OF ALL OF sep, AND 16777619 ^ len(sep), both in uint32. (LAID: no walk: one application.) -/
theorem Tryd.bytealg_hashStr (sep : ByteArray) (hs : sep.size < 4294967281) (w : World) :
    Calls Tryd.prog 111 #[.string sep] w fun e w' => e = .returned (.tuple #[.int .u32 (RK.H sep.data.toList % 4294967296), .int .u32 (16777619 ^ sep.size % 4294967296)]) ∧ w' = w := Any.bytealg_hashStr Tryd.lays314 sep hs w
def Tryd.lays267_ren : Go.Shelf.Ren := ⟨fun | 267 => 108 | 314 => 111 | n => n, fun | 9 => 9 | 3 => 3 | 146 => 132 | 51 => 99 | 4 => 4 | 5 => 5 | 46 => 123 | n => n, fun | n => n⟩
theorem Tryd.lays267 : Go.Proofs.Lays.n267 Tryd.prog Tryd.lays267_ren := {
  mixed := by kernel_rfl
  f267 := Tryd.func108.trans (congrArg some (by kernel_rfl))
  f314 := Tryd.func111.trans (congrArg some (by kernel_rfl))
  t3 := Tryd.underlying3
  a3 := Tryd.isAgg3
  z3 := Tryd.sizeOf3
  v3 := Tryd.zeroValue3
  t4 := Tryd.underlying4
  a4 := Tryd.isAgg4
  z4 := Tryd.sizeOf4
  v4 := Tryd.zeroValue4
  t5 := Tryd.underlying5
  a5 := Tryd.isAgg5
  z5 := Tryd.sizeOf5
  v5 := Tryd.zeroValue5
  t9 := Tryd.underlying9
  a9 := Tryd.isAgg9
  z9 := Tryd.sizeOf9
  v9 := Tryd.zeroValue9
  t46 := Tryd.underlying123
  a46 := Tryd.isAgg123
  z46 := Tryd.sizeOf123
  v46 := Tryd.zeroValue123
  t51 := Tryd.underlying99
  a51 := Tryd.isAgg99
  z51 := Tryd.sizeOf99
  v51 := Tryd.zeroValue99
  t146 := Tryd.underlying132
  a146 := Tryd.isAgg132
  z146 := Tryd.sizeOf132
  v146 := Tryd.zeroValue132 }
open Go.RowKit Go.Lib in
theorem Tryd.bytealg_IndexRabinKarp (s sep : ByteArray) (h1 : 1 ≤ sep.size) (h2 : sep.size ≤ s.size) (hs : s.size < 4294967281) (w : World) :
    Calls Tryd.prog 108 #[.string s, .string sep] w fun e w' => e = .returned (.int .i64 (Lib.index s.data.toList sep.data.toList)) ∧ w' = w := Any.bytealg_IndexRabinKarp Tryd.lays267 s sep h1 h2 hs w
def Tryd.lays219_ren : Go.Shelf.Ren := ⟨fun | 219 => 100 | 217 => 101 | 225 => 106 | 224 => 107 | 267 => 108 | 266 => 109 | 314 => 111 | n => n, fun | 9 => 9 | 3 => 3 | 4 => 4 | 5 => 5 | 46 => 123 | 146 => 132 | 51 => 99 | n => n, fun | 1 => 2 | n => n⟩
theorem Tryd.lays219 : Go.Proofs.Lays.n219 Tryd.prog Tryd.lays219_ren := {
  mixed := by kernel_rfl
  f217 := Tryd.func101.trans (congrArg some (by kernel_rfl))
  f219 := Tryd.func100.trans (congrArg some (by kernel_rfl))
  f224 := Tryd.func107.trans (congrArg some (by kernel_rfl))
  f225 := Tryd.func106.trans (congrArg some (by kernel_rfl))
  f266 := Tryd.func109.trans (congrArg some (by kernel_rfl))
  f267 := Tryd.func108.trans (congrArg some (by kernel_rfl))
  f314 := Tryd.func111.trans (congrArg some (by kernel_rfl))
  t3 := Tryd.underlying3
  a3 := Tryd.isAgg3
  z3 := Tryd.sizeOf3
  v3 := Tryd.zeroValue3
  t4 := Tryd.underlying4
  a4 := Tryd.isAgg4
  z4 := Tryd.sizeOf4
  v4 := Tryd.zeroValue4
  t5 := Tryd.underlying5
  a5 := Tryd.isAgg5
  z5 := Tryd.sizeOf5
  v5 := Tryd.zeroValue5
  t9 := Tryd.underlying9
  a9 := Tryd.isAgg9
  z9 := Tryd.sizeOf9
  v9 := Tryd.zeroValue9
  t46 := Tryd.underlying123
  a46 := Tryd.isAgg123
  z46 := Tryd.sizeOf123
  v46 := Tryd.zeroValue123
  t51 := Tryd.underlying99
  a51 := Tryd.isAgg99
  z51 := Tryd.sizeOf99
  v51 := Tryd.zeroValue99
  t146 := Tryd.underlying132
  a146 := Tryd.isAgg132
  z146 := Tryd.sizeOf132
  v146 := Tryd.zeroValue132
  g1 := by kernel_rfl }
open Go.RowKit Go.Lib in
/-- internal/stringslite.Index (what strings.Index calls) AT A substr OF ONE BYTE c: IT RETURNS 'Lib.indexByte s c'; the world is as it was. (LAID: no walk: one application.) -/
theorem Tryd.stringslite_Index_one (s : ByteArray) (c : UInt8) (w : World) :
    Calls Tryd.prog 100 #[.string s, .string ⟨#[c]⟩] w fun e w' => e = .returned (.int .i64 (Lib.indexByte s.data.toList c)) ∧ w' = w := Any.stringslite_Index_one Tryd.lays219 s c w
open Go.RowKit Go.Lib in
/-- internal/stringslite.Index (what strings.Index calls) AT A substr OF WHATEVER LENGTH: IT RETURNS 'Lib.index s substr'; the world is as it was. 'm': what internal/bytealg.MaxLen holds: whatever. (LAID: no walk: one application.) -/
theorem Tryd.stringslite_Index (s sub : ByteArray) (m : Int) (w : World) (hs : s.size < 4294967281) (hm : w.cell? ⟨2, 0, none⟩ = some (.int .i64 m)) :
    Calls Tryd.prog 100 #[.string s, .string sub] w fun e w' => e = .returned (.int .i64 (Lib.index s.data.toList sub.data.toList)) ∧ w' = w := Any.stringslite_Index Tryd.lays219 s sub m w hs hm
def Tryd.lays315_ren : Go.Shelf.Ren := ⟨fun | 315 => 102 | n => n, fun | 9 => 9 | 40 => 81 | 4 => 4 | 3 => 3 | 0 => 0 | 21 => 21 | n => n, fun | n => n⟩
theorem Tryd.lays315 : Go.Proofs.Lays.n315 Tryd.prog Tryd.lays315_ren := {
  mixed := by kernel_rfl
  f315 := Tryd.func102.trans (congrArg some (by kernel_rfl))
  t0 := Tryd.underlying0
  a0 := Tryd.isAgg0
  z0 := Tryd.sizeOf0
  v0 := Tryd.zeroValue0
  t3 := Tryd.underlying3
  a3 := Tryd.isAgg3
  z3 := Tryd.sizeOf3
  v3 := Tryd.zeroValue3
  t4 := Tryd.underlying4
  a4 := Tryd.isAgg4
  z4 := Tryd.sizeOf4
  v4 := Tryd.zeroValue4
  t9 := Tryd.underlying9
  a9 := Tryd.isAgg9
  z9 := Tryd.sizeOf9
  v9 := Tryd.zeroValue9
  t21 := Tryd.underlying21
  a21 := Tryd.isAgg21
  z21 := Tryd.sizeOf21
  v21 := Tryd.zeroValue21
  t40 := Tryd.underlying81
  a40 := Tryd.isAgg81
  z40 := Tryd.sizeOf81
  v40 := Tryd.zeroValue81 }
open Go.RowKit Go.Lib in
theorem Tryd.strings_indexFunc (g : Nat) (lb : Array Value) (eg : ∀ args w, (callFunc g args).run Tryd.prog w = .ok (.enter g args) w) (p : Nat → Bool) (truth : Bool) (s : ByteArray) (w : World) (hp : PredAt Tryd.prog g lb encR p w) :
    Calls Tryd.prog 102 #[.string s, .func (.func g) #[] lb, .bool truth] w fun e w' => e = .returned (.int .i64 (Lib.idxFunc p truth s)) ∧ Below w.heap.size w w' := Any.strings_indexFunc Tryd.lays315 g lb eg p truth s w hp
def Tryd.laysGw15_ren : Go.Shelf.Ren := ⟨fun | 15 => 96 | 20 => 102 | n => n, fun | 9 => 9 | 23 => 81 | 3 => 3 | 4 => 4 | 0 => 0 | 21 => 21 | n => n, fun | n => n⟩
theorem Tryd.laysGw15 : Go.Proofs.LaysGw.n15 Tryd.prog Tryd.laysGw15_ren := {
  mixed := by kernel_rfl
  f15 := Tryd.func96.trans (congrArg some (by kernel_rfl))
  f20 := Tryd.func102.trans (congrArg some (by kernel_rfl))
  t0 := Tryd.underlying0
  a0 := Tryd.isAgg0
  z0 := Tryd.sizeOf0
  v0 := Tryd.zeroValue0
  i0 := by kernel_rfl
  t3 := Tryd.underlying3
  a3 := Tryd.isAgg3
  z3 := Tryd.sizeOf3
  v3 := Tryd.zeroValue3
  i3 := by kernel_rfl
  t4 := Tryd.underlying4
  a4 := Tryd.isAgg4
  z4 := Tryd.sizeOf4
  v4 := Tryd.zeroValue4
  i4 := by kernel_rfl
  t9 := Tryd.underlying9
  a9 := Tryd.isAgg9
  z9 := Tryd.sizeOf9
  v9 := Tryd.zeroValue9
  i9 := by kernel_rfl
  t21 := Tryd.underlying21
  a21 := Tryd.isAgg21
  z21 := Tryd.sizeOf21
  v21 := Tryd.zeroValue21
  i21 := by kernel_rfl
  t23 := Tryd.underlying81
  a23 := Tryd.isAgg81
  z23 := Tryd.sizeOf81
  v23 := Tryd.zeroValue81
  i23 := by kernel_rfl }
open Go.RowKit Go.Lib in
theorem Tryd.strings_IndexFunc (g : Nat) (lb : Array Value) (eg : ∀ args w, (callFunc g args).run Tryd.prog w = .ok (.enter g args) w) (p : Nat → Bool) (s : ByteArray) (w : World) (hp : PredAt Tryd.prog g lb encR p w) :
    Calls Tryd.prog 96 #[.string s, .func (.func g) #[] lb] w fun e w' => e = .returned (.int .i64 (Lib.idxFunc p true s)) ∧ Below w.heap.size w w' := Any.strings_IndexFunc Tryd.laysGw15 g lb eg p s w hp
def Tryd.lays206_ren : Go.Shelf.Ren := ⟨fun | 206 => 99 | n => n, fun | 9 => 9 | 4 => 4 | 3 => 3 | n => n, fun | n => n⟩
theorem Tryd.lays206 : Go.Proofs.Lays.n206 Tryd.prog Tryd.lays206_ren := {
  mixed := by kernel_rfl
  f206 := Tryd.func99.trans (congrArg some (by kernel_rfl))
  t3 := Tryd.underlying3
  a3 := Tryd.isAgg3
  z3 := Tryd.sizeOf3
  v3 := Tryd.zeroValue3
  t4 := Tryd.underlying4
  a4 := Tryd.isAgg4
  z4 := Tryd.sizeOf4
  v4 := Tryd.zeroValue4
  t9 := Tryd.underlying9
  a9 := Tryd.isAgg9
  z9 := Tryd.sizeOf9
  v9 := Tryd.zeroValue9 }
open Go.RowKit Go.Lib in
/-- internal/stringslite.HasPrefix (what strings.HasPrefix calls). (LAID: no walk: one application.) -/
theorem Tryd.stringslite_HasPrefix (s p : ByteArray) (w : World) :
    Calls Tryd.prog 99 #[.string s, .string p] w fun e w' => e = .returned (.bool (Lib.hasPrefix s.data.toList p.data.toList)) ∧ w' = w := Any.stringslite_HasPrefix Tryd.lays206 s p w
def Tryd.lays157_ren : Go.Shelf.Ren := ⟨fun | 157 => 34 | 229 => 57 | 199 => 58 | 261 => 78 | 311 => 90 | 312 => 91 | n => n, fun | 9 => 9 | 31 => 24 | 3 => 3 | 5 => 5 | 4 => 4 | 119 => 79 | 0 => 0 | 40 => 81 | 152 => 96 | 21 => 21 | 154 => 98 | 51 => 99 | 141 => 101 | 196 => 112 | 193 => 109 | 198 => 115 | 49 => 113 | 194 => 110 | 201 => 118 | 226 => 126 | 46 => 123 | 227 => 127 | n => n, fun | 0 => 0 | 6 => 1 | n => n⟩
theorem Tryd.lays157 : Go.Proofs.Lays.n157 Tryd.prog Tryd.lays157_ren := {
  mixed := by kernel_rfl
  f157 := Tryd.func34.trans (congrArg some (by kernel_rfl))
  f199 := Tryd.func58.trans (congrArg some (by kernel_rfl))
  f229 := Tryd.func57.trans (congrArg some (by kernel_rfl))
  f261 := Tryd.func78.trans (congrArg some (by kernel_rfl))
  f311 := Tryd.func90.trans (congrArg some (by kernel_rfl))
  f312 := Tryd.func91.trans (congrArg some (by kernel_rfl))
  t0 := Tryd.underlying0
  a0 := Tryd.isAgg0
  z0 := Tryd.sizeOf0
  v0 := Tryd.zeroValue0
  t3 := Tryd.underlying3
  a3 := Tryd.isAgg3
  z3 := Tryd.sizeOf3
  v3 := Tryd.zeroValue3
  t4 := Tryd.underlying4
  a4 := Tryd.isAgg4
  z4 := Tryd.sizeOf4
  v4 := Tryd.zeroValue4
  t5 := Tryd.underlying5
  a5 := Tryd.isAgg5
  z5 := Tryd.sizeOf5
  v5 := Tryd.zeroValue5
  t9 := Tryd.underlying9
  a9 := Tryd.isAgg9
  z9 := Tryd.sizeOf9
  v9 := Tryd.zeroValue9
  t21 := Tryd.underlying21
  a21 := Tryd.isAgg21
  z21 := Tryd.sizeOf21
  v21 := Tryd.zeroValue21
  t31 := Tryd.underlying24
  a31 := Tryd.isAgg24
  z31 := Tryd.sizeOf24
  v31 := Tryd.zeroValue24
  t40 := Tryd.underlying81
  a40 := Tryd.isAgg81
  z40 := Tryd.sizeOf81
  v40 := Tryd.zeroValue81
  t46 := Tryd.underlying123
  a46 := Tryd.isAgg123
  z46 := Tryd.sizeOf123
  v46 := Tryd.zeroValue123
  t49 := Tryd.underlying113
  a49 := Tryd.isAgg113
  z49 := Tryd.sizeOf113
  v49 := Tryd.zeroValue113
  t51 := Tryd.underlying99
  a51 := Tryd.isAgg99
  z51 := Tryd.sizeOf99
  v51 := Tryd.zeroValue99
  t119 := Tryd.underlying79
  a119 := Tryd.isAgg79
  z119 := Tryd.sizeOf79
  t141 := Tryd.underlying101
  a141 := Tryd.isAgg101
  z141 := Tryd.sizeOf101
  v141 := Tryd.zeroValue101
  t152 := Tryd.underlying96
  a152 := Tryd.isAgg96
  z152 := Tryd.sizeOf96
  v152 := Tryd.zeroValue96
  t154 := Tryd.underlying98
  a154 := Tryd.isAgg98
  z154 := Tryd.sizeOf98
  v154 := Tryd.zeroValue98
  t193 := Tryd.underlying109
  a193 := Tryd.isAgg109
  z193 := Tryd.sizeOf109
  v193 := Tryd.zeroValue109
  t194 := Tryd.underlying110
  a194 := Tryd.isAgg110
  z194 := Tryd.sizeOf110
  v194 := Tryd.zeroValue110
  t196 := Tryd.underlying112
  a196 := Tryd.isAgg112
  z196 := Tryd.sizeOf112
  v196 := Tryd.zeroValue112
  t198 := Tryd.underlying115
  a198 := Tryd.isAgg115
  z198 := Tryd.sizeOf115
  v198 := Tryd.zeroValue115
  t201 := Tryd.underlying118
  a201 := Tryd.isAgg118
  z201 := Tryd.sizeOf118
  v201 := Tryd.zeroValue118
  t226 := Tryd.underlying126
  a226 := Tryd.isAgg126
  z226 := Tryd.sizeOf126
  v226 := Tryd.zeroValue126
  t227 := Tryd.underlying127
  a227 := Tryd.isAgg127
  z227 := Tryd.sizeOf127
  v227 := Tryd.zeroValue127
  g0 := by kernel_rfl
  g6 := by kernel_rfl }
open Go.RowKit Go.Lib in
/-- strings.Fields, the table by 'Lib.TabIs' (as strings.TrimSpace's contract). 'hg': the table's number, by its name: at a dump 'by kernel_rfl'. (LAID: no walk: one application.) -/
theorem Tryd.strings_Fields (s : ByteArray) (w : World) (hs : s.size < 4294967281) (hascii : ∀ (j : Nat) b, s.data.toList[j]? = some b → b.toNat < 128) (htab : Lib.TabIs Tryd.prog w "strings.asciiSpace" .u8 Lib.asciiSpaceTab) :
    Calls Tryd.prog 34 #[.string s] w fun e w' =>
      e = .returned (.slice (some ⟨w.heap.size, 0, none⟩) (Lib.fields s.data.toList).length (Lib.fields s.data.toList).length) ∧ w' = w.alloc (.cells ((Lib.fields s.data.toList).map fun l => Value.string ⟨l.toArray⟩).toArray 9) := Any.strings_Fields Tryd.lays157 (by kernel_rfl) (by kernel_rfl) s w hs hascii htab
def Tryd.lays199_ren : Go.Shelf.Ren := ⟨fun | 199 => 58 | 261 => 78 | 311 => 90 | 312 => 91 | n => n, fun | 21 => 21 | 4 => 4 | 51 => 99 | 141 => 101 | 0 => 0 | 196 => 112 | 193 => 109 | 3 => 3 | 198 => 115 | 49 => 113 | 194 => 110 | 201 => 118 | 226 => 126 | 46 => 123 | 227 => 127 | n => n, fun | 6 => 1 | n => n⟩
theorem Tryd.lays199 : Go.Proofs.Lays.n199 Tryd.prog Tryd.lays199_ren := {
  mixed := by kernel_rfl
  f199 := Tryd.func58.trans (congrArg some (by kernel_rfl))
  f261 := Tryd.func78.trans (congrArg some (by kernel_rfl))
  f311 := Tryd.func90.trans (congrArg some (by kernel_rfl))
  f312 := Tryd.func91.trans (congrArg some (by kernel_rfl))
  t0 := Tryd.underlying0
  a0 := Tryd.isAgg0
  z0 := Tryd.sizeOf0
  v0 := Tryd.zeroValue0
  t3 := Tryd.underlying3
  a3 := Tryd.isAgg3
  z3 := Tryd.sizeOf3
  v3 := Tryd.zeroValue3
  t4 := Tryd.underlying4
  a4 := Tryd.isAgg4
  z4 := Tryd.sizeOf4
  v4 := Tryd.zeroValue4
  t21 := Tryd.underlying21
  a21 := Tryd.isAgg21
  z21 := Tryd.sizeOf21
  v21 := Tryd.zeroValue21
  t46 := Tryd.underlying123
  a46 := Tryd.isAgg123
  z46 := Tryd.sizeOf123
  v46 := Tryd.zeroValue123
  t49 := Tryd.underlying113
  a49 := Tryd.isAgg113
  z49 := Tryd.sizeOf113
  v49 := Tryd.zeroValue113
  t51 := Tryd.underlying99
  a51 := Tryd.isAgg99
  z51 := Tryd.sizeOf99
  v51 := Tryd.zeroValue99
  t141 := Tryd.underlying101
  a141 := Tryd.isAgg101
  z141 := Tryd.sizeOf101
  v141 := Tryd.zeroValue101
  t193 := Tryd.underlying109
  a193 := Tryd.isAgg109
  z193 := Tryd.sizeOf109
  v193 := Tryd.zeroValue109
  t194 := Tryd.underlying110
  a194 := Tryd.isAgg110
  z194 := Tryd.sizeOf110
  v194 := Tryd.zeroValue110
  t196 := Tryd.underlying112
  a196 := Tryd.isAgg112
  z196 := Tryd.sizeOf112
  v196 := Tryd.zeroValue112
  t198 := Tryd.underlying115
  a198 := Tryd.isAgg115
  z198 := Tryd.sizeOf115
  v198 := Tryd.zeroValue115
  t201 := Tryd.underlying118
  a201 := Tryd.isAgg118
  z201 := Tryd.sizeOf118
  v201 := Tryd.zeroValue118
  t226 := Tryd.underlying126
  a226 := Tryd.isAgg126
  z226 := Tryd.sizeOf126
  v226 := Tryd.zeroValue126
  t227 := Tryd.underlying127
  a227 := Tryd.isAgg127
  z227 := Tryd.sizeOf127
  v227 := Tryd.zeroValue127
  g6 := by kernel_rfl }
open Go.RowKit Go.Lib in
theorem Tryd.unicode_IsSpace (r : Int) (w : World) (h0 : 0 ≤ r) (h : r ≤ 255) :
    Calls Tryd.prog 58 #[.int .i32 r] w fun e w' => e = .returned (.bool (Lib.isSpaceL r)) ∧ w' = w := Any.unicode_IsSpace Tryd.lays199 r w h0 h
def Tryd.lays311_ren : Go.Shelf.Ren := ⟨fun | 311 => 90 | n => n, fun | 193 => 109 | 49 => 113 | 4 => 4 | 3 => 3 | 0 => 0 | 226 => 126 | 198 => 115 | 46 => 123 | n => n, fun | n => n⟩
theorem Tryd.lays311 : Go.Proofs.Lays.n311 Tryd.prog Tryd.lays311_ren := {
  mixed := by kernel_rfl
  f311 := Tryd.func90.trans (congrArg some (by kernel_rfl))
  t0 := Tryd.underlying0
  a0 := Tryd.isAgg0
  z0 := Tryd.sizeOf0
  v0 := Tryd.zeroValue0
  t3 := Tryd.underlying3
  a3 := Tryd.isAgg3
  z3 := Tryd.sizeOf3
  v3 := Tryd.zeroValue3
  t4 := Tryd.underlying4
  a4 := Tryd.isAgg4
  z4 := Tryd.sizeOf4
  v4 := Tryd.zeroValue4
  t46 := Tryd.underlying123
  a46 := Tryd.isAgg123
  z46 := Tryd.sizeOf123
  v46 := Tryd.zeroValue123
  t49 := Tryd.underlying113
  a49 := Tryd.isAgg113
  z49 := Tryd.sizeOf113
  v49 := Tryd.zeroValue113
  t193 := Tryd.underlying109
  a193 := Tryd.isAgg109
  z193 := Tryd.sizeOf109
  v193 := Tryd.zeroValue109
  t198 := Tryd.underlying115
  a198 := Tryd.isAgg115
  z198 := Tryd.sizeOf115
  v198 := Tryd.zeroValue115
  t226 := Tryd.underlying126
  a226 := Tryd.isAgg126
  z226 := Tryd.sizeOf126
  v226 := Tryd.zeroValue126 }
open Go.RowKit Go.Lib in
theorem Tryd.unicode_is16_white (R oR : Nat) (z : Nat) (w : World) (hz : z < 65536) (hz0 : 255 < z) (c6 : w.cell? ⟨R, oR + 6, none⟩ = some (.int .u16 160)) (c7 : w.cell? ⟨R, oR + 7, none⟩ = some (.int .u16 5760)) (c8 : w.cell? ⟨R, oR + 8, none⟩ = some (.int .u16 5600)) (c9 : w.cell? ⟨R, oR + 9, none⟩ = some (.int .u16 8192)) (c10 : w.cell? ⟨R, oR + 10, none⟩ = some (.int .u16 8202)) (c11 : w.cell? ⟨R, oR + 11, none⟩ = some (.int .u16 1)) (c12 : w.cell? ⟨R, oR + 12, none⟩ = some (.int .u16 8232)) (c13 : w.cell? ⟨R, oR + 13, none⟩ = some (.int .u16 8233)) (c14 : w.cell? ⟨R, oR + 14, none⟩ = some (.int .u16 1)) (c15 : w.cell? ⟨R, oR + 15, none⟩ = some (.int .u16 8239)) (c16 : w.cell? ⟨R, oR + 16, none⟩ = some (.int .u16 8287)) (c17 : w.cell? ⟨R, oR + 17, none⟩ = some (.int .u16 48)) (c18 : w.cell? ⟨R, oR + 18, none⟩ = some (.int .u16 12288)) (c19 : w.cell? ⟨R, oR + 19, none⟩ = some (.int .u16 12288)) (c20 : w.cell? ⟨R, oR + 20, none⟩ = some (.int .u16 1)) :
    Calls Tryd.prog 90 #[.slice (some ⟨R, oR + 6, none⟩) 5 5, .int .u16 z] w fun e w' => e = .returned (.bool (Lib.isSpaceR z)) ∧ Below w.heap.size w w' := Any.unicode_is16_white Tryd.lays311 R oR z w hz hz0 c6 c7 c8 c9 c10 c11 c12 c13 c14 c15 c16 c17 c18 c19 c20
def Tryd.lays261_ren : Go.Shelf.Ren := ⟨fun | 261 => 78 | 311 => 90 | 312 => 91 | n => n, fun | 141 => 101 | 21 => 21 | 4 => 4 | 0 => 0 | 196 => 112 | 193 => 109 | 3 => 3 | 51 => 99 | 198 => 115 | 49 => 113 | 194 => 110 | 201 => 118 | 226 => 126 | 46 => 123 | 227 => 127 | n => n, fun | n => n⟩
theorem Tryd.lays261 : Go.Proofs.Lays.n261 Tryd.prog Tryd.lays261_ren := {
  mixed := by kernel_rfl
  f261 := Tryd.func78.trans (congrArg some (by kernel_rfl))
  f311 := Tryd.func90.trans (congrArg some (by kernel_rfl))
  f312 := Tryd.func91.trans (congrArg some (by kernel_rfl))
  t0 := Tryd.underlying0
  a0 := Tryd.isAgg0
  z0 := Tryd.sizeOf0
  v0 := Tryd.zeroValue0
  t3 := Tryd.underlying3
  a3 := Tryd.isAgg3
  z3 := Tryd.sizeOf3
  v3 := Tryd.zeroValue3
  t4 := Tryd.underlying4
  a4 := Tryd.isAgg4
  z4 := Tryd.sizeOf4
  v4 := Tryd.zeroValue4
  t21 := Tryd.underlying21
  a21 := Tryd.isAgg21
  z21 := Tryd.sizeOf21
  v21 := Tryd.zeroValue21
  t46 := Tryd.underlying123
  a46 := Tryd.isAgg123
  z46 := Tryd.sizeOf123
  v46 := Tryd.zeroValue123
  t49 := Tryd.underlying113
  a49 := Tryd.isAgg113
  z49 := Tryd.sizeOf113
  v49 := Tryd.zeroValue113
  t51 := Tryd.underlying99
  a51 := Tryd.isAgg99
  z51 := Tryd.sizeOf99
  v51 := Tryd.zeroValue99
  t141 := Tryd.underlying101
  a141 := Tryd.isAgg101
  z141 := Tryd.sizeOf101
  v141 := Tryd.zeroValue101
  t193 := Tryd.underlying109
  a193 := Tryd.isAgg109
  z193 := Tryd.sizeOf109
  v193 := Tryd.zeroValue109
  t194 := Tryd.underlying110
  a194 := Tryd.isAgg110
  z194 := Tryd.sizeOf110
  v194 := Tryd.zeroValue110
  t196 := Tryd.underlying112
  a196 := Tryd.isAgg112
  z196 := Tryd.sizeOf112
  v196 := Tryd.zeroValue112
  t198 := Tryd.underlying115
  a198 := Tryd.isAgg115
  z198 := Tryd.sizeOf115
  v198 := Tryd.zeroValue115
  t201 := Tryd.underlying118
  a201 := Tryd.isAgg118
  z201 := Tryd.sizeOf118
  v201 := Tryd.zeroValue118
  t226 := Tryd.underlying126
  a226 := Tryd.isAgg126
  z226 := Tryd.sizeOf126
  v226 := Tryd.zeroValue126
  t227 := Tryd.underlying127
  a227 := Tryd.isAgg127
  z227 := Tryd.sizeOf127
  v227 := Tryd.zeroValue127 }
open Go.RowKit Go.Lib in
/-- unicode.isExcludingLatin(White_Space, r), r beyond U+00FF or negative. (LAID: no walk: one application.) -/
theorem Tryd.unicode_isExcludingLatin_white (T oT R oR : Nat) (r : Int) (w : World) (hlo : -2147483648 ≤ r) (hhi : r ≤ 2147483647) (hr : r < 0 ∨ 255 < r) (h2 : w.cell? ⟨T, oT, none⟩ = some (.slice (some ⟨R, oR, none⟩) 7 7)) (h3 : w.cell? ⟨T, oT + 1, none⟩ = some (.slice none 0 0)) (h4 : w.cell? ⟨T, oT + 2, none⟩ = some (.int .i64 2)) (h5 : ∀ i, i < 21 → w.cell? ⟨R, oR + i, none⟩ = some (.int .u16 (whiteT.getD i 0))) :
    Calls Tryd.prog 78 #[.pointer (some ⟨T, oT, none⟩), .int .i32 r] w fun e w' => e = .returned (.bool (Lib.isSpaceZ r)) ∧ Below w.heap.size w w' := Any.unicode_isExcludingLatin_white Tryd.lays261 T oT R oR r w hlo hhi hr h2 h3 h4 h5
open Go.RowKit Go.Lib in
/-- **unicode.IsSpace AT EVERY int32.** (LAID: no walk: one application.) -/
theorem Tryd.unicode_IsSpace_any (r : Int) (w : World) (hlo : -2147483648 ≤ r) (hhi : r ≤ 2147483647) (hW : Lib.WhiteTab 1 w) :
    Calls Tryd.prog 58 #[.int .i32 r] w fun e w' => e = .returned (.bool (Lib.isSpaceZ r)) ∧ Below w.heap.size w w' := Any.unicode_IsSpace_any Tryd.lays199 r w hlo hhi hW
open Go.RowKit Go.Lib in
theorem Tryd.strings_indexFunc_grows (g : Nat) (lb : Array Value) (eg : ∀ args w, (callFunc g args).run Tryd.prog w = .ok (.enter g args) w) (p : Nat → Bool) (truth : Bool) (s : ByteArray) (w : World) (hp : PredGrows Tryd.prog g lb p w) :
    Calls Tryd.prog 102 #[.string s, .func (.func g) #[] lb, .bool truth] w fun e w' => e = .returned (.int .i64 (Lib.idxFunc p truth s)) ∧ Below w.heap.size w w' := Any.strings_indexFunc_grows Tryd.lays315 g lb eg p truth s w hp
open Go.RowKit Go.Lib in
theorem Tryd.strings_IndexFunc_grows (g : Nat) (lb : Array Value) (eg : ∀ args w, (callFunc g args).run Tryd.prog w = .ok (.enter g args) w) (p : Nat → Bool) (s : ByteArray) (w : World) (hp : PredGrows Tryd.prog g lb p w) :
    Calls Tryd.prog 96 #[.string s, .func (.func g) #[] lb] w fun e w' => e = .returned (.int .i64 (Lib.idxFunc p true s)) ∧ Below w.heap.size w w' := Any.strings_IndexFunc_grows Tryd.laysGw15 g lb eg p s w hp
end Go.Proofs
