/-
  The method take, called on any state and any block of 64 bytes, returns the plain state behind the block.
-/
import Derived.Test.YtdbdikgjelhfbaaWords
import Derived.BigRegion
import Derived.Deep.DeepCutAuto
import Derived.Deep.Upon
import Derived.Deep.RegionLaw
import Derived.Deep.RegionHeld3
import Derived.Laws.CopyRow
namespace Go.Proofs.Ytdbdikgjelhfbaa
open Go.RowKit Sha
set_option linter.unusedSimpArgs false

def stV (x : St) : Array Value := (u32s x.list).toArray
theorem info45 : (Try.prog.info? 45).map (·.size) = some 8 := by kernel_rfl
theorem count_list : ∀ (l : List Bool) (i : Nat), l[i]? = some false → ((l.set i true).filter id).length = (l.filter id).length + 1
  | [], i, h => by simp at h
  | c :: l, 0, h => by
    obtain rfl : c = false := by simpa using h
    simp
  | c :: l, i + 1, h => by
    have := count_list l i (by simpa using h)
    cases c <;> simp [this]
theorem count_set (listed : Array Bool) (i : Nat) (h : listed.getD i true = false) : ((listed.setIfInBounds i true).toList.filter id).length = (listed.toList.filter id).length + 1 := by
  rw [Array.toList_setIfInBounds]
  refine count_list _ _ ?_
  by_cases hi : i < listed.size
  · rw [Array.getElem?_toList, Array.getElem?_eq_getElem hi]
    simpa [Array.getD, hi] using h
  · simp [Array.getD, hi] at h
section
variable {P : Program} {ops : Array Oper} {Q : Exit → Act → World → Prop} {md : Region.Mode}
/-- In whatever order: what each operation keeps holds behind all of them. -/
theorem wpAny_inv (I : Array Bool → Act → World → Prop)
    (hstep : ∀ listed a w i, I listed a w → i ∈ Region.ready md ops listed → wpOp P ops Q i (fun a' w' => I (listed.setIfInBounds i true) a' w') a w)
    (hend : ∀ listed a w, I listed a w → Region.ready md ops listed = [] → Q .normal a w)
    (hlast : ∀ listed a w, I listed a w → ops.size ≤ (listed.toList.filter id).length → Region.ready md ops listed = []) :
    ∀ (fuel : Nat) (listed : Array Bool) (a : Act) (w : World), ops.size ≤ fuel + (listed.toList.filter id).length → I listed a w → wpAny P md ops Q fuel listed a w
  | 0, listed, a, w, hf, hI => ⟨hlast _ _ _ hI (by omega), hend _ _ _ hI (hlast _ _ _ hI (by omega))⟩
  | fuel + 1, listed, a, w, hf, hI => ⟨fun h => hend _ _ _ hI h, fun i hi =>
      wpOp_mono (fun a' w' h => wpAny_inv I hstep hend hlast fuel _ a' w' (by rw [count_set _ _ (mem_ready.1 hi).1]; omega) h) (hstep _ _ _ _ hI hi)⟩
theorem wp_val {o : Oper} {a : Act} {w w' : World} {K : Act → World → Prop} {v : Value} (h : (execOp a.eval o).run P w = .ok (.value v) w') (hk : K (a.put o.dst v) w') : o.wp P a w K Q := by
  unfold Oper.wp
  rw [h, Oper.upon_value]
  exact hk
theorem wpOp_of {i : Nat} {o : Oper} {a : Act} {w : World} {K : Act → World → Prop} (hi : ops[i]? = some o) (hg : o.guard = none) (h : o.wp P a w K Q) : wpOp P ops Q i K a w := by
  unfold wpOp
  simp [hi, Region.wanted, hg, h]
theorem wp_enter {o : Oper} {a : Act} {w w' : World} {K : Act → World → Prop} {f : FuncId} {args : Array Value} (h : (execOp a.eval o).run P w = .ok (.enter f args) w')
    (hk : Calls P f args w' fun e w'' => ∃ v, e = .returned v ∧ K (a.put o.dst v) w'') : o.wp P a w K Q := by
  unfold Oper.wp
  rw [h, Oper.upon_enter]
  refine hk.mono ?_
  rintro e w'' ⟨v, rfl, hv⟩
  exact hv
end
theorem all_seven : ∀ l0 l1 l2 l3 l4 l5 l6 : Bool, 7 ≤ (#[l0, l1, l2, l3, l4, l5, l6].toList.filter id).length → l0 = true ∧ l1 = true ∧ l2 = true ∧ l3 = true ∧ l4 = true ∧ l5 = true ∧ l6 = true := by
  intro l0 l1 l2 l3 l4 l5 l6 h
  cases l0 <;> cases l1 <;> cases l2 <;> cases l3 <;> cases l4 <;> cases l5 <;> cases l6 <;> simp at h ⊢
theorem step_copy_row {P : Program} {ops : Array Oper} {o : Oper} {a : Act} {w : World} {K : Act → World → Prop} {Q : Exit → Act → World → Prop} {E : Prop} (hgd : o.guard = none) (d s : Operand) (dT sT : TypeId)
    (ho : o.op = .call { callee := .builtin .copy, args := #[d, s], argTypes := #[dT, sT] }) (elem : TypeId) (hu : P.underlying dT = some (.slice elem)) (hsz : (P.info? elem).map (·.size) = some 1)
    (g off dLen dCap : Nat) (ad : Addr) (sLen sCap : Nat) (hd : a.eval d = .slice (some ⟨g, off, none⟩) dLen dCap) (hs : a.eval s = .slice (some ad) sLen sCap)
    (cur : Array Value) (t : TypeId) (hg : w.heap[g]? = some (.cells cur t (0, 0))) (cs : List Value) (hn : cs.length = Nat.min sLen dLen)
    (hsrc : ∀ j v, cs[j]? = some v → w.cell? (ad.add j) = some v) (hfit : off + cs.length ≤ cur.size) (h1 : ∀ v ∈ cs, v.oneCell' = true)
    (new : Array Value) (hnew : (cur.toList.take off ++ cs ++ cur.toList.drop (off + cs.length)).toArray = new)
    (h : K (a.put o.dst (goInt cs.length)) (w.setRow g new)) :
    if Region.wanted o (yielded ops a.tmps) = true then Oper.wp P o a w K Q else E := by
  have hw : Region.wanted o (yielded ops a.tmps) = true := by simp [Region.wanted, hgd]
  rw [if_pos hw]
  subst hnew
  have hrun := run_copy_row (P := P) w dT sT o.type elem g off dLen dCap ad sLen sCap cur t cs hu hsz hg hn hsrc hfit h1
  unfold Oper.wp
  simp only [List.append_assoc] at h hrun
  simp [execOp, ho, resolve, invoke, builtin, hd, hs, hrun, Result.andThen]
  exact h
theorem not_nat (x : W) : bits .xor .u32 4294967295 (x.toNat : Int) = ((~~~x).toNat : Int) := by
  have h := u32_xor_nat 4294967295 x.toNat (by omega) x.isLt
  rw [show ((4294967295 : Nat) : Int) = 4294967295 from rfl] at h
  rw [h, show (4294967295 : Nat) = (BitVec.allOnes 32).toNat from rfl, ← BitVec.toNat_xor, BitVec.allOnes_xor]
theorem row_src {w : World} {b : Nat} {T : TypeId} {l : List W} (h : Row w b T l) (n : Nat) : ∀ j v, (u32s (l.take n))[j]? = some v → w.cell? ((⟨b, 0, none⟩ : Addr).add j) = some v := fun j v hv => by
  rw [Addr.add_mid, Nat.zero_add]
  rw [u32s, List.getElem?_map] at hv
  cases hq : (l.take n)[j]? with
  | none => rw [hq] at hv; simp at hv
  | some x =>
    rw [hq] at hv
    have hx : l[j]? = some x := by
      rw [List.getElem?_take] at hq
      split at hq
      · exact hq
      · simp at hq
    rw [h.cell hx]
    simpa using hv
theorem World.setCell_heap_ne {w : World} {b b' : Nat} (o : Nat) (v : Value) (h : b ≠ b') : (w.setCell ⟨b', o, none⟩ v).heap[b]? = w.heap[b]? := by
  simp [World.setCell, Array.getElem?_modify, Ne.symm h]
theorem great_lit (x : W) (a b c : Int) (h : (a = 6 ∧ b = 11 ∧ c = 25) ∨ (a = 2 ∧ b = 13 ∧ c = 22)) (w : World) :
    Calls Try.prog 29 #[.int .u32 x.toNat, .int .i64 a, .int .i64 b, .int .i64 c] w fun e w' => e = .returned (.int .u32 (great x a.toNat b.toNat c.toNat).toNat) ∧ w = w' := by
  rcases h with ⟨rfl, rfl, rfl⟩ | ⟨rfl, rfl, rfl⟩
  · exact great_6 x w
  · exact great_2 x w
def fr (X : Array Value) (sl : Value) (B : Nat) (v5 v6 v14 v15 v16 : Value) : Act := ⟨#[.agg X, sl, .pointer (some ⟨B, 0, none⟩), undef, .pointer (some ⟨B + 1, 0, none⟩), v5, v6, undef, undef, undef, undef, undef, undef, undef, v14, v15, v16, undef, undef, undef, undef, undef, undef, undef, undef, undef, undef, undef, undef, undef, undef, undef, undef, undef, undef, undef, undef, undef, undef, undef, undef, undef, undef, undef, undef, undef, undef, undef, undef, undef, undef, undef, undef, undef, undef, undef, undef, undef, undef, undef, undef, undef, undef, undef, undef, undef, undef, undef, undef, undef, undef, undef, undef, undef, undef, undef, undef, undef, undef, undef, undef, undef, undef, undef, undef, undef, undef, undef, undef, undef, undef, undef], []⟩
theorem drew_below' (B : Nat) (w : World) : Below B w w.drew := ⟨rfl, rfl, rfl, Nat.le_refl _, fun _ _ => rfl⟩
theorem below_setRow' {B : Nat} {W w : World} (h : Below B W w) (b : Nat) (cs : Array Value) (hb : B ≤ b) : Below B W (w.setRow b cs) :=
  ⟨h.os, h.tape, h.output, by simpa [World.setRow] using h.size, fun k hk => by rw [setRow_other _ _ _ _ (by omega)]; exact h.block k hk⟩
/-- What stands while the words are told and the two arrays are made, in whatever order. -/
def Making (w w1 : World) (X R : Array Value) (sl : Value) (listed : Array Bool) (a : Act) (W : World) : Prop :=
  ∃ (l0 l1 l2 l3 l4 l5 l6 : Bool) (v14 v15 v16 v5 v6 : Value), listed = #[l0, l1, l2, l3, l4, l5, l6] ∧ a = fr X sl w.heap.size v5 v6 v14 v15 v16 ∧
    (l0 = true → v14 = sl) ∧ (l1 = true → v15 = .agg R) ∧ (l2 = true → v16 = .agg X) ∧
    (l3 = true → ∃ b5, v5 = .pointer (some ⟨b5, 0, none⟩) ∧ w.heap.size + 2 ≤ b5 ∧ W.heap[b5]? = some (.cells (if l5 then R else zeroV 64) 57 (0, 0))) ∧
    (l4 = true → ∃ b6, v6 = .pointer (some ⟨b6, 0, none⟩) ∧ w.heap.size + 2 ≤ b6 ∧ W.heap[b6]? = some (.cells (if l6 then X else zeroV 8) 45 (0, 0))) ∧
    W.heap[w.heap.size]? = some (.cells X 45 (0, 0)) ∧ Below (w.heap.size + 2) w1 W ∧ w.heap.size + 2 ≤ W.heap.size ∧ (l5 = true → l3 = true) ∧ (l6 = true → l4 = true)

/-- Words to which others have been added, up to one. -/
def mixed (l m : List W) : Nat → List W
  | 0 => l
  | j + 1 => (mixed l m j).set j ((mixed l m j).getD j 0 + m.getD j 0)
theorem mixed_length (l m : List W) : ∀ j, (mixed l m j).length = l.length
  | 0 => rfl
  | j + 1 => by rw [mixed, List.length_set, mixed_length l m j]
theorem mixed_all (y x : St) : mixed y.list x.list 8 = (y.add x).list := rfl
theorem getD_some (l : List W) (j : Nat) (h : j < l.length) : l[j]? = some (l.getD j 0) := by
  rw [List.getD_eq_getElem?_getD, List.getElem?_eq_getElem h]; rfl
set_option maxRecDepth 100000 in
set_option maxHeartbeats 1500000 in
theorem take_any (x : St) (a : Option Addr) (n cap : Nat) (b : List UInt8) (w : World) (hn : 64 ≤ b.length) (hb : BytesAt w a b) (hnl : b.length = n) (hc : n ≤ cap) (hc2 : cap ≤ maxLen) :
    Calls Try.prog 23 #[.agg (stV x), .slice a n cap] w fun e w' => e = .returned (.agg (stV (take x b))) ∧ Below w.heap.size w w' := by
  have hz57 : ∀ w, (zeroValue 57).run Try.prog w = .ok (.agg (zeroV 64)) w := fun w => by kernel_rfl
  have hz45 : ∀ w, (zeroValue 45).run Try.prog w = .ok (.agg (zeroV 8)) w := fun w => by kernel_rfl
  obtain ⟨X, hX⟩ : ∃ X, stV x = X := ⟨_, rfl⟩
  rw [hX]
  have hXs : X.size = 8 := by rw [← hX]; rfl
  have hX1 : X.all (·.oneCell') = true := by rw [← hX]; exact all_oneCell_toArray (u32s_one _)
  have HX := Lib.hid hX; have HX1 := Lib.hid hX1; have HXs := Lib.hid hXs
  clear hX hX1 hXs
  obtain ⟨R, hR⟩ : ∃ R, (u32s (words b)).toArray = R := ⟨_, rfl⟩
  have hRs : R.size = 64 := by rw [← hR]; simp [u32s, words, upto_length]
  have hR1 : R.all (·.oneCell') = true := by rw [← hR]; exact all_oneCell_toArray (u32s_one _)
  have HR := Lib.hid hR; have HR1 := Lib.hid hR1; have HRs := Lib.hid hRs
  clear hR hR1 hRs
  obtain ⟨w1, hw1⟩ : ∃ w1, (w.alloc (.cells X 45)).alloc (.cells (zeroV 8) 45) = w1 := ⟨_, rfl⟩
  have hb1 : BytesAt w1 a b := by rw [← hw1]; exact hb.below (by go_grown)
  have hw1s : w1.heap.size = w.heap.size + 2 := by rw [← hw1]; simp
  have hx1 : w1.heap[w.heap.size]? = some (.cells X 45 (0, 0)) := by rw [← hw1, heap_alloc_old _ _ (by simp), heap_alloc_new]
  have hr1 : w1.heap[w.heap.size + 1]? = some (.cells (zeroV 8) 45 (0, 0)) := by
    rw [← hw1]; have := heap_alloc_new (w.alloc (.cells X 45)) (.cells (zeroV 8) 45)
    simpa using this
  go_enter Try.func23, Try.ntmps23
  go_wp2_with fail
  go_cut [5, 6] (fun p5 p6 wx => ∃ b5 b6, p5 = .pointer (some ⟨b5, 0, none⟩) ∧ p6 = .pointer (some ⟨b6, 0, none⟩) ∧ w.heap.size + 2 ≤ b5 ∧ w.heap.size + 2 ≤ b6 ∧ Row wx b5 57 (words b) ∧ Row wx b6 45 x.list ∧ wx.heap[w.heap.size]? = some (.cells X 45 (0, 0)) ∧ Below (w.heap.size + 2) w1 wx)
  case first =>
    refine wp_region_any (by kernel_rfl) ?_
    refine wpAny_inv (Making w w1 X R (.slice a n cap)) ?step ?fin ?last _ _ _ _ (by simp) ?start
    case start =>
      exact ⟨false, false, false, false, false, false, false, undef, undef, undef, undef, undef, rfl, rfl, by simp, by simp, by simp, by simp, by simp, hx1, drew_below' _ _, by rw [← hw1s]; exact Nat.le_refl _, by simp, by simp⟩
    case last =>
      rintro listed a' W ⟨l0, l1, l2, l3, l4, l5, l6, v14, v15, v16, v5, v6, rfl, _⟩ hcount
      have hall := all_seven l0 l1 l2 l3 l4 l5 l6 hcount
      obtain ⟨rfl, rfl, rfl, rfl, rfl, rfl, rfl⟩ := hall
      rfl
    case fin =>
      rintro listed a' W ⟨l0, l1, l2, l3, l4, l5, l6, v14, v15, v16, v5, v6, rfl, rfl, f0, f1, f2, f3, f4, hx, hB, hs, f5, f6⟩ hnil
      have hno : ∀ i, i ∉ Region.ready .any _ #[l0, l1, l2, l3, l4, l5, l6] := fun i => by rw [hnil]; simp
      have q0 : l0 = true := by
        cases l0 with
        | true => rfl
        | false =>
          refine absurd (mem_ready.2 ⟨rfl, _, rfl, fun e he hbd => ?_⟩) (hno 0)
          simp at he
          try first
            | (rcases he with rfl | rfl | rfl | rfl | rfl | rfl | rfl | rfl | rfl <;> rfl)
            | (rcases he with rfl | rfl | rfl | rfl | rfl | rfl | rfl | rfl <;> rfl)
            | (subst he; first | rfl | cases hbd)
      subst q0
      have q1 : l1 = true := by
        cases l1 with
        | true => rfl
        | false =>
          refine absurd (mem_ready.2 ⟨rfl, _, rfl, fun e he hbd => ?_⟩) (hno 1)
          simp at he
          try first
            | (rcases he with rfl | rfl | rfl | rfl | rfl | rfl | rfl | rfl | rfl <;> rfl)
            | (rcases he with rfl | rfl | rfl | rfl | rfl | rfl | rfl | rfl <;> rfl)
            | (subst he; first | rfl | cases hbd)
      subst q1
      have q3 : l3 = true := by
        cases l3 with
        | true => rfl
        | false =>
          refine absurd (mem_ready.2 ⟨rfl, _, rfl, fun e he hbd => ?_⟩) (hno 3)
          simp at he
          try first
            | (rcases he with rfl | rfl | rfl | rfl | rfl | rfl | rfl | rfl | rfl <;> rfl)
            | (rcases he with rfl | rfl | rfl | rfl | rfl | rfl | rfl | rfl <;> rfl)
            | (subst he; first | rfl | cases hbd)
      subst q3
      have q4 : l4 = true := by
        cases l4 with
        | true => rfl
        | false =>
          refine absurd (mem_ready.2 ⟨rfl, _, rfl, fun e he hbd => ?_⟩) (hno 4)
          simp at he
          try first
            | (rcases he with rfl | rfl | rfl | rfl | rfl | rfl | rfl | rfl | rfl <;> rfl)
            | (rcases he with rfl | rfl | rfl | rfl | rfl | rfl | rfl | rfl <;> rfl)
            | (subst he; first | rfl | cases hbd)
      subst q4
      have q2 : l2 = true := by
        cases l2 with
        | true => rfl
        | false =>
          refine absurd (mem_ready.2 ⟨rfl, _, rfl, fun e he hbd => ?_⟩) (hno 2)
          simp at he
          try first
            | (rcases he with rfl | rfl | rfl | rfl | rfl | rfl | rfl | rfl | rfl <;> rfl)
            | (rcases he with rfl | rfl | rfl | rfl | rfl | rfl | rfl | rfl <;> rfl)
            | (subst he; first | rfl | cases hbd)
      subst q2
      have q5 : l5 = true := by
        cases l5 with
        | true => rfl
        | false =>
          refine absurd (mem_ready.2 ⟨rfl, _, rfl, fun e he hbd => ?_⟩) (hno 5)
          simp at he
          try first
            | (rcases he with rfl | rfl | rfl | rfl | rfl | rfl | rfl | rfl | rfl <;> rfl)
            | (rcases he with rfl | rfl | rfl | rfl | rfl | rfl | rfl | rfl <;> rfl)
            | (subst he; first | rfl | cases hbd)
      subst q5
      have q6 : l6 = true := by
        cases l6 with
        | true => rfl
        | false =>
          refine absurd (mem_ready.2 ⟨rfl, _, rfl, fun e he hbd => ?_⟩) (hno 6)
          simp at he
          try first
            | (rcases he with rfl | rfl | rfl | rfl | rfl | rfl | rfl | rfl | rfl <;> rfl)
            | (rcases he with rfl | rfl | rfl | rfl | rfl | rfl | rfl | rfl <;> rfl)
            | (subst he; first | rfl | cases hbd)
      subst q6
      obtain ⟨b5, rfl, g5, r5⟩ := f3 rfl
      obtain ⟨b6, rfl, g6, r6⟩ := f4 rfl
      show Exit.then _ _ Exit.normal (fr _ _ _ _ _ _ _ _) _
      unfold fr
      go_wp2_with fail
      go_meet
      refine ⟨b5, b6, rfl, rfl, g5, g6, ?_, ?_, hx, hB⟩
      · rw [Row, HR.out]; exact r5
      · rw [Row, show (u32s x.list).toArray = X from HX.out]; exact r6
    case step =>
      rintro listed a' W i ⟨l0, l1, l2, l3, l4, l5, l6, v14, v15, v16, v5, v6, rfl, rfl, f0, f1, f2, f3, f4, hx, hB, hs, f5, f6⟩ hi
      obtain ⟨hl, o, ho, hd⟩ := mem_ready.1 hi
      match i, ho with
      | 0, ho =>
        have ho0 := ho
        simp only [List.getElem?_toArray, List.getElem?_cons_succ, List.getElem?_cons_zero, Option.some.injEq] at ho
        subst ho
        refine wpOp_of ho0 rfl (wp_val (v := .slice a n cap) (w' := W) rfl ?_)
        exact ⟨true, l1, l2, l3, l4, l5, l6, .slice a n cap, v15, v16, v5, v6, rfl, rfl, fun _ => rfl, f1, f2, f3, f4, hx, hB, hs, f5, f6⟩
      | 1, ho =>
        have ho0 := ho
        simp only [List.getElem?_toArray, List.getElem?_cons_succ, List.getElem?_cons_zero, Option.some.injEq] at ho
        subst ho
        have h0 : l0 = true := by
            exact hd _ (Array.getElem_mem (i := 0) (by decide)) rfl
        obtain rfl := f0 h0
        refine wpOp_of ho0 rfl (wp_enter (f := 27) (args := #[.slice a n cap]) (w' := W) (by go_simp; rfl) ?_)
        refine (words_any _ _ _ b _ hn (hb1.below (by rw [hw1s]; exact hB)) hnl hc hc2).mono ?_
        rintro e w5 ⟨rfl, hBk⟩
        rw [HR.out]
        refine ⟨_, rfl, l0, true, l2, l3, l4, l5, l6, .slice a n cap, _, v16, v5, v6, rfl, rfl, f0, fun _ => rfl, f2, fun h => ?_, fun h => ?_, ?_, hB.trans (hBk.mono hs), Nat.le_trans hs hBk.size, f5, f6⟩
        · obtain ⟨b5, e5, g5, r5⟩ := f3 h
          exact ⟨b5, e5, g5, (hBk.block _ (Array.getElem?_eq_some_iff.1 r5).1).trans r5⟩
        · obtain ⟨b5, e5, g5, r5⟩ := f4 h
          exact ⟨b5, e5, g5, (hBk.block _ (Array.getElem?_eq_some_iff.1 r5).1).trans r5⟩
        · exact (hBk.block _ (Array.getElem?_eq_some_iff.1 hx).1).trans hx
      | 2, ho =>
        have ho0 := ho
        simp only [List.getElem?_toArray, List.getElem?_cons_succ, List.getElem?_cons_zero, Option.some.injEq] at ho
        subst ho
        refine wpOp_of ho0 rfl (wp_load_row 45 _ rfl w.heap.size rfl 45 X (0, 0) _ hx Try.underlying45 rfl (by rw [HXs.out]; exact info45) ?_)
        exact ⟨l0, l1, true, l3, l4, l5, l6, v14, v15, .agg X, v5, v6, rfl, rfl, f0, f1, fun _ => rfl, f3, f4, hx, hB, hs, f5, f6⟩
      | 3, ho =>
        have ho0 := ho
        simp only [List.getElem?_toArray, List.getElem?_cons_succ, List.getElem?_cons_zero, Option.some.injEq] at ho
        subst ho
        have h3 : l3 = false := hl
        have h5 : l5 = false := by cases l5 with | false => rfl | true => exact absurd (f5 rfl) (by rw [h3]; simp)
        subst h5
        refine wpOp_of ho0 rfl (wp_val (v := .pointer (some ⟨W.heap.size, 0, none⟩)) (w' := W.alloc (.cells (zeroV 64) 57)) (by go_simp) ?_)
        refine ⟨l0, l1, l2, true, l4, false, l6, v14, v15, v16, _, v6, rfl, rfl, f0, f1, f2, fun _ => ⟨_, rfl, hs, heap_alloc_new _ _⟩, fun h => ?_, ?_, hB.alloc hs _, by simp; omega, by simp, f6⟩
        · obtain ⟨b5, e5, g5, r5⟩ := f4 h
          exact ⟨b5, e5, g5, (heap_alloc_old _ _ (Array.getElem?_eq_some_iff.1 r5).1).trans r5⟩
        · exact (heap_alloc_old _ _ (Array.getElem?_eq_some_iff.1 hx).1).trans hx
      | 4, ho =>
        have ho0 := ho
        simp only [List.getElem?_toArray, List.getElem?_cons_succ, List.getElem?_cons_zero, Option.some.injEq] at ho
        subst ho
        have h3 : l4 = false := hl
        have h5 : l6 = false := by cases l6 with | false => rfl | true => exact absurd (f6 rfl) (by rw [h3]; simp)
        subst h5
        refine wpOp_of ho0 rfl (wp_val (v := .pointer (some ⟨W.heap.size, 0, none⟩)) (w' := W.alloc (.cells (zeroV 8) 45)) (by go_simp) ?_)
        refine ⟨l0, l1, l2, l3, true, l5, false, v14, v15, v16, v5, _, rfl, rfl, f0, f1, f2, fun h => ?_, fun _ => ⟨_, rfl, hs, heap_alloc_new _ _⟩, ?_, hB.alloc hs _, by simp; omega, f5, by simp⟩
        · obtain ⟨b5, e5, g5, r5⟩ := f3 h
          exact ⟨b5, e5, g5, (heap_alloc_old _ _ (Array.getElem?_eq_some_iff.1 r5).1).trans r5⟩
        · exact (heap_alloc_old _ _ (Array.getElem?_eq_some_iff.1 hx).1).trans hx
      | 5, ho =>
        have ho0 := ho
        simp only [List.getElem?_toArray, List.getElem?_cons_succ, List.getElem?_cons_zero, Option.some.injEq] at ho
        subst ho
        have d3 : l3 = true := hd _ (Array.getElem_mem (i := 0) (by decide)) rfl
        have d1 : l1 = true := hd _ (Array.getElem_mem (i := 1) (by decide)) rfl
        have h5 : l5 = false := hl
        subst h5
        obtain rfl := f1 d1
        obtain ⟨b5, rfl, g5, r5⟩ := f3 d3
        refine wpOp_of ho0 rfl (wp_store_row 57 _ _ rfl b5 R rfl rfl 57 (zeroV 64) r5 (by rw [info57, HRs.out]) (by rw [HRs.out]; simp [zeroV]) HR1.out ?_)
        refine ⟨l0, l1, l2, l3, l4, true, l6, v14, _, v16, _, v6, rfl, rfl, f0, f1, f2, fun _ => ⟨b5, rfl, g5, setRow_heap _ _ _ _ _ _ r5⟩, fun h => ?_, ?_, below_setRow' hB _ _ g5, by simpa [World.setRow] using hs, fun _ => d3, f6⟩
        · obtain ⟨b6, e6, g6, r6⟩ := f4 h
          refine ⟨b6, e6, g6, ?_⟩
          rw [setRow_other _ _ _ _ (by rintro rfl; rw [r5] at r6; simp at r6)]; exact r6
        · rw [setRow_other _ _ _ _ (by omega)]; exact hx
      | 6, ho =>
        have ho0 := ho
        simp only [List.getElem?_toArray, List.getElem?_cons_succ, List.getElem?_cons_zero, Option.some.injEq] at ho
        subst ho
        have d4 : l4 = true := hd _ (Array.getElem_mem (i := 0) (by decide)) rfl
        have d2 : l2 = true := hd _ (Array.getElem_mem (i := 1) (by decide)) rfl
        have h6 : l6 = false := hl
        subst h6
        obtain rfl := f2 d2
        obtain ⟨b6, rfl, g6, r6⟩ := f4 d4
        refine wpOp_of ho0 rfl (wp_store_row 45 _ _ rfl b6 X rfl rfl 45 (zeroV 8) r6 (by rw [info45, HXs.out]) (by rw [HXs.out]; simp [zeroV]) HX1.out ?_)
        refine ⟨l0, l1, l2, l3, l4, l5, true, v14, v15, _, v5, _, rfl, rfl, f0, f1, f2, fun h => ?_, fun _ => ⟨b6, rfl, g6, setRow_heap _ _ _ _ _ _ r6⟩, ?_, below_setRow' hB _ _ g6, by simpa [World.setRow] using hs, f5, fun _ => d4⟩
        · obtain ⟨b5, e5, g5, r5⟩ := f3 h
          refine ⟨b5, e5, g5, ?_⟩
          rw [setRow_other _ _ _ _ (by rintro rfl; rw [r6] at r5; simp at r5)]; exact r5
        · rw [setRow_other _ _ _ _ (by omega)]; exact hx
      | k + 7, ho => simp at ho
  case rest =>
    obtain ⟨b5, b6, rfl, rfl, g5, g6, r5, r6, hx, hB⟩ := hcut
    have R5 := Lib.hid r5; have R6 := Lib.hid r6; have HXR := Lib.hid hx; have HB := Lib.hid hB
    clear r5 r6 hx hB
    have hne : b5 ≠ b6 := by
      rintro rfl
      have h1 := R5.out; have h2 := R6.out
      rw [Row] at h1 h2
      rw [h1] at h2; simp at h2
    go_wp2_with fail
    refine (keys_any _).mono ?_
    rintro e wk ⟨rfl, hBk⟩
    have r5 : Row wk b5 57 (words b) := R5.out.below hBk
    have r6 : Row wk b6 45 x.list := R6.out.below hBk
    have R5' := Lib.hid r5; have R6' := Lib.hid r6
    have hws : w.heap.size + 2 ≤ wc.heap.size := by have := HB.out.size; omega
    have HBW : Hid (Below (w.heap.size + 2) w1 wk) := Lib.hid (HB.out.trans (hBk.mono hws))
    obtain ⟨KV, hKV⟩ : ∃ KV, keysV = KV := ⟨_, rfl⟩
    rw [hKV]
    have HKV := Lib.hid hKV
    clear r5 r6 hBk hKV R5 R6
    go_wp2_with fail
    go_loopw [18] (fun i wr => ∃ k : Nat, k ≤ 64 ∧ i = .int .i64 k ∧ Row wr b6 45 (rounds x b k).list ∧ Row wr b5 57 (words b) ∧ Below (w.heap.size + 2) w1 wr) (fun i _ => 64 - (intOf i).toNat)
    case atStart => exact ⟨0, by omega, rfl, R6'.out, R5'.out, HBW.out⟩
    case round =>
      obtain ⟨k, hk, rfl, hr6, hr5, hbel⟩ := hrel
      obtain ⟨y, hy⟩ : ∃ y, rounds x b k = y := ⟨_, rfl⟩
      rw [hy] at hr6
      obtain ⟨A, B, C, D, E, F, G, H⟩ := y
      have HY := Lib.hid hy; have HR6 := Lib.hid hr6; have HR5 := Lib.hid hr5; have HBEL := Lib.hid hbel
      have c0 : wr.cell? ⟨b6, 0, none⟩ = some (.int .u32 (A.toNat : Int)) := hr6.cell rfl
      have c1 : wr.cell? ⟨b6, 1, none⟩ = some (.int .u32 (B.toNat : Int)) := hr6.cell rfl
      have c2 : wr.cell? ⟨b6, 2, none⟩ = some (.int .u32 (C.toNat : Int)) := hr6.cell rfl
      have c3 : wr.cell? ⟨b6, 3, none⟩ = some (.int .u32 (D.toNat : Int)) := hr6.cell rfl
      have c4 : wr.cell? ⟨b6, 4, none⟩ = some (.int .u32 (E.toNat : Int)) := hr6.cell rfl
      have c5 : wr.cell? ⟨b6, 5, none⟩ = some (.int .u32 (F.toNat : Int)) := hr6.cell rfl
      have c6 : wr.cell? ⟨b6, 6, none⟩ = some (.int .u32 (G.toNat : Int)) := hr6.cell rfl
      have c7 : wr.cell? ⟨b6, 7, none⟩ = some (.int .u32 (H.toNat : Int)) := hr6.cell rfl
      clear hy hr6 hbel
      by_cases hlt : k < 64
      · obtain ⟨kw, hkw⟩ : ∃ kw, keys.getD k 0 = kw := ⟨_, rfl⟩
        obtain ⟨ww, hww⟩ : ∃ ww, (words b).getD k 0 = ww := ⟨_, rfl⟩
        have cw : wr.cell? ⟨b5, k, none⟩ = some (.int .u32 (ww.toNat : Int)) := hr5.cell (by
          have hl : k < (words b).length := by unfold words; rw [upto_length]; exact hlt
          rw [List.getElem?_eq_getElem hl, ← hww, List.getD_eq_getElem?_getD, List.getElem?_eq_getElem hl]; rfl)
        have ck : KV[k]? = some (.int .u32 (kw.toNat : Int)) := by
          have hl : k < keys.length := hlt
          rw [← HKV.out, ← hkw, keysV]
          simp [u32s, List.getElem?_eq_getElem hl]
        have hks : KV.size = 64 := by rw [← HKV.out]; rfl
        have HKW := Lib.hid hkw; have HWW := Lib.hid hww
        clear hkw hww hr5
        have hsg : IntKind.u32.signed = false := rfl
        have hmx : IntKind.u32.max = 4294967295 := rfl
        have hki : (k : Int) < 64 := by omega
        have hk0 : (0 : Int) ≤ (k : Int) := by omega
        have hidx : (Instr.index 57 (.agg KV) (.int .i64 (k : Int))).run Try.prog wr = .ok (.int .u32 (kw.toNat : Int)) wr := by
          have hs43 : (sizeOf 43).run Try.prog wr = .ok 1 wr := by
            have h := info43
            cases hi : Try.prog.info? 43 with
            | none => rw [hi] at h; simp at h
            | some i43 => rw [hi] at h; simp at h; simp [sizeOf, typeInfo, hi, h]
          simp [Instr.index, run_underlying Try.underlying57, asIntOf, hki, hs43, part, go_sem, ck]
          intro hbad; omega
        go_wp2_with fail
        go_quiet (fail)
        go_wp2_with fail
        go_region_held3 (fun w' => w'.cell? ⟨b6, 5, none⟩ = some (.int .u32 (F.toNat : Int)) ∧ w'.cell? ⟨b6, 6, none⟩ = some (.int .u32 (G.toNat : Int)) ∧ w'.cell? ⟨b6, 7, none⟩ = some (.int .u32 (H.toNat : Int)) ∧ w'.cell? ⟨b5, k, none⟩ = some (.int .u32 (ww.toNat : Int)))
          (first | (simp only [World.cell?_drewN, World.cell?_drew]; exact ⟨c5, c6, c7, cw⟩) | exact ⟨c5, c6, c7, cw⟩ | go_keep) (first | (go_at_call 29; refine (great_6 _ _).mono ?_; rintro e _ ⟨rfl, rfl⟩; dsimp only))
        go_wp2_with fail
        go_region_held3 (fun w' => w'.cell? ⟨b6, 1, none⟩ = some (.int .u32 (B.toNat : Int)) ∧ w'.cell? ⟨b6, 2, none⟩ = some (.int .u32 (C.toNat : Int)))
          (first | exact ⟨c1, c2⟩ | go_keep) (first | (go_at_call 29; refine (great_2 _ _).mono ?_; rintro e _ ⟨rfl, rfl⟩; dsimp only))
        go_wp2_with fail
        have e1 : IntKind.u32.wrap (IntKind.u32.wrap (IntKind.u32.wrap (IntKind.u32.wrap ((H.toNat : Int) + ((great E 6 11 25).toNat : Int)) + bits .xor .u32 (bits .and .u32 (E.toNat : Int) (F.toNat : Int)) (bits .and .u32 (bits .xor .u32 4294967295 (E.toNat : Int)) (G.toNat : Int))) + (kw.toNat : Int)) + (ww.toNat : Int)) = ((t1 ⟨A, B, C, D, E, F, G, H⟩ kw ww).toNat : Int) := by
          rw [and_nat, not_nat, and_nat, xor_nat]
          simp only [IntKind.wrap_u32]
          rw [add_nat, add_nat, add_nat, add_nat]; rfl
        have e2 : IntKind.u32.wrap (((great A 2 13 22).toNat : Int) + bits .xor .u32 (bits .xor .u32 (bits .and .u32 (A.toNat : Int) (B.toNat : Int)) (bits .and .u32 (A.toNat : Int) (C.toNat : Int))) (bits .and .u32 (B.toNat : Int) (C.toNat : Int))) = ((t2 ⟨A, B, C, D, E, F, G, H⟩).toNat : Int) := by
          rw [and_nat, and_nat, and_nat, xor_nat, xor_nat]
          simp only [IntKind.wrap_u32]
          rw [add_nat]; rfl
        rw [e1, e2]
        obtain ⟨T1, hT1⟩ : ∃ T, t1 ⟨A, B, C, D, E, F, G, H⟩ kw ww = T := ⟨_, rfl⟩
        obtain ⟨T2, hT2⟩ : ∃ T, t2 ⟨A, B, C, D, E, F, G, H⟩ = T := ⟨_, rfl⟩
        rw [hT1, hT2]
        have HT1 := Lib.hid hT1; have HT2 := Lib.hid hT2
        clear hT1 hT2 e1 e2 hidx ck hks
        have hsrc := row_src HR6.out 7
        go_region_law (refine step_copy_row rfl (.tmp 66) (.tmp 67) 61 61 rfl 43 Try.underlying61 info43 b6 1 7 7 ⟨b6, 0, none⟩ 7 8 (by rfl) (by rfl) (u32s [A, B, C, D, E, F, G, H]).toArray 45 HR6.out (u32s [A, B, C, D, E, F, G]) (by rfl) hsrc (by simp [u32s]) (u32s_one _) (u32s [A, A, B, C, D, E, F, G]).toArray (by rfl) ?_)
        obtain ⟨w9, hw9⟩ : ∃ w9, (wr.drewN (nq + 1 + 1 + 1)).setRow b6 (u32s [A, A, B, C, D, E, F, G]).toArray = w9 := ⟨_, rfl⟩
        have r6 : Row w9 b6 45 [A, A, B, C, D, E, F, G] := by rw [← hw9]; exact setRow_heap _ _ _ _ _ _ HR6.out
        have r5 : Row w9 b5 57 (words b) := by
          rw [← hw9, Row, setRow_other _ _ _ _ hne]; exact HR5.out
        have hB9 : Below (w.heap.size + 2) w1 w9 := by
          have hdn : Below (w.heap.size + 2) w1 (wr.drewN (nq + 1 + 1 + 1)) := HBEL.out.trans ⟨rfl, rfl, rfl, Nat.le_refl _, fun _ _ => rfl⟩
          rw [← hw9]; exact below_setRow' hdn _ _ g6
        have d4 : w9.cell? ⟨b6, 4, none⟩ = some (.int .u32 (D.toNat : Int)) := r6.cell rfl
        have d0 : w9.cell? ⟨b6, 0, none⟩ = some (.int .u32 (A.toNat : Int)) := r6.cell rfl
        have df4 : w9.frozen? ⟨b6, 4, none⟩ = false := r6.frozen 4
        have df0 : w9.frozen? ⟨b6, 0, none⟩ = false := r6.frozen 0
        rw [hw9]
        have R6'' := Lib.hid r6; have R5'' := Lib.hid r5; have HB9 := Lib.hid hB9
        obtain ⟨DT, hDT⟩ : ∃ s, D + T1 = s := ⟨_, rfl⟩
        obtain ⟨TT, hTT⟩ : ∃ s, T1 + T2 = s := ⟨_, rfl⟩
        have s1 := add_nat D T1
        have s2 := add_nat T1 T2
        rw [hDT] at s1
        rw [hTT] at s2
        have HDT := Lib.hid hDT; have HTT := Lib.hid hTT
        clear hDT hTT
        clear r6 r5 hB9 hw9 c0 c1 c2 c3 c4 c5 c6 c7 cw hsrc
        go_wp2_with fail
        go_roundw
        case rel =>
          refine ⟨k + 1, by omega, by go_num, ?_, ?_, (HB9.out.setCell (p := ⟨b6, 4, none⟩) g6 _).setCell (p := ⟨b6, 0, none⟩) g6 _⟩
          · have hr : rounds x b (k + 1) = ⟨TT, A, B, C, DT, E, F, G⟩ := by
              rw [rounds, HY.out, HKW.out, HWW.out, round, HT1.out, HT2.out]; simp only [HDT.out, HTT.out]
            rw [hr]
            exact (R6''.out.set 4 DT).set 0 TT
          · rw [Row, World.setCell_heap_ne _ _ hne, World.setCell_heap_ne _ _ hne]; exact R5''.out
        case measure => simp [intOf]; omega
      · obtain rfl : k = 64 := by omega
        have hX : Row wr w.heap.size 45 x.list := by
          rw [Row, show (u32s x.list).toArray = X from HX.out]
          exact (HBEL.out.block _ (by omega)).trans hx1
        have HXW := Lib.hid hX
        have hr2 : wr.heap[w.heap.size + 1]? = some (.cells (zeroV 8) 45 (0, 0)) := (HBEL.out.block _ (by omega)).trans hr1
        have hb6 : w.heap.size ≠ b6 := by omega
        have hy64 : (⟨A, B, C, D, E, F, G, H⟩ : St) = rounds x b 64 := HY.out.symm
        obtain ⟨y, hye⟩ : ∃ y : St, ⟨A, B, C, D, E, F, G, H⟩ = y := ⟨_, rfl⟩
        rw [hye] at HR6
        have HYE := Lib.hid (hye ▸ hy64 : y = rounds x b 64)
        clear c0 c1 c2 c3 c4 c5 c6 c7 hX hy64 hye HY hr2
        go_wp2_with fail
        go_loopw [79] (fun i wq => ∃ j : Nat, j ≤ 8 ∧ i = .int .i64 j ∧ Row wq b6 45 (mixed y.list x.list j) ∧ Below (w.heap.size + 2) w1 wq) (fun i _ => 8 - (intOf i).toNat)
        case atStart => exact ⟨0, by omega, rfl, HR6.out, HBEL.out⟩
        case round =>
          obtain ⟨j, hj, rfl, hrow, hbel⟩ := hrel
          obtain ⟨M, hM⟩ : ∃ M, mixed y.list x.list j = M := ⟨_, rfl⟩
          have hMl : M.length = 8 := by rw [← hM, mixed_length]; rfl
          rw [hM] at hrow
          have HM := Lib.hid hM; have HROW := Lib.hid hrow; have HBQ := Lib.hid hbel; have HML := Lib.hid hMl
          clear hM hrow hbel hMl
          by_cases hlj : j < 8
          · obtain ⟨p, hp⟩ : ∃ p, M.getD j 0 = p := ⟨_, rfl⟩
            obtain ⟨q, hq⟩ : ∃ q, x.list.getD j 0 = q := ⟨_, rfl⟩
            have cp : wr.cell? ⟨b6, j, none⟩ = some (.int .u32 (p.toNat : Int)) := by
              rw [← hp]; exact HROW.out.cell (getD_some M j (by rw [HML.out]; exact hlj))
            have cq : wr.cell? ⟨w.heap.size, j, none⟩ = some (.int .u32 (q.toNat : Int)) := by
              have hX : Row wr w.heap.size 45 x.list := by
                rw [Row, show (u32s x.list).toArray = X from HX.out]
                exact (HBQ.out.block _ (by omega)).trans hx1
              rw [← hq]; exact hX.cell (getD_some x.list j hlj)
            have ff : wr.frozen? ⟨b6, j, none⟩ = false := HROW.out.frozen j
            obtain ⟨sm, hsm⟩ : ∃ s, p + q = s := ⟨_, rfl⟩
            have s1 := add_nat p q
            rw [hsm] at s1
            have HSM := Lib.hid hsm; have HP := Lib.hid hp; have HQ := Lib.hid hq
            clear hsm hp hq
            have hji : (j : Int) < 8 := by omega
            have hj0 : (0 : Int) ≤ (j : Int) := by omega
            go_wp2_with fail
            go_region
            go_wp2_with fail
            go_roundw
            case rel =>
              refine ⟨j + 1, by omega, by go_num, ?_, (HBQ.out.setCell (p := ⟨b6, j, none⟩) g6 _).drew⟩
              rw [mixed, HM.out, HP.out, HQ.out, HSM.out]
              exact HROW.out.set j sm
            case measure => simp [intOf]; omega
          · obtain rfl : j = 8 := by omega
            have hfin : M = (y.add x).list := by rw [← HM.out, mixed_all]
            rw [hfin] at HROW
            have hr2 : wr.heap[w.heap.size + 1]? = some (.cells (zeroV 8) 45 (0, 0)) := (HBQ.out.block _ (by omega)).trans hr1
            obtain ⟨Y, hY⟩ : ∃ Y, (u32s (y.add x).list).toArray = Y := ⟨_, rfl⟩
            have hrow := HROW.out
            rw [Row, hY] at hrow
            have hys : Y.size = 8 := by rw [← hY]; rfl
            have hone : Y.all (·.oneCell') = true := by rw [← hY]; exact all_oneCell_toArray (u32s_one _)
            have hsz : (Try.prog.info? 45).map (·.size) = some Y.size := by rw [info45, hys]
            have HYY := Lib.hid hY; have HRW := Lib.hid hrow; have HSZ := Lib.hid hsz; have HON := Lib.hid hone; have HR2 := Lib.hid hr2; have HYS := Lib.hid hys
            clear hY hrow hsz hone hr2 hys hfin
            go_wp2_with (first
              | refine wpList_load_row rfl 45 _ rfl b6 rfl 45 Y (0, 0) _ HRW.out Try.underlying45 rfl HSZ.out ?_
              | refine wpList_store_rowTo rfl 45 _ _ rfl rfl (w.heap.size + 1) Y rfl rfl 45 (zeroV 8) HR2.out HSZ.out (by rw [HYS.out]; rfl) HON.out ?_)
            refine bodyPost_ret_by (results_cell_row rfl _ _ (w.heap.size + 1) 45 Y (0, 0) _ rfl (setRow_heap _ _ _ _ _ _ HR2.out) Try.underlying45 rfl HSZ.out) rfl ⟨?_, ?_⟩
            · rw [← HYY.out, HYE.out]; rfl
            · refine below_setRow ?_ _ _ (by omega)
              have h1 : Below w.heap.size w w1 := by rw [← hw1]; go_grown
              exact h1.trans (HBQ.out.mono (by omega))
end Go.Proofs.Ytdbdikgjelhfbaa
