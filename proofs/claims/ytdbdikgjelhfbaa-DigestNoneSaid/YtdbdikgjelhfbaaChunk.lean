/-
  The iterator Chunk of the package slices at bytes, over any row in memory, yields the row's pieces of 64 bytes, one after another, the last one shorter.
-/
import Derived.Test.YtdbdikgjelhfbaaPieces
import Derived.RangeFuncNested
import Derived.RangeFuncBound
import Derived.RangeFuncCalls
import Derived.Shelf.RegionOpen
import Derived.BigGuardIn
import Derived.OwnWalkIn
import Derived.TacticsInMore
import Derived.LoopNIn
import Derived.LoopIn
import Derived.BigRegionIn
namespace Go.Proofs.Ytdbdikgjelhfbaa
open Go.RowKit Go.Shelf Sha
attribute [local go_sem] Oper.semAt_some
set_option linter.unusedSimpArgs false

/-- A piece's number: it begins within the row. -/
abbrev Ck (L : Nat) := { k : Nat // 64 * k < L }
def ckLen (L k : Nat) : Nat := min 64 (L - 64 * k)
def encK (g L : Nat) (x : Ck L) : Array Value := #[.slice (some ⟨g, 64 * x.1, none⟩) (ckLen L x.1) (ckLen L x.1)]
/-- Two blocks lie as they lay. -/
def Keep2 (b1 b2 : Nat) (W W' : World) : Prop := W.heap.size ≤ W'.heap.size ∧ W'.heap[b1]? = W.heap[b1]? ∧ W'.heap[b2]? = W.heap[b2]?
theorem Keep2.refl (b1 b2 : Nat) (W : World) : Keep2 b1 b2 W W := ⟨Nat.le_refl _, rfl, rfl⟩
theorem Keep2.trans {b1 b2 : Nat} {A B C : World} (h : Keep2 b1 b2 A B) (k : Keep2 b1 b2 B C) : Keep2 b1 b2 A C := ⟨Nat.le_trans h.1 k.1, k.2.1.trans h.2.1, k.2.2.trans h.2.2⟩
theorem cell_of_heap {W W' : World} {b o : Nat} (h : W'.heap[b]? = W.heap[b]?) : W'.cell? ⟨b, o, none⟩ = W.cell? ⟨b, o, none⟩ := by
  unfold World.cell?; rw [show W'.heap[(⟨b, o, none⟩ : Addr).block]? = W.heap[(⟨b, o, none⟩ : Addr).block]? from h]
theorem Keep2.grown {b1 b2 : Nat} {W W' : World} {row : Option Nat} (h : W.grownBy W' row) (h1 : b1 < W.heap.size) (h2 : b2 < W.heap.size) (r1 : some b1 ≠ row) (r2 : some b2 ≠ row) : Keep2 b1 b2 W W' := ⟨h.size, h.block b1 h1 r1, h.block b2 h2 r2⟩
theorem Keep2.putObj {b1 b2 : Nat} {B : Nat} (h1 : b1 < B) (h2 : b2 < B) (W : World) (l : Nat) (o o' : Obj) (hl : B ≤ l) (_ : W.heap[l]? = some o) (_ : o.isCells = false) (_ : o.isWalk = false) : Keep2 b1 b2 W (W.putObj l o') :=
  ⟨by simp [World.putObj], World.putObj_heap_other (by omega), World.putObj_heap_other (by omega)⟩
def many (L : Nat) : Nat := (L + 63) / 64
def AllK (L : Nat) (ys : List (Ck L)) : Prop := ys.map (·.1) = List.range (many L)
def FrontK (L : Nat) (pre : List (Ck L)) : Prop := pre.map (·.1) = List.range pre.length

set_option maxRecDepth 100000 in
set_option maxHeartbeats 1000000 in
theorem chunk1_in (n : Nat) (hn : 1 ≤ n) (l Bs Bn g : Nat) (L c : Nat) (a : Option Addr) (ha : 0 < L → a = some ⟨g, 0, none⟩) (hL : L ≤ 140737488351232) (hLc : L ≤ c) (hc9 : c ≤ 9223372036854775807) (J Jx : List (Ck L) → World → Prop)
    (hY : ∀ pre x W, J pre W → pre.length < L + 1 → YieldAt Fence.wide (n - 1) Try.prog l (encK g L x) W fun e W' =>
      (e = .returned (.bool true) ∧ J (pre ++ [x]) W' ∧ Keep2 Bs Bn W W') ∨ (e = .returned (.bool false) ∧ Jx (pre ++ [x]) W'))
    (hJ : ∀ p W, J p W → J p W.drew)
    (W : World) (hBs : W.cell? ⟨Bs, 0, none⟩ = some (.slice a L c)) (hBn : W.cell? ⟨Bn, 0, none⟩ = some (.int .i64 64)) (h0 : J [] W) :
    CallsIn Fence.wide n Try.prog 26 #[.func (.yield l) #[] #[], .pointer (some ⟨Bs, 0, none⟩), .pointer (some ⟨Bn, 0, none⟩)] W fun e W' => (∃ v, e = .returned v) ∧
      ((∃ ys, AllK L ys ∧ J ys W') ∨ (∃ pre, FrontK L pre ∧ Jx pre W')) := by
  refine callsIn_of_wp Try.func26 rfl trivial ?_ rfl
  simp only [Try.ntmps26, List.size_toArray, List.length_cons, List.length_nil, Nat.reduceAdd, Nat.reduceSub, Array.replicate_succ, Array.replicate_zero, List.push_toArray, List.append_toArray, List.nil_append, List.cons_append]
  gi_wp2_with fail
  gi_loopw [4] (fun p wr => ∃ (pre : List (Ck L)), FrontK L pre ∧ 64 * pre.length < L + 64 ∧ p = .int .i64 (64 * pre.length : Nat) ∧ J pre wr ∧ wr.cell? ⟨Bs, 0, none⟩ = some (.slice a L c) ∧ wr.cell? ⟨Bn, 0, none⟩ = some (.int .i64 64))
    (fun p wr => L + 64 - (intOf p).toNat)
  case atStart => exact ⟨[], rfl, by simp, rfl, h0, hBs, hBn⟩
  case round =>
    obtain ⟨pre, hF, hlt, rfl, hJp, hcs, hcn⟩ := hrel
    obtain ⟨k, hk⟩ : ∃ k, pre.length = k := ⟨_, rfl⟩
    rw [hk] at hlt ⊢
    have HF := Lib.hid hF; have HJ := Lib.hid hJp; have HK := Lib.hid hk; have HY := Lib.hid hY; have HJD := Lib.hid hJ
    clear hF hJp hk h0 hY hJ hBs hBn
    obtain ⟨i, hi⟩ : ∃ i, 64 * k = i := ⟨_, rfl⟩
    rw [hi] at hlt ⊢
    have HI := Lib.hid hi
    clear hi
    by_cases hend : i < L
    · obtain rfl := ha (by omega)
      obtain ⟨m, hmk⟩ : ∃ m, ckLen L k = m := ⟨_, rfl⟩
      have hmm : min (64 : Int) ((L - i : Nat) : Int) = (m : Int) := by
        have := HI.out
        rw [← hmk]; unfold ckLen; omega
      have hm1 : 1 ≤ m := by have := HI.out; rw [← hmk]; unfold ckLen; omega
      have hm64 : m ≤ 64 := by rw [← hmk]; unfold ckLen; omega
      have hmL : i + m ≤ L := by have := HI.out; rw [← hmk]; unfold ckLen; omega
      have HMM := Lib.hid hmm; have HMK := Lib.hid hmk
      clear hmm hmk
      gi_wp2_with fail
      gi_region
      rw [HMM.out]
      have hcs2 : wr.drew.cell? ⟨Bs, 0, none⟩ = some (.slice (some ⟨g, 0, none⟩) L c) := hcs
      have hcn2 : wr.drew.cell? ⟨Bn, 0, none⟩ = some (.int .i64 64) := hcn
      obtain ⟨fn, tmps, assign, body, hy, hR⟩ := HY.out pre ⟨k, by have := HI.out; omega⟩ wr.drew (HJD.out _ _ HJ.out) (by have := HI.out; have := HK.out; omega)
      simp only [encK, HI.out, HMK.out] at hy
      have HRR := Lib.hid hR; clear hR
      gi_wp2_with fail
      refine HRR.out.mono ?_
      rintro e W3 (⟨rfl, hJ3, hk3⟩ | ⟨rfl, hJx3⟩)
      · have hcs3 := (cell_of_heap (o := 0) hk3.2.1).trans hcs2
        have hcn3 := (cell_of_heap (o := 0) hk3.2.2).trans hcn2
        have HJ3 := Lib.hid hJ3; clear hJ3 hk3 hcs hcn hcs2 hcn2
        gi_wp2_with fail
        go_roundw
        case rel =>
          have hki := HI.out
          have hkk := HK.out
          refine ⟨pre ++ [⟨k, by omega⟩], ?_, ?_, ?_, HJ3.out, hcs3, hcn3⟩
          · unfold FrontK
            rw [List.map_append, HF.out, List.length_append, hkk]
            simp [List.range_succ]
          · simp; omega
          · have e : ∀ y : Ck L, (pre ++ [y]).length = k + 1 := fun y => by rw [List.length_append, hkk]; rfl
            rw [e]
            exact congrArg (Value.int .i64) (by omega)
        case measure => simp [intOf]; omega
      · have HJ3 := Lib.hid hJx3; clear hJx3
        gi_wp2_with fail
        refine bodyPost_ret (results_none rfl _ _ _) rfl ?_
        refine ⟨⟨_, rfl⟩, .inr ⟨pre ++ [⟨k, by have := HI.out; omega⟩], ?_, HJ3.out⟩⟩
        unfold FrontK
        rw [List.map_append, HF.out, List.length_append, HK.out]
        simp [List.range_succ]
    · gi_wp2_with fail
      go_end0
      refine ⟨⟨_, rfl⟩, .inl ⟨pre, ?_, HJ.out⟩⟩
      unfold AllK
      rw [HF.out, HK.out]
      have hm : many L = k := by
        unfold many
        have := HI.out
        omega
      rw [hm]
end Go.Proofs.Ytdbdikgjelhfbaa
