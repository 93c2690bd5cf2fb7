/-
  The iterator of All, called on any text, yields the plain row of framed texts, one after another.
-/
import Derived.Test.YtfjighamaamkcaaRefAll
import Derived.RangeFuncNested
import Derived.RangeFuncBound
import Derived.RangeFuncCalls
import Derived.Shelf.RegionOpen
import Derived.BigGuardIn
namespace Go.Proofs.Ytfjighamaamkcaa
open Go.RowKit Go.Shelf
attribute [local go_sem] Oper.semAt_some

def lastEnd (pre : List (Nat × List UInt8)) : Nat := (pre.getLast?.map (·.1)).getD 0
theorem lastEnd_snoc (pre : List (Nat × List UInt8)) (x : Nat × List UInt8) : lastEnd (pre ++ [x]) = x.1 := by simp [lastEnd]
def encE (x : Nat × List UInt8) : Array Value := #[.int .i64 x.1, .string (bs x.2)]

/-- Block b lies as it lay. -/
def KeepB (b : Nat) (W W' : World) : Prop := W.heap.size ≤ W'.heap.size ∧ W'.heap[b]? = W.heap[b]?
theorem KeepB.refl (b : Nat) (W : World) : KeepB b W W := ⟨Nat.le_refl _, rfl⟩
theorem KeepB.trans {b : Nat} {A B C : World} (h : KeepB b A B) (k : KeepB b B C) : KeepB b A C := ⟨Nat.le_trans h.1 k.1, k.2.trans h.2⟩
theorem KeepB.cell {b o : Nat} {W W' : World} (h : KeepB b W W') : W'.cell? ⟨b, o, none⟩ = W.cell? ⟨b, o, none⟩ := by
  unfold World.cell?; rw [show W'.heap[(⟨b, o, none⟩ : Addr).block]? = W.heap[(⟨b, o, none⟩ : Addr).block]? from h.2]
theorem KeepB.below {b : Nat} {W W' : World} (h : Below W.heap.size W W') (hb : b < W.heap.size) : KeepB b W W' := ⟨h.size, h.block b hb⟩
theorem KeepB.grown {b : Nat} {W W' : World} {row : Option Nat} (h : W.grownBy W' row) (hb : b < W.heap.size) (hr : some b ≠ row) : KeepB b W W' := ⟨h.size, h.block b hb hr⟩
theorem KeepB.putObj {b : Nat} {B : Nat} (hb : b < B) (W : World) (l : Nat) (o o' : Obj) (hl : B ≤ l) (_ : W.heap[l]? = some o) (_ : o.isCells = false) (_ : o.isWalk = false) : KeepB b W (W.putObj l o') :=
  ⟨by simp [World.putObj], World.putObj_heap_other (by omega)⟩

set_option maxRecDepth 100000 in
set_option maxHeartbeats 1000000 in
theorem each1_in (n : Nat) (hn : 1 ≤ n) (l Bn : Nat) (s : ByteArray) (hs : s.size ≤ 1099511627776) (J Jx : List (Nat × List UInt8) → World → Prop)
    (hJ : ∀ p W W', J p W → Below W.heap.size W W' → J p W')
    (hY : ∀ pre x W, J pre W → pre.length < s.size + 1 → YieldAt Fence.wide (n - 1) Try.prog l (encE x) W fun e W' =>
      (e = .returned (.bool true) ∧ J (pre ++ [x]) W' ∧ KeepB Bn W W') ∨ (e = .returned (.bool false) ∧ Jx (pre ++ [x]) W'))
    (W : World) (hBn : W.cell? ⟨Bn, 0, none⟩ = some (.string s)) (hlt : Bn < W.heap.size) (h0 : J [] W) :
    CallsIn Fence.wide n Try.prog 29 #[.func (.yield l) #[] #[], .pointer (some ⟨Bn, 0, none⟩)] W fun e W' => (∃ v, e = .returned v) ∧
      ((∃ ys, allL s.data.toList = (ys.map (·.2), lastEnd ys) ∧ J ys W') ∨ (∃ pre, True ∧ Jx pre W')) := by
  refine callsIn_of_wp Try.func29 rfl trivial ?_ rfl
  simp only [Try.ntmps29, List.size_toArray, List.length_cons, List.length_nil, Nat.reduceAdd, Nat.reduceSub, Array.replicate_succ, Array.replicate_zero, List.push_toArray, List.append_toArray, List.nil_append, List.cons_append]
  gi_wp2_with fail
  gi_loopw [3] (fun p wr => ∃ (pre : List (Nat × List UInt8)), Far s.data.toList (pre.map (·.2)) (lastEnd pre) ∧ p = .int .i64 (lastEnd pre) ∧ J pre wr ∧ wr.cell? ⟨Bn, 0, none⟩ = some (.string s) ∧ Bn < wr.heap.size)
    (fun p wr => s.size - (intOf p).toNat)
  case atStart => exact ⟨[], Far.start _, rfl, h0, hBn, hlt⟩
  case round =>
    obtain ⟨pre, hF, rfl, hJp, hc, hz⟩ := hrel
    obtain ⟨a, ha⟩ : ∃ a, lastEnd pre = a := ⟨_, rfl⟩
    rw [ha] at hF ⊢
    have hal : a ≤ s.size := by have := hF.le; rwa [len_data] at this
    have hcn := hF.cnt
    have HF := Lib.hid hF; have HJ := Lib.hid hJp; have HA := Lib.hid ha; have H0 := Lib.hid h0; have HYY := Lib.hid hY; have HJJ := Lib.hid hJ
    clear hF hJp ha h0 hY hJ hBn
    have ea : (s.extract a s.size).data.toList = s.data.toList.drop a := by
      rw [extract_toList, List.take_of_length_le (by simp)]
    have EA := Lib.hid ea; clear ea
    gi_wp2_with fail
    refine ⟨trivial, (callsIn_wide.2 (next_any (s.extract a s.size) _ (by simp; omega))).mono ?_⟩
    rintro e w1 ⟨rfl, hB1⟩
    rw [EA.out]
    obtain ⟨r, hr⟩ : ∃ r, nextL (s.data.toList.drop a) = r := ⟨_, rfl⟩
    rw [hr]
    have HR := Lib.hid hr
    clear hr
    have hc1 : w1.cell? ⟨Bn, 0, none⟩ = some (.string s) := (hB1.cell (p := ⟨Bn, 0, none⟩) hz).trans hc
    have hz1 : Bn < w1.heap.size := Nat.lt_of_lt_of_le hz hB1.size
    have HJ1 := Lib.hid (HJJ.out pre wr w1 HJ.out hB1)
    have HB1 := Lib.hid hB1; clear hB1
    by_cases hzr : r.2 = 0
    · have HS := Lib.hid (HF.out.stop (by rw [HR.out]; exact hzr))
      have hb : ((r.2 : Int) == 0) = true := by rw [hzr]; rfl
      clear hzr
      gi_wp2_with fail
      refine ⟨(fun f h => by cases h), ?_⟩
      gi_wp2_with fail
      (try simp only [Exit.inBlock, Exit.then])
      refine bodyPost_ret (results_none rfl _ _ _) rfl ?_
      exact ⟨⟨_, rfl⟩, .inl ⟨pre, by rw [HS.out, HA.out], HJ1.out⟩⟩
    · have hn := nextL_le (s.data.toList.drop a)
      rw [HR.out] at hn
      have hn8 : 8 ≤ r.2 := by omega
      have hnl : a + r.2 ≤ s.size := by
        rcases hn with h | ⟨_, h⟩
        · omega
        · simp at h; omega
      have HS := Lib.hid (HF.out.step (by rw [HR.out]; exact hzr))
      have hb : ((r.2 : Int) == 0) = false := by simp; omega
      clear hzr hn
      obtain ⟨fn, tmps, assign, body, hy, hR⟩ := HYY.out pre (a + r.2, r.1) w1 HJ1.out (by rw [List.length_map] at hcn; omega)
      simp only [encE, Int.natCast_add] at hy
      have HRR := Lib.hid hR; clear hR
      gi_wp2_with fail
      refine HRR.out.mono ?_
      rintro e W3 (⟨rfl, hJ3, hk3⟩ | ⟨rfl, hJx3⟩)
      · have hc3 : W3.cell? ⟨Bn, 0, none⟩ = some (.string s) := hk3.cell.trans hc1
        have hz3 := hk3.1
        have HJ3 := Lib.hid hJ3; clear hJ3 hk3
        gi_wp2_with fail
        go_roundw
        case rel =>
          have e1 := HS.out
          rw [HR.out] at e1
          refine ⟨pre ++ [(a + r.2, r.1)], by rw [lastEnd_snoc]; simpa using e1, by rw [lastEnd_snoc]; go_num, HJ3.out, hc3, by omega⟩
        case measure => simp [intOf]; omega
      · have HJ3 := Lib.hid hJx3; clear hJx3
        gi_wp2_with fail
        (try simp only [Exit.inBlock, Exit.then])
        refine bodyPost_ret (results_none rfl _ _ _) rfl ?_
        exact ⟨⟨_, rfl⟩, .inr ⟨_, trivial, HJ3.out⟩⟩

set_option maxRecDepth 100000 in
theorem each_any (s : ByteArray) (w : World) :
    Calls Try.prog 26 #[.string s] w fun e w' => e = .returned (.func (.func 29) #[] #[.pointer (some ⟨w.heap.size, 0, none⟩)]) ∧ w.alloc (.cells #[.string s] 9) = w' := by
  have hmf : ∀ (fn : Fn) (first cap : Array Value) (w : World), (Instr.makeFunc fn first cap).run Try.prog w = .ok (.func fn first cap) w := fun _ _ _ _ => rfl
  go_enter Try.func26, Try.ntmps26
  go_wp2_with fail
  go_ret
  exact ⟨rfl, rfl⟩

theorem each_stops (n : Nat) (hn : 1 ≤ n) (Bn : Nat) (s : ByteArray) (hs : s.size ≤ 1099511627776) (w : World) (hBn : w.cell? ⟨Bn, 0, none⟩ = some (.string s)) (hlt : Bn < w.heap.size) :
    SeqStopsK Fence.wide n Try.prog 29 #[.pointer (some ⟨Bn, 0, none⟩)] encE (KeepB Bn) (fun ys => allL s.data.toList = (ys.map (·.2), lastEnd ys)) (fun _ => True) (s.size + 1) w := fun l J Jx W hW hJ _ hY h0 =>
  each1_in n hn l Bn s hs J Jx (fun p W1 W2 h1 hb => hJ p W1 W2 none h1 (below_grownBy hb) (fun r e => by cases e)) hY W ((hW.cell (p := ⟨Bn, 0, none⟩) hlt).trans hBn) (Nat.lt_of_lt_of_le hlt hW.size) h0
