/-
  The reference's All, called on any text, returns the plain row of all framed texts.
-/
import Derived.Test.YtfjighamaamkcaaRefNext
import Derived.OwnWalk
import Derived.Maps.AppendAt
import Derived.RangeFuncBox
import Derived.RangeFuncLeaves
import Derived.Shelf.Abstract
import Derived.OwnWalkIn
import Derived.TacticsInMore
import Derived.LoopNIn
import Derived.LoopIn
namespace Go.Proofs.Ytfjighamaamkcaa
open Go.RowKit

/-! ### All frames at the front, in plain words -/
theorem nextL_le (s : List UInt8) : (nextL s).2 = 0 ∨ (8 ≤ (nextL s).2 ∧ (nextL s).2 ≤ s.length) := by
  unfold nextL
  split
  · exact .inl rfl
  · split
    · exact .inl rfl
    · split
      · exact .inr ⟨by simp, by simp; omega⟩
      · exact .inl rfl
def allF : Nat → List UInt8 → List (List UInt8) × Nat
  | 0, _ => ([], 0)
  | k + 1, s => if (nextL s).2 = 0 then ([], 0) else ((nextL s).1 :: (allF k (s.drop (nextL s).2)).1, (nextL s).2 + (allF k (s.drop (nextL s).2)).2)
def allL (s : List UInt8) : List (List UInt8) × Nat := allF (s.length + 1) s
theorem allF_same : ∀ (k k' : Nat) (s : List UInt8), s.length < k → s.length < k' → allF k s = allF k' s := by
  intro k
  induction k with
  | zero => intro k' s h; omega
  | succ k ih =>
    intro k' s h h'
    cases k' with
    | zero => omega
    | succ k' =>
      simp only [allF]
      split
      · rfl
      · rename_i hz
        rcases nextL_le s with h0 | ⟨h8, hl⟩
        · exact absurd h0 hz
        · have hd : (s.drop (nextL s).2).length < s.length := by simp; omega
          rw [ih k' _ (by omega) (by omega)]
theorem allF_more (k : Nat) (s : List UInt8) (h : s.length < k) : allF k s = allL s := allF_same _ _ s h (by omega)
theorem allL_stop {s : List UInt8} (h : (nextL s).2 = 0) : allL s = ([], 0) := by
  unfold allL; rw [allF, if_pos h]
theorem allL_go {s : List UInt8} (h : (nextL s).2 ≠ 0) : allL s = ((nextL s).1 :: (allL (s.drop (nextL s).2)).1, (nextL s).2 + (allL (s.drop (nextL s).2)).2) := by
  have hd : (s.drop (nextL s).2).length < s.length := by
    rcases nextL_le s with h0 | ⟨h8, hl⟩
    · exact absurd h0 h
    · simp; omega
  conv => lhs; unfold allL
  rw [allF, if_neg h, allF_more _ _ hd]
theorem allL_le (s : List UInt8) : (allL s).1.length * 8 ≤ (allL s).2 ∧ (allL s).2 ≤ s.length := by
  have key : ∀ (n : Nat) (s : List UInt8), s.length ≤ n → (allL s).1.length * 8 ≤ (allL s).2 ∧ (allL s).2 ≤ s.length := by
    intro n
    induction n with
    | zero =>
      intro s h
      have : (nextL s).2 = 0 := by rcases nextL_le s with h0 | ⟨h8, hl⟩ <;> omega
      rw [allL_stop this]; simp
    | succ n ih =>
      intro s h
      by_cases hz : (nextL s).2 = 0
      · rw [allL_stop hz]; simp
      · rw [allL_go hz]
        rcases nextL_le s with h0 | ⟨h8, hl⟩
        · exact absurd h0 hz
        · have := ih (s.drop (nextL s).2) (by simp; omega)
          simp at this ⊢
          omega
  exact key _ s (Nat.le_refl _)

theorem below_grownBy {w w1 : World} (h : Below w.heap.size w w1) : w.grownBy w1 none := ⟨h.os, h.tape, h.output, h.size, fun i hi _ => h.block i hi⟩
theorem own_below {w w1 : World} {base : Nat} {e : TypeId} {size n : Nat} {v : Value} {xs : List Value} (h : w.ownsRow base e size v n xs) (hb : Below w.heap.size w w1) : w1.ownsRow base e size v n xs :=
  h.kept (below_grownBy hb) (by cases v.ownBlock <;> simp)
theorem own_base {w : World} {base : Nat} {e : TypeId} {size n : Nat} {v : Value} {xs : List Value} (h : w.ownsRow base e size v n xs) : ∀ k, v.ownBlock = some k → base ≤ k := by
  intro k hk
  rcases h.2 with ⟨rfl, _⟩ | ⟨g, cap, cur, rfl, hb, _⟩
  · simp [Value.ownBlock] at hk
  · have : g = k := by simpa [Value.ownBlock] using hk
    omega
/-- A row of texts, as values. -/
def txts (l : List (List UInt8)) : List Value := l.map fun b => Value.string (bs b)
theorem txts_snoc (l : List (List UInt8)) (b : List UInt8) : txts (l ++ [b]) = txts l ++ [Value.string (bs b)] := by simp [txts]
theorem info9 : (Try.prog.info? 9).map (fun i => (i.zero, i.size, i.bytes)) = some (some (.string ByteArray.empty), 1, 16) := by kernel_rfl

/-- How far a loop over frames has come. -/
structure Far (s : List UInt8) (pre : List (List UInt8)) (a : Nat) : Prop where
  le : a ≤ s.length
  eq : allL s = (pre ++ (allL (s.drop a)).1, a + (allL (s.drop a)).2)
  cnt : pre.length * 8 ≤ a
theorem Far.start (s : List UInt8) : Far s [] 0 := ⟨by omega, by simp, by simp⟩
theorem Far.step {s : List UInt8} {pre : List (List UInt8)} {a : Nat} (h : Far s pre a) (hz : (nextL (s.drop a)).2 ≠ 0) :
    Far s (pre ++ [(nextL (s.drop a)).1]) (a + (nextL (s.drop a)).2) := by
  rcases nextL_le (s.drop a) with h0 | ⟨h8, hl⟩
  · exact absurd h0 hz
  · have hd : (s.drop a).drop (nextL (s.drop a)).2 = s.drop (a + (nextL (s.drop a)).2) := by rw [List.drop_drop]
    refine ⟨?_, ?_, ?_⟩
    · have := h.le; simp at hl; omega
    · rw [h.eq, allL_go hz, hd]; simp [Nat.add_assoc]
    · have := h.cnt; simp; omega
theorem Far.stop {s : List UInt8} {pre : List (List UInt8)} {a : Nat} (h : Far s pre a) (hz : (nextL (s.drop a)).2 = 0) : allL s = (pre, a) := by
  rw [h.eq, allL_stop hz]; simp

set_option maxRecDepth 100000 in
set_option maxHeartbeats 1000000 in
theorem rall_any (s : ByteArray) (w : World) (hs : s.size ≤ 1099511627776) :
    Calls Try.prog 25 #[.string s] w fun e w' => ∃ v, e = .returned (.tuple #[v, .int .i64 (allL s.data.toList).2]) ∧
      w'.ownsRow w.heap.size 9 1 v (allL s.data.toList).1.length (txts (allL s.data.toList).1) ∧ Below w.heap.size w w' := by
  obtain ⟨i0, hi, hz0, hz1, hz2⟩ := info_parts info9
  go_enter Try.func25, Try.ntmps25
  go_wp2_with fail
  go_loopw [4, 5] (fun v i wr => ∃ (pre : List (List UInt8)) (a : Nat), Far s.data.toList pre a ∧ i = .int .i64 a ∧ wr.ownsRow w.heap.size 9 1 v pre.length (txts pre) ∧ Below w.heap.size w wr) (fun _ i _ => s.size - (intOf i).toNat)
  case atStart => exact ⟨[], 0, Far.start _, rfl, World.ownsRow_nil _ _ _ _, Below.refl _ _⟩
  case round =>
    obtain ⟨pre, a, hF, rfl, hown, hB⟩ := hrel
    have ha : a ≤ s.size := by have := hF.le; rwa [len_data] at this
    have hc := hF.cnt
    have HF := Lib.hid hF; have HO := Lib.hid hown; have HB := Lib.hid hB
    clear hF hown hB
    have ea : (s.extract a s.size).data.toList = s.data.toList.drop a := by
      rw [extract_toList, List.take_of_length_le (by simp)]
    have EA := Lib.hid ea; clear ea
    go_wp2_with fail
    refine (rnext_any (s.extract a s.size) _ (by simp; omega)).mono ?_
    rintro e w1 ⟨rfl, hB1⟩
    have HB1 := Lib.hid hB1; clear hB1
    rw [EA.out]
    obtain ⟨r, hr⟩ : ∃ r, nextL (s.data.toList.drop a) = r := ⟨_, rfl⟩
    rw [hr]
    have HR := Lib.hid hr
    clear hr
    by_cases hz : r.2 = 0
    · have HS := Lib.hid (HF.out.stop (by rw [HR.out]; exact hz))
      have hb : ((r.2 : Int) == 0) = true := by rw [hz]; rfl
      clear hz
      go_wp2_with fail
      go_ret2
      refine ⟨u4, ?_, ?_, HB.out.trans (HB1.out.mono HB.out.size)⟩
      · rw [HS.out]; rfl
      · rw [HS.out]
        exact own_below HO.out HB1.out
    · have hn := nextL_le (s.data.toList.drop a)
      rw [HR.out] at hn
      have hn8 : 8 ≤ r.2 := by omega
      have hnl : a + r.2 ≤ s.size := by
        rcases hn with h | ⟨_, h⟩
        · omega
        · simp at h; omega
      have HS := Lib.hid (HF.out.step (by rw [HR.out]; exact hz))
      have hb : ((r.2 : Int) == 0) = false := by simp; omega
      have hown := own_below HO.out HB1.out
      clear hz hn
      have z1 := HB.out.size
      have z2 := HB1.out.size
      go_wp2_with (at_builtin; refine wpList_append_own _ rfl _ _ 35 rfl w.heap.size 9 i0 (.string ByteArray.empty) 1 16 Try.underlying35 hi hz0 hz1 hz2 rfl (by decide) _ _ _ rfl (hown.alloc _) ⟨w1.heap.size, 0, none⟩ 1 1 [.string (bs r.1)] rfl rfl (cell_one_new _ _ _) (by simp [Value.oneCell']) (by unfold maxLen; omega) (by omega) (by simp; omega) ?_; intro v' w2 hown' hgrow _; have HO2 := Lib.hid hown'; have HG : Hid ((w1.alloc (.cells #[.string (bs r.1)] 9)).grownBy w2 u4.ownBlock) := Lib.hid hgrow; clear hown' hgrow hown)
      go_roundw
      case rel =>
        have e1 := HS.out
        rw [HR.out] at e1
        refine ⟨pre ++ [r.1], a + r.2, e1, by go_num, ?_, ?_⟩
        · rw [txts_snoc, List.length_append]; exact HO2.out
        · have hb2 := HB.out.trans (HB1.out.mono HB.out.size)
          refine (hb2.alloc (by omega) _).grown HG.out (by simp; omega) (own_base HO.out)
      case measure => simp [intOf]; omega
