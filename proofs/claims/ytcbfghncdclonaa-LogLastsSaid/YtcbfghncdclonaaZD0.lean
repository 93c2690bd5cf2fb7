/-
  Texts of this session, merged in build order: FCrc, FT2, FT3, FT4, FT5, FT6, FT7, FT8, FT9, FT10, FT12.
-/
import Derived.WalkKit
import Derived.Test.YtcbfghncdclonaaProg
import Derived.WalkSpells
import Derived.WalkLawsBesides
import Derived.Handy
import Derived.Lib.Hide
import Derived.LoopN
import Derived.Laws.IdiomStrings
import Derived.Lib.ConvBytes
import Derived.Lib.Strings
import Derived.Deep.QuietTactic
import Derived.BigQuiet
import Derived.WalkSmall
import Derived.Deep.RegionHeld3
import Derived.OwnWalk
import Derived.Maps.AppendAt
import Derived.RangeFuncBox
import Derived.RangeFuncLeaves
import Derived.Shelf.Abstract
import Derived.OwnWalkIn
import Derived.TacticsInMore
import Derived.LoopNIn
import Derived.LoopIn
import Derived.RangeFuncNested
import Derived.RangeFuncBound
import Derived.RangeFuncCalls
import Derived.Shelf.RegionOpen
import Derived.BigGuardIn
set_option linter.unusedVariables false
set_option linter.unusedSimpArgs false
/-
  Plain: the sum of 32 bits, bit by bit and by a table; it is linear, and another byte makes another sum.
-/
namespace Crc
/-- One bit of the sum. -/
def one (s : BitVec 32) : BitVec 32 := if s.getLsbD 0 then (s >>> 1) ^^^ 0x82f63b78#32 else s >>> 1
def eight (s : BitVec 32) : BitVec 32 := one (one (one (one (one (one (one (one s)))))))
def step (s : BitVec 32) (c : BitVec 8) : BitVec 32 := eight (s ^^^ c.setWidth 32)
def run (s : BitVec 32) (l : List UInt8) : BitVec 32 := l.foldl (fun s c => step s c.toBitVec) s
def sum (l : List UInt8) : BitVec 32 := ~~~ run (~~~ 0#32) l

def ones : Nat → BitVec 32 → BitVec 32
  | 0, s => s
  | n + 1, s => one (ones n s)
theorem ones_eight (s : BitVec 32) : ones 8 s = eight s := rfl
/-- What a table holds of byte k. -/
def tab (k : Nat) : BitVec 32 := eight (BitVec.ofNat 32 k)
theorem one_xor (a b : BitVec 32) : one (a ^^^ b) = one a ^^^ one b := by
  unfold one
  rw [BitVec.getLsbD_xor]
  cases a.getLsbD 0 <;> cases b.getLsbD 0 <;> simp [BitVec.ushiftRight_xor_distrib]
  · ac_rfl
  · ac_rfl
  · rw [show (a >>> 1 ^^^ 0x82f63b78#32 ^^^ (b >>> 1 ^^^ 0x82f63b78#32)) = a >>> 1 ^^^ b >>> 1 ^^^ (0x82f63b78#32 ^^^ 0x82f63b78#32) by ac_rfl]
    simp
theorem eight_xor (a b : BitVec 32) : eight (a ^^^ b) = eight a ^^^ eight b := by
  simp only [eight, one_xor]
theorem one_even {s : BitVec 32} (h : s.getLsbD 0 = false) : one s = s >>> 1 := by unfold one; rw [h]; rfl
theorem eight_hi {s : BitVec 32} (h : ∀ i, i < 8 → s.getLsbD i = false) : eight s = s >>> 8 := by
  have e : ∀ k, k < 8 → one (s >>> k) = s >>> (k + 1) := fun k hk => by
    rw [one_even (by rw [BitVec.getLsbD_ushiftRight]; exact h _ (by omega)), ← BitVec.shiftRight_add]
  unfold eight
  have e0 : one s = s >>> 1 := one_even (h 0 (by omega))
  rw [e0, e 1 (by omega), e 2 (by omega), e 3 (by omega), e 4 (by omega), e 5 (by omega), e 6 (by omega), e 7 (by omega)]
theorem step_table (s : BitVec 32) (c : BitVec 8) : step s c = eight ((s.setWidth 8 ^^^ c).setWidth 32) ^^^ s >>> 8 := by
  have e : s ^^^ c.setWidth 32 = (s.setWidth 8 ^^^ c).setWidth 32 ^^^ (s >>> 8 <<< 8) := by
    ext i hi
    simp only [BitVec.getElem_xor, BitVec.getElem_setWidth, BitVec.getLsbD_xor, BitVec.getLsbD_setWidth, BitVec.getElem_shiftLeft]
    by_cases h8 : i < 8
    · simp [h8, BitVec.getLsbD_eq_getElem hi]
    · have : 8 + (i - 8) = i := by omega
      simp [h8, this, BitVec.getLsbD_eq_getElem hi, BitVec.getLsbD_of_ge _ _ (show 8 ≤ i by omega)]
  unfold step
  rw [e, eight_xor, eight_hi (s := s >>> 8 <<< 8) (fun i hi => by simp [hi])]
  congr 1
  ext i hi
  simp
  intro h
  exact BitVec.lt_of_getLsbD h
theorem one_zero {x : BitVec 32} (h : one x = 0#32) : x = 0#32 := by
  unfold one at h
  cases hb : x.getLsbD 0 with
  | true =>
    rw [hb] at h
    simp only [if_true] at h
    have h31 := congrArg (fun z => z.getLsbD 31) h
    simp at h31
  | false =>
    rw [hb] at h
    simp only [Bool.false_eq_true, if_false] at h
    ext i hi
    cases i with
    | zero => simpa [BitVec.getLsbD_eq_getElem hi] using hb
    | succ i =>
      have hh := congrArg (fun z => z.getLsbD i) h
      simp [BitVec.getLsbD_ushiftRight] at hh
      rw [show 1 + i = i + 1 by omega] at hh
      simpa [BitVec.getLsbD_eq_getElem hi] using hh
theorem xor_eq_zero {a b : BitVec 32} (h : a ^^^ b = 0#32) : a = b := by
  have := congrArg (· ^^^ b) h
  simpa [BitVec.xor_assoc] using this
theorem one_inj {a b : BitVec 32} (h : one a = one b) : a = b := by
  apply xor_eq_zero
  apply one_zero
  rw [one_xor, h]; simp
theorem eight_inj {a b : BitVec 32} (h : eight a = eight b) : a = b :=
  one_inj (one_inj (one_inj (one_inj (one_inj (one_inj (one_inj (one_inj h)))))))
theorem xor_right_inj {a b c : BitVec 32} (h : a ^^^ c = b ^^^ c) : a = b := by
  have := congrArg (· ^^^ c) h
  simpa [BitVec.xor_assoc] using this
theorem step_inj {a b : BitVec 32} {c : BitVec 8} (h : step a c = step b c) : a = b := xor_right_inj (eight_inj h)
theorem step_inj_byte {s : BitVec 32} {c d : BitVec 8} (h : step s c = step s d) : c = d := by
  have h1 := eight_inj h
  have h2 : c.setWidth 32 = d.setWidth 32 := by
    apply xor_right_inj (c := s)
    rw [BitVec.xor_comm, h1, BitVec.xor_comm]
  have := congrArg (BitVec.setWidth 8) h2
  simpa using this
theorem run_append (s : BitVec 32) (l m : List UInt8) : run s (l ++ m) = run (run s l) m := by simp [run]
theorem run_inj {l : List UInt8} : ∀ {a b : BitVec 32}, run a l = run b l → a = b := by
  induction l with
  | nil => exact fun h => h
  | cons c l ih => exact fun h => step_inj (ih h)
theorem not_inj {a b : BitVec 32} (h : ~~~ a = ~~~ b) : a = b := by simpa using congrArg (~~~ ·) h
/-- One byte another one: another sum. -/
theorem sum_other {l m : List UInt8} {c d : UInt8} (h : sum (l ++ c :: m) = sum (l ++ d :: m)) : c = d := by
  have h1 := not_inj h
  rw [run_append, run_append] at h1
  have h2 : step (run (~~~ 0#32) l) c.toBitVec = step (run (~~~ 0#32) l) d.toBitVec := run_inj (l := m) h1
  exact UInt8.toBitVec_inj.1 (step_inj_byte h2)
theorem step_lin (a b c : BitVec 32) (x y z : BitVec 8) : step a x ^^^ step b y ^^^ step c z = step (a ^^^ b ^^^ c) (x ^^^ y ^^^ z) := by
  unfold step
  rw [← eight_xor, ← eight_xor]
  congr 1
  ext i hi
  simp
  cases a[i] <;> cases b[i] <;> cases c[i] <;> simp
theorem run_lin : ∀ (l : List (UInt8 × UInt8 × UInt8)) (a b c : BitVec 32),
    run a (l.map (·.1)) ^^^ run b (l.map (·.2.1)) ^^^ run c (l.map (·.2.2)) = run (a ^^^ b ^^^ c) (l.map fun t => t.1 ^^^ t.2.1 ^^^ t.2.2) := by
  intro l
  induction l with
  | nil => intros; rfl
  | cons t l ih =>
    intro a b c
    simp only [List.map_cons, run, List.foldl_cons]
    have := ih (step a t.1.toBitVec) (step b t.2.1.toBitVec) (step c t.2.2.toBitVec)
    simp only [run] at this
    rw [this, step_lin]
    rfl
theorem sum_lin (l : List (UInt8 × UInt8 × UInt8)) :
    sum (l.map (·.1)) ^^^ sum (l.map (·.2.1)) ^^^ sum (l.map (·.2.2)) = sum (l.map fun t => t.1 ^^^ t.2.1 ^^^ t.2.2) := by
  unfold sum
  have e : ~~~ (0#32) = ~~~ (0#32) ^^^ ~~~ (0#32) ^^^ ~~~ (0#32) := by decide
  conv => rhs; rw [e, ← run_lin]
  generalize run (~~~ 0#32) _ = x
  generalize run (~~~ 0#32) _ = y
  generalize run (~~~ 0#32) _ = z
  ext i hi
  simp
theorem sum_known : sum [0x31, 0x32, 0x33, 0x34, 0x35, 0x36, 0x37, 0x38, 0x39] = 0xe3069283#32 := by decide +kernel

/-! ### As numbers, as the walk has them -/
theorem ofInt32 (S : BitVec 32) : BitVec.ofInt 32 (S.toNat : Int) = S := by simp
theorem ofInt8 (S : BitVec 8) : BitVec.ofInt 8 (S.toNat : Int) = S := by simp
theorem wrap32 (S : BitVec 32) : Go.IntKind.u32.wrap (S.toNat : Int) = (S.toNat : Int) := by
  rw [Go.IntKind.wrap_u32]
  have := S.isLt
  omega
theorem wrap8 (S : BitVec 8) : Go.IntKind.u8.wrap (S.toNat : Int) = (S.toNat : Int) := by
  rw [Go.IntKind.wrap_u8]
  have := S.isLt
  omega
open Go in
theorem bits_and1 (S : BitVec 32) : bits .and .u32 (S.toNat : Int) 1 = if S.getLsbD 0 then 1 else 0 := by
  have e : S &&& 1#32 = if S.getLsbD 0 then 1#32 else 0#32 := by
    ext i hi
    cases i with
    | zero => cases h : S.getLsbD 0 <;> simp_all [BitVec.getLsbD_eq_getElem]
    | succ i => cases h : S.getLsbD 0 <;> simp [BitVec.getElem_one]
  show IntKind.u32.wrap ((BitVec.ofInt 32 (S.toNat : Int) &&& BitVec.ofInt 32 1).toNat : Int) = _
  rw [ofInt32, show BitVec.ofInt 32 1 = 1#32 from rfl, e, wrap32]
  cases S.getLsbD 0 <;> rfl
open Go in
theorem bits_xor32 (A B : BitVec 32) : bits .xor .u32 (A.toNat : Int) (B.toNat : Int) = ((A ^^^ B).toNat : Int) := by
  show IntKind.u32.wrap ((BitVec.ofInt 32 (A.toNat : Int) ^^^ BitVec.ofInt 32 (B.toNat : Int)).toNat : Int) = _
  rw [ofInt32, ofInt32, wrap32]
open Go in
theorem bits_xor8 (A B : BitVec 8) : bits .xor .u8 (A.toNat : Int) (B.toNat : Int) = ((A ^^^ B).toNat : Int) := by
  show IntKind.u8.wrap ((BitVec.ofInt 8 (A.toNat : Int) ^^^ BitVec.ofInt 8 (B.toNat : Int)).toNat : Int) = _
  rw [ofInt8, ofInt8, wrap8]
theorem half (S : BitVec 32) : (S.toNat : Int) / (2 : Int) = ((S >>> 1).toNat : Int) := by
  simp [BitVec.toNat_ushiftRight, Nat.shiftRight_eq_div_pow]
theorem byte_down (S : BitVec 32) : (S.toNat : Int) / (256 : Int) = ((S >>> 8).toNat : Int) := by
  simp [BitVec.toNat_ushiftRight, Nat.shiftRight_eq_div_pow]
theorem low_byte (S : BitVec 32) : (S.toNat : Int) % (256 : Int) = ((S.setWidth 8).toNat : Int) := by
  simp [BitVec.toNat_setWidth]
theorem one_odd {S : BitVec 32} (h : S.getLsbD 0 = true) : one S = (S >>> 1) ^^^ 0x82f63b78#32 := by unfold one; rw [h]; rfl
open Go in
theorem bits_not (A : BitVec 32) : bits .xor .u32 IntKind.u32.max (A.toNat : Int) = ((~~~ A).toNat : Int) := by
  show IntKind.u32.wrap ((BitVec.ofInt 32 IntKind.u32.max ^^^ BitVec.ofInt 32 (A.toNat : Int)).toNat : Int) = _
  rw [ofInt32, show BitVec.ofInt 32 IntKind.u32.max = BitVec.allOnes 32 by decide, wrap32, BitVec.allOnes_xor]
end Crc

namespace Go.Proofs.Ytcbfghncdclonaa
open Go.RowKit

def zeros (n : Nat) (v : Value) : Array Value := Array.replicate n v
theorem zero50 (w : World) : (zeroValue 104).run Try.prog w = .ok (.agg (zeros 256 (.int .u32 0))) w := by kernel_rfl
def u32 (S : BitVec 32) : Value := .int .u32 (S.toNat : Int)
/-- The table lies in block b, as far as k. -/
def TabTo (w : World) (b k : Nat) : Prop := (∀ j, j < 256 → w.cell? ⟨b, j, none⟩ = some (.int .u32 (if j < k then ((Crc.tab j).toNat : Int) else 0))) ∧ ∀ j, w.frozen? ⟨b, j, none⟩ = false

set_option maxRecDepth 100000 in
set_option maxHeartbeats 400000 in
theorem table_any (w : World) : Calls Try.prog 73 #[] w fun e w' => e = .returned (.func (.func 78) #[] #[.pointer (some ⟨w.heap.size, 0, none⟩)]) ∧ Below w.heap.size w w' ∧ TabTo w' w.heap.size 256 := by
  have hmf : ∀ (fn : Fn) (first cap : Array Value) (w : World), (Instr.makeFunc fn first cap).run Try.prog w = .ok (.func fn first cap) w := fun _ _ _ _ => rfl
  have hz := zero50
  go_enter Try.func73, Try.ntmps73
  go_wp2
  go_loopw [5] (fun i wr => ∃ k : Nat, k ≤ 256 ∧ i = .int .i64 k ∧ Below w.heap.size w wr ∧ TabTo wr w.heap.size k) (fun i _ => 256 - (intOf i).toNat)
  case atStart => 
    refine ⟨0, by omega, rfl, ?_, ?_, ?_⟩
    · go_grown
    · intro j hj
      rw [World.cell?_alloc_at _ _ _ _ rfl]
      simp [zeros, hj]
    · intro j
      rw [World.frozen?_alloc_at _ _ _ _ rfl]
  case round =>
    obtain ⟨k, hk, rfl, hB, hT⟩ := hrel
    have HB := Lib.hid hB; clear hB
    have HT := Lib.hid hT; clear hT
    by_cases hlt : k < 256
    · have hc : wr.cell? ⟨w.heap.size, k, none⟩ = some (.int .u32 0) := by have := HT.out.1 k hlt; simpa using this
      have hf := HT.out.2 k
      go_wp2
      go_loop [3, 10] (fun s i => ∃ j : Nat, j ≤ 8 ∧ i = .int .i64 j ∧ s = .int .u32 (Crc.ones j (BitVec.ofNat 32 k)).toNat) (fun _ i => 8 - (intOf i).toNat)
      case atStart => exact ⟨0, by omega, rfl, by simp [Crc.ones]; omega⟩
      case round =>
        obtain ⟨j, hj, rfl, rfl⟩ := hrel
        obtain ⟨S, hS⟩ : ∃ S, Crc.ones j (BitVec.ofNat 32 k) = S := ⟨_, rfl⟩
        have hSr : 0 ≤ (S.toNat : Int) ∧ (S.toNat : Int) ≤ 4294967295 := by have := S.isLt; omega
        have HS := Lib.hid hS
        rw [hS]; clear hS
        by_cases hlj : j < 8
        · have h1 := Crc.bits_and1 S
          have h2 := Crc.half S
          cases hb : S.getLsbD 0 with
          | true =>
            rw [hb] at h1
            have h3 := Crc.bits_xor32 (S >>> 1) 0x82f63b78#32
            have H4 : Hid (Crc.one S = (S >>> 1) ^^^ 0x82f63b78#32) := Lib.hid (Crc.one_odd hb)
            have H3 := Lib.hid h3; have H2 := Lib.hid h2
            clear hb h2 h3
            go_wp2
            refine ⟨⟨j + 1, by omega, by go_num, ?_⟩, by simp [intOf]; omega⟩
            rw [H2.out]
            have e3 := H3.out
            rw [show ((0x82f63b78#32).toNat : Int) = 2197175160 from rfl] at e3
            rw [e3, ← H4.out, Crc.ones, HS.out]
          | false =>
            rw [hb] at h1
            have H4 : Hid (Crc.one S = S >>> 1) := Lib.hid (Crc.one_even hb)
            have H2 := Lib.hid h2
            clear hb h2
            go_wp2
            refine ⟨⟨j + 1, by omega, by go_num, ?_⟩, by simp [intOf]; omega⟩
            rw [H2.out, ← H4.out, Crc.ones, HS.out]
        · obtain rfl : j = 8 := by omega
          go_wp2
          refine ⟨⟨k + 1, by omega, by go_num, HB.out.setCell (p := ⟨w.heap.size, k, none⟩) (Nat.le_refl _) _, ?_, ?_⟩, by simp [intOf]; omega⟩
          · intro i hi
            by_cases e : i = k
            · subst e
              rw [World.cell?_setCell_same' _ _ _ (by rw [HT.out.1 i hi]; rfl)]
              have := HS.out
              rw [Crc.ones_eight] at this
              simp [Crc.tab, this]
            · rw [World.cell?_setCell_other _ _ _ _ (by simp), HT.out.1 i hi]
              have : (i < k + 1) = (i < k) := by apply propext; omega
              simp [this]
          · intro i
            rw [World.frozen?_setCell]; exact HT.out.2 i
    · obtain rfl : k = 256 := by omega
      go_wp2
      go_ret
      exact ⟨rfl, HB.out, HT.out⟩
end Go.Proofs.Ytcbfghncdclonaa

namespace Go.Proofs.Ytcbfghncdclonaa
open Go.RowKit

set_option maxRecDepth 100000 in
theorem closure_any (S : BitVec 32) (c : UInt8) (b : Nat) (w : World) (hT : TabTo w b 256) :
    Calls Try.prog 78 #[.int .u32 S.toNat, .int .u8 c.toNat, .pointer (some ⟨b, 0, none⟩)] w fun e w' => e = .returned (.int .u32 (Crc.step S c.toBitVec).toNat) ∧ w = w' := by
  obtain ⟨X, hX⟩ : ∃ X, S.setWidth 8 ^^^ c.toBitVec = X := ⟨_, rfl⟩
  have e1 : bits .xor .u8 (S.toNat % 256 : Int) c.toNat = (X.toNat : Int) := by
    rw [Crc.low_byte, ← hX, ← Crc.bits_xor8]; rfl
  have hx : X.toNat < 256 := X.isLt
  have hc : w.cell? ⟨b, X.toNat, none⟩ = some (.int .u32 (Crc.tab X.toNat).toNat) := by
    have := hT.1 X.toNat hx
    rw [if_pos hx] at this
    exact this
  have HT := Lib.hid hT
  have HX := Lib.hid hX
  have hS := S.isLt
  clear hX hT
  go_enter Try.func78, Try.ntmps78
  go_wp2
  go_ret
  refine ⟨?_, rfl⟩
  rw [Crc.byte_down, Crc.bits_xor32, Crc.step_table, HX.out]
  congr 6
  simp [Crc.tab]

theorem take_snoc (s : ByteArray) (k : Nat) (h : k < s.size) : s.data.toList.take (k + 1) = s.data.toList.take k ++ [s[k]] := by
  rw [List.take_succ_eq_append_getElem (by simpa using h)]; rfl
set_option maxRecDepth 100000 in
theorem sum_any (s : ByteArray) (w : World) (hs : s.size ≤ 9223372036854775807) :
    Calls Try.prog 61 #[.string s] w fun e w' => e = .returned (.int .u32 (Crc.sum s.data.toList).toNat) ∧ Below w.heap.size w w' := by
  go_enter Try.func61, Try.ntmps61
  go_wp2_with fail
  refine (table_any w).mono ?_
  rintro e w1 ⟨rfl, hB, hT⟩
  have HB := Lib.hid hB; have HT := Lib.hid hT; clear hB hT
  go_wp2_with fail
  go_loop [4, 9] (fun v i => ∃ k : Nat, k ≤ s.size ∧ i = .int .i64 k ∧ v = .int .u32 (Crc.run (~~~ 0#32) (s.data.toList.take k)).toNat) (fun _ i => s.size - (intOf i).toNat)
  case atStart => exact ⟨0, by omega, rfl, rfl⟩
  case round =>
    obtain ⟨k, hk, rfl, rfl⟩ := hrel
    obtain ⟨S, hS⟩ : ∃ S, Crc.run (~~~ 0#32) (s.data.toList.take k) = S := ⟨_, rfl⟩
    have HS := Lib.hid hS
    rw [hS]; clear hS
    by_cases hlt : k < s.size
    · go_wp2_with fail
      refine (closure_any S _ _ _ HT.out).mono ?_
      rintro e w2 ⟨rfl, rfl⟩
      go_wp2_with fail
      go_round
      case rel => 
        refine ⟨k + 1, by omega, by go_num, ?_⟩
        rw [take_snoc s k hlt, Crc.run_append, HS.out]; rfl
      case measure => simp [intOf]; omega
    · go_wp2_with fail
      go_ret
      have hn := Crc.bits_not S
      refine ⟨?_, HB.out⟩
      show Ending.returned (Value.int IntKind.u32 (bits BinOp.xor IntKind.u32 IntKind.u32.max ↑S.toNat)) = _
      rw [hn, ← HS.out, List.take_of_length_le (by simp; omega)]; rfl
end Go.Proofs.Ytcbfghncdclonaa

namespace Go.Proofs.Ytcbfghncdclonaa
open Go.RowKit

/-- A text of some bytes. -/
def bs (l : List UInt8) : ByteArray := ⟨l.toArray⟩
theorem bs_data (s : ByteArray) : bs s.data.toList = s := rfl
theorem bs_toList (l : List UInt8) : (bs l).data.toList = l := rfl
theorem bs_size (l : List UInt8) : (bs l).size = l.length := by simp [bs, ByteArray.size]
theorem bs_append (l m : List UInt8) : bs l ++ bs m = bs (l ++ m) := by
  apply ByteArray.ext
  simp [bs]
theorem conv_bytes {P : Program} (w : World) (src dst e : TypeId) (hs : P.underlying src = some (.slice e)) (he : P.underlying e = some (.int .u8)) (hd : P.underlying dst = some .string) (b o n cap : Nat) (l : List UInt8) (hl : l.length = n)
    (hc : ∀ j (hj : j < l.length), w.cell? ⟨b, o + j, none⟩ = some (.int .u8 (l[j].toNat : Int))) :
    (convert src dst (.slice (some ⟨b, o, none⟩) n cap)).run P w = .ok (.string (bs l)) w := by
  subst hl
  refine run_convert_bytes_back w src dst e _ cap l hs he hd fun j hj => ?_
  rw [← hc j hj]
  congr 1
  unfold Addr.add
  split <;> simp_all
/-- A number's four bytes. -/
def fourB (n : Nat) : List UInt8 := [UInt8.ofNat (n / 16777216), UInt8.ofNat (n / 65536), UInt8.ofNat (n / 256), UInt8.ofNat n]
theorem byte_of (n : Nat) (m : Int) (h : m = ((n % 256 : Nat) : Int)) : (Value.int .u8 m) = .int .u8 ((UInt8.ofNat n).toNat : Int) := by
  rw [h, UInt8.toNat_ofNat']
set_option maxRecDepth 100000 in
set_option maxHeartbeats 400000 in
theorem put_any (N : BitVec 32) (w : World) :
    Calls Try.prog 60 #[.int .u32 N.toNat] w fun e w' => e = .returned (.string (bs (fourB N.toNat))) ∧ Below w.heap.size w w' := by
  have hN := N.isLt
  have hz : ∀ w, (zeroValue 100).run Try.prog w = .ok (.agg #[.int .u8 0, .int .u8 0, .int .u8 0, .int .u8 0]) w := fun w => by kernel_rfl
  go_enter Try.func60, Try.ntmps60
  go_wp2
  refine wp_loop_rounds 5 ?_
  iterate 5 (rw [rounds_succ]; go_wp2)
  rw [conv_bytes _ 38 9 5 Try.underlying38 Try.underlying5 Try.underlying9 w.heap.size 0 4 4 (fourB N.toNat) rfl ?hc]
  case hc =>
    intro j hj
    have hj4 : j < 4 := hj
    rw [World.cell?_alloc_at _ _ _ _ rfl, Nat.zero_add]
    match j, hj4 with
    | 0, _ => exact congrArg some (byte_of _ _ (by omega))
    | 1, _ => exact congrArg some (byte_of _ _ (by omega))
    | 2, _ => exact congrArg some (byte_of _ _ (by omega))
    | 3, _ => exact congrArg some (byte_of _ _ (by omega))
  go_wp2
  go_ret
  refine ⟨rfl, ?_⟩
  go_grown

/-- The number of four bytes. -/
def numB (l : List UInt8) : Nat := (l.take 4).foldl (fun n c => n * 256 + c.toNat) 0
theorem shl_or (n c : Nat) (hn : n < 281474976710656) (hc : c < 256) : bits .or .i64 (wrap64 ((n : Int) * 256)) (c : Int) = ((n * 256 + c : Nat) : Int) := by
  have e : wrap64 ((n : Int) * 256) = ((n * 256 : Nat) : Int) := by unfold wrap64; omega
  rw [e, bits_join .i64 62 (by decide) (fun m h0 h1 => by rw [IntKind.wrap_i64]; omega) 8 _ _ (by omega) (by omega) (by omega) (by omega) (by omega) (by omega)]
  omega
theorem or_zero (c : Nat) (hc : c < 256) : bits .or .i64 0 (c : Int) = (c : Int) := by
  have := shl_or 0 c (by omega) hc
  simpa [wrap64] using this
theorem take_four (s : ByteArray) (hs : 4 ≤ s.size) : s.data.toList.take 4 = [s[0]'(by omega), s[1]'(by omega), s[2]'(by omega), s[3]'(by omega)] := by
  rw [take_snoc s 3 (by omega), take_snoc s 2 (by omega), take_snoc s 1 (by omega), take_snoc s 0 (by omega)]
  rfl
set_option maxRecDepth 100000 in
set_option maxHeartbeats 400000 in
theorem get_any (s : ByteArray) (w : World) (hs : 4 ≤ s.size) (hm : s.size ≤ 9223372036854775807) :
    Calls Try.prog 77 #[.string s] w fun e w' => e = .returned (.int .i64 (numB s.data.toList)) ∧ w = w' := by
  have b0 := (s[0]'(by omega)).toNat_lt
  have b1 := (s[1]'(by omega)).toNat_lt
  have b2 := (s[2]'(by omega)).toNat_lt
  have b3 := (s[3]'(by omega)).toNat_lt
  go_enter Try.func77, Try.ntmps77
  go_wp2
  refine wp_loop_rounds 5 ?_
  iterate 5 (rw [rounds_succ]; go_wp2)
  go_ret
  refine ⟨?_, rfl⟩
  show Ending.returned (Value.int .i64 (bits .or .i64 (wrap64 (bits .or .i64 (wrap64 (bits .or .i64 (wrap64 (bits .or .i64 0 ↑(s[0]'(by omega)).toNat * 256)) ↑(s[1]'(by omega)).toNat * 256)) ↑(s[2]'(by omega)).toNat * 256)) ↑(s[3]'(by omega)).toNat)) = _
  rw [or_zero _ b0, shl_or _ _ (by omega) b1, shl_or _ _ (by omega) b2, shl_or _ _ (by omega) b3, numB, take_four s hs]
  simp
end Go.Proofs.Ytcbfghncdclonaa

namespace Go.Proofs.Ytcbfghncdclonaa
open Go.RowKit

theorem put_nat (n : Nat) (hn : n < 4294967296) (w : World) :
    Calls Try.prog 60 #[.int .u32 n] w fun e w' => e = .returned (.string (bs (fourB n))) ∧ Below w.heap.size w w' := by
  have h := put_any (BitVec.ofNat 32 n) w
  rwa [BitVec.toNat_ofNat, Nat.mod_eq_of_lt hn] at h
theorem append_toList (a b : ByteArray) : (a ++ b).data.toList = a.data.toList ++ b.data.toList := by
  rw [ByteArray.data_append, Array.toList_append]
def frameL (b : List UInt8) : List UInt8 := if 131072 < b.length then [] else fourB b.length ++ fourB (Crc.sum (fourB b.length ++ b)).toNat ++ b
theorem frameL_long {b : List UInt8} (h : 131072 < b.length) : frameL b = [] := by
  unfold frameL
  exact if_pos h
theorem frameL_short {b : List UInt8} (h : ¬ 131072 < b.length) : frameL b = fourB b.length ++ fourB (Crc.sum (fourB b.length ++ b)).toNat ++ b := if_neg h
theorem len_data (s : ByteArray) : s.data.toList.length = s.size := Array.length_toList

set_option maxRecDepth 100000 in
theorem frame_any (s : ByteArray) (w : World) (hs : s.size ≤ 140737488351232) :
    Calls Try.prog 36 #[.string s] w fun e w' => e = .returned (.string (bs (frameL s.data.toList))) ∧ Below w.heap.size w w' := by
  by_cases h : 131072 < s.size
  · go_enter Try.func36, Try.ntmps36
    go_wp2_with fail
    go_ret
    rw [frameL_long (by rw [len_data]; exact h)]
    exact ⟨rfl, Below.refl _ _⟩
  · go_enter Try.func36, Try.ntmps36
    go_wp2_with fail
    refine (put_nat s.size (by omega) _).mono ?_
    rintro e w1 ⟨rfl, hB⟩
    have HB := Lib.hid hB; clear hB
    have z4 : (bs (fourB s.size)).size = 4 := bs_size _
    go_wp2_with fail
    refine (sum_any _ _ (by simp; omega)).mono ?_
    rintro e w2 ⟨rfl, hB⟩
    have HB2 := Lib.hid hB; clear hB
    rw [append_toList, bs_toList]
    obtain ⟨N, hN⟩ : ∃ N, Crc.sum (fourB s.size ++ s.data.toList) = N := ⟨_, rfl⟩
    rw [hN]
    have HN := Lib.hid hN; clear hN
    have hn := N.isLt
    go_wp2_with fail
    refine (put_nat N.toNat hn _).mono ?_
    rintro e w3 ⟨rfl, hB⟩
    have HB3 := Lib.hid hB; clear hB
    have z5 : (bs (fourB N.toNat)).size = 4 := bs_size _
    go_wp2_with fail
    go_ret
    refine ⟨?_, ((HB.out).trans (HB2.out.mono HB.out.size)).trans (HB3.out.mono (Nat.le_trans HB.out.size HB2.out.size))⟩
    show Ending.returned (Value.string (bs (fourB s.size) ++ bs (fourB N.toNat) ++ s)) = _
    rw [frameL_short (by rw [len_data]; exact h), len_data, HN.out, bs_append]
    conv => lhs; rw [← bs_data s]
    rw [bs_append, bs_data]

/-- The text that a row of bytes begins with, and how many bytes it took. -/
def nextL (s : List UInt8) : List UInt8 × Nat :=
  if s.length < 8 then ([], 0)
  else if 131072 < numB s ∨ s.length - 8 < numB s then ([], 0)
  else if numB (s.drop 4) = (Crc.sum (s.take 4 ++ (s.drop 8).take (numB s))).toNat then ((s.drop 8).take (numB s), 8 + numB s)
  else ([], 0)
theorem numB_lt (l : List UInt8) : numB l < 4294967296 := by
  unfold numB
  match l with
  | [] => decide
  | [a] => have := a.toNat_lt; simp; omega
  | [a, b] => have := a.toNat_lt; have := b.toNat_lt; simp; omega
  | [a, b, c] => have := a.toNat_lt; have := b.toNat_lt; have := c.toNat_lt; simp; omega
  | a :: b :: c :: d :: _ => have := a.toNat_lt; have := b.toNat_lt; have := c.toNat_lt; have := d.toNat_lt; simp; omega
theorem extract_toList (s : ByteArray) (i j : Nat) : (s.extract i j).data.toList = (s.data.toList.drop i).take (j - i) := by
  simp [List.extract_eq_take_drop]

set_option maxRecDepth 100000 in
theorem next_any (s : ByteArray) (w : World) (hs : s.size ≤ 140737488351232) :
    Calls Try.prog 72 #[.string s] w fun e w' => e = .returned (.tuple #[.string (bs (nextL s.data.toList).1), .int .i64 (nextL s.data.toList).2]) ∧ Below w.heap.size w w' := by
  by_cases h : s.size < 8
  · have hr : nextL s.data.toList = ([], 0) := by unfold nextL; rw [if_pos (by rw [len_data]; exact h)]
    rw [hr]; clear hr
    go_enter Try.func72, Try.ntmps72
    go_wp2_with fail
    go_ret2
    exact ⟨rfl, Below.refl _ _⟩
  · obtain ⟨n, hn⟩ : ∃ n, numB s.data.toList = n := ⟨_, rfl⟩
    have hlt : n < 4294967296 := by rw [← hn]; exact numB_lt _
    by_cases h2 : 131072 < n ∨ s.size - 8 < n
    · have hr : nextL s.data.toList = ([], 0) := by unfold nextL; rw [if_neg (by rw [len_data]; exact h), if_pos (by rw [len_data, hn]; exact h2)]
      rw [hr]; clear hr
      have HN := Lib.hid hn; clear hn
      by_cases h3 : 131072 < n
      · go_enter Try.func72, Try.ntmps72
        go_wp2_with fail
        refine (get_any s _ (by omega) (by omega)).mono ?_
        rintro e w1 ⟨rfl, rfl⟩
        rw [HN.out]
        go_wp2_with fail
        go_ret2
        exact ⟨rfl, Below.refl _ _⟩
      · have h4 : s.size - 8 < n := by omega
        go_enter Try.func72, Try.ntmps72
        go_wp2_with fail
        refine (get_any s _ (by omega) (by omega)).mono ?_
        rintro e w1 ⟨rfl, rfl⟩
        rw [HN.out]
        clear h2
        go_wp2_with fail
        go_ret2
        exact ⟨rfl, Below.refl _ _⟩
    · have h3 : n ≤ 131072 := by omega
      have h4 : n + 8 ≤ s.size := by omega
      obtain ⟨m, hm⟩ : ∃ m, numB (s.data.toList.drop 4) = m := ⟨_, rfl⟩
      obtain ⟨N, hN⟩ : ∃ N, Crc.sum (s.data.toList.take 4 ++ (s.data.toList.drop 8).take n) = N := ⟨_, rfl⟩
      have hml : m < 4294967296 := by rw [← hm]; exact numB_lt _
      have hNl : N.toNat < 4294967296 := N.isLt
      have e4 : (s.extract 4 s.size).data.toList = s.data.toList.drop 4 := by
        rw [extract_toList, List.take_of_length_le (by simp)]
      have e0 : (s.extract 0 4).data.toList = s.data.toList.take 4 := by
        rw [extract_toList]; rfl
      have e8 : (s.extract 8 (8 + n)).data.toList = (s.data.toList.drop 8).take n := by
        rw [extract_toList, Nat.add_sub_cancel_left]
      have E8 := Lib.hid (show s.extract 8 (8 + n) = bs ((s.data.toList.drop 8).take n) by rw [← e8, bs_data])
      have E4 := Lib.hid e4; have E0 := Lib.hid e0; have E8' := Lib.hid e8; have HM := Lib.hid hm; have HS := Lib.hid hN
      have h0n : ¬ s.data.toList.length < 8 := by rw [len_data]; exact h
      have hr : nextL s.data.toList = if m = N.toNat then ((s.data.toList.drop 8).take n, 8 + n) else ([], 0) := by
        unfold nextL; rw [if_neg h0n, if_neg (by rw [len_data, hn]; exact h2), hn, hm, hN]
      have HN := Lib.hid hn
      clear hn hm hN e4 e0 e8 h0n h2
      by_cases hq : m = N.toNat
      · rw [if_pos hq] at hr
        rw [hr]; clear hr
        have hb : ((m : Int) != (N.toNat : Int)) = false := by rw [hq]; simp
        clear hq
        go_enter Try.func72, Try.ntmps72
        go_wp2_with fail
        refine (get_any s _ (by omega) (by omega)).mono ?_
        rintro e w1 ⟨rfl, rfl⟩
        rw [HN.out]
        go_wp2_with fail
        go_quiet (fail)
        go_wp2_with fail
        refine (get_any _ _ (by simp; omega) (by simp; omega)).mono ?_
        rintro e w1 ⟨rfl, rfl⟩
        rw [E4.out, HM.out]
        go_wp2_with fail
        refine (sum_any _ _ (by simp; omega)).mono ?_
        rintro e w1 ⟨rfl, hB⟩
        have HB := Lib.hid hB; clear hB
        rw [append_toList, E0.out, E8'.out, HS.out]
        go_wp2_with fail
        go_ret2
        refine ⟨?_, (below_drewN (Below.refl w.heap.size w) nq).trans HB.out⟩
        show Ending.returned (Value.tuple #[Value.string (s.extract 8 (8 + n)), Value.int .i64 (8 + (n : Int))]) = _
        rw [E8.out, Int.natCast_add]; rfl
      · rw [if_neg hq] at hr
        rw [hr]; clear hr
        have hb : ((m : Int) != (N.toNat : Int)) = true := by simp; omega
        clear hq
        go_enter Try.func72, Try.ntmps72
        go_wp2_with fail
        refine (get_any s _ (by omega) (by omega)).mono ?_
        rintro e w1 ⟨rfl, rfl⟩
        rw [HN.out]
        go_wp2_with fail
        go_quiet (fail)
        go_wp2_with fail
        refine (get_any _ _ (by simp; omega) (by simp; omega)).mono ?_
        rintro e w1 ⟨rfl, rfl⟩
        rw [E4.out, HM.out]
        go_wp2_with fail
        refine (sum_any _ _ (by simp; omega)).mono ?_
        rintro e w1 ⟨rfl, hB⟩
        have HB := Lib.hid hB; clear hB
        rw [append_toList, E0.out, E8'.out, HS.out]
        go_wp2_with fail
        go_ret2
        exact ⟨rfl, (below_drewN (Below.refl w.heap.size w) nq).trans HB.out⟩
end Go.Proofs.Ytcbfghncdclonaa

namespace Go.Proofs.Ytcbfghncdclonaa
open Go.RowKit

theorem mod_two (S : BitVec 32) : (S.toNat : Int) % (2 : Int) = if S.getLsbD 0 then 1 else 0 := by
  have e : (S.toNat : Int) % (2 : Int) = ((S.toNat % 2 : Nat) : Int) := by omega
  rw [e, BitVec.getLsbD, Nat.testBit_zero]
  have := Nat.mod_two_eq_zero_or_one S.toNat
  rcases this with h | h <;> simp [h]

set_option maxRecDepth 100000 in
theorem rstep_any (S : BitVec 32) (c : UInt8) (w : World) :
    Calls Try.prog 62 #[.int .u32 S.toNat, .int .u8 c.toNat] w fun e w' => e = .returned (.int .u32 (Crc.step S c.toBitVec).toNat) ∧ w = w' := by
  obtain ⟨X, hX⟩ : ∃ X, S ^^^ c.toBitVec.setWidth 32 = X := ⟨_, rfl⟩
  have hc := c.toNat_lt
  have e1 : bits .xor .u32 (S.toNat : Int) (c.toNat : Int) = (X.toNat : Int) := by
    have := Crc.bits_xor32 S (c.toBitVec.setWidth 32)
    rw [hX] at this
    rw [← this]
    congr 1
  have HX := Lib.hid hX
  clear hX
  go_enter Try.func62, Try.ntmps62
  go_wp2_with fail
  go_loop [0, 5] (fun s i => ∃ j : Nat, j ≤ 8 ∧ i = .int .i64 j ∧ s = .int .u32 (Crc.ones j X).toNat) (fun _ i => 8 - (intOf i).toNat)
  case atStart => exact ⟨0, by omega, rfl, rfl⟩
  case round =>
    obtain ⟨j, hj, rfl, rfl⟩ := hrel
    obtain ⟨T, hT⟩ : ∃ T, Crc.ones j X = T := ⟨_, rfl⟩
    have hTr : 0 ≤ (T.toNat : Int) ∧ (T.toNat : Int) ≤ 4294967295 := by have := T.isLt; omega
    have HT := Lib.hid hT
    rw [hT]; clear hT
    by_cases hlj : j < 8
    · have h1 := mod_two T
      have h2 := Crc.half T
      cases hb : T.getLsbD 0 with
      | true =>
        rw [hb] at h1
        have h3 := Crc.bits_xor32 (T >>> 1) 0x82f63b78#32
        have H4 : Hid (Crc.one T = (T >>> 1) ^^^ 0x82f63b78#32) := Lib.hid (Crc.one_odd hb)
        have H3 := Lib.hid h3; have H2 := Lib.hid h2
        clear hb h2 h3
        go_wp2_with fail
        refine ⟨⟨j + 1, by omega, by go_num, ?_⟩, by simp [intOf]; omega⟩
        rw [H2.out]
        have e3 := H3.out
        rw [show ((0x82f63b78#32).toNat : Int) = 2197175160 from rfl] at e3
        rw [e3, ← H4.out, Crc.ones, HT.out]
      | false =>
        rw [hb] at h1
        have H4 : Hid (Crc.one T = T >>> 1) := Lib.hid (Crc.one_even hb)
        have H2 := Lib.hid h2
        clear hb h2
        go_wp2_with fail
        refine ⟨⟨j + 1, by omega, by go_num, ?_⟩, by simp [intOf]; omega⟩
        rw [H2.out, ← H4.out, Crc.ones, HT.out]
    · obtain rfl : j = 8 := by omega
      go_wp2_with fail
      go_ret
      refine ⟨?_, rfl⟩
      have := HT.out
      rw [Crc.ones_eight] at this
      rw [Crc.step, HX.out, this]
      rfl

set_option maxRecDepth 100000 in
theorem rsum_any (s : ByteArray) (w : World) (hs : s.size ≤ 9223372036854775807) :
    Calls Try.prog 43 #[.string s] w fun e w' => e = .returned (.int .u32 (Crc.sum s.data.toList).toNat) ∧ w = w' := by
  go_enter Try.func43, Try.ntmps43
  go_wp2_with fail
  go_loop [3, 4] (fun v i => ∃ k : Nat, k ≤ s.size ∧ i = .int .i64 k ∧ v = .int .u32 (Crc.run (~~~ 0#32) (s.data.toList.take k)).toNat) (fun _ i => s.size - (intOf i).toNat)
  case atStart => exact ⟨0, by omega, rfl, rfl⟩
  case round =>
    obtain ⟨k, hk, rfl, rfl⟩ := hrel
    obtain ⟨S, hS⟩ : ∃ S, Crc.run (~~~ 0#32) (s.data.toList.take k) = S := ⟨_, rfl⟩
    have HS := Lib.hid hS
    rw [hS]; clear hS
    by_cases hlt : k < s.size
    · go_wp2_with fail
      refine (rstep_any S _ _).mono ?_
      rintro e w2 ⟨rfl, rfl⟩
      go_wp2_with fail
      go_round
      case rel => 
        refine ⟨k + 1, by omega, by go_num, ?_⟩
        rw [take_snoc s k hlt, Crc.run_append, HS.out]; rfl
      case measure => simp [intOf]; omega
    · go_wp2_with fail
      go_ret
      have hn := Crc.bits_not S
      refine ⟨?_, rfl⟩
      show Ending.returned (Value.int IntKind.u32 (bits BinOp.xor IntKind.u32 IntKind.u32.max ↑S.toNat)) = _
      rw [hn, ← HS.out, List.take_of_length_le (by simp; omega)]; rfl

theorem conv_four (w : World) (t : TypeId) (n : Nat) (hn : n < 4294967296) :
    (convert 38 9 (.slice (some ⟨w.heap.size, 0, none⟩) 4 4)).run Try.prog (w.alloc (.cells #[.int .u8 ((n : Int) / 16777216), .int .u8 ((n : Int) / 65536 % 256), .int .u8 ((n : Int) / 256 % 256), .int .u8 ((n : Int) % 256)] t)) =
      .ok (.string (bs (fourB n))) (w.alloc (.cells #[.int .u8 ((n : Int) / 16777216), .int .u8 ((n : Int) / 65536 % 256), .int .u8 ((n : Int) / 256 % 256), .int .u8 ((n : Int) % 256)] t)) := by
  refine conv_bytes _ 38 9 5 Try.underlying38 Try.underlying5 Try.underlying9 w.heap.size 0 4 4 (fourB n) rfl ?hc
  intro j hj
  have hj4 : j < 4 := hj
  rw [World.cell?_alloc_at _ _ _ _ rfl, Nat.zero_add]
  match j, hj4 with
  | 0, _ => exact congrArg some (byte_of _ _ (by omega))
  | 1, _ => exact congrArg some (byte_of _ _ (by omega))
  | 2, _ => exact congrArg some (byte_of _ _ (by omega))
  | 3, _ => exact congrArg some (byte_of _ _ (by omega))

set_option maxRecDepth 100000 in
theorem four_any (n : Nat) (hn : n < 4294967296) (w : World) :
    Calls Try.prog 42 #[.int .u32 n] w fun e w' => e = .returned (.string (bs (fourB n))) ∧ Below w.heap.size w w' := by
  have hN : 0 ≤ (n : Int) ∧ (n : Int) ≤ 4294967295 := by omega
  go_enter Try.func42, Try.ntmps42
  go_wp2_with fail
  rw [conv_four w 5 n hn]
  go_wp2_with fail
  go_ret
  refine ⟨rfl, ?_⟩
  go_grown

set_option maxRecDepth 100000 in
theorem rframe_any (s : ByteArray) (w : World) (hs : s.size ≤ 140737488351232) :
    Calls Try.prog 17 #[.string s] w fun e w' => e = .returned (.string (bs (frameL s.data.toList))) ∧ Below w.heap.size w w' := by
  by_cases h : 131072 < s.size
  · go_enter Try.func17, Try.ntmps17
    go_wp2_with fail
    go_ret
    rw [frameL_long (by rw [len_data]; exact h)]
    exact ⟨rfl, Below.refl _ _⟩
  · go_enter Try.func17, Try.ntmps17
    go_wp2_with fail
    refine (four_any s.size (by omega) _).mono ?_
    rintro e w1 ⟨rfl, hB⟩
    have HB := Lib.hid hB; clear hB
    have z4 : (bs (fourB s.size)).size = 4 := bs_size _
    go_wp2_with fail
    refine (rsum_any _ _ (by simp; omega)).mono ?_
    rintro e w2 ⟨rfl, rfl⟩
    rw [append_toList, bs_toList]
    obtain ⟨N, hN⟩ : ∃ N, Crc.sum (fourB s.size ++ s.data.toList) = N := ⟨_, rfl⟩
    rw [hN]
    have HN := Lib.hid hN; clear hN
    have hn := N.isLt
    go_wp2_with fail
    refine (four_any N.toNat hn _).mono ?_
    rintro e w3 ⟨rfl, hB⟩
    have HB3 := Lib.hid hB; clear hB
    have z5 : (bs (fourB N.toNat)).size = 4 := bs_size _
    go_wp2_with fail
    go_ret
    refine ⟨?_, HB.out.trans (HB3.out.mono HB.out.size)⟩
    show Ending.returned (Value.string (bs (fourB s.size) ++ bs (fourB N.toNat) ++ s)) = _
    rw [frameL_short (by rw [len_data]; exact h), len_data, HN.out, bs_append]
    conv => lhs; rw [← bs_data s]
    rw [bs_append, bs_data]

theorem i64_small (n : Int) (h0 : 0 ≤ n) (h1 : n < 4611686018427387904) : IntKind.i64.wrap n = n := by rw [IntKind.wrap_i64]; omega
theorem or_join (x y : Int) (i : Nat) (hx0 : 0 ≤ x) (hx : x % 2 ^ i = 0) (hx1 : x < 4611686018427387904) (hy0 : 0 ≤ y) (hy : y < 2 ^ i) (hy1 : y < 4611686018427387904) : bits .or .i64 x y = x + y :=
  bits_join .i64 62 (by decide) (fun m h0 h1 => i64_small m h0 (by simpa using h1)) i x y hx0 hx (by simpa using hx1) hy0 hy (by simpa using hy1)
theorem or_three (a b c d : Nat) (ha : a < 256) (hb : b < 256) (hc : c < 256) (hd : d < 256) :
    bits .or .i64 (bits .or .i64 (bits .or .i64 ((a : Int) * 16777216) ((b : Int) * 65536)) ((c : Int) * 256)) (d : Int) = (((a * 256 + b) * 256 + c) * 256 + d : Nat) := by
  rw [or_join ((a : Int) * 16777216) ((b : Int) * 65536) 24 (by omega) (by omega) (by omega) (by omega) (by omega) (by omega)]
  rw [or_join _ ((c : Int) * 256) 16 (by omega) (by omega) (by omega) (by omega) (by omega) (by omega)]
  rw [or_join _ (d : Int) 8 (by omega) (by omega) (by omega) (by omega) (by omega) (by omega)]
  omega
set_option maxRecDepth 100000 in
theorem number_any (s : ByteArray) (w : World) (hs : 4 ≤ s.size) (hm : s.size ≤ 9223372036854775807) :
    Calls Try.prog 90 #[.string s] w fun e w' => e = .returned (.int .i64 (numB s.data.toList)) ∧ ∃ n, w' = w.drewN n := by
  have b0 := (s[0]'(by omega)).toNat_lt
  have b1 := (s[1]'(by omega)).toNat_lt
  have b2 := (s[2]'(by omega)).toNat_lt
  have b3 := (s[3]'(by omega)).toNat_lt
  have i0 : 0 < s.size := by omega
  have i1 : (1 : Int) < (s.size : Int) := by omega
  have i2 : (2 : Int) < (s.size : Int) := by omega
  have i3 : (3 : Int) < (s.size : Int) := by omega
  have w0 := i64_small (s[0]'(by omega)).toNat (by omega) (by omega)
  have w1 := i64_small (s[1]'(by omega)).toNat (by omega) (by omega)
  have w2 := i64_small (s[2]'(by omega)).toNat (by omega) (by omega)
  have w3 := i64_small (s[3]'(by omega)).toNat (by omega) (by omega)
  have v0 := i64_small ((s[0]'(by omega)).toNat * 16777216) (by omega) (by omega)
  have v1 := i64_small ((s[1]'(by omega)).toNat * 65536) (by omega) (by omega)
  have v2 := i64_small ((s[2]'(by omega)).toNat * 256) (by omega) (by omega)
  go_enter Try.func90, Try.ntmps90
  go_wp2_with fail
  go_quiet (fail)
  go_wp2_with fail
  go_ret
  refine ⟨?_, nq, rfl⟩
  show Ending.returned (Value.int .i64 (bits .or .i64 (bits .or .i64 (bits .or .i64 ((s[0]'(by omega)).toNat * 16777216) ((s[1]'(by omega)).toNat * 65536)) ((s[2]'(by omega)).toNat * 256)) (s[3]'(by omega)).toNat)) = _
  rw [or_three _ _ _ _ b0 b1 b2 b3, numB, take_four s hs]
  simp
end Go.Proofs.Ytcbfghncdclonaa

namespace Go.Proofs.Ytcbfghncdclonaa
open Go.RowKit

theorem fourB_numB (l : List UInt8) (h : 4 ≤ l.length) : fourB (numB l) = l.take 4 := by
  match l, h with
  | a :: b :: c :: d :: r, _ =>
    have ha := a.toNat_lt; have hb := b.toNat_lt; have hc := c.toNat_lt; have hd := d.toNat_lt
    simp only [numB, List.take, List.foldl, fourB]
    congr
    · apply UInt8.toNat_inj.1; simp; try omega
    · apply UInt8.toNat_inj.1; simp; try omega
    · apply UInt8.toNat_inj.1; simp; try omega
    · apply UInt8.toNat_inj.1; simp; try omega
theorem numB_fourB (n : Nat) (h : n < 4294967296) (r : List UInt8) : numB (fourB n ++ r) = n := by
  simp [numB, fourB]; omega
theorem fourB_length (n : Nat) : (fourB n).length = 4 := rfl
theorem frame_is (s : List UInt8) (n : Nat) (h8 : 8 ≤ s.length) (hn : numB s = n) (h1 : n ≤ 131072) (h2 : n + 8 ≤ s.length) :
    (frameL ((s.drop 8).take n) = s.take (8 + n)) ↔ numB (s.drop 4) = (Crc.sum (s.take 4 ++ (s.drop 8).take n)).toNat := by
  have hb : ((s.drop 8).take n).length = n := by simp; omega
  have e4 : fourB n = s.take 4 := by rw [← hn, fourB_numB _ (by omega)]
  have e8 : s.take (8 + n) = s.take 4 ++ (s.drop 4).take 4 ++ (s.drop 8).take n := by
    rw [List.take_add, show (8 : Nat) = 4 + 4 from rfl, List.take_add]
  rw [frameL_short (by rw [hb]; omega), hb, e4, e8]
  have f4 : (s.drop 4).take 4 = fourB (numB (s.drop 4)) := by rw [fourB_numB _ (by simp; omega)]
  rw [f4]
  have hN := (Crc.sum (s.take 4 ++ (s.drop 8).take n)).isLt
  constructor
  · intro h
    have h' := List.append_inj_left h (by simp [fourB_length])
    have h'' := List.append_inj_right h' rfl
    have := congrArg (fun l => numB (l ++ [])) h''
    simp only [numB_fourB _ hN, numB_fourB _ (numB_lt _)] at this
    exact this.symm
  · intro h
    rw [h]

set_option maxRecDepth 100000 in
theorem rnext_any (s : ByteArray) (w : World) (hs : s.size ≤ 140737488351232) :
    Calls Try.prog 76 #[.string s] w fun e w' => e = .returned (.tuple #[.string (bs (nextL s.data.toList).1), .int .i64 (nextL s.data.toList).2]) ∧ Below w.heap.size w w' := by
  by_cases h : s.size < 8
  · have hr : nextL s.data.toList = ([], 0) := by unfold nextL; rw [if_pos (by rw [len_data]; exact h)]
    rw [hr]; clear hr
    go_enter Try.func76, Try.ntmps76
    go_wp2_with fail
    go_ret2
    exact ⟨rfl, Below.refl _ _⟩
  · obtain ⟨n, hn⟩ : ∃ n, numB s.data.toList = n := ⟨_, rfl⟩
    have hlt : n < 4294967296 := by rw [← hn]; exact numB_lt _
    by_cases h2 : 131072 < n ∨ s.size - 8 < n
    · have hr : nextL s.data.toList = ([], 0) := by unfold nextL; rw [if_neg (by rw [len_data]; exact h), if_pos (by rw [len_data, hn]; exact h2)]
      rw [hr]; clear hr
      have HN := Lib.hid hn; clear hn
      by_cases h3 : 131072 < n
      · go_enter Try.func76, Try.ntmps76
        go_wp2_with fail
        refine (number_any s _ (by omega) (by omega)).mono ?_
        rintro e w1 ⟨rfl, q, rfl⟩
        rw [HN.out]
        go_wp2_with fail
        go_ret2
        exact ⟨rfl, below_drewN (Below.refl w.heap.size w) q⟩
      · have h4 : s.size - 8 < n := by omega
        go_enter Try.func76, Try.ntmps76
        go_wp2_with fail
        refine (number_any s _ (by omega) (by omega)).mono ?_
        rintro e w1 ⟨rfl, q, rfl⟩
        rw [HN.out]
        clear h2
        go_wp2_with fail
        go_ret2
        exact ⟨rfl, below_drewN (Below.refl w.heap.size w) q⟩
    · have h3 : n ≤ 131072 := by omega
      have h4 : n + 8 ≤ s.size := by omega
      have e8 : (s.extract 8 (8 + n)).data.toList = (s.data.toList.drop 8).take n := by
        rw [extract_toList, Nat.add_sub_cancel_left]
      have eA : (s.extract 0 (8 + n)).data.toList = s.data.toList.take (8 + n) := by
        rw [extract_toList]; rfl
      have E8 := Lib.hid (show s.extract 8 (8 + n) = bs ((s.data.toList.drop 8).take n) by rw [← e8, bs_data])
      have E8' := Lib.hid e8; have EA := Lib.hid eA
      have h0n : ¬ s.data.toList.length < 8 := by rw [len_data]; exact h
      have hiff := frame_is s.data.toList n (by omega) hn h3 (by rw [len_data]; exact h4)
      have hr : nextL s.data.toList = if frameL ((s.data.toList.drop 8).take n) = s.data.toList.take (8 + n) then ((s.data.toList.drop 8).take n, 8 + n) else ([], 0) := by
        unfold nextL; rw [if_neg h0n, if_neg (by rw [len_data, hn]; exact h2), hn]
        simp only [hiff]
      have HN := Lib.hid hn
      clear hn e8 eA h0n h2 hiff
      obtain ⟨X, hX⟩ : ∃ X, (s.data.toList.drop 8).take n = X := ⟨_, rfl⟩
      rw [hX] at hr E8 E8'
      have hXl : X.length ≤ n := by rw [← hX]; exact List.length_take_le _ _
      have k3 : (8 + (n : Int)).toNat = 8 + n := by omega
      have k1 : (0 : Int) ≤ 8 + (n : Int) := by omega
      have k2 : (8 : Int) + (n : Int) ≤ (s.size : Int) := by omega
      have HX := Lib.hid hX; clear hX
      have hw8 : IntKind.i64.wrap (8 + (n : Int)) = 8 + (n : Int) := i64_small _ (by omega) (by omega)
      by_cases hq : frameL X = s.data.toList.take (8 + n)
      · rw [if_pos hq] at hr
        rw [hr]; clear hr
        have hb : ((bs (frameL X)).toList == (s.extract 0 (8 + n)).toList) = true := by rw [Lib.toList_data, Lib.toList_data, EA.out, bs_toList, hq]; simp
        clear hq
        go_enter Try.func76, Try.ntmps76
        go_wp2_with fail
        refine (number_any s _ (by omega) (by omega)).mono ?_
        rintro e w1 ⟨rfl, q, rfl⟩
        rw [HN.out]
        go_wp2_with fail
        rw [E8.out]
        go_region_held3 (fun _ => True) (trivial) (first | (go_at_call 17; refine (rframe_any _ _ (by rw [bs_size]; omega)).mono ?_; rintro e w2 ⟨rfl, hB⟩; rw [bs_toList]))
        have HB := Lib.hid hB; clear hB
        go_wp2_with fail
        go_ret2
        refine ⟨?_, (below_drewN (Below.refl w.heap.size w) (q + 1)).trans HB.out⟩
        show Ending.returned (Value.tuple #[Value.string (bs X), Value.int .i64 (8 + (n : Int))]) = _
        rw [Int.natCast_add]; rfl
      · rw [if_neg hq] at hr
        rw [hr]; clear hr
        have hb : ((bs (frameL X)).toList == (s.extract 0 (8 + n)).toList) = false := by rw [Lib.toList_data, Lib.toList_data, EA.out, bs_toList]; simpa using hq
        clear hq
        go_enter Try.func76, Try.ntmps76
        go_wp2_with fail
        refine (number_any s _ (by omega) (by omega)).mono ?_
        rintro e w1 ⟨rfl, q, rfl⟩
        rw [HN.out]
        go_wp2_with fail
        rw [E8.out]
        go_region_held3 (fun _ => True) (trivial) (first | (go_at_call 17; refine (rframe_any _ _ (by rw [bs_size]; omega)).mono ?_; rintro e w2 ⟨rfl, hB⟩; rw [bs_toList]))
        have HB := Lib.hid hB; clear hB
        go_wp2_with fail
        go_ret2
        exact ⟨rfl, (below_drewN (Below.refl w.heap.size w) (q + 1)).trans HB.out⟩
end Go.Proofs.Ytcbfghncdclonaa

namespace Go.Proofs.Ytcbfghncdclonaa
open Go.RowKit

/-! ### All frames at the front, in plain words -/
theorem nextL_le (s : List UInt8) : (nextL s).2 = 0 ∨ (8 ≤ (nextL s).2 ∧ (nextL s).2 ≤ s.length) := by
  unfold nextL
  split
  · exact .inl rfl
  · split
    · exact .inl rfl
    · split
      · exact .inr ⟨by simp, by simp; omega⟩
      · exact .inl rfl
def allF : Nat → List UInt8 → List (List UInt8) × Nat
  | 0, _ => ([], 0)
  | k + 1, s => if (nextL s).2 = 0 then ([], 0) else ((nextL s).1 :: (allF k (s.drop (nextL s).2)).1, (nextL s).2 + (allF k (s.drop (nextL s).2)).2)
def allL (s : List UInt8) : List (List UInt8) × Nat := allF (s.length + 1) s
theorem allF_same : ∀ (k k' : Nat) (s : List UInt8), s.length < k → s.length < k' → allF k s = allF k' s := by
  intro k
  induction k with
  | zero => intro k' s h; omega
  | succ k ih =>
    intro k' s h h'
    cases k' with
    | zero => omega
    | succ k' =>
      simp only [allF]
      split
      · rfl
      · rename_i hz
        rcases nextL_le s with h0 | ⟨h8, hl⟩
        · exact absurd h0 hz
        · have hd : (s.drop (nextL s).2).length < s.length := by simp; omega
          rw [ih k' _ (by omega) (by omega)]
theorem allF_more (k : Nat) (s : List UInt8) (h : s.length < k) : allF k s = allL s := allF_same _ _ s h (by omega)
theorem allL_stop {s : List UInt8} (h : (nextL s).2 = 0) : allL s = ([], 0) := by
  unfold allL; rw [allF, if_pos h]
theorem allL_go {s : List UInt8} (h : (nextL s).2 ≠ 0) : allL s = ((nextL s).1 :: (allL (s.drop (nextL s).2)).1, (nextL s).2 + (allL (s.drop (nextL s).2)).2) := by
  have hd : (s.drop (nextL s).2).length < s.length := by
    rcases nextL_le s with h0 | ⟨h8, hl⟩
    · exact absurd h0 h
    · simp; omega
  conv => lhs; unfold allL
  rw [allF, if_neg h, allF_more _ _ hd]
theorem allL_le (s : List UInt8) : (allL s).1.length * 8 ≤ (allL s).2 ∧ (allL s).2 ≤ s.length := by
  have key : ∀ (n : Nat) (s : List UInt8), s.length ≤ n → (allL s).1.length * 8 ≤ (allL s).2 ∧ (allL s).2 ≤ s.length := by
    intro n
    induction n with
    | zero =>
      intro s h
      have : (nextL s).2 = 0 := by rcases nextL_le s with h0 | ⟨h8, hl⟩ <;> omega
      rw [allL_stop this]; simp
    | succ n ih =>
      intro s h
      by_cases hz : (nextL s).2 = 0
      · rw [allL_stop hz]; simp
      · rw [allL_go hz]
        rcases nextL_le s with h0 | ⟨h8, hl⟩
        · exact absurd h0 hz
        · have := ih (s.drop (nextL s).2) (by simp; omega)
          simp at this ⊢
          omega
  exact key _ s (Nat.le_refl _)

theorem below_grownBy {w w1 : World} (h : Below w.heap.size w w1) : w.grownBy w1 none := ⟨h.os, h.tape, h.output, h.size, fun i hi _ => h.block i hi⟩
theorem own_below {w w1 : World} {base : Nat} {e : TypeId} {size n : Nat} {v : Value} {xs : List Value} (h : w.ownsRow base e size v n xs) (hb : Below w.heap.size w w1) : w1.ownsRow base e size v n xs :=
  h.kept (below_grownBy hb) (by cases v.ownBlock <;> simp)
theorem own_base {w : World} {base : Nat} {e : TypeId} {size n : Nat} {v : Value} {xs : List Value} (h : w.ownsRow base e size v n xs) : ∀ k, v.ownBlock = some k → base ≤ k := by
  intro k hk
  rcases h.2 with ⟨rfl, _⟩ | ⟨g, cap, cur, rfl, hb, _⟩
  · simp [Value.ownBlock] at hk
  · have : g = k := by simpa [Value.ownBlock] using hk
    omega
/-- A row of texts, as values. -/
def txts (l : List (List UInt8)) : List Value := l.map fun b => Value.string (bs b)
theorem txts_snoc (l : List (List UInt8)) (b : List UInt8) : txts (l ++ [b]) = txts l ++ [Value.string (bs b)] := by simp [txts]
theorem info9 : (Try.prog.info? 9).map (fun i => (i.zero, i.size, i.bytes)) = some (some (.string ByteArray.empty), 1, 16) := by kernel_rfl

/-- How far a loop over frames has come. -/
structure Far (s : List UInt8) (pre : List (List UInt8)) (a : Nat) : Prop where
  le : a ≤ s.length
  eq : allL s = (pre ++ (allL (s.drop a)).1, a + (allL (s.drop a)).2)
  cnt : pre.length * 8 ≤ a
theorem Far.start (s : List UInt8) : Far s [] 0 := ⟨by omega, by simp, by simp⟩
theorem Far.step {s : List UInt8} {pre : List (List UInt8)} {a : Nat} (h : Far s pre a) (hz : (nextL (s.drop a)).2 ≠ 0) :
    Far s (pre ++ [(nextL (s.drop a)).1]) (a + (nextL (s.drop a)).2) := by
  rcases nextL_le (s.drop a) with h0 | ⟨h8, hl⟩
  · exact absurd h0 hz
  · have hd : (s.drop a).drop (nextL (s.drop a)).2 = s.drop (a + (nextL (s.drop a)).2) := by rw [List.drop_drop]
    refine ⟨?_, ?_, ?_⟩
    · have := h.le; simp at hl; omega
    · rw [h.eq, allL_go hz, hd]; simp [Nat.add_assoc]
    · have := h.cnt; simp; omega
theorem Far.stop {s : List UInt8} {pre : List (List UInt8)} {a : Nat} (h : Far s pre a) (hz : (nextL (s.drop a)).2 = 0) : allL s = (pre, a) := by
  rw [h.eq, allL_stop hz]; simp

set_option maxRecDepth 100000 in
set_option maxHeartbeats 1000000 in
theorem rall_any (s : ByteArray) (w : World) (hs : s.size ≤ 1099511627776) :
    Calls Try.prog 64 #[.string s] w fun e w' => ∃ v, e = .returned (.tuple #[v, .int .i64 (allL s.data.toList).2]) ∧
      w'.ownsRow w.heap.size 9 1 v (allL s.data.toList).1.length (txts (allL s.data.toList).1) ∧ Below w.heap.size w w' := by
  obtain ⟨i0, hi, hz0, hz1, hz2⟩ := info_parts info9
  go_enter Try.func64, Try.ntmps64
  go_wp2_with fail
  go_loopw [4, 5] (fun v i wr => ∃ (pre : List (List UInt8)) (a : Nat), Far s.data.toList pre a ∧ i = .int .i64 a ∧ wr.ownsRow w.heap.size 9 1 v pre.length (txts pre) ∧ Below w.heap.size w wr) (fun _ i _ => s.size - (intOf i).toNat)
  case atStart => exact ⟨[], 0, Far.start _, rfl, World.ownsRow_nil _ _ _ _, Below.refl _ _⟩
  case round =>
    obtain ⟨pre, a, hF, rfl, hown, hB⟩ := hrel
    have ha : a ≤ s.size := by have := hF.le; rwa [len_data] at this
    have hc := hF.cnt
    have HF := Lib.hid hF; have HO := Lib.hid hown; have HB := Lib.hid hB
    clear hF hown hB
    have ea : (s.extract a s.size).data.toList = s.data.toList.drop a := by
      rw [extract_toList, List.take_of_length_le (by simp)]
    have EA := Lib.hid ea; clear ea
    go_wp2_with fail
    refine (rnext_any (s.extract a s.size) _ (by simp; omega)).mono ?_
    rintro e w1 ⟨rfl, hB1⟩
    have HB1 := Lib.hid hB1; clear hB1
    rw [EA.out]
    obtain ⟨r, hr⟩ : ∃ r, nextL (s.data.toList.drop a) = r := ⟨_, rfl⟩
    rw [hr]
    have HR := Lib.hid hr
    clear hr
    by_cases hz : r.2 = 0
    · have HS := Lib.hid (HF.out.stop (by rw [HR.out]; exact hz))
      have hb : ((r.2 : Int) == 0) = true := by rw [hz]; rfl
      clear hz
      go_wp2_with fail
      go_ret2
      refine ⟨u4, ?_, ?_, HB.out.trans (HB1.out.mono HB.out.size)⟩
      · rw [HS.out]; rfl
      · rw [HS.out]
        exact own_below HO.out HB1.out
    · have hn := nextL_le (s.data.toList.drop a)
      rw [HR.out] at hn
      have hn8 : 8 ≤ r.2 := by omega
      have hnl : a + r.2 ≤ s.size := by
        rcases hn with h | ⟨_, h⟩
        · omega
        · simp at h; omega
      have HS := Lib.hid (HF.out.step (by rw [HR.out]; exact hz))
      have hb : ((r.2 : Int) == 0) = false := by simp; omega
      have hown := own_below HO.out HB1.out
      clear hz hn
      have z1 := HB.out.size
      have z2 := HB1.out.size
      go_wp2_with (at_builtin; refine wpList_append_own _ rfl _ _ 26 rfl w.heap.size 9 i0 (.string ByteArray.empty) 1 16 Try.underlying26 hi hz0 hz1 hz2 rfl (by decide) _ _ _ rfl (hown.alloc _) ⟨w1.heap.size, 0, none⟩ 1 1 [.string (bs r.1)] rfl rfl (cell_one_new _ _ _) (by simp [Value.oneCell']) (by unfold maxLen; omega) (by omega) (by simp; omega) ?_; intro v' w2 hown' hgrow _; have HO2 := Lib.hid hown'; have HG : Hid ((w1.alloc (.cells #[.string (bs r.1)] 9)).grownBy w2 u4.ownBlock) := Lib.hid hgrow; clear hown' hgrow hown)
      go_roundw
      case rel =>
        have e1 := HS.out
        rw [HR.out] at e1
        refine ⟨pre ++ [r.1], a + r.2, e1, by go_num, ?_, ?_⟩
        · rw [txts_snoc, List.length_append]; exact HO2.out
        · have hb2 := HB.out.trans (HB1.out.mono HB.out.size)
          refine (hb2.alloc (by omega) _).grown HG.out (by simp; omega) (own_base HO.out)
      case measure => simp [intOf]; omega
end Go.Proofs.Ytcbfghncdclonaa

namespace Go.Proofs.Ytcbfghncdclonaa
open Go.RowKit Go.Shelf
attribute [local go_sem] Oper.semAt_some

def lastEnd (pre : List (Nat × List UInt8)) : Nat := (pre.getLast?.map (·.1)).getD 0
theorem lastEnd_snoc (pre : List (Nat × List UInt8)) (x : Nat × List UInt8) : lastEnd (pre ++ [x]) = x.1 := by simp [lastEnd]
def encE (x : Nat × List UInt8) : Array Value := #[.int .i64 x.1, .string (bs x.2)]

/-- Block b lies as it lay. -/
def KeepB (b : Nat) (W W' : World) : Prop := W.heap.size ≤ W'.heap.size ∧ W'.heap[b]? = W.heap[b]?
theorem KeepB.refl (b : Nat) (W : World) : KeepB b W W := ⟨Nat.le_refl _, rfl⟩
theorem KeepB.trans {b : Nat} {A B C : World} (h : KeepB b A B) (k : KeepB b B C) : KeepB b A C := ⟨Nat.le_trans h.1 k.1, k.2.trans h.2⟩
theorem KeepB.cell {b o : Nat} {W W' : World} (h : KeepB b W W') : W'.cell? ⟨b, o, none⟩ = W.cell? ⟨b, o, none⟩ := by
  unfold World.cell?; rw [show W'.heap[(⟨b, o, none⟩ : Addr).block]? = W.heap[(⟨b, o, none⟩ : Addr).block]? from h.2]
theorem KeepB.below {b : Nat} {W W' : World} (h : Below W.heap.size W W') (hb : b < W.heap.size) : KeepB b W W' := ⟨h.size, h.block b hb⟩
theorem KeepB.grown {b : Nat} {W W' : World} {row : Option Nat} (h : W.grownBy W' row) (hb : b < W.heap.size) (hr : some b ≠ row) : KeepB b W W' := ⟨h.size, h.block b hb hr⟩
theorem KeepB.putObj {b : Nat} {B : Nat} (hb : b < B) (W : World) (l : Nat) (o o' : Obj) (hl : B ≤ l) (_ : W.heap[l]? = some o) (_ : o.isCells = false) (_ : o.isWalk = false) : KeepB b W (W.putObj l o') :=
  ⟨by simp [World.putObj], World.putObj_heap_other (by omega)⟩

set_option maxRecDepth 100000 in
set_option maxHeartbeats 1000000 in
theorem each1_in (n : Nat) (hn : 1 ≤ n) (l Bn : Nat) (s : ByteArray) (hs : s.size ≤ 1099511627776) (J Jx : List (Nat × List UInt8) → World → Prop)
    (hJ : ∀ p W W', J p W → Below W.heap.size W W' → J p W')
    (hY : ∀ pre x W, J pre W → pre.length < s.size + 1 → YieldAt Fence.wide (n - 1) Try.prog l (encE x) W fun e W' =>
      (e = .returned (.bool true) ∧ J (pre ++ [x]) W' ∧ KeepB Bn W W') ∨ (e = .returned (.bool false) ∧ Jx (pre ++ [x]) W'))
    (W : World) (hBn : W.cell? ⟨Bn, 0, none⟩ = some (.string s)) (hlt : Bn < W.heap.size) (h0 : J [] W) :
    CallsIn Fence.wide n Try.prog 71 #[.func (.yield l) #[] #[], .pointer (some ⟨Bn, 0, none⟩)] W fun e W' => (∃ v, e = .returned v) ∧
      ((∃ ys, allL s.data.toList = (ys.map (·.2), lastEnd ys) ∧ J ys W') ∨ (∃ pre, True ∧ Jx pre W')) := by
  refine callsIn_of_wp Try.func71 rfl trivial ?_ rfl
  simp only [Try.ntmps71, List.size_toArray, List.length_cons, List.length_nil, Nat.reduceAdd, Nat.reduceSub, Array.replicate_succ, Array.replicate_zero, List.push_toArray, List.append_toArray, List.nil_append, List.cons_append]
  gi_wp2_with fail
  gi_loopw [3] (fun p wr => ∃ (pre : List (Nat × List UInt8)), Far s.data.toList (pre.map (·.2)) (lastEnd pre) ∧ p = .int .i64 (lastEnd pre) ∧ J pre wr ∧ wr.cell? ⟨Bn, 0, none⟩ = some (.string s) ∧ Bn < wr.heap.size)
    (fun p wr => s.size - (intOf p).toNat)
  case atStart => exact ⟨[], Far.start _, rfl, h0, hBn, hlt⟩
  case round =>
    obtain ⟨pre, hF, rfl, hJp, hc, hz⟩ := hrel
    obtain ⟨a, ha⟩ : ∃ a, lastEnd pre = a := ⟨_, rfl⟩
    rw [ha] at hF ⊢
    have hal : a ≤ s.size := by have := hF.le; rwa [len_data] at this
    have hcn := hF.cnt
    have HF := Lib.hid hF; have HJ := Lib.hid hJp; have HA := Lib.hid ha; have H0 := Lib.hid h0; have HYY := Lib.hid hY; have HJJ := Lib.hid hJ
    clear hF hJp ha h0 hY hJ hBn
    have ea : (s.extract a s.size).data.toList = s.data.toList.drop a := by
      rw [extract_toList, List.take_of_length_le (by simp)]
    have EA := Lib.hid ea; clear ea
    gi_wp2_with fail
    refine ⟨trivial, (callsIn_wide.2 (next_any (s.extract a s.size) _ (by simp; omega))).mono ?_⟩
    rintro e w1 ⟨rfl, hB1⟩
    rw [EA.out]
    obtain ⟨r, hr⟩ : ∃ r, nextL (s.data.toList.drop a) = r := ⟨_, rfl⟩
    rw [hr]
    have HR := Lib.hid hr
    clear hr
    have hc1 : w1.cell? ⟨Bn, 0, none⟩ = some (.string s) := (hB1.cell (p := ⟨Bn, 0, none⟩) hz).trans hc
    have hz1 : Bn < w1.heap.size := Nat.lt_of_lt_of_le hz hB1.size
    have HJ1 := Lib.hid (HJJ.out pre wr w1 HJ.out hB1)
    have HB1 := Lib.hid hB1; clear hB1
    by_cases hzr : r.2 = 0
    · have HS := Lib.hid (HF.out.stop (by rw [HR.out]; exact hzr))
      have hb : ((r.2 : Int) == 0) = true := by rw [hzr]; rfl
      clear hzr
      gi_wp2_with fail
      refine ⟨(fun f h => by cases h), ?_⟩
      gi_wp2_with fail
      (try simp only [Exit.inBlock, Exit.then])
      refine bodyPost_ret (results_none rfl _ _ _) rfl ?_
      exact ⟨⟨_, rfl⟩, .inl ⟨pre, by rw [HS.out, HA.out], HJ1.out⟩⟩
    · have hn := nextL_le (s.data.toList.drop a)
      rw [HR.out] at hn
      have hn8 : 8 ≤ r.2 := by omega
      have hnl : a + r.2 ≤ s.size := by
        rcases hn with h | ⟨_, h⟩
        · omega
        · simp at h; omega
      have HS := Lib.hid (HF.out.step (by rw [HR.out]; exact hzr))
      have hb : ((r.2 : Int) == 0) = false := by simp; omega
      clear hzr hn
      obtain ⟨fn, tmps, assign, body, hy, hR⟩ := HYY.out pre (a + r.2, r.1) w1 HJ1.out (by rw [List.length_map] at hcn; omega)
      simp only [encE, Int.natCast_add] at hy
      have HRR := Lib.hid hR; clear hR
      gi_wp2_with fail
      refine HRR.out.mono ?_
      rintro e W3 (⟨rfl, hJ3, hk3⟩ | ⟨rfl, hJx3⟩)
      · have hc3 : W3.cell? ⟨Bn, 0, none⟩ = some (.string s) := hk3.cell.trans hc1
        have hz3 := hk3.1
        have HJ3 := Lib.hid hJ3; clear hJ3 hk3
        gi_wp2_with fail
        go_roundw
        case rel =>
          have e1 := HS.out
          rw [HR.out] at e1
          refine ⟨pre ++ [(a + r.2, r.1)], by rw [lastEnd_snoc]; simpa using e1, by rw [lastEnd_snoc]; go_num, HJ3.out, hc3, by omega⟩
        case measure => simp [intOf]; omega
      · have HJ3 := Lib.hid hJx3; clear hJx3
        gi_wp2_with fail
        (try simp only [Exit.inBlock, Exit.then])
        refine bodyPost_ret (results_none rfl _ _ _) rfl ?_
        exact ⟨⟨_, rfl⟩, .inr ⟨_, trivial, HJ3.out⟩⟩

set_option maxRecDepth 100000 in
theorem each_any (s : ByteArray) (w : World) :
    Calls Try.prog 58 #[.string s] w fun e w' => e = .returned (.func (.func 71) #[] #[.pointer (some ⟨w.heap.size, 0, none⟩)]) ∧ w.alloc (.cells #[.string s] 9) = w' := by
  have hmf : ∀ (fn : Fn) (first cap : Array Value) (w : World), (Instr.makeFunc fn first cap).run Try.prog w = .ok (.func fn first cap) w := fun _ _ _ _ => rfl
  go_enter Try.func58, Try.ntmps58
  go_wp2_with fail
  go_ret
  exact ⟨rfl, rfl⟩

theorem each_stops (n : Nat) (hn : 1 ≤ n) (Bn : Nat) (s : ByteArray) (hs : s.size ≤ 1099511627776) (w : World) (hBn : w.cell? ⟨Bn, 0, none⟩ = some (.string s)) (hlt : Bn < w.heap.size) :
    SeqStopsK Fence.wide n Try.prog 71 #[.pointer (some ⟨Bn, 0, none⟩)] encE (KeepB Bn) (fun ys => allL s.data.toList = (ys.map (·.2), lastEnd ys)) (fun _ => True) (s.size + 1) w := fun l J Jx W hW hJ _ hY h0 =>
  each1_in n hn l Bn s hs J Jx (fun p W1 W2 h1 hb => hJ p W1 W2 none h1 (below_grownBy hb) (fun r e => by cases e)) hY W ((hW.cell (p := ⟨Bn, 0, none⟩) hlt).trans hBn) (Nat.lt_of_lt_of_le hlt hW.size) h0
end Go.Proofs.Ytcbfghncdclonaa

namespace Go.Proofs.Ytcbfghncdclonaa
theorem own_lower {w : World} {base base' : Nat} {e : TypeId} {size n : Nat} {v : Value} {xs : List Value} (h : w.ownsRow base e size v n xs) (hb : base' ≤ base) : w.ownsRow base' e size v n xs := by
  refine ⟨h.1, ?_⟩
  rcases h.2 with h2 | ⟨g, cap, cur, rfl, hg, rest⟩
  · exact .inl h2
  · exact .inr ⟨g, cap, cur, rfl, Nat.le_trans hb hg, rest⟩
open Go.RowKit Go.Shelf
attribute [local go_sem] Oper.semAt_some

set_option maxRecDepth 100000 in
set_option maxHeartbeats 2000000 in
theorem all_in (s : ByteArray) (w : World) (hs : s.size ≤ 1099511627776) :
    CallsIn Fence.wide 3 Try.prog 31 #[.string s] w fun e w' => ∃ v, e = .returned (.tuple #[v, .int .i64 (allL s.data.toList).2]) ∧
      w'.ownsRow w.heap.size 9 1 v (allL s.data.toList).1.length (txts (allL s.data.toList).1) ∧ Below w.heap.size w w' := by
  obtain ⟨i0, hi, hz0, hz1, hz2⟩ := info_parts info9
  refine callsIn_of_wp_marks Try.func31 rfl trivial ?_ rfl
  simp only [Try.ntmps31, List.size_toArray, List.length_cons, List.length_nil, Nat.reduceAdd, Nat.reduceSub, Array.replicate_succ, Array.replicate_zero, List.push_toArray, List.append_toArray, List.nil_append, List.cons_append]
  gi_wp2_with fail
  refine ⟨trivial, (callsIn_wide.2 (each_any s _)).mono ?_⟩
  rintro e w1 ⟨rfl, rfl⟩
  gi_wp2_with fail
  have bO := Boxed.new w 26 (.slice none 0 0)
  have bA := Boxed.new (w.alloc (.cells #[.slice none 0 0] 26)) 3 (.int .i64 0)
  have bS := Boxed.new ((w.alloc (.cells #[.slice none 0 0] 26)).alloc (.cells #[.int .i64 0] 3)) 9 (.string s)
  simp only [World.size_alloc] at bA bS
  have hB0 : Below w.heap.size w (((w.alloc (.cells #[.slice none 0 0] 26)).alloc (.cells #[.int .i64 0] 3)).alloc (.cells #[.string s] 9)) := (((Below.refl _ w).alloc (Nat.le_refl _) _).alloc (by simp) _).alloc (by simp; omega) _
  refine wpIn_rangeFunc_ownG rfl (by omega) (gf := 71) (lb := #[.pointer (some ⟨w.heap.size + 1 + 1, 0, none⟩)]) rfl trivial (enters_of Try.func71 (by kernel_rfl) rfl)
    (each_stops 2 (by omega) (w.heap.size + 1 + 1) s hs _ bS.cell (by simp)) KeepB.trans (KeepB.putObj (by simp)) (Below.refl _ _) (fun _ => rfl)
    (fun (pre : List (Nat × List UInt8)) W => ((∃ v, Boxed W w.heap.size 26 v ∧ W.ownsRow (w.heap.size + 1 + 1 + 1) 9 1 v pre.length (txts (pre.map (·.2))) ∧ True) ∧ Boxed W (w.heap.size + 1) 3 (.int .i64 (lastEnd pre))) ∧ (Below w.heap.size w W ∧ w.heap.size + 1 + 1 < W.heap.size))
    (fun _ _ _ => False)
    (OwnFrom.and (OwnFrom.and (Own.from (holdsRow_own (w.heap.size + 1 + 1 + 1) w.heap.size 26 9 1 (fun (pre : List (Nat × List UInt8)) => pre.length) (fun pre => txts (pre.map (·.2))) (fun _ _ => True)) _) (Own.from (boxed_own (w.heap.size + 1) 3 (fun (pre : List (Nat × List UInt8)) => .int .i64 (lastEnd pre))) _)) (OwnFrom.and (ownFrom_below (Nat.le_refl _) (by simp; omega)) (fun _ _ _ _ hs hg _ => Nat.lt_of_lt_of_le hs hg.size)))
    (fun _ _ _ _ _ hs _ _ => hs)
    ⟨⟨⟨_, (bO.alloc _).alloc _, World.ownsRow_nil _ _ _ _, trivial⟩, bA.alloc _⟩, hB0, by simp⟩
    (fun (x : Nat × List UInt8) => { tmps := #[.string s, undef, .slice none 0 0, .int .i64 0, .pointer (some ⟨w.heap.size, 0, none⟩), .pointer (some ⟨w.heap.size + 1, 0, none⟩), .int .i64 x.1, .string (bs x.2), .string s, .func (.func 71) #[] #[.pointer (some ⟨w.heap.size + 1 + 1, 0, none⟩)], .int .i64 x.1, .string (bs x.2), undef, undef, undef, undef, undef, undef, undef], defers := [] }) ?assign ?body ?done ?stop
  case assign =>
    intro l x W K hK
    simp only [encE]
    gi_wp2
    exact hK
  case body =>
    rintro l pre x W ⟨⟨⟨v, hv, hrow, _⟩, hA⟩, hB, hl0⟩ hlt
    have hc := hv.cell
    have hca := hA.cell
    have hfa := hA.frozen
    have hsz := hA.lt
    have HB := Lib.hid hB; have HR := Lib.hid hrow; have HV := Lib.hid hv; have HA := Lib.hid hA
    clear hB hv hA
    gi_wp2_with (gi_at_builtin; refine wpListIn_append_own _ rfl _ _ 26 rfl (w.heap.size + 1 + 1 + 1) 9 i0 (.string ByteArray.empty) 1 16 Try.underlying26 hi hz0 hz1 hz2 rfl (by decide) _ _ _ rfl (hrow.alloc _) ⟨W.heap.size, 0, none⟩ 1 1 [.string (bs x.2)] rfl rfl (cell_one_new _ _ _) (by simp [Value.oneCell']) (by unfold maxLen; omega) (by omega) (by simp; omega) ?_; intro v' w1 hown' hgrow _; obtain ⟨g', cap', rfl⟩ := ownsRow_succ hown'; have HO := Lib.hid hown'; have HG : Hid ((W.alloc (.cells #[.string (bs x.2)] 9)).grownBy w1 v.ownBlock) := Lib.hid hgrow; clear hown' hgrow; have hA1 := (HA.out.alloc (.cells #[.string (bs x.2)] 9)).kept HG.out (HA.out.not_row (by decide) HR.out); have hV1 := (HV.out.alloc (.cells #[.string (bs x.2)] 9)).kept HG.out (HV.out.not_row (by decide) HR.out); have c1 := hA1.cell; have f1 := hA1.frozen; have c2 := hV1.cell; have f2 := hV1.frozen; have HA1 := Lib.hid hA1; have HV1 := Lib.hid hV1; clear hA1 hV1)
    have hb1 := own_base HR.out
    have hb2 := own_base HO.out
    have ko : ∀ j o, v.ownBlock = some j → (W.alloc (.cells #[.string (bs x.2)] 9)).heap[j]? = some o → o.isCells = true := fun j o ej hj => by
      rcases (HR.out.alloc (.cells #[.string (bs x.2)] 9)).2 with ⟨rfl, _⟩ | ⟨g, cap, cur, rfl, _, hgb, _⟩
      · simp [Value.ownBlock] at ej
      · obtain rfl : g = j := by simpa [Value.ownBlock] using ej
        rw [hgb] at hj; cases hj; rfl
    have hg' : (⟨g', 0, none⟩ : Addr).block = g' := rfl
    refine ⟨(((KeepsOthers.alloc W _).trans (KeepsOthers.of_grownBy HG.out ko)).trans ((KeepsOthers.setCell _ _ _).trans (KeepsOthers.setCell _ _ _))).from _, ?_, ⟨⟨.slice (some ⟨g', 0, none⟩) (pre.length + 1) cap', ?_, ?_, trivial⟩, ?_⟩, ?_⟩
    · have hs2 : w.heap.size + 1 + 1 < W.heap.size := by simpa using hl0
      refine (((KeepB.grown (World.grownBy_alloc W _ none) hs2 (by simp)).trans (KeepB.grown HG.out (by simp; omega) (fun e => ?_))).trans (KeepB.grown (grownBy_setCell' _ _ _) ?_ (by simp))).trans (KeepB.grown (grownBy_setCell' _ _ _) ?_ (by simp; omega))
      · have := hb1 _ e.symm; omega
      · have := HG.out.size; simp at this; omega
      · have := HG.out.size; simp at this; simp; omega
    · exact (HV1.out.other (by omega) _).set _
    · rw [List.length_append, List.map_append, List.map_cons, List.map_nil, txts_snoc]
      refine (HO.out.kept (grownBy_setCell' w1 _ _) (.inr ?_)).kept (grownBy_setCell' _ _ _) (.inr ?_)
      · intro e; have := hb2 _ e; omega
      · intro e; have := hb2 _ e; omega
    · rw [lastEnd_snoc]; exact (HA1.out.set _).other (by omega) _
    · refine ⟨?_, by have := HG.out.size; simp at this; simp; omega⟩
      refine (((HB.out.alloc HB.out.size _).grown HG.out (by simp; omega) (fun k e => by have := hb1 k e; omega)).setCell (by simp) _).setCell (by simp) _
  case done =>
    rintro D ys W hD hS ⟨⟨⟨v, hv, hrow, _⟩, hA⟩, hB, hl0⟩ hK
    have hc := hv.cell
    have hca := hA.cell
    gi_wp2
    gi_region
    all_goals gi_wp2
    all_goals refine ⟨by simp, .inl ⟨_, _, rfl, run_takeDeferred hK, ?_⟩⟩
    all_goals refine ⟨_, results_tmp2 rfl _ _ _, v, by rw [hS]; rfl, ?_, ?_⟩
    · rw [hS]
      have h1 := own_lower (base' := w.heap.size) hrow.drew (by omega)
      have h2 := ownsRow_putObj h1 (.deferred none) hK rfl
      simpa using h2
    · exact hB.drew.trans (belowK_b (w := w) (Nat.le_refl _) W.drew D _ _ (by simp at hD; omega) hK rfl rfl)
  case stop =>
    rintro D c pre W _ _ h _
    exact h.elim

theorem all_any (s : ByteArray) (w : World) (hs : s.size ≤ 1099511627776) :
    Calls Try.prog 31 #[.string s] w fun e w' => ∃ v, e = .returned (.tuple #[v, .int .i64 (allL s.data.toList).2]) ∧
      w'.ownsRow w.heap.size 9 1 v (allL s.data.toList).1.length (txts (allL s.data.toList).1) ∧ Below w.heap.size w w' :=
  callsIn_wide.1 (all_in s w hs)
end Go.Proofs.Ytcbfghncdclonaa

namespace Go.Proofs.Ytcbfghncdclonaa
open Go.RowKit

theorem frameL_length {b : List UInt8} (h : ¬ 131072 < b.length) : (frameL b).length = b.length + 8 := by
  rw [frameL_short h]; simp [fourB]
theorem next_frame (A S : List UInt8) (h : ¬ 131072 < A.length) : nextL (frameL A ++ S) = (A, A.length + 8) := by
  obtain ⟨N, hN⟩ : ∃ N, Crc.sum (fourB A.length ++ A) = N := ⟨_, rfl⟩
  have e : frameL A ++ S = fourB A.length ++ (fourB N.toNat ++ (A ++ S)) := by rw [frameL_short h, hN]; simp
  have hn : numB (frameL A ++ S) = A.length := by rw [e, numB_fourB _ (by omega)]
  have d4 : (frameL A ++ S).drop 4 = fourB N.toNat ++ (A ++ S) := by rw [e]; rfl
  have d8 : (frameL A ++ S).drop 8 = A ++ S := by rw [e]; rfl
  have t4 : (frameL A ++ S).take 4 = fourB A.length := by rw [e]; rfl
  have hl : (frameL A ++ S).length = A.length + 8 + S.length := by rw [List.length_append, frameL_length h]
  unfold nextL
  rw [if_neg (by omega), if_neg (by rw [hn]; omega), hn, d4, d8, t4, List.take_left, hN, numB_fourB _ N.isLt, if_pos rfl]
  simp; omega
theorem all_frame (A S : List UInt8) (h : ¬ 131072 < A.length) : allL (frameL A ++ S) = (A :: (allL S).1, (A.length + 8) + (allL S).2) := by
  have hn := next_frame A S h
  rw [allL_go (by rw [hn]; simp), hn]
  have : (frameL A ++ S).drop (A.length + 8) = S := by rw [← frameL_length h, List.drop_left]
  simp only [this]
theorem next_short {s : List UInt8} (h : s.length < 8) : nextL s = ([], 0) := by unfold nextL; rw [if_pos h]
theorem next_none {s : List UInt8} (h : s.length - 8 < numB s) : nextL s = ([], 0) := by
  unfold nextL
  split
  · rfl
  · rw [if_pos (.inr h)]
theorem numB_take (s : List UInt8) (k : Nat) (h : 4 ≤ k) : numB (s.take k) = numB s := by
  unfold numB; rw [List.take_take, Nat.min_eq_left h]
theorem next_cut (A : List UInt8) (k : Nat) (h : ¬ 131072 < A.length) (hk : k < A.length + 8) : nextL ((frameL A).take k) = ([], 0) := by
  have hl := frameL_length h
  by_cases h8 : k < 8
  · exact next_short (by simp; omega)
  · refine next_none ?_
    rw [numB_take _ _ (by omega)]
    have : numB (frameL A) = A.length := by
      rw [frameL_short h, List.append_assoc, numB_fourB _ (by omega)]
    rw [this]; simp; omega
end Go.Proofs.Ytcbfghncdclonaa
