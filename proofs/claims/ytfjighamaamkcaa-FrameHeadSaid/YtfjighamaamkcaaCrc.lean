/-
  Plain: the sum of 32 bits, bit by bit and by a table; it is linear, and another byte makes another sum.
-/
import Derived.WalkKit
namespace Crc
/-- One bit of the sum. -/
def one (s : BitVec 32) : BitVec 32 := if s.getLsbD 0 then (s >>> 1) ^^^ 0x82f63b78#32 else s >>> 1
def eight (s : BitVec 32) : BitVec 32 := one (one (one (one (one (one (one (one s)))))))
def step (s : BitVec 32) (c : BitVec 8) : BitVec 32 := eight (s ^^^ c.setWidth 32)
def run (s : BitVec 32) (l : List UInt8) : BitVec 32 := l.foldl (fun s c => step s c.toBitVec) s
def sum (l : List UInt8) : BitVec 32 := ~~~ run (~~~ 0#32) l

def ones : Nat → BitVec 32 → BitVec 32
  | 0, s => s
  | n + 1, s => one (ones n s)
theorem ones_eight (s : BitVec 32) : ones 8 s = eight s := rfl
/-- What a table holds of byte k. -/
def tab (k : Nat) : BitVec 32 := eight (BitVec.ofNat 32 k)
theorem one_xor (a b : BitVec 32) : one (a ^^^ b) = one a ^^^ one b := by
  unfold one
  rw [BitVec.getLsbD_xor]
  cases a.getLsbD 0 <;> cases b.getLsbD 0 <;> simp [BitVec.ushiftRight_xor_distrib]
  · ac_rfl
  · ac_rfl
  · rw [show (a >>> 1 ^^^ 0x82f63b78#32 ^^^ (b >>> 1 ^^^ 0x82f63b78#32)) = a >>> 1 ^^^ b >>> 1 ^^^ (0x82f63b78#32 ^^^ 0x82f63b78#32) by ac_rfl]
    simp
theorem eight_xor (a b : BitVec 32) : eight (a ^^^ b) = eight a ^^^ eight b := by
  simp only [eight, one_xor]
theorem one_even {s : BitVec 32} (h : s.getLsbD 0 = false) : one s = s >>> 1 := by unfold one; rw [h]; rfl
theorem eight_hi {s : BitVec 32} (h : ∀ i, i < 8 → s.getLsbD i = false) : eight s = s >>> 8 := by
  have e : ∀ k, k < 8 → one (s >>> k) = s >>> (k + 1) := fun k hk => by
    rw [one_even (by rw [BitVec.getLsbD_ushiftRight]; exact h _ (by omega)), ← BitVec.shiftRight_add]
  unfold eight
  have e0 : one s = s >>> 1 := one_even (h 0 (by omega))
  rw [e0, e 1 (by omega), e 2 (by omega), e 3 (by omega), e 4 (by omega), e 5 (by omega), e 6 (by omega), e 7 (by omega)]
theorem step_table (s : BitVec 32) (c : BitVec 8) : step s c = eight ((s.setWidth 8 ^^^ c).setWidth 32) ^^^ s >>> 8 := by
  have e : s ^^^ c.setWidth 32 = (s.setWidth 8 ^^^ c).setWidth 32 ^^^ (s >>> 8 <<< 8) := by
    ext i hi
    simp only [BitVec.getElem_xor, BitVec.getElem_setWidth, BitVec.getLsbD_xor, BitVec.getLsbD_setWidth, BitVec.getElem_shiftLeft]
    by_cases h8 : i < 8
    · simp [h8, BitVec.getLsbD_eq_getElem hi]
    · have : 8 + (i - 8) = i := by omega
      simp [h8, this, BitVec.getLsbD_eq_getElem hi, BitVec.getLsbD_of_ge _ _ (show 8 ≤ i by omega)]
  unfold step
  rw [e, eight_xor, eight_hi (s := s >>> 8 <<< 8) (fun i hi => by simp [hi])]
  congr 1
  ext i hi
  simp
  intro h
  exact BitVec.lt_of_getLsbD h
theorem one_zero {x : BitVec 32} (h : one x = 0#32) : x = 0#32 := by
  unfold one at h
  cases hb : x.getLsbD 0 with
  | true =>
    rw [hb] at h
    simp only [if_true] at h
    have h31 := congrArg (fun z => z.getLsbD 31) h
    simp at h31
  | false =>
    rw [hb] at h
    simp only [Bool.false_eq_true, if_false] at h
    ext i hi
    cases i with
    | zero => simpa [BitVec.getLsbD_eq_getElem hi] using hb
    | succ i =>
      have hh := congrArg (fun z => z.getLsbD i) h
      simp [BitVec.getLsbD_ushiftRight] at hh
      rw [show 1 + i = i + 1 by omega] at hh
      simpa [BitVec.getLsbD_eq_getElem hi] using hh
theorem xor_eq_zero {a b : BitVec 32} (h : a ^^^ b = 0#32) : a = b := by
  have := congrArg (· ^^^ b) h
  simpa [BitVec.xor_assoc] using this
theorem one_inj {a b : BitVec 32} (h : one a = one b) : a = b := by
  apply xor_eq_zero
  apply one_zero
  rw [one_xor, h]; simp
theorem eight_inj {a b : BitVec 32} (h : eight a = eight b) : a = b :=
  one_inj (one_inj (one_inj (one_inj (one_inj (one_inj (one_inj (one_inj h)))))))
theorem xor_right_inj {a b c : BitVec 32} (h : a ^^^ c = b ^^^ c) : a = b := by
  have := congrArg (· ^^^ c) h
  simpa [BitVec.xor_assoc] using this
theorem step_inj {a b : BitVec 32} {c : BitVec 8} (h : step a c = step b c) : a = b := xor_right_inj (eight_inj h)
theorem step_inj_byte {s : BitVec 32} {c d : BitVec 8} (h : step s c = step s d) : c = d := by
  have h1 := eight_inj h
  have h2 : c.setWidth 32 = d.setWidth 32 := by
    apply xor_right_inj (c := s)
    rw [BitVec.xor_comm, h1, BitVec.xor_comm]
  have := congrArg (BitVec.setWidth 8) h2
  simpa using this
theorem run_append (s : BitVec 32) (l m : List UInt8) : run s (l ++ m) = run (run s l) m := by simp [run]
theorem run_inj {l : List UInt8} : ∀ {a b : BitVec 32}, run a l = run b l → a = b := by
  induction l with
  | nil => exact fun h => h
  | cons c l ih => exact fun h => step_inj (ih h)
theorem not_inj {a b : BitVec 32} (h : ~~~ a = ~~~ b) : a = b := by simpa using congrArg (~~~ ·) h
/-- One byte another one: another sum. -/
theorem sum_other {l m : List UInt8} {c d : UInt8} (h : sum (l ++ c :: m) = sum (l ++ d :: m)) : c = d := by
  have h1 := not_inj h
  rw [run_append, run_append] at h1
  have h2 : step (run (~~~ 0#32) l) c.toBitVec = step (run (~~~ 0#32) l) d.toBitVec := run_inj (l := m) h1
  exact UInt8.toBitVec_inj.1 (step_inj_byte h2)
theorem step_lin (a b c : BitVec 32) (x y z : BitVec 8) : step a x ^^^ step b y ^^^ step c z = step (a ^^^ b ^^^ c) (x ^^^ y ^^^ z) := by
  unfold step
  rw [← eight_xor, ← eight_xor]
  congr 1
  ext i hi
  simp
  cases a[i] <;> cases b[i] <;> cases c[i] <;> simp
theorem run_lin : ∀ (l : List (UInt8 × UInt8 × UInt8)) (a b c : BitVec 32),
    run a (l.map (·.1)) ^^^ run b (l.map (·.2.1)) ^^^ run c (l.map (·.2.2)) = run (a ^^^ b ^^^ c) (l.map fun t => t.1 ^^^ t.2.1 ^^^ t.2.2) := by
  intro l
  induction l with
  | nil => intros; rfl
  | cons t l ih =>
    intro a b c
    simp only [List.map_cons, run, List.foldl_cons]
    have := ih (step a t.1.toBitVec) (step b t.2.1.toBitVec) (step c t.2.2.toBitVec)
    simp only [run] at this
    rw [this, step_lin]
    rfl
theorem sum_lin (l : List (UInt8 × UInt8 × UInt8)) :
    sum (l.map (·.1)) ^^^ sum (l.map (·.2.1)) ^^^ sum (l.map (·.2.2)) = sum (l.map fun t => t.1 ^^^ t.2.1 ^^^ t.2.2) := by
  unfold sum
  have e : ~~~ (0#32) = ~~~ (0#32) ^^^ ~~~ (0#32) ^^^ ~~~ (0#32) := by decide
  conv => rhs; rw [e, ← run_lin]
  generalize run (~~~ 0#32) _ = x
  generalize run (~~~ 0#32) _ = y
  generalize run (~~~ 0#32) _ = z
  ext i hi
  simp
theorem sum_known : sum [0x31, 0x32, 0x33, 0x34, 0x35, 0x36, 0x37, 0x38, 0x39] = 0xe3069283#32 := by decide +kernel

/-! ### As numbers, as the walk has them -/
theorem ofInt32 (S : BitVec 32) : BitVec.ofInt 32 (S.toNat : Int) = S := by simp
theorem ofInt8 (S : BitVec 8) : BitVec.ofInt 8 (S.toNat : Int) = S := by simp
theorem wrap32 (S : BitVec 32) : Go.IntKind.u32.wrap (S.toNat : Int) = (S.toNat : Int) := by
  rw [Go.IntKind.wrap_u32]
  have := S.isLt
  omega
theorem wrap8 (S : BitVec 8) : Go.IntKind.u8.wrap (S.toNat : Int) = (S.toNat : Int) := by
  rw [Go.IntKind.wrap_u8]
  have := S.isLt
  omega
open Go in
theorem bits_and1 (S : BitVec 32) : bits .and .u32 (S.toNat : Int) 1 = if S.getLsbD 0 then 1 else 0 := by
  have e : S &&& 1#32 = if S.getLsbD 0 then 1#32 else 0#32 := by
    ext i hi
    cases i with
    | zero => cases h : S.getLsbD 0 <;> simp_all [BitVec.getLsbD_eq_getElem]
    | succ i => cases h : S.getLsbD 0 <;> simp [BitVec.getElem_one]
  show IntKind.u32.wrap ((BitVec.ofInt 32 (S.toNat : Int) &&& BitVec.ofInt 32 1).toNat : Int) = _
  rw [ofInt32, show BitVec.ofInt 32 1 = 1#32 from rfl, e, wrap32]
  cases S.getLsbD 0 <;> rfl
open Go in
theorem bits_xor32 (A B : BitVec 32) : bits .xor .u32 (A.toNat : Int) (B.toNat : Int) = ((A ^^^ B).toNat : Int) := by
  show IntKind.u32.wrap ((BitVec.ofInt 32 (A.toNat : Int) ^^^ BitVec.ofInt 32 (B.toNat : Int)).toNat : Int) = _
  rw [ofInt32, ofInt32, wrap32]
open Go in
theorem bits_xor8 (A B : BitVec 8) : bits .xor .u8 (A.toNat : Int) (B.toNat : Int) = ((A ^^^ B).toNat : Int) := by
  show IntKind.u8.wrap ((BitVec.ofInt 8 (A.toNat : Int) ^^^ BitVec.ofInt 8 (B.toNat : Int)).toNat : Int) = _
  rw [ofInt8, ofInt8, wrap8]
theorem half (S : BitVec 32) : (S.toNat : Int) / (2 : Int) = ((S >>> 1).toNat : Int) := by
  simp [BitVec.toNat_ushiftRight, Nat.shiftRight_eq_div_pow]
theorem byte_down (S : BitVec 32) : (S.toNat : Int) / (256 : Int) = ((S >>> 8).toNat : Int) := by
  simp [BitVec.toNat_ushiftRight, Nat.shiftRight_eq_div_pow]
theorem low_byte (S : BitVec 32) : (S.toNat : Int) % (256 : Int) = ((S.setWidth 8).toNat : Int) := by
  simp [BitVec.toNat_setWidth]
theorem one_odd {S : BitVec 32} (h : S.getLsbD 0 = true) : one S = (S >>> 1) ^^^ 0x82f63b78#32 := by unfold one; rw [h]; rfl
open Go in
theorem bits_not (A : BitVec 32) : bits .xor .u32 IntKind.u32.max (A.toNat : Int) = ((~~~ A).toNat : Int) := by
  show IntKind.u32.wrap ((BitVec.ofInt 32 IntKind.u32.max ^^^ BitVec.ofInt 32 (A.toNat : Int)).toNat : Int) = _
  rw [ofInt32, show BitVec.ofInt 32 IntKind.u32.max = BitVec.allOnes 32 by decide, wrap32, BitVec.allOnes_xor]
end Crc
