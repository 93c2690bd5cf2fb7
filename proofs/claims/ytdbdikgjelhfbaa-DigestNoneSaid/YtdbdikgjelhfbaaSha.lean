/-
  Plain: the sum of 256 bits: its words, its rounds, its blocks, its tail; in whatever pieces the bytes come it is the same.
-/
import Derived.WalkKit
namespace Sha
abbrev W := BitVec 32
def turn (x : W) (n : Nat) : W := (x <<< (32 - n)) ||| (x >>> n)
def small (x : W) (a b c : Nat) : W := turn x a ^^^ turn x b ^^^ (x >>> c)
def great (x : W) (a b c : Nat) : W := turn x a ^^^ turn x b ^^^ turn x c
/-- A byte behind a word. -/
def push (w : W) (c : UInt8) : W := (w <<< 8) ||| c.toBitVec.setWidth 32
def four (b : List UInt8) : W := b.foldl push 0
/-- The word that follows. -/
def next (l : List W) : W := small (l.getD (l.length - 2) 0) 17 19 10 + l.getD (l.length - 7) 0 + small (l.getD (l.length - 15) 0) 7 18 3 + l.getD (l.length - 16) 0
def first (b : List UInt8) (n : Nat) : List W := (List.range n).map fun i => four ((b.drop (4 * i)).take 4)
def more (l : List W) : Nat → List W
  | 0 => l
  | k + 1 => more l k ++ [next (more l k)]
/-- The first t words of a block. -/
def upto (b : List UInt8) (t : Nat) : List W := if t ≤ 16 then first b t else more (first b 16) (t - 16)
def words (b : List UInt8) : List W := upto b 64
theorem first_length (b : List UInt8) (n : Nat) : (first b n).length = n := by simp [first]
theorem more_length (l : List W) (k : Nat) : (more l k).length = l.length + k := by
  induction k with
  | zero => rfl
  | succ k ih => simp [more, ih]; omega
theorem upto_length (b : List UInt8) (t : Nat) : (upto b t).length = t := by
  unfold upto
  split
  · exact first_length b t
  · rw [more_length, first_length]; omega
theorem upto_first (b : List UInt8) (t : Nat) (h : t < 16) : upto b (t + 1) = upto b t ++ [four ((b.drop (4 * t)).take 4)] := by
  unfold upto
  rw [if_pos (by omega), if_pos (by omega)]
  simp [first, List.range_succ]
theorem upto_more (b : List UInt8) (t : Nat) (h : 16 ≤ t) : upto b (t + 1) = upto b t ++ [next (upto b t)] := by
  have e1 : upto b (t + 1) = more (first b 16) (t - 16 + 1) := by unfold upto; rw [if_neg (by omega)]; congr 1; omega
  have e2 : upto b t = more (first b 16) (t - 16) := by
    unfold upto
    split
    · obtain rfl : t = 16 := by omega
      rfl
    · rfl
  rw [e1, e2]; rfl

/-- The eight words of a sum. -/
structure St where
  (a b c d e f g h : W)
def St.list (x : St) : List W := [x.a, x.b, x.c, x.d, x.e, x.f, x.g, x.h]
def t1 (x : St) (k w : W) : W := x.h + great x.e 6 11 25 + ((x.e &&& x.f) ^^^ (~~~x.e &&& x.g)) + k + w
def t2 (x : St) : W := great x.a 2 13 22 + ((x.a &&& x.b) ^^^ (x.a &&& x.c) ^^^ (x.b &&& x.c))
def round (x : St) (k w : W) : St := ⟨t1 x k w + t2 x, x.a, x.b, x.c, x.d + t1 x k w, x.e, x.f, x.g⟩
def St.add (x y : St) : St := ⟨x.a + y.a, x.b + y.b, x.c + y.c, x.d + y.d, x.e + y.e, x.f + y.f, x.g + y.g, x.h + y.h⟩
def keys : List W := [0x428a2f98, 0x71374491, 0xb5c0fbcf, 0xe9b5dba5, 0x3956c25b, 0x59f111f1, 0x923f82a4, 0xab1c5ed5,
  0xd807aa98, 0x12835b01, 0x243185be, 0x550c7dc3, 0x72be5d74, 0x80deb1fe, 0x9bdc06a7, 0xc19bf174,
  0xe49b69c1, 0xefbe4786, 0x0fc19dc6, 0x240ca1cc, 0x2de92c6f, 0x4a7484aa, 0x5cb0a9dc, 0x76f988da,
  0x983e5152, 0xa831c66d, 0xb00327c8, 0xbf597fc7, 0xc6e00bf3, 0xd5a79147, 0x06ca6351, 0x14292967,
  0x27b70a85, 0x2e1b2138, 0x4d2c6dfc, 0x53380d13, 0x650a7354, 0x766a0abb, 0x81c2c92e, 0x92722c85,
  0xa2bfe8a1, 0xa81a664b, 0xc24b8b70, 0xc76c51a3, 0xd192e819, 0xd6990624, 0xf40e3585, 0x106aa070,
  0x19a4c116, 0x1e376c08, 0x2748774c, 0x34b0bcb5, 0x391c0cb3, 0x4ed8aa4a, 0x5b9cca4f, 0x682e6ff3,
  0x748f82ee, 0x78a5636f, 0x84c87814, 0x8cc70208, 0x90befffa, 0xa4506ceb, 0xbef9a3f7, 0xc67178f2]
/-- The rounds up to t. -/
def rounds (x : St) (b : List UInt8) : Nat → St
  | 0 => x
  | t + 1 => round (rounds x b t) (keys.getD t 0) ((words b).getD t 0)
/-- A block behind a state. -/
def take (x : St) (b : List UInt8) : St := (rounds x b 64).add x
def init : St := ⟨0x6a09e667, 0xbb67ae85, 0x3c6ef372, 0xa54ff53a, 0x510e527f, 0x9b05688c, 0x1f83d9ab, 0x5be0cd19⟩
/-- So many blocks of d behind a state. -/
def run (x : St) (d : List UInt8) : Nat → St
  | 0 => x
  | n + 1 => take (run x d n) ((d.drop (64 * n)).take 64)
theorem run_front (x : St) (d e : List UInt8) : ∀ n, 64 * n ≤ d.length → run x (d ++ e) n = run x d n
  | 0, _ => rfl
  | n + 1, h => by
    rw [run, run, run_front x d e n (by omega), List.drop_append_of_le_length (by omega), List.take_append_of_le_length (by simp; omega)]
/-- What follows so many blocks, by its own. -/
theorem run_more (x : St) (d : List UInt8) (n : Nat) : ∀ m, run x d (n + m) = run (run x d n) (d.drop (64 * n)) m
  | 0 => rfl
  | m + 1 => by
    rw [← Nat.add_assoc, run, run, run_more x d n m, List.drop_drop]
    congr 3
    omega
def bytes8 (n : Nat) : List UInt8 := (List.range 8).map fun i => UInt8.ofNat (n >>> (8 * (7 - i)))
def room (n : Nat) : Nat := (119 - n % 64) % 64
def tail (n : Nat) : List UInt8 := 0x80 :: (List.replicate (room n) 0 ++ bytes8 (n * 8))
theorem tail_length (n : Nat) : (tail n).length = room n + 9 := by simp [tail, bytes8]
theorem tail_whole (n : Nat) : (n + (tail n).length) % 64 = 0 := by rw [tail_length]; unfold room; omega
def bytes4 (w : W) : List UInt8 := [UInt8.ofNat (w.toNat / 16777216), UInt8.ofNat (w.toNat / 65536), UInt8.ofNat (w.toNat / 256), UInt8.ofNat w.toNat]
def out (x : St) : List UInt8 := x.list.flatMap bytes4
/-- The sum. -/
def sum (d : List UInt8) : List UInt8 := out (run init (d ++ tail d.length) ((d.length + (tail d.length).length) / 64))
theorem out_length (x : St) : (out x).length = 32 := rfl
theorem sum_length (d : List UInt8) : (sum d).length = 32 := rfl
theorem sum_abc : sum [0x61, 0x62, 0x63] = [0xba, 0x78, 0x16, 0xbf, 0x8f, 0x01, 0xcf, 0xea, 0x41, 0x41, 0x40, 0xde, 0x5d, 0xae, 0x22, 0x23, 0xb0, 0x03, 0x61, 0xa3, 0x96, 0x17, 0x7a, 0x9c, 0xb4, 0x10, 0xff, 0x61, 0xf2, 0x00, 0x15, 0xad] := by decide +kernel
end Sha
