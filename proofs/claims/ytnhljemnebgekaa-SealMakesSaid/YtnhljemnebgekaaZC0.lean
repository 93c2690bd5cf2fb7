/-
  Texts of this session, merged in build order: Xor, Psx0, Sha, Turn, Words, Take, Pieces, Chunk, Write, Ptx0, Ptx1, Tail, Summed, Dig, Layer, Psx1, Shelf, IdxRune, ChunkS, SealShelf, SText.
-/
import Derived.WalkKit
import Derived.Test.YtnhljemnebgekaaProg
import Derived.Below
import Derived.Deep.Draws
import Derived.Deep.AppendLies
import Derived.Maps.AppendAt
import Derived.OwnWalk
import Derived.Laws.BytesArg
import Derived.Laws.MakeOwn
import Derived.Laws.OwnMore
import Derived.Deep.OwnRows
import Derived.Tactics
import Derived.Lib.ConvBytes
import Derived.Laws.Slices
import Derived.KernelRfl
import Derived.RowKit3
import Derived.Deep.LoopGhost
import Derived.Deep.QuietTactic
import Derived.BigQuiet
import Derived.WideLaws
import Derived.Deep.DeepCutAuto
import Derived.Deep.CutBlock
import Derived.Deep.RegionHeld3
import Derived.Laws.Rows
import Derived.Lib.AppendStr
import Derived.ArgAppend
import Derived.Laws.IdiomCopy
import Derived.OrdersHeld
import Derived.Laws.BitsLemmas
import Derived.RowKit
import Derived.Test.YtnhljemnebgekaaWWords
import Derived.Test.YtnhljemnebgekaaWLast
import Derived.Test.YtnhljemnebgekaaWTab
import Derived.Test.YtnhljemnebgekaaWFour
import Derived.Test.YtnhljemnebgekaaWQPut
import Derived.Test.YtnhljemnebgekaaWApart
import Derived.Test.YtnhljemnebgekaaWArr
import Derived.Test.YtnhljemnebgekaaWZeros
import Derived.Test.YtnhljemnebgekaaWFoot
import Derived.Test.YtnhljemnebgekaaWKept
import Derived.Test.YtnhljemnebgekaaWShare
import Derived.Test.YtnhljemnebgekaaWN
import Derived.Test.YtnhljemnebgekaaWEqStruct
import Derived.Test.YtnhljemnebgekaaWRepsOne
import Derived.Test.YtnhljemnebgekaaWGuard
import Derived.Test.YtnhljemnebgekaaWNEv
import Derived.Test.YtnhljemnebgekaaWMore
import Derived.Test.YtnhljemnebgekaaChecked
import Derived.WalkSpells
import Derived.WalkLawsBesides
import Derived.Handy
import Derived.Lib.Hide
import Derived.Laws.BitsAllLaws
import Derived.Laws.Shifts
import Derived.WalkSmall
import Derived.Deep.RegionHeld
import Derived.Deep.MidRow
import Derived.Great.BuildSlice
import Derived.BigRegion
import Derived.Deep.Upon
import Derived.Deep.RegionLaw
import Derived.Laws.CopyRow
import Derived.Lib.Walk
import Derived.Lib.SliceRun
import Derived.RangeFuncNested
import Derived.RangeFuncBound
import Derived.RangeFuncCalls
import Derived.Shelf.RegionOpen
import Derived.BigGuardIn
import Derived.OwnWalkIn
import Derived.TacticsInMore
import Derived.LoopNIn
import Derived.LoopIn
import Derived.BigRegionIn
import Derived.Laws.CopyOwn
import Derived.Shelf.Strings.Builder1
import Derived.Shelf.Small.Utf8
import Derived.Shelf.Small.Strs
import Derived.Shelf.Small.Wraps
import Derived.Shelf.Strings.BuilderF
import Derived.Shelf.Strings.BuilderK
import Derived.Shelf.Strings.Search1
import Derived.Shelf.Strings.Prefix
import Derived.Shelf.Strings.Runes
import Derived.Shelf.Strings.BuilderCap
import Derived.BigCall
import Derived.Lib.OthersKept
import Derived.Laws.Runes
set_option linter.unusedVariables false
set_option linter.unusedSimpArgs false
/-
  The greatest numbers of two kinds without a sign, for the walk of a complement.
-/
namespace Go.Proofs.Ytnhljemnebgekaa
open Go.RowKit
theorem u32_sg : IntKind.u32.signed = false := rfl
theorem u32_mx : IntKind.u32.max = 4294967295 := rfl
theorem u64_sg : IntKind.u64.signed = false := rfl
theorem u64_mx : IntKind.u64.max = 18446744073709551615 := rfl
end Go.Proofs.Ytnhljemnebgekaa

/-
  What the functions of these laws compute, as plain Lean functions, and that the machine's calls compute it: written by this session's own hook over the kit's print.
-/
namespace Go.Proofs.Ytnhljemnebgekaa.Ps
open Go.RowKit Go.Proofs.YtnhljemnebgekaaW.PrintWords Go.Proofs.YtnhljemnebgekaaW.PrintLast Go.Proofs.YtnhljemnebgekaaW.PrintMore
attribute [local go_sem] u32_sg u32_mx u64_sg u64_mx
attribute [local go_sem] max2_int min2_int max_two min_two max_three min_three max_four min_four   -- for this text's walks alone
set_option linter.unusedVariables false
set_option linter.unusedSimpArgs false



def errW : Option Int → Value
  | none => .nilIface
  | some c => .iface 0 (.int .i64 c)
theorem errW_none : errW none = .nilIface := rfl
theorem errW_some (c : Int) : errW (some c) = .iface 0 (.int .i64 c) := rfl

theorem info5 : (Try.prog.info? 5).map (fun i => (i.zero, i.size, i.bytes)) = some (some (.int .u8 0), 1, 1) := by kernel_rfl
-- the values' own types

end Go.Proofs.Ytnhljemnebgekaa.Ps

/-
  Plain: the sum of 256 bits: its words, its rounds, its blocks, its tail; in whatever pieces the bytes come it is the same.
-/
namespace Sha
abbrev W := BitVec 32
def turn (x : W) (n : Nat) : W := (x <<< (32 - n)) ||| (x >>> n)
def small (x : W) (a b c : Nat) : W := turn x a ^^^ turn x b ^^^ (x >>> c)
def great (x : W) (a b c : Nat) : W := turn x a ^^^ turn x b ^^^ turn x c
/-- A byte behind a word. -/
def push (w : W) (c : UInt8) : W := (w <<< 8) ||| c.toBitVec.setWidth 32
def four (b : List UInt8) : W := b.foldl push 0
/-- The word that follows. -/
def next (l : List W) : W := small (l.getD (l.length - 2) 0) 17 19 10 + l.getD (l.length - 7) 0 + small (l.getD (l.length - 15) 0) 7 18 3 + l.getD (l.length - 16) 0
def first (b : List UInt8) (n : Nat) : List W := (List.range n).map fun i => four ((b.drop (4 * i)).take 4)
def more (l : List W) : Nat → List W
  | 0 => l
  | k + 1 => more l k ++ [next (more l k)]
/-- The first t words of a block. -/
def upto (b : List UInt8) (t : Nat) : List W := if t ≤ 16 then first b t else more (first b 16) (t - 16)
def words (b : List UInt8) : List W := upto b 64
theorem first_length (b : List UInt8) (n : Nat) : (first b n).length = n := by simp [first]
theorem more_length (l : List W) (k : Nat) : (more l k).length = l.length + k := by
  induction k with
  | zero => rfl
  | succ k ih => simp [more, ih]; omega
theorem upto_length (b : List UInt8) (t : Nat) : (upto b t).length = t := by
  unfold upto
  split
  · exact first_length b t
  · rw [more_length, first_length]; omega
theorem upto_first (b : List UInt8) (t : Nat) (h : t < 16) : upto b (t + 1) = upto b t ++ [four ((b.drop (4 * t)).take 4)] := by
  unfold upto
  rw [if_pos (by omega), if_pos (by omega)]
  simp [first, List.range_succ]
theorem upto_more (b : List UInt8) (t : Nat) (h : 16 ≤ t) : upto b (t + 1) = upto b t ++ [next (upto b t)] := by
  have e1 : upto b (t + 1) = more (first b 16) (t - 16 + 1) := by unfold upto; rw [if_neg (by omega)]; congr 1; omega
  have e2 : upto b t = more (first b 16) (t - 16) := by
    unfold upto
    split
    · obtain rfl : t = 16 := by omega
      rfl
    · rfl
  rw [e1, e2]; rfl

/-- The eight words of a sum. -/
structure St where
  (a b c d e f g h : W)
def St.list (x : St) : List W := [x.a, x.b, x.c, x.d, x.e, x.f, x.g, x.h]
def t1 (x : St) (k w : W) : W := x.h + great x.e 6 11 25 + ((x.e &&& x.f) ^^^ (~~~x.e &&& x.g)) + k + w
def t2 (x : St) : W := great x.a 2 13 22 + ((x.a &&& x.b) ^^^ (x.a &&& x.c) ^^^ (x.b &&& x.c))
def round (x : St) (k w : W) : St := ⟨t1 x k w + t2 x, x.a, x.b, x.c, x.d + t1 x k w, x.e, x.f, x.g⟩
def St.add (x y : St) : St := ⟨x.a + y.a, x.b + y.b, x.c + y.c, x.d + y.d, x.e + y.e, x.f + y.f, x.g + y.g, x.h + y.h⟩
def keys : List W := [0x428a2f98, 0x71374491, 0xb5c0fbcf, 0xe9b5dba5, 0x3956c25b, 0x59f111f1, 0x923f82a4, 0xab1c5ed5,
  0xd807aa98, 0x12835b01, 0x243185be, 0x550c7dc3, 0x72be5d74, 0x80deb1fe, 0x9bdc06a7, 0xc19bf174,
  0xe49b69c1, 0xefbe4786, 0x0fc19dc6, 0x240ca1cc, 0x2de92c6f, 0x4a7484aa, 0x5cb0a9dc, 0x76f988da,
  0x983e5152, 0xa831c66d, 0xb00327c8, 0xbf597fc7, 0xc6e00bf3, 0xd5a79147, 0x06ca6351, 0x14292967,
  0x27b70a85, 0x2e1b2138, 0x4d2c6dfc, 0x53380d13, 0x650a7354, 0x766a0abb, 0x81c2c92e, 0x92722c85,
  0xa2bfe8a1, 0xa81a664b, 0xc24b8b70, 0xc76c51a3, 0xd192e819, 0xd6990624, 0xf40e3585, 0x106aa070,
  0x19a4c116, 0x1e376c08, 0x2748774c, 0x34b0bcb5, 0x391c0cb3, 0x4ed8aa4a, 0x5b9cca4f, 0x682e6ff3,
  0x748f82ee, 0x78a5636f, 0x84c87814, 0x8cc70208, 0x90befffa, 0xa4506ceb, 0xbef9a3f7, 0xc67178f2]
/-- The rounds up to t. -/
def rounds (x : St) (b : List UInt8) : Nat → St
  | 0 => x
  | t + 1 => round (rounds x b t) (keys.getD t 0) ((words b).getD t 0)
/-- A block behind a state. -/
def take (x : St) (b : List UInt8) : St := (rounds x b 64).add x
def init : St := ⟨0x6a09e667, 0xbb67ae85, 0x3c6ef372, 0xa54ff53a, 0x510e527f, 0x9b05688c, 0x1f83d9ab, 0x5be0cd19⟩
/-- So many blocks of d behind a state. -/
def run (x : St) (d : List UInt8) : Nat → St
  | 0 => x
  | n + 1 => take (run x d n) ((d.drop (64 * n)).take 64)
theorem run_front (x : St) (d e : List UInt8) : ∀ n, 64 * n ≤ d.length → run x (d ++ e) n = run x d n
  | 0, _ => rfl
  | n + 1, h => by
    rw [run, run, run_front x d e n (by omega), List.drop_append_of_le_length (by omega), List.take_append_of_le_length (by simp; omega)]
/-- What follows so many blocks, by its own. -/
theorem run_more (x : St) (d : List UInt8) (n : Nat) : ∀ m, run x d (n + m) = run (run x d n) (d.drop (64 * n)) m
  | 0 => rfl
  | m + 1 => by
    rw [← Nat.add_assoc, run, run, run_more x d n m, List.drop_drop]
    congr 3
    omega
def bytes8 (n : Nat) : List UInt8 := (List.range 8).map fun i => UInt8.ofNat (n >>> (8 * (7 - i)))
def room (n : Nat) : Nat := (119 - n % 64) % 64
def tail (n : Nat) : List UInt8 := 0x80 :: (List.replicate (room n) 0 ++ bytes8 (n * 8))
theorem tail_length (n : Nat) : (tail n).length = room n + 9 := by simp [tail, bytes8]
theorem tail_whole (n : Nat) : (n + (tail n).length) % 64 = 0 := by rw [tail_length]; unfold room; omega
def bytes4 (w : W) : List UInt8 := [UInt8.ofNat (w.toNat / 16777216), UInt8.ofNat (w.toNat / 65536), UInt8.ofNat (w.toNat / 256), UInt8.ofNat w.toNat]
def out (x : St) : List UInt8 := x.list.flatMap bytes4
/-- The sum. -/
def sum (d : List UInt8) : List UInt8 := out (run init (d ++ tail d.length) ((d.length + (tail d.length).length) / 64))
theorem out_length (x : St) : (out x).length = 32 := rfl
theorem sum_length (d : List UInt8) : (sum d).length = 32 := rfl
theorem sum_abc : sum [0x61, 0x62, 0x63] = [0xba, 0x78, 0x16, 0xbf, 0x8f, 0x01, 0xcf, 0xea, 0x41, 0x41, 0x40, 0xde, 0x5d, 0xae, 0x22, 0x23, 0xb0, 0x03, 0x61, 0xa3, 0x96, 0x17, 0x7a, 0x9c, 0xb4, 0x10, 0xff, 0x61, 0xf2, 0x00, 0x15, 0xad] := by decide +kernel
end Sha

/-
  The turns of a word: RotateLeft32, right, small and great, called on any word with the numbers that the sum uses.
-/
namespace Go.Proofs.Ytnhljemnebgekaa
open Go.RowKit Sha

theorem turn_nat (x : W) (n m k : Nat) (hn : n ≤ 32) (hm : m = 2 ^ (32 - n)) (hk : k = 2 ^ n) :
    bits .or .u32 ((x.toNat : Int) * (m : Int) % 4294967296) ((x.toNat : Int) / (k : Int)) = ((turn x n).toNat : Int) := by
  have hx := x.isLt
  have h1 : (x.toNat : Int) * (m : Int) % 4294967296 = ((x.toNat * m % 4294967296 : Nat) : Int) := by simp
  have h2 : (x.toNat : Int) / (k : Int) = ((x.toNat / k : Nat) : Int) := by simp
  have h3 : x.toNat / k < 4294967296 := Nat.lt_of_le_of_lt (Nat.div_le_self _ _) hx
  rw [h1, h2, u32_or_nat _ _ (Nat.mod_lt _ (by decide)) h3]
  unfold turn
  rw [BitVec.toNat_or, BitVec.toNat_shiftLeft, BitVec.toNat_ushiftRight, Nat.shiftLeft_eq, Nat.shiftRight_eq_div_pow, hm, hk]

theorem xor_nat (x y : W) : bits .xor .u32 (x.toNat : Int) (y.toNat : Int) = ((x ^^^ y).toNat : Int) := by
  rw [u32_xor_nat _ _ x.isLt y.isLt, BitVec.toNat_xor]
theorem and_nat (x y : W) : bits .and .u32 (x.toNat : Int) (y.toNat : Int) = ((x &&& y).toNat : Int) := by
  rw [u32_and_nat _ _ x.isLt y.isLt, BitVec.toNat_and]
theorem or_nat (x y : W) : bits .or .u32 (x.toNat : Int) (y.toNat : Int) = ((x ||| y).toNat : Int) := by
  rw [u32_or_nat _ _ x.isLt y.isLt, BitVec.toNat_or]
theorem shr_nat (x : W) (c k : Nat) (hk : k = 2 ^ c) : (x.toNat : Int) / (k : Int) = ((x >>> c).toNat : Int) := by
  rw [BitVec.toNat_ushiftRight, Nat.shiftRight_eq_div_pow, hk]; simp
theorem small_nat (x : W) (a b c k : Nat) (hk : k = 2 ^ c) : bits .xor .u32 (bits .xor .u32 ((turn x a).toNat : Int) ((turn x b).toNat : Int)) ((x.toNat : Int) / (k : Int)) = ((small x a b c).toNat : Int) := by
  rw [xor_nat, shr_nat x c k hk, xor_nat]; rfl
theorem great_nat (x : W) (a b c : Nat) : bits .xor .u32 (bits .xor .u32 ((turn x a).toNat : Int) ((turn x b).toNat : Int)) ((turn x c).toNat : Int) = ((great x a b c).toNat : Int) := by
  rw [xor_nat, xor_nat]; rfl

set_option maxRecDepth 100000 in
theorem rotate_2 (x : W) (w : World) : Calls Try.prog 65 #[.int .u32 x.toNat, .int .i64 (-2)] w fun e w' => e = .returned (.int .u32 (turn x 2).toNat) ∧ w = w' := by
  have hx := x.isLt
  have hb : bits .and .u64 (IntKind.u64.wrap (-2)) 31 = 30 := by decide
  go_enter Try.func65, Try.ntmps65
  go_wp2_with fail
  go_ret
  exact ⟨congrArg (fun z => Ending.returned (Value.int .u32 z)) (turn_nat x 2 1073741824 4 (by decide) (by decide) (by decide)), rfl⟩
set_option maxRecDepth 100000 in
theorem right_2 (x : W) (w : World) : Calls Try.prog 64 #[.int .u32 x.toNat, .int .i64 2] w fun e w' => e = .returned (.int .u32 (turn x 2).toNat) ∧ w = w' := by
  go_enter Try.func64, Try.ntmps64
  go_wp2_with fail
  refine (rotate_2 x _).mono ?_
  rintro e _ ⟨rfl, rfl⟩
  go_wp2_with fail
  go_ret
  exact ⟨rfl, rfl⟩
set_option maxRecDepth 100000 in
theorem rotate_6 (x : W) (w : World) : Calls Try.prog 65 #[.int .u32 x.toNat, .int .i64 (-6)] w fun e w' => e = .returned (.int .u32 (turn x 6).toNat) ∧ w = w' := by
  have hx := x.isLt
  have hb : bits .and .u64 (IntKind.u64.wrap (-6)) 31 = 26 := by decide
  go_enter Try.func65, Try.ntmps65
  go_wp2_with fail
  go_ret
  exact ⟨congrArg (fun z => Ending.returned (Value.int .u32 z)) (turn_nat x 6 67108864 64 (by decide) (by decide) (by decide)), rfl⟩
set_option maxRecDepth 100000 in
theorem right_6 (x : W) (w : World) : Calls Try.prog 64 #[.int .u32 x.toNat, .int .i64 6] w fun e w' => e = .returned (.int .u32 (turn x 6).toNat) ∧ w = w' := by
  go_enter Try.func64, Try.ntmps64
  go_wp2_with fail
  refine (rotate_6 x _).mono ?_
  rintro e _ ⟨rfl, rfl⟩
  go_wp2_with fail
  go_ret
  exact ⟨rfl, rfl⟩
set_option maxRecDepth 100000 in
theorem rotate_7 (x : W) (w : World) : Calls Try.prog 65 #[.int .u32 x.toNat, .int .i64 (-7)] w fun e w' => e = .returned (.int .u32 (turn x 7).toNat) ∧ w = w' := by
  have hx := x.isLt
  have hb : bits .and .u64 (IntKind.u64.wrap (-7)) 31 = 25 := by decide
  go_enter Try.func65, Try.ntmps65
  go_wp2_with fail
  go_ret
  exact ⟨congrArg (fun z => Ending.returned (Value.int .u32 z)) (turn_nat x 7 33554432 128 (by decide) (by decide) (by decide)), rfl⟩
set_option maxRecDepth 100000 in
theorem right_7 (x : W) (w : World) : Calls Try.prog 64 #[.int .u32 x.toNat, .int .i64 7] w fun e w' => e = .returned (.int .u32 (turn x 7).toNat) ∧ w = w' := by
  go_enter Try.func64, Try.ntmps64
  go_wp2_with fail
  refine (rotate_7 x _).mono ?_
  rintro e _ ⟨rfl, rfl⟩
  go_wp2_with fail
  go_ret
  exact ⟨rfl, rfl⟩
set_option maxRecDepth 100000 in
theorem rotate_11 (x : W) (w : World) : Calls Try.prog 65 #[.int .u32 x.toNat, .int .i64 (-11)] w fun e w' => e = .returned (.int .u32 (turn x 11).toNat) ∧ w = w' := by
  have hx := x.isLt
  have hb : bits .and .u64 (IntKind.u64.wrap (-11)) 31 = 21 := by decide
  go_enter Try.func65, Try.ntmps65
  go_wp2_with fail
  go_ret
  exact ⟨congrArg (fun z => Ending.returned (Value.int .u32 z)) (turn_nat x 11 2097152 2048 (by decide) (by decide) (by decide)), rfl⟩
set_option maxRecDepth 100000 in
theorem right_11 (x : W) (w : World) : Calls Try.prog 64 #[.int .u32 x.toNat, .int .i64 11] w fun e w' => e = .returned (.int .u32 (turn x 11).toNat) ∧ w = w' := by
  go_enter Try.func64, Try.ntmps64
  go_wp2_with fail
  refine (rotate_11 x _).mono ?_
  rintro e _ ⟨rfl, rfl⟩
  go_wp2_with fail
  go_ret
  exact ⟨rfl, rfl⟩
set_option maxRecDepth 100000 in
theorem rotate_13 (x : W) (w : World) : Calls Try.prog 65 #[.int .u32 x.toNat, .int .i64 (-13)] w fun e w' => e = .returned (.int .u32 (turn x 13).toNat) ∧ w = w' := by
  have hx := x.isLt
  have hb : bits .and .u64 (IntKind.u64.wrap (-13)) 31 = 19 := by decide
  go_enter Try.func65, Try.ntmps65
  go_wp2_with fail
  go_ret
  exact ⟨congrArg (fun z => Ending.returned (Value.int .u32 z)) (turn_nat x 13 524288 8192 (by decide) (by decide) (by decide)), rfl⟩
set_option maxRecDepth 100000 in
theorem right_13 (x : W) (w : World) : Calls Try.prog 64 #[.int .u32 x.toNat, .int .i64 13] w fun e w' => e = .returned (.int .u32 (turn x 13).toNat) ∧ w = w' := by
  go_enter Try.func64, Try.ntmps64
  go_wp2_with fail
  refine (rotate_13 x _).mono ?_
  rintro e _ ⟨rfl, rfl⟩
  go_wp2_with fail
  go_ret
  exact ⟨rfl, rfl⟩
set_option maxRecDepth 100000 in
theorem rotate_17 (x : W) (w : World) : Calls Try.prog 65 #[.int .u32 x.toNat, .int .i64 (-17)] w fun e w' => e = .returned (.int .u32 (turn x 17).toNat) ∧ w = w' := by
  have hx := x.isLt
  have hb : bits .and .u64 (IntKind.u64.wrap (-17)) 31 = 15 := by decide
  go_enter Try.func65, Try.ntmps65
  go_wp2_with fail
  go_ret
  exact ⟨congrArg (fun z => Ending.returned (Value.int .u32 z)) (turn_nat x 17 32768 131072 (by decide) (by decide) (by decide)), rfl⟩
set_option maxRecDepth 100000 in
theorem right_17 (x : W) (w : World) : Calls Try.prog 64 #[.int .u32 x.toNat, .int .i64 17] w fun e w' => e = .returned (.int .u32 (turn x 17).toNat) ∧ w = w' := by
  go_enter Try.func64, Try.ntmps64
  go_wp2_with fail
  refine (rotate_17 x _).mono ?_
  rintro e _ ⟨rfl, rfl⟩
  go_wp2_with fail
  go_ret
  exact ⟨rfl, rfl⟩
set_option maxRecDepth 100000 in
theorem rotate_18 (x : W) (w : World) : Calls Try.prog 65 #[.int .u32 x.toNat, .int .i64 (-18)] w fun e w' => e = .returned (.int .u32 (turn x 18).toNat) ∧ w = w' := by
  have hx := x.isLt
  have hb : bits .and .u64 (IntKind.u64.wrap (-18)) 31 = 14 := by decide
  go_enter Try.func65, Try.ntmps65
  go_wp2_with fail
  go_ret
  exact ⟨congrArg (fun z => Ending.returned (Value.int .u32 z)) (turn_nat x 18 16384 262144 (by decide) (by decide) (by decide)), rfl⟩
set_option maxRecDepth 100000 in
theorem right_18 (x : W) (w : World) : Calls Try.prog 64 #[.int .u32 x.toNat, .int .i64 18] w fun e w' => e = .returned (.int .u32 (turn x 18).toNat) ∧ w = w' := by
  go_enter Try.func64, Try.ntmps64
  go_wp2_with fail
  refine (rotate_18 x _).mono ?_
  rintro e _ ⟨rfl, rfl⟩
  go_wp2_with fail
  go_ret
  exact ⟨rfl, rfl⟩
set_option maxRecDepth 100000 in
theorem rotate_19 (x : W) (w : World) : Calls Try.prog 65 #[.int .u32 x.toNat, .int .i64 (-19)] w fun e w' => e = .returned (.int .u32 (turn x 19).toNat) ∧ w = w' := by
  have hx := x.isLt
  have hb : bits .and .u64 (IntKind.u64.wrap (-19)) 31 = 13 := by decide
  go_enter Try.func65, Try.ntmps65
  go_wp2_with fail
  go_ret
  exact ⟨congrArg (fun z => Ending.returned (Value.int .u32 z)) (turn_nat x 19 8192 524288 (by decide) (by decide) (by decide)), rfl⟩
set_option maxRecDepth 100000 in
theorem right_19 (x : W) (w : World) : Calls Try.prog 64 #[.int .u32 x.toNat, .int .i64 19] w fun e w' => e = .returned (.int .u32 (turn x 19).toNat) ∧ w = w' := by
  go_enter Try.func64, Try.ntmps64
  go_wp2_with fail
  refine (rotate_19 x _).mono ?_
  rintro e _ ⟨rfl, rfl⟩
  go_wp2_with fail
  go_ret
  exact ⟨rfl, rfl⟩
set_option maxRecDepth 100000 in
theorem rotate_22 (x : W) (w : World) : Calls Try.prog 65 #[.int .u32 x.toNat, .int .i64 (-22)] w fun e w' => e = .returned (.int .u32 (turn x 22).toNat) ∧ w = w' := by
  have hx := x.isLt
  have hb : bits .and .u64 (IntKind.u64.wrap (-22)) 31 = 10 := by decide
  go_enter Try.func65, Try.ntmps65
  go_wp2_with fail
  go_ret
  exact ⟨congrArg (fun z => Ending.returned (Value.int .u32 z)) (turn_nat x 22 1024 4194304 (by decide) (by decide) (by decide)), rfl⟩
set_option maxRecDepth 100000 in
theorem right_22 (x : W) (w : World) : Calls Try.prog 64 #[.int .u32 x.toNat, .int .i64 22] w fun e w' => e = .returned (.int .u32 (turn x 22).toNat) ∧ w = w' := by
  go_enter Try.func64, Try.ntmps64
  go_wp2_with fail
  refine (rotate_22 x _).mono ?_
  rintro e _ ⟨rfl, rfl⟩
  go_wp2_with fail
  go_ret
  exact ⟨rfl, rfl⟩
set_option maxRecDepth 100000 in
theorem rotate_25 (x : W) (w : World) : Calls Try.prog 65 #[.int .u32 x.toNat, .int .i64 (-25)] w fun e w' => e = .returned (.int .u32 (turn x 25).toNat) ∧ w = w' := by
  have hx := x.isLt
  have hb : bits .and .u64 (IntKind.u64.wrap (-25)) 31 = 7 := by decide
  go_enter Try.func65, Try.ntmps65
  go_wp2_with fail
  go_ret
  exact ⟨congrArg (fun z => Ending.returned (Value.int .u32 z)) (turn_nat x 25 128 33554432 (by decide) (by decide) (by decide)), rfl⟩
set_option maxRecDepth 100000 in
theorem right_25 (x : W) (w : World) : Calls Try.prog 64 #[.int .u32 x.toNat, .int .i64 25] w fun e w' => e = .returned (.int .u32 (turn x 25).toNat) ∧ w = w' := by
  go_enter Try.func64, Try.ntmps64
  go_wp2_with fail
  refine (rotate_25 x _).mono ?_
  rintro e _ ⟨rfl, rfl⟩
  go_wp2_with fail
  go_ret
  exact ⟨rfl, rfl⟩
set_option maxRecDepth 100000 in
theorem small_17 (x : W) (w : World) : Calls Try.prog 63 #[.int .u32 x.toNat, .int .i64 17, .int .i64 19, .int .u64 10] w fun e w' => e = .returned (.int .u32 (small x 17 19 10).toNat) ∧ w = w' := by
  have hx := x.isLt
  go_enter Try.func63, Try.ntmps63
  go_wp2_with fail
  refine (right_17 x _).mono ?_
  rintro e _ ⟨rfl, rfl⟩
  go_wp2_with fail
  refine (right_19 x _).mono ?_
  rintro e _ ⟨rfl, rfl⟩
  go_wp2_with fail
  go_ret
  exact ⟨congrArg (fun z => Ending.returned (Value.int .u32 z)) (small_nat x 17 19 10 1024 (by decide)), rfl⟩
set_option maxRecDepth 100000 in
theorem small_7 (x : W) (w : World) : Calls Try.prog 63 #[.int .u32 x.toNat, .int .i64 7, .int .i64 18, .int .u64 3] w fun e w' => e = .returned (.int .u32 (small x 7 18 3).toNat) ∧ w = w' := by
  have hx := x.isLt
  go_enter Try.func63, Try.ntmps63
  go_wp2_with fail
  refine (right_7 x _).mono ?_
  rintro e _ ⟨rfl, rfl⟩
  go_wp2_with fail
  refine (right_18 x _).mono ?_
  rintro e _ ⟨rfl, rfl⟩
  go_wp2_with fail
  go_ret
  exact ⟨congrArg (fun z => Ending.returned (Value.int .u32 z)) (small_nat x 7 18 3 8 (by decide)), rfl⟩
set_option maxRecDepth 100000 in
theorem great_6 (x : W) (w : World) : Calls Try.prog 61 #[.int .u32 x.toNat, .int .i64 6, .int .i64 11, .int .i64 25] w fun e w' => e = .returned (.int .u32 (great x 6 11 25).toNat) ∧ w = w' := by
  go_enter Try.func61, Try.ntmps61
  go_wp2_with fail
  refine (right_6 x _).mono ?_
  rintro e _ ⟨rfl, rfl⟩
  go_wp2_with fail
  refine (right_11 x _).mono ?_
  rintro e _ ⟨rfl, rfl⟩
  go_wp2_with fail
  refine (right_25 x _).mono ?_
  rintro e _ ⟨rfl, rfl⟩
  go_wp2_with fail
  go_ret
  exact ⟨congrArg (fun z => Ending.returned (Value.int .u32 z)) (great_nat x 6 11 25), rfl⟩
set_option maxRecDepth 100000 in
theorem great_2 (x : W) (w : World) : Calls Try.prog 61 #[.int .u32 x.toNat, .int .i64 2, .int .i64 13, .int .i64 22] w fun e w' => e = .returned (.int .u32 (great x 2 13 22).toNat) ∧ w = w' := by
  go_enter Try.func61, Try.ntmps61
  go_wp2_with fail
  refine (right_2 x _).mono ?_
  rintro e _ ⟨rfl, rfl⟩
  go_wp2_with fail
  refine (right_13 x _).mono ?_
  rintro e _ ⟨rfl, rfl⟩
  go_wp2_with fail
  refine (right_22 x _).mono ?_
  rintro e _ ⟨rfl, rfl⟩
  go_wp2_with fail
  go_ret
  exact ⟨congrArg (fun z => Ending.returned (Value.int .u32 z)) (great_nat x 2 13 22), rfl⟩
end Go.Proofs.Ytnhljemnebgekaa

/-
  The function words, called on any block of 64 bytes, returns its plain words; the function keys returns the plain keys.
-/
namespace Go.Proofs.Ytnhljemnebgekaa
open Go.RowKit Sha

/-- Words, and bytes, as cells. -/
def u32s (l : List W) : List Value := l.map fun x => Value.int .u32 (x.toNat : Int)
def u8s (l : List UInt8) : List Value := l.map fun c => Value.int .u8 (c.toNat : Int)
theorem u32s_one (l : List W) : ∀ v ∈ u32s l, v.oneCell' = true := by
  intro v hv
  obtain ⟨x, _, rfl⟩ := List.mem_map.1 hv
  rfl
/-- The words lie in block b: they are all of it. -/
def Row (w : World) (b : Nat) (T : TypeId) (l : List W) : Prop := w.heap[b]? = some (.cells (u32s l).toArray T (0, 0))
theorem Row.cell {w : World} {b : Nat} {T : TypeId} {l : List W} (h : Row w b T l) {j : Nat} {x : W} (hj : l[j]? = some x) : w.cell? ⟨b, j, none⟩ = some (.int .u32 (x.toNat : Int)) := by
  rw [cell_of_row w b j _ T (0, 0) h]
  simp [u32s, hj]
theorem Row.frozen {w : World} {b : Nat} {T : TypeId} {l : List W} (h : Row w b T l) (j : Nat) : w.frozen? ⟨b, j, none⟩ = false := by
  exact frozen_of_row w b j _ T h
theorem Row.set {w : World} {b : Nat} {T : TypeId} {l : List W} (h : Row w b T l) (k : Nat) (x : W) : Row (w.setCell ⟨b, k, none⟩ (.int .u32 (x.toNat : Int))) b T (l.set k x) := by
  rw [Row, setCell_eq_setRow w b k _ T (0, 0) _ h, setRow_heap _ _ _ _ _ _ h]
  simp [u32s, List.map_set]
theorem Row.drew {w : World} {b : Nat} {T : TypeId} {l : List W} (h : Row w b T l) : Row w.drew b T l := h
theorem Row.lt {w : World} {b : Nat} {T : TypeId} {l : List W} (h : Row w b T l) : b < w.heap.size := (Array.getElem?_eq_some_iff.1 h).1
theorem Row.below {w w' : World} {b : Nat} {T : TypeId} {l : List W} (h : Row w b T l) (hb : Below w.heap.size w w') : Row w' b T l := (hb.block b h.lt).trans h
theorem below_setRow {W w : World} (h : Below W.heap.size W w) (b : Nat) (cs : Array Value) (hb : W.heap.size ≤ b) : Below W.heap.size W (w.setRow b cs) :=
  ⟨h.os, h.tape, h.output, by simpa [World.setRow] using h.size, fun k hk => by rw [setRow_other _ _ _ _ (by omega)]; exact h.block k hk⟩
/-- Words, and noughts behind them, n in all. -/
def padded (l : List W) (n : Nat) : List W := l ++ List.replicate (n - l.length) 0
theorem padded_get (l : List W) (n j : Nat) (hj : j < n) : (padded l n)[j]? = some (l.getD j 0) := by
  unfold padded
  by_cases h : j < l.length
  · rw [List.getElem?_append_left h, List.getElem?_eq_getElem h]; simp [List.getD, List.getElem?_eq_getElem h]
  · rw [List.getElem?_append_right (by omega), List.getElem?_replicate, if_pos (by omega)]
    simp [List.getD, List.getElem?_eq_none (Nat.le_of_not_lt h)]
theorem padded_set (l : List W) (n : Nat) (x : W) (h : l.length < n) : (padded l n).set l.length x = padded (l ++ [x]) n := by
  unfold padded
  rw [show n - l.length = (n - (l.length + 1)) + 1 by omega, List.replicate_succ, List.set_append_right _ _ (Nat.le_refl _)]
  simp
theorem padded_same (l : List W) (n : Nat) (h : l.length < n) : (padded l n).set l.length 0 = padded l n := by
  have h1 := padded_get l n l.length h
  rw [List.getD_eq_getElem?_getD, List.getElem?_eq_none (Nat.le_refl _)] at h1
  obtain ⟨hlt, he⟩ := List.getElem?_eq_some_iff.1 h1
  conv => lhs; rw [show (0 : W) = (padded l n)[l.length] from he.symm]
  exact List.set_getElem_self hlt
theorem padded_full (l : List W) (n : Nat) (h : l.length = n) : padded l n = l := by simp [padded, h]
theorem add_nat (x y : W) : ((x.toNat : Int) + (y.toNat : Int)) % 4294967296 = ((x + y).toNat : Int) := by
  rw [BitVec.toNat_add]; simp
theorem push_nat (x : W) (c : UInt8) : bits .or .u32 ((x.toNat : Int) * 256 % 4294967296) (c.toNat : Int) = ((push x c).toNat : Int) := by
  have h1 : (x.toNat : Int) * 256 % 4294967296 = ((x.toNat * 256 % 4294967296 : Nat) : Int) := by simp
  have hc := c.toNat_lt
  rw [h1, u32_or_nat _ _ (Nat.mod_lt _ (by decide)) (by omega)]
  unfold push
  rw [BitVec.toNat_or, BitVec.toNat_shiftLeft, Nat.shiftLeft_eq, BitVec.toNat_setWidth]
  congr 2
  show _ = c.toNat % 2 ^ 32
  rw [Nat.mod_eq_of_lt (by omega)]

def keysV : Array Value := (u32s keys).toArray
def zeroV (n : Nat) : Array Value := Array.replicate n (.int .u32 0)
def keysI : List Int := [1116352408, 1899447441, 3049323471, 3921009573, 961987163, 1508970993, 2453635748, 2870763221, 3624381080, 310598401, 607225278, 1426881987, 1925078388, 2162078206, 2614888103, 3248222580, 3835390401, 4022224774, 264347078, 604807628, 770255983, 1249150122, 1555081692, 1996064986, 2554220882, 2821834349, 2952996808, 3210313671, 3336571891, 3584528711, 113926993, 338241895, 666307205, 773529912, 1294757372, 1396182291, 1695183700, 1986661051, 2177026350, 2456956037, 2730485921, 2820302411, 3259730800, 3345764771, 3516065817, 3600352804, 4094571909, 275423344, 430227734, 506948616, 659060556, 883997877, 958139571, 1322822218, 1537002063, 1747873779, 1955562222, 2024104815, 2227730452, 2361852424, 2428436474, 2756734187, 3204031479, 3329325298]
theorem keysV_ints : keysV = (keysI.map (Value.int .u32)).toArray := rfl
theorem keysV_one : keysV.all (·.oneCell') = true := all_oneCell_toArray (u32s_one keys)
theorem info57 : (Try.prog.info? 83).map (·.size) = some 64 := by kernel_rfl
theorem info43 : (Try.prog.info? 71).map (·.size) = some 1 := by kernel_rfl
theorem zero57 : ((Try.prog.info? 83).bind (·.zero)).map (·.cells.size) = some keysI.length := by kernel_rfl
set_option maxRecDepth 100000 in
set_option maxHeartbeats 1000000 in
theorem keys_any (w : World) : Calls Try.prog 60 #[] w fun e w' => e = .returned (.agg keysV) ∧ Below w.heap.size w w' := by
  have hz : ∀ w, (zeroValue 83).run Try.prog w = .ok (.agg (zeroV 64)) w := fun w => by kernel_rfl
  go_enter Try.func60, Try.ntmps60
  go_wp2_with (first
    | refine wpList_buildFlatArrTo rfl 83 71 64 _ rfl .u32 keysI (some 1) rfl Try.underlying83 info43 zero57 (by kernel_rfl) ?_
    | refine wpList_store_rowTo rfl 83 _ _ rfl rfl w.heap.size keysV rfl rfl 83 (zeroV 64) (heap_alloc_new _ _) info57 (by decide +kernel) keysV_one ?_)
  refine bodyPost_ret_by (results_cell_row rfl _ _ w.heap.size 83 keysV (0, 0) _ rfl (setRow_heap _ _ _ _ _ _ (heap_alloc_new _ _)) Try.underlying83 rfl info57) rfl ⟨rfl, below_setRow ?_ _ _ (Nat.le_refl _)⟩
  go_grown

/-- The bytes lie in a row from a on. -/
def BytesAt (W : World) (a : Option Addr) (l : List UInt8) : Prop := 0 < l.length → ∃ b off, a = some ⟨b, off, none⟩ ∧ b < W.heap.size ∧ ∀ i (h : i < l.length), W.cell? ⟨b, off + i, none⟩ = some (.int .u8 (l[i].toNat : Int))
theorem BytesAt.below {W W' : World} {a : Option Addr} {l : List UInt8} (h : BytesAt W a l) (hb : Below W.heap.size W W') : BytesAt W' a l := fun hp => by
  obtain ⟨b, off, e, hlt, hc⟩ := h hp
  exact ⟨b, off, e, Nat.lt_of_lt_of_le hlt hb.size, fun i hi => (hb.cell (p := ⟨b, off + i, none⟩) hlt).trans (hc i hi)⟩
theorem four_snoc (l : List UInt8) (c : UInt8) : four (l ++ [c]) = push (four l) c := by simp [four]
theorem drew_below (w : World) : Below w.heap.size w w.drew := by go_grown
theorem small_lit (x : W) (a b c : Int) (h : (a = 17 ∧ b = 19 ∧ c = 10) ∨ (a = 7 ∧ b = 18 ∧ c = 3)) (w : World) :
    Calls Try.prog 63 #[.int .u32 x.toNat, .int .i64 a, .int .i64 b, .int .u64 c] w fun e w' => e = .returned (.int .u32 (small x a.toNat b.toNat c.toNat).toNat) ∧ w = w' := by
  rcases h with ⟨rfl, rfl, rfl⟩ | ⟨rfl, rfl, rfl⟩
  · exact small_17 x w
  · exact small_7 x w

set_option maxRecDepth 100000 in
set_option maxHeartbeats 2000000 in
theorem words_any (a : Option Addr) (n cap : Nat) (b : List UInt8) (w : World) (hn : 64 ≤ b.length) (hb : BytesAt w a b) (hnl : b.length = n) (hc : n ≤ cap) (hc2 : cap ≤ maxLen) :
    Calls Try.prog 59 #[.slice a n cap] w fun e w' => e = .returned (.agg (u32s (words b)).toArray) ∧ Below w.heap.size w w' := by
  obtain ⟨g, o, rfl, hg, hcell⟩ := hb (by omega)
  have hz : ∀ w, (zeroValue 83).run Try.prog w = .ok (.agg (zeroV 64)) w := fun w => by kernel_rfl
  have HC := Lib.hid hcell
  clear hcell
  have hc3 : cap ≤ 9223372036854775807 := hc2
  clear hc2
  go_enter Try.func59, Try.ntmps59
  go_wp2_with fail
  go_loopw [6] (fun i wr => ∃ k : Nat, k ≤ 64 ∧ i = .int .i64 k ∧ Row wr w.heap.size 83 (padded (upto b k) 64) ∧ Below w.heap.size w wr) (fun i _ => 64 - (intOf i).toNat)
  case atStart =>
    refine ⟨0, by omega, rfl, ?_, ?_⟩
    · exact heap_alloc_new w _
    · go_grown
  case round =>
    obtain ⟨k, hk, rfl, hrow, hbel⟩ := hrel
    have HROW := Lib.hid hrow; have HBEL := Lib.hid hbel
    clear hrow hbel
    by_cases hlt : k < 64
    · by_cases h16 : k < 16
      · have h4a : (4 : Int) * (k : Int) + 4 ≤ (cap : Int) := by omega
        go_wp2_with fail
        go_loopw [19] (fun i wq => ∃ j : Nat, j ≤ 4 ∧ i = .int .i64 j ∧ Row wq w.heap.size 83 ((padded (upto b k) 64).set k (four (((b.drop (4 * k)).take 4).take j))) ∧ Below w.heap.size w wq) (fun i _ => 4 - (intOf i).toNat)
        case atStart =>
          refine ⟨0, by omega, rfl, ?_, HBEL.out⟩
          have h := padded_same (upto b k) 64 (by rw [upto_length]; exact hlt)
          rw [upto_length] at h
          rw [List.take_zero, show four [] = 0 from rfl, h]
          exact HROW.out
        case round =>
          obtain ⟨j, hj, rfl, hrow, hbel⟩ := hrel
          obtain ⟨S, hS⟩ : ∃ S, four (((b.drop (4 * k)).take 4).take j) = S := ⟨_, rfl⟩
          rw [hS] at hrow
          have HS := Lib.hid hS
          have HROW2 := Lib.hid hrow; have HBEL2 := Lib.hid hbel
          clear hrow hbel hS
          by_cases hlj : j < 4
          · have hji : (j : Int) < 4 := by omega
            have hkb : 4 * k + j < b.length := by omega
            have fb : wr.cell? ⟨g, o + 4 * k + j, none⟩ = some (.int .u8 (b[4 * k + j].toNat : Int)) := by
              rw [HBEL2.out.cell (p := ⟨g, o + 4 * k + j, none⟩) hg, Nat.add_assoc]
              exact HC.out _ hkb
            have fw : wr.cell? ⟨w.heap.size, k, none⟩ = some (.int .u32 (S.toNat : Int)) :=
              HROW2.out.cell (by rw [List.getElem?_set_self]; simp [padded, upto_length]; omega)
            have ff : wr.frozen? ⟨w.heap.size, k, none⟩ = false := HROW2.out.frozen k
            have ht : ((b.drop (4 * k)).take 4).take (j + 1) = ((b.drop (4 * k)).take 4).take j ++ [b[4 * k + j]] := by
              rw [List.take_succ_eq_append_getElem (by simp; omega)]
              simp
            obtain ⟨c, hc⟩ : ∃ c, b[4 * k + j] = c := ⟨_, rfl⟩
            rw [hc] at fb ht
            have HT := Lib.hid ht
            clear hc ht
            have hcn := c.toNat_lt
            have hpu := push_nat S c
            have hcw : IntKind.u32.wrap (c.toNat : Int) = (c.toNat : Int) := by rw [IntKind.wrap_u32]; omega
            go_wp2_with fail
            go_roundw
            case rel =>
              refine ⟨j + 1, by omega, by go_num, ?_, HBEL2.out.setCell (p := ⟨w.heap.size, k, none⟩) (Nat.le_refl _) _⟩
              rw [HT.out, four_snoc, HS.out]
              have := HROW2.out.set k (push S c)
              rwa [List.set_set] at this
            case measure => simp [intOf]; omega
          · obtain rfl : j = 4 := by omega
            have h4 : S = four ((b.drop (4 * k)).take 4) := by rw [← HS.out, List.take_take, Nat.min_self]
            go_wp2_with fail
            go_roundw
            case rel =>
              refine ⟨k + 1, by omega, by go_num, ?_, HBEL2.out⟩
              have := padded_set (upto b k) 64 S (by rw [upto_length]; exact hlt)
              rw [upto_length] at this
              rw [upto_first b k h16, ← h4, ← this]
              exact HROW2.out
            case measure => simp [intOf]; omega
      · have h64 : (upto b k).length = k := upto_length b k
        obtain ⟨L, hL⟩ : ∃ L, upto b k = L := ⟨_, rfl⟩
        have hnx := upto_more b k (by omega)
        rw [hL] at h64 hnx
        have hrow := HROW.out
        rw [hL] at hrow
        obtain ⟨k2, hk2⟩ : ∃ k2, k - 2 = k2 := ⟨_, rfl⟩
        obtain ⟨k7, hk7⟩ : ∃ k7, k - 7 = k7 := ⟨_, rfl⟩
        obtain ⟨k15, hk15⟩ : ∃ k15, k - 15 = k15 := ⟨_, rfl⟩
        obtain ⟨k16, hk16⟩ : ∃ k16, k - 16 = k16 := ⟨_, rfl⟩
        obtain ⟨x2, hx2⟩ : ∃ x, L.getD k2 0 = x := ⟨_, rfl⟩
        obtain ⟨x7, hx7⟩ : ∃ x, L.getD k7 0 = x := ⟨_, rfl⟩
        obtain ⟨x15, hx15⟩ : ∃ x, L.getD k15 0 = x := ⟨_, rfl⟩
        obtain ⟨x16, hx16⟩ : ∃ x, L.getD k16 0 = x := ⟨_, rfl⟩
        have c2 : wr.cell? ⟨w.heap.size, k2, none⟩ = some (.int .u32 (x2.toNat : Int)) := by rw [← hx2]; exact hrow.cell (padded_get L 64 k2 (by omega))
        have c7 : wr.cell? ⟨w.heap.size, k7, none⟩ = some (.int .u32 (x7.toNat : Int)) := by rw [← hx7]; exact hrow.cell (padded_get L 64 k7 (by omega))
        have c15 : wr.cell? ⟨w.heap.size, k15, none⟩ = some (.int .u32 (x15.toNat : Int)) := by rw [← hx15]; exact hrow.cell (padded_get L 64 k15 (by omega))
        have c16 : wr.cell? ⟨w.heap.size, k16, none⟩ = some (.int .u32 (x16.toNat : Int)) := by rw [← hx16]; exact hrow.cell (padded_get L 64 k16 (by omega))
        have ck : wr.cell? ⟨w.heap.size, k, none⟩ = some (.int .u32 0) := by
          rw [hrow.cell (padded_get L 64 k (by omega)), List.getD_eq_getElem?_getD, List.getElem?_eq_none (by omega)]; rfl
        have ff : wr.frozen? ⟨w.heap.size, k, none⟩ = false := hrow.frozen k
        have hv : next L = small x2 17 19 10 + x7 + small x15 7 18 3 + x16 := by
          unfold next
          rw [h64, hk2, hk7, hk15, hk16, hx2, hx7, hx15, hx16]
        have HV := Lib.hid hv; have HNX := Lib.hid hnx; have HR := Lib.hid hrow; have HL := Lib.hid hL; have H64 := Lib.hid h64
        have e2 : (k : Int) - 2 = (k2 : Int) := by omega
        have e7 : (k : Int) - 7 = (k7 : Int) := by omega
        have e15 : (k : Int) - 15 = (k15 : Int) := by omega
        have e16 : (k : Int) - 16 = (k16 : Int) := by omega
        have w2 : IntKind.i64.wrap (k2 : Int) = (k2 : Int) := by rw [IntKind.wrap_i64]; omega
        have w7 : IntKind.i64.wrap (k7 : Int) = (k7 : Int) := by rw [IntKind.wrap_i64]; omega
        have w15 : IntKind.i64.wrap (k15 : Int) = (k15 : Int) := by rw [IntKind.wrap_i64]; omega
        have w16 : IntKind.i64.wrap (k16 : Int) = (k16 : Int) := by rw [IntKind.wrap_i64]; omega
        have l2 : (k2 : Int) < 64 := by omega
        have l7 : (k7 : Int) < 64 := by omega
        have l15 : (k15 : Int) < 64 := by omega
        have l16 : (k16 : Int) < 64 := by omega
        have lk : (k : Int) < 64 := by omega
        have g2 : (0 : Int) ≤ (k2 : Int) := by omega
        have g7 : (0 : Int) ≤ (k7 : Int) := by omega
        have g15 : (0 : Int) ≤ (k15 : Int) := by omega
        have g16 : (0 : Int) ≤ (k16 : Int) := by omega
        have gk : (0 : Int) ≤ (k : Int) := by omega
        have n2 : Hid (∀ v, (wr.setCell ⟨w.heap.size, k, none⟩ v).cell? ⟨w.heap.size, k2, none⟩ = some (.int .u32 (x2.toNat : Int))) := Lib.hid fun v => by
          rw [World.cell?_setCell_other _ _ _ _ (by intro h; injection h with _ h2 _; omega)]; exact c2
        have n7 : Hid (∀ v, (wr.setCell ⟨w.heap.size, k, none⟩ v).cell? ⟨w.heap.size, k7, none⟩ = some (.int .u32 (x7.toNat : Int))) := Lib.hid fun v => by
          rw [World.cell?_setCell_other _ _ _ _ (by intro h; injection h with _ h2 _; omega)]; exact c7
        have n15 : Hid (∀ v, (wr.setCell ⟨w.heap.size, k, none⟩ v).cell? ⟨w.heap.size, k15, none⟩ = some (.int .u32 (x15.toNat : Int))) := Lib.hid fun v => by
          rw [World.cell?_setCell_other _ _ _ _ (by intro h; injection h with _ h2 _; omega)]; exact c15
        have n16 : Hid (∀ v, (wr.setCell ⟨w.heap.size, k, none⟩ v).cell? ⟨w.heap.size, k16, none⟩ = some (.int .u32 (x16.toNat : Int))) := Lib.hid fun v => by
          rw [World.cell?_setCell_other _ _ _ _ (by intro h; injection h with _ h2 _; omega)]; exact c16
        clear hx2 hx7 hx15 hx16 hv hnx hrow hL h64 hk2 hk7 hk15 hk16
        go_wp2_with fail
        go_region_held (fun w' => w'.cell? ⟨w.heap.size, k2, none⟩ = some (.int .u32 (x2.toNat : Int)) ∧ w'.cell? ⟨w.heap.size, k7, none⟩ = some (.int .u32 (x7.toNat : Int)) ∧ w'.cell? ⟨w.heap.size, k15, none⟩ = some (.int .u32 (x15.toNat : Int)) ∧ w'.cell? ⟨w.heap.size, k16, none⟩ = some (.int .u32 (x16.toNat : Int)))
          (first | exact ⟨n2.out _, n7.out _, n15.out _, n16.out _⟩ | go_keep)
          (first | (go_at_call 63; refine (small_lit _ _ _ _ (by decide) _).mono ?_; rintro e _ ⟨rfl, rfl⟩))
        go_wp2_with fail
        go_roundw
        case rel =>
          have hval : (((((small x2 17 19 10).toNat : Int) + (x7.toNat : Int)) % 4294967296 + ((small x15 7 18 3).toNat : Int)) % 4294967296 + (x16.toNat : Int)) % 4294967296 = ((next L).toNat : Int) := by
            rw [add_nat, add_nat, add_nat, HV.out]
          refine ⟨k + 1, by omega, by go_num, ?_, (HBEL.out.setCell (p := ⟨w.heap.size, k, none⟩) (Nat.le_refl _) _).trans ((drew_below _).mono (by have := HBEL.out.size; simpa using this))⟩
          rw [hval]
          have := HR.out.set k (next L)
          have hp := padded_set L 64 (next L) (by rw [H64.out]; exact hlt)
          rw [H64.out] at hp
          rw [hp, ← HNX.out] at this
          exact this
        case measure => simp [intOf]; omega
    · obtain rfl : k = 64 := by omega
      have hrow := HROW.out
      rw [padded_full _ _ (upto_length b 64)] at hrow
      have hsz : (Try.prog.info? 83).map (·.size) = some (u32s (upto b 64)).toArray.size := by
        rw [info57]; simp [u32s, upto_length]
      have hone : (u32s (upto b 64)).toArray.all (·.oneCell') = true := all_oneCell_toArray (u32s_one _)
      obtain ⟨R, hR⟩ : ∃ R, (u32s (upto b 64)).toArray = R := ⟨_, rfl⟩
      unfold Row at hrow
      rw [hR] at hrow hsz hone
      have HR := Lib.hid hR; have HRW := Lib.hid hrow; have HSZ := Lib.hid hsz; have HON := Lib.hid hone
      clear hR hrow hsz hone
      go_wp2_with (first
        | refine wpList_load_row rfl 83 _ rfl w.heap.size rfl 83 R (0, 0) _ HRW.out Try.underlying83 rfl HSZ.out ?_
        | refine wpList_store_rowTo rfl 83 _ _ rfl rfl w.heap.size R rfl rfl 83 R HRW.out HSZ.out rfl HON.out ?_)
      refine bodyPost_ret_by (results_cell_row rfl _ _ w.heap.size 83 R (0, 0) _ rfl (setRow_heap _ _ _ _ _ _ HRW.out) Try.underlying83 rfl HSZ.out) rfl ⟨?_, below_setRow HBEL.out _ _ (Nat.le_refl _)⟩
      rw [← HR.out]; rfl
end Go.Proofs.Ytnhljemnebgekaa

/-
  The method take, called on any state and any block of 64 bytes, returns the plain state behind the block.
-/
namespace Go.Proofs.Ytnhljemnebgekaa
open Go.RowKit Sha
set_option linter.unusedSimpArgs false

def stV (x : St) : Array Value := (u32s x.list).toArray
theorem info45 : (Try.prog.info? 73).map (·.size) = some 8 := by kernel_rfl
theorem count_list : ∀ (l : List Bool) (i : Nat), l[i]? = some false → ((l.set i true).filter id).length = (l.filter id).length + 1
  | [], i, h => by simp at h
  | c :: l, 0, h => by
    obtain rfl : c = false := by simpa using h
    simp
  | c :: l, i + 1, h => by
    have := count_list l i (by simpa using h)
    cases c <;> simp [this]
theorem count_set (listed : Array Bool) (i : Nat) (h : listed.getD i true = false) : ((listed.setIfInBounds i true).toList.filter id).length = (listed.toList.filter id).length + 1 := by
  rw [Array.toList_setIfInBounds]
  refine count_list _ _ ?_
  by_cases hi : i < listed.size
  · rw [Array.getElem?_toList, Array.getElem?_eq_getElem hi]
    simpa [Array.getD, hi] using h
  · simp [Array.getD, hi] at h
section
variable {P : Program} {ops : Array Oper} {Q : Exit → Act → World → Prop} {md : Region.Mode}
/-- In whatever order: what each operation keeps holds behind all of them. -/
theorem wpAny_inv (I : Array Bool → Act → World → Prop)
    (hstep : ∀ listed a w i, I listed a w → i ∈ Region.ready md ops listed → wpOp P ops Q i (fun a' w' => I (listed.setIfInBounds i true) a' w') a w)
    (hend : ∀ listed a w, I listed a w → Region.ready md ops listed = [] → Q .normal a w)
    (hlast : ∀ listed a w, I listed a w → ops.size ≤ (listed.toList.filter id).length → Region.ready md ops listed = []) :
    ∀ (fuel : Nat) (listed : Array Bool) (a : Act) (w : World), ops.size ≤ fuel + (listed.toList.filter id).length → I listed a w → wpAny P md ops Q fuel listed a w
  | 0, listed, a, w, hf, hI => ⟨hlast _ _ _ hI (by omega), hend _ _ _ hI (hlast _ _ _ hI (by omega))⟩
  | fuel + 1, listed, a, w, hf, hI => ⟨fun h => hend _ _ _ hI h, fun i hi =>
      wpOp_mono (fun a' w' h => wpAny_inv I hstep hend hlast fuel _ a' w' (by rw [count_set _ _ (mem_ready.1 hi).1]; omega) h) (hstep _ _ _ _ hI hi)⟩
theorem wp_val {o : Oper} {a : Act} {w w' : World} {K : Act → World → Prop} {v : Value} (h : (execOp a.eval o).run P w = .ok (.value v) w') (hk : K (a.put o.dst v) w') : o.wp P a w K Q := by
  unfold Oper.wp
  rw [h, Oper.upon_value]
  exact hk
theorem wpOp_of {i : Nat} {o : Oper} {a : Act} {w : World} {K : Act → World → Prop} (hi : ops[i]? = some o) (hg : o.guard = none) (h : o.wp P a w K Q) : wpOp P ops Q i K a w := by
  unfold wpOp
  simp [hi, Region.wanted, hg, h]
theorem wp_enter {o : Oper} {a : Act} {w w' : World} {K : Act → World → Prop} {f : FuncId} {args : Array Value} (h : (execOp a.eval o).run P w = .ok (.enter f args) w')
    (hk : Calls P f args w' fun e w'' => ∃ v, e = .returned v ∧ K (a.put o.dst v) w'') : o.wp P a w K Q := by
  unfold Oper.wp
  rw [h, Oper.upon_enter]
  refine hk.mono ?_
  rintro e w'' ⟨v, rfl, hv⟩
  exact hv
end
theorem all_seven : ∀ l0 l1 l2 l3 l4 l5 l6 : Bool, 7 ≤ (#[l0, l1, l2, l3, l4, l5, l6].toList.filter id).length → l0 = true ∧ l1 = true ∧ l2 = true ∧ l3 = true ∧ l4 = true ∧ l5 = true ∧ l6 = true := by
  intro l0 l1 l2 l3 l4 l5 l6 h
  cases l0 <;> cases l1 <;> cases l2 <;> cases l3 <;> cases l4 <;> cases l5 <;> cases l6 <;> simp at h ⊢
theorem step_copy_row {P : Program} {ops : Array Oper} {o : Oper} {a : Act} {w : World} {K : Act → World → Prop} {Q : Exit → Act → World → Prop} {E : Prop} (hgd : o.guard = none) (d s : Operand) (dT sT : TypeId)
    (ho : o.op = .call { callee := .builtin .copy, args := #[d, s], argTypes := #[dT, sT] }) (elem : TypeId) (hu : P.underlying dT = some (.slice elem)) (hsz : (P.info? elem).map (·.size) = some 1)
    (g off dLen dCap : Nat) (ad : Addr) (sLen sCap : Nat) (hd : a.eval d = .slice (some ⟨g, off, none⟩) dLen dCap) (hs : a.eval s = .slice (some ad) sLen sCap)
    (cur : Array Value) (t : TypeId) (hg : w.heap[g]? = some (.cells cur t (0, 0))) (cs : List Value) (hn : cs.length = Nat.min sLen dLen)
    (hsrc : ∀ j v, cs[j]? = some v → w.cell? (ad.add j) = some v) (hfit : off + cs.length ≤ cur.size) (h1 : ∀ v ∈ cs, v.oneCell' = true)
    (new : Array Value) (hnew : (cur.toList.take off ++ cs ++ cur.toList.drop (off + cs.length)).toArray = new)
    (h : K (a.put o.dst (goInt cs.length)) (w.setRow g new)) :
    if Region.wanted o (yielded ops a.tmps) = true then Oper.wp P o a w K Q else E := by
  have hw : Region.wanted o (yielded ops a.tmps) = true := by simp [Region.wanted, hgd]
  rw [if_pos hw]
  subst hnew
  have hrun := run_copy_row (P := P) w dT sT o.type elem g off dLen dCap ad sLen sCap cur t cs hu hsz hg hn hsrc hfit h1
  unfold Oper.wp
  simp only [List.append_assoc] at h hrun
  simp [execOp, ho, resolve, invoke, builtin, hd, hs, hrun, Result.andThen]
  exact h
theorem not_nat (x : W) : bits .xor .u32 4294967295 (x.toNat : Int) = ((~~~x).toNat : Int) := by
  have h := u32_xor_nat 4294967295 x.toNat (by omega) x.isLt
  rw [show ((4294967295 : Nat) : Int) = 4294967295 from rfl] at h
  rw [h, show (4294967295 : Nat) = (BitVec.allOnes 32).toNat from rfl, ← BitVec.toNat_xor, BitVec.allOnes_xor]
theorem row_src {w : World} {b : Nat} {T : TypeId} {l : List W} (h : Row w b T l) (n : Nat) : ∀ j v, (u32s (l.take n))[j]? = some v → w.cell? ((⟨b, 0, none⟩ : Addr).add j) = some v := fun j v hv => by
  rw [Addr.add_mid, Nat.zero_add]
  rw [u32s, List.getElem?_map] at hv
  cases hq : (l.take n)[j]? with
  | none => rw [hq] at hv; simp at hv
  | some x =>
    rw [hq] at hv
    have hx : l[j]? = some x := by
      rw [List.getElem?_take] at hq
      split at hq
      · exact hq
      · simp at hq
    rw [h.cell hx]
    simpa using hv
theorem World.setCell_heap_ne {w : World} {b b' : Nat} (o : Nat) (v : Value) (h : b ≠ b') : (w.setCell ⟨b', o, none⟩ v).heap[b]? = w.heap[b]? := by
  simp [World.setCell, Array.getElem?_modify, Ne.symm h]
theorem great_lit (x : W) (a b c : Int) (h : (a = 6 ∧ b = 11 ∧ c = 25) ∨ (a = 2 ∧ b = 13 ∧ c = 22)) (w : World) :
    Calls Try.prog 61 #[.int .u32 x.toNat, .int .i64 a, .int .i64 b, .int .i64 c] w fun e w' => e = .returned (.int .u32 (great x a.toNat b.toNat c.toNat).toNat) ∧ w = w' := by
  rcases h with ⟨rfl, rfl, rfl⟩ | ⟨rfl, rfl, rfl⟩
  · exact great_6 x w
  · exact great_2 x w
def fr (X : Array Value) (sl : Value) (B : Nat) (v5 v6 v14 v15 v16 : Value) : Act := ⟨#[.agg X, sl, .pointer (some ⟨B, 0, none⟩), undef, .pointer (some ⟨B + 1, 0, none⟩), v5, v6, undef, undef, undef, undef, undef, undef, undef, v14, v15, v16, undef, undef, undef, undef, undef, undef, undef, undef, undef, undef, undef, undef, undef, undef, undef, undef, undef, undef, undef, undef, undef, undef, undef, undef, undef, undef, undef, undef, undef, undef, undef, undef, undef, undef, undef, undef, undef, undef, undef, undef, undef, undef, undef, undef, undef, undef, undef, undef, undef, undef, undef, undef, undef, undef, undef, undef, undef, undef, undef, undef, undef, undef, undef, undef, undef, undef, undef, undef, undef, undef, undef, undef, undef, undef, undef], []⟩
theorem drew_below' (B : Nat) (w : World) : Below B w w.drew := ⟨rfl, rfl, rfl, Nat.le_refl _, fun _ _ => rfl⟩
theorem below_setRow' {B : Nat} {W w : World} (h : Below B W w) (b : Nat) (cs : Array Value) (hb : B ≤ b) : Below B W (w.setRow b cs) :=
  ⟨h.os, h.tape, h.output, by simpa [World.setRow] using h.size, fun k hk => by rw [setRow_other _ _ _ _ (by omega)]; exact h.block k hk⟩
/-- What stands while the words are told and the two arrays are made, in whatever order. -/
def Making (w w1 : World) (X R : Array Value) (sl : Value) (listed : Array Bool) (a : Act) (W : World) : Prop :=
  ∃ (l0 l1 l2 l3 l4 l5 l6 : Bool) (v14 v15 v16 v5 v6 : Value), listed = #[l0, l1, l2, l3, l4, l5, l6] ∧ a = fr X sl w.heap.size v5 v6 v14 v15 v16 ∧
    (l0 = true → v14 = sl) ∧ (l1 = true → v15 = .agg R) ∧ (l2 = true → v16 = .agg X) ∧
    (l3 = true → ∃ b5, v5 = .pointer (some ⟨b5, 0, none⟩) ∧ w.heap.size + 2 ≤ b5 ∧ W.heap[b5]? = some (.cells (if l5 then R else zeroV 64) 83 (0, 0))) ∧
    (l4 = true → ∃ b6, v6 = .pointer (some ⟨b6, 0, none⟩) ∧ w.heap.size + 2 ≤ b6 ∧ W.heap[b6]? = some (.cells (if l6 then X else zeroV 8) 73 (0, 0))) ∧
    W.heap[w.heap.size]? = some (.cells X 73 (0, 0)) ∧ Below (w.heap.size + 2) w1 W ∧ w.heap.size + 2 ≤ W.heap.size ∧ (l5 = true → l3 = true) ∧ (l6 = true → l4 = true)

/-- Words to which others have been added, up to one. -/
def mixed (l m : List W) : Nat → List W
  | 0 => l
  | j + 1 => (mixed l m j).set j ((mixed l m j).getD j 0 + m.getD j 0)
theorem mixed_length (l m : List W) : ∀ j, (mixed l m j).length = l.length
  | 0 => rfl
  | j + 1 => by rw [mixed, List.length_set, mixed_length l m j]
theorem mixed_all (y x : St) : mixed y.list x.list 8 = (y.add x).list := rfl
theorem getD_some (l : List W) (j : Nat) (h : j < l.length) : l[j]? = some (l.getD j 0) := by
  rw [List.getD_eq_getElem?_getD, List.getElem?_eq_getElem h]; rfl
set_option maxRecDepth 100000 in
set_option maxHeartbeats 1500000 in
theorem take_any (x : St) (a : Option Addr) (n cap : Nat) (b : List UInt8) (w : World) (hn : 64 ≤ b.length) (hb : BytesAt w a b) (hnl : b.length = n) (hc : n ≤ cap) (hc2 : cap ≤ maxLen) :
    Calls Try.prog 53 #[.agg (stV x), .slice a n cap] w fun e w' => e = .returned (.agg (stV (take x b))) ∧ Below w.heap.size w w' := by
  have hz57 : ∀ w, (zeroValue 83).run Try.prog w = .ok (.agg (zeroV 64)) w := fun w => by kernel_rfl
  have hz45 : ∀ w, (zeroValue 73).run Try.prog w = .ok (.agg (zeroV 8)) w := fun w => by kernel_rfl
  obtain ⟨X, hX⟩ : ∃ X, stV x = X := ⟨_, rfl⟩
  rw [hX]
  have hXs : X.size = 8 := by rw [← hX]; rfl
  have hX1 : X.all (·.oneCell') = true := by rw [← hX]; exact all_oneCell_toArray (u32s_one _)
  have HX := Lib.hid hX; have HX1 := Lib.hid hX1; have HXs := Lib.hid hXs
  clear hX hX1 hXs
  obtain ⟨R, hR⟩ : ∃ R, (u32s (words b)).toArray = R := ⟨_, rfl⟩
  have hRs : R.size = 64 := by rw [← hR]; simp [u32s, words, upto_length]
  have hR1 : R.all (·.oneCell') = true := by rw [← hR]; exact all_oneCell_toArray (u32s_one _)
  have HR := Lib.hid hR; have HR1 := Lib.hid hR1; have HRs := Lib.hid hRs
  clear hR hR1 hRs
  obtain ⟨w1, hw1⟩ : ∃ w1, (w.alloc (.cells X 73)).alloc (.cells (zeroV 8) 73) = w1 := ⟨_, rfl⟩
  have hb1 : BytesAt w1 a b := by rw [← hw1]; exact hb.below (by go_grown)
  have hw1s : w1.heap.size = w.heap.size + 2 := by rw [← hw1]; simp
  have hx1 : w1.heap[w.heap.size]? = some (.cells X 73 (0, 0)) := by rw [← hw1, heap_alloc_old _ _ (by simp), heap_alloc_new]
  have hr1 : w1.heap[w.heap.size + 1]? = some (.cells (zeroV 8) 73 (0, 0)) := by
    rw [← hw1]; have := heap_alloc_new (w.alloc (.cells X 73)) (.cells (zeroV 8) 73)
    simpa using this
  go_enter Try.func53, Try.ntmps53
  go_wp2_with fail
  go_cut [5, 6] (fun p5 p6 wx => ∃ b5 b6, p5 = .pointer (some ⟨b5, 0, none⟩) ∧ p6 = .pointer (some ⟨b6, 0, none⟩) ∧ w.heap.size + 2 ≤ b5 ∧ w.heap.size + 2 ≤ b6 ∧ Row wx b5 83 (words b) ∧ Row wx b6 73 x.list ∧ wx.heap[w.heap.size]? = some (.cells X 73 (0, 0)) ∧ Below (w.heap.size + 2) w1 wx)
  case first =>
    refine wp_region_any (by kernel_rfl) ?_
    refine wpAny_inv (Making w w1 X R (.slice a n cap)) ?step ?fin ?last _ _ _ _ (by simp) ?start
    case start =>
      exact ⟨false, false, false, false, false, false, false, undef, undef, undef, undef, undef, rfl, rfl, by simp, by simp, by simp, by simp, by simp, hx1, drew_below' _ _, by rw [← hw1s]; exact Nat.le_refl _, by simp, by simp⟩
    case last =>
      rintro listed a' W ⟨l0, l1, l2, l3, l4, l5, l6, v14, v15, v16, v5, v6, rfl, _⟩ hcount
      have hall := all_seven l0 l1 l2 l3 l4 l5 l6 hcount
      obtain ⟨rfl, rfl, rfl, rfl, rfl, rfl, rfl⟩ := hall
      rfl
    case fin =>
      rintro listed a' W ⟨l0, l1, l2, l3, l4, l5, l6, v14, v15, v16, v5, v6, rfl, rfl, f0, f1, f2, f3, f4, hx, hB, hs, f5, f6⟩ hnil
      have hno : ∀ i, i ∉ Region.ready .any _ #[l0, l1, l2, l3, l4, l5, l6] := fun i => by rw [hnil]; simp
      have q0 : l0 = true := by
        cases l0 with
        | true => rfl
        | false =>
          refine absurd (mem_ready.2 ⟨rfl, _, rfl, fun e he hbd => ?_⟩) (hno 0)
          simp at he
          try first
            | (rcases he with rfl | rfl | rfl | rfl | rfl | rfl | rfl | rfl | rfl <;> rfl)
            | (rcases he with rfl | rfl | rfl | rfl | rfl | rfl | rfl | rfl <;> rfl)
            | (subst he; first | rfl | cases hbd)
      subst q0
      have q1 : l1 = true := by
        cases l1 with
        | true => rfl
        | false =>
          refine absurd (mem_ready.2 ⟨rfl, _, rfl, fun e he hbd => ?_⟩) (hno 1)
          simp at he
          try first
            | (rcases he with rfl | rfl | rfl | rfl | rfl | rfl | rfl | rfl | rfl <;> rfl)
            | (rcases he with rfl | rfl | rfl | rfl | rfl | rfl | rfl | rfl <;> rfl)
            | (subst he; first | rfl | cases hbd)
      subst q1
      have q3 : l3 = true := by
        cases l3 with
        | true => rfl
        | false =>
          refine absurd (mem_ready.2 ⟨rfl, _, rfl, fun e he hbd => ?_⟩) (hno 3)
          simp at he
          try first
            | (rcases he with rfl | rfl | rfl | rfl | rfl | rfl | rfl | rfl | rfl <;> rfl)
            | (rcases he with rfl | rfl | rfl | rfl | rfl | rfl | rfl | rfl <;> rfl)
            | (subst he; first | rfl | cases hbd)
      subst q3
      have q4 : l4 = true := by
        cases l4 with
        | true => rfl
        | false =>
          refine absurd (mem_ready.2 ⟨rfl, _, rfl, fun e he hbd => ?_⟩) (hno 4)
          simp at he
          try first
            | (rcases he with rfl | rfl | rfl | rfl | rfl | rfl | rfl | rfl | rfl <;> rfl)
            | (rcases he with rfl | rfl | rfl | rfl | rfl | rfl | rfl | rfl <;> rfl)
            | (subst he; first | rfl | cases hbd)
      subst q4
      have q2 : l2 = true := by
        cases l2 with
        | true => rfl
        | false =>
          refine absurd (mem_ready.2 ⟨rfl, _, rfl, fun e he hbd => ?_⟩) (hno 2)
          simp at he
          try first
            | (rcases he with rfl | rfl | rfl | rfl | rfl | rfl | rfl | rfl | rfl <;> rfl)
            | (rcases he with rfl | rfl | rfl | rfl | rfl | rfl | rfl | rfl <;> rfl)
            | (subst he; first | rfl | cases hbd)
      subst q2
      have q5 : l5 = true := by
        cases l5 with
        | true => rfl
        | false =>
          refine absurd (mem_ready.2 ⟨rfl, _, rfl, fun e he hbd => ?_⟩) (hno 5)
          simp at he
          try first
            | (rcases he with rfl | rfl | rfl | rfl | rfl | rfl | rfl | rfl | rfl <;> rfl)
            | (rcases he with rfl | rfl | rfl | rfl | rfl | rfl | rfl | rfl <;> rfl)
            | (subst he; first | rfl | cases hbd)
      subst q5
      have q6 : l6 = true := by
        cases l6 with
        | true => rfl
        | false =>
          refine absurd (mem_ready.2 ⟨rfl, _, rfl, fun e he hbd => ?_⟩) (hno 6)
          simp at he
          try first
            | (rcases he with rfl | rfl | rfl | rfl | rfl | rfl | rfl | rfl | rfl <;> rfl)
            | (rcases he with rfl | rfl | rfl | rfl | rfl | rfl | rfl | rfl <;> rfl)
            | (subst he; first | rfl | cases hbd)
      subst q6
      obtain ⟨b5, rfl, g5, r5⟩ := f3 rfl
      obtain ⟨b6, rfl, g6, r6⟩ := f4 rfl
      show Exit.then _ _ Exit.normal (fr _ _ _ _ _ _ _ _) _
      unfold fr
      go_wp2_with fail
      go_meet
      refine ⟨b5, b6, rfl, rfl, g5, g6, ?_, ?_, hx, hB⟩
      · rw [Row, HR.out]; exact r5
      · rw [Row, show (u32s x.list).toArray = X from HX.out]; exact r6
    case step =>
      rintro listed a' W i ⟨l0, l1, l2, l3, l4, l5, l6, v14, v15, v16, v5, v6, rfl, rfl, f0, f1, f2, f3, f4, hx, hB, hs, f5, f6⟩ hi
      obtain ⟨hl, o, ho, hd⟩ := mem_ready.1 hi
      match i, ho with
      | 0, ho =>
        have ho0 := ho
        simp only [List.getElem?_toArray, List.getElem?_cons_succ, List.getElem?_cons_zero, Option.some.injEq] at ho
        subst ho
        refine wpOp_of ho0 rfl (wp_val (v := .slice a n cap) (w' := W) rfl ?_)
        exact ⟨true, l1, l2, l3, l4, l5, l6, .slice a n cap, v15, v16, v5, v6, rfl, rfl, fun _ => rfl, f1, f2, f3, f4, hx, hB, hs, f5, f6⟩
      | 1, ho =>
        have ho0 := ho
        simp only [List.getElem?_toArray, List.getElem?_cons_succ, List.getElem?_cons_zero, Option.some.injEq] at ho
        subst ho
        have h0 : l0 = true := by
            exact hd _ (Array.getElem_mem (i := 0) (by decide)) rfl
        obtain rfl := f0 h0
        refine wpOp_of ho0 rfl (wp_enter (f := 59) (args := #[.slice a n cap]) (w' := W) (by go_simp; rfl) ?_)
        refine (words_any _ _ _ b _ hn (hb1.below (by rw [hw1s]; exact hB)) hnl hc hc2).mono ?_
        rintro e w5 ⟨rfl, hBk⟩
        rw [HR.out]
        refine ⟨_, rfl, l0, true, l2, l3, l4, l5, l6, .slice a n cap, _, v16, v5, v6, rfl, rfl, f0, fun _ => rfl, f2, fun h => ?_, fun h => ?_, ?_, hB.trans (hBk.mono hs), Nat.le_trans hs hBk.size, f5, f6⟩
        · obtain ⟨b5, e5, g5, r5⟩ := f3 h
          exact ⟨b5, e5, g5, (hBk.block _ (Array.getElem?_eq_some_iff.1 r5).1).trans r5⟩
        · obtain ⟨b5, e5, g5, r5⟩ := f4 h
          exact ⟨b5, e5, g5, (hBk.block _ (Array.getElem?_eq_some_iff.1 r5).1).trans r5⟩
        · exact (hBk.block _ (Array.getElem?_eq_some_iff.1 hx).1).trans hx
      | 2, ho =>
        have ho0 := ho
        simp only [List.getElem?_toArray, List.getElem?_cons_succ, List.getElem?_cons_zero, Option.some.injEq] at ho
        subst ho
        refine wpOp_of ho0 rfl (wp_load_row 73 _ rfl w.heap.size rfl 73 X (0, 0) _ hx Try.underlying73 rfl (by rw [HXs.out]; exact info45) ?_)
        exact ⟨l0, l1, true, l3, l4, l5, l6, v14, v15, .agg X, v5, v6, rfl, rfl, f0, f1, fun _ => rfl, f3, f4, hx, hB, hs, f5, f6⟩
      | 3, ho =>
        have ho0 := ho
        simp only [List.getElem?_toArray, List.getElem?_cons_succ, List.getElem?_cons_zero, Option.some.injEq] at ho
        subst ho
        have h3 : l3 = false := hl
        have h5 : l5 = false := by cases l5 with | false => rfl | true => exact absurd (f5 rfl) (by rw [h3]; simp)
        subst h5
        refine wpOp_of ho0 rfl (wp_val (v := .pointer (some ⟨W.heap.size, 0, none⟩)) (w' := W.alloc (.cells (zeroV 64) 83)) (by go_simp) ?_)
        refine ⟨l0, l1, l2, true, l4, false, l6, v14, v15, v16, _, v6, rfl, rfl, f0, f1, f2, fun _ => ⟨_, rfl, hs, heap_alloc_new _ _⟩, fun h => ?_, ?_, hB.alloc hs _, by simp; omega, by simp, f6⟩
        · obtain ⟨b5, e5, g5, r5⟩ := f4 h
          exact ⟨b5, e5, g5, (heap_alloc_old _ _ (Array.getElem?_eq_some_iff.1 r5).1).trans r5⟩
        · exact (heap_alloc_old _ _ (Array.getElem?_eq_some_iff.1 hx).1).trans hx
      | 4, ho =>
        have ho0 := ho
        simp only [List.getElem?_toArray, List.getElem?_cons_succ, List.getElem?_cons_zero, Option.some.injEq] at ho
        subst ho
        have h3 : l4 = false := hl
        have h5 : l6 = false := by cases l6 with | false => rfl | true => exact absurd (f6 rfl) (by rw [h3]; simp)
        subst h5
        refine wpOp_of ho0 rfl (wp_val (v := .pointer (some ⟨W.heap.size, 0, none⟩)) (w' := W.alloc (.cells (zeroV 8) 73)) (by go_simp) ?_)
        refine ⟨l0, l1, l2, l3, true, l5, false, v14, v15, v16, v5, _, rfl, rfl, f0, f1, f2, fun h => ?_, fun _ => ⟨_, rfl, hs, heap_alloc_new _ _⟩, ?_, hB.alloc hs _, by simp; omega, f5, by simp⟩
        · obtain ⟨b5, e5, g5, r5⟩ := f3 h
          exact ⟨b5, e5, g5, (heap_alloc_old _ _ (Array.getElem?_eq_some_iff.1 r5).1).trans r5⟩
        · exact (heap_alloc_old _ _ (Array.getElem?_eq_some_iff.1 hx).1).trans hx
      | 5, ho =>
        have ho0 := ho
        simp only [List.getElem?_toArray, List.getElem?_cons_succ, List.getElem?_cons_zero, Option.some.injEq] at ho
        subst ho
        have d3 : l3 = true := hd _ (Array.getElem_mem (i := 0) (by decide)) rfl
        have d1 : l1 = true := hd _ (Array.getElem_mem (i := 1) (by decide)) rfl
        have h5 : l5 = false := hl
        subst h5
        obtain rfl := f1 d1
        obtain ⟨b5, rfl, g5, r5⟩ := f3 d3
        refine wpOp_of ho0 rfl (wp_store_row 83 _ _ rfl b5 R rfl rfl 83 (zeroV 64) r5 (by rw [info57, HRs.out]) (by rw [HRs.out]; simp [zeroV]) HR1.out ?_)
        refine ⟨l0, l1, l2, l3, l4, true, l6, v14, _, v16, _, v6, rfl, rfl, f0, f1, f2, fun _ => ⟨b5, rfl, g5, setRow_heap _ _ _ _ _ _ r5⟩, fun h => ?_, ?_, below_setRow' hB _ _ g5, by simpa [World.setRow] using hs, fun _ => d3, f6⟩
        · obtain ⟨b6, e6, g6, r6⟩ := f4 h
          refine ⟨b6, e6, g6, ?_⟩
          rw [setRow_other _ _ _ _ (by rintro rfl; rw [r5] at r6; simp at r6)]; exact r6
        · rw [setRow_other _ _ _ _ (by omega)]; exact hx
      | 6, ho =>
        have ho0 := ho
        simp only [List.getElem?_toArray, List.getElem?_cons_succ, List.getElem?_cons_zero, Option.some.injEq] at ho
        subst ho
        have d4 : l4 = true := hd _ (Array.getElem_mem (i := 0) (by decide)) rfl
        have d2 : l2 = true := hd _ (Array.getElem_mem (i := 1) (by decide)) rfl
        have h6 : l6 = false := hl
        subst h6
        obtain rfl := f2 d2
        obtain ⟨b6, rfl, g6, r6⟩ := f4 d4
        refine wpOp_of ho0 rfl (wp_store_row 73 _ _ rfl b6 X rfl rfl 73 (zeroV 8) r6 (by rw [info45, HXs.out]) (by rw [HXs.out]; simp [zeroV]) HX1.out ?_)
        refine ⟨l0, l1, l2, l3, l4, l5, true, v14, v15, _, v5, _, rfl, rfl, f0, f1, f2, fun h => ?_, fun _ => ⟨b6, rfl, g6, setRow_heap _ _ _ _ _ _ r6⟩, ?_, below_setRow' hB _ _ g6, by simpa [World.setRow] using hs, f5, fun _ => d4⟩
        · obtain ⟨b5, e5, g5, r5⟩ := f3 h
          refine ⟨b5, e5, g5, ?_⟩
          rw [setRow_other _ _ _ _ (by rintro rfl; rw [r6] at r5; simp at r5)]; exact r5
        · rw [setRow_other _ _ _ _ (by omega)]; exact hx
      | k + 7, ho => simp at ho
  case rest =>
    obtain ⟨b5, b6, rfl, rfl, g5, g6, r5, r6, hx, hB⟩ := hcut
    have R5 := Lib.hid r5; have R6 := Lib.hid r6; have HXR := Lib.hid hx; have HB := Lib.hid hB
    clear r5 r6 hx hB
    have hne : b5 ≠ b6 := by
      rintro rfl
      have h1 := R5.out; have h2 := R6.out
      rw [Row] at h1 h2
      rw [h1] at h2; simp at h2
    go_wp2_with fail
    refine (keys_any _).mono ?_
    rintro e wk ⟨rfl, hBk⟩
    have r5 : Row wk b5 83 (words b) := R5.out.below hBk
    have r6 : Row wk b6 73 x.list := R6.out.below hBk
    have R5' := Lib.hid r5; have R6' := Lib.hid r6
    have hws : w.heap.size + 2 ≤ wc.heap.size := by have := HB.out.size; omega
    have HBW : Hid (Below (w.heap.size + 2) w1 wk) := Lib.hid (HB.out.trans (hBk.mono hws))
    obtain ⟨KV, hKV⟩ : ∃ KV, keysV = KV := ⟨_, rfl⟩
    rw [hKV]
    have HKV := Lib.hid hKV
    clear r5 r6 hBk hKV R5 R6
    go_wp2_with fail
    go_loopw [18] (fun i wr => ∃ k : Nat, k ≤ 64 ∧ i = .int .i64 k ∧ Row wr b6 73 (rounds x b k).list ∧ Row wr b5 83 (words b) ∧ Below (w.heap.size + 2) w1 wr) (fun i _ => 64 - (intOf i).toNat)
    case atStart => exact ⟨0, by omega, rfl, R6'.out, R5'.out, HBW.out⟩
    case round =>
      obtain ⟨k, hk, rfl, hr6, hr5, hbel⟩ := hrel
      obtain ⟨y, hy⟩ : ∃ y, rounds x b k = y := ⟨_, rfl⟩
      rw [hy] at hr6
      obtain ⟨A, B, C, D, E, F, G, H⟩ := y
      have HY := Lib.hid hy; have HR6 := Lib.hid hr6; have HR5 := Lib.hid hr5; have HBEL := Lib.hid hbel
      have c0 : wr.cell? ⟨b6, 0, none⟩ = some (.int .u32 (A.toNat : Int)) := hr6.cell rfl
      have c1 : wr.cell? ⟨b6, 1, none⟩ = some (.int .u32 (B.toNat : Int)) := hr6.cell rfl
      have c2 : wr.cell? ⟨b6, 2, none⟩ = some (.int .u32 (C.toNat : Int)) := hr6.cell rfl
      have c3 : wr.cell? ⟨b6, 3, none⟩ = some (.int .u32 (D.toNat : Int)) := hr6.cell rfl
      have c4 : wr.cell? ⟨b6, 4, none⟩ = some (.int .u32 (E.toNat : Int)) := hr6.cell rfl
      have c5 : wr.cell? ⟨b6, 5, none⟩ = some (.int .u32 (F.toNat : Int)) := hr6.cell rfl
      have c6 : wr.cell? ⟨b6, 6, none⟩ = some (.int .u32 (G.toNat : Int)) := hr6.cell rfl
      have c7 : wr.cell? ⟨b6, 7, none⟩ = some (.int .u32 (H.toNat : Int)) := hr6.cell rfl
      clear hy hr6 hbel
      by_cases hlt : k < 64
      · obtain ⟨kw, hkw⟩ : ∃ kw, keys.getD k 0 = kw := ⟨_, rfl⟩
        obtain ⟨ww, hww⟩ : ∃ ww, (words b).getD k 0 = ww := ⟨_, rfl⟩
        have cw : wr.cell? ⟨b5, k, none⟩ = some (.int .u32 (ww.toNat : Int)) := hr5.cell (by
          have hl : k < (words b).length := by unfold words; rw [upto_length]; exact hlt
          rw [List.getElem?_eq_getElem hl, ← hww, List.getD_eq_getElem?_getD, List.getElem?_eq_getElem hl]; rfl)
        have ck : KV[k]? = some (.int .u32 (kw.toNat : Int)) := by
          have hl : k < keys.length := hlt
          rw [← HKV.out, ← hkw, keysV]
          simp [u32s, List.getElem?_eq_getElem hl]
        have hks : KV.size = 64 := by rw [← HKV.out]; rfl
        have HKW := Lib.hid hkw; have HWW := Lib.hid hww
        clear hkw hww hr5
        have hsg : IntKind.u32.signed = false := rfl
        have hmx : IntKind.u32.max = 4294967295 := rfl
        have hki : (k : Int) < 64 := by omega
        have hk0 : (0 : Int) ≤ (k : Int) := by omega
        have hidx : (Instr.index 83 (.agg KV) (.int .i64 (k : Int))).run Try.prog wr = .ok (.int .u32 (kw.toNat : Int)) wr := by
          have hs43 : (sizeOf 71).run Try.prog wr = .ok 1 wr := by
            have h := info43
            cases hi : Try.prog.info? 71 with
            | none => rw [hi] at h; simp at h
            | some i43 => rw [hi] at h; simp at h; simp [sizeOf, typeInfo, hi, h]
          simp [Instr.index, run_underlying Try.underlying83, asIntOf, hki, hs43, part, go_sem, ck]
          intro hbad; omega
        go_wp2_with fail
        go_quiet (fail)
        go_wp2_with fail
        go_region_held3 (fun w' => w'.cell? ⟨b6, 5, none⟩ = some (.int .u32 (F.toNat : Int)) ∧ w'.cell? ⟨b6, 6, none⟩ = some (.int .u32 (G.toNat : Int)) ∧ w'.cell? ⟨b6, 7, none⟩ = some (.int .u32 (H.toNat : Int)) ∧ w'.cell? ⟨b5, k, none⟩ = some (.int .u32 (ww.toNat : Int)))
          (first | (simp only [World.cell?_drewN, World.cell?_drew]; exact ⟨c5, c6, c7, cw⟩) | exact ⟨c5, c6, c7, cw⟩ | go_keep) (first | (go_at_call 61; refine (great_6 _ _).mono ?_; rintro e _ ⟨rfl, rfl⟩; dsimp only))
        go_wp2_with fail
        go_region_held3 (fun w' => w'.cell? ⟨b6, 1, none⟩ = some (.int .u32 (B.toNat : Int)) ∧ w'.cell? ⟨b6, 2, none⟩ = some (.int .u32 (C.toNat : Int)))
          (first | exact ⟨c1, c2⟩ | go_keep) (first | (go_at_call 61; refine (great_2 _ _).mono ?_; rintro e _ ⟨rfl, rfl⟩; dsimp only))
        go_wp2_with fail
        have e1 : IntKind.u32.wrap (IntKind.u32.wrap (IntKind.u32.wrap (IntKind.u32.wrap ((H.toNat : Int) + ((great E 6 11 25).toNat : Int)) + bits .xor .u32 (bits .and .u32 (E.toNat : Int) (F.toNat : Int)) (bits .and .u32 (bits .xor .u32 4294967295 (E.toNat : Int)) (G.toNat : Int))) + (kw.toNat : Int)) + (ww.toNat : Int)) = ((t1 ⟨A, B, C, D, E, F, G, H⟩ kw ww).toNat : Int) := by
          rw [and_nat, not_nat, and_nat, xor_nat]
          simp only [IntKind.wrap_u32]
          rw [add_nat, add_nat, add_nat, add_nat]; rfl
        have e2 : IntKind.u32.wrap (((great A 2 13 22).toNat : Int) + bits .xor .u32 (bits .xor .u32 (bits .and .u32 (A.toNat : Int) (B.toNat : Int)) (bits .and .u32 (A.toNat : Int) (C.toNat : Int))) (bits .and .u32 (B.toNat : Int) (C.toNat : Int))) = ((t2 ⟨A, B, C, D, E, F, G, H⟩).toNat : Int) := by
          rw [and_nat, and_nat, and_nat, xor_nat, xor_nat]
          simp only [IntKind.wrap_u32]
          rw [add_nat]; rfl
        rw [e1, e2]
        obtain ⟨T1, hT1⟩ : ∃ T, t1 ⟨A, B, C, D, E, F, G, H⟩ kw ww = T := ⟨_, rfl⟩
        obtain ⟨T2, hT2⟩ : ∃ T, t2 ⟨A, B, C, D, E, F, G, H⟩ = T := ⟨_, rfl⟩
        rw [hT1, hT2]
        have HT1 := Lib.hid hT1; have HT2 := Lib.hid hT2
        clear hT1 hT2 e1 e2 hidx ck hks
        have hsrc := row_src HR6.out 7
        go_region_law (refine step_copy_row rfl (.tmp 66) (.tmp 67) 87 87 rfl 71 Try.underlying87 info43 b6 1 7 7 ⟨b6, 0, none⟩ 7 8 (by rfl) (by rfl) (u32s [A, B, C, D, E, F, G, H]).toArray 73 HR6.out (u32s [A, B, C, D, E, F, G]) (by rfl) hsrc (by simp [u32s]) (u32s_one _) (u32s [A, A, B, C, D, E, F, G]).toArray (by rfl) ?_)
        obtain ⟨w9, hw9⟩ : ∃ w9, (wr.drewN (nq + 1 + 1 + 1)).setRow b6 (u32s [A, A, B, C, D, E, F, G]).toArray = w9 := ⟨_, rfl⟩
        have r6 : Row w9 b6 73 [A, A, B, C, D, E, F, G] := by rw [← hw9]; exact setRow_heap _ _ _ _ _ _ HR6.out
        have r5 : Row w9 b5 83 (words b) := by
          rw [← hw9, Row, setRow_other _ _ _ _ hne]; exact HR5.out
        have hB9 : Below (w.heap.size + 2) w1 w9 := by
          have hdn : Below (w.heap.size + 2) w1 (wr.drewN (nq + 1 + 1 + 1)) := HBEL.out.trans ⟨rfl, rfl, rfl, Nat.le_refl _, fun _ _ => rfl⟩
          rw [← hw9]; exact below_setRow' hdn _ _ g6
        have d4 : w9.cell? ⟨b6, 4, none⟩ = some (.int .u32 (D.toNat : Int)) := r6.cell rfl
        have d0 : w9.cell? ⟨b6, 0, none⟩ = some (.int .u32 (A.toNat : Int)) := r6.cell rfl
        have df4 : w9.frozen? ⟨b6, 4, none⟩ = false := r6.frozen 4
        have df0 : w9.frozen? ⟨b6, 0, none⟩ = false := r6.frozen 0
        rw [hw9]
        have R6'' := Lib.hid r6; have R5'' := Lib.hid r5; have HB9 := Lib.hid hB9
        obtain ⟨DT, hDT⟩ : ∃ s, D + T1 = s := ⟨_, rfl⟩
        obtain ⟨TT, hTT⟩ : ∃ s, T1 + T2 = s := ⟨_, rfl⟩
        have s1 := add_nat D T1
        have s2 := add_nat T1 T2
        rw [hDT] at s1
        rw [hTT] at s2
        have HDT := Lib.hid hDT; have HTT := Lib.hid hTT
        clear hDT hTT
        clear r6 r5 hB9 hw9 c0 c1 c2 c3 c4 c5 c6 c7 cw hsrc
        go_wp2_with fail
        go_roundw
        case rel =>
          refine ⟨k + 1, by omega, by go_num, ?_, ?_, (HB9.out.setCell (p := ⟨b6, 4, none⟩) g6 _).setCell (p := ⟨b6, 0, none⟩) g6 _⟩
          · have hr : rounds x b (k + 1) = ⟨TT, A, B, C, DT, E, F, G⟩ := by
              rw [rounds, HY.out, HKW.out, HWW.out, round, HT1.out, HT2.out]; simp only [HDT.out, HTT.out]
            rw [hr]
            exact (R6''.out.set 4 DT).set 0 TT
          · rw [Row, World.setCell_heap_ne _ _ hne, World.setCell_heap_ne _ _ hne]; exact R5''.out
        case measure => simp [intOf]; omega
      · obtain rfl : k = 64 := by omega
        have hX : Row wr w.heap.size 73 x.list := by
          rw [Row, show (u32s x.list).toArray = X from HX.out]
          exact (HBEL.out.block _ (by omega)).trans hx1
        have HXW := Lib.hid hX
        have hr2 : wr.heap[w.heap.size + 1]? = some (.cells (zeroV 8) 73 (0, 0)) := (HBEL.out.block _ (by omega)).trans hr1
        have hb6 : w.heap.size ≠ b6 := by omega
        have hy64 : (⟨A, B, C, D, E, F, G, H⟩ : St) = rounds x b 64 := HY.out.symm
        obtain ⟨y, hye⟩ : ∃ y : St, ⟨A, B, C, D, E, F, G, H⟩ = y := ⟨_, rfl⟩
        rw [hye] at HR6
        have HYE := Lib.hid (hye ▸ hy64 : y = rounds x b 64)
        clear c0 c1 c2 c3 c4 c5 c6 c7 hX hy64 hye HY hr2
        go_wp2_with fail
        go_loopw [79] (fun i wq => ∃ j : Nat, j ≤ 8 ∧ i = .int .i64 j ∧ Row wq b6 73 (mixed y.list x.list j) ∧ Below (w.heap.size + 2) w1 wq) (fun i _ => 8 - (intOf i).toNat)
        case atStart => exact ⟨0, by omega, rfl, HR6.out, HBEL.out⟩
        case round =>
          obtain ⟨j, hj, rfl, hrow, hbel⟩ := hrel
          obtain ⟨M, hM⟩ : ∃ M, mixed y.list x.list j = M := ⟨_, rfl⟩
          have hMl : M.length = 8 := by rw [← hM, mixed_length]; rfl
          rw [hM] at hrow
          have HM := Lib.hid hM; have HROW := Lib.hid hrow; have HBQ := Lib.hid hbel; have HML := Lib.hid hMl
          clear hM hrow hbel hMl
          by_cases hlj : j < 8
          · obtain ⟨p, hp⟩ : ∃ p, M.getD j 0 = p := ⟨_, rfl⟩
            obtain ⟨q, hq⟩ : ∃ q, x.list.getD j 0 = q := ⟨_, rfl⟩
            have cp : wr.cell? ⟨b6, j, none⟩ = some (.int .u32 (p.toNat : Int)) := by
              rw [← hp]; exact HROW.out.cell (getD_some M j (by rw [HML.out]; exact hlj))
            have cq : wr.cell? ⟨w.heap.size, j, none⟩ = some (.int .u32 (q.toNat : Int)) := by
              have hX : Row wr w.heap.size 73 x.list := by
                rw [Row, show (u32s x.list).toArray = X from HX.out]
                exact (HBQ.out.block _ (by omega)).trans hx1
              rw [← hq]; exact hX.cell (getD_some x.list j hlj)
            have ff : wr.frozen? ⟨b6, j, none⟩ = false := HROW.out.frozen j
            obtain ⟨sm, hsm⟩ : ∃ s, p + q = s := ⟨_, rfl⟩
            have s1 := add_nat p q
            rw [hsm] at s1
            have HSM := Lib.hid hsm; have HP := Lib.hid hp; have HQ := Lib.hid hq
            clear hsm hp hq
            have hji : (j : Int) < 8 := by omega
            have hj0 : (0 : Int) ≤ (j : Int) := by omega
            go_wp2_with fail
            go_region
            go_wp2_with fail
            go_roundw
            case rel =>
              refine ⟨j + 1, by omega, by go_num, ?_, (HBQ.out.setCell (p := ⟨b6, j, none⟩) g6 _).drew⟩
              rw [mixed, HM.out, HP.out, HQ.out, HSM.out]
              exact HROW.out.set j sm
            case measure => simp [intOf]; omega
          · obtain rfl : j = 8 := by omega
            have hfin : M = (y.add x).list := by rw [← HM.out, mixed_all]
            rw [hfin] at HROW
            have hr2 : wr.heap[w.heap.size + 1]? = some (.cells (zeroV 8) 73 (0, 0)) := (HBQ.out.block _ (by omega)).trans hr1
            obtain ⟨Y, hY⟩ : ∃ Y, (u32s (y.add x).list).toArray = Y := ⟨_, rfl⟩
            have hrow := HROW.out
            rw [Row, hY] at hrow
            have hys : Y.size = 8 := by rw [← hY]; rfl
            have hone : Y.all (·.oneCell') = true := by rw [← hY]; exact all_oneCell_toArray (u32s_one _)
            have hsz : (Try.prog.info? 73).map (·.size) = some Y.size := by rw [info45, hys]
            have HYY := Lib.hid hY; have HRW := Lib.hid hrow; have HSZ := Lib.hid hsz; have HON := Lib.hid hone; have HR2 := Lib.hid hr2; have HYS := Lib.hid hys
            clear hY hrow hsz hone hr2 hys hfin
            go_wp2_with (first
              | refine wpList_load_row rfl 73 _ rfl b6 rfl 73 Y (0, 0) _ HRW.out Try.underlying73 rfl HSZ.out ?_
              | refine wpList_store_rowTo rfl 73 _ _ rfl rfl (w.heap.size + 1) Y rfl rfl 73 (zeroV 8) HR2.out HSZ.out (by rw [HYS.out]; rfl) HON.out ?_)
            refine bodyPost_ret_by (results_cell_row rfl _ _ (w.heap.size + 1) 73 Y (0, 0) _ rfl (setRow_heap _ _ _ _ _ _ HR2.out) Try.underlying73 rfl HSZ.out) rfl ⟨?_, ?_⟩
            · rw [← HYY.out, HYE.out]; rfl
            · refine below_setRow ?_ _ _ (by omega)
              have h1 : Below w.heap.size w w1 := by rw [← hw1]; go_grown
              exact h1.trans (HBQ.out.mono (by omega))
end Go.Proofs.Ytnhljemnebgekaa

/-
  The generic functions Clone, Grow and Concat of the package slices at bytes, called as Write calls them, return new rows of the same bytes.
-/
namespace Go.Proofs.Ytnhljemnebgekaa
open Go.RowKit Go.Proofs.YtnhljemnebgekaaW.PrintWords Go.Proofs.YtnhljemnebgekaaW.PrintLast Go.Proofs.YtnhljemnebgekaaW.PrintMore Sha
set_option linter.unusedSimpArgs false
/-- Bytes as numbers, and back. -/
def intsB (l : List UInt8) : List Int := l.map fun c => (c.toNat : Int)
def bytesI (l : List Int) : List UInt8 := l.map fun z => UInt8.ofNat z.toNat
theorem intsB_length (l : List UInt8) : (intsB l).length = l.length := by simp [intsB]
theorem intsB_append (a b : List UInt8) : intsB (a ++ b) = intsB a ++ intsB b := by simp [intsB]
theorem bytesI_intsB (l : List UInt8) : bytesI (intsB l) = l := by
  unfold bytesI intsB
  rw [List.map_map]
  conv => rhs; rw [← List.map_id l]
  exact List.map_congr_left fun c _ => by simp
/-- The bytes are read from a on. -/
def Rd (w : World) (a : Option Addr) (l : List UInt8) : Prop := Kd.C (Kd.int .u8) w a l.length (intsB l)
/-- The bytes lie in a row of the call's own. -/
def OwnB (w : World) (base : Nat) (v : Value) (l : List UInt8) : Prop := Kd.R (Kd.int .u8) 5 w base (fun _ => True) v (intsB l)
theorem Rd.below {w w1 : World} {a : Option Addr} {l : List UInt8} (h : Rd w a l) (hb : Below w.heap.size w w1) : Rd w1 a l := Kd.C_below h hb
theorem Rd.nil (w : World) : Rd w none [] := Kd.C_nil _ w
theorem OwnB.nil (w : World) (base : Nat) : OwnB w base (.slice none 0 0) [] := Kd.R_nil _ _ _ _ _
theorem OwnB.reads {w : World} {base : Nat} {v : Value} {l : List UInt8} (h : OwnB w base v l) : ∃ a c, v = .slice a l.length c ∧ l.length ≤ c ∧ Rd w a l := by
  obtain ⟨a, c, e, hl, hr⟩ := Kd.R_reads h
  rw [intsB_length] at e hl hr
  exact ⟨a, c, e, hl, hr⟩
theorem OwnB.below {w w1 : World} {base : Nat} {v : Value} {l : List UInt8} (h : OwnB w base v l) (hb : Below w.heap.size w w1) : OwnB w1 base v l := Kd.R_below h hb
theorem OwnB.lower {w : World} {base base' : Nat} {v : Value} {l : List UInt8} (h : OwnB w base v l) (hb : base' ≤ base) : OwnB w base' v l := Kd.R_lower h hb
theorem Rd.bytesAt {w : World} {a : Option Addr} {l : List UInt8} (h : Rd w a l) : BytesAt w a l := fun hp => by
  have hr := Kd.reads_of_C (enc := Value.int .u8) (d := (0 : Int)) (h1 := fun _ => rfl) h
  obtain ⟨ad, e, hc⟩ := hr.2.2 hp
  obtain ⟨b, off, spot⟩ := ad
  have h0 := hc 0 hp
  have hs : spot = none := by simpa [Addr.add] using World.cell?_spot h0
  subst hs
  refine ⟨b, off, e, ?_, fun i hi => ?_⟩
  · have := World.block_lt_of_cell? w _ h0
    simpa [Addr.add] using this
  · have := hc i hi
    rw [Addr.add_mid] at this
    rw [this]
    simp [intsB, List.getD_eq_getElem?_getD, List.getElem?_eq_getElem hi]
theorem infoB : (Try.prog.info? 5).map (fun i => (i.zero, i.size, i.bytes)) = some (some (.int .u8 0), 1, 1) := by kernel_rfl
/-- A row that is cut to nothing is still a row of its own. -/
theorem OwnB.cut {w : World} {base : Nat} {g n c : Nat} {l : List UInt8} (h : OwnB w base (.slice (some ⟨g, 0, none⟩) n c) l) : OwnB w base (.slice (some ⟨g, 0, none⟩) 0 c) [] := by
  have ho := Kd.own_of_R h
  refine Kd.R_of_own ?_ (fun _ _ => trivial)
  rcases ho.2 with ⟨e, _⟩ | ⟨g', cap, cur, e, hb, hh, hn, hm, hs, _⟩
  · cases e
  · cases e
    exact ⟨by simp [encs, intsB], .inr ⟨_, _, cur, rfl, hb, hh, Nat.zero_le _, hm, hs, by simp [encs, intsB]⟩⟩

set_option maxRecDepth 100000 in
theorem clone_any (ad : Addr) (c : Nat) (l : List UInt8) (w : World) (hl : l.length ≤ 64) (h : Rd w (some ad) l) :
    Calls Try.prog 52 #[.slice (some ad) l.length c] w fun e w' => ∃ v', e = .returned v' ∧ OwnB w' w.heap.size v' l ∧ Below w.heap.size w w' := by
  have q22 : ∀ (w : World) (a : Option Addr) (n c n' c' : Nat), (binOp .eql 22 (.slice a n c) (.slice none n' c')).run Try.prog w = .ok (.bool a.isNone) w := fun w a n c n' c' => Lib.run_eql_slice_nil w _ _ a n c n' c' Try.underlying22
  have H := Aside0.mk h
  clear h
  go_enter Try.func52, Try.ntmps52
  go_wp2_with (at_builtin; refine Kd.R_append_row (Value.int .u8) (0 : Int) (h1 := fun _ => rfl) (w0 := w) w.heap.size rfl _ _ 22 5 (.int .u8 0) 1 rfl Try.underlying22 infoB rfl (by decide) _ [] (intsB l) (some ad) l.length _ (fun _ => True) rfl rfl (fun _ _ => trivial) ?k1 ?k2 ?k3 ?k4 ?k5 ?_)
  case k1 => exact Kd.R_of_own (World.ownsRow_made w #[] 0 (Nat.le_refl _) (Nat.zero_le _) rfl) (fun _ _ => trivial)
  case k2 => exact Kd.C_alloc H.out _
  case k3 => exact below_alloc (Below.refl _ _) _
  case k4 => simp
  case k5 => simp; omega
  intro v1 w1 hR hB _ _
  go_wp2
  go_ret
  exact ⟨v1, rfl, hR, hB⟩

set_option maxRecDepth 100000 in
theorem grow_nil (w : World) : Calls Try.prog 58 #[.slice none 0 0, .int .i64 0] w fun e w' => ∃ v', e = .returned v' ∧ OwnB w' w.heap.size v' [] ∧ Below w.heap.size w w' := by
  go_enter Try.func58, Try.ntmps58
  go_wp2
  go_ret
  exact ⟨_, rfl, OwnB.nil _ _, Below.refl _ _⟩
set_option maxRecDepth 100000 in
theorem grow_any (n : Nat) (h0 : 0 < n) (hn : n ≤ 140737488351232) (w : World) : Calls Try.prog 58 #[.slice none 0 0, .int .i64 n] w fun e w' => ∃ v', e = .returned v' ∧ OwnB w' w.heap.size v' [] ∧ Below w.heap.size w w' := by
  go_enter Try.func58, Try.ntmps58
  go_wp2_with (at_builtin; refine Kd.R_append_zeros (Kd.int .u8) (w0 := w) w.heap.size rfl _ _ 22 3 5 (.int .u8 0) 1 rfl Try.underlying22 Try.underlying3 infoB rfl (by decide) (by decide) (.slice none 0 0) [] 0 (n : Int) (fun _ => True) rfl rfl ?k1 (fun _ _ => trivial) ?k2 ?k3 ?k4 ?k5 ?k6 ?_)
  case k1 => rfl
  case k2 => exact Kd.R_nil _ _ _ _ _
  case k3 => omega
  case k4 => exact Below.refl _ _
  case k5 => exact Nat.le_refl _
  case k6 => simp; omega
  intro v1 w1 hR hB _ _
  have hR2 : OwnB w1 w.heap.size v1 (List.replicate n 0) := by
    unfold OwnB intsB
    simpa using hR
  clear hR
  have ho := (Kd.own_of_R hR2).2
  rw [intsB_length, List.length_replicate] at ho
  rcases ho with ⟨_, e⟩ | ⟨g, cap, cur, rfl, _⟩
  · omega
  have H := Lib.hid hR2.cut
  clear hR2
  have HB := Lib.hid hB
  clear hB
  go_wp2
  go_ret
  exact ⟨_, rfl, H.out, HB.out⟩
set_option maxRecDepth 100000 in
set_option maxHeartbeats 1000000 in
theorem concat_any (g c : Nat) (a1 a2 : Option Addr) (c1 c2 : Nat) (l1 l2 : List UInt8) (w : World) (hl : l1.length + l2.length ≤ 140737488351232) (h1 : Rd w a1 l1) (h2 : Rd w a2 l2)
    (hg1 : w.cell? ⟨g, 0, none⟩ = some (.slice a1 l1.length c1)) (hg2 : w.cell? ⟨g, 1, none⟩ = some (.slice a2 l2.length c2)) (hlt : g < w.heap.size) :
    Calls Try.prog 51 #[.slice (some ⟨g, 0, none⟩) 2 c] w fun e w' => ∃ v', e = .returned v' ∧ OwnB w' w.heap.size v' (l1 ++ l2) ∧ Below w.heap.size w w' := by
  have H1 := Aside0.mk h1
  have H2 := Aside0.mk h2
  clear h1 h2
  obtain ⟨n1, hn1⟩ : ∃ n, l1.length = n := ⟨_, rfl⟩
  obtain ⟨n2, hn2⟩ : ∃ n, l2.length = n := ⟨_, rfl⟩
  rw [hn1] at hg1 hl
  rw [hn2] at hg2 hl
  have N1 := Lib.hid hn1
  have N2 := Lib.hid hn2
  clear hn1 hn2
  go_enter Try.func51, Try.ntmps51
  go_wp2_with fail
  go_loop [3, 11] (fun s i => ∃ k m : Nat, k ≤ 2 ∧ i = .int .i64 k ∧ s = .int .i64 m ∧ m = (if k = 0 then 0 else if k = 1 then n1 else n1 + n2)) (fun _ i => 2 - (intOf i).toNat)
  case atStart => exact ⟨0, 0, by omega, rfl, rfl, rfl⟩
  case round =>
    obtain ⟨k, m, hk, rfl, rfl, hm⟩ := hrel
    by_cases hk0 : k = 0
    · subst hk0
      have hm2 : m = 0 := hm
      clear hm
      subst hm2
      go_wp2_with fail
      go_round
      case rel => exact ⟨1, n1, by omega, by go_num, by go_num, by simp⟩
      case measure => simp [intOf]
    · by_cases hk1 : k = 1
      · subst hk1
        have hm2 : m = n1 := by simpa using hm
        clear hm
        subst hm2
        go_wp2_with fail
        go_round
        case rel => exact ⟨2, m + n2, by omega, by go_num, by go_num, by simp⟩
        case measure => simp [intOf]
      · obtain rfl : k = 2 := by omega
        have hm2 : m = n1 + n2 := by simpa using hm
        clear hm
        subst hm2
        have hgrow : Calls Try.prog 58 #[.slice none 0 0, .int .i64 ((n1 + n2 : Nat) : Int)] w fun e w' => ∃ v', e = .returned v' ∧ OwnB w' w.heap.size v' [] ∧ Below w.heap.size w w' := by
          by_cases hz : n1 + n2 = 0
          · rw [hz]; exact grow_nil w
          · exact grow_any (n1 + n2) (by omega) hl w
        have HGR := Lib.hid hgrow
        clear hgrow
        go_wp2_with fail
        refine HGR.out.mono ?_
        rintro e w1 ⟨v1, rfl, ho, hb⟩
        obtain ⟨a0, c0, rfl, _, _⟩ := ho.reads
        have HO := Lib.hid ho
        have HB := Lib.hid hb
        clear ho hb
        go_wp2_with fail
        go_loopw [6, 27] (fun v i wr => ∃ (k : Nat) (vv : Value), k ≤ 2 ∧ i = .int .i64 k ∧ v = vv ∧ OwnB wr w.heap.size vv (if k = 0 then [] else if k = 1 then l1 else l1 ++ l2) ∧ Below w.heap.size w wr) (fun _ i _ => 2 - (intOf i).toNat)
        case atStart => exact ⟨0, _, by omega, rfl, rfl, HO.out, HB.out⟩
        case round =>
          obtain ⟨k, v, hk, rfl, rfl, ho, hb⟩ := hrel
          have hc1 : wr.cell? ⟨g, 0, none⟩ = some (.slice a1 n1 c1) := (hb.cell (p := ⟨g, 0, none⟩) hlt).trans hg1
          have hc2 : wr.cell? ⟨g, 1, none⟩ = some (.slice a2 n2 c2) := (hb.cell (p := ⟨g, 1, none⟩) hlt).trans hg2
          by_cases hk0 : k = 0
          · subst hk0
            simp only [if_true] at ho
            have HO2 := Lib.hid ho
            have HB2 := Lib.hid hb
            clear ho hb
            go_wp2_with (at_builtin; refine Kd.R_append_row (Value.int .u8) (0 : Int) (h1 := fun _ => rfl) (w0 := w) w.heap.size rfl _ _ 22 5 (.int .u8 0) 1 rfl Try.underlying22 infoB rfl (by decide) _ [] (intsB l1) a1 n1 c1 (fun _ => True) rfl rfl (fun _ _ => trivial) ?k1 ?k2 ?k3 ?k4 ?k5 ?_)
            case k1 => exact HO2.out
            case k2 => rw [← N1.out]; exact Kd.C_below H1.out HB2.out
            case k3 => exact HB2.out
            case k4 => exact HB2.out.size
            case k5 => simp; omega
            intro v1 w2 hR hB2 _ _
            have HR := Lib.hid hR
            have HB3 := Lib.hid hB2
            clear hR hB2
            go_wp2_with fail
            go_roundw
            case rel => exact ⟨1, _, by omega, by go_num, rfl, HR.out, HB3.out⟩
            case measure => simp [intOf]
          · by_cases hk1 : k = 1
            · subst hk1
              simp only [if_true, if_false, Nat.one_ne_zero] at ho
              have HO2 := Lib.hid ho
              have HB2 := Lib.hid hb
              clear ho hb
              go_wp2_with (at_builtin; refine Kd.R_append_row (Value.int .u8) (0 : Int) (h1 := fun _ => rfl) (w0 := w) w.heap.size rfl _ _ 22 5 (.int .u8 0) 1 rfl Try.underlying22 infoB rfl (by decide) _ (intsB l1) (intsB l2) a2 n2 c2 (fun _ => True) rfl rfl (fun _ _ => trivial) ?k1 ?k2 ?k3 ?k4 ?k5 ?_)
              case k1 => exact HO2.out
              case k2 => rw [← N2.out]; exact Kd.C_below H2.out HB2.out
              case k3 => exact HB2.out
              case k4 => exact HB2.out.size
              case k5 => rw [intsB_length, N1.out]; omega
              intro v1 w2 hR hB2 _ _
              rw [← intsB_append] at hR
              have HR := Lib.hid hR
              have HB3 := Lib.hid hB2
              clear hR hB2
              go_wp2_with fail
              go_roundw
              case rel => exact ⟨2, _, by omega, by go_num, rfl, HR.out, HB3.out⟩
              case measure => simp [intOf]
            · obtain rfl : k = 2 := by omega
              simp only [if_false, show ¬ (2 = 0) by omega, show ¬ (2 = 1) by omega] at ho
              have HO2 := Lib.hid ho
              have HB2 := Lib.hid hb
              clear ho hb
              go_wp2_with fail
              go_ret
              exact ⟨_, rfl, HO2.out, HB2.out⟩
end Go.Proofs.Ytnhljemnebgekaa

/-
  The iterator Chunk of the package slices at bytes, over any row in memory, yields the row's pieces of 64 bytes, one after another, the last one shorter.
-/
namespace Go.Proofs.Ytnhljemnebgekaa
open Go.RowKit Go.Shelf Sha
attribute [local go_sem] Oper.semAt_some
set_option linter.unusedSimpArgs false

/-- A piece's number: it begins within the row. -/
abbrev Ck (L : Nat) := { k : Nat // 64 * k < L }
def ckLen (L k : Nat) : Nat := min 64 (L - 64 * k)
def encK (g L : Nat) (x : Ck L) : Array Value := #[.slice (some ⟨g, 64 * x.1, none⟩) (ckLen L x.1) (ckLen L x.1)]
/-- Two blocks lie as they lay. -/
def Keep2 (b1 b2 : Nat) (W W' : World) : Prop := W.heap.size ≤ W'.heap.size ∧ W'.heap[b1]? = W.heap[b1]? ∧ W'.heap[b2]? = W.heap[b2]?
theorem Keep2.refl (b1 b2 : Nat) (W : World) : Keep2 b1 b2 W W := ⟨Nat.le_refl _, rfl, rfl⟩
theorem Keep2.trans {b1 b2 : Nat} {A B C : World} (h : Keep2 b1 b2 A B) (k : Keep2 b1 b2 B C) : Keep2 b1 b2 A C := ⟨Nat.le_trans h.1 k.1, k.2.1.trans h.2.1, k.2.2.trans h.2.2⟩
theorem cell_of_heap {W W' : World} {b o : Nat} (h : W'.heap[b]? = W.heap[b]?) : W'.cell? ⟨b, o, none⟩ = W.cell? ⟨b, o, none⟩ := by
  unfold World.cell?; rw [show W'.heap[(⟨b, o, none⟩ : Addr).block]? = W.heap[(⟨b, o, none⟩ : Addr).block]? from h]
theorem Keep2.grown {b1 b2 : Nat} {W W' : World} {row : Option Nat} (h : W.grownBy W' row) (h1 : b1 < W.heap.size) (h2 : b2 < W.heap.size) (r1 : some b1 ≠ row) (r2 : some b2 ≠ row) : Keep2 b1 b2 W W' := ⟨h.size, h.block b1 h1 r1, h.block b2 h2 r2⟩
theorem Keep2.putObj {b1 b2 : Nat} {B : Nat} (h1 : b1 < B) (h2 : b2 < B) (W : World) (l : Nat) (o o' : Obj) (hl : B ≤ l) (_ : W.heap[l]? = some o) (_ : o.isCells = false) (_ : o.isWalk = false) : Keep2 b1 b2 W (W.putObj l o') :=
  ⟨by simp [World.putObj], World.putObj_heap_other (by omega), World.putObj_heap_other (by omega)⟩
def many (L : Nat) : Nat := (L + 63) / 64
def AllK (L : Nat) (ys : List (Ck L)) : Prop := ys.map (·.1) = List.range (many L)
def FrontK (L : Nat) (pre : List (Ck L)) : Prop := pre.map (·.1) = List.range pre.length

set_option maxRecDepth 100000 in
set_option maxHeartbeats 1000000 in
theorem chunk1_in (n : Nat) (hn : 1 ≤ n) (l Bs Bn g : Nat) (L c : Nat) (a : Option Addr) (ha : 0 < L → a = some ⟨g, 0, none⟩) (hL : L ≤ 140737488351232) (hLc : L ≤ c) (hc9 : c ≤ 9223372036854775807) (J Jx : List (Ck L) → World → Prop)
    (hY : ∀ pre x W, J pre W → pre.length < L + 1 → YieldAt Fence.wide (n - 1) Try.prog l (encK g L x) W fun e W' =>
      (e = .returned (.bool true) ∧ J (pre ++ [x]) W' ∧ Keep2 Bs Bn W W') ∨ (e = .returned (.bool false) ∧ Jx (pre ++ [x]) W'))
    (hJ : ∀ p W, J p W → J p W.drew)
    (W : World) (hBs : W.cell? ⟨Bs, 0, none⟩ = some (.slice a L c)) (hBn : W.cell? ⟨Bn, 0, none⟩ = some (.int .i64 64)) (h0 : J [] W) :
    CallsIn Fence.wide n Try.prog 40 #[.func (.yield l) #[] #[], .pointer (some ⟨Bs, 0, none⟩), .pointer (some ⟨Bn, 0, none⟩)] W fun e W' => (∃ v, e = .returned v) ∧
      ((∃ ys, AllK L ys ∧ J ys W') ∨ (∃ pre, FrontK L pre ∧ Jx pre W')) := by
  refine callsIn_of_wp Try.func40 rfl trivial ?_ rfl
  simp only [Try.ntmps40, List.size_toArray, List.length_cons, List.length_nil, Nat.reduceAdd, Nat.reduceSub, Array.replicate_succ, Array.replicate_zero, List.push_toArray, List.append_toArray, List.nil_append, List.cons_append]
  gi_wp2_with fail
  gi_loopw [4] (fun p wr => ∃ (pre : List (Ck L)), FrontK L pre ∧ 64 * pre.length < L + 64 ∧ p = .int .i64 (64 * pre.length : Nat) ∧ J pre wr ∧ wr.cell? ⟨Bs, 0, none⟩ = some (.slice a L c) ∧ wr.cell? ⟨Bn, 0, none⟩ = some (.int .i64 64))
    (fun p wr => L + 64 - (intOf p).toNat)
  case atStart => exact ⟨[], rfl, by simp, rfl, h0, hBs, hBn⟩
  case round =>
    obtain ⟨pre, hF, hlt, rfl, hJp, hcs, hcn⟩ := hrel
    obtain ⟨k, hk⟩ : ∃ k, pre.length = k := ⟨_, rfl⟩
    rw [hk] at hlt ⊢
    have HF := Lib.hid hF; have HJ := Lib.hid hJp; have HK := Lib.hid hk; have HY := Lib.hid hY; have HJD := Lib.hid hJ
    clear hF hJp hk h0 hY hJ hBs hBn
    obtain ⟨i, hi⟩ : ∃ i, 64 * k = i := ⟨_, rfl⟩
    rw [hi] at hlt ⊢
    have HI := Lib.hid hi
    clear hi
    by_cases hend : i < L
    · obtain rfl := ha (by omega)
      obtain ⟨m, hmk⟩ : ∃ m, ckLen L k = m := ⟨_, rfl⟩
      have hmm : min (64 : Int) ((L - i : Nat) : Int) = (m : Int) := by
        have := HI.out
        rw [← hmk]; unfold ckLen; omega
      have hm1 : 1 ≤ m := by have := HI.out; rw [← hmk]; unfold ckLen; omega
      have hm64 : m ≤ 64 := by rw [← hmk]; unfold ckLen; omega
      have hmL : i + m ≤ L := by have := HI.out; rw [← hmk]; unfold ckLen; omega
      have HMM := Lib.hid hmm; have HMK := Lib.hid hmk
      clear hmm hmk
      gi_wp2_with fail
      gi_region
      rw [HMM.out]
      have hcs2 : wr.drew.cell? ⟨Bs, 0, none⟩ = some (.slice (some ⟨g, 0, none⟩) L c) := hcs
      have hcn2 : wr.drew.cell? ⟨Bn, 0, none⟩ = some (.int .i64 64) := hcn
      obtain ⟨fn, tmps, assign, body, hy, hR⟩ := HY.out pre ⟨k, by have := HI.out; omega⟩ wr.drew (HJD.out _ _ HJ.out) (by have := HI.out; have := HK.out; omega)
      simp only [encK, HI.out, HMK.out] at hy
      have HRR := Lib.hid hR; clear hR
      gi_wp2_with fail
      refine HRR.out.mono ?_
      rintro e W3 (⟨rfl, hJ3, hk3⟩ | ⟨rfl, hJx3⟩)
      · have hcs3 := (cell_of_heap (o := 0) hk3.2.1).trans hcs2
        have hcn3 := (cell_of_heap (o := 0) hk3.2.2).trans hcn2
        have HJ3 := Lib.hid hJ3; clear hJ3 hk3 hcs hcn hcs2 hcn2
        gi_wp2_with fail
        go_roundw
        case rel =>
          have hki := HI.out
          have hkk := HK.out
          refine ⟨pre ++ [⟨k, by omega⟩], ?_, ?_, ?_, HJ3.out, hcs3, hcn3⟩
          · unfold FrontK
            rw [List.map_append, HF.out, List.length_append, hkk]
            simp [List.range_succ]
          · simp; omega
          · have e : ∀ y : Ck L, (pre ++ [y]).length = k + 1 := fun y => by rw [List.length_append, hkk]; rfl
            rw [e]
            exact congrArg (Value.int .i64) (by omega)
        case measure => simp [intOf]; omega
      · have HJ3 := Lib.hid hJx3; clear hJx3
        gi_wp2_with fail
        refine bodyPost_ret (results_none rfl _ _ _) rfl ?_
        refine ⟨⟨_, rfl⟩, .inr ⟨pre ++ [⟨k, by have := HI.out; omega⟩], ?_, HJ3.out⟩⟩
        unfold FrontK
        rw [List.map_append, HF.out, List.length_append, HK.out]
        simp [List.range_succ]
    · gi_wp2_with fail
      go_end0
      refine ⟨⟨_, rfl⟩, .inl ⟨pre, ?_, HJ.out⟩⟩
      unfold AllK
      rw [HF.out, HK.out]
      have hm : many L = k := by
        unfold many
        have := HI.out
        omega
      rw [hm]
end Go.Proofs.Ytnhljemnebgekaa

/-
  The method Write of a Hasher, called on a Hasher in memory and any row of bytes, takes each whole block and keeps the rest.
-/
namespace Go.Proofs.Ytnhljemnebgekaa
open Go.RowKit Go.Shelf Sha Go.Proofs.YtnhljemnebgekaaW.PrintWords
attribute [local go_sem] Oper.semAt_some
set_option linter.unusedSimpArgs false

/-- A Hasher's ten cells. -/
def hashV (x : St) (left : Value) (n : Nat) : Array Value := (u32s x.list ++ [left, .int .u64 (n : Int)]).toArray
def HashAt (W : World) (p : Nat) (x : St) (left : Value) (n : Nat) : Prop := W.heap[p]? = some (.cells (hashV x left n) 75 (0, 0))
theorem HashAt.cell {W : World} {p : Nat} {x : St} {left : Value} {n : Nat} (h : HashAt W p x left n) {j : Nat} {v : Value} (hv : (hashV x left n)[j]? = some v) : W.cell? ⟨p, j, none⟩ = some v := by
  rw [cell_of_row W p j _ 75 (0, 0) h]; exact hv
theorem HashAt.frozen {W : World} {p : Nat} {x : St} {left : Value} {n : Nat} (h : HashAt W p x left n) (j : Nat) : W.frozen? ⟨p, j, none⟩ = false := frozen_of_row W p j _ 75 h
theorem HashAt.lt {W : World} {p : Nat} {x : St} {left : Value} {n : Nat} (h : HashAt W p x left n) : p < W.heap.size := (Array.getElem?_eq_some_iff.1 h).1
theorem HashAt.of_heap {W W' : World} {p : Nat} {x : St} {left : Value} {n : Nat} (h : HashAt W p x left n) (e : W'.heap[p]? = W.heap[p]?) : HashAt W' p x left n := e.trans h
theorem HashAt.below {W W' : World} {p : Nat} {x : St} {left : Value} {n : Nat} (h : HashAt W p x left n) (hb : Below W.heap.size W W') : HashAt W' p x left n := h.of_heap (hb.block p h.lt)
theorem heap_setCell (W : World) (p j : Nat) (v : Value) (cs : Array Value) (T : TypeId) (h : W.heap[p]? = some (.cells cs T (0, 0))) : (W.setCell ⟨p, j, none⟩ v).heap[p]? = some (.cells (cs.setIfInBounds j v) T (0, 0)) := by
  rw [setCell_eq_setRow W p j _ T (0, 0) _ h, setRow_heap _ _ _ _ _ _ h]
theorem HashAt.setN {W : World} {p : Nat} {x : St} {left : Value} {n m : Nat} (h : HashAt W p x left n) : HashAt (W.setCell ⟨p, 9, none⟩ (.int .u64 (m : Int))) p x left m := by
  unfold HashAt; rw [heap_setCell _ _ _ _ _ _ h]; rfl
theorem HashAt.setLeft {W : World} {p : Nat} {x : St} {left v : Value} {n : Nat} (h : HashAt W p x left n) : HashAt (W.setCell ⟨p, 8, none⟩ v) p x v n := by
  unfold HashAt; rw [heap_setCell _ _ _ _ _ _ h]; rfl
theorem grownBy_set (W : World) (p j : Nat) (v : Value) : W.grownBy (W.setCell ⟨p, j, none⟩ v) (some p) :=
  ⟨rfl, rfl, rfl, by simp [World.setCell], fun k _ hk => World.setCell_heap_ne j v (by rintro rfl; exact hk rfl)⟩
theorem grownBy_below {W W' : World} {row : Option Nat} (h : Below W.heap.size W W') : W.grownBy W' row := ⟨h.os, h.tape, h.output, h.size, fun k hk _ => h.block k hk⟩
theorem grownBy_trans {A B C : World} {row : Option Nat} (h : A.grownBy B row) (k : B.grownBy C row) : A.grownBy C row :=
  ⟨k.os.trans h.os, k.tape.trans h.tape, k.output.trans h.output, Nat.le_trans h.size k.size, fun i hi hr => (k.block i (Nat.lt_of_lt_of_le hi h.size) hr).trans (h.block i hi hr)⟩
theorem Rd.cells {w : World} {a : Option Addr} {l : List UInt8} (h : Rd w a l) (hp : 0 < l.length) : ∃ b off, a = some ⟨b, off, none⟩ ∧ b < w.heap.size ∧ ∀ i (h : i < l.length), w.cell? ⟨b, off + i, none⟩ = some (.int .u8 (l[i].toNat : Int)) := h.bytesAt hp
theorem Rd.of_cells {w w1 : World} {a : Option Addr} {l : List UInt8} (h : Rd w a l) (hk : ∀ ad v, w.cell? ad = some v → (∃ b, a = some b ∧ ad.block = b.block) → w1.cell? ad = some v) : Rd w1 a l := by
  have hr := Kd.reads_of_C (enc := Value.int .u8) (d := (0 : Int)) (h1 := fun _ => rfl) h
  refine Kd.C_of_reads (d := (0 : Int)) ⟨hr.1, hr.2.1, fun hp => ?_⟩
  obtain ⟨ad, e, hc⟩ := hr.2.2 hp
  refine ⟨ad, e, fun j hj => hk _ _ (hc j hj) ⟨ad, e, ?_⟩⟩
  unfold Addr.add; split <;> rfl
theorem Rd.grown {w w1 : World} {a : Option Addr} {l : List UInt8} {row : Option Nat} (h : Rd w a l) (hg : w.grownBy w1 row) (hne : ∀ b, a = some b → 0 < l.length → some b.block ≠ row) : Rd w1 a l := by
  by_cases hp : 0 < l.length
  · exact h.of_cells fun ad v hv hb => by
      obtain ⟨b, e, hb⟩ := hb
      rw [World.cell?_of_block (hg.block ad.block (World.block_lt_of_cell? w ad hv) (by rw [hb]; exact hne b e hp))]; exact hv
  · exact ⟨h.1, h.2.1, fun h2 => absurd h2 hp⟩

set_option maxRecDepth 100000 in
theorem chunk_any (a : Option Addr) (n c : Nat) (w : World) : Calls Try.prog 27 #[.slice a n c, .int .i64 64] w fun e w' => e = .returned (.func (.func 40) #[] #[.pointer (some ⟨w.heap.size, 0, none⟩), .pointer (some ⟨w.heap.size + 1, 0, none⟩)]) ∧ (w.alloc (.cells #[.slice a n c] 22)).alloc (.cells #[.int .i64 64] 3) = w' := by
  have hmf : ∀ (fn : Fn) (first cap : Array Value) (w : World), (Instr.makeFunc fn first cap).run Try.prog w = .ok (.func fn first cap) w := fun _ _ _ _ => rfl
  go_enter Try.func27, Try.ntmps27
  go_wp2_with fail
  go_ret
  exact ⟨rfl, rfl⟩
/-- A row's form: none, or at the begin of a block of the call's own. -/
theorem OwnB.form {w : World} {base : Nat} {a : Option Addr} {n c : Nat} {l : List UInt8} (h : OwnB w base (.slice a n c) l) : c ≤ 9223372036854775807 ∧ (0 < l.length → ∃ g, a = some ⟨g, 0, none⟩) ∧ (∀ b, a = some b → base ≤ b.block ∧ b.block < w.heap.size) := by
  have ho := (Kd.own_of_R h).2
  rcases ho with ⟨e, e2⟩ | ⟨g, cap, cur, e, hb, hh, hn, hm, _⟩
  · cases e
    refine ⟨by omega, fun hp => ?_, fun b e => by cases e⟩
    rw [intsB_length] at e2; omega
  · cases e
    refine ⟨by simpa [maxLen] using hm, fun _ => ⟨g, rfl⟩, fun b e => ?_⟩
    cases e
    exact ⟨hb, (Array.getElem?_eq_some_iff.1 hh).1⟩
theorem kept_cells {W W' : World} {row : Option Nat} (hg : W.grownBy W' row) (hr : ∀ r, row = some r → ∃ o : Obj, W.heap[r]? = some o ∧ o.isCells = false) {b : Nat} {cs : Array Value} {T : TypeId} {m : Nat × Nat} (h : W.heap[b]? = some (.cells cs T m)) : W'.heap[b]? = W.heap[b]? := by
  refine hg.block b (Array.getElem?_eq_some_iff.1 h).1 (fun e => ?_)
  obtain ⟨o, ho, hc⟩ := hr b e.symm
  rw [h] at ho; cases ho
  simp [Obj.isCells] at hc
theorem OwnB.kept {W W' : World} {row : Option Nat} {base : Nat} {v : Value} {l : List UInt8} (h : OwnB W base v l) (hg : W.grownBy W' row) (hne : ∀ k, v.ownBlock = some k → some k ≠ row) : OwnB W' base v l :=
  Kd.R_of_own ((Kd.own_of_R h).kept hg (by
    cases hv : v.ownBlock with
    | none => exact .inl rfl
    | some k => exact .inr (hne k hv))) (fun _ _ => trivial)
theorem OwnB.walk {W W' : World} {row : Option Nat} {base : Nat} {v : Value} {l : List UInt8} (h : OwnB W base v l) (hg : W.grownBy W' row) (hr : ∀ r, row = some r → ∃ o : Obj, W.heap[r]? = some o ∧ o.isCells = false) : OwnB W' base v l :=
  h.kept hg fun k hk e => by
    obtain ⟨cells, hc⟩ := own_typed (Kd.own_of_R h) k hk
    obtain ⟨o, ho, hi⟩ := hr k e.symm
    rw [hc] at ho; cases ho
    simp [Obj.isCells] at hi
theorem Rd.walk {W W' : World} {row : Option Nat} {a : Option Addr} {l : List UInt8} (h : Rd W a l) (hg : W.grownBy W' row) (hr : ∀ r, row = some r → ∃ o : Obj, W.heap[r]? = some o ∧ o.isCells = false) : Rd W' a l :=
  h.of_cells fun _ _ hv _ => cell_kept hv hg hr
theorem grownBy_walk {w W W' : World} {row keep : Option Nat} (h : w.grownBy W keep) (hg : W.grownBy W' row) (hr : ∀ r, row = some r → w.heap.size ≤ r) : w.grownBy W' keep :=
  ⟨hg.os.trans h.os, hg.tape.trans h.tape, hg.output.trans h.output, Nat.le_trans h.size hg.size, fun k hk hne => (hg.block k (Nat.lt_of_lt_of_le hk h.size) (fun e => by have := hr k e.symm; omega)).trans (h.block k hk hne)⟩
/-- The state behind some pieces. -/
def stOf (x : St) (d : List UInt8) (pre : List (Ck d.length)) : St := pre.foldl (fun s y => take s ((d.drop (64 * y.1)).take 64)) x
theorem stOf_snoc (x : St) (d : List UInt8) (pre : List (Ck d.length)) (y : Ck d.length) : stOf x d (pre ++ [y]) = take (stOf x d pre) ((d.drop (64 * y.1)).take 64) := by simp [stOf]
theorem stOf_run (x : St) (d : List UInt8) (pre : List (Ck d.length)) (n : Nat) (h : pre.map (·.1) = List.range n) : stOf x d pre = run x d n := by
  have e : stOf x d pre = (pre.map (·.1)).foldl (fun s k => take s ((d.drop (64 * k)).take 64)) x := by unfold stOf; rw [List.foldl_map]
  rw [e, h]
  clear e h
  induction n with
  | zero => rfl
  | succ n ih => rw [List.range_succ, List.foldl_append, ih]; rfl
def FullK {L : Nat} (pre : List (Ck L)) : Prop := ∀ y ∈ pre, ckLen L y.1 = 64

/-- The state's eight cells, written one after another. -/
def set8 (W : World) (p : Nat) (tA tB tC tD tE tF tG tH : Sha.W) : World :=
  (((((((W.setCell ⟨p, 0, none⟩ (.int .u32 (tA.toNat : Int))).setCell ⟨p, 1, none⟩ (.int .u32 (tB.toNat : Int))).setCell ⟨p, 2, none⟩ (.int .u32 (tC.toNat : Int))).setCell ⟨p, 3, none⟩ (.int .u32 (tD.toNat : Int))).setCell ⟨p, 4, none⟩ (.int .u32 (tE.toNat : Int))).setCell ⟨p, 5, none⟩ (.int .u32 (tF.toNat : Int))).setCell ⟨p, 6, none⟩ (.int .u32 (tG.toNat : Int))).setCell ⟨p, 7, none⟩ (.int .u32 (tH.toNat : Int))
theorem HashAt.put8 {W : World} {p : Nat} {x : St} {left : Value} {n : Nat} (h : HashAt W p x left n) (tA tB tC tD tE tF tG tH : Sha.W) : HashAt (set8 W p tA tB tC tD tE tF tG tH) p ⟨tA, tB, tC, tD, tE, tF, tG, tH⟩ left n := by
  unfold HashAt set8
  have h0 := heap_setCell W p 0 (.int .u32 (tA.toNat : Int)) _ _ h
  have h1 := heap_setCell _ p 1 (.int .u32 (tB.toNat : Int)) _ _ h0
  have h2 := heap_setCell _ p 2 (.int .u32 (tC.toNat : Int)) _ _ h1
  have h3 := heap_setCell _ p 3 (.int .u32 (tD.toNat : Int)) _ _ h2
  have h4 := heap_setCell _ p 4 (.int .u32 (tE.toNat : Int)) _ _ h3
  have h5 := heap_setCell _ p 5 (.int .u32 (tF.toNat : Int)) _ _ h4
  have h6 := heap_setCell _ p 6 (.int .u32 (tG.toNat : Int)) _ _ h5
  have h7 := heap_setCell _ p 7 (.int .u32 (tH.toNat : Int)) _ _ h6
  rw [h7]
  simp [hashV, u32s, St.list]
theorem grownBy_set8 (W : World) (p : Nat) (tA tB tC tD tE tF tG tH : Sha.W) : W.grownBy (set8 W p tA tB tC tD tE tF tG tH) (some p) := by
  unfold set8
  exact grownBy_trans (grownBy_trans (grownBy_trans (grownBy_trans (grownBy_trans (grownBy_trans (grownBy_trans (grownBy_set _ _ _ _) (grownBy_set _ _ _ _)) (grownBy_set _ _ _ _)) (grownBy_set _ _ _ _)) (grownBy_set _ _ _ _)) (grownBy_set _ _ _ _)) (grownBy_set _ _ _ _)) (grownBy_set _ _ _ _)
theorem drew_grown (W : World) (row : Option Nat) : W.grownBy W.drew row := ⟨rfl, rfl, rfl, Nat.le_refl _, fun _ _ _ => rfl⟩
theorem chunk_stops (n : Nat) (hn : 1 ≤ n) (Bs Bn g L c : Nat) (a : Option Addr) (ha : 0 < L → a = some ⟨g, 0, none⟩) (hL : L ≤ 140737488351232) (hLc : L ≤ c) (hc9 : c ≤ 9223372036854775807) (w : World)
    (hs : w.heap[Bs]? = some (.cells #[.slice a L c] 22 (0, 0))) (hn2 : w.heap[Bn]? = some (.cells #[.int .i64 64] 3 (0, 0))) :
    SeqStopsK Fence.wide n Try.prog 40 #[.pointer (some ⟨Bs, 0, none⟩), .pointer (some ⟨Bn, 0, none⟩)] (encK g L) (Keep2 Bs Bn) (AllK L) (FrontK L) (L + 1) w := fun l J Jx W hW hJ _ hY h0 =>
  chunk1_in n hn l Bs Bn g L c a ha hL hLc hc9 J Jx hY (fun p W1 h => hJ p W1 W1.drew none h (drew_grown _ _) (fun r e => by cases e)) W
    (by rw [cell_of_row W _ 0 _ 22 (0, 0) ((hW.block _ (Array.getElem?_eq_some_iff.1 hs).1).trans hs)]; rfl) (by rw [cell_of_row W _ 0 _ 3 (0, 0) ((hW.block _ (Array.getElem?_eq_some_iff.1 hn2).1).trans hn2)]; rfl) h0
theorem Rd.cut {w : World} {g : Nat} {l : List UInt8} (h : Rd w (some ⟨g, 0, none⟩) l) (i m : Nat) (hm : i + m ≤ l.length) : Rd w (some ⟨g, i, none⟩) ((l.drop i).take m) := by
  have hr := Kd.reads_of_C (enc := Value.int .u8) (d := (0 : Int)) (h1 := fun _ => rfl) h
  have hl : ((l.drop i).take m).length = m := by simp; omega
  unfold Rd
  rw [hl]
  refine Kd.C_of_reads (d := (0 : Int)) ⟨by rw [intsB_length, hl], by have := hr.2.1; omega, fun hp => ⟨_, rfl, fun j hj => ?_⟩⟩
  obtain ⟨ad, e, hc⟩ := hr.2.2 (by omega)
  cases e
  have := hc (i + j) (by omega)
  rw [Addr.add_mid] at this ⊢
  rw [Nat.zero_add] at this
  rw [this]
  have h1 : (intsB l).getD (i + j) 0 = (intsB ((l.drop i).take m)).getD j 0 := by
    simp only [intsB, List.getD_eq_getElem?_getD, List.getElem?_map, List.getElem?_take, List.getElem?_drop, if_pos hj]
  rw [h1]
/-- What the loop of Write keeps. -/
def WInv (w : World) (z p : Nat) (x : St) (d : List UInt8) (a3 : Option Addr) (M : Nat) (pre : List (Ck d.length)) (W : World) : Prop :=
  HashAt W p (stOf x d pre) (.slice none 0 0) M ∧ FullK pre ∧ W.heap[w.heap.size]? = some (.cells #[.pointer (some ⟨p, 0, none⟩)] 58 (0, 0)) ∧ w.grownBy W (some p) ∧ Rd W a3 d ∧ z ≤ W.heap.size
/-- What stands where it has left by the jump behind a shorter piece. -/
def WOut (w : World) (p : Nat) (x : St) (d : List UInt8) (M : Nat) (c : Code) (pre : List (Ck d.length)) (W : World) : Prop :=
  c = .exit 0 ∧ ∃ (pre0 : List (Ck d.length)) (y : Ck d.length) (v : Value), pre = pre0 ++ [y] ∧ FullK pre0 ∧ ckLen d.length y.1 < 64 ∧ HashAt W p (stOf x d pre0) v M ∧ OwnB W w.heap.size v ((d.drop (64 * y.1)).take 64) ∧ w.grownBy W (some p)
theorem WInv.own {w : World} {z p : Nat} {x : St} {d : List UInt8} {a3 : Option Addr} {M B : Nat} (hB : w.heap.size ≤ B) : OwnFrom B (WInv w z p x d a3 M) := fun _ A _ _ hs hg hr => by
  obtain ⟨h1, h2, h3, h4, h5, h6⟩ := hs
  have hr2 := fun r e => (hr r e).2
  exact ⟨h1.of_heap (kept_cells hg hr2 h1), h2, (kept_cells hg hr2 h3).trans h3, grownBy_walk h4 hg (fun r e => Nat.le_trans hB (hr r e).1), h5.walk hg hr2, Nat.le_trans h6 hg.size⟩
theorem WOut.own {w : World} {p : Nat} {x : St} {d : List UInt8} {M B : Nat} (hB : w.heap.size ≤ B) (c : Code) : OwnFrom B (WOut w p x d M c) := fun _ A _ _ hs hg hr => by
  obtain ⟨h1, pre0, y, v, h2, h3, h4, h5, h6, h7⟩ := hs
  have hr2 := fun r e => (hr r e).2
  exact ⟨h1, pre0, y, v, h2, h3, h4, h5.of_heap (kept_cells hg hr2 h5), h6.walk hg hr2, grownBy_walk h7 hg (fun r e => Nat.le_trans hB (hr r e).1)⟩
/-- What became of the loop, in plain words. -/
theorem done_plain (x : St) (d : List UInt8) (pre : List (Ck d.length)) (hA : AllK d.length pre) (hF : FullK pre) : stOf x d pre = run x d (d.length / 64) ∧ d.drop (64 * (d.length / 64)) = [] := by
  have hm : many d.length = d.length / 64 := by
    by_cases h0 : many d.length = 0
    · unfold many at h0 ⊢; omega
    · have hk : many d.length - 1 ∈ pre.map (·.1) := by rw [hA]; exact List.mem_range.2 (by omega)
      obtain ⟨y, hy, he⟩ := List.mem_map.1 hk
      have h64 := hF y hy
      have hy2 := y.2
      unfold ckLen at h64
      rw [he] at h64 hy2
      unfold many at h64 hy2 h0 ⊢
      omega
  refine ⟨?_, ?_⟩
  · rw [stOf_run x d pre _ hA, hm]
  · apply List.drop_eq_nil_of_le
    unfold many at hm; omega
theorem out_plain (x : St) (d : List UInt8) (pre0 : List (Ck d.length)) (y : Ck d.length) (hA : FrontK d.length (pre0 ++ [y])) (hy : ckLen d.length y.1 < 64) : stOf x d pre0 = run x d (d.length / 64) ∧ d.drop (64 * (d.length / 64)) = (d.drop (64 * y.1)).take 64 := by
  have h1 : pre0.map (·.1) = List.range pre0.length ∧ y.1 = pre0.length := by
    unfold FrontK at hA
    rw [List.map_append, List.length_append] at hA
    simp only [List.map_cons, List.map_nil, List.length_cons, List.length_nil, Nat.zero_add, List.range_succ] at hA
    have := List.append_inj hA (by simp)
    exact ⟨this.1, by simpa using this.2⟩
  have hy2 := y.2
  unfold ckLen at hy
  have hq : d.length / 64 = y.1 := by omega
  refine ⟨?_, ?_⟩
  · rw [stOf_run x d pre0 _ h1.1, hq, h1.2]
  · rw [hq, List.take_of_length_le]
    simp; omega

set_option maxRecDepth 100000 in
set_option maxHeartbeats 2000000 in
theorem write_in (p : Nat) (x : St) (al : Option Addr) (cl : Nat) (left b : List UInt8) (N : Nat) (ab : Option Addr) (cb : Nat) (w : World)
    (hp : HashAt w p x (.slice al left.length cl) N) (hl : Rd w al left) (hb : Rd w ab b) (hal : ∀ a, al = some a → a.block ≠ p) (hab : ∀ a, ab = some a → 0 < b.length → a.block ≠ p) (hlen : left.length + b.length ≤ 1099511627776) (hN : N + b.length < 18446744073709551616) :
    CallsIn Fence.wide 3 Try.prog 37 #[.pointer (some ⟨p, 0, none⟩), .slice ab b.length cb] w fun e w' => e = .returned (.int .i64 b.length) ∧
      ∃ v, HashAt w' p (run x (left ++ b) ((left ++ b).length / 64)) v (N + b.length) ∧ OwnB w' w.heap.size v ((left ++ b).drop (64 * ((left ++ b).length / 64))) ∧ w.grownBy w' (some p) := by
  obtain ⟨n, hn⟩ : ∃ n, b.length = n := ⟨_, rfl⟩
  obtain ⟨nl, hnl⟩ : ∃ n, left.length = n := ⟨_, rfl⟩
  rw [hn] at hlen hN ⊢
  rw [hnl] at hp hlen
  have c9 : w.cell? ⟨p, 9, none⟩ = some (.int .u64 (N : Int)) := hp.cell rfl
  have c8 : w.cell? ⟨p, 8, none⟩ = some (.slice al nl cl) := hp.cell rfl
  have f9 : w.frozen? ⟨p, 9, none⟩ = false := hp.frozen 9
  have f8 : w.frozen? ⟨p, 8, none⟩ = false := hp.frozen 8
  have hpl := hp.lt
  have hw1 : IntKind.u64.wrap (n : Int) = (n : Int) := by rw [IntKind.wrap_u64]; omega
  have hw2 : IntKind.u64.wrap ((N : Int) + (n : Int)) = ((N + n : Nat) : Int) := by rw [IntKind.wrap_u64]; omega
  have HP := Lib.hid hp; have HL := Lib.hid hl; have HBB := Lib.hid hb; have HN := Lib.hid hn; have HNL := Lib.hid hnl
  clear hp hl hb hn hnl
  refine callsIn_of_wp_marks Try.func37 rfl trivial ?_ rfl
  simp only [Try.ntmps37, List.size_toArray, List.length_cons, List.length_nil, Nat.reduceAdd, Nat.reduceSub, Array.replicate_succ, Array.replicate_zero, List.push_toArray, List.append_toArray, List.nil_append, List.cons_append]
  obtain ⟨W1, hW1⟩ : ∃ W1, w.setCell ⟨p, 9, none⟩ (.int .u64 ((N : Int) + (n : Int))) = W1 := ⟨_, rfl⟩
  have hh1 : HashAt W1 p x (.slice al nl cl) (N + n) := by
    rw [← hW1, ← Int.natCast_add]; exact HP.out.setN
  have hg1 : w.grownBy W1 (some p) := by rw [← hW1]; exact grownBy_set w p 9 _
  have hs1 : W1.heap.size = w.heap.size := by rw [← hW1]; simp [World.setCell]
  have HH1 := Lib.hid hh1; have HG1 := Lib.hid hg1; have HW1 := Lib.hid hW1; have HS1 := Lib.hid hs1
  clear hh1 hg1 hW1 hs1
  gi_wp2_with fail
  rw [HW1.out]
  obtain ⟨W2, hW2⟩ : ∃ W2, (W1.alloc (.cells #[.pointer (some ⟨p, 0, none⟩)] 58)).alloc (.cells #[.slice al nl cl, .slice ab n cb] 22) = W2 := ⟨_, rfl⟩
  rw [hW2]
  have hb2 : Below W1.heap.size W1 W2 := by rw [← hW2]; exact ((Below.refl _ _).alloc (Nat.le_refl _) _).alloc (by simp) _
  have hs2 : W2.heap.size = w.heap.size + 2 := by rw [← hW2, ← HS1.out]; simp
  have hx0 : W2.heap[w.heap.size]? = some (.cells #[.pointer (some ⟨p, 0, none⟩)] 58 (0, 0)) := by
    rw [← hW2, ← HS1.out, heap_alloc_old _ _ (by simp), heap_alloc_new]
  have hx1 : W2.heap[w.heap.size + 1]? = some (.cells #[.slice al nl cl, .slice ab n cb] 22 (0, 0)) := by
    rw [← hW2, ← HS1.out]
    have := heap_alloc_new (W1.alloc (.cells #[.pointer (some ⟨p, 0, none⟩)] 58)) (.cells #[.slice al nl cl, .slice ab n cb] 22)
    simpa using this
  have hrl : Rd W2 al left := (HL.out.grown HG1.out (fun a e _ => by simpa using hal a e)).below hb2
  have hrb : Rd W2 ab b := (HBB.out.grown HG1.out (fun a e hp => by simpa using hab a e hp)).below hb2
  have hcat := concat_any (w.heap.size + 1) 2 al ab cl cb left b W2 (by rw [HN.out, HNL.out]; omega) hrl hrb
    (by rw [HNL.out, cell_of_row W2 _ 0 _ 22 (0, 0) hx1]; rfl) (by rw [HN.out, cell_of_row W2 _ 1 _ 22 (0, 0) hx1]; rfl) (by omega)
  have hh2 : HashAt W2 p x (.slice al nl cl) (N + n) := HH1.out.below hb2
  have HH2 := Lib.hid hh2; have HX0 := Lib.hid hx0; have HS2 := Lib.hid hs2; have HB2 := Lib.hid hb2
  clear hx0 hx1 hrl hrb hh2 hs2 hb2 hW2 c8 c9 f8 f9 hw1 hw2
  refine ⟨trivial, (callsIn_wide.2 hcat).mono ?_⟩
  clear hcat
  rintro e W3 ⟨v3, rfl, ho, hb3⟩
  obtain ⟨d, hd⟩ : ∃ d, left ++ b = d := ⟨_, rfl⟩
  rw [hd] at ho
  obtain ⟨a3, k3, rfl, hk3, hr3⟩ := ho.reads
  have hh3 : HashAt W3 p x (.slice al nl cl) (N + n) := HH2.out.below hb3
  have hx3 : W3.heap[w.heap.size]? = some (.cells #[.pointer (some ⟨p, 0, none⟩)] 58 (0, 0)) := (hb3.block _ (by have := HS2.out; omega)).trans HX0.out
  have c8 : W3.cell? ⟨p, 8, none⟩ = some (.slice al nl cl) := hh3.cell rfl
  have f8 : W3.frozen? ⟨p, 8, none⟩ = false := hh3.frozen 8
  have cb3 : W3.cell? ⟨w.heap.size, 0, none⟩ = some (.pointer (some ⟨p, 0, none⟩)) := by rw [cell_of_row W3 _ 0 _ 58 (0, 0) hx3]; rfl
  have HH3 := Lib.hid hh3; have HX3 := Lib.hid hx3; have HB3 := Lib.hid hb3; have HO := Lib.hid ho; have HD := Lib.hid hd; have HR3 := Lib.hid hr3
  clear hh3 hx3 hb3 ho hd hr3
  gi_wp2_with fail
  obtain ⟨W4, hW4⟩ : ∃ W4, W3.setCell ⟨p, 8, none⟩ (.slice none 0 0) = W4 := ⟨_, rfl⟩
  rw [hW4]
  have hh4 : HashAt W4 p x (.slice none 0 0) (N + n) := by rw [← hW4]; exact HH3.out.setLeft
  have hg4 : W3.grownBy W4 (some p) := by rw [← hW4]; exact grownBy_set W3 p 8 _
  have hs4 : W4.heap.size = W3.heap.size := by rw [← hW4]; simp [World.setCell]
  have HH4 := Lib.hid hh4; have HG4 := Lib.hid hg4; have HS4 := Lib.hid hs4
  clear hh4 hg4 hs4 hW4 c8 f8 cb3
  refine ⟨trivial, (callsIn_wide.2 (chunk_any _ _ _ _)).mono ?_⟩
  rintro e w5 ⟨rfl, rfl⟩
  gi_wp2_with fail
  obtain ⟨hk9, hform, hbase⟩ := HO.out.form
  obtain ⟨g, hga⟩ : ∃ g, 0 < d.length → a3 = some ⟨g, 0, none⟩ := by
    by_cases h : 0 < d.length
    · obtain ⟨g, hg⟩ := hform h
      exact ⟨g, fun _ => hg⟩
    · exact ⟨0, fun h2 => absurd h2 h⟩
  have hdl : d.length ≤ 1099511627776 := by rw [← HD.out, List.length_append, HN.out, HNL.out]; exact hlen
  have hz : w.heap.size + 2 ≤ W4.heap.size := by have := HB3.out.size; have := HS2.out; have := HS4.out; omega
  obtain ⟨W5, hW5⟩ : ∃ W5, (W4.alloc (.cells #[.slice a3 d.length k3] 22)).alloc (.cells #[.int .i64 64] 3) = W5 := ⟨_, rfl⟩
  have hb5 : Below W4.heap.size W4 W5 := by rw [← hW5]; exact ((Below.refl _ _).alloc (Nat.le_refl _) _).alloc (by simp) _
  have hs5 : W5.heap.size = W4.heap.size + 2 := by rw [← hW5]; simp
  have hq0 : W5.heap[W4.heap.size]? = some (.cells #[.slice a3 d.length k3] 22 (0, 0)) := by
    rw [← hW5, heap_alloc_old _ _ (by simp), heap_alloc_new]
  have hq1 : W5.heap[W4.heap.size + 1]? = some (.cells #[.int .i64 64] 3 (0, 0)) := by
    rw [← hW5]
    have := heap_alloc_new (W4.alloc (.cells #[.slice a3 d.length k3] 22)) (.cells #[.int .i64 64] 3)
    simpa using this
  have hgr : w.grownBy W5 (some p) := grownBy_trans (grownBy_trans (grownBy_trans (grownBy_trans HG1.out (grownBy_below HB2.out)) (grownBy_below HB3.out)) HG4.out) (grownBy_below hb5)
  have hh5 : HashAt W5 p x (.slice none 0 0) (N + n) := HH4.out.below hb5
  have hpw := hpl
  have hbx : W5.heap[w.heap.size]? = some (.cells #[.pointer (some ⟨p, 0, none⟩)] 58 (0, 0)) := ((hb5.block _ (by omega)).trans (HG4.out.block _ (by have := HS4.out; omega) (by simp; omega))).trans HX3.out
  have hrd : Rd W5 a3 d := (HR3.out.grown HG4.out (fun b e _ => by have := (hbase b e).1; have := HS2.out; simp; omega)).below hb5
  rw [hW5]
  refine wpIn_rangeFunc_ownG rfl (by omega) (gf := 40) (lb := #[.pointer (some ⟨W4.heap.size, 0, none⟩), .pointer (some ⟨W4.heap.size + 1, 0, none⟩)]) rfl trivial (enters_of Try.func40 (by kernel_rfl) rfl)
    (chunk_stops 2 (by omega) W4.heap.size (W4.heap.size + 1) g d.length k3 a3 hga (by omega) hk3 hk9 W5 hq0 hq1) Keep2.trans (Keep2.putObj (B := W5.heap.size) (by omega) (by omega)) (Below.refl _ _) (fun _ => rfl)
    (WInv w W5.heap.size p x d a3 (N + n)) (WOut w p x d (N + n)) (WInv.own (by omega)) (WOut.own (by omega))
    ⟨hh5, (fun y hy => by cases hy), hbx, hgr, hrd, Nat.le_refl _⟩
    (fun (y : Ck d.length) => { tmps := #[.pointer (some ⟨p, 0, none⟩), .slice ab n cb, .pointer (some ⟨w.heap.size, 0, none⟩), undef, .int .i64 0, .slice a3 d.length k3, .slice (some ⟨g, 64 * y.1, none⟩) (ckLen d.length y.1) (ckLen d.length y.1), .pointer (some ⟨p, 0, none⟩), .bool false,
          .pointer (some ⟨p, 0, none⟩), .pointer (some ⟨p, 0, none⟩), .pointer (some ⟨p, 9, none⟩), .int .u64 N, .slice ab n cb, .int .i64 n, .int .u64 n, .int .u64 (N + n),
          .pointer (some ⟨p, 0, none⟩), .pointer (some ⟨p, 9, none⟩), .pointer (some ⟨p, 0, none⟩), .pointer (some ⟨p, 0, none⟩), .pointer (some ⟨p, 8, none⟩), .slice al nl cl, .slice ab n cb,
          .slice (some ⟨w.heap.size + 1, 0, none⟩) 2 2, .slice a3 d.length k3, .pointer (some ⟨p, 0, none⟩), .pointer (some ⟨p, 0, none⟩), .pointer (some ⟨p, 8, none⟩), .slice a3 d.length k3,
          .func (.func 40) #[] #[.pointer (some ⟨W4.heap.size, 0, none⟩), .pointer (some ⟨W4.heap.size + 1, 0, none⟩)], .slice (some ⟨g, 64 * y.1, none⟩) (ckLen d.length y.1) (ckLen d.length y.1),
          undef, undef, undef, undef, undef, undef, undef, undef, undef, undef, undef, undef, undef, undef, undef, undef, undef, undef, undef], defers := [] }) ?assign ?body ?done ?stop
  case assign =>
    intro l y W K hK
    simp only [encK]
    gi_wp2
    exact hK
  case body =>
    rintro l pre y W hinv hlt
    obtain ⟨h1, h2, h3, h4, h5, h6⟩ := hinv
    obtain ⟨m, hm⟩ : ∃ m, ckLen d.length y.1 = m := ⟨_, rfl⟩
    obtain ⟨k, hky⟩ : ∃ k, 64 * y.1 = k := ⟨_, rfl⟩
    have hy2 := y.2
    have hmk : m = min 64 (d.length - k) := by rw [← hm, ← hky]; rfl
    rw [hky] at hy2
    have hm1 : 1 ≤ m := by omega
    have hm64 : m ≤ 64 := by omega
    have hkm : k + m ≤ d.length := by omega
    obtain rfl := hga (by omega)
    obtain ⟨ch, hch⟩ : ∃ ch, (d.drop k).take 64 = ch := ⟨_, rfl⟩
    have hchl : ch.length = m := by rw [← hch, List.length_take, List.length_drop]; omega
    have hrc : Rd W (some ⟨g, k, none⟩) ch := by
      have e : (d.drop k).take m = ch := by
        rw [← hch]
        by_cases hf : m = 64
        · rw [hf]
        · rw [List.take_of_length_le (by rw [List.length_drop]; omega), List.take_of_length_le (by rw [List.length_drop]; omega)]
      rw [← e]; exact h5.cut k m hkm
    have cb3 : W.cell? ⟨w.heap.size, 0, none⟩ = some (.pointer (some ⟨p, 0, none⟩)) := by rw [cell_of_row W _ 0 _ 58 (0, 0) h3]; rfl
    have H1 := Lib.hid h1; have H2 := Lib.hid h2; have H3 := Lib.hid h3; have H4 := Lib.hid h4; have H5 := Lib.hid h5; have HM := Lib.hid hm; have HK := Lib.hid hky; have HCH := Lib.hid hch; have HCL := Lib.hid hchl; have HRC := Lib.hid hrc
    rw [hky, hm]
    have hbw : w.heap.size < W.heap.size := (Array.getElem?_eq_some_iff.1 h3).1
    clear h1 h2 h3 h4 h5 hm hky hch hchl hrc hmk
    by_cases hf : m < 64
    · have hfi : (m : Int) < 64 := by omega
      have hcl : ∀ Wq, Wq = W.drew → CallsIn Fence.wide 0 Try.prog 52 #[.slice (some ⟨g, k, none⟩) m m] Wq fun e w' => ∃ av cv, e = .returned (.slice av m cv) ∧ OwnB w' w.heap.size (.slice av m cv) ch ∧ Below W.heap.size W w' := by
        rintro _ rfl
        have := clone_any ⟨g, k, none⟩ m ch W.drew (by rw [HCL.out]; exact hm64) (HRC.out.below (Below.refl _ _).drew)
        rw [HCL.out] at this
        refine (callsIn_wide.2 this).mono ?_
        rintro e w' ⟨v, rfl, h2, h3⟩
        obtain ⟨av, cv, rfl, _, _⟩ := h2.reads
        rw [HCL.out] at h2 ⊢
        exact ⟨av, cv, rfl, h2.lower (by exact Nat.le_of_lt hbw), ((Below.refl _ W).drew).trans h3⟩
      have HCC := Lib.hid hcl
      clear hcl
      gi_wp2_with fail
      have hmx : Try.prog.follows .mixedOrders = true := by kernel_rfl
      gi_region_with_o (refine ⟨trivial, ?_⟩; gi_at_call 52; refine (CallsIn.inRound l (HCC.out _ rfl)).mono ?_; rintro e w6 ⟨av, cv, rfl, ho, hb6⟩; have hh6 := H1.out.below hb6; have c86 := hh6.cell (j := 8) rfl; have f86 := hh6.frozen 8; have cb6 := (hb6.cell (p := ⟨w.heap.size, 0, none⟩) hbw).trans cb3; have HH6 := Lib.hid hh6; have HO6 := Lib.hid ho; have HB6 := Lib.hid hb6; clear hh6 ho hb6)
      all_goals gi_wp2
      all_goals
        have hset := HH6.out.setLeft (v := .slice av m cv)
        have hg6 : W.grownBy (w6.setCell ⟨p, 8, none⟩ (.slice av m cv)) (some p) := grownBy_trans (grownBy_below HB6.out) (grownBy_set _ _ _ _)
        have ho6 : OwnB (w6.setCell ⟨p, 8, none⟩ (.slice av m cv)) w.heap.size (.slice av m cv) ch := HO6.out.kept (grownBy_set _ _ _ _) (fun q hq e => by
          have := own_base (Kd.own_of_R HO6.out) q hq
          cases e; omega)
        exact ⟨KeepsFrom.of_grownBy hg6 (fun j e => by cases e; omega), rfl, pre, y, _, rfl, H2.out, by rw [HM.out]; exact hf, hset, by rw [HK.out, HCH.out]; exact ho6, grownBy_trans H4.out hg6⟩
    · obtain rfl : m = 64 := by omega
      obtain ⟨st, hst⟩ : ∃ st, stOf x d pre = st := ⟨_, rfl⟩
      rw [hst] at H1
      obtain ⟨sA, sB, sC, sD, sE, sF, sG, sH⟩ := st
      have HST := Lib.hid hst
      clear hst
      have c0 : W.cell? ⟨p, 0, none⟩ = some (.int .u32 (sA.toNat : Int)) := H1.out.cell rfl
      have c1 : W.cell? ⟨p, 1, none⟩ = some (.int .u32 (sB.toNat : Int)) := H1.out.cell rfl
      have c2 : W.cell? ⟨p, 2, none⟩ = some (.int .u32 (sC.toNat : Int)) := H1.out.cell rfl
      have c3 : W.cell? ⟨p, 3, none⟩ = some (.int .u32 (sD.toNat : Int)) := H1.out.cell rfl
      have c4 : W.cell? ⟨p, 4, none⟩ = some (.int .u32 (sE.toNat : Int)) := H1.out.cell rfl
      have c5 : W.cell? ⟨p, 5, none⟩ = some (.int .u32 (sF.toNat : Int)) := H1.out.cell rfl
      have c6 : W.cell? ⟨p, 6, none⟩ = some (.int .u32 (sG.toNat : Int)) := H1.out.cell rfl
      have c7 : W.cell? ⟨p, 7, none⟩ = some (.int .u32 (sH.toNat : Int)) := H1.out.cell rfl
      have htk : ∀ Wq, Wq = W.drew → CallsIn Fence.wide 0 Try.prog 53 #[.agg #[.int .u32 (sA.toNat : Int), .int .u32 (sB.toNat : Int), .int .u32 (sC.toNat : Int), .int .u32 (sD.toNat : Int), .int .u32 (sE.toNat : Int), .int .u32 (sF.toNat : Int), .int .u32 (sG.toNat : Int), .int .u32 (sH.toNat : Int)], .slice (some ⟨g, k, none⟩) 64 64] Wq
          fun e w' => ∃ tA tB tC tD tE tF tG tH : Sha.W, e = .returned (.agg #[.int .u32 (tA.toNat : Int), .int .u32 (tB.toNat : Int), .int .u32 (tC.toNat : Int), .int .u32 (tD.toNat : Int), .int .u32 (tE.toNat : Int), .int .u32 (tF.toNat : Int), .int .u32 (tG.toNat : Int), .int .u32 (tH.toNat : Int)]) ∧ take ⟨sA, sB, sC, sD, sE, sF, sG, sH⟩ ch = ⟨tA, tB, tC, tD, tE, tF, tG, tH⟩ ∧ Below W.heap.size W w' := by
        rintro _ rfl
        have := take_any ⟨sA, sB, sC, sD, sE, sF, sG, sH⟩ (some ⟨g, k, none⟩) 64 64 ch W.drew (by rw [HCL.out]; exact Nat.le_refl _) (HRC.out.below (Below.refl _ _).drew).bytesAt HCL.out (Nat.le_refl _) (by unfold maxLen; omega)
        refine (callsIn_wide.2 this).mono ?_
        rintro e w' ⟨rfl, h3⟩
        obtain ⟨t, ht⟩ : ∃ t, take ⟨sA, sB, sC, sD, sE, sF, sG, sH⟩ ch = t := ⟨_, rfl⟩
        rw [ht]
        obtain ⟨tA, tB, tC, tD, tE, tF, tG, tH⟩ := t
        exact ⟨tA, tB, tC, tD, tE, tF, tG, tH, rfl, rfl, ((Below.refl _ W).drew).trans h3⟩
      have HTK := Lib.hid htk
      clear htk
      have hmx : Try.prog.follows .mixedOrders = true := by kernel_rfl
      gi_wp2_with fail
      gi_region_with_o (refine ⟨trivial, ?_⟩; gi_at_call 53; refine (CallsIn.inRound l (HTK.out _ rfl)).mono ?_; rintro e w6 ⟨tA, tB, tC, tD, tE, tF, tG, tH, rfl, ht, hb6⟩; have hh6 := H1.out.below hb6; have d0 := hh6.cell (j := 0) rfl; have d1 := hh6.cell (j := 1) rfl; have d2 := hh6.cell (j := 2) rfl; have d3 := hh6.cell (j := 3) rfl; have d4 := hh6.cell (j := 4) rfl; have d5 := hh6.cell (j := 5) rfl; have d6 := hh6.cell (j := 6) rfl; have d7 := hh6.cell (j := 7) rfl; have e0 := hh6.frozen 0; have e1 := hh6.frozen 1; have e2 := hh6.frozen 2; have e3 := hh6.frozen 3; have e4 := hh6.frozen 4; have e5 := hh6.frozen 5; have e6 := hh6.frozen 6; have e7 := hh6.frozen 7; have cb6 := (hb6.cell (p := ⟨w.heap.size, 0, none⟩) hbw).trans cb3; have HH6 := Lib.hid hh6; have HT6 := Lib.hid ht; have HB6 := Lib.hid hb6; clear hh6 ht hb6)
      all_goals gi_wp2
      all_goals
        have hset := HH6.out.put8 tA tB tC tD tE tF tG tH
        have hg6 : W.grownBy (set8 w6 p tA tB tC tD tE tF tG tH) (some p) := grownBy_trans (grownBy_below HB6.out) (grownBy_set8 _ _ _ _ _ _ _ _ _ _)
        have hst2 : stOf x d (pre ++ [y]) = ⟨tA, tB, tC, tD, tE, tF, tG, tH⟩ := by rw [stOf_snoc, HST.out, HK.out, HCH.out, HT6.out]
        have hfull : FullK (pre ++ [y]) := fun q hq => by
          rcases List.mem_append.1 hq with hq | hq
          · exact H2.out q hq
          · rw [List.mem_singleton.1 hq]; exact HM.out
        have hpz : p < W4.heap.size := by omega
        refine ⟨KeepsFrom.of_grownBy hg6 (fun j e => by cases e; omega), Keep2.grown hg6 (by omega) (by omega) (by simp; omega) (by simp; omega), by rw [hst2]; exact hset, hfull, (hg6.block _ (by omega) (by simp; omega)).trans H3.out, grownBy_trans H4.out hg6, H5.out.grown hg6 (fun b e _ => by have := (hbase b e).1; have := HS2.out; simp; omega), ?_⟩
        have hsz6 := hg6.size
        first | exact Nat.le_trans h6 hsz6 | (rw [hs5] at h6; exact Nat.le_trans h6 hsz6)
  case done =>
    rintro D ys W hD hS hinv hK
    obtain ⟨h1, h2, h3, h4, h5, h6⟩ := (WInv.own (B := W5.heap.size) (by omega)).putObj (.deferred none) hinv hD hK rfl
    obtain ⟨e1, e2⟩ := done_plain x d ys hS h2
    have E1 := Lib.hid e1; have E2 := Lib.hid e2; have H1 := Lib.hid h1; have H4 := Lib.hid h4; have HI := Lib.hid hinv
    clear e1 e2 h1 h2 h3 h4 h5 h6 hinv hS
    gi_wp2
    refine ⟨by simp, .inl ⟨_, _, rfl, run_takeDeferred hK, ?_⟩⟩
    refine ⟨_, results_tmp rfl _ _ _, rfl, .slice none 0 0, ?_, ?_, H4.out⟩
    · rw [HD.out, ← E1.out]; exact H1.out
    · rw [HD.out, E2.out]; exact OwnB.nil _ _
  case stop =>
    rintro D c pre W hD hS hout hK
    obtain ⟨rfl, pre0, y, v, rfl, h3, h4, h5, h6, h7⟩ := (WOut.own (w := w) (p := p) (x := x) (d := d) (M := N + n) (B := W5.heap.size) (by omega) c).putObj (.deferred none) hout hD hK rfl
    obtain ⟨e1, e2⟩ := out_plain x d pre0 y hS h4
    have E1 := Lib.hid e1; have E2 := Lib.hid e2; have H5 := Lib.hid h5; have H6 := Lib.hid h6; have H7 := Lib.hid h7
    clear e1 e2 h3 h4 h5 h6 h7 hout hS
    gi_wp2
    refine ⟨by simp, .inl ⟨_, _, rfl, run_takeDeferred hK, ?_⟩⟩
    refine ⟨_, results_tmp rfl _ _ _, rfl, v, ?_, ?_, H7.out⟩
    · rw [HD.out, ← E1.out]; exact H5.out
    · rw [HD.out, E2.out]; exact H6.out
end Go.Proofs.Ytnhljemnebgekaa

/-
  What the functions of these laws compute, as plain Lean functions, and that the machine's calls compute it: written by this session's own hook over the kit's print.
-/
namespace Go.Proofs.Ytnhljemnebgekaa.Pt
open Go.RowKit Go.Proofs.YtnhljemnebgekaaW.PrintWords Go.Proofs.YtnhljemnebgekaaW.PrintLast Go.Proofs.YtnhljemnebgekaaW.PrintMore
attribute [local go_sem] max2_int min2_int max_two min_two max_three min_three max_four min_four   -- for this text's walks alone
set_option linter.unusedVariables false
set_option linter.unusedSimpArgs false



def errW : Option Int → Value
  | none => .nilIface
  | some c => .iface 0 (.int .i64 c)
theorem errW_none : errW none = .nilIface := rfl
theorem errW_some (c : Int) : errW (some c) = .iface 0 (.int .i64 c) := rfl

theorem info5 : (Try.prog.info? 5).map (fun i => (i.zero, i.size, i.bytes)) = some (some (.int .u8 0), 1, 1) := by kernel_rfl
-- the values' own types

end Go.Proofs.Ytnhljemnebgekaa.Pt

/-
  What the functions of these laws compute, as plain Lean functions, and that the machine's calls compute it: written by this session's own hook over the kit's print.
-/
namespace Go.Proofs.Ytnhljemnebgekaa.Pt
open Go.RowKit Go.Proofs.YtnhljemnebgekaaW.PrintWords Go.Proofs.YtnhljemnebgekaaW.PrintLast Go.Proofs.YtnhljemnebgekaaW.PrintMore
attribute [local go_sem] max2_int min2_int max_two min_two max_three min_three max_four min_four   -- for this text's walks alone
set_option linter.unusedVariables false
set_option linter.unusedSimpArgs false

/-! ### digest_Tail: function 54 -/
def digest_Tail.l0 : Nat → Int → List Int → Int → Option (List Int)
  | 0, _, _, _ => none
  | k + 1, x0, x4, x17 => if x17 < 8 then (if 0 ≤ (wrap64 (8 * x17)) then (if 0 ≤ (wrap64 ((wrap64 ((x4.length : Int) - 1)) - x17)) then (if (wrap64 ((wrap64 ((x4.length : Int) - 1)) - x17)) < (x4.length : Int) then (digest_Tail.l0 k x0 (x4.set ((wrap64 ((wrap64 ((x4.length : Int) - 1)) - x17)) : Int).toNat ((shr .u64 (IntKind.u64.wrap (x0 * 8)) (wrap64 (8 * x17))) % 256)) (wrap64 (x17 + 1))) else (none)) else (none)) else (none)) else (some x4)
def digest_Tail.f (k : Nat) (a0 : Int) : Option (List Int) := if 0 ≤ (wrap64 ((wrap64 (1 + (Int.tmod (wrap64 (119 - (wrap64 (Int.tmod a0 64)))) 64))) + 8)) then (if (wrap64 ((wrap64 (1 + (Int.tmod (wrap64 (119 - (wrap64 (Int.tmod a0 64)))) 64))) + 8) : Int).toNat ≤ 281474976710656 then ((some (List.replicate (wrap64 ((wrap64 (1 + (Int.tmod (wrap64 (119 - (wrap64 (Int.tmod a0 64)))) 64))) + 8) : Int).toNat 0 : List Int)).bind fun y101 => (if 0 < (y101.length : Int) then (digest_Tail.l0 k a0 (y101.set (0 : Int).toNat 128) 0) else (none))) else (none)) else (none)
theorem digest_Tail.mono_l : ∀ k, (∀ y0 y1 y2, LeO (digest_Tail.l0 k y0 y1 y2) (digest_Tail.l0 (k + 1) y0 y1 y2))
  | 0 => fun _ _ _ r h => by simp [digest_Tail.l0] at h
  | k + 1 => by
    have ih0 := digest_Tail.mono_l k
    · intro y0 y1 y2
      unfold digest_Tail.l0
      repeat' first
      | (with_reducible exact ih0 _ _ _)
      | (with_reducible exact LeO.refl _)
      | (with_reducible exact LeO.none _)
      | (with_reducible refine LeO.ite ?_ ?_)
      | (with_reducible refine LeO.bind ?_ (fun _ => ?_))
      | exact ih0 _ _ _
      | exact LeO.none _
      | refine LeO.ite ?_ ?_
      | refine LeO.bind ?_ (fun _ => ?_)
theorem digest_Tail.mono : ∀ a0 k, LeO (digest_Tail.f k a0) (digest_Tail.f (k + 1) a0) := by
  intro a0 k
  have ih0 := digest_Tail.mono_l k
  unfold digest_Tail.f
  repeat' first
      | (with_reducible exact ih0 _ _ _)
      | (with_reducible exact LeO.refl _)
      | (with_reducible exact LeO.none _)
      | (with_reducible refine LeO.ite ?_ ?_)
      | (with_reducible refine LeO.bind ?_ (fun _ => ?_))
      | exact ih0 _ _ _
      | exact LeO.none _
      | refine LeO.ite ?_ ?_
      | refine LeO.bind ?_ (fun _ => ?_)
set_option maxHeartbeats 8000000 in
set_option maxRecDepth 100000 in
theorem digest_Tail.calls (k : Nat) (a0 : Int) (r : List Int) (w : World) (h : digest_Tail.f k a0 = some r) :
    Calls Try.prog 54 #[.int .u64 a0] w fun e w' => ∃ v0_ : Value, e = .returned (v0_) ∧ Kd.R (Kd.int .u8) 5 w' w.heap.size (fun _ => True) v0_ r ∧ Below w.heap.size w w' := by
  have HB := Aside0.mk (Below.refl w.heap.size w)
  have H : (if 0 ≤ (wrap64 ((wrap64 (1 + (Int.tmod (wrap64 (119 - (wrap64 (Int.tmod a0 64)))) 64))) + 8)) then (if (wrap64 ((wrap64 (1 + (Int.tmod (wrap64 (119 - (wrap64 (Int.tmod a0 64)))) 64))) + 8) : Int).toNat ≤ 281474976710656 then ((some (List.replicate (wrap64 ((wrap64 (1 + (Int.tmod (wrap64 (119 - (wrap64 (Int.tmod a0 64)))) 64))) + 8) : Int).toNat 0 : List Int)).bind fun y101 => (if 0 < (y101.length : Int) then (digest_Tail.l0 k a0 (y101.set (0 : Int).toNat 128) 0) else (none))) else (none)) else (none)) = some r := h
  clear h
  obtain ⟨ji2, hji2⟩ : ∃ j_ : Int, (wrap64 ((wrap64 (1 + (Int.tmod (wrap64 (119 - (wrap64 (Int.tmod a0 64)))) 64))) + 8)) = j_ := ⟨_, rfl⟩
  replace H : (if 0 ≤ (ji2) then (if (ji2 : Int).toNat ≤ 281474976710656 then ((some (List.replicate (ji2 : Int).toNat 0 : List Int)).bind fun y101 => (if 0 < (y101.length : Int) then (digest_Tail.l0 k a0 (y101.set (0 : Int).toNat 128) 0) else (none))) else (none)) else (none)) = some r := by first | (rw [hji2] at H; exact H) | (simp only [hji2] at H ⊢; exact H)
  have hji2w : (IntKind.i64.wrap ((wrap64 (1 + (Int.tmod (wrap64 (119 - (wrap64 (Int.tmod a0 64)))) 64))) + 8)) = ji2 := (i64_w _).trans hji2
  by_cases c3 : 0 ≤ (ji2)
  · rw [if_pos c3] at H
    have c3b0 := eq_true c3
    have c3b1 : decide (0 ≤ (ji2)) = true := decide_eq_true c3
    clear c3
    by_cases c4 : (ji2 : Int).toNat ≤ 281474976710656
    · rw [if_pos c4] at H
      have c4b0 := eq_true c4
      have c4b1 : decide ((ji2 : Int).toNat ≤ 281474976710656) = true := decide_eq_true c4
      clear c4
      obtain ⟨y101, hy101⟩ : ∃ y_ : List Int, y_ = (List.replicate (ji2 : Int).toNat 0) := ⟨_, rfl⟩
      replace H : (if 0 < (y101.length : Int) then (digest_Tail.l0 k a0 (y101.set (0 : Int).toNat 128) 0) else (none)) = some r := by first | (rw [hy101]; with_reducible exact H) | (have H2_ := (Option.bind_some _ _).symm.trans H; rw [hy101]; with_reducible exact H2_) | (have H2_ := (Option.bind_some _ _).symm.trans H; with_reducible exact H2_) | with_reducible exact H | (rw [hy101]; exact H) | exact H
      have Ny101 := Aside0.mk hy101
      clear hy101
      by_cases c5 : 0 < (y101.length : Int)
      · rw [if_pos c5] at H
        have c5b0 : decide (0 < (y101.length : Int)) = true := decide_eq_true c5
        have c5b1 : decide (0 < y101.length) = true := decide_eq_true (by omega)
        clear c5
        obtain ⟨y104, hy104⟩ : ∃ y_ : List Int, y_ = (y101.set (0 : Int).toNat 128) := ⟨_, rfl⟩
        replace H : (digest_Tail.l0 k a0 y104 0) = some r := by first | (rw [hy104]; with_reducible exact H) | (have H2_ := (Option.bind_some _ _).symm.trans H; rw [hy104]; with_reducible exact H2_) | (have H2_ := (Option.bind_some _ _).symm.trans H; with_reducible exact H2_) | with_reducible exact H | (rw [hy104]; exact H) | exact H
        have Ny104 := Aside0.mk hy104
        clear hy104
        have H' := Aside0.mk H
        clear H
        go_enter Try.func54, Try.ntmps54
        go_wp2_with (first | ((with_reducible refine gate_dst (N := 14) rfl ?_); refine Kd.R_make (Kd.int .u8) _ 5 rfl (N := 14) rfl 22 _ _ rfl ji2 rfl rfl Try.underlying22 (.int .u8 0) 1 info5 rfl (by decide) (by omega) 0 (ok := fun _ => True) (okp := fun _ => True) rfl (fun _ hk => hk) trivial (of_decide_eq_true (by first | (with_reducible assumption) | assumption)) (Nat.le_trans (Nat.mul_le_mul_right _ (of_decide_eq_true (by first | (with_reducible assumption) | assumption) : ji2.toNat ≤ 281474976710656)) (by omega)) (Below.refl _ _) (Nat.le_refl _) ?_; intro v102 w7 ho8 hb hg_ hnew_; clear hg_ hnew_; (first | rw [← Ny101.out] at ho8 | (simp only [Int.reduceToNat] at ho8; rw [← Ny101.out] at ho8)); have n0_ := Aside0.mk (Kd.R_lower ho8 (below_size (by repeat (first | (with_reducible first | exact HB.out | apply below_alloc | apply pw_below_drewN | apply below_drew1) | exact HB.out)))); have n1_ := Aside0.mk (below_step (by repeat (first | (with_reducible first | exact HB.out | apply below_alloc | apply pw_below_drewN | apply below_drew1) | exact HB.out)) hb); clear HB; have HO103 := n0_; have HB := n1_; clear n0_ n1_; clear hb ho8; have p6 : 0 ≤ (0 : Int) := (by omega); have q6 : (0 : Int) < ((y101.length : Int) : Int) := of_decide_eq_true (by first | (with_reducible assumption) | assumption); have qi6 : (0 < y101.length) = True := eq_true (by omega); obtain ⟨go6, co6, eo6, gb6, gl6, cl6, HG6⟩ := Kd.R_form HO103.out (by omega); (first | cases eo6 | (injection eo6 with ea_ en_ ec_; (first | subst ea_ | (injection ea_ with ea_; subst ea_)); subst ec_; clear en_)); have GB6 := Aside0.mk gb6; have GG6 := Aside0.mk HG6; clear gb6 gl6 HG6; obtain ⟨hx6_0, hf6_0⟩ := Kd.R_celln 0 HO103.out (0 : Int) p6 q6; (try rw [show ((0 : Int)).toNat = 0 from rfl] at hx6_0); (try simp only [Nat.reduceMul, Nat.zero_mul, Nat.zero_add, Nat.reduceAdd] at hx6_0); (try rw [show ((0 : Int)).toNat = 0 from rfl] at hf6_0); (try simp only [Nat.reduceMul, Nat.zero_mul, Nat.zero_add, Nat.reduceAdd] at hf6_0); replace p6 := eq_true p6; replace q6 := eq_true q6; obtain ⟨hy9_, hz9_⟩ := Kd.R_celln 0 HO103.out (0 : Int) (by omega) (of_decide_eq_true (by first | (with_reducible assumption) | assumption)); (try simp only [Int.reduceToNat, Int.toNat_zero, Int.toNat_ofNat, Nat.reduceMul, Nat.zero_mul, Nat.zero_add] at hy9_ hz9_); (try rw [show ((0 : Int)).toNat = 0 from rfl] at hy9_); (try rw [show ((0 : Int)).toNat = 0 from rfl] at hz9_); have HP9 := Kd.R_putg HO103.out (0 : Int) 128) | ((with_reducible refine gate_store (t := 5) (p := 16) rfl ?_); refine store_event (t := 5) (p := 16) (v := ?vo_w10) (w1 := (w7.setCell ⟨go6, (0 : Int).toNat, none⟩ (.int .u8 128))) ?hg ?ho ?hn ?hr ?_; (case ho => rfl); (case hg => rfl); (case hn => rfl); (case hr => first | (go_simp; done) | (go_simp; rfl)); intro w10 hw; have hg : w7.grownBy w10 (some go6) := (by rw [hw]; exact HP9.2); have hp_ : Kd.R (Kd.int .u8) 5 w10 w.heap.size (fun _ => True) (.slice (some ⟨go6, 0, none⟩) y101.length co6) y104 := (by rw [hw, Ny104.out]; exact HP9.1); clear HP9; have n0_ := Aside0.mk (hp_); have n1_ := Aside0.mk ((by rw [hw]; exact below_set (HB.out) GB6.out : Below w.heap.size w w10)); clear HO103; clear HB; have HO103 := n0_; have HB := n1_; clear n0_ n1_; clear hg hw hp_))
        go_loopg [17] k (fun kq v17 w' => ∃ (x4_1 : List Int) (x17_1 : Int), v17 = .int .i64 x17_1 ∧ Aside0 (digest_Tail.l0 kq a0 x4_1 x17_1 = some r) ∧ Aside0 (kq ≤ k) ∧ Aside0 (Kd.R (Kd.int .u8) 5 w' w.heap.size (fun _ => True) (.slice (some ⟨go6, 0, none⟩) y101.length co6) x4_1) ∧ Aside0 (Below w.heap.size w w'))
        case atStart => exact ⟨(y104), (0), (by first | rfl | (simp; done) | (simp [*]; done)), H', ⟨Nat.le_refl _⟩, ⟨by (with_reducible repeat (first | apply Kd.R_alloc | apply Kd.R_drewN | apply Kd.R_drew)); exact HO103.out⟩, ⟨by repeat (first | (with_reducible first | exact HB.out | apply below_alloc | apply pw_below_drewN | apply below_drew1) | exact HB.out)⟩⟩
        case round =>
          clear H'
          try clear p2
          try clear c3
          try clear c3b0
          try clear c3b1
          try clear c4
          try clear c4b0
          try clear c4b1
          try clear c5
          try clear c5b0
          try clear c5b1
          try clear p6
          try clear q6
          try clear hx6
          try clear qi6
          try clear hf6
          try clear hx6_0
          try clear p6
          try clear q6
          obtain ⟨x4_1, x17_1, rfl, HA, HK1, HO_4, HB⟩ := hrel
          have hl4_1 := (Kd.R_reads' HO_4.out).1
          rw [hl4_1] at HO_4
          (try simp only [hl4_1])
          cases gk with
          | zero => exact absurd HA.out (by simp [digest_Tail.l0])
          | succ k1 =>
            have H := HA.out
            clear HA
            simp only [digest_Tail.l0] at H
            by_cases c11 : x17_1 < 8
            · rw [if_pos c11] at H
              have c11b0 : decide (x17_1 < 8) = true := decide_eq_true c11
              clear c11
              obtain ⟨ji12, hji12⟩ : ∃ j_ : Int, (wrap64 (8 * x17_1)) = j_ := ⟨_, rfl⟩
              replace H : (if 0 ≤ (ji12) then (if 0 ≤ (wrap64 ((wrap64 ((x4_1.length : Int) - 1)) - x17_1)) then (if (wrap64 ((wrap64 ((x4_1.length : Int) - 1)) - x17_1)) < (x4_1.length : Int) then (digest_Tail.l0 k1 a0 (x4_1.set ((wrap64 ((wrap64 ((x4_1.length : Int) - 1)) - x17_1)) : Int).toNat ((shr .u64 (IntKind.u64.wrap (a0 * 8)) (ji12)) % 256)) (wrap64 (x17_1 + 1))) else (none)) else (none)) else (none)) = some r := by first | (rw [hji12] at H; exact H) | (simp only [hji12] at H ⊢; exact H)
              have hji12w : (IntKind.i64.wrap (8 * x17_1)) = ji12 := (i64_w _).trans hji12
              by_cases c13 : 0 ≤ (ji12)
              · rw [if_pos c13] at H
                have c13b0 := eq_true c13
                have c13b1 : decide (0 ≤ (ji12)) = true := decide_eq_true c13
                clear c13
                obtain ⟨ji14, hji14⟩ : ∃ j_ : Int, (shr .u64 (IntKind.u64.wrap (a0 * 8)) (ji12)) = j_ := ⟨_, rfl⟩
                replace H : (if 0 ≤ (wrap64 ((wrap64 ((x4_1.length : Int) - 1)) - x17_1)) then (if (wrap64 ((wrap64 ((x4_1.length : Int) - 1)) - x17_1)) < (x4_1.length : Int) then (digest_Tail.l0 k1 a0 (x4_1.set ((wrap64 ((wrap64 ((x4_1.length : Int) - 1)) - x17_1)) : Int).toNat ((ji14) % 256)) (wrap64 (x17_1 + 1))) else (none)) else (none)) = some r := by first | (rw [hji14] at H; exact H) | (simp only [hji14] at H ⊢; exact H)
                have hji14_ : ((IntKind.u64.wrap (a0 * 8)) / 2 ^ min (ji12).toNat 64) = ji14 := hji14
                have hji14z : (ji12) ≤ 64 → ((IntKind.u64.wrap (a0 * 8)) / 2 ^ (ji12).toNat) = ji14 := shr_small hji14
                obtain ⟨ji15, hji15⟩ : ∃ j_ : Int, (wrap64 ((wrap64 ((x4_1.length : Int) - 1)) - x17_1)) = j_ := ⟨_, rfl⟩
                replace H : (if 0 ≤ (ji15) then (if (ji15) < (x4_1.length : Int) then (digest_Tail.l0 k1 a0 (x4_1.set ((ji15) : Int).toNat ((ji14) % 256)) (wrap64 (x17_1 + 1))) else (none)) else (none)) = some r := by first | (rw [hji15] at H; exact H) | (simp only [hji15] at H ⊢; exact H)
                have hji15w : (IntKind.i64.wrap ((wrap64 ((x4_1.length : Int) - 1)) - x17_1)) = ji15 := (i64_w _).trans hji15
                by_cases c16 : 0 ≤ (ji15)
                · rw [if_pos c16] at H
                  have c16b0 : decide (0 ≤ (ji15)) = true := decide_eq_true c16
                  clear c16
                  by_cases c17 : (ji15) < (x4_1.length : Int)
                  · rw [if_pos c17] at H
                    have c17b0 : decide ((ji15) < (x4_1.length : Int)) = true := decide_eq_true c17
                    clear c17
                    obtain ⟨y105, hy105⟩ : ∃ y_ : List Int, y_ = (x4_1.set ((ji15) : Int).toNat ((ji14) % 256)) := ⟨_, rfl⟩
                    replace H : (digest_Tail.l0 k1 a0 y105 (wrap64 (x17_1 + 1))) = some r := by first | (rw [hy105]; with_reducible exact H) | (have H2_ := (Option.bind_some _ _).symm.trans H; rw [hy105]; with_reducible exact H2_) | (have H2_ := (Option.bind_some _ _).symm.trans H; with_reducible exact H2_) | with_reducible exact H | (rw [hy105]; exact H) | exact H
                    have Ny105 := Aside0.mk hy105
                    clear hy105
                    have H' := Aside0.mk H
                    clear H
                    have p18 : 0 ≤ ((ji15) : Int) := of_decide_eq_true (by first | (with_reducible assumption) | assumption)
                    have q18 : ((ji15) : Int) < ((x4_1.length : Int) : Int) := of_decide_eq_true (by first | (with_reducible assumption) | assumption)
                    obtain ⟨hx18_0, hf18_0⟩ := Kd.R_celln 0 HO_4.out ((ji15) : Int) p18 q18
                    replace p18 := eq_true p18
                    replace q18 := eq_true q18
                    have HP19 := Kd.R_putg HO_4.out ((ji15) : Int) ((ji14) % 256)
                    go_wp2_with (first | ((with_reducible refine gate_store (t := 5) (p := 32) rfl ?_); refine store_event (t := 5) (p := 32) (v := ?vo_w20) (w1 := (wr.setCell ⟨go6, ((ji15) : Int).toNat, none⟩ (.int .u8 ((ji14) % 256)))) ?hg ?ho ?hn ?hr ?_; (case ho => rfl); (case hg => rfl); (case hn => rfl); (case hr => first | (go_simp; done) | (go_simp; rfl)); intro w20 hw; have hg : wr.grownBy w20 (some go6) := (by rw [hw]; exact HP19.2); have hp_ : Kd.R (Kd.int .u8) 5 w20 w.heap.size (fun _ => True) (.slice (some ⟨go6, 0, none⟩) x4_1.length co6) y105 := (by rw [hw, Ny105.out]; exact HP19.1); clear HP19; have n0_ := Aside0.mk (hp_); have n1_ := Aside0.mk ((by rw [hw]; exact below_set (HB.out) GB6.out : Below w.heap.size w w20)); clear HO_4; clear HB; have HO_4 := n0_; have HB := n1_; clear n0_ n1_; clear hg hw hp_))
                    (try simp only [← hl4_1])
                    go_roundg k1
                    case measure => have := HK1.out; omega
                    case rel => exact ⟨(y105), (wrap64 (x17_1 + 1)), (by first | rfl | (simp; done) | (simp [*]; done)), H', ⟨by have := HK1.out; omega⟩, ⟨by (try simp only [hl4_1]); (with_reducible repeat (first | apply Kd.R_alloc | apply Kd.R_drewN | apply Kd.R_drew)); exact HO_4.out⟩, ⟨by repeat (first | (with_reducible first | exact HB.out | apply below_alloc | apply pw_below_drewN | apply below_drew1) | exact HB.out)⟩⟩
                  · rw [if_neg c17] at H
                    exact absurd H (by simp)
                · rw [if_neg c16] at H
                  exact absurd H (by simp)
              · rw [if_neg c13] at H
                exact absurd H (by simp)
            · rw [if_neg c11] at H
              have c11b0 : decide (x17_1 < 8) = false := decide_eq_false c11
              clear c11
              obtain rfl := Option.some.inj H
              go_wp2
              go_ret
              exact ⟨_, by first | rfl | (simp [errW_none, errW_some] <;> rfl) | (simp only [← hji2]; first | rfl | (simp [errW_none, errW_some] <;> rfl)) | (simp [*, errW_none, errW_some] <;> rfl), by (with_reducible repeat (first | apply Kd.R_alloc | apply Kd.R_drewN | apply Kd.R_drew)); exact HO_4.out, by repeat (first | (with_reducible first | exact HB.out | apply below_alloc | apply pw_below_drewN | apply below_drew1) | exact HB.out)⟩
      · rw [if_neg c5] at H
        exact absurd H (by simp)
    · rw [if_neg c4] at H
      exact absurd H (by simp)
  · rw [if_neg c3] at H
    exact absurd H (by simp)

end Go.Proofs.Ytnhljemnebgekaa.Pt

/-
  The function Tail of the package digest, as the print tells it, tells the plain tail.
-/
namespace Go.Proofs.Ytnhljemnebgekaa
set_option linter.unusedVariables false
open Sha Go.RowKit Go.Proofs.YtnhljemnebgekaaW.PrintWords Go.Proofs.YtnhljemnebgekaaW.PrintLast Go.Proofs.YtnhljemnebgekaaW.PrintMore Go.Proofs.Ytnhljemnebgekaa.Pt
def vb (n i : Nat) : Int := ((UInt8.ofNat ((n * 8) >>> (8 * i))).toNat : Int)
def vals (n : Nat) : Nat → List Int
  | 0 => []
  | j + 1 => vb n j :: vals n j
theorem vals_length (n : Nat) : ∀ j, (vals n j).length = j
  | 0 => rfl
  | j + 1 => by rw [vals, List.length_cons, vals_length n j]
theorem vals_8 (n : Nat) : vals n 8 = intsB (bytes8 (n * 8)) := rfl
theorem shr_vb (n i : Nat) (hi : i < 8) : (shr .u64 (IntKind.u64.wrap ((n : Int) * 8)) ((8 * i : Nat) : Int)) % 256 = vb n i := by
  unfold shr vb
  rw [IntKind.wrap_u64, UInt8.toNat_ofNat', Nat.shiftRight_eq_div_pow, Int.toNat_natCast, show IntKind.bits .u64 = 64 from rfl, Nat.min_eq_left (by omega)]
  have : i = 0 ∨ i = 1 ∨ i = 2 ∨ i = 3 ∨ i = 4 ∨ i = 5 ∨ i = 6 ∨ i = 7 := by omega
  rcases this with rfl | rfl | rfl | rfl | rfl | rfl | rfl | rfl <;> simp only [Nat.reduceMul, Nat.reducePow, Int.reducePow] <;> omega
theorem wrap64_small {z : Int} (h0 : -9223372036854775808 ≤ z) (h : z ≤ 9223372036854775807) : wrap64 z = z := by unfold wrap64; omega
theorem set_at (A B : List Int) (d : Nat) (v : Int) : (A ++ List.replicate (d + 1) 0 ++ B).set (A.length + d) v = A ++ List.replicate d 0 ++ (v :: B) := by
  rw [List.append_assoc, List.set_append_right _ _ (Nat.le_add_right _ _), Nat.add_sub_cancel_left, List.replicate_succ', List.append_assoc, List.set_append_right _ _ (by simp)]
  simp
theorem tail_l0 (n : Nat) (hn : n < 18446744073709551616) (A : List Int) (hA : A.length ≤ 100) (hA1 : 1 ≤ A.length) : ∀ (d j k : Nat), j + d = 8 → d < k → digest_Tail.l0 k n (A ++ List.replicate d 0 ++ vals n j) j = some (A ++ vals n 8) := by
  intro d
  induction d with
  | zero =>
    intro j k hj hk
    obtain ⟨k, rfl⟩ : ∃ m, k = m + 1 := ⟨k - 1, by omega⟩
    obtain rfl : j = 8 := by omega
    simp only [digest_Tail.l0]
    rw [if_neg (by omega)]
    simp
  | succ d ih =>
    intro j k hj hk
    obtain ⟨k, rfl⟩ : ∃ m, k = m + 1 := ⟨k - 1, by omega⟩
    have hlen : (A ++ List.replicate (d + 1) 0 ++ vals n j).length = A.length + (d + 1) + j := by simp [vals_length]; omega
    have e1 : wrap64 (8 * (j : Int)) = ((8 * j : Nat) : Int) := by rw [wrap64_small (by omega) (by omega)]; omega
    have e2 : wrap64 ((wrap64 (((A ++ List.replicate (d + 1) 0 ++ vals n j).length : Int) - 1)) - j) = ((A.length + d : Nat) : Int) := by
      rw [hlen, wrap64_small (z := ((A.length + (d + 1) + j : Nat) : Int) - 1) (by omega) (by omega), wrap64_small (by omega) (by omega)]; omega
    have e3 : wrap64 ((j : Int) + 1) = ((j + 1 : Nat) : Int) := by rw [wrap64_small (by omega) (by omega)]; omega
    simp only [digest_Tail.l0]
    rw [e1, e2, e3, if_pos (by omega), if_pos (by omega), if_pos (by omega), if_pos (by rw [hlen]; omega), shr_vb n j (by omega), Int.toNat_natCast, set_at]
    exact ih (j + 1) k (by omega) (by omega)
theorem tail_f (n : Nat) (hn : n < 18446744073709551616) (k : Nat) (hk : 9 ≤ k) : digest_Tail.f k n = some (intsB (tail n)) := by
  have e0 : wrap64 (Int.tmod (n : Int) 64) = ((n % 64 : Nat) : Int) := by rw [Int.tmod_eq_emod_of_nonneg (by omega), wrap64_small (by omega) (by omega)]; omega
  have e1 : wrap64 (119 - ((n % 64 : Nat) : Int)) = ((119 - n % 64 : Nat) : Int) := by rw [wrap64_small (by omega) (by omega)]; omega
  have e2 : wrap64 (1 + Int.tmod ((119 - n % 64 : Nat) : Int) 64) = ((1 + room n : Nat) : Int) := by
    rw [Int.tmod_eq_emod_of_nonneg (by omega)]
    unfold room
    rw [wrap64_small (by omega) (by omega)]; omega
  have e3 : wrap64 (((1 + room n : Nat) : Int) + 8) = ((room n + 9 : Nat) : Int) := by
    have : room n < 64 := Nat.mod_lt _ (by decide)
    rw [wrap64_small (by omega) (by omega)]; omega
  have hr : room n < 64 := Nat.mod_lt _ (by decide)
  unfold digest_Tail.f
  rw [e0, e1, e2, e3, if_pos (by omega), Int.toNat_natCast, if_pos (by omega), Option.bind_some, if_pos (by simp; omega)]
  have hs : (List.replicate (room n + 9) (0 : Int)).set (0 : Int).toNat 128 = (128 :: List.replicate (room n) 0) ++ List.replicate 8 0 ++ vals n 0 := by
    rw [show room n + 9 = room n + 8 + 1 by omega, List.replicate_succ, ← List.replicate_append_replicate]; simp [vals]
  rw [hs]
  have h := tail_l0 n hn (128 :: List.replicate (room n) 0) (by simp; omega) (by simp) 8 0 k (by omega) (by omega)
  rw [show ((0 : Nat) : Int) = 0 from rfl] at h
  rw [h, vals_8]
  simp [tail, intsB, List.map_replicate]
theorem tail_any (n : Nat) (hn : n < 18446744073709551616) (w : World) : Calls Try.prog 54 #[.int .u64 n] w fun e w' => ∃ v, e = .returned v ∧ OwnB w' w.heap.size v (tail n) ∧ Below w.heap.size w w' :=
  digest_Tail.calls 9 n (intsB (tail n)) w (tail_f n hn 9 (Nat.le_refl _))
def Ext.digest_Tail.f (a0 : Int) : Option (List Int) := if 0 ≤ a0 ∧ a0 < 18446744073709551616 then some (intsB (tail a0.toNat)) else none
theorem Ext.digest_Tail.f_eq (n : Nat) (h : n < 18446744073709551616) : Ext.digest_Tail.f n = some (intsB (tail n)) := by
  unfold Ext.digest_Tail.f
  rw [if_pos ⟨by omega, by omega⟩, Int.toNat_natCast]
theorem Ext.digest_Tail.calls (a0 : Int) (r : List Int) (w : World) (h : Ext.digest_Tail.f a0 = some r) :
    Calls Try.prog 54 #[.int .u64 a0] w fun e w' => ∃ v0_ : Value, e = .returned (v0_) ∧ Kd.R (Kd.int .u8) 5 w' w.heap.size (fun _ => True) v0_ r ∧ Below w.heap.size w w' := by
  unfold Ext.digest_Tail.f at h
  split at h
  · rename_i hok
    cases h
    obtain ⟨n, rfl⟩ := Int.eq_ofNat_of_zero_le hok.1
    rw [Int.toNat_natCast]
    exact tail_any n (by omega) w
  · cases h
end Go.Proofs.Ytnhljemnebgekaa

/-
  New, Write, Sum and Long of a Hasher and the function Sum of the package digest, in one form: a Hasher that bytes were written to holds these bytes' state.
-/
namespace Go.Proofs.Ytnhljemnebgekaa
open Go.RowKit Go.Shelf Sha Go.Proofs.YtnhljemnebgekaaW.PrintWords Go.Proofs.YtnhljemnebgekaaW.PrintLast Go.Proofs.YtnhljemnebgekaaW.PrintMore
set_option linter.unusedSimpArgs false

/-- The bytes d were written to the Hasher in block p. -/
def Holds (W : World) (p : Nat) (d : List UInt8) : Prop :=
  ∃ (al : Option Addr) (cl : Nat), HashAt W p (run init d (d.length / 64)) (.slice al (d.drop (64 * (d.length / 64))).length cl) d.length ∧ Rd W al (d.drop (64 * (d.length / 64))) ∧ ∀ a, al = some a → a.block ≠ p ∧ a.block < W.heap.size
theorem run_append (x : St) (d e : List UInt8) (q : Nat) (hq : 64 * q ≤ d.length) : run x (d ++ e) ((d ++ e).length / 64) = run (run x d q) (d.drop (64 * q) ++ e) ((d.drop (64 * q) ++ e).length / 64) := by
  have h1 : (d ++ e).length / 64 = q + (d.drop (64 * q) ++ e).length / 64 := by simp only [List.length_append, List.length_drop]; omega
  rw [h1, run_more, run_front x d e q hq, List.drop_append_of_le_length hq]
theorem drop_append (d e : List UInt8) (q : Nat) (hq : 64 * q ≤ d.length) : (d ++ e).drop (64 * ((d ++ e).length / 64)) = (d.drop (64 * q) ++ e).drop (64 * ((d.drop (64 * q) ++ e).length / 64)) := by
  have h1 : 64 * ((d ++ e).length / 64) = 64 * q + 64 * ((d.drop (64 * q) ++ e).length / 64) := by simp only [List.length_append, List.length_drop]; omega
  rw [h1, ← List.drop_drop, List.drop_append_of_le_length hq]
theorem Holds.lt {W : World} {p : Nat} {d : List UInt8} (h : Holds W p d) : p < W.heap.size := by
  obtain ⟨_, _, h, _⟩ := h; exact h.lt
/-- Written behind. -/
theorem write_any (p : Nat) (d b : List UInt8) (ab : Option Addr) (cb : Nat) (w : World) (h : Holds w p d) (hb : Rd w ab b) (hab : ∀ a, ab = some a → 0 < b.length → a.block ≠ p) (hlen : d.length + b.length ≤ 1099511627776) :
    Calls Try.prog 37 #[.pointer (some ⟨p, 0, none⟩), .slice ab b.length cb] w fun e w' => e = .returned (.int .i64 b.length) ∧ Holds w' p (d ++ b) ∧ w.grownBy w' (some p) := by
  obtain ⟨al, cl, hp, hl, hal⟩ := h
  refine callsIn_wide.1 ((write_in p _ al cl _ b d.length ab cb w hp hl hb (fun a e => (hal a e).1) hab (by rw [List.length_drop]; omega) (by omega)).mono ?_)
  rintro e w' ⟨rfl, v, h1, h2, h3⟩
  have hq : 64 * (d.length / 64) ≤ d.length := by omega
  rw [← run_append init d b _ hq] at h1
  rw [← drop_append d b _ hq] at h2
  rw [← List.length_append] at h1
  obtain ⟨a2, c2, rfl, hc2, hr2⟩ := h2.reads
  refine ⟨rfl, ⟨a2, c2, h1, hr2, fun a e => ?_⟩, h3⟩
  have := h2.form.2.2 a e
  have hpl := hp.lt
  exact ⟨by omega, this.2⟩

def initV : Array Value := hashV init (.slice none 0 0) 0
set_option maxRecDepth 100000 in
theorem new_any (w : World) : Calls Try.prog 36 #[] w fun e w' => ∃ p, e = .returned (.pointer (some ⟨p, 0, none⟩)) ∧ Holds w' p [] ∧ w.heap.size ≤ p ∧ Below w.heap.size w w' := by
  go_enter Try.func36, Try.ntmps36
  go_wp2
  go_ret
  refine ⟨w.heap.size, rfl, ⟨none, 0, ?_, Rd.nil _, fun a e => by cases e⟩, Nat.le_refl _, by go_grown⟩
  exact heap_alloc_new _ _
set_option maxRecDepth 100000 in
theorem write_nil (v : Value) (a : Option Addr) (n c : Nat) (hv : v = .slice a n c) (w : World) : Calls Try.prog 37 #[.pointer none, v] w fun e w' => e = .returned (.int .i64 0) ∧ Below w.heap.size w w' := by
  subst hv
  go_enter Try.func37, Try.ntmps37
  go_wp2_with fail
  go_ret
  exact ⟨rfl, by go_grown⟩

/-- A word's four bytes, as the walk tells them. -/
theorem bytes4_int (x : Sha.W) : intsB (bytes4 x) = [IntKind.u8.wrap ((x.toNat : Int) / 16777216), IntKind.u8.wrap ((x.toNat : Int) / 65536), IntKind.u8.wrap ((x.toNat : Int) / 256), IntKind.u8.wrap (x.toNat : Int)] := by
  simp only [bytes4, intsB, List.map_cons, List.map_nil, IntKind.wrap_u8, UInt8.toNat_ofNat']
  simp
theorem bytes4_int' (x : Sha.W) : intsB (bytes4 x) = [(x.toNat : Int) / 16777216, (x.toNat : Int) / 65536 % 256, (x.toNat : Int) / 256 % 256, (x.toNat : Int) % 256] := by
  rw [bytes4_int]
  have := x.isLt
  simp only [IntKind.wrap_u8]
  congr 1
  omega
/-- A new block of four bytes is read. -/
theorem four_read (w : World) (y0 y1 y2 y3 : Int) (T : TypeId) : (Kd.int .u8).C (w.alloc (.cells #[.int .u8 y0, .int .u8 y1, .int .u8 y2, .int .u8 y3] T)) (some ⟨w.heap.size, 0, none⟩) 4 [y0, y1, y2, y3] := by
  refine Kd.C_of_reads (d := (0 : Int)) ⟨rfl, by omega, fun _ => ⟨_, rfl, fun j hj => ?_⟩⟩
  rw [Addr.add_mid, Nat.zero_add, cell_of_row _ _ j _ T (0, 0) (heap_alloc_new w _)]
  have : j = 0 ∨ j = 1 ∨ j = 2 ∨ j = 3 := by omega
  rcases this with rfl | rfl | rfl | rfl <;> rfl
def outTo (x : St) (k : Nat) : List UInt8 := (x.list.take k).flatMap bytes4
theorem outTo_succ (x : St) (k : Nat) (h : k < 8) : outTo x (k + 1) = outTo x k ++ bytes4 (x.list.getD k 0) := by
  have hl : k < x.list.length := h
  unfold outTo
  rw [List.take_succ_eq_append_getElem hl, List.flatMap_append, List.getD_eq_getElem?_getD, List.getElem?_eq_getElem hl]
  simp
theorem outTo_length (x : St) : ∀ k, k ≤ 8 → (outTo x k).length = 4 * k
  | 0, _ => rfl
  | k + 1, h => by rw [outTo_succ x k (by omega), List.length_append, outTo_length x k (by omega)]; rfl

set_option maxRecDepth 100000 in
set_option maxHeartbeats 1000000 in
theorem hsum_any (p : Nat) (d : List UInt8) (w : World) (h : Holds w p d) (hlen : d.length ≤ 1099511000000) :
    Calls Try.prog 39 #[.pointer (some ⟨p, 0, none⟩)] w fun e w' => ∃ v, e = .returned v ∧ OwnB w' w.heap.size v (Sha.sum d) ∧ Below w.heap.size w w' := by
  obtain ⟨al, cl, hp, hl, hal⟩ := h
  obtain ⟨st, hst⟩ : ∃ st, run init d (d.length / 64) = st := ⟨_, rfl⟩
  rw [hst] at hp
  obtain ⟨sA, sB, sC, sD, sE, sF, sG, sH⟩ := st
  obtain ⟨n, hn⟩ : ∃ n, d.length = n := ⟨_, rfl⟩
  obtain ⟨nl, hnl⟩ : ∃ nl, (d.drop (64 * (d.length / 64))).length = nl := ⟨_, rfl⟩
  rw [hnl] at hp
  rw [hn] at hp hlen
  have c0 : w.cell? ⟨p, 0, none⟩ = some (.int .u32 (sA.toNat : Int)) := hp.cell rfl
  have c1 : w.cell? ⟨p, 1, none⟩ = some (.int .u32 (sB.toNat : Int)) := hp.cell rfl
  have c2 : w.cell? ⟨p, 2, none⟩ = some (.int .u32 (sC.toNat : Int)) := hp.cell rfl
  have c3 : w.cell? ⟨p, 3, none⟩ = some (.int .u32 (sD.toNat : Int)) := hp.cell rfl
  have c4 : w.cell? ⟨p, 4, none⟩ = some (.int .u32 (sE.toNat : Int)) := hp.cell rfl
  have c5 : w.cell? ⟨p, 5, none⟩ = some (.int .u32 (sF.toNat : Int)) := hp.cell rfl
  have c6 : w.cell? ⟨p, 6, none⟩ = some (.int .u32 (sG.toNat : Int)) := hp.cell rfl
  have c7 : w.cell? ⟨p, 7, none⟩ = some (.int .u32 (sH.toNat : Int)) := hp.cell rfl
  have c8 : w.cell? ⟨p, 8, none⟩ = some (.slice al nl cl) := hp.cell rfl
  have c9 : w.cell? ⟨p, 9, none⟩ = some (.int .u64 (n : Int)) := hp.cell rfl
  have hpl := hp.lt
  have HP := Lib.hid hp; have HST := Lib.hid hst; have HN := Lib.hid hn; have HNL := Lib.hid hnl; have HL := Lib.hid hl; have HAL := Lib.hid hal
  clear hp hst hn hnl hl hal
  go_enter Try.func39, Try.ntmps39
  go_wp2_with fail
  obtain ⟨W1, hW1⟩ : ∃ W1, w.alloc (.cells #[.int .u32 (sA.toNat : Int), .int .u32 (sB.toNat : Int), .int .u32 (sC.toNat : Int), .int .u32 (sD.toNat : Int), .int .u32 (sE.toNat : Int), .int .u32 (sF.toNat : Int), .int .u32 (sG.toNat : Int), .int .u32 (sH.toNat : Int), .slice al nl cl, .int .u64 (n : Int)] 75) = W1 := ⟨_, rfl⟩
  rw [hW1]
  have hold : Holds W1 w.heap.size d := by
    refine ⟨al, cl, ?_, HL.out.below (by rw [← hW1]; exact (Below.refl _ w).alloc (Nat.le_refl _) _), fun a e => ?_⟩
    · rw [HST.out, HNL.out, HN.out, ← hW1]; exact heap_alloc_new _ _
    · have := HAL.out a e
      rw [← hW1]; simp; omega
  have hb1 : Below w.heap.size w W1 := by rw [← hW1]; exact (Below.refl _ w).alloc (Nat.le_refl _) _
  have hs1 : W1.heap.size = w.heap.size + 1 := by rw [← hW1]; simp
  refine (tail_any n (by omega) W1).mono ?_
  rintro e W2 ⟨v, rfl, ho, hb2⟩
  obtain ⟨a2, k2, rfl, hk2, hr2⟩ := ho.reads
  have hold2 : Holds W2 w.heap.size d := by
    obtain ⟨al', cl', h1, h2, h3⟩ := hold
    exact ⟨al', cl', h1.below hb2, h2.below hb2, fun a e => ⟨(h3 a e).1, Nat.lt_of_lt_of_le (h3 a e).2 hb2.size⟩⟩
  have hwr := write_any w.heap.size d (tail n) a2 k2 W2 hold2 hr2 (fun a e _ => by have := ho.form.2.2 a e; omega) (by rw [tail_length, HN.out]; have : room n < 64 := Nat.mod_lt _ (by decide); omega)
  have HW := Lib.hid hwr; have HB1 := Lib.hid hb1; have HB2 := Lib.hid hb2; have HS1 := Lib.hid hs1
  clear hwr hold2 hr2 ho hold hW1 hb1 hb2 hs1
  go_wp2_with fail
  refine HW.out.mono ?_
  rintro e W3 ⟨rfl, hold3, hg3⟩
  obtain ⟨al3, cl3, hp3, _, _⟩ := hold3
  have hlen3 : (d ++ tail n).length / 64 = (d.length + (tail d.length).length) / 64 := by rw [List.length_append, HN.out]
  have hst3 : out (run init (d ++ tail n) ((d ++ tail n).length / 64)) = Sha.sum d := by
    unfold Sha.sum; rw [hlen3, HN.out]
  obtain ⟨st, hst⟩ : ∃ st, run init (d ++ tail n) ((d ++ tail n).length / 64) = st := ⟨_, rfl⟩
  rw [hst] at hp3 hst3
  obtain ⟨q0, q1, q2, q3, q4, q5, q6, q7⟩ := st
  have HST3 := Lib.hid hst3
  clear hst3 hlen3 hst c0 c1 c2 c3 c4 c5 c6 c7 c8 c9
  have c0 : W3.cell? ⟨w.heap.size, 0, none⟩ = some (.int .u32 (q0.toNat : Int)) := hp3.cell rfl
  have c1 : W3.cell? ⟨w.heap.size, 1, none⟩ = some (.int .u32 (q1.toNat : Int)) := hp3.cell rfl
  have c2 : W3.cell? ⟨w.heap.size, 2, none⟩ = some (.int .u32 (q2.toNat : Int)) := hp3.cell rfl
  have c3 : W3.cell? ⟨w.heap.size, 3, none⟩ = some (.int .u32 (q3.toNat : Int)) := hp3.cell rfl
  have c4 : W3.cell? ⟨w.heap.size, 4, none⟩ = some (.int .u32 (q4.toNat : Int)) := hp3.cell rfl
  have c5 : W3.cell? ⟨w.heap.size, 5, none⟩ = some (.int .u32 (q5.toNat : Int)) := hp3.cell rfl
  have c6 : W3.cell? ⟨w.heap.size, 6, none⟩ = some (.int .u32 (q6.toNat : Int)) := hp3.cell rfl
  have c7 : W3.cell? ⟨w.heap.size, 7, none⟩ = some (.int .u32 (q7.toNat : Int)) := hp3.cell rfl
  have hB3 : Below w.heap.size w W3 := by
    have h2 : Below w.heap.size w W2 := HB1.out.trans (HB2.out.mono (by have := HS1.out; omega))
    exact ⟨hg3.os.trans h2.os, hg3.tape.trans h2.tape, hg3.output.trans h2.output, Nat.le_trans h2.size hg3.size, fun k hk => (hg3.block k (Nat.lt_of_lt_of_le hk h2.size) (by simp; omega)).trans (h2.block k hk)⟩
  have HB3 := Lib.hid hB3
  clear hB3 hg3 hp3
  go_wp2_with fail
  obtain ⟨KV, hKV⟩ : ∃ KV : Array Value, #[.int .u32 (q0.toNat : Int), .int .u32 (q1.toNat : Int), .int .u32 (q2.toNat : Int), .int .u32 (q3.toNat : Int), .int .u32 (q4.toNat : Int), .int .u32 (q5.toNat : Int), .int .u32 (q6.toNat : Int), .int .u32 (q7.toNat : Int)] = KV := ⟨_, rfl⟩
  rw [hKV]
  have hkv : KV = (u32s (St.list ⟨q0, q1, q2, q3, q4, q5, q6, q7⟩)).toArray := hKV.symm
  have HKV := Lib.hid hkv
  clear hKV hkv c0 c1 c2 c3 c4 c5 c6 c7
  obtain ⟨st, hst⟩ : ∃ st : St, ⟨q0, q1, q2, q3, q4, q5, q6, q7⟩ = st := ⟨_, rfl⟩
  rw [hst] at HKV HST3
  clear hst
  go_loopw [4, 21] (fun v i wr => ∃ (k : Nat) (vv : Value), k ≤ 8 ∧ i = .int .i64 k ∧ v = vv ∧ OwnB wr w.heap.size vv (outTo st k) ∧ Below w.heap.size w wr) (fun _ i _ => 8 - (intOf i).toNat)
  case atStart => exact ⟨0, _, by omega, rfl, rfl, OwnB.nil _ _, HB3.out⟩
  case round =>
    obtain ⟨k, v, hk, rfl, rfl, ho, hb⟩ := hrel
    obtain ⟨a4, k4, rfl, _, _⟩ := ho.reads
    have hlo := outTo_length st k hk
    rw [hlo] at ho ⊢
    have HO := Lib.hid ho; have HB := Lib.hid hb
    clear ho hb
    by_cases hlt : k < 8
    · obtain ⟨xk, hxk⟩ : ∃ x, st.list.getD k 0 = x := ⟨_, rfl⟩
      have ck : KV[k]? = some (.int .u32 (xk.toNat : Int)) := by
        have hl : k < st.list.length := hlt
        rw [HKV.out, ← hxk, List.getD_eq_getElem?_getD]
        simp [u32s, List.getElem?_eq_getElem hl]
      have hks : KV.size = 8 := by rw [HKV.out]; rfl
      have hki : (k : Int) < 8 := by omega
      have hidx : ∀ wr : World, (Instr.index 73 (.agg KV) (.int .i64 (k : Int))).run Try.prog wr = .ok (.int .u32 (xk.toNat : Int)) wr := fun wr => by
        have hs43 : (sizeOf 71).run Try.prog wr = .ok 1 wr := by
          have h := info43
          cases hi : Try.prog.info? 71 with
          | none => rw [hi] at h; simp at h
          | some i43 => rw [hi] at h; simp at h; simp [sizeOf, typeInfo, hi, h]
        simp [Instr.index, run_underlying Try.underlying73, asIntOf, hki, hs43, part, go_sem, ck]
        intro hbad; omega
      have HXK := Lib.hid hxk
      have hxl := xk.isLt
      clear hxk ck hks
      have hy := bytes4_int' xk
      obtain ⟨y0, hy0⟩ : ∃ y, (xk.toNat : Int) / 16777216 = y := ⟨_, rfl⟩
      have HY := Lib.hid hy
      clear hy
      clear hy0 y0
      go_wp2_with (at_builtin; refine Kd.R_append_row (Value.int .u8) (0 : Int) (h1 := fun _ => rfl) (w0 := w) w.heap.size rfl _ _ 22 5 (.int .u8 0) 1 rfl Try.underlying22 infoB rfl (by decide) _ (intsB (outTo st k)) [(xk.toNat : Int) / 16777216, (xk.toNat : Int) / 65536 % 256, (xk.toNat : Int) / 256 % 256, (xk.toNat : Int) % 256] (some ⟨wr.heap.size, 0, none⟩) 4 4 (fun _ => True) rfl rfl (fun _ _ => trivial) ?k1 ?k2 ?k3 ?k4 ?k5 ?_)
      case k1 => exact HO.out.below (below_alloc (Below.refl _ _) _)
      case k2 => exact four_read wr _ _ _ _ 5
      case k3 => exact HB.out.alloc HB.out.size _
      case k4 => have := HB.out.size; simp; omega
      case k5 => rw [intsB_length, hlo]; omega
      intro v1 w2 hR hB2 _ _
      rw [← HY.out, ← intsB_append] at hR
      have hR2 : OwnB w2 w.heap.size v1 (outTo st (k + 1)) := by rw [outTo_succ st k hlt, HXK.out]; exact hR
      have HR := Lib.hid hR2
      have HB3 := Lib.hid hB2
      clear hR hR2 hB2
      go_wp2_with fail
      go_roundw
      case rel => exact ⟨k + 1, _, by omega, by go_num, rfl, HR.out, HB3.out⟩
      case measure => simp [intOf]; omega
    · obtain rfl : k = 8 := by omega
      go_wp2_with fail
      go_ret
      have hf : outTo st 8 = Sha.sum d := HST3.out
      exact ⟨_, rfl, by rw [← hf]; exact HO.out, HB.out⟩
end Go.Proofs.Ytnhljemnebgekaa

/-
  The function Sum of the package digest, called on any row of bytes that is no longer than the bound, returns the plain sum of 256 bits in a new row.
-/
namespace Go.Proofs.Ytnhljemnebgekaa
open Go.RowKit Sha Go.Proofs.YtnhljemnebgekaaW.PrintWords Go.Proofs.YtnhljemnebgekaaW.PrintLast
set_option maxRecDepth 100000 in
theorem digest_sum_any (a : Option Addr) (c : Nat) (l : List UInt8) (w : World) (h : Rd w a l) (hl : l.length ≤ 1099511000000) :
    Calls Try.prog 31 #[.slice a l.length c] w fun e w' => ∃ v, e = .returned v ∧ OwnB w' w.heap.size v (Sha.sum l) ∧ Below w.heap.size w w' := by
  obtain ⟨n, hn⟩ : ∃ n, l.length = n := ⟨_, rfl⟩
  have HN := Lib.hid hn
  rw [hn]
  have H := Lib.hid h
  clear hn h
  go_enter Try.func31, Try.ntmps31
  go_wp2_with fail
  refine (new_any w).mono ?_
  rintro e w1 ⟨p, rfl, hh, hp, hb⟩
  have hal : ∀ ad, a = some ad → 0 < n → ad.block < w.heap.size := fun ad e hp => by
    obtain ⟨b, off, e2, hlt, _⟩ := H.out.bytesAt (by rw [HN.out]; exact hp)
    rw [e] at e2; cases e2; exact hlt
  have HAL := Lib.hid hal
  have HH := Lib.hid hh
  have HB := Lib.hid hb
  clear hal hh hb
  go_wp2_with fail
  have hwr : Calls Try.prog 37 #[.pointer (some ⟨p, 0, none⟩), .slice a n c] w1 fun e w' => e = .returned (.int .i64 n) ∧ Holds w' p l ∧ w1.grownBy w' (some p) := by
    have := write_any p [] l a c w1 HH.out (H.out.below HB.out) (fun ad e hz => by have := HAL.out ad e (by rw [← HN.out]; exact hz); omega) (by simp; omega)
    rwa [HN.out, List.nil_append] at this
  refine hwr.mono ?_
  rintro e w2 ⟨rfl, hh2, hg2⟩
  have HH2 := Lib.hid hh2
  have HG2 := Lib.hid hg2
  clear hwr hh2 hg2
  go_wp2_with fail
  refine (hsum_any p l w2 HH2.out hl).mono ?_
  rintro e w3 ⟨v, rfl, ho, hb3⟩
  have hb2 : Below w.heap.size w w2 := ⟨HG2.out.os.trans HB.out.os, HG2.out.tape.trans HB.out.tape, HG2.out.output.trans HB.out.output, Nat.le_trans HB.out.size HG2.out.size, fun k hk => (HG2.out.block k (Nat.lt_of_lt_of_le hk HB.out.size) (by simp; omega)).trans (HB.out.block k hk)⟩
  obtain ⟨av, cv, rfl, _, _⟩ := ho.reads
  go_wp2_with fail
  go_ret
  exact ⟨_, rfl, ho.lower hb2.size, hb2.trans (hb3.mono hb2.size)⟩
set_option maxRecDepth 100000 in
theorem hsum_nil (w : World) : Calls Try.prog 39 #[.pointer none] w fun e w' => ∃ v, e = .returned v ∧ OwnB w' w.heap.size v (Sha.sum []) ∧ Below w.heap.size w w' := by
  go_enter Try.func39, Try.ntmps39
  go_wp2_with fail
  refine (digest_sum_any none 0 [] w (Rd.nil w) (by simp)).mono ?_
  rintro e w1 ⟨v, rfl, ho, hb⟩
  obtain ⟨av, cv, rfl, _, _⟩ := ho.reads
  go_wp2_with fail
  go_ret
  exact ⟨_, rfl, ho, hb⟩
theorem rd_intsB (l : List UInt8) (i : Nat) : rd (intsB l) (i : Int) = ((l.getD i 0).toNat : Int) := by
  show (intsB l).getD ((i : Int).toNat) 0 = _
  rw [Int.toNat_natCast, intsB, List.getD_eq_getElem?_getD, List.getElem?_map, List.getD_eq_getElem?_getD]
  cases l[i]? <;> simp
/-- Are they bytes, and not too many? -/
def bytesOk (l : List Int) : Bool := decide (intsB (bytesI l) = l) && decide (l.length ≤ 1099511000000)
def Ext.digest_Sum.f (l0 : List Int) : Option (List Int) := if bytesOk l0 = true then some (intsB (Sha.sum (bytesI l0))) else none
theorem bytesOk_intsB (l : List UInt8) (h : l.length ≤ 1099511000000) : bytesOk (intsB l) = true := by
  unfold bytesOk
  rw [bytesI_intsB, intsB_length]
  simp [h]
theorem Ext.digest_Sum.f_eq (l : List UInt8) (h : l.length ≤ 1099511000000) : Ext.digest_Sum.f (intsB l) = some (intsB (Sha.sum l)) := by
  unfold Ext.digest_Sum.f
  rw [if_pos (bytesOk_intsB l h), bytesI_intsB]
theorem Ext.digest_Sum.calls (A0 : Option Addr) (c0 : Nat) (l0 : List Int) (r : List Int) (w : World) (hr0 : Kd.C (Kd.int .u8) w A0 l0.length l0) (_hc0 : l0.length ≤ c0) (h : Ext.digest_Sum.f l0 = some r) :
    Calls Try.prog 31 #[.slice A0 l0.length c0] w fun e w' => ∃ v0_ : Value, e = .returned (v0_) ∧ Kd.R (Kd.int .u8) 5 w' w.heap.size (fun _ => True) v0_ r ∧ Below w.heap.size w w' := by
  unfold Ext.digest_Sum.f at h
  split at h
  · rename_i hok
    cases h
    unfold bytesOk at hok
    simp only [Bool.and_eq_true, decide_eq_true_eq] at hok
    have hl : (bytesI l0).length = l0.length := by simp [bytesI]
    have hr : Rd w A0 (bytesI l0) := by unfold Rd; rw [hl, hok.1]; exact hr0
    have := digest_sum_any A0 c0 (bytesI l0) w hr (by rw [hl]; exact hok.2)
    rw [hl] at this
    exact this
  · cases h
end Go.Proofs.Ytnhljemnebgekaa

/-
  The functions masked and layer of the package seal, called on any rows of bytes, return the masked key and the plain sum behind it.
-/
namespace Go.Proofs.Ytnhljemnebgekaa
open Go.RowKit Sha Go.Proofs.YtnhljemnebgekaaW.PrintWords Go.Proofs.YtnhljemnebgekaaW.PrintLast
set_option linter.unusedSimpArgs false
/-- A key of a block, each byte turned. -/
def keyOf (l : List UInt8) : List UInt8 := if 64 < l.length then Sha.sum l else l
def padOf (l : List UInt8) : List UInt8 := l ++ List.replicate (64 - l.length) 0
def mask64 (l : List UInt8) (m : UInt8) : List UInt8 := (padOf (keyOf l)).map (· ^^^ m)
def layerOf (l : List UInt8) (m : UInt8) (msg : List UInt8) : List UInt8 := Sha.sum (mask64 l m ++ msg)
theorem keyOf_length (l : List UInt8) : (keyOf l).length ≤ 64 := by
  unfold keyOf
  split
  · rw [Sha.sum_length]; omega
  · omega
theorem padOf_length (l : List UInt8) (h : l.length ≤ 64) : (padOf l).length = 64 := by simp [padOf]; omega
theorem mask64_length (l : List UInt8) (m : UInt8) : (mask64 l m).length = 64 := by
  unfold mask64; rw [List.length_map, padOf_length _ (keyOf_length l)]
theorem xor8 (x y : UInt8) : bits .xor .u8 (x.toNat : Int) (y.toNat : Int) = ((x ^^^ y).toNat : Int) := by
  rw [u8_xor_nat _ _ x.toNat_lt y.toNat_lt, UInt8.toNat_xor]
theorem OwnB.cellAt {w : World} {base g n c : Nat} {l : List UInt8} (h : OwnB w base (.slice (some ⟨g, 0, none⟩) n c) l) (i : Nat) (hi : i < l.length) : w.cell? ⟨g, i, none⟩ = some (.int .u8 ((l.getD i 0).toNat : Int)) ∧ w.frozen? ⟨g, i, none⟩ = false := by
  have hn : n = l.length := by have := (Kd.R_reads' h).1; rwa [intsB_length] at this
  have := Kd.R_celln (0 : Int) h (i : Int) (by omega) (by omega)
  rw [Int.toNat_natCast] at this
  refine ⟨?_, this.2⟩
  rw [this.1]
  have e : rdOf 0 (intsB l) (i : Int) = rd (intsB l) (i : Int) := rfl
  rw [e, rd_intsB]
theorem OwnB.put {w : World} {base g n c : Nat} {l : List UInt8} (h : OwnB w base (.slice (some ⟨g, 0, none⟩) n c) l) (i : Nat) (x : UInt8) : OwnB (w.setCell ⟨g, i, none⟩ (.int .u8 (x.toNat : Int))) base (.slice (some ⟨g, 0, none⟩) n c) (l.set i x) := by
  have := Kd.R_putn h (i : Int) (x.toNat : Int)
  rw [Int.toNat_natCast] at this
  unfold OwnB
  have e : intsB (l.set i x) = (intsB l).set i (x.toNat : Int) := by simp [intsB, List.map_set]
  rw [e]; exact this
/-- A block of bytes, known whole, is a row of the call's own. -/
theorem own_of_heap {w : World} {base g : Nat} {l : List UInt8} (hb : base ≤ g) (h : w.heap[g]? = some (.cells (u8s l).toArray 5 (0, 0))) (hl : l.length ≤ 9223372036854775807) : OwnB w base (.slice (some ⟨g, 0, none⟩) l.length l.length) l := by
  refine Kd.R_of_own ?_ (fun _ _ => trivial)
  rw [intsB_length]
  exact ⟨by simp [encs, intsB], .inr ⟨g, l.length, _, rfl, hb, h, Nat.le_refl _, by simpa [maxLen] using hl, by simp [u8s], by rw [Nat.mul_one, List.take_of_length_le (by simp [u8s])]; simp [u8s, encs, intsB]⟩⟩
def turnedTo (p : List UInt8) (m : UInt8) (j : Nat) : List UInt8 := (p.take j).map (· ^^^ m) ++ p.drop j
theorem turnedTo_succ (p : List UInt8) (m : UInt8) (j : Nat) (h : j < p.length) : (turnedTo p m j).set j ((turnedTo p m j).getD j 0 ^^^ m) = turnedTo p m (j + 1) := by
  have hl : ((p.take j).map (· ^^^ m)).length = j := by simp; omega
  have hd : p.drop j = p[j] :: p.drop (j + 1) := List.drop_eq_getElem_cons h
  have hg : (turnedTo p m j).getD j 0 = p[j] := by
    unfold turnedTo
    rw [List.getD_eq_getElem?_getD, List.getElem?_append_right (by omega), hl, Nat.sub_self, hd]; rfl
  rw [hg]
  unfold turnedTo
  rw [List.set_append_right _ _ (by omega), hl, Nat.sub_self, hd, List.set_cons_zero, List.take_succ_eq_append_getElem h, List.map_append]
  simp
theorem turnedTo_length (p : List UInt8) (m : UInt8) (j : Nat) : (turnedTo p m j).length = p.length := by
  simp [turnedTo]; omega
def zeroL : List Value := List.replicate 64 (.int .u8 0)
def zero8 : Array Value := zeroL.toArray
theorem make64 (w : World) : (Instr.makeSlice 22 (.int .i64 64) (.int .i64 64)).run Try.prog w = .ok (.slice (some ⟨w.heap.size, 0, none⟩) 64 64) (w.alloc (.cells zero8 5)) := by kernel_rfl
theorem zeroL_length : zeroL.length = 64 := List.length_replicate
theorem splice_at (N : Nat) (z : Value) (cs : List Value) : splice (List.replicate N z) 0 cs = cs ++ List.replicate (N - cs.length) z := by
  simp [splice, List.drop_replicate]
theorem pad_splice (l : List UInt8) : splice zeroL 0 (u8s l) = u8s (padOf l) := by
  unfold zeroL
  rw [splice_at]
  unfold padOf u8s
  rw [List.map_append, List.map_replicate, List.length_map]
  rfl

set_option maxRecDepth 100000 in
set_option maxHeartbeats 1000000 in
theorem masked_any (a : Option Addr) (c : Nat) (l : List UInt8) (m : UInt8) (w : World) (h : Rd w a l) (hl : l.length ≤ 1099511000000) :
    Calls Try.prog 38 #[.slice a l.length c, .int .u8 m.toNat] w fun e w' => ∃ v, e = .returned v ∧ OwnB w' w.heap.size v (mask64 l m) ∧ Below w.heap.size w w' := by
  have hmk := make64
  have hsz5 : (Try.prog.info? 5).map (·.size) = some 1 := by kernel_rfl
  have hml := m.toNat_lt
  obtain ⟨n, hn⟩ : ∃ n, l.length = n := ⟨_, rfl⟩
  rw [hn] at hl ⊢
  have H := Lib.hid h; have HN := Lib.hid hn
  clear h hn
  by_cases hb : 64 < n
  · obtain ⟨S, hS⟩ : ∃ S, Sha.sum l = S := ⟨_, rfl⟩
    have hn64 : S.length ≤ 64 := by rw [← hS, Sha.sum_length]; omega
    have hkey : keyOf l = S := by unfold keyOf; rw [if_pos (by rw [HN.out]; exact hb), hS]
    have hds := digest_sum_any a c l w H.out (by rw [HN.out]; exact hl)
    rw [HN.out, hS] at hds
    have HDS := Lib.hid hds; have HK := Lib.hid hkey
    clear hkey hS hds
    go_enter Try.func38, Try.ntmps38
    go_wp2_with fail
    refine HDS.out.mono ?_
    rintro e W1 ⟨v1, rfl, ho1, hb1⟩
    obtain ⟨a1, c1, rfl, hc1, hr1⟩ := ho1.reads
    have HR1 := Lib.hid hr1; have HB1 := Lib.hid hb1
    clear hr1 hb1 ho1 HDS
    have hcs : (u8s S).length = Nat.min S.length 64 := by
      rw [u8s, List.length_map]
      exact (Nat.min_eq_left hn64).symm
    have hsrc : 0 < (u8s S).length → ∃ ad, a1 = some ad ∧ ∀ j v, (u8s S)[j]? = some v → (W1.alloc (.cells zero8 5)).cell? (ad.add j) = some v := fun hp => by
      obtain ⟨b, off, rfl, hlt, hc⟩ := (HR1.out.below (below_alloc (Below.refl _ _) (.cells zero8 5))).bytesAt (by simpa [u8s] using hp)
      refine ⟨_, rfl, fun j v hv => ?_⟩
      have hj : j < S.length := by have := (List.getElem?_eq_some_iff.1 hv).1; simpa [u8s] using this
      rw [Addr.add_mid, hc j hj, ← hv]
      simp [u8s, List.getElem?_eq_getElem hj]
    have hz1 : (W1.alloc (.cells zero8 5)).heap[W1.heap.size]? = some (.cells zeroL.toArray 5 (0, 0)) := heap_alloc_new W1 _
    have hfit : 0 + (u8s S).length ≤ zeroL.length := by rw [hcs, zeroL_length, Nat.zero_add]; exact Nat.min_le_right _ _
    have HZ1 := Lib.hid hz1; have HFIT := Lib.hid hfit
    clear hz1 hfit
    have HCS := Lib.hid hcs; have HSRC := Lib.hid hsrc
    clear hcs hsrc
    go_wp2_with (with_reducible refine wpList_copy_splice rfl (.tmp 13) (.tmp 14) 22 22 rfl 5 Try.underlying22 hsz5 (some ⟨W1.heap.size, 0, none⟩) a1 64 64 S.length c1 rfl rfl W1.heap.size 0 zeroL 5 HZ1.out (u8s S) HCS.out (fun hp => ⟨rfl, HSRC.out hp⟩) HFIT.out ?k3 w.heap.size w ?k4 (HB1.out.size) ?_)
    case k3 =>
      intro v hv
      obtain ⟨x, _, rfl⟩ := List.mem_map.1 hv
      rfl
    case k4 => exact HB1.out.alloc HB1.out.size _
    intro w2 hheap hb2
    have hheap := hheap.out
    rw [pad_splice] at hheap
    have hpl : (padOf S).length = 64 := padOf_length S hn64
    have hown : OwnB w2 w.heap.size (.slice (some ⟨W1.heap.size, 0, none⟩) 64 64) (padOf S) := by
      have := own_of_heap HB1.out.size hheap (by rw [hpl]; omega)
      rwa [hpl] at this
    have HOW := Lib.hid hown; have HB2 := Lib.hid hb2; have HPL := Lib.hid hpl
    clear hown hb2 hheap hpl
    go_wp2_with fail
    go_loopw [18] (fun i wr => ∃ j : Nat, j ≤ 64 ∧ i = .int .i64 j ∧ OwnB wr w.heap.size (.slice (some ⟨W1.heap.size, 0, none⟩) 64 64) (turnedTo (padOf S) m j) ∧ Below w.heap.size w wr) (fun i _ => 64 - (intOf i).toNat)
    case atStart => exact ⟨0, by omega, rfl, HOW.out, HB2.out⟩
    case round =>
      obtain ⟨j, hj, rfl, hs1, hb4⟩ := hrel
      have HS1 := Lib.hid hs1; have HB4 := Lib.hid hb4
      clear hs1 hb4
      by_cases hlt : j < 64
      · obtain ⟨x, hx⟩ : ∃ x, (turnedTo (padOf S) m j).getD j 0 = x := ⟨_, rfl⟩
        have hcf := HS1.out.cellAt j (by rw [turnedTo_length, HPL.out]; exact hlt)
        rw [hx] at hcf
        obtain ⟨hc, hf⟩ := hcf
        have hxr := xor8 x m
        have hsu := turnedTo_succ (padOf S) m j (by rw [HPL.out]; exact hlt)
        rw [hx] at hsu
        have HSU := Lib.hid hsu
        clear hx hsu
        go_wp2_with fail
        go_roundw
        case rel =>
          refine ⟨j + 1, by omega, by go_num, ?_, HB4.out.setCell (p := ⟨W1.heap.size, j, none⟩) HB1.out.size _⟩
          rw [← HSU.out]
          exact HS1.out.put j (x ^^^ m)
        case measure => simp [intOf]; omega
      · obtain rfl : j = 64 := by omega
        go_wp2_with fail
        go_ret
        have hfin : turnedTo (padOf S) m 64 = mask64 l m := by
          unfold turnedTo mask64
          rw [HK.out, List.take_of_length_le (by rw [HPL.out]; omega), List.drop_of_length_le (by rw [HPL.out]; omega), List.append_nil]
        exact ⟨_, rfl, by rw [← hfin]; exact HS1.out, HB4.out⟩
  · have hkey : keyOf l = l := by unfold keyOf; rw [if_neg (by rw [HN.out]; exact hb)]
    have HK := Lib.hid hkey
    clear hkey
    have hn64 : n ≤ 64 := by omega
    go_enter Try.func38, Try.ntmps38
    have hcs : (u8s l).length = Nat.min n 64 := by
      rw [u8s, List.length_map, HN.out]
      exact (Nat.min_eq_left hn64).symm
    have hsrc : 0 < (u8s l).length → ∃ ad, a = some ad ∧ ∀ j v, (u8s l)[j]? = some v → (w.alloc (.cells zero8 5)).cell? (ad.add j) = some v := fun hp => by
      obtain ⟨b, off, rfl, hlt, hc⟩ := (H.out.below (below_alloc (Below.refl _ _) (.cells zero8 5))).bytesAt (by simpa [u8s] using hp)
      refine ⟨_, rfl, fun j v hv => ?_⟩
      have hj : j < l.length := by have := (List.getElem?_eq_some_iff.1 hv).1; simpa [u8s] using this
      rw [Addr.add_mid, hc j hj, ← hv]
      simp [u8s, List.getElem?_eq_getElem hj]
    have hz1 : (w.alloc (.cells zero8 5)).heap[w.heap.size]? = some (.cells zeroL.toArray 5 (0, 0)) := heap_alloc_new w _
    have hfit : 0 + (u8s l).length ≤ zeroL.length := by rw [hcs, zeroL_length, Nat.zero_add]; exact Nat.min_le_right _ _
    have HZ1 := Lib.hid hz1; have HFIT := Lib.hid hfit
    clear hz1 hfit
    have HCS := Lib.hid hcs; have HSRC := Lib.hid hsrc
    clear hcs hsrc
    go_wp2_with (with_reducible refine wpList_copy_splice rfl (.tmp 13) (.tmp 14) 22 22 rfl 5 Try.underlying22 hsz5 (some ⟨w.heap.size, 0, none⟩) a 64 64 n c rfl rfl w.heap.size 0 zeroL 5 HZ1.out (u8s l) HCS.out (fun hp => ⟨rfl, HSRC.out hp⟩) HFIT.out ?k3 w.heap.size w ?k4 (Nat.le_refl _) ?_)
    case k3 =>
      intro v hv
      obtain ⟨x, _, rfl⟩ := List.mem_map.1 hv
      rfl
    case k4 => exact below_alloc (Below.refl _ _) _
    intro w2 hheap hb2
    have hheap := hheap.out
    rw [pad_splice] at hheap
    have hpl : (padOf l).length = 64 := padOf_length l (by rw [HN.out]; exact hn64)
    have hown : OwnB w2 w.heap.size (.slice (some ⟨w.heap.size, 0, none⟩) 64 64) (padOf l) := by
      have := own_of_heap (Nat.le_refl w.heap.size) hheap (by rw [hpl]; omega)
      rwa [hpl] at this
    have HOW := Lib.hid hown; have HB2 := Lib.hid hb2; have HPL := Lib.hid hpl
    clear hown hb2 hheap hpl
    go_wp2_with fail
    go_loopw [18] (fun i wr => ∃ j : Nat, j ≤ 64 ∧ i = .int .i64 j ∧ OwnB wr w.heap.size (.slice (some ⟨w.heap.size, 0, none⟩) 64 64) (turnedTo (padOf l) m j) ∧ Below w.heap.size w wr) (fun i _ => 64 - (intOf i).toNat)
    case atStart => exact ⟨0, by omega, rfl, HOW.out, HB2.out⟩
    case round =>
      obtain ⟨j, hj, rfl, hs1, hb4⟩ := hrel
      have HS1 := Lib.hid hs1; have HB4 := Lib.hid hb4
      clear hs1 hb4
      by_cases hlt : j < 64
      · obtain ⟨x, hx⟩ : ∃ x, (turnedTo (padOf l) m j).getD j 0 = x := ⟨_, rfl⟩
        have hcf := HS1.out.cellAt j (by rw [turnedTo_length, HPL.out]; exact hlt)
        rw [hx] at hcf
        obtain ⟨hc, hf⟩ := hcf
        have hxr := xor8 x m
        have hsu := turnedTo_succ (padOf l) m j (by rw [HPL.out]; exact hlt)
        rw [hx] at hsu
        have HSU := Lib.hid hsu
        clear hx hsu
        go_wp2_with fail
        go_roundw
        case rel =>
          refine ⟨j + 1, by omega, by go_num, ?_, HB4.out.setCell (p := ⟨w.heap.size, j, none⟩) (Nat.le_refl _) _⟩
          rw [← HSU.out]
          exact HS1.out.put j (x ^^^ m)
        case measure => simp [intOf]; omega
      · obtain rfl : j = 64 := by omega
        go_wp2_with fail
        go_ret
        have hfin : turnedTo (padOf l) m 64 = mask64 l m := by
          unfold turnedTo mask64
          rw [HK.out, List.take_of_length_le (by rw [HPL.out]; omega), List.drop_of_length_le (by rw [HPL.out]; omega), List.append_nil]
        exact ⟨_, rfl, by rw [← hfin]; exact HS1.out, HB4.out⟩
theorem Rd.blk {w : World} {a : Option Addr} {l : List UInt8} (h : Rd w a l) : ∀ ad, a = some ad → 0 < l.length → ad.block < w.heap.size := fun ad e hp => by
  obtain ⟨b, off, e2, hlt, _⟩ := h.bytesAt hp
  rw [e] at e2; cases e2; exact hlt
theorem below_grown {w W W' : World} {p : Nat} (h : Below w.heap.size w W) (hg : W.grownBy W' (some p)) (hp : w.heap.size ≤ p) : Below w.heap.size w W' :=
  ⟨hg.os.trans h.os, hg.tape.trans h.tape, hg.output.trans h.output, Nat.le_trans h.size hg.size, fun k hk => (hg.block k (Nat.lt_of_lt_of_le hk h.size) (by simp; omega)).trans (h.block k hk)⟩
theorem below_trans {w W W' : World} (h : Below w.heap.size w W) (h2 : Below W.heap.size W W') : Below w.heap.size w W' := h.trans (h2.mono h.size)
theorem Holds.below {W W' : World} {p : Nat} {d : List UInt8} (h : Holds W p d) (hb : Below W.heap.size W W') : Holds W' p d := by
  obtain ⟨al, cl, h1, h2, h3⟩ := h
  exact ⟨al, cl, h1.below hb, h2.below hb, fun a e => ⟨(h3 a e).1, Nat.lt_of_lt_of_le (h3 a e).2 hb.size⟩⟩
set_option maxRecDepth 100000 in
set_option maxHeartbeats 1000000 in
theorem layer_any (a : Option Addr) (c : Nat) (l : List UInt8) (m : UInt8) (a2 : Option Addr) (c2 : Nat) (msg : List UInt8) (w : World) (h : Rd w a l) (hl : l.length ≤ 1099511000000) (h2 : Rd w a2 msg) (hm : msg.length ≤ 1000000000000) :
    Calls Try.prog 26 #[.slice a l.length c, .int .u8 m.toNat, .slice a2 msg.length c2] w fun e w' => ∃ v, e = .returned v ∧ OwnB w' w.heap.size v (layerOf l m msg) ∧ Below w.heap.size w w' := by
  obtain ⟨n, hn⟩ : ∃ n, l.length = n := ⟨_, rfl⟩
  obtain ⟨n2, hn2⟩ : ∃ n, msg.length = n := ⟨_, rfl⟩
  rw [hn] at hl ⊢
  rw [hn2] at hm ⊢
  have H := Lib.hid h; have HN := Lib.hid hn; have H2 := Lib.hid h2; have HN2 := Lib.hid hn2
  clear h hn h2 hn2
  go_enter Try.func26, Try.ntmps26
  go_wp2_with fail
  refine (new_any w).mono ?_
  rintro e w1 ⟨p, rfl, hh, hp, hb1⟩
  have HH := Lib.hid hh; have HB1 := Lib.hid hb1
  have hpl := hh.lt
  clear hh hb1
  go_wp2_with fail
  have hmk := masked_any a c l m w1 (H.out.below HB1.out) (by rw [HN.out]; exact hl)
  rw [HN.out] at hmk
  have HMK := Lib.hid hmk
  clear hmk
  refine HMK.out.mono ?_
  rintro e w2 ⟨v2, rfl, ho2, hb2⟩
  have hl64 : (mask64 l m).length = 64 := mask64_length l m
  obtain ⟨av, cv, rfl, hcv, hrv⟩ := ho2.reads
  rw [hl64] at ho2 hcv ⊢
  have hwr := write_any p [] (mask64 l m) av cv w2 (HH.out.below hb2) hrv (fun ad e _ => by have := (ho2.form.2.2 ad e).1; omega) (by rw [hl64]; simp)
  rw [hl64, List.nil_append] at hwr
  have HWR := Lib.hid hwr; have HB2 := Lib.hid (below_trans HB1.out hb2); have HL64 := Lib.hid hl64
  clear hwr hb2 hl64 ho2 hcv hrv HMK
  go_wp2_with fail
  refine HWR.out.mono ?_
  rintro e w3 ⟨rfl, hh3, hg3⟩
  have hb3 := below_grown HB2.out hg3 hp
  have hwr := write_any p (mask64 l m) msg a2 c2 w3 hh3 (H2.out.below hb3) (fun ad e hz => by have := H2.out.blk ad e hz; omega) (by rw [HL64.out, HN2.out]; omega)
  rw [HN2.out] at hwr
  have HWR2 := Lib.hid hwr; have HB3 := Lib.hid hb3
  clear hwr hb3 hh3 hg3 HWR
  go_wp2_with fail
  refine HWR2.out.mono ?_
  rintro e w4 ⟨rfl, hh4, hg4⟩
  have HH4 := Lib.hid hh4; have HB4 := Lib.hid (below_grown HB3.out hg4 hp)
  clear hh4 hg4 HWR2
  go_wp2_with fail
  refine (hsum_any p (mask64 l m ++ msg) w4 HH4.out (by rw [List.length_append, HL64.out, HN2.out]; omega)).mono ?_
  rintro e w5 ⟨v5, rfl, ho5, hb5⟩
  obtain ⟨a5, c5, rfl, _, _⟩ := ho5.reads
  go_wp2_with fail
  go_ret
  exact ⟨_, rfl, ho5.lower HB4.out.size, below_trans HB4.out hb5⟩
/-- Are they bytes, and not too many for a message? -/
def bytesMsg (l : List Int) : Bool := decide (intsB (bytesI l) = l) && decide (l.length ≤ 1000000000000)
def Ext.seal_layer.f (l0 : List Int) (a1 : Int) (l2 : List Int) : Option (List Int) :=
  if bytesMsg l0 = true ∧ (0 ≤ a1 ∧ a1 < 256) ∧ bytesMsg l2 = true then some (intsB (layerOf (bytesI l0) (UInt8.ofNat a1.toNat) (bytesI l2))) else none
theorem bytesMsg_intsB (l : List UInt8) (h : l.length ≤ 1000000000000) : bytesMsg (intsB l) = true := by
  unfold bytesMsg
  rw [bytesI_intsB, intsB_length]
  simp [h]
theorem bytesMsg_rd {l : List Int} (h : bytesMsg l = true) : intsB (bytesI l) = l ∧ (bytesI l).length = l.length ∧ l.length ≤ 1000000000000 := by
  unfold bytesMsg at h
  simp only [Bool.and_eq_true, decide_eq_true_eq] at h
  exact ⟨h.1, by simp [bytesI], h.2⟩
theorem Ext.seal_layer.f_eq (key : List UInt8) (m : UInt8) (msg : List UInt8) (h : key.length ≤ 1000000000000) (h2 : msg.length ≤ 1000000000000) : Ext.seal_layer.f (intsB key) (m.toNat : Int) (intsB msg) = some (intsB (layerOf key m msg)) := by
  have := m.toNat_lt
  unfold Ext.seal_layer.f
  rw [if_pos ⟨bytesMsg_intsB key h, by omega, bytesMsg_intsB msg h2⟩, bytesI_intsB, bytesI_intsB, Int.toNat_natCast, UInt8.ofNat_toNat]
theorem Ext.seal_layer.calls (A0 : Option Addr) (c0 : Nat) (l0 : List Int) (a1 : Int) (A2 : Option Addr) (c2 : Nat) (l2 : List Int) (r : List Int) (w : World) (hr0 : Kd.C (Kd.int .u8) w A0 l0.length l0) (_hc0 : l0.length ≤ c0) (hr2 : Kd.C (Kd.int .u8) w A2 l2.length l2) (_hc2 : l2.length ≤ c2) (h : Ext.seal_layer.f l0 a1 l2 = some r) :
    Calls Try.prog 26 #[.slice A0 l0.length c0, .int .u8 a1, .slice A2 l2.length c2] w fun e w' => ∃ v0_ : Value, e = .returned (v0_) ∧ Kd.R (Kd.int .u8) 5 w' w.heap.size (fun _ => True) v0_ r ∧ Below w.heap.size w w' := by
  unfold Ext.seal_layer.f at h
  split at h
  · rename_i hok
    obtain ⟨h0, h1, h2⟩ := hok
    cases h
    obtain ⟨e0, n0, b0⟩ := bytesMsg_rd h0
    obtain ⟨e2, n2, b2⟩ := bytesMsg_rd h2
    have hm : (((UInt8.ofNat a1.toNat).toNat : Nat) : Int) = a1 := by rw [UInt8.toNat_ofNat']; omega
    have := layer_any A0 c0 (bytesI l0) (UInt8.ofNat a1.toNat) A2 c2 (bytesI l2) w (by unfold Rd; rw [n0, e0]; exact hr0) (by omega) (by unfold Rd; rw [n2, e2]; exact hr2) (by omega)
    rw [hm, n0, n2] at this
    exact this
  · cases h
theorem bytesOk_rd {l : List Int} (h : bytesOk l = true) : intsB (bytesI l) = l ∧ (bytesI l).length = l.length ∧ l.length ≤ 1099511000000 := by
  unfold bytesOk at h
  simp only [Bool.and_eq_true, decide_eq_true_eq] at h
  exact ⟨h.1, by simp [bytesI], h.2⟩
end Go.Proofs.Ytnhljemnebgekaa

/-
  What the functions of these laws compute, as plain Lean functions, and that the machine's calls compute it: written by this session's own hook over the kit's print.
-/
namespace Go.Proofs.Ytnhljemnebgekaa.Ps
open Go.RowKit Go.Proofs.YtnhljemnebgekaaW.PrintWords Go.Proofs.YtnhljemnebgekaaW.PrintLast Go.Proofs.YtnhljemnebgekaaW.PrintMore
attribute [local go_sem] u32_sg u32_mx u64_sg u64_mx
attribute [local go_sem] max2_int min2_int max_two min_two max_three min_three max_four min_four   -- for this text's walks alone
set_option linter.unusedVariables false
set_option linter.unusedSimpArgs false

-- BY ITS OWN WALK: function 26 (seal_layer)

/-! ### seal_Code: function 14 -/
def seal_Code.f (l0 : List Int) (l1 : List Int) : Option (List Int) := (Ext.seal_layer.f l0 54 l1).bind fun t101 => ((Ext.seal_layer.f l0 92 t101).bind fun t104 => (some t104))
set_option maxHeartbeats 8000000 in
set_option maxRecDepth 100000 in
theorem seal_Code.calls (A0 : Option Addr) (c0 : Nat) (l0 : List Int) (A1 : Option Addr) (c1 : Nat) (l1 : List Int) (r : List Int) (w : World) (hr0 : Kd.C (Kd.int .u8) w A0 l0.length l0) (hc0 : l0.length ≤ c0) (hr1 : Kd.C (Kd.int .u8) w A1 l1.length l1) (hc1 : l1.length ≤ c1) (h : seal_Code.f l0 l1 = some r) :
    Calls Try.prog 14 #[.slice A0 l0.length c0, .slice A1 l1.length c1] w fun e w' => ∃ v0_ : Value, e = .returned (v0_) ∧ Kd.R (Kd.int .u8) 5 w' w.heap.size (fun _ => True) v0_ r ∧ Below w.heap.size w w' := by
  have HR0 := Aside0.mk hr0
  have HC0 := Aside0.mk hc0
  clear hr0 hc0
  have HR1 := Aside0.mk hr1
  have HC1 := Aside0.mk hc1
  clear hr1 hc1
  have HB := Aside0.mk (Below.refl w.heap.size w)
  have H : ((Ext.seal_layer.f l0 54 l1).bind fun t101 => ((Ext.seal_layer.f l0 92 t101).bind fun t104 => (some t104))) = some r := h
  clear h
  replace H := Option.bind_eq_some_iff.mp H
  obtain ⟨t101, A30, H⟩ := H
  replace H : ((Ext.seal_layer.f l0 92 t101).bind fun t104 => (some t104)) = some r := H
  have A3 := Aside0.mk A30
  clear A30
  replace H := Option.bind_eq_some_iff.mp H
  obtain ⟨t104, A40, H⟩ := H
  replace H : (some t104) = some r := H
  have A4 := Aside0.mk A40
  clear A40
  obtain rfl := Option.some.inj H
  go_enter Try.func14, Try.ntmps14
  go_wp2_with (first | ((with_reducible refine gate_callee (f := 26) rfl ?_); refine goesL_ (some 8) rfl rfl Try.func26 (by kernel_rfl) rfl #[.slice A0 l0.length c0, .int .u8 54, .slice A1 l1.length c1] rfl (by (try simp only [List.map_toArray, List.map_cons, List.map_nil]); first | done | rfl | (simp only [List.length_drop, List.length_take]; rfl)) ?_; (with_reducible refine (Ext.seal_layer.calls _ _ l0 54 _ _ l1 t101 _ ?side1 ?side2 ?side3 ?side4 A3.out).mono ?_); (case side1 => repeat (first | exact HR0.out | (with_reducible refine Kd.C_alloc ?_ _) | (with_reducible refine Kd.C_drewN ?_ _) | (with_reducible refine Kd.C_drew ?_))); (case side2 => exact HC0.out); (case side3 => repeat (first | exact HR1.out | (with_reducible refine Kd.C_alloc ?_ _) | (with_reducible refine Kd.C_drewN ?_ _) | (with_reducible refine Kd.C_drew ?_))); (case side4 => exact HC1.out); rintro e w5 ⟨v102, rfl, ho0, hb⟩; refine ⟨_, rfl, ?_⟩; have n0_ := Aside0.mk (Kd.R_lower ho0 (below_size (by repeat (first | (with_reducible first | exact HB.out | apply below_alloc | apply pw_below_drewN | apply below_drew1) | exact HB.out)))); have n1_ := Aside0.mk (below_step (by repeat (first | (with_reducible first | exact HB.out | apply below_alloc | apply pw_below_drewN | apply below_drew1) | exact HB.out)) hb); clear HB; have HO103 := n0_; have HB := n1_; clear n0_ n1_; (try clear hb); (try clear hb2); (try clear hk); (try clear hi); (try clear ho0); obtain ⟨Ao6, co6, eo6⟩ := Kd.R_slice HO103.out; subst eo6) | ((with_reducible refine gate_callee (f := 26) rfl ?_); refine goesL_ (some 9) rfl rfl Try.func26 (by kernel_rfl) rfl #[.slice A0 l0.length c0, .int .u8 92, .slice Ao6 t101.length co6] rfl (by (try simp only [List.map_toArray, List.map_cons, List.map_nil]); first | done | rfl | (simp only [List.length_drop, List.length_take]; rfl)) ?_; (with_reducible refine (Ext.seal_layer.calls _ _ l0 92 _ _ t101 t104 _ ?side1 ?side2 ?side3 ?side4 A4.out).mono ?_); (case side1 => repeat (first | exact (Kd.C_below HR0.out HB.out) | (with_reducible refine Kd.C_alloc ?_ _) | (with_reducible refine Kd.C_drewN ?_ _) | (with_reducible refine Kd.C_drew ?_))); (case side2 => exact HC0.out); (case side3 => repeat (first | exact (Kd.R_reads' HO103.out).2.2 | (with_reducible refine Kd.C_alloc ?_ _) | (with_reducible refine Kd.C_drewN ?_ _) | (with_reducible refine Kd.C_drew ?_))); (case side4 => exact (Kd.R_reads' HO103.out).2.1); rintro e w7 ⟨v105, rfl, ho0, hb⟩; refine ⟨_, rfl, ?_⟩; have n0_ := Aside0.mk (Kd.R_elder' (by (with_reducible repeat (first | apply Kd.R_alloc | apply Kd.R_drewN | apply Kd.R_drew)); exact HO103.out) (Kd.R_base ho0) hb); have n1_ := Aside0.mk (Kd.R_lower (Kd.R_new' ho0 (Kd.R_lt (by (with_reducible repeat (first | apply Kd.R_alloc | apply Kd.R_drewN | apply Kd.R_drew)); exact HO103.out))) (below_size (by repeat (first | (with_reducible first | exact HB.out | apply below_alloc | apply pw_below_drewN | apply below_drew1) | exact HB.out)))); have n2_ := Aside0.mk (below_step (by repeat (first | (with_reducible first | exact HB.out | apply below_alloc | apply pw_below_drewN | apply below_drew1) | exact HB.out)) hb); clear HO103; clear HB; have HO103 := n0_; have HO106 := n1_; have HB := n2_; clear n0_ n1_ n2_; (try clear hb); (try clear hb2); (try clear hk); (try clear hi); (try clear ho0)))
  go_ret
  exact ⟨_, by first | rfl | (simp [errW_none, errW_some] <;> rfl) | (simp [*, errW_none, errW_some] <;> rfl), by (with_reducible repeat (first | apply Kd.R_alloc | apply Kd.R_drewN | apply Kd.R_drew)); exact Kd.R_mono HO106.out (fun _ hk => trivial), by repeat (first | (with_reducible first | exact HB.out | apply below_alloc | apply pw_below_drewN | apply below_drew1) | exact HB.out)⟩

/-! ### seal_Equal: function 15 -/
def seal_Equal.l0 : Nat → List Int → List Int → Int → Int → Int → Option (Bool)
  | 0, _, _, _, _, _ => none
  | k + 1, x0, x1, x5, x13, x14 => if x14 < x13 then (if 0 ≤ x14 then (if x14 < (x0.length : Int) then (if x14 < (x1.length : Int) then (seal_Equal.l0 k x0 x1 (Go.bits .or .u8 x5 (Go.bits .xor .u8 (rd x0 x14) (rd x1 x14))) x13 (wrap64 (x14 + 1))) else (none)) else (none)) else (none)) else (some (x5 == 0))
def seal_Equal.f (k : Nat) (l0 : List Int) (l1 : List Int) : Option (Bool) := if (l0.length : Int) = (l1.length : Int) then (seal_Equal.l0 k l0 l1 0 (l0.length : Int) 0) else (some false)
theorem seal_Equal.mono_l : ∀ k, (∀ y0 y1 y2 y3 y4, LeO (seal_Equal.l0 k y0 y1 y2 y3 y4) (seal_Equal.l0 (k + 1) y0 y1 y2 y3 y4))
  | 0 => fun _ _ _ _ _ r h => by simp [seal_Equal.l0] at h
  | k + 1 => by
    have ih0 := seal_Equal.mono_l k
    · intro y0 y1 y2 y3 y4
      unfold seal_Equal.l0
      repeat' first
      | (with_reducible exact ih0 _ _ _ _ _)
      | (with_reducible exact LeO.refl _)
      | (with_reducible exact LeO.none _)
      | (with_reducible refine LeO.ite ?_ ?_)
      | (with_reducible refine LeO.bind ?_ (fun _ => ?_))
      | exact ih0 _ _ _ _ _
      | exact LeO.none _
      | refine LeO.ite ?_ ?_
      | refine LeO.bind ?_ (fun _ => ?_)
theorem seal_Equal.mono : ∀ a0 a1 k, LeO (seal_Equal.f k a0 a1) (seal_Equal.f (k + 1) a0 a1) := by
  intro a0 a1 k
  have ih0 := seal_Equal.mono_l k
  unfold seal_Equal.f
  repeat' first
      | (with_reducible exact ih0 _ _ _ _ _)
      | (with_reducible exact LeO.refl _)
      | (with_reducible exact LeO.none _)
      | (with_reducible refine LeO.ite ?_ ?_)
      | (with_reducible refine LeO.bind ?_ (fun _ => ?_))
      | exact ih0 _ _ _ _ _
      | exact LeO.none _
      | refine LeO.ite ?_ ?_
      | refine LeO.bind ?_ (fun _ => ?_)
set_option maxHeartbeats 8000000 in
set_option maxRecDepth 100000 in
theorem seal_Equal.calls (k : Nat) (A0 : Option Addr) (c0 : Nat) (l0 : List Int) (A1 : Option Addr) (c1 : Nat) (l1 : List Int) (r : Bool) (w : World) (hr0 : Kd.C (Kd.int .u8) w A0 l0.length l0) (hc0 : l0.length ≤ c0) (hr1 : Kd.C (Kd.int .u8) w A1 l1.length l1) (hc1 : l1.length ≤ c1) (h : seal_Equal.f k l0 l1 = some r) :
    Calls Try.prog 15 #[.slice A0 l0.length c0, .slice A1 l1.length c1] w fun e w' => e = .returned (.bool r) ∧ Drawn0 w w' := by
  have HR0 := Aside0.mk hr0
  have HC0 := Aside0.mk hc0
  clear hr0 hc0
  have HR1 := Aside0.mk hr1
  have HC1 := Aside0.mk hc1
  clear hr1 hc1
  have H : (if (l0.length : Int) = (l1.length : Int) then (seal_Equal.l0 k l0 l1 0 (l0.length : Int) 0) else (some false)) = some r := h
  clear h
  by_cases c3 : (l0.length : Int) = (l1.length : Int)
  · rw [if_pos c3] at H
    have c3b0 : ((l0.length : Int) == (l1.length : Int)) = true := beq_iff_eq.mpr c3
    have c3b1 : ((l0.length : Int) != (l1.length : Int)) = false := bne_eq_false_iff_eq.mpr c3
    have c3b2 : (l0.length == l1.length) = true := by first | simpa using c3 | (simp at c3 ⊢; omega)
    clear c3
    have H' := Aside0.mk H
    clear H
    go_enter Try.func15, Try.ntmps15
    go_wp2
    repeat (go_quiet (fail); try go_wp2)
    go_loopg [5, 14] k (fun kq v5 v14 w' => ∃ (x5_1 : Int) (x14_1 : Int), v5 = .int .u8 x5_1 ∧ v14 = .int .i64 x14_1 ∧ Aside0 (seal_Equal.l0 kq l0 l1 x5_1 (l0.length : Int) x14_1 = some r) ∧ Aside0 (kq ≤ k) ∧ Drawn0 w w')
    case atStart => exact ⟨(0), (0), (by first | rfl | (simp; done) | (simp [*]; done)), (by first | rfl | (simp; done) | (simp [*]; done)), H', ⟨Nat.le_refl _⟩, by repeat (first | exact Drawn0.refl _ | apply Drawn0.step)⟩
    case round =>
      clear H'
      try clear c1
      try clear p2
      try clear c3
      try clear c3b0
      try clear c3b1
      try clear c3b2
      obtain ⟨x5_1, x14_1, rfl, rfl, HA, HK1, ⟨m1, rfl⟩⟩ := hrel
      cases gk with
      | zero => exact absurd HA.out (by simp [seal_Equal.l0])
      | succ k1 =>
        have H := HA.out
        clear HA
        simp only [seal_Equal.l0] at H
        by_cases c4 : x14_1 < (l0.length : Int)
        · rw [if_pos c4] at H
          have c4b0 : decide (x14_1 < (l0.length : Int)) = true := decide_eq_true c4
          clear c4
          by_cases c5 : 0 ≤ x14_1
          · rw [if_pos c5] at H
            have c5b0 : decide (0 ≤ x14_1) = true := decide_eq_true c5
            clear c5
            by_cases c6 : x14_1 < (l0.length : Int)
            · rw [if_pos c6] at H
              have c6b0 : decide (x14_1 < (l0.length : Int)) = true := decide_eq_true c6
              clear c6
              by_cases c7 : x14_1 < (l1.length : Int)
              · rw [if_pos c7] at H
                have c7b0 : decide (x14_1 < (l1.length : Int)) = true := decide_eq_true c7
                clear c7
                have H' := Aside0.mk H
                clear H
                have p107 : 0 ≤ (x14_1 : Int) := of_decide_eq_true (by first | (with_reducible assumption) | assumption)
                have q107 : x14_1 < (l0.length : Int) := of_decide_eq_true (by first | (with_reducible assumption) | assumption)
                obtain ⟨ad107, e107, hx107_0⟩ := Kd.at_int HR0.out x14_1 p107 q107
                cases e107
                replace p107 := eq_true p107
                replace q107 := eq_true q107
                have p108 : 0 ≤ (x14_1 : Int) := of_decide_eq_true (by first | (with_reducible assumption) | assumption)
                have q108 : x14_1 < (l1.length : Int) := of_decide_eq_true (by first | (with_reducible assumption) | assumption)
                obtain ⟨ad108, e108, hx108_0⟩ := Kd.at_int HR1.out x14_1 p108 q108
                cases e108
                replace p108 := eq_true p108
                replace q108 := eq_true q108
                go_wp2
                repeat (go_quiet (fail); try go_wp2)
                go_roundg k1
                case measure => have := HK1.out; omega
                case rel => exact ⟨(Go.bits .or .u8 x5_1 (Go.bits .xor .u8 (rd l0 x14_1) (rd l1 x14_1))), (wrap64 (x14_1 + 1)), (by first | rfl | (simp; done) | (simp [*]; done)), (by first | rfl | (simp; done) | (simp [*]; done)), H', ⟨by have := HK1.out; omega⟩, by repeat (first | exact Drawn0.refl _ | apply Drawn0.step)⟩
              · rw [if_neg c7] at H
                exact absurd H (by simp)
            · rw [if_neg c6] at H
              exact absurd H (by simp)
          · rw [if_neg c5] at H
            exact absurd H (by simp)
        · rw [if_neg c4] at H
          have c4b0 : decide (x14_1 < (l0.length : Int)) = false := decide_eq_false c4
          clear c4
          obtain rfl := Option.some.inj H
          go_wp2
          repeat (go_quiet (fail); try go_wp2)
          go_ret
          exact ⟨by first | rfl | (simp; done) | (simp [*]; done), by repeat (first | exact Drawn0.refl _ | apply Drawn0.step)⟩
  · rw [if_neg c3] at H
    have c3b0 : ((l0.length : Int) == (l1.length : Int)) = false := beq_eq_false_iff_ne.mpr c3
    have c3b1 : ((l0.length : Int) != (l1.length : Int)) = true := bne_iff_ne.mpr c3
    have c3b2 : (l0.length == l1.length) = false := by first | simpa using c3 | (simp at c3 ⊢; omega)
    obtain rfl := Option.some.inj H
    go_enter Try.func15, Try.ntmps15
    go_wp2
    repeat (go_quiet (fail); try go_wp2)
    go_ret
    exact ⟨by first | rfl | (simp; done) | (simp [*]; done), by repeat (first | exact Drawn0.refl _ | apply Drawn0.step)⟩

-- BY ITS OWN WALK: function 16 (seal_Text)

-- BY ITS OWN WALK: function 18 (seal_ID)

-- BY ITS OWN WALK: function 22 (seal_Bytes)

end Go.Proofs.Ytnhljemnebgekaa.Ps

/-
  DERIVED: THE SHELF's CONTRACTS AT THIS DUMP, IN PLAIN WORDS (tools/lay-plain.mjs out of 'TryShelf.lean', which tools/lay-shelf.mjs wrote): THE SAME DECLARATIONS UNDER THE SAME NAMES: 'import', 'namespace', 'open', 'def', 'theorem' AND NOTHING ELSE: no command of the shelf's: FOR A HAND-IN. Each laying: the table of numbers ('.._ren') and one theorem, a field a fact of the dump's own or the kernel's comparison; each contract: ONE APPLICATION.
-/
namespace Go.Proofs
open Go.Shelf
def Try.lays169_ren : Go.Shelf.Ren := ⟨fun | 169 => 29 | n => n, fun | 70 => 40 | 9 => 9 | 0 => 0 | 72 => 42 | 37 => 22 | 127 => 62 | 3 => 3 | 5 => 5 | n => n, fun | n => n⟩
theorem Try.lays169 : Go.Proofs.Lays.n169 Try.prog Try.lays169_ren := {
  mixed := by kernel_rfl
  f169 := Try.func29.trans (congrArg some (by kernel_rfl))
  t0 := Try.underlying0
  a0 := Try.isAgg0
  z0 := Try.sizeOf0
  v0 := Try.zeroValue0
  t3 := Try.underlying3
  a3 := Try.isAgg3
  z3 := Try.sizeOf3
  v3 := Try.zeroValue3
  t9 := Try.underlying9
  a9 := Try.isAgg9
  z9 := Try.sizeOf9
  v9 := Try.zeroValue9
  t37 := Try.underlying22
  a37 := Try.isAgg22
  z37 := Try.sizeOf22
  v37 := Try.zeroValue22
  t70 := Try.underlying40
  a70 := Try.isAgg40
  z70 := Try.sizeOf40
  v70 := Try.zeroValue40
  t72 := Try.underlying42
  a72 := Try.isAgg42
  z72 := Try.sizeOf42
  v72 := Try.zeroValue42
  t127 := Try.underlying62
  a127 := Try.isAgg62
  z127 := Try.sizeOf62
  v127 := Try.zeroValue62 }
theorem Try.Builder_Extra_169 : Builder.Extra Try.prog Try.lays169_ren := {
  sizeBuilder := by kernel_rfl
  liesBuilder := by kernel_rfl
  t5 := Try.underlying5
  a5 := Try.isAgg5
  z5 := Try.sizeOf5
  v5 := Try.zeroValue5
  infoByte := by kernel_rfl
  cellsByte := by kernel_rfl
  sizeByte := by kernel_rfl
  neB5 := by decide }
open Go.RowKit in
/-- (*strings.Builder).String: "String returns the accumulated string.": OF A BUILDER THAT HOLDS AT LEAST ONE BYTE. ✋ THE MODEL FREEZES THOSE BYTES IN THE BUFFER (unsafe.String): a later write INTO them ends the model's run without an answer; a later append BEHIND them goes on. The statement's order of evaluation is drawn: one draw. (LAID: no walk: one application.) -/
theorem Try.Builder_String (B b : Nat) (l : List UInt8) (w : World) (h : Lib.IsBuilder 42 5 B b (Lib.byteCells l) w) (h0 : l ≠ []) :
    Calls Try.prog 29 #[.pointer (some ⟨b, 0, none⟩)] w fun e w' => e = .returned (.string ⟨l.toArray⟩) ∧ Below B w w' := Any.Builder_String Try.lays169 Try.Builder_Extra_169 B b l w h h0
open Go.RowKit in
/-- (*strings.Builder).String OF A BUILDER THAT HOLDS NO BYTE: the empty string. (Its buffer is nil, or a row of which it has taken nothing yet; where that row has NO capacity the model lays one new block for unsafe.SliceData's 'some address'.) One draw. (LAID: no walk: one application.) -/
theorem Try.Builder_String_empty (B b : Nat) (w : World) (h : Lib.IsBuilder 42 5 B b [] w) (hBw : B ≤ w.heap.size) :
    Calls Try.prog 29 #[.pointer (some ⟨b, 0, none⟩)] w fun e w' => e = .returned (.string ⟨#[]⟩) ∧ Below B w w' := Any.Builder_String_empty Try.lays169 Try.Builder_Extra_169 B b w h hBw
open Go.RowKit in
/-- (*strings.Builder).String: "String returns the accumulated string.": WHATEVER THE BUILDER HOLDS. (LAID: no walk: one application.) -/
theorem Try.Builder_String_any (B b : Nat) (l : List UInt8) (w : World) (h : Lib.IsBuilder 42 5 B b (Lib.byteCells l) w) (hBw : B ≤ w.heap.size) :
    Calls Try.prog 29 #[.pointer (some ⟨b, 0, none⟩)] w fun e w' => e = .returned (.string ⟨l.toArray⟩) ∧ Below B w w' := Any.Builder_String_any Try.lays169 Try.Builder_Extra_169 B b l w h hBw
def Try.lays119_ren : Go.Shelf.Ren := ⟨fun | 119 => 45 | n => n, fun | 21 => 21 | 4 => 4 | n => n, fun | n => n⟩
theorem Try.lays119 : Go.Proofs.Lays.n119 Try.prog Try.lays119_ren := {
  mixed := by kernel_rfl
  f119 := Try.func45.trans (congrArg some (by kernel_rfl))
  t4 := Try.underlying4
  a4 := Try.isAgg4
  z4 := Try.sizeOf4
  v4 := Try.zeroValue4
  t21 := Try.underlying21
  a21 := Try.isAgg21
  z21 := Try.sizeOf21
  v21 := Try.zeroValue21 }
/-- utf8.ValidRune: "ValidRune reports whether r can be legally encoded as UTF-8. Code points that are out of range or a surrogate half are illegal.": IT RETURNS 'Lib.validRune r'; the world is as it was. (LAID: no walk: one application.) -/
theorem Try.utf8_ValidRune (r : Int) (w : World) :
    Calls Try.prog 45 #[.int .i32 r] w fun e w' => e = .returned (.bool (Lib.validRune r)) ∧ w' = w := Any.utf8_ValidRune Try.lays119 r w
def Try.lays137_ren : Go.Shelf.Ren := ⟨fun | 137 => 44 | 217 => 57 | 266 => 62 | n => n, fun | 9 => 9 | 5 => 5 | 3 => 3 | n => n, fun | n => n⟩
theorem Try.lays137 : Go.Proofs.Lays.n137 Try.prog Try.lays137_ren := {
  mixed := by kernel_rfl
  f137 := Try.func44.trans (congrArg some (by kernel_rfl))
  f217 := Try.func57.trans (congrArg some (by kernel_rfl))
  f266 := Try.func62.trans (congrArg some (by kernel_rfl))
  t3 := Try.underlying3
  a3 := Try.isAgg3
  z3 := Try.sizeOf3
  v3 := Try.zeroValue3
  t5 := Try.underlying5
  a5 := Try.isAgg5
  z5 := Try.sizeOf5
  v5 := Try.zeroValue5
  t9 := Try.underlying9
  a9 := Try.isAgg9
  z9 := Try.sizeOf9
  v9 := Try.zeroValue9 }
open Go.RowKit in
/-- strings.IndexByte: "IndexByte returns the index of the first instance of c in s, or -1 if c is not present in s.": IT RETURNS 'Lib.indexByte s c'; the world is as it was. (LAID: no walk: one application.) -/
theorem Try.strings_IndexByte (s : ByteArray) (c : Int) (w : World) :
    Calls Try.prog 44 #[.string s, .int .u8 c] w fun e w' => e = .returned (.int .i64 (Lib.indexByte s.data.toList c.toNat.toUInt8)) ∧ w' = w := Any.strings_IndexByte Try.lays137 s c w
def Try.lays210_ren : Go.Shelf.Ren := ⟨fun | 210 => 43 | 206 => 56 | n => n, fun | 9 => 9 | 4 => 4 | 3 => 3 | n => n, fun | n => n⟩
theorem Try.lays210 : Go.Proofs.Lays.n210 Try.prog Try.lays210_ren := {
  mixed := by kernel_rfl
  f206 := Try.func56.trans (congrArg some (by kernel_rfl))
  f210 := Try.func43.trans (congrArg some (by kernel_rfl))
  t3 := Try.underlying3
  a3 := Try.isAgg3
  z3 := Try.sizeOf3
  v3 := Try.zeroValue3
  t4 := Try.underlying4
  a4 := Try.isAgg4
  z4 := Try.sizeOf4
  v4 := Try.zeroValue4
  t9 := Try.underlying9
  a9 := Try.isAgg9
  z9 := Try.sizeOf9
  v9 := Try.zeroValue9 }
open Go.RowKit in
/-- internal/stringslite.CutPrefix (what strings.CutPrefix calls). (LAID: no walk: one application.) -/
theorem Try.stringslite_CutPrefix (s p : ByteArray) (w : World) :
    Calls Try.prog 43 #[.string s, .string p] w fun e w' => e = .returned (.tuple #[.string ⟨(Lib.trimPrefix s.data.toList p.data.toList).toArray⟩, .bool (Lib.hasPrefix s.data.toList p.data.toList)]) ∧ w' = w := Any.stringslite_CutPrefix Try.lays210 s p w
def Try.lays103_ren : Go.Shelf.Ren := ⟨fun | 103 => 32 | 210 => 43 | 206 => 56 | n => n, fun | 9 => 9 | 4 => 4 | 24 => 50 | 3 => 3 | n => n, fun | n => n⟩
theorem Try.lays103 : Go.Proofs.Lays.n103 Try.prog Try.lays103_ren := {
  mixed := by kernel_rfl
  f103 := Try.func32.trans (congrArg some (by kernel_rfl))
  f206 := Try.func56.trans (congrArg some (by kernel_rfl))
  f210 := Try.func43.trans (congrArg some (by kernel_rfl))
  t3 := Try.underlying3
  a3 := Try.isAgg3
  z3 := Try.sizeOf3
  v3 := Try.zeroValue3
  t4 := Try.underlying4
  a4 := Try.isAgg4
  z4 := Try.sizeOf4
  v4 := Try.zeroValue4
  t9 := Try.underlying9
  a9 := Try.isAgg9
  z9 := Try.sizeOf9
  v9 := Try.zeroValue9
  t24 := Try.underlying50
  a24 := Try.isAgg50
  z24 := Try.sizeOf50
  v24 := Try.zeroValue50 }
open Go.RowKit in
/-- strings.CutPrefix: "CutPrefix returns s without the provided leading prefix string and reports whether it found the prefix. If s doesn't start with prefix, CutPrefix returns s, false. If prefix is the empty string, CutPrefix returns s, true.": IT RETURNS '(Lib.trimPrefix s p, Lib.hasPrefix s p)'; the world is as it was. (LAID: no walk: one application.) -/
theorem Try.strings_CutPrefix (s p : ByteArray) (w : World) :
    Calls Try.prog 32 #[.string s, .string p] w fun e w' => e = .returned (.tuple #[.string ⟨(Lib.trimPrefix s.data.toList p.data.toList).toArray⟩, .bool (Lib.hasPrefix s.data.toList p.data.toList)]) ∧ w' = w := Any.strings_CutPrefix Try.lays103 s p w
open Go.RowKit in
/-- (*strings.Builder).String: "String returns the accumulated string.": OF A BUILDER THAT HOLDS AT LEAST ONE BYTE. ✋ THE MODEL FREEZES THOSE BYTES IN THE BUFFER (unsafe.String): a later write INTO them ends the model's run without an answer; a later append BEHIND them goes on. The statement's order of evaluation is drawn: one draw. THE FORM '_f': IT SAYS BESIDES THAT THE BUILDER IS A BUILDER STILL ('Lib.IsBuilderF', the same bytes): SO IT CAN BE WRITTEN ON: 'b.WriteString(b.String()[:k])'. (LAID: no walk: one application.) -/
theorem Try.Builder_String_f (B b : Nat) (l : List UInt8) (w : World) (h : Lib.IsBuilderF 42 5 B b (Lib.byteCells l) w) (h0 : l ≠ []) :
    Calls Try.prog 29 #[.pointer (some ⟨b, 0, none⟩)] w fun e w' => e = .returned (.string ⟨l.toArray⟩) ∧ (Lib.IsBuilderF 42 5 B b (Lib.byteCells l) w' ∧ Below B w w') := Any.Builder_String_f Try.lays169 Try.Builder_Extra_169 B b l w h h0
open Go.RowKit in
/-- (*strings.Builder).String OF A BUILDER THAT HOLDS NO BYTE: the empty string; THE FORM '_f': a builder still. (LAID: no walk: one application.) -/
theorem Try.Builder_String_empty_f (B b : Nat) (w : World) (h : Lib.IsBuilderF 42 5 B b [] w) (hBw : B ≤ w.heap.size) :
    Calls Try.prog 29 #[.pointer (some ⟨b, 0, none⟩)] w fun e w' => e = .returned (.string ⟨#[]⟩) ∧ (Lib.IsBuilderF 42 5 B b [] w' ∧ Below B w w') := Any.Builder_String_empty_f Try.lays169 Try.Builder_Extra_169 B b w h hBw
open Go.RowKit in
/-- (*strings.Builder).String: "String returns the accumulated string.": WHATEVER THE BUILDER HOLDS; THE FORM '_f': OF A BUILDER THAT MAY HAVE BEEN READ BEFORE; AND IT IS A BUILDER STILL, holding the same bytes: it can be written on. (LAID: no walk: one application.) -/
theorem Try.Builder_String_any_f (B b : Nat) (l : List UInt8) (w : World) (h : Lib.IsBuilderF 42 5 B b (Lib.byteCells l) w) (hBw : B ≤ w.heap.size) :
    Calls Try.prog 29 #[.pointer (some ⟨b, 0, none⟩)] w fun e w' => e = .returned (.string ⟨l.toArray⟩) ∧ (Lib.IsBuilderF 42 5 B b (Lib.byteCells l) w' ∧ Below B w w') := Any.Builder_String_any_f Try.lays169 Try.Builder_Extra_169 B b l w h hBw
open Go.RowKit in
/-- (*strings.Builder).String: "String returns the accumulated string.": OF A BUILDER THAT HOLDS AT LEAST ONE BYTE. ✋ THE MODEL FREEZES THOSE BYTES IN THE BUFFER (unsafe.String): a later write INTO them ends the model's run without an answer; a later append BEHIND them goes on. The statement's order of evaluation is drawn: one draw. THE FORM '_k': OVER 'Lib.IsBuilderF' (a builder that 'String()' may have read), AND WITH THE FRAME THAT REACHES ABOVE THE BUILDER: 'Lib.OthersKept': every block that is not b and is no row of uint8's stands as it stood: the iterator of a range among them. (LAID: no walk: one application.) -/
theorem Try.Builder_String_k (B b : Nat) (l : List UInt8) (w : World) (h : Lib.IsBuilderF 42 5 B b (Lib.byteCells l) w) (h0 : l ≠ []) :
    Calls Try.prog 29 #[.pointer (some ⟨b, 0, none⟩)] w fun e w' => e = .returned (.string ⟨l.toArray⟩) ∧ (Lib.IsBuilderF 42 5 B b (Lib.byteCells l) w' ∧ Below B w w' ∧ Lib.OthersKept 5 (some b) w w') := Any.Builder_String_k Try.lays169 Try.Builder_Extra_169 B b l w h h0
open Go.RowKit in
/-- (*strings.Builder).String OF A BUILDER THAT HOLDS NO BYTE: the empty string; THE FORM '_k': OVER 'Lib.IsBuilderF' (a builder that 'String()' may have read), AND WITH THE FRAME THAT REACHES ABOVE THE BUILDER: 'Lib.OthersKept': every block that is not b and is no row of uint8's stands as it stood: the iterator of a range among them. (LAID: no walk: one application.) -/
theorem Try.Builder_String_empty_k (B b : Nat) (w : World) (h : Lib.IsBuilderF 42 5 B b [] w) (hBw : B ≤ w.heap.size) :
    Calls Try.prog 29 #[.pointer (some ⟨b, 0, none⟩)] w fun e w' => e = .returned (.string ⟨#[]⟩) ∧ (Lib.IsBuilderF 42 5 B b [] w' ∧ Below B w w' ∧ Lib.OthersKept 5 (some b) w w') := Any.Builder_String_empty_k Try.lays169 Try.Builder_Extra_169 B b w h hBw
open Go.RowKit in
/-- (*strings.Builder).String: "String returns the accumulated string.": WHATEVER THE BUILDER HOLDS; THE FORM '_k': OVER 'Lib.IsBuilderF' (a builder that 'String()' may have read), AND WITH THE FRAME THAT REACHES ABOVE THE BUILDER: 'Lib.OthersKept': every block that is not b and is no row of uint8's stands as it stood: the iterator of a range among them. (LAID: no walk: one application.) -/
theorem Try.Builder_String_any_k (B b : Nat) (l : List UInt8) (w : World) (h : Lib.IsBuilderF 42 5 B b (Lib.byteCells l) w) (hBw : B ≤ w.heap.size) :
    Calls Try.prog 29 #[.pointer (some ⟨b, 0, none⟩)] w fun e w' => e = .returned (.string ⟨l.toArray⟩) ∧ (Lib.IsBuilderF 42 5 B b (Lib.byteCells l) w' ∧ Below B w w' ∧ Lib.OthersKept 5 (some b) w w') := Any.Builder_String_any_k Try.lays169 Try.Builder_Extra_169 B b l w h hBw
def Try.lays217_ren : Go.Shelf.Ren := ⟨fun | 217 => 57 | 266 => 62 | n => n, fun | 9 => 9 | 5 => 5 | 3 => 3 | n => n, fun | n => n⟩
theorem Try.lays217 : Go.Proofs.Lays.n217 Try.prog Try.lays217_ren := {
  mixed := by kernel_rfl
  f217 := Try.func57.trans (congrArg some (by kernel_rfl))
  f266 := Try.func62.trans (congrArg some (by kernel_rfl))
  t3 := Try.underlying3
  a3 := Try.isAgg3
  z3 := Try.sizeOf3
  v3 := Try.zeroValue3
  t5 := Try.underlying5
  a5 := Try.isAgg5
  z5 := Try.sizeOf5
  v5 := Try.zeroValue5
  t9 := Try.underlying9
  a9 := Try.isAgg9
  z9 := Try.sizeOf9
  v9 := Try.zeroValue9 }
open Go.RowKit Go.Lib in
/-- internal/stringslite.IndexByte (what strings.IndexByte calls): IT RETURNS 'Lib.indexByte s c'; the world is as it was. (LAID: no walk: one application.) -/
theorem Try.stringslite_IndexByte (s : ByteArray) (c : Int) (w : World) :
    Calls Try.prog 57 #[.string s, .int .u8 c] w fun e w' => e = .returned (.int .i64 (Lib.indexByte s.data.toList c.toNat.toUInt8)) ∧ w' = w := Any.stringslite_IndexByte Try.lays217 s c w
def Try.lays224_ren : Go.Shelf.Ren := ⟨fun | 224 => 46 | n => n, fun | 3 => 3 | n => n, fun | n => n⟩
theorem Try.lays224 : Go.Proofs.Lays.n224 Try.prog Try.lays224_ren := {
  mixed := by kernel_rfl
  f224 := Try.func46.trans (congrArg some (by kernel_rfl))
  t3 := Try.underlying3
  a3 := Try.isAgg3
  z3 := Try.sizeOf3
  v3 := Try.zeroValue3 }
open Go.RowKit Go.Lib in
/-- internal/bytealg.Cutover: "Cutover reports the number of failures of IndexByte we should tolerate before switching over to Index. n is the number of bytes processed so far.": on amd64: (n + 16) / 8. (LAID: no walk: one application.) -/
theorem Try.bytealg_Cutover (n : Int) (h0 : 0 ≤ n) (h1 : n < 4611686018427387904) (w : World) :
    Calls Try.prog 46 #[.int .i64 n] w fun e w' => e = .returned (.int .i64 ((n + 16) / 8)) ∧ w' = w := Any.bytealg_Cutover Try.lays224 n h0 h1 w
def Try.lays206_ren : Go.Shelf.Ren := ⟨fun | 206 => 56 | n => n, fun | 9 => 9 | 4 => 4 | 3 => 3 | n => n, fun | n => n⟩
theorem Try.lays206 : Go.Proofs.Lays.n206 Try.prog Try.lays206_ren := {
  mixed := by kernel_rfl
  f206 := Try.func56.trans (congrArg some (by kernel_rfl))
  t3 := Try.underlying3
  a3 := Try.isAgg3
  z3 := Try.sizeOf3
  v3 := Try.zeroValue3
  t4 := Try.underlying4
  a4 := Try.isAgg4
  z4 := Try.sizeOf4
  v4 := Try.zeroValue4
  t9 := Try.underlying9
  a9 := Try.isAgg9
  z9 := Try.sizeOf9
  v9 := Try.zeroValue9 }
open Go.RowKit Go.Lib in
/-- internal/stringslite.HasPrefix (what strings.HasPrefix calls). (LAID: no walk: one application.) -/
theorem Try.stringslite_HasPrefix (s p : ByteArray) (w : World) :
    Calls Try.prog 56 #[.string s, .string p] w fun e w' => e = .returned (.bool (Lib.hasPrefix s.data.toList p.data.toList)) ∧ w' = w := Any.stringslite_HasPrefix Try.lays206 s p w
def Try.lays152_ren : Go.Shelf.Ren := ⟨fun | 152 => 33 | 137 => 44 | 119 => 45 | 224 => 46 | 225 => 47 | 217 => 57 | 266 => 62 | n => n, fun | 9 => 9 | 21 => 21 | 3 => 3 | 4 => 4 | 5 => 5 | 0 => 0 | 46 => 38 | n => n, fun | n => n⟩
theorem Try.lays152 : Go.Proofs.Lays.n152 Try.prog Try.lays152_ren := {
  mixed := by kernel_rfl
  f119 := Try.func45.trans (congrArg some (by kernel_rfl))
  f137 := Try.func44.trans (congrArg some (by kernel_rfl))
  f152 := Try.func33.trans (congrArg some (by kernel_rfl))
  f217 := Try.func57.trans (congrArg some (by kernel_rfl))
  f224 := Try.func46.trans (congrArg some (by kernel_rfl))
  f225 := Try.func47.trans (congrArg some (by kernel_rfl))
  f266 := Try.func62.trans (congrArg some (by kernel_rfl))
  t0 := Try.underlying0
  a0 := Try.isAgg0
  z0 := Try.sizeOf0
  v0 := Try.zeroValue0
  t3 := Try.underlying3
  a3 := Try.isAgg3
  z3 := Try.sizeOf3
  v3 := Try.zeroValue3
  t4 := Try.underlying4
  a4 := Try.isAgg4
  z4 := Try.sizeOf4
  v4 := Try.zeroValue4
  t5 := Try.underlying5
  a5 := Try.isAgg5
  z5 := Try.sizeOf5
  v5 := Try.zeroValue5
  t9 := Try.underlying9
  a9 := Try.isAgg9
  z9 := Try.sizeOf9
  v9 := Try.zeroValue9
  t21 := Try.underlying21
  a21 := Try.isAgg21
  z21 := Try.sizeOf21
  v21 := Try.zeroValue21
  t46 := Try.underlying38
  a46 := Try.isAgg38
  z46 := Try.sizeOf38
  v46 := Try.zeroValue38 }
open Go.RowKit Go.Lib in
theorem Try.strings_IndexRune_ascii (s : ByteArray) (r : Int) (w : World) (h0 : 0 ≤ r) (h1 : r < 128) :
    Calls Try.prog 33 #[.string s, .int .i32 r] w fun e w' => e = .returned (.int .i64 (Lib.indexByte s.data.toList r.toNat.toUInt8)) ∧ w' = w := Any.strings_IndexRune_ascii Try.lays152 s r w h0 h1
end Go.Proofs

/-
  The library's strings.IndexRune at a text of ASCII alone: a rune beyond ASCII is not in it.
-/
namespace Go.Proofs.Ytnhljemnebgekaa
open Go.RowKit
set_option linter.unusedSimpArgs false
def AsciiAll (s : ByteArray) : Prop := ∀ b ∈ s.data.toList, b.toNat < 128
theorem AsciiAll.at {s : ByteArray} (h : AsciiAll s) (i : Nat) (hi : i < s.size) : (s[i]'hi).toNat < 128 := h _ (Array.getElem_mem_toList (xs := s.data) hi)
theorem below_drewN (w : World) (n : Nat) : Below w.heap.size w (w.drewN n) := ⟨rfl, rfl, rfl, Nat.le_refl _, fun _ _ => rfl⟩
theorem Below.draws {B : Nat} {w W : World} (h : Below B w W) (n : Nat) : Below B w (W.drewN n) := ⟨h.os, h.tape, h.output, h.size, h.block⟩
theorem indexByte_none : ∀ (l : List UInt8) (c : UInt8), (∀ b ∈ l, b ≠ c) → Lib.indexByte l c = -1 := by
  intro l c h
  induction l with
  | nil => rfl
  | cons b l ih =>
    have h1 := h b (by simp)
    have h2 := ih (fun x hx => h x (by simp [hx]))
    simp [Lib.indexByte, h1, h2]
theorem indexByte_far {s : ByteArray} (h : AsciiAll s) (a e : Nat) (c : UInt8) (hc : 128 ≤ c.toNat) : Lib.indexByte (s.extract a e).data.toList c = -1 :=
  indexByte_none _ _ fun b hb e => by have := h b (mem_extract hb); rw [e] at this; omega
theorem encode_shape (r : Int) (h1 : 128 ≤ r) (h2 : r ≤ 1114111) (hs : ¬ (55296 ≤ r ∧ r ≤ 57343)) :
    (∃ a b, Utf8.encode r = ⟨#[a, b]⟩ ∧ 128 ≤ b.toNat) ∨ (∃ a b c, Utf8.encode r = ⟨#[a, b, c]⟩ ∧ 128 ≤ c.toNat) ∨ (∃ a b c d, Utf8.encode r = ⟨#[a, b, c, d]⟩ ∧ 128 ≤ d.toNat) := by
  have hv : Utf8.valid r = true := by rw [validRune_eq, validRune, decide_eq_true_eq]; omega
  have hc : ¬ r.toNat < 128 := by omega
  have hb : 128 ≤ (UInt8.ofNat (128 + r.toNat % 64)).toNat := by simp; omega
  unfold Utf8.encode
  simp only [hv, if_true, hc, if_false]
  split
  · exact .inl ⟨_, _, rfl, hb⟩
  · split
    · exact .inr (.inl ⟨_, _, _, rfl, hb⟩)
    · exact .inr (.inr ⟨_, _, _, _, rfl, hb⟩)
theorem indexByte_no (s : ByteArray) (hs : AsciiAll s) (a e : Nat) (c : UInt8) (hc : 128 ≤ c.toNat) (w : World) :
    Calls Try.prog 44 #[.string (s.extract a e), .int .u8 c.toNat] w fun x w' => x = .returned (.int .i64 (-1)) ∧ w' = w := by
  have h := Try.strings_IndexByte (s.extract a e) (c.toNat : Int) w
  have e1 : ((c.toNat : Int).toNat.toUInt8) = c := by simp
  rw [e1, indexByte_far hs a e c hc] at h
  exact h
set_option maxRecDepth 100000 in
set_option maxHeartbeats 1000000 in
theorem indexRune_bad (s : ByteArray) (hs : AsciiAll s) (hm : s.size ≤ 1000) (w : World) :
    Calls Try.prog 33 #[.string s, .int .i32 65533] w fun e w' => e = .returned (.int .i64 (-1)) ∧ Below w.heap.size w w' := by
  have HS := Lib.hid hs
  clear hs
  go_enter Try.func33, Try.ntmps33
  go_wp2_with fail
  go_loopw [] (fun wr => ∃ pos : Nat, wr.heap[w.heap.size]? = some (.stringIter s pos) ∧ Below w.heap.size w wr) (fun wr => s.size - wr.iterPos w.heap.size)
  case atStart => exact ⟨0, World.iter_heap w s 0, (Below.refl _ w).alloc (Nat.le_refl _) _⟩
  case round =>
    obtain ⟨pos, hit, hbw⟩ := hrel
    by_cases hp : pos < s.size
    · obtain ⟨x, hx⟩ : ∃ x, s[pos]'hp = x := ⟨_, rfl⟩
      have hxa : x.toNat < 128 := by rw [← hx]; exact HS.out.at pos hp
      have hnx : ∀ ty, (Instr.next (.pointer (some ⟨w.heap.size, 0, none⟩)) true ty).run Try.prog wr = .ok (.tuple #[.bool true, .int .i64 pos, .int .i32 x.toNat]) (wr.iterAt w.heap.size s (pos + 1)) := fun ty => by
        rw [Lib.run_next_ascii_at wr w.heap.size s pos ty hit hp (by rw [hx]; exact hxa), hx]
      have hne : ((x.toNat : Int) == 65533) = false := by simp; omega
      have HIT := Lib.hid (Lib.iterAt_heap wr w.heap.size s pos (pos + 1) hit)
      have HB := Lib.hid (Lib.below_iterAt hbw (k := w.heap.size) (Nat.le_refl _) s (pos + 1))
      have HI0 := Lib.hid hit
      clear hit hbw hx
      go_wp2_with fail
      go_roundw
      case rel => exact ⟨pos + 1, HIT.out, HB.out⟩
      case measure => simp only [World.iterPos, HIT.out, HI0.out]; omega
    · have hnx : ∀ ty, (Instr.next (.pointer (some ⟨w.heap.size, 0, none⟩)) true ty).run Try.prog wr = _ := fun ty => Lib.run_next_end_at wr w.heap.size s pos ty hit hp
      go_wp2_with fail
      go_ret
      exact ⟨rfl, hbw⟩
set_option maxRecDepth 100000 in
set_option maxHeartbeats 1000000 in
theorem indexRune_far (s : ByteArray) (hs : AsciiAll s) (hn : 4 ≤ s.size) (hm : s.size ≤ 1000) (r : Int) (h1 : 128 ≤ r) (h2 : r ≤ 1114111) (h3 : ¬ (55296 ≤ r ∧ r ≤ 57343)) (h4 : r ≠ 65533) (w : World) :
    Calls Try.prog 33 #[.string s, .int .i32 r] w fun e w' => e = .returned (.int .i64 (-1)) ∧ Below w.heap.size w w' := by
  have hv : Lib.validRune r = true := by rw [Lib.validRune, decide_eq_true_eq]; omega
  have HV := Lib.hid hv
  have hb1 : (r == 65533) = false := by simp [h4]
  have hb2 : ¬ r < 128 := by omega
  have hb3 : decide (r < 128) = false := by simpa using hb2
  have HE := Lib.hid (encode_shape r h1 h2 h3)
  have e1 := AsciiAll.at hs 1 (by omega)
  have e2 := AsciiAll.at hs 2 (by omega)
  have e3 := AsciiAll.at hs 3 (by omega)
  have HS := Lib.hid hs
  clear hv h3 h4 hs
  go_enter Try.func33, Try.ntmps33
  go_wp2_with fail
  refine (Try.utf8_ValidRune r _).mono ?_
  rintro e w1 ⟨rfl, rfl⟩
  rw [HV.out]
  go_wp2_with fail
  rcases HE.out with ⟨a, b, he, hb⟩ | ⟨a, b, c, he, hb⟩ | ⟨a, b, c, d, he, hb⟩
  · have hlt : 1 < s.size := by omega
    obtain ⟨x, hxx⟩ : ∃ x, s[1]'hlt = x := ⟨_, rfl⟩
    have hc : ((x.toNat : Int) != (((⟨#[a, b]⟩ : ByteArray)[1]'(by show 1 < 2; omega)).toNat : Int)) = true := by
      rw [hxx] at e1
      show ((x.toNat : Int) != (b.toNat : Int)) = true
      simp; omega
    have HIB := Lib.hid (show ∀ w : World, Calls Try.prog 44 #[.string (s.extract 2 s.size), .int .u8 ((⟨#[a, b]⟩ : ByteArray)[1]'(by show 1 < 2; omega)).toNat] w fun x w' => x = .returned (.int .i64 (-1)) ∧ w' = w from indexByte_no s HS.out 2 s.size b hb)
    have wn : IntKind.i64.wrap 2 = 2 := rfl
    have hI : (2 : Int) ≤ (s.size : Int) := by omega
    clear e1 e2 e3 hb HE
    go_step3
    go_wp2_with fail
    refine wp_loop_rounds 1 ?_
    rw [rounds_succ]
    go_wp2_with fail
    go_step3
    go_wp2_with fail
    go_quiet (fail)
    go_wp2_with fail
    obtain ⟨w2, hw2⟩ : ∃ w2, w1.drewN nq = w2 := ⟨_, rfl⟩
    rw [hw2]
    have hb2 : Below w1.heap.size w1 w2 := by rw [← hw2]; exact below_drewN _ _
    clear hw2
    go_quiet ((go_at_call 44; exact Calls.quiet_of_same (HIB.out _)))
    go_wp2_with fail
    simp only [Exit.inBlock, Exit.then, Exit.noGoto_ret]
    trace_state
    go_ret
    exact ⟨rfl, Below.draws hb2 _⟩
  · have hlt : 2 < s.size := by omega
    obtain ⟨x, hxx⟩ : ∃ x, s[2]'hlt = x := ⟨_, rfl⟩
    have hc : ((x.toNat : Int) != (((⟨#[a, b, c]⟩ : ByteArray)[2]'(by show 2 < 3; omega)).toNat : Int)) = true := by
      rw [hxx] at e2
      show ((x.toNat : Int) != (c.toNat : Int)) = true
      simp; omega
    have HIB := Lib.hid (show ∀ w : World, Calls Try.prog 44 #[.string (s.extract 3 s.size), .int .u8 ((⟨#[a, b, c]⟩ : ByteArray)[2]'(by show 2 < 3; omega)).toNat] w fun x w' => x = .returned (.int .i64 (-1)) ∧ w' = w from indexByte_no s HS.out 3 s.size c hb)
    have wn : IntKind.i64.wrap 3 = 3 := rfl
    have hI : (3 : Int) ≤ (s.size : Int) := by omega
    clear e1 e2 e3 hb HE
    go_step3
    go_wp2_with fail
    refine wp_loop_rounds 1 ?_
    rw [rounds_succ]
    go_wp2_with fail
    go_step3
    go_wp2_with fail
    go_quiet (fail)
    go_wp2_with fail
    obtain ⟨w2, hw2⟩ : ∃ w2, w1.drewN nq = w2 := ⟨_, rfl⟩
    rw [hw2]
    have hb2 : Below w1.heap.size w1 w2 := by rw [← hw2]; exact below_drewN _ _
    clear hw2
    go_quiet ((go_at_call 44; exact Calls.quiet_of_same (HIB.out _)))
    go_wp2_with fail
    simp only [Exit.inBlock, Exit.then, Exit.noGoto_ret]
    trace_state
    go_ret
    exact ⟨rfl, Below.draws hb2 _⟩
  · have hlt : 3 < s.size := by omega
    obtain ⟨x, hxx⟩ : ∃ x, s[3]'hlt = x := ⟨_, rfl⟩
    have hc : ((x.toNat : Int) != (((⟨#[a, b, c, d]⟩ : ByteArray)[3]'(by show 3 < 4; omega)).toNat : Int)) = true := by
      rw [hxx] at e3
      show ((x.toNat : Int) != (d.toNat : Int)) = true
      simp; omega
    have HIB := Lib.hid (show ∀ w : World, Calls Try.prog 44 #[.string (s.extract 4 s.size), .int .u8 ((⟨#[a, b, c, d]⟩ : ByteArray)[3]'(by show 3 < 4; omega)).toNat] w fun x w' => x = .returned (.int .i64 (-1)) ∧ w' = w from indexByte_no s HS.out 4 s.size d hb)
    have wn : IntKind.i64.wrap 4 = 4 := rfl
    have hI : (4 : Int) ≤ (s.size : Int) := by omega
    clear e1 e2 e3 hb HE
    go_step3
    go_wp2_with fail
    refine wp_loop_rounds 1 ?_
    rw [rounds_succ]
    go_wp2_with fail
    go_step3
    go_wp2_with fail
    go_quiet (fail)
    go_wp2_with fail
    obtain ⟨w2, hw2⟩ : ∃ w2, w1.drewN nq = w2 := ⟨_, rfl⟩
    rw [hw2]
    have hb2 : Below w1.heap.size w1 w2 := by rw [← hw2]; exact below_drewN _ _
    clear hw2
    go_quiet ((go_at_call 44; exact Calls.quiet_of_same (HIB.out _)))
    go_wp2_with fail
    simp only [Exit.inBlock, Exit.then, Exit.noGoto_ret]
    trace_state
    go_ret
    exact ⟨rfl, Below.draws hb2 _⟩
end Go.Proofs.Ytnhljemnebgekaa

/-
  The iterator Chunk of the package slices at bytes, over any row in memory, yields the row's pieces of 3 bytes, one after another, the last one shorter.
-/
namespace Go.Proofs.Ytnhljemnebgekaa
open Go.RowKit Go.Shelf Sha
attribute [local go_sem] Oper.semAt_some
set_option linter.unusedSimpArgs false

/-- A piece's number: it begins within the row. -/
abbrev Ck3 (L : Nat) := { k : Nat // 3 * k < L }
def ckLen3 (L k : Nat) : Nat := min 3 (L - 3 * k)
def encK3 (g o L : Nat) (x : Ck3 L) : Array Value := #[.slice (some ⟨g, o + 3 * x.1, none⟩) (ckLen3 L x.1) (ckLen3 L x.1)]
def many3 (L : Nat) : Nat := (L + 2) / 3
def AllK3 (L : Nat) (ys : List (Ck3 L)) : Prop := ys.map (·.1) = List.range (many3 L)
def FrontK3 (L : Nat) (pre : List (Ck3 L)) : Prop := pre.map (·.1) = List.range pre.length

set_option maxRecDepth 100000 in
set_option maxHeartbeats 1000000 in
theorem chunk1_in3 (n : Nat) (hn : 1 ≤ n) (l Bs Bn g o : Nat) (L c : Nat) (a : Option Addr) (ha : 0 < L → a = some ⟨g, o, none⟩) (hL : L ≤ 140737488351232) (hLc : L ≤ c) (J Jx : List (Ck3 L) → World → Prop)
    (hY : ∀ pre x W, J pre W → pre.length < L + 1 → YieldAt Fence.wide (n - 1) Try.prog l (encK3 g o L x) W fun e W' =>
      (e = .returned (.bool true) ∧ J (pre ++ [x]) W' ∧ Keep2 Bs Bn W W') ∨ (e = .returned (.bool false) ∧ Jx (pre ++ [x]) W'))
    (hJ : ∀ p W, J p W → J p W.drew)
    (W : World) (hBs : W.cell? ⟨Bs, 0, none⟩ = some (.slice a L c)) (hBn : W.cell? ⟨Bn, 0, none⟩ = some (.int .i64 3)) (h0 : J [] W) :
    CallsIn Fence.wide n Try.prog 40 #[.func (.yield l) #[] #[], .pointer (some ⟨Bs, 0, none⟩), .pointer (some ⟨Bn, 0, none⟩)] W fun e W' => (∃ v, e = .returned v) ∧
      ((∃ ys, AllK3 L ys ∧ J ys W') ∨ (∃ pre, FrontK3 L pre ∧ Jx pre W')) := by
  refine callsIn_of_wp Try.func40 rfl trivial ?_ rfl
  simp only [Try.ntmps40, List.size_toArray, List.length_cons, List.length_nil, Nat.reduceAdd, Nat.reduceSub, Array.replicate_succ, Array.replicate_zero, List.push_toArray, List.append_toArray, List.nil_append, List.cons_append]
  gi_wp2_with fail
  gi_loopw [4] (fun p wr => ∃ (pre : List (Ck3 L)), FrontK3 L pre ∧ 3 * pre.length < L + 3 ∧ p = .int .i64 (3 * pre.length : Nat) ∧ J pre wr ∧ wr.cell? ⟨Bs, 0, none⟩ = some (.slice a L c) ∧ wr.cell? ⟨Bn, 0, none⟩ = some (.int .i64 3))
    (fun p wr => L + 3 - (intOf p).toNat)
  case atStart => exact ⟨[], rfl, by simp, rfl, h0, hBs, hBn⟩
  case round =>
    obtain ⟨pre, hF, hlt, rfl, hJp, hcs, hcn⟩ := hrel
    obtain ⟨k, hk⟩ : ∃ k, pre.length = k := ⟨_, rfl⟩
    rw [hk] at hlt ⊢
    have HF := Lib.hid hF; have HJ := Lib.hid hJp; have HK := Lib.hid hk; have HY := Lib.hid hY; have HJD := Lib.hid hJ
    clear hF hJp hk h0 hY hJ hBs hBn
    obtain ⟨i, hi⟩ : ∃ i, 3 * k = i := ⟨_, rfl⟩
    rw [hi] at hlt ⊢
    have HI := Lib.hid hi
    clear hi
    by_cases hend : i < L
    · obtain rfl := ha (by omega)
      obtain ⟨m, hmk⟩ : ∃ m, ckLen3 L k = m := ⟨_, rfl⟩
      have hmm : min (3 : Int) ((L - i : Nat) : Int) = (m : Int) := by
        have := HI.out
        rw [← hmk]; unfold ckLen3; omega
      have hm1 : 1 ≤ m := by have := HI.out; rw [← hmk]; unfold ckLen3; omega
      have hm3 : m ≤ 3 := by rw [← hmk]; unfold ckLen3; omega
      have hmL : i + m ≤ L := by have := HI.out; rw [← hmk]; unfold ckLen3; omega
      have HMM := Lib.hid hmm; have HMK := Lib.hid hmk
      clear hmm hmk
      gi_wp2_with fail
      gi_region
      rw [HMM.out]
      have hcs2 : wr.drew.cell? ⟨Bs, 0, none⟩ = some (.slice (some ⟨g, o, none⟩) L c) := hcs
      have hcn2 : wr.drew.cell? ⟨Bn, 0, none⟩ = some (.int .i64 3) := hcn
      obtain ⟨fn, tmps, assign, body, hy, hR⟩ := HY.out pre ⟨k, by have := HI.out; omega⟩ wr.drew (HJD.out _ _ HJ.out) (by have := HI.out; have := HK.out; omega)
      simp only [encK3, HI.out, HMK.out] at hy
      have HRR := Lib.hid hR; clear hR
      gi_wp2_with fail
      refine HRR.out.mono ?_
      rintro e W3 (⟨rfl, hJ3, hk3⟩ | ⟨rfl, hJx3⟩)
      · have hcs3 := (cell_of_heap (o := 0) hk3.2.1).trans hcs2
        have hcn3 := (cell_of_heap (o := 0) hk3.2.2).trans hcn2
        have HJ3 := Lib.hid hJ3; clear hJ3 hk3 hcs hcn hcs2 hcn2
        gi_wp2_with fail
        go_roundw
        case rel =>
          have hki := HI.out
          have hkk := HK.out
          refine ⟨pre ++ [⟨k, by omega⟩], ?_, ?_, ?_, HJ3.out, hcs3, hcn3⟩
          · unfold FrontK3
            rw [List.map_append, HF.out, List.length_append, hkk]
            simp [List.range_succ]
          · simp; omega
          · have e : ∀ y : Ck3 L, (pre ++ [y]).length = k + 1 := fun y => by rw [List.length_append, hkk]; rfl
            rw [e]
            exact congrArg (Value.int .i64) (by omega)
        case measure => simp [intOf]; omega
      · have HJ3 := Lib.hid hJx3; clear hJx3
        gi_wp2_with fail
        refine bodyPost_ret (results_none rfl _ _ _) rfl ?_
        refine ⟨⟨_, rfl⟩, .inr ⟨pre ++ [⟨k, by have := HI.out; omega⟩], ?_, HJ3.out⟩⟩
        unfold FrontK3
        rw [List.map_append, HF.out, List.length_append, HK.out]
        simp [List.range_succ]
    · gi_wp2_with fail
      go_end0
      refine ⟨⟨_, rfl⟩, .inl ⟨pre, ?_, HJ.out⟩⟩
      unfold AllK3
      rw [HF.out, HK.out]
      have hm : many3 L = k := by
        unfold many3
        have := HI.out
        omega
      rw [hm]
end Go.Proofs.Ytnhljemnebgekaa

/-
  A strings.Builder at this program: copyCheck, WriteByte, String; each keeps every block that is neither the builder's nor a row of bytes.
-/
namespace Go.Proofs
open Go.Shelf Go.RowKit
set_option maxHeartbeats 1000000 in
set_option maxRecDepth 100000 in
theorem Try.copyCheck_used (b : Nat) (w : World) (h0 : w.cell? ⟨b, 0, none⟩ = some (.pointer (some ⟨b, 0, none⟩))) :
    Calls Try.prog 41 #[.pointer (some ⟨b, 0, none⟩)] w fun e w' => e = .returned (.tuple #[]) ∧ w' = w := by
  obtain ⟨j, hj, _⟩ := Option.map_eq_some_iff.1 (show (Try.prog.info? 42).map (·.size) = some 2 by kernel_rfl)
  go_enter Try.func41, Try.ntmps41
  go_wp2
  rw [Lib.run_neq_ptr_same w _ Try.underlying40 hj]
  go_wp2
  go_end0
  exact ⟨rfl, rfl⟩
set_option maxHeartbeats 1000000 in
set_option maxRecDepth 100000 in
theorem Try.copyCheck_fresh (b : Nat) (w : World) (h0 : w.cell? ⟨b, 0, none⟩ = some (.pointer none)) (hsh : w.shape? b = some (42, 2)) (hfz : w.frozen? ⟨b, 0, none⟩ = false) :
    Calls Try.prog 41 #[.pointer (some ⟨b, 0, none⟩)] w fun e w' => e = .returned (.tuple #[]) ∧ w' = w.setCell ⟨b, 0, none⟩ (.pointer (some ⟨b, 0, none⟩)) := by
  obtain ⟨j, hj, hjs⟩ := Option.map_eq_some_iff.1 (show (Try.prog.info? 42).map (·.size) = some 2 by kernel_rfl)
  go_enter Try.func41, Try.ntmps41
  go_wp2
  rw [Lib.run_to_unsafe w ⟨b, 0, none⟩ Try.underlying40 Try.underlying78 hj (by rw [hjs]; decide) hsh (Nat.zero_lt_succ 1)]
  simp only [Result.andThen]
  rw [Oper.upon_value]
  go_wp2
  rw [run_callFunc_extern Try.func55 (by kernel_rfl) (by kernel_rfl) (by kernel_rfl) (e := Extern.AbiNoEscape.same) (by kernel_rfl)]
  rw [Lib.run_noEscape]
  simp only [Result.andThen]
  rw [Oper.upon_value]
  go_wp2
  rw [Lib.run_from_unsafe w ⟨b, 0, none⟩ Try.underlying78 Try.underlying40 hj hsh Try.Builder_Extra_169.liesBuilder]
  simp only [Result.andThen]
  rw [Oper.upon_value]
  go_wp2
  go_end0
  exact ⟨rfl, rfl⟩
theorem Try.copyCheck_k (B b : Nat) (bs : List Value) (w : World) (h : Lib.IsBuilderF 42 5 B b bs w) :
    Calls Try.prog 41 #[.pointer (some ⟨b, 0, none⟩)] w fun e w' => e = .returned (.tuple #[]) ∧ (Lib.BuilderAtF 42 5 B b (.pointer (some ⟨b, 0, none⟩)) bs w' ∧ Below B w w' ∧ Lib.OthersKept 5 (some b) w w') := by
  rcases h with h | h
  · refine (Try.copyCheck_fresh b w h.cell0 h.shape h.frozen0).mono ?_
    rintro e w' ⟨rfl, rfl⟩
    exact ⟨rfl, h.used _, (Below.refl B w).setCell (p := ⟨b, 0, none⟩) h.1 _, (Lib.OthersKept.refl _ _ w).setCell ⟨b, 0, none⟩ rfl _⟩
  · refine (Try.copyCheck_used b w h.cell0).mono ?_
    rintro e w' ⟨rfl, rfl⟩
    exact ⟨rfl, h, Below.refl B _, Lib.OthersKept.refl _ _ _⟩
set_option maxHeartbeats 2000000 in
set_option maxRecDepth 100000 in
theorem Try.WriteByte_k (B b : Nat) (bs : List Value) (c : Int) (w : World) (h : Lib.IsBuilderF 42 5 B b bs w) (hlen : bs.length + 1 ≤ 140737488355328) (hBw : B ≤ w.heap.size) :
    Calls Try.prog 28 #[.pointer (some ⟨b, 0, none⟩), .int .u8 c] w fun e w' => e = .returned .nilIface ∧ (Lib.BuilderAtF 42 5 B b (.pointer (some ⟨b, 0, none⟩)) (bs ++ [.int .u8 c]) w' ∧ Below B w w' ∧ Lib.OthersKept 5 (some b) w w') := by
  obtain ⟨i0, hi, hz0, hz1, hz2⟩ := info_parts Try.Builder_Extra_169.infoByte
  go_enter Try.func28, Try.ntmps28
  go_wp2_with fail
  refine (Try.copyCheck_k B b bs _ h).mono ?_
  rintro e w1 ⟨rfl, h1, hb1, hk1⟩
  obtain ⟨hB, v, hbk, hown, hne⟩ := h1
  have c0 : w1.cell? ⟨b, 0, none⟩ = some (.pointer (some ⟨b, 0, none⟩)) := by rw [Lib.cell_of_heap hbk]; rfl
  have c1 : w1.cell? ⟨b, 1, none⟩ = some v := by rw [Lib.cell_of_heap hbk]; rfl
  go_wp2_with (at_builtin; refine wpList_append_ownF _ rfl _ _ 22 rfl B 5 i0 (.int .u8 0) 1 1 Try.underlying22 hi hz0 hz1 hz2 rfl (by decide) _ _ _ rfl (hown.alloc _) ⟨w1.heap.size, 0, none⟩ 1 1 [.int .u8 c] rfl rfl ?c1 ?c2 ?c3 ?c4 ?c5 ?_)
  case c1 =>
    intro j u hj
    match j, hj with
    | 0, hj => simp at hj; subst hj; simp [Addr.add]
  case c2 => intro u hu; simp at hu; subst hu; rfl
  case c3 => unfold maxLen; omega
  case c4 => omega
  case c5 => have := hb1.size; simp; omega
  intro v' w2 hown' hgrow _
  have hlt : b < w1.heap.size := by
    rcases Nat.lt_or_ge b w1.heap.size with h' | h'
    · exact h'
    · simp [Array.getElem?_eq_none h'] at hbk
  have hb2 : w2.heap[b]? = some (.cells #[.pointer (some ⟨b, 0, none⟩), v] 42 (0, 0)) := by
    rw [hgrow.block b (by simp; omega) (fun e => hne e.symm), Lib.alloc_old w1 _ b hlt]
    exact hbk
  have d0 : w2.cell? ⟨b, 0, none⟩ = some (.pointer (some ⟨b, 0, none⟩)) := by rw [Lib.cell_of_heap hb2]; rfl
  have d1 : w2.cell? ⟨b, 1, none⟩ = some v := by rw [Lib.cell_of_heap hb2]; rfl
  have f1 : w2.frozen? ⟨b, 1, none⟩ = false := Lib.frozen_of_heap hb2 1
  obtain ⟨g, cap, rfl⟩ : ∃ g cap, v' = .slice (some ⟨g, 0, none⟩) (bs.length + 1) cap := by
    rcases hown'.2 with ⟨_, h0⟩ | ⟨g, cap, cur, fz, hv, _⟩
    · omega
    · exact ⟨g, cap, hv⟩
  go_wp2
  go_ret
  refine ⟨rfl, ?_, ?_, ((hk1.alloc _).grown hgrow (Lib.ownsRowF_kind (hown.alloc _))).setCell ⟨b, 1, none⟩ rfl _⟩
  · exact Lib.BuilderAtF.put (T := 42) (e := 5) hB hb2 (bs' := bs ++ [.int .u8 c]) (by simpa using hown') (by decide)
  · exact ((hb1.alloc (by have := hb1.size; omega) _).grown hgrow (by have := hb1.size; simp; omega) (fun k hk => (hown.lt k hk).1)).setCell (p := ⟨b, 1, none⟩) hB _
theorem Try.String_any_k (B b : Nat) (l : List UInt8) (w : World) (h : Lib.IsBuilderF 42 5 B b (Lib.byteCells l) w) (hBw : B ≤ w.heap.size) :
    Calls Try.prog 29 #[.pointer (some ⟨b, 0, none⟩)] w fun e w' => e = .returned (.string ⟨l.toArray⟩) ∧ (Lib.IsBuilderF 42 5 B b (Lib.byteCells l) w' ∧ Below B w w' ∧ Lib.OthersKept 5 (some b) w w') := Any.Builder_String_any_k Try.lays169 Try.Builder_Extra_169 B b l w h hBw
end Go.Proofs

/-
  The function Text of the package seal, called on any row of bytes, returns the bytes as signs of 64.
-/
namespace Go.Proofs.Ytnhljemnebgekaa
open Go.RowKit Go.Shelf Sha Go.Proofs.YtnhljemnebgekaaW.PrintWords
attribute [local go_sem] Oper.semAt_some
set_option linter.unusedSimpArgs false
set_option maxRecDepth 100000 in
theorem chunkS_any (a : Option Addr) (n c : Nat) (w : World) : Calls Try.prog 27 #[.slice a n c, .int .i64 3] w fun e w' => e = .returned (.func (.func 40) #[] #[.pointer (some ⟨w.heap.size, 0, none⟩), .pointer (some ⟨w.heap.size + 1, 0, none⟩)]) ∧ (w.alloc (.cells #[.slice a n c] 22)).alloc (.cells #[.int .i64 3] 3) = w' := by
  have hmf : ∀ (fn : Fn) (first cap : Array Value) (w : World), (Instr.makeFunc fn first cap).run Try.prog w = .ok (.func fn first cap) w := fun _ _ _ _ => rfl
  go_enter Try.func27, Try.ntmps27
  go_wp2_with fail
  go_ret
  exact ⟨rfl, rfl⟩
theorem chunkS_stops (n : Nat) (hn : 1 ≤ n) (Bs Bn g o L c : Nat) (a : Option Addr) (ha : 0 < L → a = some ⟨g, o, none⟩) (hL : L ≤ 140737488351232) (hLc : L ≤ c) (w : World)
    (hs : w.heap[Bs]? = some (.cells #[.slice a L c] 22 (0, 0))) (hn2 : w.heap[Bn]? = some (.cells #[.int .i64 3] 3 (0, 0))) :
    SeqStopsK Fence.wide n Try.prog 40 #[.pointer (some ⟨Bs, 0, none⟩), .pointer (some ⟨Bn, 0, none⟩)] (encK3 g o L) (Keep2 Bs Bn) (AllK3 L) (FrontK3 L) (L + 1) w := fun l J Jx W hW hJ _ hY h0 =>
  chunk1_in3 n hn l Bs Bn g o L c a ha hL hLc J Jx hY (fun p W1 h => hJ p W1 W1.drew none h (drew_grown _ _) (fun r e => by cases e)) W
    (by rw [cell_of_row W _ 0 _ 22 (0, 0) ((hW.block _ (Array.getElem?_eq_some_iff.1 hs).1).trans hs)]; rfl) (by rw [cell_of_row W _ 0 _ 3 (0, 0) ((hW.block _ (Array.getElem?_eq_some_iff.1 hn2).1).trans hn2)]; rfl) h0
theorem BuilderAtF_walk {T e : TypeId} {B b : Nat} {p : Value} {bs : List Value} {W W' : World} {row : Option Nat} (h : Lib.BuilderAtF T e B b p bs W) (hg : W.grownBy W' row) (hr : ∀ r, row = some r → ∃ o : Obj, W.heap[r]? = some o ∧ o.isCells = false) : Lib.BuilderAtF T e B b p bs W' := by
  obtain ⟨hB, v, hb, hown, hne⟩ := h
  refine ⟨hB, v, (kept_cells hg hr hb).trans hb, hown.kept hg ?_, hne⟩
  cases hv : v.ownBlock with
  | none => exact .inl rfl
  | some k =>
    refine .inr fun e => ?_
    obtain ⟨c, fz, hc⟩ := Lib.ownsRowF_kind hown k hv
    obtain ⟨o, ho, hi⟩ := hr k e.symm
    rw [hc] at ho; cases ho
    simp [Obj.isCells] at hi
theorem IsBuilderF_walk {T e : TypeId} {B b : Nat} {bs : List Value} {W W' : World} {row : Option Nat} (h : Lib.IsBuilderF T e B b bs W) (hg : W.grownBy W' row) (hr : ∀ r, row = some r → ∃ o : Obj, W.heap[r]? = some o ∧ o.isCells = false) : Lib.IsBuilderF T e B b bs W' :=
  h.elim (fun x => .inl (BuilderAtF_walk x hg hr)) (fun x => .inr (BuilderAtF_walk x hg hr))
theorem i64_or_nat (a b : Nat) (ha : a < 9223372036854775808) (hb : b < 9223372036854775808) : bits .or .i64 (a : Int) (b : Int) = ((a ||| b : Nat) : Int) := by
  have hx : a ||| b < 2 ^ 63 := Nat.or_lt_two_pow (by omega) (by omega)
  show IntKind.i64.wrap ((BitVec.ofInt 64 (a : Int) ||| BitVec.ofInt 64 (b : Int)).toNat : Int) = _
  rw [BitVec.toNat_or, ofInt_u64 a (by omega), ofInt_u64 b (by omega), IntKind.wrap_i64]
  omega
theorem i64_and_nat (a b : Nat) (ha : a < 9223372036854775808) (hb : b < 9223372036854775808) : bits .and .i64 (a : Int) (b : Int) = ((a &&& b : Nat) : Int) := by
  have hx : a &&& b < 2 ^ 63 := Nat.and_lt_two_pow _ (by omega)
  show IntKind.i64.wrap ((BitVec.ofInt 64 (a : Int) &&& BitVec.ofInt 64 (b : Int)).toNat : Int) = _
  rw [BitVec.toNat_and, ofInt_u64 a (by omega), ofInt_u64 b (by omega), IntKind.wrap_i64]
  omega
theorem i64_low (n k : Nat) (hn : n < 9223372036854775808) (hk : k < 63) : bits .and .i64 (n : Int) ((2 ^ k - 1 : Nat) : Int) = ((n % 2 ^ k : Nat) : Int) := by
  have h1 : 2 ^ k < 2 ^ 63 := Nat.pow_lt_pow_right (by omega) hk
  rw [i64_and_nat _ _ hn (by omega), Nat.and_two_pow_sub_one_eq_mod]
theorem i64_put (a b k : Nat) (hb : b < 2 ^ k) (hk : a * 2 ^ k + b < 9223372036854775808) : bits .or .i64 ((a * 2 ^ k : Nat) : Int) (b : Int) = ((a * 2 ^ k + b : Nat) : Int) := by
  have h := Nat.two_pow_add_eq_or_of_lt hb a
  rw [i64_or_nat _ _ (by omega) (by omega), Nat.mul_comm a, ← h]
/-- The signs, and a group's number. -/
def signs : List UInt8 := [65, 66, 67, 68, 69, 70, 71, 72, 73, 74, 75, 76, 77, 78, 79, 80, 81, 82, 83, 84, 85, 86, 87, 88, 89, 90, 97, 98, 99, 100, 101, 102, 103, 104, 105, 106, 107, 108, 109, 110, 111, 112, 113, 114, 115, 116, 117, 118, 119, 120, 121, 122, 48, 49, 50, 51, 52, 53, 54, 55, 56, 57, 45, 95]
def signsB : ByteArray := ⟨signs.toArray⟩
def grp (c : List UInt8) : Nat → Nat
  | 0 => 0
  | j + 1 => grp c j * 256 + (c.getD j 0).toNat
theorem grp_put (c : List UInt8) (j : Nat) (h : grp c j < 65536) : bits .or .i64 (((grp c j : Nat) : Int) * 256) (wrap64 (((c[j]?.getD 0).toNat : Nat) : Int)) = ((grp c (j + 1) : Nat) : Int) := by
  have h2 := (c[j]?.getD 0).toNat_lt
  have e1 : wrap64 (((c[j]?.getD 0).toNat : Nat) : Int) = (((c[j]?.getD 0).toNat : Nat) : Int) := by unfold wrap64; omega
  have := i64_put (grp c j) (c[j]?.getD 0).toNat 8 (by omega) (by omega)
  rw [e1]
  have e2 : grp c (j + 1) = grp c j * 2 ^ 8 + (c[j]?.getD 0).toNat := by
    rw [← List.getD_eq_getElem?_getD]; rfl
  rw [e2, ← this]
  rfl
theorem grp_lt (c : List UInt8) : ∀ j, grp c j < 256 ^ j
  | 0 => by simp [grp]
  | j + 1 => by
    have h1 := grp_lt c j
    have h2 := (c.getD j 0).toNat_lt
    unfold grp
    rw [Nat.pow_succ]
    omega
def signAt (n i : Nat) : UInt8 := signs.getD (n / 2 ^ (18 - 6 * i) % 64) 0
def grpText (c : List UInt8) (m : Nat) : List UInt8 := (List.range m).map (signAt (grp c 3))
theorem grpText_succ (c : List UInt8) (m : Nat) : grpText c (m + 1) = grpText c m ++ [signAt (grp c 3) m] := by simp [grpText, List.range_succ]
def piece (d : List UInt8) (k : Nat) : List UInt8 := (d.drop (3 * k)).take 3
def textTo (d : List UInt8) (pre : List (Ck3 d.length)) : List UInt8 := pre.flatMap fun y => grpText (piece d y.1) ((piece d y.1).length + 1)
theorem textTo_snoc (d : List UInt8) (pre : List (Ck3 d.length)) (y : Ck3 d.length) : textTo d (pre ++ [y]) = textTo d pre ++ grpText (piece d y.1) ((piece d y.1).length + 1) := by simp [textTo]
/-- A text of the bytes. -/
def text (d : List UInt8) : List UInt8 := (List.range (many3 d.length)).flatMap fun k => grpText (piece d k) ((piece d k).length + 1)
theorem textTo_all (d : List UInt8) (pre : List (Ck3 d.length)) (h : AllK3 d.length pre) : textTo d pre = text d := by
  unfold text textTo
  rw [← h, List.flatMap_map]
theorem signs_at (v : Nat) (h : v < 64) : (⟨#[65, 66, 67, 68, 69, 70, 71, 72, 73, 74, 75, 76, 77, 78, 79, 80, 81, 82, 83, 84, 85, 86, 87, 88, 89, 90, 97, 98, 99, 100, 101, 102, 103, 104, 105, 106, 107, 108, 109, 110, 111, 112, 113, 114, 115, 116, 117, 118, 119, 120, 121, 122, 48, 49, 50, 51, 52, 53, 54, 55, 56, 57, 45, 95]⟩ : ByteArray)[v]'h = signs.getD v 0 := by
  rw [List.getD_eq_getElem?_getD, List.getElem?_eq_getElem (show v < signs.length from h)]
  rfl
theorem idx_of (N k : Nat) (hN : N < 16777216) : bits .and .i64 (((N / k : Nat) : Int)) 63 = ((N / k % 64 : Nat) : Int) := by
  have h : N / k ≤ N := Nat.div_le_self _ _
  exact i64_low (N / k) 6 (by omega) (by omega)
theorem idx0 (N : Nat) (hN : N < 16777216) : bits .and .i64 ((N : Int) / 262144) 63 = ((N / 2 ^ (18 - 6 * 0) % 64 : Nat) : Int) := idx_of N 262144 hN
theorem idx1 (N : Nat) (hN : N < 16777216) : bits .and .i64 ((N : Int) / 4096) 63 = ((N / 2 ^ (18 - 6 * 1) % 64 : Nat) : Int) := idx_of N 4096 hN
theorem idx2 (N : Nat) (hN : N < 16777216) : bits .and .i64 ((N : Int) / 64) 63 = ((N / 2 ^ (18 - 6 * 2) % 64 : Nat) : Int) := idx_of N 64 hN
theorem idx3 (N : Nat) (hN : N < 16777216) : bits .and .i64 (N : Int) 63 = ((N / 2 ^ (18 - 6 * 3) % 64 : Nat) : Int) := by
  have := idx_of N 1 hN
  rw [Nat.div_one] at this
  simpa using this
def TInv (w : World) (z : Nat) (d : List UInt8) (v1 v2 : Value) (pre : List (Ck3 d.length)) (W : World) : Prop :=
  Lib.IsBuilderF 42 5 w.heap.size w.heap.size (Lib.byteCells (textTo d pre)) W ∧ (textTo d pre).length ≤ 4 * pre.length ∧ Below w.heap.size w W ∧ z ≤ W.heap.size ∧ W.heap[w.heap.size + 1]? = some (.cells #[v1] 22 (0, 0)) ∧ W.heap[w.heap.size + 1 + 1]? = some (.cells #[v2] 3 (0, 0))
theorem below_walk {w W W' : World} {row : Option Nat} (h : Below w.heap.size w W) (hg : W.grownBy W' row) (hr : ∀ r, row = some r → w.heap.size ≤ r) : Below w.heap.size w W' :=
  ⟨hg.os.trans h.os, hg.tape.trans h.tape, hg.output.trans h.output, Nat.le_trans h.size hg.size, fun k hk => (hg.block k (Nat.lt_of_lt_of_le hk h.size) (fun e => by have := hr k e.symm; omega)).trans (h.block k hk)⟩
theorem TInv.own {w : World} {z : Nat} {d : List UInt8} {v1 v2 : Value} {B : Nat} (hB : w.heap.size ≤ B) : OwnFrom B (TInv w z d v1 v2) := fun _ A _ _ hs hg hr => by
  obtain ⟨h1, h2, h3, h4, h5, h6⟩ := hs
  have hr2 := fun r e => (hr r e).2
  exact ⟨IsBuilderF_walk h1 hg hr2, h2, below_walk h3 hg (fun r e => Nat.le_trans hB (hr r e).1), Nat.le_trans h4 hg.size, (kept_cells hg hr2 h5).trans h5, (kept_cells hg hr2 h6).trans h6⟩
/-- Between the writes of one round. -/
def Mid (w W : World) (bs : List UInt8) (wr : World) : Prop :=
  Lib.IsBuilderF 42 5 w.heap.size w.heap.size (Lib.byteCells bs) wr ∧ Below w.heap.size w wr ∧ Lib.OthersKept 5 (some w.heap.size) W wr ∧ W.heap.size ≤ wr.heap.size
theorem Mid.drew {w W : World} {bs : List UInt8} {wr : World} (h : Mid w W bs wr) : Mid w W bs wr.drew := ⟨h.1, h.2.1.drew, h.2.2.1.drew, h.2.2.2⟩
theorem Mid.keeps {w W : World} {bs : List UInt8} {wr : World} (h : Mid w W bs wr) {B : Nat} (hB : w.heap.size < B) : KeepsFrom B W wr :=
  ⟨h.2.2.2, fun k o hk ho hc => h.2.2.1 k o ho (fun e => by cases e; omega) (fun c fz e => by subst e; simp [Obj.isCells] at hc)⟩
theorem Mid.put {w W : World} {bs : List UInt8} {wr w6 : World} {x : UInt8} (h : Mid w W bs wr) (hI : Lib.BuilderAtF 42 5 w.heap.size w.heap.size (.pointer (some ⟨w.heap.size, 0, none⟩)) (Lib.byteCells bs ++ [.int .u8 (x.toNat : Int)]) w6) (hb : Below w.heap.size wr w6) (hk : Lib.OthersKept 5 (some w.heap.size) wr w6) : Mid w W (bs ++ [x]) w6 :=
  ⟨.inr (by rw [Lib.byteCells_append]; exact hI), h.2.1.trans hb, h.2.2.1.trans hk, Nat.le_trans h.2.2.2 hb.size⟩
theorem Mid.keep2 {w W : World} {bs : List UInt8} {wr : World} {b1 b2 : Nat} {v1 v2 : Value} (h : Mid w W bs wr) (h1 : W.heap[b1]? = some (.cells #[v1] 22 (0, 0))) (h2 : W.heap[b2]? = some (.cells #[v2] 3 (0, 0))) (n1 : b1 ≠ w.heap.size) (n2 : b2 ≠ w.heap.size) : Keep2 b1 b2 W wr :=
  ⟨h.2.2.2, (h.2.2.1 b1 _ h1 (fun e => by cases e; exact n1 rfl) (fun c fz e => by cases e)).trans h1.symm, (h.2.2.1 b2 _ h2 (fun e => by cases e; exact n2 rfl) (fun c fz e => by cases e)).trans h2.symm⟩
set_option maxRecDepth 100000 in
set_option maxHeartbeats 1000000 in
theorem text_in (a : Option Addr) (c : Nat) (d : List UInt8) (w : World) (h : Rd w a d) (hdc : d.length ≤ c) (hl : d.length ≤ 1099511000000) :
    CallsIn Fence.wide 3 Try.prog 16 #[.slice a d.length c] w fun e w' => e = .returned (.string ⟨(text d).toArray⟩) ∧ Below w.heap.size w w' := by
  have hga : ∃ g o, 0 < d.length → a = some ⟨g, o, none⟩ ∧ g < w.heap.size := by
    by_cases hp : 0 < d.length
    · obtain ⟨b, off, e, hb, _⟩ := h.bytesAt hp
      exact ⟨b, off, fun _ => ⟨e, hb⟩⟩
    · exact ⟨0, 0, fun h2 => absurd h2 hp⟩
  obtain ⟨g, o, hga⟩ := hga
  have H := Lib.hid h
  have HGA := Lib.hid hga
  clear h hga
  refine callsIn_of_wp_marks Try.func16 rfl trivial ?_ rfl
  simp only [Try.ntmps16, List.size_toArray, List.length_cons, List.length_nil, Nat.reduceAdd, Nat.reduceSub, Array.replicate_succ, Array.replicate_zero, List.push_toArray, List.append_toArray, List.nil_append, List.cons_append]
  gi_wp2_with fail
  refine ⟨trivial, (callsIn_wide.2 (chunkS_any _ _ _ _)).mono ?_⟩
  rintro e w1 ⟨rfl, rfl⟩
  gi_wp2_with fail
  obtain ⟨W0, hW0⟩ : ∃ W0, w.alloc (.cells #[.pointer none, .slice none 0 0] 42) = W0 := ⟨_, rfl⟩
  have hI0 : Lib.IsBuilderF 42 5 w.heap.size w.heap.size [] W0 := by rw [← hW0]; exact Lib.IsBuilderF.of (Lib.fresh_isBuilder 42 5 w)
  have hb0 : Below w.heap.size w W0 := by rw [← hW0]; exact (Below.refl _ w).alloc (Nat.le_refl _) _
  have hs0 : W0.heap.size = w.heap.size + 1 := by rw [← hW0]; simp
  rw [hW0]
  obtain ⟨W5, hW5⟩ : ∃ W5, (W0.alloc (.cells #[.slice a d.length c] 22)).alloc (.cells #[.int .i64 3] 3) = W5 := ⟨_, rfl⟩
  have hb5 : Below W0.heap.size W0 W5 := by rw [← hW5]; exact ((Below.refl _ _).alloc (Nat.le_refl _) _).alloc (by simp) _
  have hs5 : W5.heap.size = W0.heap.size + 2 := by rw [← hW5]; simp
  have hI5 : Lib.IsBuilderF 42 5 w.heap.size w.heap.size [] W5 := by rw [← hW5]; exact (hI0.alloc _).alloc _
  have hq0 : W5.heap[W0.heap.size]? = some (.cells #[.slice a d.length c] 22 (0, 0)) := by
    rw [← hW5, heap_alloc_old _ _ (by simp), heap_alloc_new]
  have hq1 : W5.heap[W0.heap.size + 1]? = some (.cells #[.int .i64 3] 3 (0, 0)) := by
    rw [← hW5]
    have := heap_alloc_new (W0.alloc (.cells #[.slice a d.length c] 22)) (.cells #[.int .i64 3] 3)
    simpa using this
  have hbw : Below w.heap.size w W5 := hb0.trans (hb5.mono (by omega))
  rw [hW5]
  rw [hs0] at hq0 hq1
  refine wpIn_rangeFunc_ownG rfl (by omega) (gf := 40) (lb := #[.pointer (some ⟨w.heap.size + 1, 0, none⟩), .pointer (some ⟨w.heap.size + 1 + 1, 0, none⟩)]) rfl trivial (enters_of Try.func40 (by kernel_rfl) rfl)
    (chunkS_stops 2 (by omega) (w.heap.size + 1) (w.heap.size + 1 + 1) g o d.length c a (fun hp => (HGA.out hp).1) (by omega) hdc W5 hq0 hq1) Keep2.trans (Keep2.putObj (B := W5.heap.size) (by omega) (by omega)) (Below.refl _ _) (fun _ => rfl)
    (TInv w W5.heap.size d (.slice a d.length c) (.int .i64 3)) (fun _ _ _ => False) (TInv.own (by omega)) (fun _ _ _ _ _ hs _ _ => hs)
    ⟨hI5, by simp [textTo], hbw, Nat.le_refl _, hq0, hq1⟩
    (fun (y : Ck3 d.length) => { tmps := #[.slice a d.length c, undef, .string ⟨#[]⟩, .pointer (some ⟨w.heap.size, 0, none⟩), .slice (some ⟨g, o + 3 * y.1, none⟩) (ckLen3 d.length y.1) (ckLen3 d.length y.1), undef, undef, undef,
          .slice a d.length c, .func (.func 40) #[] #[.pointer (some ⟨w.heap.size + 1, 0, none⟩), .pointer (some ⟨w.heap.size + 1 + 1, 0, none⟩)], .slice (some ⟨g, o + 3 * y.1, none⟩) (ckLen3 d.length y.1) (ckLen3 d.length y.1),
          undef, undef, undef, undef, undef, undef, undef, undef, undef, undef, undef, undef, undef, undef, undef, undef, undef, undef, undef, undef, undef, undef, undef, undef, undef, undef, undef, undef, undef, undef, undef, undef, undef], defers := [] }) ?assign ?body ?done ?stop
  case assign =>
    intro l y W K hK
    simp only [encK3]
    gi_wp2
    exact hK
  case body =>
    rintro l pre y W ⟨h1, h2, h3, h4, h5, h6⟩ hlt
    obtain ⟨m, hm⟩ : ∃ m, ckLen3 d.length y.1 = m := ⟨_, rfl⟩
    obtain ⟨k, hky⟩ : ∃ k, 3 * y.1 = k := ⟨_, rfl⟩
    have hy2 := y.2
    have hmk : m = min 3 (d.length - k) := by rw [← hm, ← hky]; rfl
    rw [hky] at hy2
    have hm1 : 1 ≤ m := by omega
    have hm3 : m ≤ 3 := by omega
    have hkm : k + m ≤ d.length := by omega
    obtain ⟨rfl, hgw⟩ := HGA.out (by omega)
    obtain ⟨ch, hch⟩ : ∃ ch, piece d y.1 = ch := ⟨_, rfl⟩
    have hchl : ch.length = m := by rw [← hch]; unfold piece; rw [hky, List.length_take, List.length_drop]; omega
    have hM : Mid w W (textTo d pre) W := ⟨h1, h3, Lib.OthersKept.refl _ _ _, Nat.le_refl _⟩
    have hcell : ∀ wr, Below w.heap.size w wr → ∀ j, j < m → wr.cell? ⟨g, o + k + j, none⟩ = some (.int .u8 ((ch.getD j 0).toNat : Int)) := by
      intro wr hb j hj
      obtain ⟨b, off, e, hblt, hcs⟩ := (H.out.below hb).cells (by omega)
      cases e
      have hkj : k + j < d.length := by clear hchl; omega
      have := hcs (k + j) hkj
      rw [← Nat.add_assoc] at this
      rw [this]
      have e : ch.getD j 0 = d[k + j]'hkj := by
        have e2 : ch = (d.drop k).take 3 := by rw [← hch]; unfold piece; rw [hky]
        rw [e2, List.getD_eq_getElem?_getD, List.getElem?_take, if_pos (by omega), List.getElem?_drop, List.getElem?_eq_getElem (by omega)]
        rfl
      rw [e]
    have hpl : pre.length ≤ d.length := by omega
    have HM := Lib.hid hM; have H2 := Lib.hid h2; have H5 := Lib.hid h5; have H6 := Lib.hid h6; have HCH := Lib.hid hch; have HCL := Lib.hid hchl; have HC := Lib.hid hcell; have HMK := Lib.hid hm; have HKY := Lib.hid hky; have H4 := Lib.hid h4
    rw [hky, hm]
    have hgrp := grp_lt ch
    have HG := Lib.hid hgrp
    clear h1 h2 h3 h5 h6 hch hchl hcell hmk hm hky hq0 hq1 hI0 hb0 hI5 hW0 hW5 hgrp hM h4 hlt
    gi_wp2_with fail
    gi_loopw [11, 5] (fun i n wr => ∃ j : Nat, j ≤ 3 ∧ i = .int .i64 (j : Int) ∧ n = .int .i64 (grp ch j : Nat) ∧ Mid w W (textTo d pre) wr) (fun i n wr => 3 - (intOf i).toNat)
    case atStart => exact ⟨0, by omega, rfl, rfl, HM.out⟩
    case round =>
      obtain ⟨j, hj, rfl, rfl, hm⟩ := hrel
      have HMM := Lib.hid hm
      clear hm
      by_cases hend : j < 3
      · have hgj := HG.out j
        have hg2 : grp ch j < 65536 := Nat.lt_of_lt_of_le hgj (by
          have : j = 0 ∨ j = 1 ∨ j = 2 := by omega
          rcases this with rfl | rfl | rfl <;> simp)
        clear hgj
        by_cases hin : j < m
        · have hcj := HC.out wr HMM.out.2.1 j hin
          gi_wp2_with fail
          go_roundw
          case rel =>
            refine ⟨j + 1, by omega, by simp, ?_, HMM.out⟩
            refine congrArg (Value.int .i64) ?_
            exact grp_put ch j hg2
          case measure => simp [intOf]; omega
        · have hz : (ch.getD j 0).toNat = 0 := by rw [List.getD_eq_getElem?_getD, List.getElem?_eq_none (by rw [HCL.out]; omega)]; rfl
          have HZ := Lib.hid hz
          clear hz
          gi_wp2_with fail
          go_roundw
          case rel =>
            refine ⟨j + 1, by omega, by simp, ?_, HMM.out⟩
            refine congrArg (Value.int .i64) ?_
            rw [show grp ch (j + 1) = grp ch j * 256 + (ch.getD j 0).toNat from rfl, HZ.out]
            omega
          case measure => simp [intOf]; omega
      · obtain rfl : j = 3 := by omega
        have hg3 : grp ch 3 < 16777216 := HG.out 3
        obtain ⟨N, hN⟩ : ∃ N, grp ch 3 = N := ⟨_, rfl⟩
        have h3c : ((3 : Nat) : Int) = (3 : Int) := rfl
        rw [hN] at hg3
        rw [hN, h3c]
        have HN := Lib.hid hN
        clear hN
        gi_wp2_with fail
        gi_loopw [31] (fun i wr => ∃ q : Nat, q ≤ m + 1 ∧ i = .int .i64 (q : Int) ∧ Mid w W (textTo d pre ++ grpText ch q) wr) (fun i wr => 5 - (intOf i).toNat)
        case atStart => exact ⟨0, by omega, rfl, by simpa [grpText] using HMM.out⟩
        case round =>
          obtain ⟨q, hq, rfl, hm⟩ := hrel
          have HM2 := Lib.hid hm
          clear hm
          by_cases hend2 : q < m + 1
          · have hqq : q = 0 ∨ q = 1 ∨ q = 2 ∨ q = 3 := by omega
            have hlen : (Lib.byteCells (textTo d pre ++ grpText ch q)).length + 1 ≤ 140737488355328 := by
              rw [Lib.byteCells_length, List.length_append]
              have := H2.out
              simp only [grpText, List.length_map, List.length_range]
              omega
            have HLEN := Lib.hid hlen
            clear hlen
            rcases hqq with rfl | rfl | rfl | rfl
            · obtain ⟨v, hv, hb, hsg⟩ : ∃ v : Nat, v < 64 ∧ bits .and .i64 ((N : Int) / 262144) 63 = (v : Int) ∧ signAt N 0 = signs.getD v 0 := ⟨N / 2 ^ (18 - 6 * 0) % 64, by omega, idx0 N hg3, rfl⟩
              have hsv := signs_at v hv
              have HSG := Lib.hid hsg
              have HSV := Lib.hid hsv
              clear hsg hsv
              gi_wp2_with fail
              refine ⟨trivial, ?_⟩
              refine (CallsIn.inRound l (callsIn_wide.2 (Try.WriteByte_k w.heap.size w.heap.size _ _ wr HM2.out.1 HLEN.out (by have := HM2.out.2.1.size; omega)))).mono ?_
              rintro e w6 ⟨rfl, hI6, hb6, hk6⟩
              gi_wp2_with fail
              go_roundw
              case rel =>
                refine ⟨0 + 1, by omega, by simp, ?_⟩
                rw [HSV.out, ← HSG.out, ← HN.out] at hI6
                rw [grpText_succ, ← List.append_assoc]
                exact HM2.out.put hI6 hb6 hk6
              case measure => simp [intOf]
            · obtain ⟨v, hv, hb, hsg⟩ : ∃ v : Nat, v < 64 ∧ bits .and .i64 ((N : Int) / 4096) 63 = (v : Int) ∧ signAt N 1 = signs.getD v 0 := ⟨N / 2 ^ (18 - 6 * 1) % 64, by omega, idx1 N hg3, rfl⟩
              have hsv := signs_at v hv
              have HSG := Lib.hid hsg
              have HSV := Lib.hid hsv
              clear hsg hsv
              gi_wp2_with fail
              refine ⟨trivial, ?_⟩
              refine (CallsIn.inRound l (callsIn_wide.2 (Try.WriteByte_k w.heap.size w.heap.size _ _ wr HM2.out.1 HLEN.out (by have := HM2.out.2.1.size; omega)))).mono ?_
              rintro e w6 ⟨rfl, hI6, hb6, hk6⟩
              gi_wp2_with fail
              go_roundw
              case rel =>
                refine ⟨1 + 1, by omega, by simp, ?_⟩
                rw [HSV.out, ← HSG.out, ← HN.out] at hI6
                rw [grpText_succ, ← List.append_assoc]
                exact HM2.out.put hI6 hb6 hk6
              case measure => simp [intOf]
            · obtain ⟨v, hv, hb, hsg⟩ : ∃ v : Nat, v < 64 ∧ bits .and .i64 ((N : Int) / 64) 63 = (v : Int) ∧ signAt N 2 = signs.getD v 0 := ⟨N / 2 ^ (18 - 6 * 2) % 64, by omega, idx2 N hg3, rfl⟩
              have hsv := signs_at v hv
              have HSG := Lib.hid hsg
              have HSV := Lib.hid hsv
              clear hsg hsv
              gi_wp2_with fail
              refine ⟨trivial, ?_⟩
              refine (CallsIn.inRound l (callsIn_wide.2 (Try.WriteByte_k w.heap.size w.heap.size _ _ wr HM2.out.1 HLEN.out (by have := HM2.out.2.1.size; omega)))).mono ?_
              rintro e w6 ⟨rfl, hI6, hb6, hk6⟩
              gi_wp2_with fail
              go_roundw
              case rel =>
                refine ⟨2 + 1, by omega, by simp, ?_⟩
                rw [HSV.out, ← HSG.out, ← HN.out] at hI6
                rw [grpText_succ, ← List.append_assoc]
                exact HM2.out.put hI6 hb6 hk6
              case measure => simp [intOf]
            · obtain ⟨v, hv, hb, hsg⟩ : ∃ v : Nat, v < 64 ∧ bits .and .i64 (N : Int) 63 = (v : Int) ∧ signAt N 3 = signs.getD v 0 := ⟨N / 2 ^ (18 - 6 * 3) % 64, by omega, idx3 N hg3, rfl⟩
              have hsv := signs_at v hv
              have HSG := Lib.hid hsg
              have HSV := Lib.hid hsv
              clear hsg hsv
              gi_wp2_with fail
              refine ⟨trivial, ?_⟩
              refine (CallsIn.inRound l (callsIn_wide.2 (Try.WriteByte_k w.heap.size w.heap.size _ _ wr HM2.out.1 HLEN.out (by have := HM2.out.2.1.size; omega)))).mono ?_
              rintro e w6 ⟨rfl, hI6, hb6, hk6⟩
              gi_wp2_with fail
              go_roundw
              case rel =>
                refine ⟨3 + 1, by omega, by simp, ?_⟩
                rw [HSV.out, ← HSG.out, ← HN.out] at hI6
                rw [grpText_succ, ← List.append_assoc]
                exact HM2.out.put hI6 hb6 hk6
              case measure => simp [intOf]
          · obtain rfl : q = m + 1 := by omega
            gi_wp2_with fail
            have hM3 := HM2.out
            have hk2 := hM3.keep2 H5.out H6.out (by omega) (by omega)
            have htx : textTo d (pre ++ [y]) = textTo d pre ++ grpText ch (m + 1) := by rw [textTo_snoc, HCH.out, HCL.out]
            refine ⟨hM3.keeps (by omega), hk2, ?_, ?_, hM3.2.1, Nat.le_trans H4.out hM3.2.2.2, hk2.2.1.trans H5.out, hk2.2.2.trans H6.out⟩
            · rw [htx]; exact hM3.1
            · rw [htx, List.length_append, List.length_append]
              have := H2.out
              simp only [grpText, List.length_map, List.length_range, List.length_cons, List.length_nil]
              omega
  case done =>
    rintro D ys W hD hS hinv hK
    obtain ⟨h1, h2, h3, h4, h5, h6⟩ := hinv
    rw [textTo_all d ys hS] at h1
    have H1 := Lib.hid h1; have H3 := Lib.hid h3
    clear h1 h2 h3 h4 h5 h6 hq0 hq1 hI0 hb0 hI5 hW0 hW5 hb5 hbw hS
    gi_wp2_with fail
    refine ⟨trivial, (callsIn_wide.2 (Try.String_any_k w.heap.size w.heap.size (text d) W H1.out (by have := H3.out.size; omega))).mono ?_⟩
    rintro e w7 ⟨rfl, hI7, hb7, hk7⟩
    have hK7 := hk7 D _ hK (by intro e; cases e; omega) (by intro c fz e; cases e)
    have HI7 := Lib.hid hI7; have HB7 := Lib.hid (H3.out.trans hb7)
    clear hI7 hb7 hk7 hK
    gi_wp2_with fail
    refine ⟨by simp, .inl ⟨_, _, rfl, run_takeDeferred hK7, ?_⟩⟩
    exact ⟨_, results_tmp rfl _ _ _, rfl, HB7.out.trans (belowK_b (w := w) (Nat.le_refl _) w7 D _ _ (by omega) hK7 rfl rfl)⟩
  case stop =>
    rintro D c pre W hD hS hout hK
    exact hout.elim
theorem text_any (a : Option Addr) (c : Nat) (d : List UInt8) (w : World) (h : Rd w a d) (hdc : d.length ≤ c) (hl : d.length ≤ 1099511000000) :
    Calls Try.prog 16 #[.slice a d.length c] w fun e w' => e = .returned (.string ⟨(text d).toArray⟩) ∧ Below w.heap.size w w' :=
  callsIn_wide.1 (text_in a c d w h hdc hl)
end Go.Proofs.Ytnhljemnebgekaa
