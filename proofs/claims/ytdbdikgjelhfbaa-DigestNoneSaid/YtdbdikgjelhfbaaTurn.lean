/-
  The turns of a word: RotateLeft32, right, small and great, called on any word with the numbers that the sum uses.
-/
import Derived.Test.YtdbdikgjelhfbaaSha
import Derived.Test.YtdbdikgjelhfbaaProg
import Derived.Test.YtdbdikgjelhfbaaChecked
import Derived.WalkKit
import Derived.WalkSpells
import Derived.WalkLawsBesides
import Derived.Handy
import Derived.Lib.Hide
import Derived.Laws.BitsAllLaws
import Derived.Laws.Shifts
namespace Go.Proofs.Ytdbdikgjelhfbaa
open Go.RowKit Sha

theorem turn_nat (x : W) (n m k : Nat) (hn : n ≤ 32) (hm : m = 2 ^ (32 - n)) (hk : k = 2 ^ n) :
    bits .or .u32 ((x.toNat : Int) * (m : Int) % 4294967296) ((x.toNat : Int) / (k : Int)) = ((turn x n).toNat : Int) := by
  have hx := x.isLt
  have h1 : (x.toNat : Int) * (m : Int) % 4294967296 = ((x.toNat * m % 4294967296 : Nat) : Int) := by simp
  have h2 : (x.toNat : Int) / (k : Int) = ((x.toNat / k : Nat) : Int) := by simp
  have h3 : x.toNat / k < 4294967296 := Nat.lt_of_le_of_lt (Nat.div_le_self _ _) hx
  rw [h1, h2, u32_or_nat _ _ (Nat.mod_lt _ (by decide)) h3]
  unfold turn
  rw [BitVec.toNat_or, BitVec.toNat_shiftLeft, BitVec.toNat_ushiftRight, Nat.shiftLeft_eq, Nat.shiftRight_eq_div_pow, hm, hk]

theorem xor_nat (x y : W) : bits .xor .u32 (x.toNat : Int) (y.toNat : Int) = ((x ^^^ y).toNat : Int) := by
  rw [u32_xor_nat _ _ x.isLt y.isLt, BitVec.toNat_xor]
theorem and_nat (x y : W) : bits .and .u32 (x.toNat : Int) (y.toNat : Int) = ((x &&& y).toNat : Int) := by
  rw [u32_and_nat _ _ x.isLt y.isLt, BitVec.toNat_and]
theorem or_nat (x y : W) : bits .or .u32 (x.toNat : Int) (y.toNat : Int) = ((x ||| y).toNat : Int) := by
  rw [u32_or_nat _ _ x.isLt y.isLt, BitVec.toNat_or]
theorem shr_nat (x : W) (c k : Nat) (hk : k = 2 ^ c) : (x.toNat : Int) / (k : Int) = ((x >>> c).toNat : Int) := by
  rw [BitVec.toNat_ushiftRight, Nat.shiftRight_eq_div_pow, hk]; simp
theorem small_nat (x : W) (a b c k : Nat) (hk : k = 2 ^ c) : bits .xor .u32 (bits .xor .u32 ((turn x a).toNat : Int) ((turn x b).toNat : Int)) ((x.toNat : Int) / (k : Int)) = ((small x a b c).toNat : Int) := by
  rw [xor_nat, shr_nat x c k hk, xor_nat]; rfl
theorem great_nat (x : W) (a b c : Nat) : bits .xor .u32 (bits .xor .u32 ((turn x a).toNat : Int) ((turn x b).toNat : Int)) ((turn x c).toNat : Int) = ((great x a b c).toNat : Int) := by
  rw [xor_nat, xor_nat]; rfl

set_option maxRecDepth 100000 in
theorem rotate_2 (x : W) (w : World) : Calls Try.prog 35 #[.int .u32 x.toNat, .int .i64 (-2)] w fun e w' => e = .returned (.int .u32 (turn x 2).toNat) ∧ w = w' := by
  have hx := x.isLt
  have hb : bits .and .u64 (IntKind.u64.wrap (-2)) 31 = 30 := by decide
  go_enter Try.func35, Try.ntmps35
  go_wp2_with fail
  go_ret
  exact ⟨congrArg (fun z => Ending.returned (Value.int .u32 z)) (turn_nat x 2 1073741824 4 (by decide) (by decide) (by decide)), rfl⟩
set_option maxRecDepth 100000 in
theorem right_2 (x : W) (w : World) : Calls Try.prog 34 #[.int .u32 x.toNat, .int .i64 2] w fun e w' => e = .returned (.int .u32 (turn x 2).toNat) ∧ w = w' := by
  go_enter Try.func34, Try.ntmps34
  go_wp2_with fail
  refine (rotate_2 x _).mono ?_
  rintro e _ ⟨rfl, rfl⟩
  go_wp2_with fail
  go_ret
  exact ⟨rfl, rfl⟩
set_option maxRecDepth 100000 in
theorem rotate_6 (x : W) (w : World) : Calls Try.prog 35 #[.int .u32 x.toNat, .int .i64 (-6)] w fun e w' => e = .returned (.int .u32 (turn x 6).toNat) ∧ w = w' := by
  have hx := x.isLt
  have hb : bits .and .u64 (IntKind.u64.wrap (-6)) 31 = 26 := by decide
  go_enter Try.func35, Try.ntmps35
  go_wp2_with fail
  go_ret
  exact ⟨congrArg (fun z => Ending.returned (Value.int .u32 z)) (turn_nat x 6 67108864 64 (by decide) (by decide) (by decide)), rfl⟩
set_option maxRecDepth 100000 in
theorem right_6 (x : W) (w : World) : Calls Try.prog 34 #[.int .u32 x.toNat, .int .i64 6] w fun e w' => e = .returned (.int .u32 (turn x 6).toNat) ∧ w = w' := by
  go_enter Try.func34, Try.ntmps34
  go_wp2_with fail
  refine (rotate_6 x _).mono ?_
  rintro e _ ⟨rfl, rfl⟩
  go_wp2_with fail
  go_ret
  exact ⟨rfl, rfl⟩
set_option maxRecDepth 100000 in
theorem rotate_7 (x : W) (w : World) : Calls Try.prog 35 #[.int .u32 x.toNat, .int .i64 (-7)] w fun e w' => e = .returned (.int .u32 (turn x 7).toNat) ∧ w = w' := by
  have hx := x.isLt
  have hb : bits .and .u64 (IntKind.u64.wrap (-7)) 31 = 25 := by decide
  go_enter Try.func35, Try.ntmps35
  go_wp2_with fail
  go_ret
  exact ⟨congrArg (fun z => Ending.returned (Value.int .u32 z)) (turn_nat x 7 33554432 128 (by decide) (by decide) (by decide)), rfl⟩
set_option maxRecDepth 100000 in
theorem right_7 (x : W) (w : World) : Calls Try.prog 34 #[.int .u32 x.toNat, .int .i64 7] w fun e w' => e = .returned (.int .u32 (turn x 7).toNat) ∧ w = w' := by
  go_enter Try.func34, Try.ntmps34
  go_wp2_with fail
  refine (rotate_7 x _).mono ?_
  rintro e _ ⟨rfl, rfl⟩
  go_wp2_with fail
  go_ret
  exact ⟨rfl, rfl⟩
set_option maxRecDepth 100000 in
theorem rotate_11 (x : W) (w : World) : Calls Try.prog 35 #[.int .u32 x.toNat, .int .i64 (-11)] w fun e w' => e = .returned (.int .u32 (turn x 11).toNat) ∧ w = w' := by
  have hx := x.isLt
  have hb : bits .and .u64 (IntKind.u64.wrap (-11)) 31 = 21 := by decide
  go_enter Try.func35, Try.ntmps35
  go_wp2_with fail
  go_ret
  exact ⟨congrArg (fun z => Ending.returned (Value.int .u32 z)) (turn_nat x 11 2097152 2048 (by decide) (by decide) (by decide)), rfl⟩
set_option maxRecDepth 100000 in
theorem right_11 (x : W) (w : World) : Calls Try.prog 34 #[.int .u32 x.toNat, .int .i64 11] w fun e w' => e = .returned (.int .u32 (turn x 11).toNat) ∧ w = w' := by
  go_enter Try.func34, Try.ntmps34
  go_wp2_with fail
  refine (rotate_11 x _).mono ?_
  rintro e _ ⟨rfl, rfl⟩
  go_wp2_with fail
  go_ret
  exact ⟨rfl, rfl⟩
set_option maxRecDepth 100000 in
theorem rotate_13 (x : W) (w : World) : Calls Try.prog 35 #[.int .u32 x.toNat, .int .i64 (-13)] w fun e w' => e = .returned (.int .u32 (turn x 13).toNat) ∧ w = w' := by
  have hx := x.isLt
  have hb : bits .and .u64 (IntKind.u64.wrap (-13)) 31 = 19 := by decide
  go_enter Try.func35, Try.ntmps35
  go_wp2_with fail
  go_ret
  exact ⟨congrArg (fun z => Ending.returned (Value.int .u32 z)) (turn_nat x 13 524288 8192 (by decide) (by decide) (by decide)), rfl⟩
set_option maxRecDepth 100000 in
theorem right_13 (x : W) (w : World) : Calls Try.prog 34 #[.int .u32 x.toNat, .int .i64 13] w fun e w' => e = .returned (.int .u32 (turn x 13).toNat) ∧ w = w' := by
  go_enter Try.func34, Try.ntmps34
  go_wp2_with fail
  refine (rotate_13 x _).mono ?_
  rintro e _ ⟨rfl, rfl⟩
  go_wp2_with fail
  go_ret
  exact ⟨rfl, rfl⟩
set_option maxRecDepth 100000 in
theorem rotate_17 (x : W) (w : World) : Calls Try.prog 35 #[.int .u32 x.toNat, .int .i64 (-17)] w fun e w' => e = .returned (.int .u32 (turn x 17).toNat) ∧ w = w' := by
  have hx := x.isLt
  have hb : bits .and .u64 (IntKind.u64.wrap (-17)) 31 = 15 := by decide
  go_enter Try.func35, Try.ntmps35
  go_wp2_with fail
  go_ret
  exact ⟨congrArg (fun z => Ending.returned (Value.int .u32 z)) (turn_nat x 17 32768 131072 (by decide) (by decide) (by decide)), rfl⟩
set_option maxRecDepth 100000 in
theorem right_17 (x : W) (w : World) : Calls Try.prog 34 #[.int .u32 x.toNat, .int .i64 17] w fun e w' => e = .returned (.int .u32 (turn x 17).toNat) ∧ w = w' := by
  go_enter Try.func34, Try.ntmps34
  go_wp2_with fail
  refine (rotate_17 x _).mono ?_
  rintro e _ ⟨rfl, rfl⟩
  go_wp2_with fail
  go_ret
  exact ⟨rfl, rfl⟩
set_option maxRecDepth 100000 in
theorem rotate_18 (x : W) (w : World) : Calls Try.prog 35 #[.int .u32 x.toNat, .int .i64 (-18)] w fun e w' => e = .returned (.int .u32 (turn x 18).toNat) ∧ w = w' := by
  have hx := x.isLt
  have hb : bits .and .u64 (IntKind.u64.wrap (-18)) 31 = 14 := by decide
  go_enter Try.func35, Try.ntmps35
  go_wp2_with fail
  go_ret
  exact ⟨congrArg (fun z => Ending.returned (Value.int .u32 z)) (turn_nat x 18 16384 262144 (by decide) (by decide) (by decide)), rfl⟩
set_option maxRecDepth 100000 in
theorem right_18 (x : W) (w : World) : Calls Try.prog 34 #[.int .u32 x.toNat, .int .i64 18] w fun e w' => e = .returned (.int .u32 (turn x 18).toNat) ∧ w = w' := by
  go_enter Try.func34, Try.ntmps34
  go_wp2_with fail
  refine (rotate_18 x _).mono ?_
  rintro e _ ⟨rfl, rfl⟩
  go_wp2_with fail
  go_ret
  exact ⟨rfl, rfl⟩
set_option maxRecDepth 100000 in
theorem rotate_19 (x : W) (w : World) : Calls Try.prog 35 #[.int .u32 x.toNat, .int .i64 (-19)] w fun e w' => e = .returned (.int .u32 (turn x 19).toNat) ∧ w = w' := by
  have hx := x.isLt
  have hb : bits .and .u64 (IntKind.u64.wrap (-19)) 31 = 13 := by decide
  go_enter Try.func35, Try.ntmps35
  go_wp2_with fail
  go_ret
  exact ⟨congrArg (fun z => Ending.returned (Value.int .u32 z)) (turn_nat x 19 8192 524288 (by decide) (by decide) (by decide)), rfl⟩
set_option maxRecDepth 100000 in
theorem right_19 (x : W) (w : World) : Calls Try.prog 34 #[.int .u32 x.toNat, .int .i64 19] w fun e w' => e = .returned (.int .u32 (turn x 19).toNat) ∧ w = w' := by
  go_enter Try.func34, Try.ntmps34
  go_wp2_with fail
  refine (rotate_19 x _).mono ?_
  rintro e _ ⟨rfl, rfl⟩
  go_wp2_with fail
  go_ret
  exact ⟨rfl, rfl⟩
set_option maxRecDepth 100000 in
theorem rotate_22 (x : W) (w : World) : Calls Try.prog 35 #[.int .u32 x.toNat, .int .i64 (-22)] w fun e w' => e = .returned (.int .u32 (turn x 22).toNat) ∧ w = w' := by
  have hx := x.isLt
  have hb : bits .and .u64 (IntKind.u64.wrap (-22)) 31 = 10 := by decide
  go_enter Try.func35, Try.ntmps35
  go_wp2_with fail
  go_ret
  exact ⟨congrArg (fun z => Ending.returned (Value.int .u32 z)) (turn_nat x 22 1024 4194304 (by decide) (by decide) (by decide)), rfl⟩
set_option maxRecDepth 100000 in
theorem right_22 (x : W) (w : World) : Calls Try.prog 34 #[.int .u32 x.toNat, .int .i64 22] w fun e w' => e = .returned (.int .u32 (turn x 22).toNat) ∧ w = w' := by
  go_enter Try.func34, Try.ntmps34
  go_wp2_with fail
  refine (rotate_22 x _).mono ?_
  rintro e _ ⟨rfl, rfl⟩
  go_wp2_with fail
  go_ret
  exact ⟨rfl, rfl⟩
set_option maxRecDepth 100000 in
theorem rotate_25 (x : W) (w : World) : Calls Try.prog 35 #[.int .u32 x.toNat, .int .i64 (-25)] w fun e w' => e = .returned (.int .u32 (turn x 25).toNat) ∧ w = w' := by
  have hx := x.isLt
  have hb : bits .and .u64 (IntKind.u64.wrap (-25)) 31 = 7 := by decide
  go_enter Try.func35, Try.ntmps35
  go_wp2_with fail
  go_ret
  exact ⟨congrArg (fun z => Ending.returned (Value.int .u32 z)) (turn_nat x 25 128 33554432 (by decide) (by decide) (by decide)), rfl⟩
set_option maxRecDepth 100000 in
theorem right_25 (x : W) (w : World) : Calls Try.prog 34 #[.int .u32 x.toNat, .int .i64 25] w fun e w' => e = .returned (.int .u32 (turn x 25).toNat) ∧ w = w' := by
  go_enter Try.func34, Try.ntmps34
  go_wp2_with fail
  refine (rotate_25 x _).mono ?_
  rintro e _ ⟨rfl, rfl⟩
  go_wp2_with fail
  go_ret
  exact ⟨rfl, rfl⟩
set_option maxRecDepth 100000 in
theorem small_17 (x : W) (w : World) : Calls Try.prog 33 #[.int .u32 x.toNat, .int .i64 17, .int .i64 19, .int .u64 10] w fun e w' => e = .returned (.int .u32 (small x 17 19 10).toNat) ∧ w = w' := by
  have hx := x.isLt
  go_enter Try.func33, Try.ntmps33
  go_wp2_with fail
  refine (right_17 x _).mono ?_
  rintro e _ ⟨rfl, rfl⟩
  go_wp2_with fail
  refine (right_19 x _).mono ?_
  rintro e _ ⟨rfl, rfl⟩
  go_wp2_with fail
  go_ret
  exact ⟨congrArg (fun z => Ending.returned (Value.int .u32 z)) (small_nat x 17 19 10 1024 (by decide)), rfl⟩
set_option maxRecDepth 100000 in
theorem small_7 (x : W) (w : World) : Calls Try.prog 33 #[.int .u32 x.toNat, .int .i64 7, .int .i64 18, .int .u64 3] w fun e w' => e = .returned (.int .u32 (small x 7 18 3).toNat) ∧ w = w' := by
  have hx := x.isLt
  go_enter Try.func33, Try.ntmps33
  go_wp2_with fail
  refine (right_7 x _).mono ?_
  rintro e _ ⟨rfl, rfl⟩
  go_wp2_with fail
  refine (right_18 x _).mono ?_
  rintro e _ ⟨rfl, rfl⟩
  go_wp2_with fail
  go_ret
  exact ⟨congrArg (fun z => Ending.returned (Value.int .u32 z)) (small_nat x 7 18 3 8 (by decide)), rfl⟩
set_option maxRecDepth 100000 in
theorem great_6 (x : W) (w : World) : Calls Try.prog 29 #[.int .u32 x.toNat, .int .i64 6, .int .i64 11, .int .i64 25] w fun e w' => e = .returned (.int .u32 (great x 6 11 25).toNat) ∧ w = w' := by
  go_enter Try.func29, Try.ntmps29
  go_wp2_with fail
  refine (right_6 x _).mono ?_
  rintro e _ ⟨rfl, rfl⟩
  go_wp2_with fail
  refine (right_11 x _).mono ?_
  rintro e _ ⟨rfl, rfl⟩
  go_wp2_with fail
  refine (right_25 x _).mono ?_
  rintro e _ ⟨rfl, rfl⟩
  go_wp2_with fail
  go_ret
  exact ⟨congrArg (fun z => Ending.returned (Value.int .u32 z)) (great_nat x 6 11 25), rfl⟩
set_option maxRecDepth 100000 in
theorem great_2 (x : W) (w : World) : Calls Try.prog 29 #[.int .u32 x.toNat, .int .i64 2, .int .i64 13, .int .i64 22] w fun e w' => e = .returned (.int .u32 (great x 2 13 22).toNat) ∧ w = w' := by
  go_enter Try.func29, Try.ntmps29
  go_wp2_with fail
  refine (right_2 x _).mono ?_
  rintro e _ ⟨rfl, rfl⟩
  go_wp2_with fail
  refine (right_13 x _).mono ?_
  rintro e _ ⟨rfl, rfl⟩
  go_wp2_with fail
  refine (right_22 x _).mono ?_
  rintro e _ ⟨rfl, rfl⟩
  go_wp2_with fail
  go_ret
  exact ⟨congrArg (fun z => Ending.returned (Value.int .u32 z)) (great_nat x 2 13 22), rfl⟩
end Go.Proofs.Ytdbdikgjelhfbaa
