/-
  Texts of this session, merged in build order: Rfx5, Rfx6, Rfx7, Rfx, Ref, RefE, RefCode, Rtx0.
-/
import Derived.Test.YtnhljemnebgekaaZSealMakes0
import Derived.Test.YtnhljemnebgekaaZC0
import Derived.Test.YtnhljemnebgekaaProg
import Derived.Below
import Derived.Deep.Draws
import Derived.Deep.AppendLies
import Derived.Maps.AppendAt
import Derived.OwnWalk
import Derived.Laws.BytesArg
import Derived.Laws.MakeOwn
import Derived.Laws.OwnMore
import Derived.Deep.OwnRows
import Derived.Tactics
import Derived.Lib.ConvBytes
import Derived.Laws.Slices
import Derived.WalkKit
import Derived.KernelRfl
import Derived.RowKit3
import Derived.Deep.LoopGhost
import Derived.Deep.QuietTactic
import Derived.BigQuiet
import Derived.WideLaws
import Derived.Deep.DeepCutAuto
import Derived.Deep.CutBlock
import Derived.Deep.RegionHeld3
import Derived.Laws.Rows
import Derived.Lib.AppendStr
import Derived.ArgAppend
import Derived.Laws.IdiomCopy
import Derived.OrdersHeld
import Derived.Laws.BitsLemmas
import Derived.RowKit
import Derived.Test.YtnhljemnebgekaaWWords
import Derived.Test.YtnhljemnebgekaaWLast
import Derived.Test.YtnhljemnebgekaaWTab
import Derived.Test.YtnhljemnebgekaaWFour
import Derived.Test.YtnhljemnebgekaaWQPut
import Derived.Test.YtnhljemnebgekaaWApart
import Derived.Test.YtnhljemnebgekaaWArr
import Derived.Test.YtnhljemnebgekaaWZeros
import Derived.Test.YtnhljemnebgekaaWFoot
import Derived.Test.YtnhljemnebgekaaWKept
import Derived.Test.YtnhljemnebgekaaWShare
import Derived.Test.YtnhljemnebgekaaWN
import Derived.Test.YtnhljemnebgekaaWEqStruct
import Derived.Test.YtnhljemnebgekaaWRepsOne
import Derived.Test.YtnhljemnebgekaaWGuard
import Derived.Test.YtnhljemnebgekaaWNEv
import Derived.Test.YtnhljemnebgekaaWMore
set_option linter.unusedVariables false
set_option linter.unusedSimpArgs false
/-
  What the functions of these laws compute, as plain Lean functions, and that the machine's calls compute it: written by this session's own hook over the kit's print.
-/
namespace Go.Proofs.Ytnhljemnebgekaa.Rf
open Go.RowKit Go.Proofs.YtnhljemnebgekaaW.PrintWords Go.Proofs.YtnhljemnebgekaaW.PrintLast Go.Proofs.YtnhljemnebgekaaW.PrintMore
attribute [local go_sem] u32_sg u32_mx u64_sg u64_mx
attribute [local go_sem] max2_int min2_int max_two min_two max_three min_three max_four min_four   -- for this text's walks alone
set_option linter.unusedVariables false
set_option linter.unusedSimpArgs false

/-! ### heliastref04_block: function 35 -/
mutual
def heliastref04_block.l0 : Nat → List Int → List Int → List Int → List Int → Int → Option (List Int)
  | 0, _, _, _, _, _ => none
  | k + 1, x0, x5, x6, x7, x8 => if x8 < 64 then (if 4 < (x7.length : Int) then (if 0 < (x7.length : Int) then (if 7 < (x7.length : Int) then ((heliastref04_turn.f (rd x7 4) 6).bind fun t143 => ((heliastref04_turn.f (rd x7 4) 11).bind fun t144 => ((heliastref04_turn.f (rd x7 4) 25).bind fun t145 => (if 5 < (x7.length : Int) then (if 6 < (x7.length : Int) then (if 0 ≤ x8 then (if x8 < (x6.length : Int) then (if x8 < (x5.length : Int) then ((heliastref04_turn.f (rd x7 0) 2).bind fun t150 => ((heliastref04_turn.f (rd x7 0) 13).bind fun t151 => ((heliastref04_turn.f (rd x7 0) 22).bind fun t152 => (if 1 < (x7.length : Int) then (if 2 < (x7.length : Int) then (if 3 < (x7.length : Int) then (heliastref04_block.l0 k x0 x5 x6 (([((((((((((rd x7 7) + (Go.bits .xor .u32 (Go.bits .xor .u32 t143 t144) t145)) % 4294967296) + (Go.bits .xor .u32 (Go.bits .and .u32 (rd x7 4) (rd x7 5)) (Go.bits .and .u32 (Go.bits .xor .u32 4294967295 (rd x7 4)) (rd x7 6)))) % 4294967296) + (rd x6 x8)) % 4294967296) + (rd x5 x8)) % 4294967296) + (((Go.bits .xor .u32 (Go.bits .xor .u32 t150 t151) t152) + (Go.bits .xor .u32 (Go.bits .xor .u32 (Go.bits .and .u32 (rd x7 0) (rd x7 1)) (Go.bits .and .u32 (rd x7 0) (rd x7 2))) (Go.bits .and .u32 (rd x7 1) (rd x7 2)))) % 4294967296)) % 4294967296, rd x7 0, rd x7 1, rd x7 2, ((rd x7 3) + (((((((((rd x7 7) + (Go.bits .xor .u32 (Go.bits .xor .u32 t143 t144) t145)) % 4294967296) + (Go.bits .xor .u32 (Go.bits .and .u32 (rd x7 4) (rd x7 5)) (Go.bits .and .u32 (Go.bits .xor .u32 4294967295 (rd x7 4)) (rd x7 6)))) % 4294967296) + (rd x6 x8)) % 4294967296) + (rd x5 x8)) % 4294967296)) % 4294967296, rd x7 4, rd x7 5, rd x7 6] : List Int)) (wrap64 (x8 + 1))) else (none)) else (none)) else (none))))) else (none)) else (none)) else (none)) else (none)) else (none))))) else (none)) else (none)) else (none)) else (heliastref04_block.l1 k x0 x7 0)
def heliastref04_block.l1 : Nat → List Int → List Int → Int → Option (List Int)
  | 0, _, _, _ => none
  | k + 1, x0, x7, x13 => if x13 < 8 then (if 0 ≤ x13 then (if x13 < (x7.length : Int) then (if x13 < (x0.length : Int) then (heliastref04_block.l1 k x0 (x7.set (x13 : Int).toNat (((rd x7 x13) + (rd x0 x13)) % 4294967296)) (wrap64 (x13 + 1))) else (none)) else (none)) else (none)) else (some x7)
end
def heliastref04_block.f (k : Nat) (l0 : List Int) (l1 : List Int) : Option (List Int) := (heliastref04_words.f k l1).bind fun t131 => ((heliastref04_keys.f).bind fun t134 => (if ([] : List Int).length + l0.length < 35184372088832 then (heliastref04_block.l0 k l0 t131 t134 (([] : List Int) ++ l0) 0) else (none)))
theorem heliastref04_block.mono_l : ∀ k, (∀ y0 y1 y2 y3 y4, LeO (heliastref04_block.l0 k y0 y1 y2 y3 y4) (heliastref04_block.l0 (k + 1) y0 y1 y2 y3 y4)) ∧ (∀ y0 y1 y2, LeO (heliastref04_block.l1 k y0 y1 y2) (heliastref04_block.l1 (k + 1) y0 y1 y2))
  | 0 => ⟨fun _ _ _ _ _ r h => by simp [heliastref04_block.l0] at h, fun _ _ _ r h => by simp [heliastref04_block.l1] at h⟩
  | k + 1 => by
    obtain ⟨ih0, ih1⟩ := heliastref04_block.mono_l k
    refine ⟨?_, ?_⟩
    · intro y0 y1 y2 y3 y4
      unfold heliastref04_block.l0
      repeat' first
      | (with_reducible exact ih0 _ _ _ _ _)
      | (with_reducible exact ih1 _ _ _)
      | (with_reducible exact heliastref04_words.mono _ _)
      | (with_reducible exact LeO.refl _)
      | (with_reducible exact LeO.none _)
      | (with_reducible refine LeO.ite ?_ ?_)
      | (with_reducible refine LeO.bind ?_ (fun _ => ?_))
      | exact ih0 _ _ _ _ _
      | exact ih1 _ _ _
      | exact heliastref04_words.mono _ _
      | exact LeO.none _
      | refine LeO.ite ?_ ?_
      | refine LeO.bind ?_ (fun _ => ?_)
    · intro y0 y1 y2
      unfold heliastref04_block.l1
      repeat' first
      | (with_reducible exact ih0 _ _ _ _ _)
      | (with_reducible exact ih1 _ _ _)
      | (with_reducible exact heliastref04_words.mono _ _)
      | (with_reducible exact LeO.refl _)
      | (with_reducible exact LeO.none _)
      | (with_reducible refine LeO.ite ?_ ?_)
      | (with_reducible refine LeO.bind ?_ (fun _ => ?_))
      | exact ih0 _ _ _ _ _
      | exact ih1 _ _ _
      | exact heliastref04_words.mono _ _
      | exact LeO.none _
      | refine LeO.ite ?_ ?_
      | refine LeO.bind ?_ (fun _ => ?_)
theorem heliastref04_block.mono : ∀ a0 a1 k, LeO (heliastref04_block.f k a0 a1) (heliastref04_block.f (k + 1) a0 a1) := by
  intro a0 a1 k
  obtain ⟨ih0, ih1⟩ := heliastref04_block.mono_l k
  unfold heliastref04_block.f
  repeat' first
      | (with_reducible exact ih0 _ _ _ _ _)
      | (with_reducible exact ih1 _ _ _)
      | (with_reducible exact heliastref04_words.mono _ _)
      | (with_reducible exact LeO.refl _)
      | (with_reducible exact LeO.none _)
      | (with_reducible refine LeO.ite ?_ ?_)
      | (with_reducible refine LeO.bind ?_ (fun _ => ?_))
      | exact ih0 _ _ _ _ _
      | exact ih1 _ _ _
      | exact heliastref04_words.mono _ _
      | exact LeO.none _
      | refine LeO.ite ?_ ?_
      | refine LeO.bind ?_ (fun _ => ?_)
def heliastref04_block.T10 : Bool × List (List Nat × List Nat) := (true, [([], []), ([0], [0]), ([1], [1]), ([], []), ([3], [3]), ([], []), ([5, 4], [5]), ([4, 6], [4, 6]), ([], []), ([8, 6], [8]), ([7, 9], [7, 9]), ([2, 10], [2, 10]), ([], []), ([], []), ([13], [13]), ([14], [14]), ([12, 15], [12, 15]), ([], []), ([17], [17]), ([], []), ([19], [19]), ([20], [20]), ([18, 21], [18, 21]), ([16, 22], [16, 22]), ([11, 23], [11, 23]), ([], []), ([], []), ([25, 26], [25, 26]), ([27], [27]), ([24, 28], [24, 28]), ([], []), ([], []), ([30, 31], [30, 31]), ([32], [32]), ([29, 33], [29, 33]), ([34, 9, 0, 1, 2, 3, 4, 5, 6, 7, 8, 9, 10, 11, 12, 13, 14, 15, 16, 17, 18, 19, 20, 21, 22, 23, 24, 25, 26, 27, 28, 29, 30, 31, 32, 33, 34], [34])])
def heliastref04_block.B10 : List Nat := [0, 1, 3, 0, 8, 0, 56, 120, 0, 376, 1016, 2047, 0, 0, 8192, 24576, 61440, 0, 131072, 0, 524288, 1572864, 4063232, 8384512, 16777215, 0, 0, 100663296, 234881024, 536870911, 0, 0, 3221225472, 7516192768, 17179869183, 34359738367]
theorem heliastref04_block.tab10 : rtab .any (opsOf Try.f35 10) = heliastref04_block.T10 := by kernel_rfl
theorem heliastref04_block.bits10 : waitsOk heliastref04_block.T10.2 heliastref04_block.B10 = true := by kernel_rfl
def heliastref04_block.T11 : Bool × List (List Nat × List Nat) := (true, [([], []), ([0], [0]), ([], []), ([2, 1], [2]), ([1, 3], [1, 3]), ([], []), ([5, 3], [5]), ([4, 6], [4, 6]), ([], []), ([], []), ([9], [9]), ([10], [10]), ([8, 11], [8, 11]), ([], []), ([], []), ([14], [14]), ([15], [15]), ([13, 16], [13, 16]), ([12, 17], [12, 17]), ([], []), ([19], [19]), ([20], [20]), ([], []), ([22], [22]), ([23], [23]), ([21, 24], [21, 24]), ([18, 25], [18, 25]), ([7, 26], [7, 26]), ([27, 6, 0, 1, 2, 3, 4, 5, 6, 7, 8, 9, 10, 11, 12, 13, 14, 15, 16, 17, 18, 19, 20, 21, 22, 23, 24, 25, 26, 27], [27])])
def heliastref04_block.B11 : List Nat := [0, 1, 0, 7, 15, 0, 47, 127, 0, 0, 512, 1536, 3840, 0, 0, 16384, 49152, 122880, 261888, 0, 524288, 1572864, 0, 4194304, 12582912, 33030144, 67108608, 134217727, 268435455]
theorem heliastref04_block.tab11 : rtab .any (opsOf Try.f35 11) = heliastref04_block.T11 := by kernel_rfl
theorem heliastref04_block.bits11 : waitsOk heliastref04_block.T11.2 heliastref04_block.B11 = true := by kernel_rfl
def heliastref04_block.T12 : Bool × List (List Nat × List Nat) := (true, [([], []), ([], []), ([0, 1], [0, 1]), ([], []), ([], []), ([4], [4]), ([5], [5]), ([], []), ([7], [7]), ([8], [8]), ([], []), ([10], [10]), ([11], [11]), ([], []), ([12, 13], [12, 13]), ([], []), ([], []), ([16], [16]), ([17], [17]), ([], []), ([19], [19]), ([20], [20]), ([2, 3, 6, 9, 14, 15, 18, 21], [2, 3, 6, 9, 14, 15, 18, 21]), ([22, 0, 1, 2, 3, 4, 5, 6, 7, 8, 9, 10, 11, 12, 13, 14, 15, 16, 17, 18, 19, 20, 21, 22], [4, 7, 10, 16, 19, 22])])
def heliastref04_block.B12 : List Nat := [0, 0, 3, 0, 0, 16, 48, 0, 128, 384, 0, 1024, 3072, 0, 15360, 0, 0, 65536, 196608, 0, 524288, 1572864, 4194303, 8388607]
theorem heliastref04_block.tab12 : rtab .any (opsOf Try.f35 12) = heliastref04_block.T12 := by kernel_rfl
theorem heliastref04_block.bits12 : waitsOk heliastref04_block.T12.2 heliastref04_block.B12 = true := by kernel_rfl
def heliastref04_block.T16 : Bool × List (List Nat × List Nat) := (true, [([], []), ([], []), ([0, 1], [0, 1]), ([2], [2]), ([], []), ([], []), ([4, 5], [4, 5]), ([6], [6]), ([3, 7], [3, 7]), ([0, 1, 0, 1, 2, 3, 4, 5, 6, 7, 8], [0, 1]), ([9, 8, 0, 1, 2, 3, 4, 5, 6, 7, 8], [8, 9])])
def heliastref04_block.B16 : List Nat := [0, 0, 3, 7, 0, 0, 48, 112, 255, 511, 1023]
theorem heliastref04_block.tab16 : rtab .any (opsOf Try.f35 16) = heliastref04_block.T16 := by kernel_rfl
theorem heliastref04_block.bits16 : waitsOk heliastref04_block.T16.2 heliastref04_block.B16 = true := by kernel_rfl
attribute [local go_sem] IntKind.wrap_u32 in
set_option maxHeartbeats 8000000 in
set_option maxRecDepth 100000 in
theorem heliastref04_block.calls (k : Nat) (A0 : Option Addr) (c0 : Nat) (l0 : List Int) (A1 : Option Addr) (c1 : Nat) (l1 : List Int) (r : List Int) (w : World) (hr0 : Kd.C (Kd.int .u32) w A0 l0.length l0) (hc0 : l0.length ≤ c0) (hr1 : Kd.C (Kd.int .u8) w A1 l1.length l1) (hc1 : l1.length ≤ c1) (h : heliastref04_block.f k l0 l1 = some r) :
    Calls Try.prog 35 #[.slice A0 l0.length c0, .slice A1 l1.length c1] w fun e w' => ∃ v0_ : Value, e = .returned (v0_) ∧ Kd.R (Kd.int .u32) 55 w' w.heap.size (fun _ => True) v0_ r ∧ Below w.heap.size w w' := by
  have HR0 := Aside0.mk hr0
  have HC0 := Aside0.mk hc0
  clear hr0 hc0
  have HR1 := Aside0.mk hr1
  have HC1 := Aside0.mk hc1
  clear hr1 hc1
  have HB := Aside0.mk (Below.refl w.heap.size w)
  have H : ((heliastref04_words.f k l1).bind fun t131 => ((heliastref04_keys.f).bind fun t134 => (if ([] : List Int).length + l0.length < 35184372088832 then (heliastref04_block.l0 k l0 t131 t134 (([] : List Int) ++ l0) 0) else (none)))) = some r := h
  clear h
  replace H := Option.bind_eq_some_iff.mp H
  obtain ⟨t131, A30, H⟩ := H
  replace H : ((heliastref04_keys.f).bind fun t134 => (if ([] : List Int).length + l0.length < 35184372088832 then (heliastref04_block.l0 k l0 t131 t134 (([] : List Int) ++ l0) 0) else (none))) = some r := H
  have A3 := Aside0.mk A30
  clear A30
  replace H := Option.bind_eq_some_iff.mp H
  obtain ⟨t134, A40, H⟩ := H
  replace H : (if ([] : List Int).length + l0.length < 35184372088832 then (heliastref04_block.l0 k l0 t131 t134 (([] : List Int) ++ l0) 0) else (none)) = some r := H
  have A4 := Aside0.mk A40
  clear A40
  by_cases c5 : ([] : List Int).length + l0.length < 35184372088832
  · rw [if_pos c5] at H
    have LMc5 := Aside0.mk c5
    clear c5
    obtain ⟨y137, hy137⟩ : ∃ y_ : List Int, y_ = (([] : List Int) ++ l0) := ⟨_, rfl⟩
    replace H : (heliastref04_block.l0 k l0 t131 t134 y137 0) = some r := by first | (rw [hy137]; with_reducible exact H) | (have H2_ := (Option.bind_some _ _).symm.trans H; rw [hy137]; with_reducible exact H2_) | (have H2_ := (Option.bind_some _ _).symm.trans H; with_reducible exact H2_) | with_reducible exact H | (rw [hy137]; exact H) | exact H
    have Ny137 := Aside0.mk hy137
    clear hy137
    have H' := Aside0.mk H
    clear H
    go_enter Try.func35, Try.ntmps35
    go_wp2_with (first | ((with_reducible refine gate_callee (f := 48) rfl ?_); refine goesL_ (some 15) rfl rfl Try.func48 (by kernel_rfl) rfl #[.slice A1 l1.length c1] rfl (by (try simp only [List.map_toArray, List.map_cons, List.map_nil]); first | done | rfl | (simp only [List.length_drop, List.length_take]; rfl)) ?_; (with_reducible refine (heliastref04_words.calls k _ _ l1 t131 _ ?side1 ?side2 A3.out).mono ?_); (case side1 => repeat (first | exact HR1.out | (with_reducible refine Kd.C_alloc ?_ _) | (with_reducible refine Kd.C_drewN ?_ _) | (with_reducible refine Kd.C_drew ?_))); (case side2 => exact HC1.out); rintro e w6 ⟨v132, rfl, ho0, hb⟩; refine ⟨_, rfl, ?_⟩; have n0_ := Aside0.mk (Kd.R_lower ho0 (below_size (by repeat (first | (with_reducible first | exact HB.out | apply below_alloc | apply pw_below_drewN | apply below_drew1) | exact HB.out)))); have n1_ := Aside0.mk (below_step (by repeat (first | (with_reducible first | exact HB.out | apply below_alloc | apply pw_below_drewN | apply below_drew1) | exact HB.out)) hb); clear HB; have HO133 := n0_; have HB := n1_; clear n0_ n1_; (try clear hb); (try clear hb2); (try clear hk); (try clear hi); (try clear ho0)) | ((with_reducible refine gate_callee (f := 49) rfl ?_); refine goesL_ (some 16) rfl rfl Try.func49 (by kernel_rfl) rfl #[] rfl (by (try simp only [List.map_toArray, List.map_cons, List.map_nil]); first | done | rfl | (simp only [List.length_drop, List.length_take]; rfl)) ?_; (with_reducible refine (heliastref04_keys.calls  t134 _ A4.out).mono ?_); rintro e w7 ⟨v135, rfl, ho0, hb⟩; refine ⟨_, rfl, ?_⟩; have n0_ := Aside0.mk (Kd.R_elder' (by (with_reducible repeat (first | apply Kd.R_alloc | apply Kd.R_drewN | apply Kd.R_drew)); exact HO133.out) (Kd.R_base ho0) hb); have n1_ := Aside0.mk (Kd.R_lower (Kd.R_new' ho0 (Kd.R_lt (by (with_reducible repeat (first | apply Kd.R_alloc | apply Kd.R_drewN | apply Kd.R_drew)); exact HO133.out))) (below_size (by repeat (first | (with_reducible first | exact HB.out | apply below_alloc | apply pw_below_drewN | apply below_drew1) | exact HB.out)))); have n2_ := Aside0.mk (below_step (by repeat (first | (with_reducible first | exact HB.out | apply below_alloc | apply pw_below_drewN | apply below_drew1) | exact HB.out)) hb); clear HO133; clear HB; have HO133 := n0_; have HO136 := n1_; have HB := n2_; clear n0_ n1_ n2_; (try clear hb); (try clear hb2); (try clear hk); (try clear hi); (try clear ho0)) | ((with_reducible refine gate_builtin (b := .append) (xs := #[.tmp 17, .tmp 18]) rfl ?_); at_builtin; refine Kd.R_append_rows (Kd.int .u32) (w0 := w) w.heap.size rfl (.tmp 17) (.tmp 18) 56 55 (.int .u32 0) 4 rfl Try.underlying56 info55 rfl (by decide) (by omega) (.slice none 0 0) ([] : List Int) l0 _ _ _ (fun k_ => some k_ ≠ (v132 : Value).ownBlock ∧ some k_ ≠ (v135 : Value).ownBlock) (fun _ => False) rfl rfl ?aO ?aR (fun _ _ h => h) (fun _ h => h.elim) ?aF ?aB ?aS ?aL ?_; (case aR => repeat (first | exact (Kd.C_below HR0.out HB.out) | (with_reducible refine Kd.C_alloc ?_ _) | (with_reducible refine Kd.C_drewN ?_ _) | (with_reducible refine Kd.C_drew ?_))); (case aB => exact (by repeat (first | (with_reducible first | exact HB.out | apply below_alloc | apply pw_below_drewN | apply below_drew1) | exact HB.out))); (case aF => exact (fun k_ hk => ⟨Kd.fresh' (Kd.R_lt (by (with_reducible repeat (first | apply Kd.R_alloc | apply Kd.R_drewN | apply Kd.R_drew)); exact HO133.out)) k_ hk, Kd.fresh' (Kd.R_lt (by (with_reducible repeat (first | apply Kd.R_alloc | apply Kd.R_drewN | apply Kd.R_drew)); exact HO136.out)) k_ hk⟩)); (case aO => exact ((Kd.R_nil _ _ _ _ (fun k_ => some k_ ≠ (v132 : Value).ownBlock ∧ some k_ ≠ (v135 : Value).ownBlock)))); (case aS => exact (below_size (by repeat (first | (with_reducible first | exact HB.out | apply below_alloc | apply pw_below_drewN | apply below_drew1) | exact HB.out)))); (case aL => have := LMc5.out; omega); intro v138 w8 ho hb hg hat; rw [← Ny137.out] at ho; have n0_ := Aside0.mk (Kd.R_after (Kd.R_apart_nil (by (with_reducible repeat (first | apply Kd.R_alloc | apply Kd.R_drewN | apply Kd.R_drew)); exact HO133.out)) hg hat); have n1_ := Aside0.mk (Kd.R_after (Kd.R_apart_nil (by (with_reducible repeat (first | apply Kd.R_alloc | apply Kd.R_drewN | apply Kd.R_drew)); exact HO136.out)) hg hat); have n2_ := Aside0.mk (hb); have n3_ := Aside0.mk (ho); clear HO133; clear HO136; clear HB; have HO133 := n0_; have HO136 := n1_; have HB := n2_; have HO139 := n3_; clear n0_ n1_ n2_ n3_; clear ho hb hg hat))
    go_loopg [7, 8] k (fun kq v7 v8 w' => ∃ (x7_1 : List Int) (x8_1 : Int), v8 = .int .i64 x8_1 ∧ Aside0 (heliastref04_block.l0 kq l0 t131 t134 x7_1 x8_1 = some r) ∧ Aside0 (kq ≤ k) ∧ Aside0 (Kd.R (Kd.int .u32) 55 w' w.heap.size (fun k_ => some k_ ≠ (v135 : Value).ownBlock ∧ some k_ ≠ (v7 : Value).ownBlock) v132 t131) ∧ Aside0 (Kd.R (Kd.int .u32) 55 w' w.heap.size (fun k_ => some k_ ≠ (v132 : Value).ownBlock ∧ some k_ ≠ (v7 : Value).ownBlock) v135 t134) ∧ Aside0 (Kd.R (Kd.int .u32) 55 w' w.heap.size (fun k_ => some k_ ≠ (v132 : Value).ownBlock ∧ some k_ ≠ (v135 : Value).ownBlock) v7 x7_1) ∧ Aside0 (Below w.heap.size w w'))
    case atStart => exact ⟨(y137), (0), (by first | rfl | (simp; done) | (simp [*]; done)), H', ⟨Nat.le_refl _⟩, ⟨by (with_reducible repeat (first | apply Kd.R_alloc | apply Kd.R_drewN | apply Kd.R_drew)); exact Kd.R_mono HO133.out (fun _ hk => ⟨hk.1.2, hk.2⟩)⟩, ⟨by (with_reducible repeat (first | apply Kd.R_alloc | apply Kd.R_drewN | apply Kd.R_drew)); exact Kd.R_mono HO136.out (fun _ hk => ⟨hk.1.2, hk.2⟩)⟩, ⟨by (with_reducible repeat (first | apply Kd.R_alloc | apply Kd.R_drewN | apply Kd.R_drew)); exact HO139.out⟩, ⟨by repeat (first | (with_reducible first | exact HB.out | apply below_alloc | apply pw_below_drewN | apply below_drew1) | exact HB.out)⟩⟩
    case round =>
      clear H'
      try clear c1
      try clear p2
      try clear c3
      try clear c4
      try clear c5
      obtain ⟨x7_1, x8_1, rfl, HA, HK1, HO_5, HO_6, HO_7, HB⟩ := hrel
      cases gk with
      | zero => exact absurd HA.out (by simp [heliastref04_block.l0])
      | succ k1 =>
        have H := HA.out
        clear HA
        simp only [heliastref04_block.l0] at H
        by_cases c9 : x8_1 < 64
        · rw [if_pos c9] at H
          have c9b0 : decide (x8_1 < 64) = true := decide_eq_true c9
          clear c9
          by_cases c10 : 4 < (x7_1.length : Int)
          · rw [if_pos c10] at H
            have c10b0 : decide (4 < (x7_1.length : Int)) = true := decide_eq_true c10
            have c10b1 : decide (4 < x7_1.length) = true := decide_eq_true (by omega)
            clear c10
            by_cases c11 : 0 < (x7_1.length : Int)
            · rw [if_pos c11] at H
              have c11b0 : decide (0 < (x7_1.length : Int)) = true := decide_eq_true c11
              have c11b1 : decide (0 < x7_1.length) = true := decide_eq_true (by omega)
              clear c11
              by_cases c12 : 7 < (x7_1.length : Int)
              · rw [if_pos c12] at H
                have c12b0 : decide (7 < (x7_1.length : Int)) = true := decide_eq_true c12
                have c12b1 : decide (7 < x7_1.length) = true := decide_eq_true (by omega)
                clear c12
                replace H := Option.bind_eq_some_iff.mp H
                obtain ⟨t143, A130, H⟩ := H
                replace H : ((heliastref04_turn.f (rd x7_1 4) 11).bind fun t144 => ((heliastref04_turn.f (rd x7_1 4) 25).bind fun t145 => (if 5 < (x7_1.length : Int) then (if 6 < (x7_1.length : Int) then (if 0 ≤ x8_1 then (if x8_1 < (t134.length : Int) then (if x8_1 < (t131.length : Int) then ((heliastref04_turn.f (rd x7_1 0) 2).bind fun t150 => ((heliastref04_turn.f (rd x7_1 0) 13).bind fun t151 => ((heliastref04_turn.f (rd x7_1 0) 22).bind fun t152 => (if 1 < (x7_1.length : Int) then (if 2 < (x7_1.length : Int) then (if 3 < (x7_1.length : Int) then (heliastref04_block.l0 k1 l0 t131 t134 (([((((((((((rd x7_1 7) + (Go.bits .xor .u32 (Go.bits .xor .u32 t143 t144) t145)) % 4294967296) + (Go.bits .xor .u32 (Go.bits .and .u32 (rd x7_1 4) (rd x7_1 5)) (Go.bits .and .u32 (Go.bits .xor .u32 4294967295 (rd x7_1 4)) (rd x7_1 6)))) % 4294967296) + (rd t134 x8_1)) % 4294967296) + (rd t131 x8_1)) % 4294967296) + (((Go.bits .xor .u32 (Go.bits .xor .u32 t150 t151) t152) + (Go.bits .xor .u32 (Go.bits .xor .u32 (Go.bits .and .u32 (rd x7_1 0) (rd x7_1 1)) (Go.bits .and .u32 (rd x7_1 0) (rd x7_1 2))) (Go.bits .and .u32 (rd x7_1 1) (rd x7_1 2)))) % 4294967296)) % 4294967296, rd x7_1 0, rd x7_1 1, rd x7_1 2, ((rd x7_1 3) + (((((((((rd x7_1 7) + (Go.bits .xor .u32 (Go.bits .xor .u32 t143 t144) t145)) % 4294967296) + (Go.bits .xor .u32 (Go.bits .and .u32 (rd x7_1 4) (rd x7_1 5)) (Go.bits .and .u32 (Go.bits .xor .u32 4294967295 (rd x7_1 4)) (rd x7_1 6)))) % 4294967296) + (rd t134 x8_1)) % 4294967296) + (rd t131 x8_1)) % 4294967296)) % 4294967296, rd x7_1 4, rd x7_1 5, rd x7_1 6] : List Int)) (wrap64 (x8_1 + 1))) else (none)) else (none)) else (none))))) else (none)) else (none)) else (none)) else (none)) else (none)))) = some r := H
                have A13 := Aside0.mk A130
                clear A130
                replace H := Option.bind_eq_some_iff.mp H
                obtain ⟨t144, A140, H⟩ := H
                replace H : ((heliastref04_turn.f (rd x7_1 4) 25).bind fun t145 => (if 5 < (x7_1.length : Int) then (if 6 < (x7_1.length : Int) then (if 0 ≤ x8_1 then (if x8_1 < (t134.length : Int) then (if x8_1 < (t131.length : Int) then ((heliastref04_turn.f (rd x7_1 0) 2).bind fun t150 => ((heliastref04_turn.f (rd x7_1 0) 13).bind fun t151 => ((heliastref04_turn.f (rd x7_1 0) 22).bind fun t152 => (if 1 < (x7_1.length : Int) then (if 2 < (x7_1.length : Int) then (if 3 < (x7_1.length : Int) then (heliastref04_block.l0 k1 l0 t131 t134 (([((((((((((rd x7_1 7) + (Go.bits .xor .u32 (Go.bits .xor .u32 t143 t144) t145)) % 4294967296) + (Go.bits .xor .u32 (Go.bits .and .u32 (rd x7_1 4) (rd x7_1 5)) (Go.bits .and .u32 (Go.bits .xor .u32 4294967295 (rd x7_1 4)) (rd x7_1 6)))) % 4294967296) + (rd t134 x8_1)) % 4294967296) + (rd t131 x8_1)) % 4294967296) + (((Go.bits .xor .u32 (Go.bits .xor .u32 t150 t151) t152) + (Go.bits .xor .u32 (Go.bits .xor .u32 (Go.bits .and .u32 (rd x7_1 0) (rd x7_1 1)) (Go.bits .and .u32 (rd x7_1 0) (rd x7_1 2))) (Go.bits .and .u32 (rd x7_1 1) (rd x7_1 2)))) % 4294967296)) % 4294967296, rd x7_1 0, rd x7_1 1, rd x7_1 2, ((rd x7_1 3) + (((((((((rd x7_1 7) + (Go.bits .xor .u32 (Go.bits .xor .u32 t143 t144) t145)) % 4294967296) + (Go.bits .xor .u32 (Go.bits .and .u32 (rd x7_1 4) (rd x7_1 5)) (Go.bits .and .u32 (Go.bits .xor .u32 4294967295 (rd x7_1 4)) (rd x7_1 6)))) % 4294967296) + (rd t134 x8_1)) % 4294967296) + (rd t131 x8_1)) % 4294967296)) % 4294967296, rd x7_1 4, rd x7_1 5, rd x7_1 6] : List Int)) (wrap64 (x8_1 + 1))) else (none)) else (none)) else (none))))) else (none)) else (none)) else (none)) else (none)) else (none))) = some r := H
                have A14 := Aside0.mk A140
                clear A140
                replace H := Option.bind_eq_some_iff.mp H
                obtain ⟨t145, A150, H⟩ := H
                replace H : (if 5 < (x7_1.length : Int) then (if 6 < (x7_1.length : Int) then (if 0 ≤ x8_1 then (if x8_1 < (t134.length : Int) then (if x8_1 < (t131.length : Int) then ((heliastref04_turn.f (rd x7_1 0) 2).bind fun t150 => ((heliastref04_turn.f (rd x7_1 0) 13).bind fun t151 => ((heliastref04_turn.f (rd x7_1 0) 22).bind fun t152 => (if 1 < (x7_1.length : Int) then (if 2 < (x7_1.length : Int) then (if 3 < (x7_1.length : Int) then (heliastref04_block.l0 k1 l0 t131 t134 (([((((((((((rd x7_1 7) + (Go.bits .xor .u32 (Go.bits .xor .u32 t143 t144) t145)) % 4294967296) + (Go.bits .xor .u32 (Go.bits .and .u32 (rd x7_1 4) (rd x7_1 5)) (Go.bits .and .u32 (Go.bits .xor .u32 4294967295 (rd x7_1 4)) (rd x7_1 6)))) % 4294967296) + (rd t134 x8_1)) % 4294967296) + (rd t131 x8_1)) % 4294967296) + (((Go.bits .xor .u32 (Go.bits .xor .u32 t150 t151) t152) + (Go.bits .xor .u32 (Go.bits .xor .u32 (Go.bits .and .u32 (rd x7_1 0) (rd x7_1 1)) (Go.bits .and .u32 (rd x7_1 0) (rd x7_1 2))) (Go.bits .and .u32 (rd x7_1 1) (rd x7_1 2)))) % 4294967296)) % 4294967296, rd x7_1 0, rd x7_1 1, rd x7_1 2, ((rd x7_1 3) + (((((((((rd x7_1 7) + (Go.bits .xor .u32 (Go.bits .xor .u32 t143 t144) t145)) % 4294967296) + (Go.bits .xor .u32 (Go.bits .and .u32 (rd x7_1 4) (rd x7_1 5)) (Go.bits .and .u32 (Go.bits .xor .u32 4294967295 (rd x7_1 4)) (rd x7_1 6)))) % 4294967296) + (rd t134 x8_1)) % 4294967296) + (rd t131 x8_1)) % 4294967296)) % 4294967296, rd x7_1 4, rd x7_1 5, rd x7_1 6] : List Int)) (wrap64 (x8_1 + 1))) else (none)) else (none)) else (none))))) else (none)) else (none)) else (none)) else (none)) else (none)) = some r := H
                have A15 := Aside0.mk A150
                clear A150
                by_cases c16 : 5 < (x7_1.length : Int)
                · rw [if_pos c16] at H
                  have c16b0 : decide (5 < (x7_1.length : Int)) = true := decide_eq_true c16
                  have c16b1 : decide (5 < x7_1.length) = true := decide_eq_true (by omega)
                  clear c16
                  by_cases c17 : 6 < (x7_1.length : Int)
                  · rw [if_pos c17] at H
                    have c17b0 : decide (6 < (x7_1.length : Int)) = true := decide_eq_true c17
                    have c17b1 : decide (6 < x7_1.length) = true := decide_eq_true (by omega)
                    clear c17
                    by_cases c18 : 0 ≤ x8_1
                    · rw [if_pos c18] at H
                      have c18b0 : decide (0 ≤ x8_1) = true := decide_eq_true c18
                      clear c18
                      by_cases c19 : x8_1 < (t134.length : Int)
                      · rw [if_pos c19] at H
                        have c19b0 : decide (x8_1 < (t134.length : Int)) = true := decide_eq_true c19
                        clear c19
                        by_cases c20 : x8_1 < (t131.length : Int)
                        · rw [if_pos c20] at H
                          have c20b0 : decide (x8_1 < (t131.length : Int)) = true := decide_eq_true c20
                          clear c20
                          replace H := Option.bind_eq_some_iff.mp H
                          obtain ⟨t150, A210, H⟩ := H
                          replace H : ((heliastref04_turn.f (rd x7_1 0) 13).bind fun t151 => ((heliastref04_turn.f (rd x7_1 0) 22).bind fun t152 => (if 1 < (x7_1.length : Int) then (if 2 < (x7_1.length : Int) then (if 3 < (x7_1.length : Int) then (heliastref04_block.l0 k1 l0 t131 t134 (([((((((((((rd x7_1 7) + (Go.bits .xor .u32 (Go.bits .xor .u32 t143 t144) t145)) % 4294967296) + (Go.bits .xor .u32 (Go.bits .and .u32 (rd x7_1 4) (rd x7_1 5)) (Go.bits .and .u32 (Go.bits .xor .u32 4294967295 (rd x7_1 4)) (rd x7_1 6)))) % 4294967296) + (rd t134 x8_1)) % 4294967296) + (rd t131 x8_1)) % 4294967296) + (((Go.bits .xor .u32 (Go.bits .xor .u32 t150 t151) t152) + (Go.bits .xor .u32 (Go.bits .xor .u32 (Go.bits .and .u32 (rd x7_1 0) (rd x7_1 1)) (Go.bits .and .u32 (rd x7_1 0) (rd x7_1 2))) (Go.bits .and .u32 (rd x7_1 1) (rd x7_1 2)))) % 4294967296)) % 4294967296, rd x7_1 0, rd x7_1 1, rd x7_1 2, ((rd x7_1 3) + (((((((((rd x7_1 7) + (Go.bits .xor .u32 (Go.bits .xor .u32 t143 t144) t145)) % 4294967296) + (Go.bits .xor .u32 (Go.bits .and .u32 (rd x7_1 4) (rd x7_1 5)) (Go.bits .and .u32 (Go.bits .xor .u32 4294967295 (rd x7_1 4)) (rd x7_1 6)))) % 4294967296) + (rd t134 x8_1)) % 4294967296) + (rd t131 x8_1)) % 4294967296)) % 4294967296, rd x7_1 4, rd x7_1 5, rd x7_1 6] : List Int)) (wrap64 (x8_1 + 1))) else (none)) else (none)) else (none)))) = some r := H
                          have A21 := Aside0.mk A210
                          clear A210
                          replace H := Option.bind_eq_some_iff.mp H
                          obtain ⟨t151, A220, H⟩ := H
                          replace H : ((heliastref04_turn.f (rd x7_1 0) 22).bind fun t152 => (if 1 < (x7_1.length : Int) then (if 2 < (x7_1.length : Int) then (if 3 < (x7_1.length : Int) then (heliastref04_block.l0 k1 l0 t131 t134 (([((((((((((rd x7_1 7) + (Go.bits .xor .u32 (Go.bits .xor .u32 t143 t144) t145)) % 4294967296) + (Go.bits .xor .u32 (Go.bits .and .u32 (rd x7_1 4) (rd x7_1 5)) (Go.bits .and .u32 (Go.bits .xor .u32 4294967295 (rd x7_1 4)) (rd x7_1 6)))) % 4294967296) + (rd t134 x8_1)) % 4294967296) + (rd t131 x8_1)) % 4294967296) + (((Go.bits .xor .u32 (Go.bits .xor .u32 t150 t151) t152) + (Go.bits .xor .u32 (Go.bits .xor .u32 (Go.bits .and .u32 (rd x7_1 0) (rd x7_1 1)) (Go.bits .and .u32 (rd x7_1 0) (rd x7_1 2))) (Go.bits .and .u32 (rd x7_1 1) (rd x7_1 2)))) % 4294967296)) % 4294967296, rd x7_1 0, rd x7_1 1, rd x7_1 2, ((rd x7_1 3) + (((((((((rd x7_1 7) + (Go.bits .xor .u32 (Go.bits .xor .u32 t143 t144) t145)) % 4294967296) + (Go.bits .xor .u32 (Go.bits .and .u32 (rd x7_1 4) (rd x7_1 5)) (Go.bits .and .u32 (Go.bits .xor .u32 4294967295 (rd x7_1 4)) (rd x7_1 6)))) % 4294967296) + (rd t134 x8_1)) % 4294967296) + (rd t131 x8_1)) % 4294967296)) % 4294967296, rd x7_1 4, rd x7_1 5, rd x7_1 6] : List Int)) (wrap64 (x8_1 + 1))) else (none)) else (none)) else (none))) = some r := H
                          have A22 := Aside0.mk A220
                          clear A220
                          replace H := Option.bind_eq_some_iff.mp H
                          obtain ⟨t152, A230, H⟩ := H
                          replace H : (if 1 < (x7_1.length : Int) then (if 2 < (x7_1.length : Int) then (if 3 < (x7_1.length : Int) then (heliastref04_block.l0 k1 l0 t131 t134 (([((((((((((rd x7_1 7) + (Go.bits .xor .u32 (Go.bits .xor .u32 t143 t144) t145)) % 4294967296) + (Go.bits .xor .u32 (Go.bits .and .u32 (rd x7_1 4) (rd x7_1 5)) (Go.bits .and .u32 (Go.bits .xor .u32 4294967295 (rd x7_1 4)) (rd x7_1 6)))) % 4294967296) + (rd t134 x8_1)) % 4294967296) + (rd t131 x8_1)) % 4294967296) + (((Go.bits .xor .u32 (Go.bits .xor .u32 t150 t151) t152) + (Go.bits .xor .u32 (Go.bits .xor .u32 (Go.bits .and .u32 (rd x7_1 0) (rd x7_1 1)) (Go.bits .and .u32 (rd x7_1 0) (rd x7_1 2))) (Go.bits .and .u32 (rd x7_1 1) (rd x7_1 2)))) % 4294967296)) % 4294967296, rd x7_1 0, rd x7_1 1, rd x7_1 2, ((rd x7_1 3) + (((((((((rd x7_1 7) + (Go.bits .xor .u32 (Go.bits .xor .u32 t143 t144) t145)) % 4294967296) + (Go.bits .xor .u32 (Go.bits .and .u32 (rd x7_1 4) (rd x7_1 5)) (Go.bits .and .u32 (Go.bits .xor .u32 4294967295 (rd x7_1 4)) (rd x7_1 6)))) % 4294967296) + (rd t134 x8_1)) % 4294967296) + (rd t131 x8_1)) % 4294967296)) % 4294967296, rd x7_1 4, rd x7_1 5, rd x7_1 6] : List Int)) (wrap64 (x8_1 + 1))) else (none)) else (none)) else (none)) = some r := H
                          have A23 := Aside0.mk A230
                          clear A230
                          by_cases c24 : 1 < (x7_1.length : Int)
                          · rw [if_pos c24] at H
                            have c24b0 : decide (1 < (x7_1.length : Int)) = true := decide_eq_true c24
                            have c24b1 : decide (1 < x7_1.length) = true := decide_eq_true (by omega)
                            clear c24
                            by_cases c25 : 2 < (x7_1.length : Int)
                            · rw [if_pos c25] at H
                              have c25b0 : decide (2 < (x7_1.length : Int)) = true := decide_eq_true c25
                              have c25b1 : decide (2 < x7_1.length) = true := decide_eq_true (by omega)
                              clear c25
                              by_cases c26 : 3 < (x7_1.length : Int)
                              · rw [if_pos c26] at H
                                have c26b0 : decide (3 < (x7_1.length : Int)) = true := decide_eq_true c26
                                have c26b1 : decide (3 < x7_1.length) = true := decide_eq_true (by omega)
                                clear c26
                                obtain ⟨y162, hy162⟩ : ∃ y_ : List Int, y_ = (([((((((((((rd x7_1 7) + (Go.bits .xor .u32 (Go.bits .xor .u32 t143 t144) t145)) % 4294967296) + (Go.bits .xor .u32 (Go.bits .and .u32 (rd x7_1 4) (rd x7_1 5)) (Go.bits .and .u32 (Go.bits .xor .u32 4294967295 (rd x7_1 4)) (rd x7_1 6)))) % 4294967296) + (rd t134 x8_1)) % 4294967296) + (rd t131 x8_1)) % 4294967296) + (((Go.bits .xor .u32 (Go.bits .xor .u32 t150 t151) t152) + (Go.bits .xor .u32 (Go.bits .xor .u32 (Go.bits .and .u32 (rd x7_1 0) (rd x7_1 1)) (Go.bits .and .u32 (rd x7_1 0) (rd x7_1 2))) (Go.bits .and .u32 (rd x7_1 1) (rd x7_1 2)))) % 4294967296)) % 4294967296, rd x7_1 0, rd x7_1 1, rd x7_1 2, ((rd x7_1 3) + (((((((((rd x7_1 7) + (Go.bits .xor .u32 (Go.bits .xor .u32 t143 t144) t145)) % 4294967296) + (Go.bits .xor .u32 (Go.bits .and .u32 (rd x7_1 4) (rd x7_1 5)) (Go.bits .and .u32 (Go.bits .xor .u32 4294967295 (rd x7_1 4)) (rd x7_1 6)))) % 4294967296) + (rd t134 x8_1)) % 4294967296) + (rd t131 x8_1)) % 4294967296)) % 4294967296, rd x7_1 4, rd x7_1 5, rd x7_1 6] : List Int)) := ⟨_, rfl⟩
                                replace H : (heliastref04_block.l0 k1 l0 t131 t134 y162 (wrap64 (x8_1 + 1))) = some r := by first | (rw [hy162]; with_reducible exact H) | (have H2_ := (Option.bind_some _ _).symm.trans H; rw [hy162]; with_reducible exact H2_) | (have H2_ := (Option.bind_some _ _).symm.trans H; with_reducible exact H2_) | with_reducible exact H | (rw [hy162]; exact H) | exact H
                                have Ny162 := Aside0.mk hy162
                                clear hy162
                                have H' := Aside0.mk H
                                clear H
                                obtain ⟨Ao27, co27, eo27⟩ := Kd.R_slice HO_7.out
                                subst eo27
                                have p140 : 0 ≤ (4 : Int) := (by omega)
                                have q140 : 4 < (x7_1.length : Int) := of_decide_eq_true (by first | (with_reducible assumption) | assumption)
                                obtain ⟨ad140, e140, hx140_0⟩ := Kd.at_int (Kd.R_reads' HO_7.out).2.2 4 p140 q140
                                cases e140
                                (try simp only [show (4 : Int).toNat = 4 from rfl, Nat.reduceMul, Nat.reduceEqDiff, Go.Addr.add, ↓reduceIte] at hx140_0)
                                have qi140 : (4 < x7_1.length) = True := eq_true (by omega)
                                (try rw [show ((4 : Int)).toNat = 4 from rfl] at hx140_0)
                                replace p140 := eq_true p140
                                replace q140 := eq_true q140
                                have p141 : 0 ≤ (0 : Int) := (by omega)
                                have q141 : 0 < (x7_1.length : Int) := of_decide_eq_true (by first | (with_reducible assumption) | assumption)
                                obtain ⟨ad141, e141, hx141_0⟩ := Kd.at_int (Kd.R_reads' HO_7.out).2.2 0 p141 q141
                                obtain rfl : ad140 = ad141 := (by injection e141)
                                have qi141 : (0 < x7_1.length) = True := eq_true (by omega)
                                (try rw [show ((0 : Int)).toNat = 0 from rfl] at hx141_0)
                                (try rw [Addr.add_zero'] at hx141_0)
                                replace p141 := eq_true p141
                                replace q141 := eq_true q141
                                try go_wp2
                                have n0_ := Aside0.mk (Kd.R_drew HO_5.out)
                                have n1_ := Aside0.mk (Kd.R_drew HO_6.out)
                                have n2_ := Aside0.mk (Kd.R_drew HO_7.out)
                                have n3_ := Aside0.mk (below_drew1 HB.out)
                                clear HO_5
                                clear HO_6
                                clear HO_7
                                clear HB
                                have HO_5 := n0_
                                have HO_6 := n1_
                                have HO_7 := n2_
                                have HB := n3_
                                clear n0_ n1_ n2_ n3_
                                have p142 : 0 ≤ (7 : Int) := (by omega)
                                have q142 : 7 < (x7_1.length : Int) := of_decide_eq_true (by first | (with_reducible assumption) | assumption)
                                obtain ⟨ad142, e142, hx142_0⟩ := Kd.at_int (Kd.R_reads' HO_7.out).2.2 7 p142 q142
                                obtain rfl : ad140 = ad142 := (by injection e142)
                                (try simp only [show (7 : Int).toNat = 7 from rfl, Nat.reduceMul, Nat.reduceEqDiff, Go.Addr.add, ↓reduceIte] at hx142_0)
                                have qi142 : (7 < x7_1.length) = True := eq_true (by omega)
                                (try rw [show ((7 : Int)).toNat = 7 from rfl] at hx142_0)
                                replace p142 := eq_true p142
                                replace q142 := eq_true q142
                                have p146 : 0 ≤ (5 : Int) := (by omega)
                                have q146 : 5 < (x7_1.length : Int) := of_decide_eq_true (by first | (with_reducible assumption) | assumption)
                                obtain ⟨ad146, e146, hx146_0⟩ := Kd.at_int (Kd.R_reads' HO_7.out).2.2 5 p146 q146
                                obtain rfl : ad140 = ad146 := (by injection e146)
                                (try simp only [show (5 : Int).toNat = 5 from rfl, Nat.reduceMul, Nat.reduceEqDiff, Go.Addr.add, ↓reduceIte] at hx146_0)
                                have qi146 : (5 < x7_1.length) = True := eq_true (by omega)
                                (try rw [show ((5 : Int)).toNat = 5 from rfl] at hx146_0)
                                replace p146 := eq_true p146
                                replace q146 := eq_true q146
                                have p147 : 0 ≤ (6 : Int) := (by omega)
                                have q147 : 6 < (x7_1.length : Int) := of_decide_eq_true (by first | (with_reducible assumption) | assumption)
                                obtain ⟨ad147, e147, hx147_0⟩ := Kd.at_int (Kd.R_reads' HO_7.out).2.2 6 p147 q147
                                obtain rfl : ad140 = ad147 := (by injection e147)
                                (try simp only [show (6 : Int).toNat = 6 from rfl, Nat.reduceMul, Nat.reduceEqDiff, Go.Addr.add, ↓reduceIte] at hx147_0)
                                have qi147 : (6 < x7_1.length) = True := eq_true (by omega)
                                (try rw [show ((6 : Int)).toNat = 6 from rfl] at hx147_0)
                                replace p147 := eq_true p147
                                replace q147 := eq_true q147
                                obtain ⟨Ao29, co29, eo29⟩ := Kd.R_slice HO_6.out
                                (first | subst eo29 | (injection eo29 with f1_ f2_ f3_; have f4_ := f1_.symm; have f5_ := f3_.symm; clear f1_ f2_ f3_; subst f4_; subst f5_))
                                have p148 : 0 ≤ (x8_1 : Int) := of_decide_eq_true (by first | (with_reducible assumption) | assumption)
                                have q148 : x8_1 < (t134.length : Int) := of_decide_eq_true (by first | (with_reducible assumption) | assumption)
                                obtain ⟨ad148, e148, hx148_0⟩ := Kd.at_int (Kd.R_reads' HO_6.out).2.2 x8_1 p148 q148
                                cases e148
                                replace p148 := eq_true p148
                                replace q148 := eq_true q148
                                obtain ⟨Ao30, co30, eo30⟩ := Kd.R_slice HO_5.out
                                (first | subst eo30 | (injection eo30 with f1_ f2_ f3_; have f4_ := f1_.symm; have f5_ := f3_.symm; clear f1_ f2_ f3_; subst f4_; subst f5_))
                                have p149 : 0 ≤ (x8_1 : Int) := of_decide_eq_true (by first | (with_reducible assumption) | assumption)
                                have q149 : x8_1 < (t131.length : Int) := of_decide_eq_true (by first | (with_reducible assumption) | assumption)
                                obtain ⟨ad149, e149, hx149_0⟩ := Kd.at_int (Kd.R_reads' HO_5.out).2.2 x8_1 p149 q149
                                cases e149
                                replace p149 := eq_true p149
                                replace q149 := eq_true q149
                                refine start_ (n := 36) (S := fun w' => w'.cell? ⟨ad140.block, ad140.off + 7, none⟩ = some (.int .u32 (rd x7_1 7)) ∧ w'.cell? ⟨ad140.block, ad140.off + 5, none⟩ = some (.int .u32 (rd x7_1 5)) ∧ w'.cell? ⟨ad140.block, ad140.off + 6, none⟩ = some (.int .u32 (rd x7_1 6)) ∧ w'.cell? (ad148.add (x8_1).toNat) = some (.int .u32 (rd t134 x8_1)) ∧ w'.cell? (ad149.add (x8_1).toNat) = some (.int .u32 (rd t131 x8_1))) (ds := []) #[false, false, false, false, false, false, false, false, false, false, false, false, false, false, false, false, false, false, false, false, false, false, false, false, false, false, false, false, false, false, false, false, false, false, false, false] (by kernel_rfl) rfl rfl ⟨hx142_0, hx146_0, hx147_0, hx148_0, hx149_0⟩ (fun hHeld => ?_); refine with_tabW heliastref04_block.tab10 heliastref04_block.bits10 (fun HT_ HW_ => ?_)
                                generalize wr.drew = w28 at HO_5 HO_6 HO_7 HB hx142_0 hx146_0 hx147_0 hx148_0 hx149_0 hHeld ⊢
                                refine pure_ (i := 0) (N := some 30) (v := ?_) (a' := ?_) #[true, false, false, false, false, false, false, false, false, false, false, false, false, false, false, false, false, false, false, false, false, false, false, false, false, false, false, false, false, false, false, false, false, false, false, false] rfl rfl (any_of HT_.out (by kernel_rfl)) (fun _ _ _ h => h) (Or.inl ⟨by rfl, ?_⟩) ?_ ?_
                                rotate_left
                                · intro w'
                                  go_simp
                                  with_reducible rfl
                                rotate_left
                                · simp only [Act.put, List.setIfInBounds_toArray, List.set_cons_zero, List.set_cons_succ, i64_w, i32_w]
                                  rfl
                                refine pure_ (i := 1) (N := some 31) (v := ?_) (a' := ?_) #[true, true, false, false, false, false, false, false, false, false, false, false, false, false, false, false, false, false, false, false, false, false, false, false, false, false, false, false, false, false, false, false, false, false, false, false] rfl rfl (any_of HT_.out (by kernel_rfl)) (fun _ _ _ h => h) (Or.inl ⟨by rfl, ?_⟩) ?_ ?_
                                rotate_left
                                · intro w'
                                  go_simp
                                  with_reducible rfl
                                rotate_left
                                · simp only [Act.put, List.setIfInBounds_toArray, List.set_cons_zero, List.set_cons_succ, i64_w, i32_w]
                                  rfl
                                refine pure_ (i := 3) (N := some 33) (v := ?_) (a' := ?_) #[true, true, false, true, false, false, false, false, false, false, false, false, false, false, false, false, false, false, false, false, false, false, false, false, false, false, false, false, false, false, false, false, false, false, false, false] rfl rfl (any_of HT_.out (by kernel_rfl)) (fun _ _ _ h => h) (Or.inl ⟨by rfl, ?_⟩) ?_ ?_
                                rotate_left
                                · intro w'
                                  go_simp
                                  with_reducible rfl
                                rotate_left
                                · simp only [Act.put, List.setIfInBounds_toArray, List.set_cons_zero, List.set_cons_succ, i64_w, i32_w]
                                  rfl
                                refine pure_ (i := 5) (N := some 35) (v := ?_) (a' := ?_) #[true, true, false, true, false, true, false, false, false, false, false, false, false, false, false, false, false, false, false, false, false, false, false, false, false, false, false, false, false, false, false, false, false, false, false, false] rfl rfl (any_of HT_.out (by kernel_rfl)) (fun _ _ _ h => h) (Or.inl ⟨by rfl, ?_⟩) ?_ ?_
                                rotate_left
                                · intro w'
                                  go_simp
                                  with_reducible rfl
                                rotate_left
                                · simp only [Act.put, List.setIfInBounds_toArray, List.set_cons_zero, List.set_cons_succ, i64_w, i32_w]
                                  rfl
                                refine pure_ (i := 8) (N := some 38) (v := ?_) (a' := ?_) #[true, true, false, true, false, true, false, false, true, false, false, false, false, false, false, false, false, false, false, false, false, false, false, false, false, false, false, false, false, false, false, false, false, false, false, false] rfl rfl (any_of HT_.out (by kernel_rfl)) (fun _ _ _ h => h) (Or.inl ⟨by rfl, ?_⟩) ?_ ?_
                                rotate_left
                                · intro w'
                                  go_simp
                                  with_reducible rfl
                                rotate_left
                                · simp only [Act.put, List.setIfInBounds_toArray, List.set_cons_zero, List.set_cons_succ, i64_w, i32_w]
                                  rfl
                                refine pure_ (i := 12) (N := some 42) (v := ?_) (a' := ?_) #[true, true, false, true, false, true, false, false, true, false, false, false, true, false, false, false, false, false, false, false, false, false, false, false, false, false, false, false, false, false, false, false, false, false, false, false] rfl rfl (any_of HT_.out (by kernel_rfl)) (fun _ _ _ h => h) (Or.inl ⟨by rfl, ?_⟩) ?_ ?_
                                rotate_left
                                · intro w'
                                  go_simp
                                  with_reducible rfl
                                rotate_left
                                · simp only [Act.put, List.setIfInBounds_toArray, List.set_cons_zero, List.set_cons_succ, i64_w, i32_w]
                                  rfl
                                refine pure_ (i := 13) (N := some 43) (v := ?_) (a' := ?_) #[true, true, false, true, false, true, false, false, true, false, false, false, true, true, false, false, false, false, false, false, false, false, false, false, false, false, false, false, false, false, false, false, false, false, false, false] rfl rfl (any_of HT_.out (by kernel_rfl)) (fun _ _ _ h => h) (Or.inl ⟨by rfl, ?_⟩) ?_ ?_
                                rotate_left
                                · intro w'
                                  go_simp
                                  with_reducible rfl
                                rotate_left
                                · simp only [Act.put, List.setIfInBounds_toArray, List.set_cons_zero, List.set_cons_succ, i64_w, i32_w]
                                  rfl
                                refine pure_ (i := 14) (N := some 44) (v := ?_) (a' := ?_) #[true, true, false, true, false, true, false, false, true, false, false, false, true, true, true, false, false, false, false, false, false, false, false, false, false, false, false, false, false, false, false, false, false, false, false, false] rfl rfl (any_of HT_.out (by kernel_rfl)) (fun _ _ _ h => h) (Or.inl ⟨by rfl, ?_⟩) ?_ ?_
                                rotate_left
                                · intro w'
                                  go_simp
                                  with_reducible rfl
                                rotate_left
                                · simp only [Act.put, List.setIfInBounds_toArray, List.set_cons_zero, List.set_cons_succ, i64_w, i32_w]
                                  rfl
                                refine pure_ (i := 17) (N := some 47) (v := ?_) (a' := ?_) #[true, true, false, true, false, true, false, false, true, false, false, false, true, true, true, false, false, true, false, false, false, false, false, false, false, false, false, false, false, false, false, false, false, false, false, false] rfl rfl (any_of HT_.out (by kernel_rfl)) (fun _ _ _ h => h) (Or.inl ⟨by rfl, ?_⟩) ?_ ?_
                                rotate_left
                                · intro w'
                                  go_simp
                                  with_reducible rfl
                                rotate_left
                                · simp only [Act.put, List.setIfInBounds_toArray, List.set_cons_zero, List.set_cons_succ, i64_w, i32_w]
                                  rfl
                                refine pure_ (i := 18) (N := some 48) (v := ?_) (a' := ?_) #[true, true, false, true, false, true, false, false, true, false, false, false, true, true, true, false, false, true, true, false, false, false, false, false, false, false, false, false, false, false, false, false, false, false, false, false] rfl rfl (any_of HT_.out (by kernel_rfl)) (fun _ _ _ h => h) (Or.inl ⟨by rfl, ?_⟩) ?_ ?_
                                rotate_left
                                · intro w'
                                  go_simp
                                  with_reducible rfl
                                rotate_left
                                · simp only [Act.put, List.setIfInBounds_toArray, List.set_cons_zero, List.set_cons_succ, i64_w, i32_w]
                                  rfl
                                refine pure_ (i := 19) (N := some 49) (v := ?_) (a' := ?_) #[true, true, false, true, false, true, false, false, true, false, false, false, true, true, true, false, false, true, true, true, false, false, false, false, false, false, false, false, false, false, false, false, false, false, false, false] rfl rfl (any_of HT_.out (by kernel_rfl)) (fun _ _ _ h => h) (Or.inl ⟨by rfl, ?_⟩) ?_ ?_
                                rotate_left
                                · intro w'
                                  go_simp
                                  with_reducible rfl
                                rotate_left
                                · simp only [Act.put, List.setIfInBounds_toArray, List.set_cons_zero, List.set_cons_succ, i64_w, i32_w]
                                  rfl
                                refine pure_ (i := 20) (N := some 50) (v := ?_) (a' := ?_) #[true, true, false, true, false, true, false, false, true, false, false, false, true, true, true, false, false, true, true, true, true, false, false, false, false, false, false, false, false, false, false, false, false, false, false, false] rfl rfl (any_of HT_.out (by kernel_rfl)) (fun _ _ _ h => h) (Or.inl ⟨by rfl, ?_⟩) ?_ ?_
                                rotate_left
                                · intro w'
                                  go_simp
                                  with_reducible rfl
                                rotate_left
                                · simp only [Act.put, List.setIfInBounds_toArray, List.set_cons_zero, List.set_cons_succ, i64_w, i32_w]
                                  rfl
                                refine pure_ (i := 25) (N := some 55) (v := ?_) (a' := ?_) #[true, true, false, true, false, true, false, false, true, false, false, false, true, true, true, false, false, true, true, true, true, false, false, false, false, true, false, false, false, false, false, false, false, false, false, false] rfl rfl (any_of HT_.out (by kernel_rfl)) (fun _ _ _ h => h) (Or.inl ⟨by rfl, ?_⟩) ?_ ?_
                                rotate_left
                                · intro w'
                                  go_simp
                                  with_reducible rfl
                                rotate_left
                                · simp only [Act.put, List.setIfInBounds_toArray, List.set_cons_zero, List.set_cons_succ, i64_w, i32_w]
                                  rfl
                                refine pure_ (i := 26) (N := some 56) (v := ?_) (a' := ?_) #[true, true, false, true, false, true, false, false, true, false, false, false, true, true, true, false, false, true, true, true, true, false, false, false, false, true, true, false, false, false, false, false, false, false, false, false] rfl rfl (any_of HT_.out (by kernel_rfl)) (fun _ _ _ h => h) (Or.inl ⟨by rfl, ?_⟩) ?_ ?_
                                rotate_left
                                · intro w'
                                  go_simp
                                  with_reducible rfl
                                rotate_left
                                · simp only [Act.put, List.setIfInBounds_toArray, List.set_cons_zero, List.set_cons_succ, i64_w, i32_w]
                                  rfl
                                refine pure_ (i := 27) (N := some 57) (v := ?_) (a' := ?_) #[true, true, false, true, false, true, false, false, true, false, false, false, true, true, true, false, false, true, true, true, true, false, false, false, false, true, true, true, false, false, false, false, false, false, false, false] rfl rfl (any_of HT_.out (by kernel_rfl)) (fun _ _ _ h => h) (Or.inl ⟨by rfl, ?_⟩) ?_ ?_
                                rotate_left
                                · intro w'
                                  go_simp
                                  with_reducible rfl
                                rotate_left
                                · simp only [Act.put, List.setIfInBounds_toArray, List.set_cons_zero, List.set_cons_succ, i64_w, i32_w]
                                  rfl
                                refine pure_ (i := 30) (N := some 60) (v := ?_) (a' := ?_) #[true, true, false, true, false, true, false, false, true, false, false, false, true, true, true, false, false, true, true, true, true, false, false, false, false, true, true, true, false, false, true, false, false, false, false, false] rfl rfl (any_of HT_.out (by kernel_rfl)) (fun _ _ _ h => h) (Or.inl ⟨by rfl, ?_⟩) ?_ ?_
                                rotate_left
                                · intro w'
                                  go_simp
                                  with_reducible rfl
                                rotate_left
                                · simp only [Act.put, List.setIfInBounds_toArray, List.set_cons_zero, List.set_cons_succ, i64_w, i32_w]
                                  rfl
                                refine pure_ (i := 31) (N := some 61) (v := ?_) (a' := ?_) #[true, true, false, true, false, true, false, false, true, false, false, false, true, true, true, false, false, true, true, true, true, false, false, false, false, true, true, true, false, false, true, true, false, false, false, false] rfl rfl (any_of HT_.out (by kernel_rfl)) (fun _ _ _ h => h) (Or.inl ⟨by rfl, ?_⟩) ?_ ?_
                                rotate_left
                                · intro w'
                                  go_simp
                                  with_reducible rfl
                                rotate_left
                                · simp only [Act.put, List.setIfInBounds_toArray, List.set_cons_zero, List.set_cons_succ, i64_w, i32_w]
                                  rfl
                                refine pure_ (i := 32) (N := some 62) (v := ?_) (a' := ?_) #[true, true, false, true, false, true, false, false, true, false, false, false, true, true, true, false, false, true, true, true, true, false, false, false, false, true, true, true, false, false, true, true, true, false, false, false] rfl rfl (any_of HT_.out (by kernel_rfl)) (fun _ _ _ h => h) (Or.inl ⟨by rfl, ?_⟩) ?_ ?_
                                rotate_left
                                · intro w'
                                  go_simp
                                  with_reducible rfl
                                rotate_left
                                · simp only [Act.put, List.setIfInBounds_toArray, List.set_cons_zero, List.set_cons_succ, i64_w, i32_w]
                                  rfl
                                refine take_ (i := 2) (N := some 32) (v := ?_) (a' := ?_) #[true, true, true, true, false, true, false, false, true, false, false, false, true, true, true, false, false, true, true, true, true, false, false, false, false, true, true, true, false, false, true, true, true, false, false, false] rfl rfl (take_ofW HT_.out HW_.out (by kernel_rfl)) (fun _ _ _ h => h) (Or.inl ⟨by rfl, ?_⟩) hHeld ?_ ?_
                                rotate_left
                                · rintro w' ⟨s0, s1, s2, s3, s4⟩
                                  go_simp
                                  with_reducible rfl
                                rotate_left
                                · simp only [Act.put, List.setIfInBounds_toArray, List.set_cons_zero, List.set_cons_succ, i64_w, i32_w]
                                  rfl
                                refine take_ (i := 15) (N := some 45) (v := ?_) (a' := ?_) #[true, true, true, true, false, true, false, false, true, false, false, false, true, true, true, true, false, true, true, true, true, false, false, false, false, true, true, true, false, false, true, true, true, false, false, false] rfl rfl (take_ofW HT_.out HW_.out (by kernel_rfl)) (fun _ _ _ h => h) (Or.inl ⟨by rfl, ?_⟩) hHeld ?_ ?_
                                rotate_left
                                · rintro w' ⟨s0, s1, s2, s3, s4⟩
                                  go_simp
                                  with_reducible rfl
                                rotate_left
                                · simp only [Act.put, List.setIfInBounds_toArray, List.set_cons_zero, List.set_cons_succ, i64_w, i32_w]
                                  rfl
                                refine pure_ (i := 16) (N := some 46) (v := ?_) (a' := ?_) #[true, true, true, true, false, true, false, false, true, false, false, false, true, true, true, true, true, true, true, true, true, false, false, false, false, true, true, true, false, false, true, true, true, false, false, false] rfl rfl (any_of HT_.out (by kernel_rfl)) (fun _ _ _ h => h) (Or.inl ⟨by rfl, ?_⟩) ?_ ?_
                                rotate_left
                                · intro w'
                                  go_simp
                                  with_reducible rfl
                                rotate_left
                                · simp only [Act.put, List.setIfInBounds_toArray, List.set_cons_zero, List.set_cons_succ, i64_w, i32_w]
                                  rfl
                                refine take_ (i := 21) (N := some 51) (v := ?_) (a' := ?_) #[true, true, true, true, false, true, false, false, true, false, false, false, true, true, true, true, true, true, true, true, true, true, false, false, false, true, true, true, false, false, true, true, true, false, false, false] rfl rfl (take_ofW HT_.out HW_.out (by kernel_rfl)) (fun _ _ _ h => h) (Or.inl ⟨by rfl, ?_⟩) hHeld ?_ ?_
                                rotate_left
                                · rintro w' ⟨s0, s1, s2, s3, s4⟩
                                  go_simp
                                  with_reducible rfl
                                rotate_left
                                · simp only [Act.put, List.setIfInBounds_toArray, List.set_cons_zero, List.set_cons_succ, i64_w, i32_w]
                                  rfl
                                refine pure_ (i := 22) (N := some 52) (v := ?_) (a' := ?_) #[true, true, true, true, false, true, false, false, true, false, false, false, true, true, true, true, true, true, true, true, true, true, true, false, false, true, true, true, false, false, true, true, true, false, false, false] rfl rfl (any_of HT_.out (by kernel_rfl)) (fun _ _ _ h => h) (Or.inl ⟨by rfl, ?_⟩) ?_ ?_
                                rotate_left
                                · intro w'
                                  go_simp
                                  with_reducible rfl
                                rotate_left
                                · simp only [Act.put, List.setIfInBounds_toArray, List.set_cons_zero, List.set_cons_succ, i64_w, i32_w]
                                  rfl
                                refine pure_ (i := 23) (N := some 53) (v := ?_) (a' := ?_) #[true, true, true, true, false, true, false, false, true, false, false, false, true, true, true, true, true, true, true, true, true, true, true, true, false, true, true, true, false, false, true, true, true, false, false, false] rfl rfl (any_of HT_.out (by kernel_rfl)) (fun _ _ _ h => h) (Or.inl ⟨by rfl, ?_⟩) ?_ ?_
                                rotate_left
                                · intro w'
                                  go_simp
                                  with_reducible rfl
                                rotate_left
                                · simp only [Act.put, List.setIfInBounds_toArray, List.set_cons_zero, List.set_cons_succ, i64_w, i32_w]
                                  rfl
                                refine take_ (i := 28) (N := some 58) (v := ?_) (a' := ?_) #[true, true, true, true, false, true, false, false, true, false, false, false, true, true, true, true, true, true, true, true, true, true, true, true, false, true, true, true, true, false, true, true, true, false, false, false] rfl rfl (take_ofW HT_.out HW_.out (by kernel_rfl)) (fun _ _ _ h => h) (Or.inl ⟨by rfl, ?_⟩) hHeld ?_ ?_
                                rotate_left
                                · rintro w' ⟨s0, s1, s2, s3, s4⟩
                                  go_simp
                                  with_reducible rfl
                                rotate_left
                                · simp only [Act.put, List.setIfInBounds_toArray, List.set_cons_zero, List.set_cons_succ, i64_w, i32_w]
                                  rfl
                                refine take_ (i := 33) (N := some 63) (v := ?_) (a' := ?_) #[true, true, true, true, false, true, false, false, true, false, false, false, true, true, true, true, true, true, true, true, true, true, true, true, false, true, true, true, true, false, true, true, true, true, false, false] rfl rfl (take_ofW HT_.out HW_.out (by kernel_rfl)) (fun _ _ _ h => h) (Or.inl ⟨by rfl, ?_⟩) hHeld ?_ ?_
                                rotate_left
                                · rintro w' ⟨s0, s1, s2, s3, s4⟩
                                  go_simp
                                  with_reducible rfl
                                rotate_left
                                · simp only [Act.put, List.setIfInBounds_toArray, List.set_cons_zero, List.set_cons_succ, i64_w, i32_w]
                                  rfl
                                refine one_ (i := 4) (N := some 34) #[true, true, true, true, true, true, false, false, true, false, false, false, true, true, true, true, true, true, true, true, true, true, true, true, false, true, true, true, true, false, true, true, true, true, false, false] rfl rfl (one_of HT_.out (by kernel_rfl)) (by decide) (fun K hK => ?_)
                                refine goes_ Try.func50 (by kernel_rfl) rfl #[.int .u32 (rd x7_1 4), .int .u64 6] (by rfl) rfl rfl (by (try simp only [List.map_toArray, List.map_cons, List.map_nil]); first | done | rfl | (simp only [List.length_drop, List.length_take]; rfl)) ?_
                                with_reducible refine (heliastref04_turn.calls (rd x7_1 4) 6 t143 _ A13.out).mono ?_
                                rintro e w' ⟨rfl, ⟨nd, rfl⟩⟩
                                refine ⟨_, rfl, ?_⟩
                                refine hK.out _ _ ⟨hHeld.1, hHeld.2.1, hHeld.2.2.1, hHeld.2.2.2.1, hHeld.2.2.2.2⟩ (fun hHeld => ?_)
                                clear hK K
                                refine norm_ (a' := ?_) ?_ ?_
                                rotate_left
                                · show Act.put _ (some 34) _ = _
                                  simp only [Act.put, List.setIfInBounds_toArray, List.set_cons_zero, List.set_cons_succ, i64_w, i32_w]
                                  rfl
                                refine one_ (i := 6) (N := some 36) #[true, true, true, true, true, true, true, false, true, false, false, false, true, true, true, true, true, true, true, true, true, true, true, true, false, true, true, true, true, false, true, true, true, true, false, false] rfl rfl (one_of HT_.out (by kernel_rfl)) (by decide) (fun K hK => ?_)
                                refine goes_ Try.func50 (by kernel_rfl) rfl #[.int .u32 (rd x7_1 4), .int .u64 11] (by rfl) rfl rfl (by (try simp only [List.map_toArray, List.map_cons, List.map_nil]); first | done | rfl | (simp only [List.length_drop, List.length_take]; rfl)) ?_
                                with_reducible refine (heliastref04_turn.calls (rd x7_1 4) 11 t144 _ A14.out).mono ?_
                                rintro e w' ⟨rfl, ⟨nd, rfl⟩⟩
                                refine ⟨_, rfl, ?_⟩
                                refine hK.out _ _ ⟨hHeld.1, hHeld.2.1, hHeld.2.2.1, hHeld.2.2.2.1, hHeld.2.2.2.2⟩ (fun hHeld => ?_)
                                clear hK K
                                refine norm_ (a' := ?_) ?_ ?_
                                rotate_left
                                · show Act.put _ (some 36) _ = _
                                  simp only [Act.put, List.setIfInBounds_toArray, List.set_cons_zero, List.set_cons_succ, i64_w, i32_w]
                                  rfl
                                refine pure_ (i := 7) (N := some 37) (v := ?_) (a' := ?_) #[true, true, true, true, true, true, true, true, true, false, false, false, true, true, true, true, true, true, true, true, true, true, true, true, false, true, true, true, true, false, true, true, true, true, false, false] rfl rfl (any_of HT_.out (by kernel_rfl)) (fun _ _ _ h => h) (Or.inl ⟨by rfl, ?_⟩) ?_ ?_
                                rotate_left
                                · intro w'
                                  go_simp
                                  with_reducible rfl
                                rotate_left
                                · simp only [Act.put, List.setIfInBounds_toArray, List.set_cons_zero, List.set_cons_succ, i64_w, i32_w]
                                  rfl
                                refine one_ (i := 9) (N := some 39) #[true, true, true, true, true, true, true, true, true, true, false, false, true, true, true, true, true, true, true, true, true, true, true, true, false, true, true, true, true, false, true, true, true, true, false, false] rfl rfl (one_of HT_.out (by kernel_rfl)) (by decide) (fun K hK => ?_)
                                refine goes_ Try.func50 (by kernel_rfl) rfl #[.int .u32 (rd x7_1 4), .int .u64 25] (by rfl) rfl rfl (by (try simp only [List.map_toArray, List.map_cons, List.map_nil]); first | done | rfl | (simp only [List.length_drop, List.length_take]; rfl)) ?_
                                with_reducible refine (heliastref04_turn.calls (rd x7_1 4) 25 t145 _ A15.out).mono ?_
                                rintro e w' ⟨rfl, ⟨nd, rfl⟩⟩
                                refine ⟨_, rfl, ?_⟩
                                refine hK.out _ _ ⟨hHeld.1, hHeld.2.1, hHeld.2.2.1, hHeld.2.2.2.1, hHeld.2.2.2.2⟩ (fun hHeld => ?_)
                                clear hK K
                                refine norm_ (a' := ?_) ?_ ?_
                                rotate_left
                                · show Act.put _ (some 39) _ = _
                                  simp only [Act.put, List.setIfInBounds_toArray, List.set_cons_zero, List.set_cons_succ, i64_w, i32_w]
                                  rfl
                                refine pure_ (i := 10) (N := some 40) (v := ?_) (a' := ?_) #[true, true, true, true, true, true, true, true, true, true, true, false, true, true, true, true, true, true, true, true, true, true, true, true, false, true, true, true, true, false, true, true, true, true, false, false] rfl rfl (any_of HT_.out (by kernel_rfl)) (fun _ _ _ h => h) (Or.inl ⟨by rfl, ?_⟩) ?_ ?_
                                rotate_left
                                · intro w'
                                  go_simp
                                  with_reducible rfl
                                rotate_left
                                · simp only [Act.put, List.setIfInBounds_toArray, List.set_cons_zero, List.set_cons_succ, i64_w, i32_w]
                                  rfl
                                refine pure_ (i := 11) (N := some 41) (v := ?_) (a' := ?_) #[true, true, true, true, true, true, true, true, true, true, true, true, true, true, true, true, true, true, true, true, true, true, true, true, false, true, true, true, true, false, true, true, true, true, false, false] rfl rfl (any_of HT_.out (by kernel_rfl)) (fun _ _ _ h => h) (Or.inl ⟨by rfl, ?_⟩) ?_ ?_
                                rotate_left
                                · intro w'
                                  go_simp
                                  with_reducible rfl
                                rotate_left
                                · simp only [Act.put, List.setIfInBounds_toArray, List.set_cons_zero, List.set_cons_succ, i64_w, i32_w]
                                  rfl
                                refine pure_ (i := 24) (N := some 54) (v := ?_) (a' := ?_) #[true, true, true, true, true, true, true, true, true, true, true, true, true, true, true, true, true, true, true, true, true, true, true, true, true, true, true, true, true, false, true, true, true, true, false, false] rfl rfl (any_of HT_.out (by kernel_rfl)) (fun _ _ _ h => h) (Or.inl ⟨by rfl, ?_⟩) ?_ ?_
                                rotate_left
                                · intro w'
                                  go_simp
                                  with_reducible rfl
                                rotate_left
                                · simp only [Act.put, List.setIfInBounds_toArray, List.set_cons_zero, List.set_cons_succ, i64_w, i32_w]
                                  rfl
                                refine pure_ (i := 29) (N := some 59) (v := ?_) (a' := ?_) #[true, true, true, true, true, true, true, true, true, true, true, true, true, true, true, true, true, true, true, true, true, true, true, true, true, true, true, true, true, true, true, true, true, true, false, false] rfl rfl (any_of HT_.out (by kernel_rfl)) (fun _ _ _ h => h) (Or.inl ⟨by rfl, ?_⟩) ?_ ?_
                                rotate_left
                                · intro w'
                                  go_simp
                                  with_reducible rfl
                                rotate_left
                                · simp only [Act.put, List.setIfInBounds_toArray, List.set_cons_zero, List.set_cons_succ, i64_w, i32_w]
                                  rfl
                                refine pure_ (i := 34) (N := some 64) (v := ?_) (a' := ?_) #[true, true, true, true, true, true, true, true, true, true, true, true, true, true, true, true, true, true, true, true, true, true, true, true, true, true, true, true, true, true, true, true, true, true, true, false] rfl rfl (any_of HT_.out (by kernel_rfl)) (fun _ _ _ h => h) (Or.inl ⟨by rfl, ?_⟩) ?_ ?_
                                rotate_left
                                · intro w'
                                  go_simp
                                  with_reducible rfl
                                rotate_left
                                · simp only [Act.put, List.setIfInBounds_toArray, List.set_cons_zero, List.set_cons_succ, i64_w, i32_w]
                                  rfl
                                refine pure_ (i := 35) (N := some 11) (v := ?_) (a' := ?_) #[true, true, true, true, true, true, true, true, true, true, true, true, true, true, true, true, true, true, true, true, true, true, true, true, true, true, true, true, true, true, true, true, true, true, true, true] rfl rfl (any_of HT_.out (by kernel_rfl)) (fun _ _ _ h => h) (Or.inl ⟨by rfl, ?_⟩) ?_ ?_
                                rotate_left
                                · intro w'
                                  go_simp
                                  with_reducible rfl
                                rotate_left
                                · simp only [Act.put, List.setIfInBounds_toArray, List.set_cons_zero, List.set_cons_succ, i64_w, i32_w]
                                  rfl
                                refine done_ (done_of HT_.out (by kernel_rfl)) ?_
                                try go_wp2
                                (try (rw [drewN_self w28]; generalize hq_ : World.drewN w28 _ = w28; have n0_ : Aside0 (Kd.R (Kd.int .u32) 55 w28 w.heap.size (fun k_ => some k_ ≠ (.slice (some ad148) t134.length co29 : Value).ownBlock ∧ some k_ ≠ (.slice (some ad140) x7_1.length co27 : Value).ownBlock) (.slice (some ad149) t131.length co30) t131) := ⟨by rw [← hq_]; exact (by (with_reducible repeat (first | apply Kd.R_alloc | apply Kd.R_drewN | apply Kd.R_drew)); exact HO_5.out)⟩; have n1_ : Aside0 (Kd.R (Kd.int .u32) 55 w28 w.heap.size (fun k_ => some k_ ≠ (.slice (some ad149) t131.length co30 : Value).ownBlock ∧ some k_ ≠ (.slice (some ad140) x7_1.length co27 : Value).ownBlock) (.slice (some ad148) t134.length co29) t134) := ⟨by rw [← hq_]; exact (by (with_reducible repeat (first | apply Kd.R_alloc | apply Kd.R_drewN | apply Kd.R_drew)); exact HO_6.out)⟩; have n2_ : Aside0 (Kd.R (Kd.int .u32) 55 w28 w.heap.size (fun k_ => some k_ ≠ (.slice (some ad149) t131.length co30 : Value).ownBlock ∧ some k_ ≠ (.slice (some ad148) t134.length co29 : Value).ownBlock) (.slice (some ad140) x7_1.length co27) x7_1) := ⟨by rw [← hq_]; exact (by (with_reducible repeat (first | apply Kd.R_alloc | apply Kd.R_drewN | apply Kd.R_drew)); exact HO_7.out)⟩; have n3_ : Aside0 (Below w.heap.size w w28) := ⟨by rw [← hq_]; exact (by repeat (first | (with_reducible first | exact HB.out | apply below_alloc | apply pw_below_drewN | apply below_drew1) | exact HB.out))⟩; clear HO_5 HO_6 HO_7 HB hq_; have HO_5 := n0_; have HO_6 := n1_; have HO_7 := n2_; have HB := n3_; clear n0_ n1_ n2_ n3_))
                                have n0_ := Aside0.mk (Kd.R_drew HO_5.out)
                                have n1_ := Aside0.mk (Kd.R_drew HO_6.out)
                                have n2_ := Aside0.mk (Kd.R_drew HO_7.out)
                                have n3_ := Aside0.mk (below_drew1 HB.out)
                                clear HO_5
                                clear HO_6
                                clear HO_7
                                clear HB
                                have HO_5 := n0_
                                have HO_6 := n1_
                                have HO_7 := n2_
                                have HB := n3_
                                clear n0_ n1_ n2_ n3_
                                have p153 : 0 ≤ (1 : Int) := (by omega)
                                have q153 : 1 < (x7_1.length : Int) := of_decide_eq_true (by first | (with_reducible assumption) | assumption)
                                obtain ⟨ad153, e153, hx153_0⟩ := Kd.at_int (Kd.R_reads' HO_7.out).2.2 1 p153 q153
                                obtain rfl : ad140 = ad153 := (by injection e153)
                                (try simp only [show (1 : Int).toNat = 1 from rfl, Nat.reduceMul, Nat.reduceEqDiff, Go.Addr.add, ↓reduceIte] at hx153_0)
                                have qi153 : (1 < x7_1.length) = True := eq_true (by omega)
                                (try rw [show ((1 : Int)).toNat = 1 from rfl] at hx153_0)
                                replace p153 := eq_true p153
                                replace q153 := eq_true q153
                                have p154 : 0 ≤ (2 : Int) := (by omega)
                                have q154 : 2 < (x7_1.length : Int) := of_decide_eq_true (by first | (with_reducible assumption) | assumption)
                                obtain ⟨ad154, e154, hx154_0⟩ := Kd.at_int (Kd.R_reads' HO_7.out).2.2 2 p154 q154
                                obtain rfl : ad140 = ad154 := (by injection e154)
                                (try simp only [show (2 : Int).toNat = 2 from rfl, Nat.reduceMul, Nat.reduceEqDiff, Go.Addr.add, ↓reduceIte] at hx154_0)
                                have qi154 : (2 < x7_1.length) = True := eq_true (by omega)
                                (try rw [show ((2 : Int)).toNat = 2 from rfl] at hx154_0)
                                replace p154 := eq_true p154
                                replace q154 := eq_true q154
                                have p155 : 0 ≤ (1 : Int) := (by omega)
                                have q155 : 1 < (x7_1.length : Int) := of_decide_eq_true (by first | (with_reducible assumption) | assumption)
                                obtain ⟨ad155, e155, hx155_0⟩ := Kd.at_int (Kd.R_reads' HO_7.out).2.2 1 p155 q155
                                obtain rfl : ad140 = ad155 := (by injection e155)
                                (try simp only [show (1 : Int).toNat = 1 from rfl, Nat.reduceMul, Nat.reduceEqDiff, Go.Addr.add, ↓reduceIte] at hx155_0)
                                have qi155 : (1 < x7_1.length) = True := eq_true (by omega)
                                (try rw [show ((1 : Int)).toNat = 1 from rfl] at hx155_0)
                                replace p155 := eq_true p155
                                replace q155 := eq_true q155
                                have p156 : 0 ≤ (2 : Int) := (by omega)
                                have q156 : 2 < (x7_1.length : Int) := of_decide_eq_true (by first | (with_reducible assumption) | assumption)
                                obtain ⟨ad156, e156, hx156_0⟩ := Kd.at_int (Kd.R_reads' HO_7.out).2.2 2 p156 q156
                                obtain rfl : ad140 = ad156 := (by injection e156)
                                (try simp only [show (2 : Int).toNat = 2 from rfl, Nat.reduceMul, Nat.reduceEqDiff, Go.Addr.add, ↓reduceIte] at hx156_0)
                                have qi156 : (2 < x7_1.length) = True := eq_true (by omega)
                                (try rw [show ((2 : Int)).toNat = 2 from rfl] at hx156_0)
                                replace p156 := eq_true p156
                                replace q156 := eq_true q156
                                refine start_ (n := 29) (S := fun w' => w'.cell? ⟨ad140.block, ad140.off + 1, none⟩ = some (.int .u32 (rd x7_1 1)) ∧ w'.cell? ⟨ad140.block, ad140.off + 2, none⟩ = some (.int .u32 (rd x7_1 2)) ∧ w'.cell? ⟨ad140.block, ad140.off + 1, none⟩ = some (.int .u32 (rd x7_1 1)) ∧ w'.cell? ⟨ad140.block, ad140.off + 2, none⟩ = some (.int .u32 (rd x7_1 2))) (ds := []) #[false, false, false, false, false, false, false, false, false, false, false, false, false, false, false, false, false, false, false, false, false, false, false, false, false, false, false, false, false] (by kernel_rfl) rfl rfl ⟨hx153_0, hx154_0, hx155_0, hx156_0⟩ (fun hHeld => ?_); refine with_tabW heliastref04_block.tab11 heliastref04_block.bits11 (fun HT_ HW_ => ?_)
                                generalize w28.drew = w31 at HO_5 HO_6 HO_7 HB hx153_0 hx154_0 hx155_0 hx156_0 hHeld ⊢
                                refine pure_ (i := 0) (N := some 65) (v := ?_) (a' := ?_) #[true, false, false, false, false, false, false, false, false, false, false, false, false, false, false, false, false, false, false, false, false, false, false, false, false, false, false, false, false] rfl rfl (any_of HT_.out (by kernel_rfl)) (fun _ _ _ h => h) (Or.inl ⟨by rfl, ?_⟩) ?_ ?_
                                rotate_left
                                · intro w'
                                  go_simp
                                  with_reducible rfl
                                rotate_left
                                · simp only [Act.put, List.setIfInBounds_toArray, List.set_cons_zero, List.set_cons_succ, i64_w, i32_w]
                                  rfl
                                refine pure_ (i := 2) (N := some 67) (v := ?_) (a' := ?_) #[true, false, true, false, false, false, false, false, false, false, false, false, false, false, false, false, false, false, false, false, false, false, false, false, false, false, false, false, false] rfl rfl (any_of HT_.out (by kernel_rfl)) (fun _ _ _ h => h) (Or.inl ⟨by rfl, ?_⟩) ?_ ?_
                                rotate_left
                                · intro w'
                                  go_simp
                                  with_reducible rfl
                                rotate_left
                                · simp only [Act.put, List.setIfInBounds_toArray, List.set_cons_zero, List.set_cons_succ, i64_w, i32_w]
                                  rfl
                                refine pure_ (i := 5) (N := some 70) (v := ?_) (a' := ?_) #[true, false, true, false, false, true, false, false, false, false, false, false, false, false, false, false, false, false, false, false, false, false, false, false, false, false, false, false, false] rfl rfl (any_of HT_.out (by kernel_rfl)) (fun _ _ _ h => h) (Or.inl ⟨by rfl, ?_⟩) ?_ ?_
                                rotate_left
                                · intro w'
                                  go_simp
                                  with_reducible rfl
                                rotate_left
                                · simp only [Act.put, List.setIfInBounds_toArray, List.set_cons_zero, List.set_cons_succ, i64_w, i32_w]
                                  rfl
                                refine pure_ (i := 8) (N := some 73) (v := ?_) (a' := ?_) #[true, false, true, false, false, true, false, false, true, false, false, false, false, false, false, false, false, false, false, false, false, false, false, false, false, false, false, false, false] rfl rfl (any_of HT_.out (by kernel_rfl)) (fun _ _ _ h => h) (Or.inl ⟨by rfl, ?_⟩) ?_ ?_
                                rotate_left
                                · intro w'
                                  go_simp
                                  with_reducible rfl
                                rotate_left
                                · simp only [Act.put, List.setIfInBounds_toArray, List.set_cons_zero, List.set_cons_succ, i64_w, i32_w]
                                  rfl
                                refine pure_ (i := 9) (N := some 74) (v := ?_) (a' := ?_) #[true, false, true, false, false, true, false, false, true, true, false, false, false, false, false, false, false, false, false, false, false, false, false, false, false, false, false, false, false] rfl rfl (any_of HT_.out (by kernel_rfl)) (fun _ _ _ h => h) (Or.inl ⟨by rfl, ?_⟩) ?_ ?_
                                rotate_left
                                · intro w'
                                  go_simp
                                  with_reducible rfl
                                rotate_left
                                · simp only [Act.put, List.setIfInBounds_toArray, List.set_cons_zero, List.set_cons_succ, i64_w, i32_w]
                                  rfl
                                refine pure_ (i := 10) (N := some 75) (v := ?_) (a' := ?_) #[true, false, true, false, false, true, false, false, true, true, true, false, false, false, false, false, false, false, false, false, false, false, false, false, false, false, false, false, false] rfl rfl (any_of HT_.out (by kernel_rfl)) (fun _ _ _ h => h) (Or.inl ⟨by rfl, ?_⟩) ?_ ?_
                                rotate_left
                                · intro w'
                                  go_simp
                                  with_reducible rfl
                                rotate_left
                                · simp only [Act.put, List.setIfInBounds_toArray, List.set_cons_zero, List.set_cons_succ, i64_w, i32_w]
                                  rfl
                                refine pure_ (i := 13) (N := some 78) (v := ?_) (a' := ?_) #[true, false, true, false, false, true, false, false, true, true, true, false, false, true, false, false, false, false, false, false, false, false, false, false, false, false, false, false, false] rfl rfl (any_of HT_.out (by kernel_rfl)) (fun _ _ _ h => h) (Or.inl ⟨by rfl, ?_⟩) ?_ ?_
                                rotate_left
                                · intro w'
                                  go_simp
                                  with_reducible rfl
                                rotate_left
                                · simp only [Act.put, List.setIfInBounds_toArray, List.set_cons_zero, List.set_cons_succ, i64_w, i32_w]
                                  rfl
                                refine pure_ (i := 14) (N := some 79) (v := ?_) (a' := ?_) #[true, false, true, false, false, true, false, false, true, true, true, false, false, true, true, false, false, false, false, false, false, false, false, false, false, false, false, false, false] rfl rfl (any_of HT_.out (by kernel_rfl)) (fun _ _ _ h => h) (Or.inl ⟨by rfl, ?_⟩) ?_ ?_
                                rotate_left
                                · intro w'
                                  go_simp
                                  with_reducible rfl
                                rotate_left
                                · simp only [Act.put, List.setIfInBounds_toArray, List.set_cons_zero, List.set_cons_succ, i64_w, i32_w]
                                  rfl
                                refine pure_ (i := 15) (N := some 80) (v := ?_) (a' := ?_) #[true, false, true, false, false, true, false, false, true, true, true, false, false, true, true, true, false, false, false, false, false, false, false, false, false, false, false, false, false] rfl rfl (any_of HT_.out (by kernel_rfl)) (fun _ _ _ h => h) (Or.inl ⟨by rfl, ?_⟩) ?_ ?_
                                rotate_left
                                · intro w'
                                  go_simp
                                  with_reducible rfl
                                rotate_left
                                · simp only [Act.put, List.setIfInBounds_toArray, List.set_cons_zero, List.set_cons_succ, i64_w, i32_w]
                                  rfl
                                refine pure_ (i := 19) (N := some 84) (v := ?_) (a' := ?_) #[true, false, true, false, false, true, false, false, true, true, true, false, false, true, true, true, false, false, false, true, false, false, false, false, false, false, false, false, false] rfl rfl (any_of HT_.out (by kernel_rfl)) (fun _ _ _ h => h) (Or.inl ⟨by rfl, ?_⟩) ?_ ?_
                                rotate_left
                                · intro w'
                                  go_simp
                                  with_reducible rfl
                                rotate_left
                                · simp only [Act.put, List.setIfInBounds_toArray, List.set_cons_zero, List.set_cons_succ, i64_w, i32_w]
                                  rfl
                                refine pure_ (i := 20) (N := some 85) (v := ?_) (a' := ?_) #[true, false, true, false, false, true, false, false, true, true, true, false, false, true, true, true, false, false, false, true, true, false, false, false, false, false, false, false, false] rfl rfl (any_of HT_.out (by kernel_rfl)) (fun _ _ _ h => h) (Or.inl ⟨by rfl, ?_⟩) ?_ ?_
                                rotate_left
                                · intro w'
                                  go_simp
                                  with_reducible rfl
                                rotate_left
                                · simp only [Act.put, List.setIfInBounds_toArray, List.set_cons_zero, List.set_cons_succ, i64_w, i32_w]
                                  rfl
                                refine pure_ (i := 22) (N := some 87) (v := ?_) (a' := ?_) #[true, false, true, false, false, true, false, false, true, true, true, false, false, true, true, true, false, false, false, true, true, false, true, false, false, false, false, false, false] rfl rfl (any_of HT_.out (by kernel_rfl)) (fun _ _ _ h => h) (Or.inl ⟨by rfl, ?_⟩) ?_ ?_
                                rotate_left
                                · intro w'
                                  go_simp
                                  with_reducible rfl
                                rotate_left
                                · simp only [Act.put, List.setIfInBounds_toArray, List.set_cons_zero, List.set_cons_succ, i64_w, i32_w]
                                  rfl
                                refine pure_ (i := 23) (N := some 88) (v := ?_) (a' := ?_) #[true, false, true, false, false, true, false, false, true, true, true, false, false, true, true, true, false, false, false, true, true, false, true, true, false, false, false, false, false] rfl rfl (any_of HT_.out (by kernel_rfl)) (fun _ _ _ h => h) (Or.inl ⟨by rfl, ?_⟩) ?_ ?_
                                rotate_left
                                · intro w'
                                  go_simp
                                  with_reducible rfl
                                rotate_left
                                · simp only [Act.put, List.setIfInBounds_toArray, List.set_cons_zero, List.set_cons_succ, i64_w, i32_w]
                                  rfl
                                refine take_ (i := 11) (N := some 76) (v := ?_) (a' := ?_) #[true, false, true, false, false, true, false, false, true, true, true, true, false, true, true, true, false, false, false, true, true, false, true, true, false, false, false, false, false] rfl rfl (take_ofW HT_.out HW_.out (by kernel_rfl)) (fun _ _ _ h => h) (Or.inl ⟨by rfl, ?_⟩) hHeld ?_ ?_
                                rotate_left
                                · rintro w' ⟨s0, s1, s2, s3⟩
                                  go_simp
                                  with_reducible rfl
                                rotate_left
                                · simp only [Act.put, List.setIfInBounds_toArray, List.set_cons_zero, List.set_cons_succ, i64_w, i32_w]
                                  rfl
                                refine pure_ (i := 12) (N := some 77) (v := ?_) (a' := ?_) #[true, false, true, false, false, true, false, false, true, true, true, true, true, true, true, true, false, false, false, true, true, false, true, true, false, false, false, false, false] rfl rfl (any_of HT_.out (by kernel_rfl)) (fun _ _ _ h => h) (Or.inl ⟨by rfl, ?_⟩) ?_ ?_
                                rotate_left
                                · intro w'
                                  go_simp
                                  with_reducible rfl
                                rotate_left
                                · simp only [Act.put, List.setIfInBounds_toArray, List.set_cons_zero, List.set_cons_succ, i64_w, i32_w]
                                  rfl
                                refine take_ (i := 16) (N := some 81) (v := ?_) (a' := ?_) #[true, false, true, false, false, true, false, false, true, true, true, true, true, true, true, true, true, false, false, true, true, false, true, true, false, false, false, false, false] rfl rfl (take_ofW HT_.out HW_.out (by kernel_rfl)) (fun _ _ _ h => h) (Or.inl ⟨by rfl, ?_⟩) hHeld ?_ ?_
                                rotate_left
                                · rintro w' ⟨s0, s1, s2, s3⟩
                                  go_simp
                                  with_reducible rfl
                                rotate_left
                                · simp only [Act.put, List.setIfInBounds_toArray, List.set_cons_zero, List.set_cons_succ, i64_w, i32_w]
                                  rfl
                                refine pure_ (i := 17) (N := some 82) (v := ?_) (a' := ?_) #[true, false, true, false, false, true, false, false, true, true, true, true, true, true, true, true, true, true, false, true, true, false, true, true, false, false, false, false, false] rfl rfl (any_of HT_.out (by kernel_rfl)) (fun _ _ _ h => h) (Or.inl ⟨by rfl, ?_⟩) ?_ ?_
                                rotate_left
                                · intro w'
                                  go_simp
                                  with_reducible rfl
                                rotate_left
                                · simp only [Act.put, List.setIfInBounds_toArray, List.set_cons_zero, List.set_cons_succ, i64_w, i32_w]
                                  rfl
                                refine pure_ (i := 18) (N := some 83) (v := ?_) (a' := ?_) #[true, false, true, false, false, true, false, false, true, true, true, true, true, true, true, true, true, true, true, true, true, false, true, true, false, false, false, false, false] rfl rfl (any_of HT_.out (by kernel_rfl)) (fun _ _ _ h => h) (Or.inl ⟨by rfl, ?_⟩) ?_ ?_
                                rotate_left
                                · intro w'
                                  go_simp
                                  with_reducible rfl
                                rotate_left
                                · simp only [Act.put, List.setIfInBounds_toArray, List.set_cons_zero, List.set_cons_succ, i64_w, i32_w]
                                  rfl
                                refine take_ (i := 21) (N := some 86) (v := ?_) (a' := ?_) #[true, false, true, false, false, true, false, false, true, true, true, true, true, true, true, true, true, true, true, true, true, true, true, true, false, false, false, false, false] rfl rfl (take_ofW HT_.out HW_.out (by kernel_rfl)) (fun _ _ _ h => h) (Or.inl ⟨by rfl, ?_⟩) hHeld ?_ ?_
                                rotate_left
                                · rintro w' ⟨s0, s1, s2, s3⟩
                                  go_simp
                                  with_reducible rfl
                                rotate_left
                                · simp only [Act.put, List.setIfInBounds_toArray, List.set_cons_zero, List.set_cons_succ, i64_w, i32_w]
                                  rfl
                                refine take_ (i := 24) (N := some 89) (v := ?_) (a' := ?_) #[true, false, true, false, false, true, false, false, true, true, true, true, true, true, true, true, true, true, true, true, true, true, true, true, true, false, false, false, false] rfl rfl (take_ofW HT_.out HW_.out (by kernel_rfl)) (fun _ _ _ h => h) (Or.inl ⟨by rfl, ?_⟩) hHeld ?_ ?_
                                rotate_left
                                · rintro w' ⟨s0, s1, s2, s3⟩
                                  go_simp
                                  with_reducible rfl
                                rotate_left
                                · simp only [Act.put, List.setIfInBounds_toArray, List.set_cons_zero, List.set_cons_succ, i64_w, i32_w]
                                  rfl
                                refine pure_ (i := 25) (N := some 90) (v := ?_) (a' := ?_) #[true, false, true, false, false, true, false, false, true, true, true, true, true, true, true, true, true, true, true, true, true, true, true, true, true, true, false, false, false] rfl rfl (any_of HT_.out (by kernel_rfl)) (fun _ _ _ h => h) (Or.inl ⟨by rfl, ?_⟩) ?_ ?_
                                rotate_left
                                · intro w'
                                  go_simp
                                  with_reducible rfl
                                rotate_left
                                · simp only [Act.put, List.setIfInBounds_toArray, List.set_cons_zero, List.set_cons_succ, i64_w, i32_w]
                                  rfl
                                refine pure_ (i := 26) (N := some 91) (v := ?_) (a' := ?_) #[true, false, true, false, false, true, false, false, true, true, true, true, true, true, true, true, true, true, true, true, true, true, true, true, true, true, true, false, false] rfl rfl (any_of HT_.out (by kernel_rfl)) (fun _ _ _ h => h) (Or.inl ⟨by rfl, ?_⟩) ?_ ?_
                                rotate_left
                                · intro w'
                                  go_simp
                                  with_reducible rfl
                                rotate_left
                                · simp only [Act.put, List.setIfInBounds_toArray, List.set_cons_zero, List.set_cons_succ, i64_w, i32_w]
                                  rfl
                                refine one_ (i := 1) (N := some 66) #[true, true, true, false, false, true, false, false, true, true, true, true, true, true, true, true, true, true, true, true, true, true, true, true, true, true, true, false, false] rfl rfl (one_of HT_.out (by kernel_rfl)) (by decide) (fun K hK => ?_)
                                refine goes_ Try.func50 (by kernel_rfl) rfl #[.int .u32 (rd x7_1 0), .int .u64 2] (by rfl) rfl rfl (by (try simp only [List.map_toArray, List.map_cons, List.map_nil]); first | done | rfl | (simp only [List.length_drop, List.length_take]; rfl)) ?_
                                with_reducible refine (heliastref04_turn.calls (rd x7_1 0) 2 t150 _ A21.out).mono ?_
                                rintro e w' ⟨rfl, ⟨nd, rfl⟩⟩
                                refine ⟨_, rfl, ?_⟩
                                refine hK.out _ _ ⟨hHeld.1, hHeld.2.1, hHeld.2.2.1, hHeld.2.2.2⟩ (fun hHeld => ?_)
                                clear hK K
                                refine norm_ (a' := ?_) ?_ ?_
                                rotate_left
                                · show Act.put _ (some 66) _ = _
                                  simp only [Act.put, List.setIfInBounds_toArray, List.set_cons_zero, List.set_cons_succ, i64_w, i32_w]
                                  rfl
                                refine one_ (i := 3) (N := some 68) #[true, true, true, true, false, true, false, false, true, true, true, true, true, true, true, true, true, true, true, true, true, true, true, true, true, true, true, false, false] rfl rfl (one_of HT_.out (by kernel_rfl)) (by decide) (fun K hK => ?_)
                                refine goes_ Try.func50 (by kernel_rfl) rfl #[.int .u32 (rd x7_1 0), .int .u64 13] (by rfl) rfl rfl (by (try simp only [List.map_toArray, List.map_cons, List.map_nil]); first | done | rfl | (simp only [List.length_drop, List.length_take]; rfl)) ?_
                                with_reducible refine (heliastref04_turn.calls (rd x7_1 0) 13 t151 _ A22.out).mono ?_
                                rintro e w' ⟨rfl, ⟨nd, rfl⟩⟩
                                refine ⟨_, rfl, ?_⟩
                                refine hK.out _ _ ⟨hHeld.1, hHeld.2.1, hHeld.2.2.1, hHeld.2.2.2⟩ (fun hHeld => ?_)
                                clear hK K
                                refine norm_ (a' := ?_) ?_ ?_
                                rotate_left
                                · show Act.put _ (some 68) _ = _
                                  simp only [Act.put, List.setIfInBounds_toArray, List.set_cons_zero, List.set_cons_succ, i64_w, i32_w]
                                  rfl
                                refine pure_ (i := 4) (N := some 69) (v := ?_) (a' := ?_) #[true, true, true, true, true, true, false, false, true, true, true, true, true, true, true, true, true, true, true, true, true, true, true, true, true, true, true, false, false] rfl rfl (any_of HT_.out (by kernel_rfl)) (fun _ _ _ h => h) (Or.inl ⟨by rfl, ?_⟩) ?_ ?_
                                rotate_left
                                · intro w'
                                  go_simp
                                  with_reducible rfl
                                rotate_left
                                · simp only [Act.put, List.setIfInBounds_toArray, List.set_cons_zero, List.set_cons_succ, i64_w, i32_w]
                                  rfl
                                refine one_ (i := 6) (N := some 71) #[true, true, true, true, true, true, true, false, true, true, true, true, true, true, true, true, true, true, true, true, true, true, true, true, true, true, true, false, false] rfl rfl (one_of HT_.out (by kernel_rfl)) (by decide) (fun K hK => ?_)
                                refine goes_ Try.func50 (by kernel_rfl) rfl #[.int .u32 (rd x7_1 0), .int .u64 22] (by rfl) rfl rfl (by (try simp only [List.map_toArray, List.map_cons, List.map_nil]); first | done | rfl | (simp only [List.length_drop, List.length_take]; rfl)) ?_
                                with_reducible refine (heliastref04_turn.calls (rd x7_1 0) 22 t152 _ A23.out).mono ?_
                                rintro e w' ⟨rfl, ⟨nd, rfl⟩⟩
                                refine ⟨_, rfl, ?_⟩
                                refine hK.out _ _ ⟨hHeld.1, hHeld.2.1, hHeld.2.2.1, hHeld.2.2.2⟩ (fun hHeld => ?_)
                                clear hK K
                                refine norm_ (a' := ?_) ?_ ?_
                                rotate_left
                                · show Act.put _ (some 71) _ = _
                                  simp only [Act.put, List.setIfInBounds_toArray, List.set_cons_zero, List.set_cons_succ, i64_w, i32_w]
                                  rfl
                                refine pure_ (i := 7) (N := some 72) (v := ?_) (a' := ?_) #[true, true, true, true, true, true, true, true, true, true, true, true, true, true, true, true, true, true, true, true, true, true, true, true, true, true, true, false, false] rfl rfl (any_of HT_.out (by kernel_rfl)) (fun _ _ _ h => h) (Or.inl ⟨by rfl, ?_⟩) ?_ ?_
                                rotate_left
                                · intro w'
                                  go_simp
                                  with_reducible rfl
                                rotate_left
                                · simp only [Act.put, List.setIfInBounds_toArray, List.set_cons_zero, List.set_cons_succ, i64_w, i32_w]
                                  rfl
                                refine pure_ (i := 27) (N := some 92) (v := ?_) (a' := ?_) #[true, true, true, true, true, true, true, true, true, true, true, true, true, true, true, true, true, true, true, true, true, true, true, true, true, true, true, true, false] rfl rfl (any_of HT_.out (by kernel_rfl)) (fun _ _ _ h => h) (Or.inl ⟨by rfl, ?_⟩) ?_ ?_
                                rotate_left
                                · intro w'
                                  go_simp
                                  with_reducible rfl
                                rotate_left
                                · simp only [Act.put, List.setIfInBounds_toArray, List.set_cons_zero, List.set_cons_succ, i64_w, i32_w]
                                  rfl
                                refine pure_ (i := 28) (N := some 12) (v := ?_) (a' := ?_) #[true, true, true, true, true, true, true, true, true, true, true, true, true, true, true, true, true, true, true, true, true, true, true, true, true, true, true, true, true] rfl rfl (any_of HT_.out (by kernel_rfl)) (fun _ _ _ h => h) (Or.inl ⟨by rfl, ?_⟩) ?_ ?_
                                rotate_left
                                · intro w'
                                  go_simp
                                  with_reducible rfl
                                rotate_left
                                · simp only [Act.put, List.setIfInBounds_toArray, List.set_cons_zero, List.set_cons_succ, i64_w, i32_w]
                                  rfl
                                refine done_ (done_of HT_.out (by kernel_rfl)) ?_
                                try go_wp2
                                (try (rw [drewN_self w31]; generalize hq_ : World.drewN w31 _ = w31; have n0_ : Aside0 (Kd.R (Kd.int .u32) 55 w31 w.heap.size (fun k_ => some k_ ≠ (.slice (some ad148) t134.length co29 : Value).ownBlock ∧ some k_ ≠ (.slice (some ad140) x7_1.length co27 : Value).ownBlock) (.slice (some ad149) t131.length co30) t131) := ⟨by rw [← hq_]; exact (by (with_reducible repeat (first | apply Kd.R_alloc | apply Kd.R_drewN | apply Kd.R_drew)); exact HO_5.out)⟩; have n1_ : Aside0 (Kd.R (Kd.int .u32) 55 w31 w.heap.size (fun k_ => some k_ ≠ (.slice (some ad149) t131.length co30 : Value).ownBlock ∧ some k_ ≠ (.slice (some ad140) x7_1.length co27 : Value).ownBlock) (.slice (some ad148) t134.length co29) t134) := ⟨by rw [← hq_]; exact (by (with_reducible repeat (first | apply Kd.R_alloc | apply Kd.R_drewN | apply Kd.R_drew)); exact HO_6.out)⟩; have n2_ : Aside0 (Kd.R (Kd.int .u32) 55 w31 w.heap.size (fun k_ => some k_ ≠ (.slice (some ad149) t131.length co30 : Value).ownBlock ∧ some k_ ≠ (.slice (some ad148) t134.length co29 : Value).ownBlock) (.slice (some ad140) x7_1.length co27) x7_1) := ⟨by rw [← hq_]; exact (by (with_reducible repeat (first | apply Kd.R_alloc | apply Kd.R_drewN | apply Kd.R_drew)); exact HO_7.out)⟩; have n3_ : Aside0 (Below w.heap.size w w31) := ⟨by rw [← hq_]; exact (by repeat (first | (with_reducible first | exact HB.out | apply below_alloc | apply pw_below_drewN | apply below_drew1) | exact HB.out))⟩; clear HO_5 HO_6 HO_7 HB hq_; have HO_5 := n0_; have HO_6 := n1_; have HO_7 := n2_; have HB := n3_; clear n0_ n1_ n2_ n3_))
                                have n0_ := Aside0.mk (Kd.R_drew HO_5.out)
                                have n1_ := Aside0.mk (Kd.R_drew HO_6.out)
                                have n2_ := Aside0.mk (Kd.R_drew HO_7.out)
                                have n3_ := Aside0.mk (below_drew1 HB.out)
                                clear HO_5
                                clear HO_6
                                clear HO_7
                                clear HB
                                have HO_5 := n0_
                                have HO_6 := n1_
                                have HO_7 := n2_
                                have HB := n3_
                                clear n0_ n1_ n2_ n3_
                                have p157 : 0 ≤ (1 : Int) := (by omega)
                                have q157 : 1 < (x7_1.length : Int) := of_decide_eq_true (by first | (with_reducible assumption) | assumption)
                                obtain ⟨ad157, e157, hx157_0⟩ := Kd.at_int (Kd.R_reads' HO_7.out).2.2 1 p157 q157
                                obtain rfl : ad140 = ad157 := (by injection e157)
                                (try simp only [show (1 : Int).toNat = 1 from rfl, Nat.reduceMul, Nat.reduceEqDiff, Go.Addr.add, ↓reduceIte] at hx157_0)
                                have qi157 : (1 < x7_1.length) = True := eq_true (by omega)
                                (try rw [show ((1 : Int)).toNat = 1 from rfl] at hx157_0)
                                replace p157 := eq_true p157
                                replace q157 := eq_true q157
                                have p158 : 0 ≤ (2 : Int) := (by omega)
                                have q158 : 2 < (x7_1.length : Int) := of_decide_eq_true (by first | (with_reducible assumption) | assumption)
                                obtain ⟨ad158, e158, hx158_0⟩ := Kd.at_int (Kd.R_reads' HO_7.out).2.2 2 p158 q158
                                obtain rfl : ad140 = ad158 := (by injection e158)
                                (try simp only [show (2 : Int).toNat = 2 from rfl, Nat.reduceMul, Nat.reduceEqDiff, Go.Addr.add, ↓reduceIte] at hx158_0)
                                have qi158 : (2 < x7_1.length) = True := eq_true (by omega)
                                (try rw [show ((2 : Int)).toNat = 2 from rfl] at hx158_0)
                                replace p158 := eq_true p158
                                replace q158 := eq_true q158
                                have p159 : 0 ≤ (3 : Int) := (by omega)
                                have q159 : 3 < (x7_1.length : Int) := of_decide_eq_true (by first | (with_reducible assumption) | assumption)
                                obtain ⟨ad159, e159, hx159_0⟩ := Kd.at_int (Kd.R_reads' HO_7.out).2.2 3 p159 q159
                                obtain rfl : ad140 = ad159 := (by injection e159)
                                (try simp only [show (3 : Int).toNat = 3 from rfl, Nat.reduceMul, Nat.reduceEqDiff, Go.Addr.add, ↓reduceIte] at hx159_0)
                                have qi159 : (3 < x7_1.length) = True := eq_true (by omega)
                                (try rw [show ((3 : Int)).toNat = 3 from rfl] at hx159_0)
                                replace p159 := eq_true p159
                                replace q159 := eq_true q159
                                have p160 : 0 ≤ (5 : Int) := (by omega)
                                have q160 : 5 < (x7_1.length : Int) := of_decide_eq_true (by first | (with_reducible assumption) | assumption)
                                obtain ⟨ad160, e160, hx160_0⟩ := Kd.at_int (Kd.R_reads' HO_7.out).2.2 5 p160 q160
                                obtain rfl : ad140 = ad160 := (by injection e160)
                                (try simp only [show (5 : Int).toNat = 5 from rfl, Nat.reduceMul, Nat.reduceEqDiff, Go.Addr.add, ↓reduceIte] at hx160_0)
                                have qi160 : (5 < x7_1.length) = True := eq_true (by omega)
                                (try rw [show ((5 : Int)).toNat = 5 from rfl] at hx160_0)
                                replace p160 := eq_true p160
                                replace q160 := eq_true q160
                                have p161 : 0 ≤ (6 : Int) := (by omega)
                                have q161 : 6 < (x7_1.length : Int) := of_decide_eq_true (by first | (with_reducible assumption) | assumption)
                                obtain ⟨ad161, e161, hx161_0⟩ := Kd.at_int (Kd.R_reads' HO_7.out).2.2 6 p161 q161
                                obtain rfl : ad140 = ad161 := (by injection e161)
                                (try simp only [show (6 : Int).toNat = 6 from rfl, Nat.reduceMul, Nat.reduceEqDiff, Go.Addr.add, ↓reduceIte] at hx161_0)
                                have qi161 : (6 < x7_1.length) = True := eq_true (by omega)
                                (try rw [show ((6 : Int)).toNat = 6 from rfl] at hx161_0)
                                replace p161 := eq_true p161
                                replace q161 := eq_true q161
                                refine start_ (n := 24) (S := fun w' => w'.cell? ⟨ad140.block, ad140.off + 1, none⟩ = some (.int .u32 (rd x7_1 1)) ∧ w'.cell? ⟨ad140.block, ad140.off + 2, none⟩ = some (.int .u32 (rd x7_1 2)) ∧ w'.cell? ⟨ad140.block, ad140.off + 3, none⟩ = some (.int .u32 (rd x7_1 3)) ∧ w'.cell? ⟨ad140.block, ad140.off + 5, none⟩ = some (.int .u32 (rd x7_1 5)) ∧ w'.cell? ⟨ad140.block, ad140.off + 6, none⟩ = some (.int .u32 (rd x7_1 6))) (ds := []) #[false, false, false, false, false, false, false, false, false, false, false, false, false, false, false, false, false, false, false, false, false, false, false, false] (by kernel_rfl) rfl rfl ⟨hx157_0, hx158_0, hx159_0, hx160_0, hx161_0⟩ (fun hHeld => ?_); refine with_tabW heliastref04_block.tab12 heliastref04_block.bits12 (fun HT_ HW_ => ?_)
                                generalize w31.drew = w32 at HO_5 HO_6 HO_7 HB hx157_0 hx158_0 hx159_0 hx160_0 hx161_0 hHeld ⊢
                                refine pure_ (i := 0) (N := some 93) (v := ?_) (a' := ?_) #[true, false, false, false, false, false, false, false, false, false, false, false, false, false, false, false, false, false, false, false, false, false, false, false] rfl rfl (any_of HT_.out (by kernel_rfl)) (fun _ _ _ h => h) (Or.inl ⟨by rfl, ?_⟩) ?_ ?_
                                rotate_left
                                · intro w'
                                  go_simp
                                  with_reducible rfl
                                rotate_left
                                · simp only [Act.put, List.setIfInBounds_toArray, List.set_cons_zero, List.set_cons_succ, i64_w, i32_w]
                                  rfl
                                refine pure_ (i := 1) (N := some 94) (v := ?_) (a' := ?_) #[true, true, false, false, false, false, false, false, false, false, false, false, false, false, false, false, false, false, false, false, false, false, false, false] rfl rfl (any_of HT_.out (by kernel_rfl)) (fun _ _ _ h => h) (Or.inl ⟨by rfl, ?_⟩) ?_ ?_
                                rotate_left
                                · intro w'
                                  go_simp
                                  with_reducible rfl
                                rotate_left
                                · simp only [Act.put, List.setIfInBounds_toArray, List.set_cons_zero, List.set_cons_succ, i64_w, i32_w]
                                  rfl
                                refine pure_ (i := 2) (N := some 95) (v := ?_) (a' := ?_) #[true, true, true, false, false, false, false, false, false, false, false, false, false, false, false, false, false, false, false, false, false, false, false, false] rfl rfl (any_of HT_.out (by kernel_rfl)) (fun _ _ _ h => h) (Or.inl ⟨by rfl, ?_⟩) ?_ ?_
                                rotate_left
                                · intro w'
                                  go_simp
                                  with_reducible rfl
                                rotate_left
                                · simp only [Act.put, List.setIfInBounds_toArray, List.set_cons_zero, List.set_cons_succ, i64_w, i32_w]
                                  rfl
                                refine pure_ (i := 3) (N := some 96) (v := ?_) (a' := ?_) #[true, true, true, true, false, false, false, false, false, false, false, false, false, false, false, false, false, false, false, false, false, false, false, false] rfl rfl (any_of HT_.out (by kernel_rfl)) (fun _ _ _ h => h) (Or.inl ⟨by rfl, ?_⟩) ?_ ?_
                                rotate_left
                                · intro w'
                                  go_simp
                                  with_reducible rfl
                                rotate_left
                                · simp only [Act.put, List.setIfInBounds_toArray, List.set_cons_zero, List.set_cons_succ, i64_w, i32_w]
                                  rfl
                                refine pure_ (i := 4) (N := some 97) (v := ?_) (a' := ?_) #[true, true, true, true, true, false, false, false, false, false, false, false, false, false, false, false, false, false, false, false, false, false, false, false] rfl rfl (any_of HT_.out (by kernel_rfl)) (fun _ _ _ h => h) (Or.inl ⟨by rfl, ?_⟩) ?_ ?_
                                rotate_left
                                · intro w'
                                  go_simp
                                  with_reducible rfl
                                rotate_left
                                · simp only [Act.put, List.setIfInBounds_toArray, List.set_cons_zero, List.set_cons_succ, i64_w, i32_w]
                                  rfl
                                refine pure_ (i := 5) (N := some 98) (v := ?_) (a' := ?_) #[true, true, true, true, true, true, false, false, false, false, false, false, false, false, false, false, false, false, false, false, false, false, false, false] rfl rfl (any_of HT_.out (by kernel_rfl)) (fun _ _ _ h => h) (Or.inl ⟨by rfl, ?_⟩) ?_ ?_
                                rotate_left
                                · intro w'
                                  go_simp
                                  with_reducible rfl
                                rotate_left
                                · simp only [Act.put, List.setIfInBounds_toArray, List.set_cons_zero, List.set_cons_succ, i64_w, i32_w]
                                  rfl
                                refine pure_ (i := 7) (N := some 100) (v := ?_) (a' := ?_) #[true, true, true, true, true, true, false, true, false, false, false, false, false, false, false, false, false, false, false, false, false, false, false, false] rfl rfl (any_of HT_.out (by kernel_rfl)) (fun _ _ _ h => h) (Or.inl ⟨by rfl, ?_⟩) ?_ ?_
                                rotate_left
                                · intro w'
                                  go_simp
                                  with_reducible rfl
                                rotate_left
                                · simp only [Act.put, List.setIfInBounds_toArray, List.set_cons_zero, List.set_cons_succ, i64_w, i32_w]
                                  rfl
                                refine pure_ (i := 8) (N := some 101) (v := ?_) (a' := ?_) #[true, true, true, true, true, true, false, true, true, false, false, false, false, false, false, false, false, false, false, false, false, false, false, false] rfl rfl (any_of HT_.out (by kernel_rfl)) (fun _ _ _ h => h) (Or.inl ⟨by rfl, ?_⟩) ?_ ?_
                                rotate_left
                                · intro w'
                                  go_simp
                                  with_reducible rfl
                                rotate_left
                                · simp only [Act.put, List.setIfInBounds_toArray, List.set_cons_zero, List.set_cons_succ, i64_w, i32_w]
                                  rfl
                                refine pure_ (i := 10) (N := some 103) (v := ?_) (a' := ?_) #[true, true, true, true, true, true, false, true, true, false, true, false, false, false, false, false, false, false, false, false, false, false, false, false] rfl rfl (any_of HT_.out (by kernel_rfl)) (fun _ _ _ h => h) (Or.inl ⟨by rfl, ?_⟩) ?_ ?_
                                rotate_left
                                · intro w'
                                  go_simp
                                  with_reducible rfl
                                rotate_left
                                · simp only [Act.put, List.setIfInBounds_toArray, List.set_cons_zero, List.set_cons_succ, i64_w, i32_w]
                                  rfl
                                refine pure_ (i := 11) (N := some 104) (v := ?_) (a' := ?_) #[true, true, true, true, true, true, false, true, true, false, true, true, false, false, false, false, false, false, false, false, false, false, false, false] rfl rfl (any_of HT_.out (by kernel_rfl)) (fun _ _ _ h => h) (Or.inl ⟨by rfl, ?_⟩) ?_ ?_
                                rotate_left
                                · intro w'
                                  go_simp
                                  with_reducible rfl
                                rotate_left
                                · simp only [Act.put, List.setIfInBounds_toArray, List.set_cons_zero, List.set_cons_succ, i64_w, i32_w]
                                  rfl
                                refine pure_ (i := 13) (N := some 106) (v := ?_) (a' := ?_) #[true, true, true, true, true, true, false, true, true, false, true, true, false, true, false, false, false, false, false, false, false, false, false, false] rfl rfl (any_of HT_.out (by kernel_rfl)) (fun _ _ _ h => h) (Or.inl ⟨by rfl, ?_⟩) ?_ ?_
                                rotate_left
                                · intro w'
                                  go_simp
                                  with_reducible rfl
                                rotate_left
                                · simp only [Act.put, List.setIfInBounds_toArray, List.set_cons_zero, List.set_cons_succ, i64_w, i32_w]
                                  rfl
                                refine pure_ (i := 15) (N := some 108) (v := ?_) (a' := ?_) #[true, true, true, true, true, true, false, true, true, false, true, true, false, true, false, true, false, false, false, false, false, false, false, false] rfl rfl (any_of HT_.out (by kernel_rfl)) (fun _ _ _ h => h) (Or.inl ⟨by rfl, ?_⟩) ?_ ?_
                                rotate_left
                                · intro w'
                                  go_simp
                                  with_reducible rfl
                                rotate_left
                                · simp only [Act.put, List.setIfInBounds_toArray, List.set_cons_zero, List.set_cons_succ, i64_w, i32_w]
                                  rfl
                                refine pure_ (i := 16) (N := some 109) (v := ?_) (a' := ?_) #[true, true, true, true, true, true, false, true, true, false, true, true, false, true, false, true, true, false, false, false, false, false, false, false] rfl rfl (any_of HT_.out (by kernel_rfl)) (fun _ _ _ h => h) (Or.inl ⟨by rfl, ?_⟩) ?_ ?_
                                rotate_left
                                · intro w'
                                  go_simp
                                  with_reducible rfl
                                rotate_left
                                · simp only [Act.put, List.setIfInBounds_toArray, List.set_cons_zero, List.set_cons_succ, i64_w, i32_w]
                                  rfl
                                refine pure_ (i := 17) (N := some 110) (v := ?_) (a' := ?_) #[true, true, true, true, true, true, false, true, true, false, true, true, false, true, false, true, true, true, false, false, false, false, false, false] rfl rfl (any_of HT_.out (by kernel_rfl)) (fun _ _ _ h => h) (Or.inl ⟨by rfl, ?_⟩) ?_ ?_
                                rotate_left
                                · intro w'
                                  go_simp
                                  with_reducible rfl
                                rotate_left
                                · simp only [Act.put, List.setIfInBounds_toArray, List.set_cons_zero, List.set_cons_succ, i64_w, i32_w]
                                  rfl
                                refine pure_ (i := 19) (N := some 112) (v := ?_) (a' := ?_) #[true, true, true, true, true, true, false, true, true, false, true, true, false, true, false, true, true, true, false, true, false, false, false, false] rfl rfl (any_of HT_.out (by kernel_rfl)) (fun _ _ _ h => h) (Or.inl ⟨by rfl, ?_⟩) ?_ ?_
                                rotate_left
                                · intro w'
                                  go_simp
                                  with_reducible rfl
                                rotate_left
                                · simp only [Act.put, List.setIfInBounds_toArray, List.set_cons_zero, List.set_cons_succ, i64_w, i32_w]
                                  rfl
                                refine pure_ (i := 20) (N := some 113) (v := ?_) (a' := ?_) #[true, true, true, true, true, true, false, true, true, false, true, true, false, true, false, true, true, true, false, true, true, false, false, false] rfl rfl (any_of HT_.out (by kernel_rfl)) (fun _ _ _ h => h) (Or.inl ⟨by rfl, ?_⟩) ?_ ?_
                                rotate_left
                                · intro w'
                                  go_simp
                                  with_reducible rfl
                                rotate_left
                                · simp only [Act.put, List.setIfInBounds_toArray, List.set_cons_zero, List.set_cons_succ, i64_w, i32_w]
                                  rfl
                                refine take_ (i := 6) (N := some 99) (v := ?_) (a' := ?_) #[true, true, true, true, true, true, true, true, true, false, true, true, false, true, false, true, true, true, false, true, true, false, false, false] rfl rfl (take_ofW HT_.out HW_.out (by kernel_rfl)) (fun _ _ _ h => h) (Or.inl ⟨by rfl, ?_⟩) hHeld ?_ ?_
                                rotate_left
                                · rintro w' ⟨s0, s1, s2, s3, s4⟩
                                  go_simp
                                  with_reducible rfl
                                rotate_left
                                · simp only [Act.put, List.setIfInBounds_toArray, List.set_cons_zero, List.set_cons_succ, i64_w, i32_w]
                                  rfl
                                refine take_ (i := 9) (N := some 102) (v := ?_) (a' := ?_) #[true, true, true, true, true, true, true, true, true, true, true, true, false, true, false, true, true, true, false, true, true, false, false, false] rfl rfl (take_ofW HT_.out HW_.out (by kernel_rfl)) (fun _ _ _ h => h) (Or.inl ⟨by rfl, ?_⟩) hHeld ?_ ?_
                                rotate_left
                                · rintro w' ⟨s0, s1, s2, s3, s4⟩
                                  go_simp
                                  with_reducible rfl
                                rotate_left
                                · simp only [Act.put, List.setIfInBounds_toArray, List.set_cons_zero, List.set_cons_succ, i64_w, i32_w]
                                  rfl
                                refine take_ (i := 12) (N := some 105) (v := ?_) (a' := ?_) #[true, true, true, true, true, true, true, true, true, true, true, true, true, true, false, true, true, true, false, true, true, false, false, false] rfl rfl (take_ofW HT_.out HW_.out (by kernel_rfl)) (fun _ _ _ h => h) (Or.inl ⟨by rfl, ?_⟩) hHeld ?_ ?_
                                rotate_left
                                · rintro w' ⟨s0, s1, s2, s3, s4⟩
                                  go_simp
                                  with_reducible rfl
                                rotate_left
                                · simp only [Act.put, List.setIfInBounds_toArray, List.set_cons_zero, List.set_cons_succ, i64_w, i32_w]
                                  rfl
                                refine pure_ (i := 14) (N := some 107) (v := ?_) (a' := ?_) #[true, true, true, true, true, true, true, true, true, true, true, true, true, true, true, true, true, true, false, true, true, false, false, false] rfl rfl (any_of HT_.out (by kernel_rfl)) (fun _ _ _ h => h) (Or.inl ⟨by rfl, ?_⟩) ?_ ?_
                                rotate_left
                                · intro w'
                                  go_simp
                                  with_reducible rfl
                                rotate_left
                                · simp only [Act.put, List.setIfInBounds_toArray, List.set_cons_zero, List.set_cons_succ, i64_w, i32_w]
                                  rfl
                                refine take_ (i := 18) (N := some 111) (v := ?_) (a' := ?_) #[true, true, true, true, true, true, true, true, true, true, true, true, true, true, true, true, true, true, true, true, true, false, false, false] rfl rfl (take_ofW HT_.out HW_.out (by kernel_rfl)) (fun _ _ _ h => h) (Or.inl ⟨by rfl, ?_⟩) hHeld ?_ ?_
                                rotate_left
                                · rintro w' ⟨s0, s1, s2, s3, s4⟩
                                  go_simp
                                  with_reducible rfl
                                rotate_left
                                · simp only [Act.put, List.setIfInBounds_toArray, List.set_cons_zero, List.set_cons_succ, i64_w, i32_w]
                                  rfl
                                refine take_ (i := 21) (N := some 114) (v := ?_) (a' := ?_) #[true, true, true, true, true, true, true, true, true, true, true, true, true, true, true, true, true, true, true, true, true, true, false, false] rfl rfl (take_ofW HT_.out HW_.out (by kernel_rfl)) (fun _ _ _ h => h) (Or.inl ⟨by rfl, ?_⟩) hHeld ?_ ?_
                                rotate_left
                                · rintro w' ⟨s0, s1, s2, s3, s4⟩
                                  go_simp
                                  with_reducible rfl
                                rotate_left
                                · simp only [Act.put, List.setIfInBounds_toArray, List.set_cons_zero, List.set_cons_succ, i64_w, i32_w]
                                  rfl
                                refine one_ (i := 22) (N := some 115) #[true, true, true, true, true, true, true, true, true, true, true, true, true, true, true, true, true, true, true, true, true, true, true, false] rfl rfl (one_of HT_.out (by kernel_rfl)) (by decide) (fun K hK => ?_)
                                refine Kd.R_lit_step (Kd.int .u32) _ 55 ?hg (N := 115) ?hd (xs := ([((((((((((rd x7_1 7) + (Go.bits .xor .u32 (Go.bits .xor .u32 t143 t144) t145)) % 4294967296) + (Go.bits .xor .u32 (Go.bits .and .u32 (rd x7_1 4) (rd x7_1 5)) (Go.bits .and .u32 (Go.bits .xor .u32 4294967295 (rd x7_1 4)) (rd x7_1 6)))) % 4294967296) + (rd t134 x8_1)) % 4294967296) + (rd t131 x8_1)) % 4294967296) + (((Go.bits .xor .u32 (Go.bits .xor .u32 t150 t151) t152) + (Go.bits .xor .u32 (Go.bits .xor .u32 (Go.bits .and .u32 (rd x7_1 0) (rd x7_1 1)) (Go.bits .and .u32 (rd x7_1 0) (rd x7_1 2))) (Go.bits .and .u32 (rd x7_1 1) (rd x7_1 2)))) % 4294967296)) % 4294967296, rd x7_1 0, rd x7_1 1, rd x7_1 2, ((rd x7_1 3) + (((((((((rd x7_1 7) + (Go.bits .xor .u32 (Go.bits .xor .u32 t143 t144) t145)) % 4294967296) + (Go.bits .xor .u32 (Go.bits .and .u32 (rd x7_1 4) (rd x7_1 5)) (Go.bits .and .u32 (Go.bits .xor .u32 4294967295 (rd x7_1 4)) (rd x7_1 6)))) % 4294967296) + (rd t134 x8_1)) % 4294967296) + (rd t131 x8_1)) % 4294967296)) % 4294967296, rd x7_1 4, rd x7_1 5, rd x7_1 6] : List Int)) (inner := [.int .u32 (((((((((((rd x7_1 7) + (Go.bits .xor .u32 (Go.bits .xor .u32 t143 t144) t145)) % 4294967296) + (Go.bits .xor .u32 (Go.bits .and .u32 (rd x7_1 4) (rd x7_1 5)) (Go.bits .and .u32 (Go.bits .xor .u32 4294967295 (rd x7_1 4)) (rd x7_1 6)))) % 4294967296) + (rd t134 x8_1)) % 4294967296) + (rd t131 x8_1)) % 4294967296) + (((Go.bits .xor .u32 (Go.bits .xor .u32 t150 t151) t152) + (Go.bits .xor .u32 (Go.bits .xor .u32 (Go.bits .and .u32 (rd x7_1 0) (rd x7_1 1)) (Go.bits .and .u32 (rd x7_1 0) (rd x7_1 2))) (Go.bits .and .u32 (rd x7_1 1) (rd x7_1 2)))) % 4294967296)) % 4294967296), .int .u32 (rd x7_1 0), .int .u32 (rd x7_1 1), .int .u32 (rd x7_1 2), .int .u32 (((rd x7_1 3) + (((((((((rd x7_1 7) + (Go.bits .xor .u32 (Go.bits .xor .u32 t143 t144) t145)) % 4294967296) + (Go.bits .xor .u32 (Go.bits .and .u32 (rd x7_1 4) (rd x7_1 5)) (Go.bits .and .u32 (Go.bits .xor .u32 4294967295 (rd x7_1 4)) (rd x7_1 6)))) % 4294967296) + (rd t134 x8_1)) % 4294967296) + (rd t131 x8_1)) % 4294967296)) % 4294967296), .int .u32 (rd x7_1 4), .int .u32 (rd x7_1 5), .int .u32 (rd x7_1 6)]) (ok := fun _ => True) (okp := fun _ => True) ?hr ?hp (fun _ hk => hk) trivial (Below.refl _ _) (Nat.le_refl _) (by simp) ?_; (case hd => rfl); (case hg => rfl); (case hr => first | (go_simp; done) | (go_simp; rfl)); (case hp => exact (Reps.one (show Kd.M (Kd.int .u32) _ _ _ (((((((((((rd x7_1 7) + (Go.bits .xor .u32 (Go.bits .xor .u32 t143 t144) t145)) % 4294967296) + (Go.bits .xor .u32 (Go.bits .and .u32 (rd x7_1 4) (rd x7_1 5)) (Go.bits .and .u32 (Go.bits .xor .u32 4294967295 (rd x7_1 4)) (rd x7_1 6)))) % 4294967296) + (rd t134 x8_1)) % 4294967296) + (rd t131 x8_1)) % 4294967296) + (((Go.bits .xor .u32 (Go.bits .xor .u32 t150 t151) t152) + (Go.bits .xor .u32 (Go.bits .xor .u32 (Go.bits .and .u32 (rd x7_1 0) (rd x7_1 1)) (Go.bits .and .u32 (rd x7_1 0) (rd x7_1 2))) (Go.bits .and .u32 (rd x7_1 1) (rd x7_1 2)))) % 4294967296)) % 4294967296) [.int .u32 (((((((((((rd x7_1 7) + (Go.bits .xor .u32 (Go.bits .xor .u32 t143 t144) t145)) % 4294967296) + (Go.bits .xor .u32 (Go.bits .and .u32 (rd x7_1 4) (rd x7_1 5)) (Go.bits .and .u32 (Go.bits .xor .u32 4294967295 (rd x7_1 4)) (rd x7_1 6)))) % 4294967296) + (rd t134 x8_1)) % 4294967296) + (rd t131 x8_1)) % 4294967296) + (((Go.bits .xor .u32 (Go.bits .xor .u32 t150 t151) t152) + (Go.bits .xor .u32 (Go.bits .xor .u32 (Go.bits .and .u32 (rd x7_1 0) (rd x7_1 1)) (Go.bits .and .u32 (rd x7_1 0) (rd x7_1 2))) (Go.bits .and .u32 (rd x7_1 1) (rd x7_1 2)))) % 4294967296)) % 4294967296)] from rfl) (Reps.one (show Kd.M (Kd.int .u32) _ _ _ (rd x7_1 0) [.int .u32 (rd x7_1 0)] from rfl) (Reps.one (show Kd.M (Kd.int .u32) _ _ _ (rd x7_1 1) [.int .u32 (rd x7_1 1)] from rfl) (Reps.one (show Kd.M (Kd.int .u32) _ _ _ (rd x7_1 2) [.int .u32 (rd x7_1 2)] from rfl) (Reps.one (show Kd.M (Kd.int .u32) _ _ _ (((rd x7_1 3) + (((((((((rd x7_1 7) + (Go.bits .xor .u32 (Go.bits .xor .u32 t143 t144) t145)) % 4294967296) + (Go.bits .xor .u32 (Go.bits .and .u32 (rd x7_1 4) (rd x7_1 5)) (Go.bits .and .u32 (Go.bits .xor .u32 4294967295 (rd x7_1 4)) (rd x7_1 6)))) % 4294967296) + (rd t134 x8_1)) % 4294967296) + (rd t131 x8_1)) % 4294967296)) % 4294967296) [.int .u32 (((rd x7_1 3) + (((((((((rd x7_1 7) + (Go.bits .xor .u32 (Go.bits .xor .u32 t143 t144) t145)) % 4294967296) + (Go.bits .xor .u32 (Go.bits .and .u32 (rd x7_1 4) (rd x7_1 5)) (Go.bits .and .u32 (Go.bits .xor .u32 4294967295 (rd x7_1 4)) (rd x7_1 6)))) % 4294967296) + (rd t134 x8_1)) % 4294967296) + (rd t131 x8_1)) % 4294967296)) % 4294967296)] from rfl) (Reps.one (show Kd.M (Kd.int .u32) _ _ _ (rd x7_1 4) [.int .u32 (rd x7_1 4)] from rfl) (Reps.one (show Kd.M (Kd.int .u32) _ _ _ (rd x7_1 5) [.int .u32 (rd x7_1 5)] from rfl) (Reps.one (show Kd.M (Kd.int .u32) _ _ _ (rd x7_1 6) [.int .u32 (rd x7_1 6)] from rfl) (Reps.none _ _))))))))))
                                intro v163 w33 ho34 hb hg_ hnew_
                                have HS0_ := (hb.cell (World.block_lt_of_cell? _ _ (hHeld.1))).trans (hHeld.1)
                                have HS1_ := (hb.cell (World.block_lt_of_cell? _ _ (hHeld.2.1))).trans (hHeld.2.1)
                                have HS2_ := (hb.cell (World.block_lt_of_cell? _ _ (hHeld.2.2.1))).trans (hHeld.2.2.1)
                                have HS3_ := (hb.cell (World.block_lt_of_cell? _ _ (hHeld.2.2.2.1))).trans (hHeld.2.2.2.1)
                                have HS4_ := (hb.cell (World.block_lt_of_cell? _ _ (hHeld.2.2.2.2))).trans (hHeld.2.2.2.2)
                                clear hg_ hnew_
                                (first | rw [← Ny162.out] at ho34 | (simp only [Int.reduceToNat] at ho34; rw [← Ny162.out] at ho34))
                                have n0_ := Aside0.mk (Kd.R_elder' (by (with_reducible repeat (first | apply Kd.R_alloc | apply Kd.R_drewN | apply Kd.R_drew)); exact HO_5.out) (Kd.R_base ho34) hb)
                                have n1_ := Aside0.mk (Kd.R_elder' (by (with_reducible repeat (first | apply Kd.R_alloc | apply Kd.R_drewN | apply Kd.R_drew)); exact HO_6.out) (Kd.R_base ho34) hb)
                                have n2_ := Aside0.mk (Kd.R_elder' (by (with_reducible repeat (first | apply Kd.R_alloc | apply Kd.R_drewN | apply Kd.R_drew)); exact HO_7.out) (Kd.R_base ho34) hb)
                                have n3_ := Aside0.mk (Kd.R_lower (Kd.R_new' (Kd.R_new' (Kd.R_new' ho34 (Kd.R_lt (by (with_reducible repeat (first | apply Kd.R_alloc | apply Kd.R_drewN | apply Kd.R_drew)); exact HO_5.out))) (Kd.R_lt (by (with_reducible repeat (first | apply Kd.R_alloc | apply Kd.R_drewN | apply Kd.R_drew)); exact HO_6.out))) (Kd.R_lt (by (with_reducible repeat (first | apply Kd.R_alloc | apply Kd.R_drewN | apply Kd.R_drew)); exact HO_7.out))) (below_size (by repeat (first | (with_reducible first | exact HB.out | apply below_alloc | apply pw_below_drewN | apply below_drew1) | exact HB.out))))
                                have n4_ := Aside0.mk (below_step (by repeat (first | (with_reducible first | exact HB.out | apply below_alloc | apply pw_below_drewN | apply below_drew1) | exact HB.out)) hb)
                                clear HO_5
                                clear HO_6
                                clear HO_7
                                clear HB
                                have HO_5 := n0_
                                have HO_6 := n1_
                                have HO_7 := n2_
                                have HO164 := n3_
                                have HB := n4_
                                clear n0_ n1_ n2_ n3_ n4_
                                clear hb ho34
                                refine hK.out _ _ ⟨HS0_, HS1_, HS2_, HS3_, HS4_⟩ (fun hHeld => ?_)
                                clear hK K
                                refine norm_ (a' := ?_) ?_ ?_
                                rotate_left
                                · show Act.put _ (some 115) _ = _
                                  simp only [Act.put, List.setIfInBounds_toArray, List.set_cons_zero, List.set_cons_succ, i64_w, i32_w]
                                  rfl
                                refine pure_ (i := 23) (N := some 7) (v := ?_) (a' := ?_) #[true, true, true, true, true, true, true, true, true, true, true, true, true, true, true, true, true, true, true, true, true, true, true, true] rfl rfl (any_of HT_.out (by kernel_rfl)) (fun _ _ _ h => h) (Or.inl ⟨by rfl, ?_⟩) ?_ ?_
                                rotate_left
                                · intro w'
                                  go_simp
                                  with_reducible rfl
                                rotate_left
                                · simp only [Act.put, List.setIfInBounds_toArray, List.set_cons_zero, List.set_cons_succ, i64_w, i32_w]
                                  rfl
                                refine done_ (done_of HT_.out (by kernel_rfl)) ?_
                                try go_wp2
                                go_roundg k1
                                case measure => have := HK1.out; omega
                                case rel => exact ⟨(y162), (wrap64 (x8_1 + 1)), (by first | rfl | (simp; done) | (simp [*]; done)), H', ⟨by have := HK1.out; omega⟩, ⟨by (with_reducible repeat (first | apply Kd.R_alloc | apply Kd.R_drewN | apply Kd.R_drew)); exact Kd.R_mono HO_5.out (fun _ hk => ⟨hk.1.1, hk.2⟩)⟩, ⟨by (with_reducible repeat (first | apply Kd.R_alloc | apply Kd.R_drewN | apply Kd.R_drew)); exact Kd.R_mono HO_6.out (fun _ hk => ⟨hk.1.1, hk.2⟩)⟩, ⟨by (with_reducible repeat (first | apply Kd.R_alloc | apply Kd.R_drewN | apply Kd.R_drew)); exact Kd.R_mono HO164.out (fun _ hk => ⟨hk.1.1.2, hk.1.2⟩)⟩, ⟨by repeat (first | (with_reducible first | exact HB.out | apply below_alloc | apply pw_below_drewN | apply below_drew1) | exact HB.out)⟩⟩
                              · rw [if_neg c26] at H
                                exact absurd H (by simp)
                            · rw [if_neg c25] at H
                              exact absurd H (by simp)
                          · rw [if_neg c24] at H
                            exact absurd H (by simp)
                        · rw [if_neg c20] at H
                          exact absurd H (by simp)
                      · rw [if_neg c19] at H
                        exact absurd H (by simp)
                    · rw [if_neg c18] at H
                      exact absurd H (by simp)
                  · rw [if_neg c17] at H
                    exact absurd H (by simp)
                · rw [if_neg c16] at H
                  exact absurd H (by simp)
              · rw [if_neg c12] at H
                exact absurd H (by simp)
            · rw [if_neg c11] at H
              exact absurd H (by simp)
          · rw [if_neg c10] at H
            exact absurd H (by simp)
        · rw [if_neg c9] at H
          have c9b0 : decide (x8_1 < 64) = false := decide_eq_false c9
          clear c9
          have H' := Aside0.mk H
          clear H
          go_wp2
          go_loopg [13] k1 (fun kq v13 w' => ∃ (x7_2 : List Int) (x13_2 : Int), v13 = .int .i64 x13_2 ∧ Aside0 (heliastref04_block.l1 kq l0 x7_2 x13_2 = some r) ∧ Aside0 (kq ≤ k1) ∧ Aside0 (Kd.R (Kd.int .u32) 55 w' w.heap.size (fun _ => True) u7 x7_2) ∧ Aside0 (Below w.heap.size w w'))
          case atStart => exact ⟨(x7_1), (0), (by first | rfl | (simp; done) | (simp [*]; done)), H', ⟨Nat.le_refl _⟩, ⟨by (with_reducible repeat (first | apply Kd.R_alloc | apply Kd.R_drewN | apply Kd.R_drew)); exact Kd.R_mono HO_7.out (fun _ hk => trivial)⟩, ⟨by repeat (first | (with_reducible first | exact HB.out | apply below_alloc | apply pw_below_drewN | apply below_drew1) | exact HB.out)⟩⟩
          case round =>
            clear H'
            try clear c1
            try clear p1
            try clear q1
            try clear hx1
            try clear qi1
            try clear c2
            try clear p2
            try clear c5
            try clear p6
            try clear c9
            try clear c9b0
            try clear c10
            try clear c11
            try clear c12
            try clear p15
            try clear q15
            try clear hx15
            try clear qi15
            try clear c16
            try clear p16
            try clear q16
            try clear hx16
            try clear qi16
            try clear c17
            try clear c18
            try clear c19
            try clear c20
            try clear c24
            try clear c25
            try clear c26
            try clear hx153_0
            try clear hx154_0
            try clear hx155_0
            try clear hx156_0
            try clear hx157_0
            try clear hx158_0
            try clear hx159_0
            try clear hx160_0
            try clear hx161_0
            try clear p153
            try clear p154
            try clear p155
            try clear p156
            try clear p157
            try clear p158
            try clear p159
            try clear p160
            try clear p161
            try clear q153
            try clear q154
            try clear q155
            try clear q156
            try clear q157
            try clear q158
            try clear q159
            try clear q160
            try clear q161
            obtain ⟨x7_2, x13_2, rfl, HA, HK2, HO_7, HB⟩ := hrel
            cases gk with
            | zero => exact absurd HA.out (by simp [heliastref04_block.l1])
            | succ k2 =>
              have H := HA.out
              clear HA
              simp only [heliastref04_block.l1] at H
              by_cases c35 : x13_2 < 8
              · rw [if_pos c35] at H
                have c35b0 : decide (x13_2 < 8) = true := decide_eq_true c35
                clear c35
                by_cases c36 : 0 ≤ x13_2
                · rw [if_pos c36] at H
                  have c36b0 : decide (0 ≤ x13_2) = true := decide_eq_true c36
                  clear c36
                  by_cases c37 : x13_2 < (x7_2.length : Int)
                  · rw [if_pos c37] at H
                    have c37b0 : decide (x13_2 < (x7_2.length : Int)) = true := decide_eq_true c37
                    clear c37
                    by_cases c38 : x13_2 < (l0.length : Int)
                    · rw [if_pos c38] at H
                      have c38b0 : decide (x13_2 < (l0.length : Int)) = true := decide_eq_true c38
                      clear c38
                      obtain ⟨y167, hy167⟩ : ∃ y_ : List Int, y_ = (x7_2.set (x13_2 : Int).toNat (((rd x7_2 x13_2) + (rd l0 x13_2)) % 4294967296)) := ⟨_, rfl⟩
                      replace H : (heliastref04_block.l1 k2 l0 y167 (wrap64 (x13_2 + 1))) = some r := by first | (rw [hy167]; with_reducible exact H) | (have H2_ := (Option.bind_some _ _).symm.trans H; rw [hy167]; with_reducible exact H2_) | (have H2_ := (Option.bind_some _ _).symm.trans H; with_reducible exact H2_) | with_reducible exact H | (rw [hy167]; exact H) | exact H
                      have Ny167 := Aside0.mk hy167
                      clear hy167
                      have H' := Aside0.mk H
                      clear H
                      try go_wp2
                      have n0_ := Aside0.mk (Kd.R_drew HO_7.out)
                      have n1_ := Aside0.mk (below_drew1 HB.out)
                      clear HO_7
                      clear HB
                      have HO_7 := n0_
                      have HB := n1_
                      clear n0_ n1_
                      obtain ⟨Ao41, co41, eo41⟩ := Kd.R_slice HO_7.out
                      (first | subst eo41 | (injection eo41 with f1_ f2_ f3_; have f4_ := f1_.symm; have f5_ := f3_.symm; clear f1_ f2_ f3_; subst f4_; subst f5_))
                      have p165 : 0 ≤ (x13_2 : Int) := of_decide_eq_true (by first | (with_reducible assumption) | assumption)
                      have q165 : x13_2 < (x7_2.length : Int) := of_decide_eq_true (by first | (with_reducible assumption) | assumption)
                      obtain ⟨ad165, e165, hx165_0⟩ := Kd.at_int (Kd.R_reads' HO_7.out).2.2 x13_2 p165 q165
                      cases e165
                      replace p165 := eq_true p165
                      replace q165 := eq_true q165
                      have p166 : 0 ≤ (x13_2 : Int) := of_decide_eq_true (by first | (with_reducible assumption) | assumption)
                      have q166 : x13_2 < (l0.length : Int) := of_decide_eq_true (by first | (with_reducible assumption) | assumption)
                      obtain ⟨ad166, e166, hx166_0⟩ := Kd.at_int HR0.out x13_2 p166 q166
                      have hw166_0 := hx166_0
                      cases e166
                      replace hx166_0 := (HB.out.cell (World.block_lt_of_cell? w _ hx166_0)).trans hx166_0
                      replace p166 := eq_true p166
                      replace q166 := eq_true q166
                      have p39 : 0 ≤ (x13_2 : Int) := of_decide_eq_true (by first | (with_reducible assumption) | assumption)
                      have q39 : (x13_2 : Int) < ((x7_2.length : Int) : Int) := of_decide_eq_true (by first | (with_reducible assumption) | assumption)
                      obtain ⟨go39, co39, eo39, gb39, gl39, cl39, HG39⟩ := Kd.R_form HO_7.out (by omega)
                      (first | cases eo39 | (injection eo39 with ea_ en_ ec_; (first | subst ea_ | (injection ea_ with ea_; subst ea_)); subst ec_; clear en_))
                      have GB39 := Aside0.mk gb39
                      have GG39 := Aside0.mk HG39
                      clear gb39 gl39 HG39
                      (first | simp only [add_plain] at hx165_0 | skip)
                      obtain ⟨hx39_0, hf39_0⟩ := Kd.R_celln 0 HO_7.out (x13_2 : Int) p39 q39
                      replace p39 := eq_true p39
                      replace q39 := eq_true q39
                      have HP42 := Kd.R_putn HO_7.out (x13_2 : Int) (((rd x7_2 x13_2) + (rd l0 x13_2)) % 4294967296)
                      rw [← Ny167.out] at HP42
                      have HQ42 := Aside0.mk HP42
                      clear HP42
                      refine start_ (n := 11) (S := fun w' => w'.cell? ⟨go39, (x13_2).toNat, none⟩ = some (.int .u32 (rd x7_2 x13_2)) ∧ w'.cell? (ad166.add (x13_2).toNat) = some (.int .u32 (rd l0 x13_2))) (ds := [10]) #[false, false, false, false, false, false, false, false, false, false, false] (by kernel_rfl) rfl rfl ⟨hx165_0, ((HB.out.cell (World.block_lt_of_cell? w _ hw166_0)).trans hw166_0)⟩ (fun hHeld => ?_); refine with_tabW heliastref04_block.tab16 heliastref04_block.bits16 (fun HT_ HW_ => ?_)
                      generalize wr.drew = w40 at HO_7 HB GG39 HQ42 hf39_0 hx165_0 hx166_0 hx39_0 hHeld ⊢
                      refine pure_ (i := 0) (N := some 120) (v := ?_) (a' := ?_) #[true, false, false, false, false, false, false, false, false, false, false] rfl rfl (any_of HT_.out (by kernel_rfl)) (fun _ _ _ h => h) (Or.inl ⟨by rfl, ?_⟩) ?_ ?_
                      rotate_left
                      · intro w'
                        go_simp
                        with_reducible rfl
                      rotate_left
                      · simp only [Act.put, List.setIfInBounds_toArray, List.set_cons_zero, List.set_cons_succ, i64_w, i32_w]
                        rfl
                      refine pure_ (i := 1) (N := some 121) (v := ?_) (a' := ?_) #[true, true, false, false, false, false, false, false, false, false, false] rfl rfl (any_of HT_.out (by kernel_rfl)) (fun _ _ _ h => h) (Or.inl ⟨by rfl, ?_⟩) ?_ ?_
                      rotate_left
                      · intro w'
                        go_simp
                        with_reducible rfl
                      rotate_left
                      · simp only [Act.put, List.setIfInBounds_toArray, List.set_cons_zero, List.set_cons_succ, i64_w, i32_w]
                        rfl
                      refine pure_ (i := 2) (N := some 122) (v := ?_) (a' := ?_) #[true, true, true, false, false, false, false, false, false, false, false] rfl rfl (any_of HT_.out (by kernel_rfl)) (fun _ _ _ h => h) (Or.inl ⟨by rfl, ?_⟩) ?_ ?_
                      rotate_left
                      · intro w'
                        go_simp
                        with_reducible rfl
                      rotate_left
                      · simp only [Act.put, List.setIfInBounds_toArray, List.set_cons_zero, List.set_cons_succ, i64_w, i32_w]
                        rfl
                      refine pure_ (i := 4) (N := some 124) (v := ?_) (a' := ?_) #[true, true, true, false, true, false, false, false, false, false, false] rfl rfl (any_of HT_.out (by kernel_rfl)) (fun _ _ _ h => h) (Or.inl ⟨by rfl, ?_⟩) ?_ ?_
                      rotate_left
                      · intro w'
                        go_simp
                        with_reducible rfl
                      rotate_left
                      · simp only [Act.put, List.setIfInBounds_toArray, List.set_cons_zero, List.set_cons_succ, i64_w, i32_w]
                        rfl
                      refine pure_ (i := 5) (N := some 125) (v := ?_) (a' := ?_) #[true, true, true, false, true, true, false, false, false, false, false] rfl rfl (any_of HT_.out (by kernel_rfl)) (fun _ _ _ h => h) (Or.inl ⟨by rfl, ?_⟩) ?_ ?_
                      rotate_left
                      · intro w'
                        go_simp
                        with_reducible rfl
                      rotate_left
                      · simp only [Act.put, List.setIfInBounds_toArray, List.set_cons_zero, List.set_cons_succ, i64_w, i32_w]
                        rfl
                      refine pure_ (i := 6) (N := some 126) (v := ?_) (a' := ?_) #[true, true, true, false, true, true, true, false, false, false, false] rfl rfl (any_of HT_.out (by kernel_rfl)) (fun _ _ _ h => h) (Or.inl ⟨by rfl, ?_⟩) ?_ ?_
                      rotate_left
                      · intro w'
                        go_simp
                        with_reducible rfl
                      rotate_left
                      · simp only [Act.put, List.setIfInBounds_toArray, List.set_cons_zero, List.set_cons_succ, i64_w, i32_w]
                        rfl
                      refine take_ (i := 3) (N := some 123) (v := ?_) (a' := ?_) #[true, true, true, true, true, true, true, false, false, false, false] rfl rfl (take_ofW HT_.out HW_.out (by kernel_rfl)) (fun _ _ _ h => h) (Or.inl ⟨by rfl, ?_⟩) hHeld ?_ ?_
                      rotate_left
                      · rintro w' ⟨s0, s1⟩
                        go_simp
                        with_reducible rfl
                      rotate_left
                      · simp only [Act.put, List.setIfInBounds_toArray, List.set_cons_zero, List.set_cons_succ, i64_w, i32_w]
                        rfl
                      refine take_ (i := 7) (N := some 127) (v := ?_) (a' := ?_) #[true, true, true, true, true, true, true, true, false, false, false] rfl rfl (take_ofW HT_.out HW_.out (by kernel_rfl)) (fun _ _ _ h => h) (Or.inl ⟨by rfl, ?_⟩) hHeld ?_ ?_
                      rotate_left
                      · rintro w' ⟨s0, s1⟩
                        go_simp
                        with_reducible rfl
                      rotate_left
                      · simp only [Act.put, List.setIfInBounds_toArray, List.set_cons_zero, List.set_cons_succ, i64_w, i32_w]
                        rfl
                      refine pure_ (i := 8) (N := some 128) (v := ?_) (a' := ?_) #[true, true, true, true, true, true, true, true, true, false, false] rfl rfl (any_of HT_.out (by kernel_rfl)) (fun _ _ _ h => h) (Or.inl ⟨by rfl, ?_⟩) ?_ ?_
                      rotate_left
                      · intro w'
                        go_simp
                        with_reducible rfl
                      rotate_left
                      · simp only [Act.put, List.setIfInBounds_toArray, List.set_cons_zero, List.set_cons_succ, i64_w, i32_w]
                        rfl
                      refine pure_ (i := 9) (N := some 129) (v := ?_) (a' := ?_) #[true, true, true, true, true, true, true, true, true, true, false] rfl rfl (any_of HT_.out (by kernel_rfl)) (fun _ _ _ h => h) (Or.inl ⟨by rfl, ?_⟩) ?_ ?_
                      rotate_left
                      · intro w'
                        go_simp
                        with_reducible rfl
                      rotate_left
                      · simp only [Act.put, List.setIfInBounds_toArray, List.set_cons_zero, List.set_cons_succ, i64_w, i32_w]
                        rfl
                      refine last_ (i := 10) (N := none) #[true, true, true, true, true, true, true, true, true, true, true] rfl rfl (one_of HT_.out (by kernel_rfl)) (by decide) (fun K hK => ?_)
                      refine skip_ (w1 := ?_) (by rfl) rfl ?_ ?_
                      rotate_left
                      · go_simp
                        rfl
                      refine hK.out _ _ ?_
                      clear hK K
                      refine done_ (done_of HT_.out (by kernel_rfl)) ?_
                      try go_wp2
                      go_roundg k2
                      case measure => have := HK1.out; have := HK2.out; omega
                      case rel => exact ⟨(y167), (wrap64 (x13_2 + 1)), (by first | rfl | (simp; done) | (simp [*]; done)), H', ⟨by have := HK1.out; have := HK2.out; omega⟩, ⟨by (with_reducible repeat (first | apply Kd.R_alloc | apply Kd.R_drewN | apply Kd.R_drew)); exact HQ42.out⟩, ⟨by repeat (first | (with_reducible first | exact HB.out | apply below_alloc | apply pw_below_drewN | apply below_drew1 | refine below_set ?_ GB39.out) | exact HB.out)⟩⟩
                    · rw [if_neg c38] at H
                      exact absurd H (by simp)
                  · rw [if_neg c37] at H
                    exact absurd H (by simp)
                · rw [if_neg c36] at H
                  exact absurd H (by simp)
              · rw [if_neg c35] at H
                have c35b0 : decide (x13_2 < 8) = false := decide_eq_false c35
                clear c35
                obtain rfl := Option.some.inj H
                go_wp2
                go_ret
                exact ⟨_, by first | rfl | (simp [errW_none, errW_some] <;> rfl) | (simp [*, errW_none, errW_some] <;> rfl), by (with_reducible repeat (first | apply Kd.R_alloc | apply Kd.R_drewN | apply Kd.R_drew)); exact HO_7.out, by repeat (first | (with_reducible first | exact HB.out | apply below_alloc | apply pw_below_drewN | apply below_drew1) | exact HB.out)⟩
  · rw [if_neg c5] at H
    exact absurd H (by simp)

end Go.Proofs.Ytnhljemnebgekaa.Rf

/-
  What the functions of these laws compute, as plain Lean functions, and that the machine's calls compute it: written by this session's own hook over the kit's print.
-/
namespace Go.Proofs.Ytnhljemnebgekaa.Rf
open Go.RowKit Go.Proofs.YtnhljemnebgekaaW.PrintWords Go.Proofs.YtnhljemnebgekaaW.PrintLast Go.Proofs.YtnhljemnebgekaaW.PrintMore
attribute [local go_sem] u32_sg u32_mx u64_sg u64_mx
attribute [local go_sem] max2_int min2_int max_two min_two max_three min_three max_four min_four   -- for this text's walks alone
set_option linter.unusedVariables false
set_option linter.unusedSimpArgs false

/-! ### heliastref04_Sum: function 23 -/
mutual
def heliastref04_Sum.l0 : Nat → List Int → List Int → Int → Option (List Int)
  | 0, _, _, _ => none
  | k + 1, x3, x5, x6 => if x6 < (x3.length : Int) then (if 0 ≤ x6 then (if x6 ≤ (wrap64 (x6 + 64)) then (if (wrap64 (x6 + 64)) ≤ (x3.length : Int) then ((heliastref04_block.f k x5 ((x3.take ((wrap64 (x6 + 64)) : Int).toNat).drop (x6 : Int).toNat)).bind fun t184 => (heliastref04_Sum.l0 k x3 t184 (wrap64 (x6 + 64)))) else (none)) else (none)) else (none)) else (heliastref04_Sum.l1 k x5 ([] : List Int) 0)
def heliastref04_Sum.l1 : Nat → List Int → List Int → Int → Option (List Int)
  | 0, _, _, _ => none
  | k + 1, x5, x7, x8 => if x8 < 8 then (if 0 ≤ x8 then (if x8 < (x5.length : Int) then ((some (([((rd x5 x8) / 16777216) % 256, ((rd x5 x8) / 65536) % 256, ((rd x5 x8) / 256) % 256, (rd x5 x8) % 256] : List Int) : List Int)).bind fun y191 => (if x7.length + y191.length < 140737488355328 then (heliastref04_Sum.l1 k x5 (x7 ++ y191) (wrap64 (x8 + 1))) else (none))) else (none)) else (none)) else (some x7)
end
def heliastref04_Sum.f (k : Nat) (l0 : List Int) : Option (List Int) := if ([] : List Int).length + l0.length < 140737488355328 then ((some (([] : List Int) ++ l0 : List Int)).bind fun y168 => ((heliastref04_Tail.f k (IntKind.u64.wrap ((l0.length : Int)))).bind fun t171 => (if y168.length + t171.length < 140737488355328 then (heliastref04_Sum.l0 k (y168 ++ t171) (([1779033703, 3144134277, 1013904242, 2773480762, 1359893119, 2600822924, 528734635, 1541459225] : List Int)) 0) else (none)))) else (none)
theorem heliastref04_Sum.mono_l : ∀ k, (∀ y0 y1 y2, LeO (heliastref04_Sum.l0 k y0 y1 y2) (heliastref04_Sum.l0 (k + 1) y0 y1 y2)) ∧ (∀ y0 y1 y2, LeO (heliastref04_Sum.l1 k y0 y1 y2) (heliastref04_Sum.l1 (k + 1) y0 y1 y2))
  | 0 => ⟨fun _ _ _ r h => by simp [heliastref04_Sum.l0] at h, fun _ _ _ r h => by simp [heliastref04_Sum.l1] at h⟩
  | k + 1 => by
    obtain ⟨ih0, ih1⟩ := heliastref04_Sum.mono_l k
    refine ⟨?_, ?_⟩
    · intro y0 y1 y2
      unfold heliastref04_Sum.l0
      repeat' first
      | (with_reducible exact ih0 _ _ _)
      | (with_reducible exact ih1 _ _ _)
      | (with_reducible exact heliastref04_Tail.mono _ _)
      | (with_reducible exact heliastref04_block.mono _ _ _)
      | (with_reducible exact LeO.refl _)
      | (with_reducible exact LeO.none _)
      | (with_reducible refine LeO.ite ?_ ?_)
      | (with_reducible refine LeO.bind ?_ (fun _ => ?_))
      | exact ih0 _ _ _
      | exact ih1 _ _ _
      | exact heliastref04_Tail.mono _ _
      | exact heliastref04_block.mono _ _ _
      | exact LeO.none _
      | refine LeO.ite ?_ ?_
      | refine LeO.bind ?_ (fun _ => ?_)
    · intro y0 y1 y2
      unfold heliastref04_Sum.l1
      repeat' first
      | (with_reducible exact ih0 _ _ _)
      | (with_reducible exact ih1 _ _ _)
      | (with_reducible exact heliastref04_Tail.mono _ _)
      | (with_reducible exact heliastref04_block.mono _ _ _)
      | (with_reducible exact LeO.refl _)
      | (with_reducible exact LeO.none _)
      | (with_reducible refine LeO.ite ?_ ?_)
      | (with_reducible refine LeO.bind ?_ (fun _ => ?_))
      | exact ih0 _ _ _
      | exact ih1 _ _ _
      | exact heliastref04_Tail.mono _ _
      | exact heliastref04_block.mono _ _ _
      | exact LeO.none _
      | refine LeO.ite ?_ ?_
      | refine LeO.bind ?_ (fun _ => ?_)
theorem heliastref04_Sum.mono : ∀ a0 k, LeO (heliastref04_Sum.f k a0) (heliastref04_Sum.f (k + 1) a0) := by
  intro a0 k
  obtain ⟨ih0, ih1⟩ := heliastref04_Sum.mono_l k
  unfold heliastref04_Sum.f
  repeat' first
      | (with_reducible exact ih0 _ _ _)
      | (with_reducible exact ih1 _ _ _)
      | (with_reducible exact heliastref04_Tail.mono _ _)
      | (with_reducible exact heliastref04_block.mono _ _ _)
      | (with_reducible exact LeO.refl _)
      | (with_reducible exact LeO.none _)
      | (with_reducible refine LeO.ite ?_ ?_)
      | (with_reducible refine LeO.bind ?_ (fun _ => ?_))
      | exact ih0 _ _ _
      | exact ih1 _ _ _
      | exact heliastref04_Tail.mono _ _
      | exact heliastref04_block.mono _ _ _
      | exact LeO.none _
      | refine LeO.ite ?_ ?_
      | refine LeO.bind ?_ (fun _ => ?_)
def heliastref04_Sum.T14 : Bool × List (List Nat × List Nat) := (true, [([], []), ([], []), ([], []), ([1, 2], [1, 2]), ([3], [3]), ([4], [4]), ([5], [5]), ([], []), ([], []), ([7, 8], [7, 8]), ([9], [9]), ([10], [10]), ([11], [11]), ([], []), ([], []), ([13, 14], [13, 14]), ([15], [15]), ([16], [16]), ([17], [17]), ([], []), ([], []), ([19, 20], [19, 20]), ([21], [21]), ([22], [22]), ([6, 12, 18, 23], [6, 12, 18, 23]), ([0, 24], [0, 24]), ([25, 25, 0, 1, 2, 3, 4, 5, 6, 7, 8, 9, 10, 11, 12, 13, 14, 15, 16, 17, 18, 19, 20, 21, 22, 23, 24, 25], [0, 25])])
def heliastref04_Sum.B14 : List Nat := [0, 0, 0, 6, 14, 30, 62, 0, 0, 384, 896, 1920, 3968, 0, 0, 24576, 57344, 122880, 253952, 0, 0, 1572864, 3670016, 7864320, 16777214, 33554431, 67108863]
theorem heliastref04_Sum.tab14 : rtab .any (opsOf Try.f23 14) = heliastref04_Sum.T14 := by kernel_rfl
theorem heliastref04_Sum.bits14 : waitsOk heliastref04_Sum.T14.2 heliastref04_Sum.B14 = true := by kernel_rfl
set_option maxHeartbeats 8000000 in
set_option maxRecDepth 100000 in
theorem heliastref04_Sum.calls (k : Nat) (A0 : Option Addr) (c0 : Nat) (l0 : List Int) (r : List Int) (w : World) (hr0 : Kd.C (Kd.int .u8) w A0 l0.length l0) (hc0 : l0.length ≤ c0) (h : heliastref04_Sum.f k l0 = some r) :
    Calls Try.prog 23 #[.slice A0 l0.length c0] w fun e w' => ∃ v0_ : Value, e = .returned (v0_) ∧ Kd.R (Kd.int .u8) 5 w' w.heap.size (fun _ => True) v0_ r ∧ Below w.heap.size w w' := by
  have HR0 := Aside0.mk hr0
  have HC0 := Aside0.mk hc0
  clear hr0 hc0
  have HB := Aside0.mk (Below.refl w.heap.size w)
  have H : (if ([] : List Int).length + l0.length < 140737488355328 then ((some (([] : List Int) ++ l0 : List Int)).bind fun y168 => ((heliastref04_Tail.f k (IntKind.u64.wrap ((l0.length : Int)))).bind fun t171 => (if y168.length + t171.length < 140737488355328 then (heliastref04_Sum.l0 k (y168 ++ t171) (([1779033703, 3144134277, 1013904242, 2773480762, 1359893119, 2600822924, 528734635, 1541459225] : List Int)) 0) else (none)))) else (none)) = some r := h
  clear h
  by_cases c2 : ([] : List Int).length + l0.length < 140737488355328
  · rw [if_pos c2] at H
    have LMc2 := Aside0.mk c2
    clear c2
    obtain ⟨y168, hy168⟩ : ∃ y_ : List Int, y_ = (([] : List Int) ++ l0) := ⟨_, rfl⟩
    replace H : ((heliastref04_Tail.f k (IntKind.u64.wrap ((l0.length : Int)))).bind fun t171 => (if y168.length + t171.length < 140737488355328 then (heliastref04_Sum.l0 k (y168 ++ t171) (([1779033703, 3144134277, 1013904242, 2773480762, 1359893119, 2600822924, 528734635, 1541459225] : List Int)) 0) else (none))) = some r := by first | (rw [hy168]; with_reducible exact H) | (have H2_ := (Option.bind_some _ _).symm.trans H; rw [hy168]; with_reducible exact H2_) | (have H2_ := (Option.bind_some _ _).symm.trans H; with_reducible exact H2_) | with_reducible exact H | (rw [hy168]; exact H) | exact H
    have Ny168 := Aside0.mk hy168
    clear hy168
    replace H := Option.bind_eq_some_iff.mp H
    obtain ⟨t171, A30, H⟩ := H
    replace H : (if y168.length + t171.length < 140737488355328 then (heliastref04_Sum.l0 k (y168 ++ t171) (([1779033703, 3144134277, 1013904242, 2773480762, 1359893119, 2600822924, 528734635, 1541459225] : List Int)) 0) else (none)) = some r := H
    have A3 := Aside0.mk A30
    clear A30
    by_cases c4 : y168.length + t171.length < 140737488355328
    · rw [if_pos c4] at H
      have LMc4 := Aside0.mk c4
      clear c4
      obtain ⟨y174, hy174⟩ : ∃ y_ : List Int, y_ = (y168 ++ t171) := ⟨_, rfl⟩
      replace H : (heliastref04_Sum.l0 k y174 (([1779033703, 3144134277, 1013904242, 2773480762, 1359893119, 2600822924, 528734635, 1541459225] : List Int)) 0) = some r := by first | (rw [hy174]; with_reducible exact H) | (have H2_ := (Option.bind_some _ _).symm.trans H; rw [hy174]; with_reducible exact H2_) | (have H2_ := (Option.bind_some _ _).symm.trans H; with_reducible exact H2_) | with_reducible exact H | (rw [hy174]; exact H) | exact H
      have Ny174 := Aside0.mk hy174
      clear hy174
      obtain ⟨y177, hy177⟩ : ∃ y_ : List Int, y_ = (([1779033703, 3144134277, 1013904242, 2773480762, 1359893119, 2600822924, 528734635, 1541459225] : List Int)) := ⟨_, rfl⟩
      replace H : (heliastref04_Sum.l0 k y174 y177 0) = some r := by first | (rw [hy177]; with_reducible exact H) | (have H2_ := (Option.bind_some _ _).symm.trans H; rw [hy177]; with_reducible exact H2_) | (have H2_ := (Option.bind_some _ _).symm.trans H; with_reducible exact H2_) | with_reducible exact H | (rw [hy177]; exact H) | exact H
      have Ny177 := Aside0.mk hy177
      clear hy177
      have H' := Aside0.mk H
      clear H
      go_enter Try.func23, Try.ntmps23
      go_wp2_with (first | ((with_reducible refine gate_builtin (b := .append) (xs := #[.tmp 9, .tmp 10]) rfl ?_); at_builtin; refine Kd.R_append_rows (Kd.int .u8) (w0 := w) w.heap.size rfl (.tmp 9) (.tmp 10) 22 5 (.int .u8 0) 1 rfl Try.underlying22 info5 rfl (by decide) (by omega) (.slice none 0 0) ([] : List Int) l0 _ _ _ (fun _ => True) (fun _ => False) rfl rfl ?aO ?aR (fun _ _ h => h) (fun _ h => h.elim) ?aF ?aB ?aS ?aL ?_; (case aR => repeat (first | exact HR0.out | (with_reducible refine Kd.C_alloc ?_ _) | (with_reducible refine Kd.C_drewN ?_ _) | (with_reducible refine Kd.C_drew ?_))); (case aB => exact (by repeat (first | (with_reducible first | exact HB.out | apply below_alloc | apply pw_below_drewN | apply below_drew1) | exact HB.out))); (case aF => exact (fun _ _ => trivial)); (case aO => exact ((Kd.R_nil _ _ _ _ (fun _ => True)))); (case aS => exact (below_size (by repeat (first | (with_reducible first | exact HB.out | apply below_alloc | apply pw_below_drewN | apply below_drew1) | exact HB.out)))); (case aL => have := LMc2.out; omega); intro v169 w5 ho hb hg hat; rw [← Ny168.out] at ho; have n0_ := Aside0.mk (hb); have n1_ := Aside0.mk (ho); clear HB; have HB := n0_; have HO170 := n1_; clear n0_ n1_; clear ho hb hg hat) | ((with_reducible refine gate_callee (f := 34) rfl ?_); refine goesL_ (some 15) rfl rfl Try.func34 (by kernel_rfl) rfl #[.int .u64 (IntKind.u64.wrap ((l0.length : Int)))] rfl (by (try simp only [List.map_toArray, List.map_cons, List.map_nil]); first | done | rfl | (simp only [List.length_drop, List.length_take]; rfl)) ?_; (with_reducible refine (heliastref04_Tail.calls k (IntKind.u64.wrap ((l0.length : Int))) t171 _ A3.out).mono ?_); rintro e w6 ⟨v172, rfl, ho0, hb⟩; refine ⟨_, rfl, ?_⟩; have n0_ := Aside0.mk (Kd.R_elder' (by (with_reducible repeat (first | apply Kd.R_alloc | apply Kd.R_drewN | apply Kd.R_drew)); exact HO170.out) (Kd.R_base ho0) hb); have n1_ := Aside0.mk (Kd.R_lower (Kd.R_new' ho0 (Kd.R_lt (by (with_reducible repeat (first | apply Kd.R_alloc | apply Kd.R_drewN | apply Kd.R_drew)); exact HO170.out))) (below_size (by repeat (first | (with_reducible first | exact HB.out | apply below_alloc | apply pw_below_drewN | apply below_drew1) | exact HB.out)))); have n2_ := Aside0.mk (below_step (by repeat (first | (with_reducible first | exact HB.out | apply below_alloc | apply pw_below_drewN | apply below_drew1) | exact HB.out)) hb); clear HO170; clear HB; have HO170 := n0_; have HO173 := n1_; have HB := n2_; clear n0_ n1_ n2_; (try clear hb); (try clear hb2); (try clear hk); (try clear hi); (try clear ho0); obtain ⟨Ao8, co8, eo8⟩ := Kd.R_slice HO173.out; subst eo8) | ((with_reducible refine gate_builtin (b := .append) (xs := #[.tmp 16, .tmp 17]) rfl ?_); at_builtin; refine Kd.R_append_rows (Kd.int .u8) (w0 := w) w.heap.size rfl (.tmp 16) (.tmp 17) 22 5 (.int .u8 0) 1 rfl Try.underlying22 info5 rfl (by decide) (by omega) v169 y168 t171 _ _ _ (fun k_ => some k_ ≠ (.slice Ao8 t171.length co8 : Value).ownBlock) (fun _ => False) rfl rfl ?aO ?aR (fun _ _ h => h) (fun _ h => h.elim) ?aF ?aB ?aS ?aL ?_; (case aR => repeat (first | exact (Kd.R_reads' HO173.out).2.2 | (with_reducible refine Kd.C_alloc ?_ _) | (with_reducible refine Kd.C_drewN ?_ _) | (with_reducible refine Kd.C_drew ?_))); (case aB => exact (by repeat (first | (with_reducible first | exact HB.out | apply below_alloc | apply pw_below_drewN | apply below_drew1) | exact HB.out))); (case aF => exact (fun k_ hk => Kd.fresh' (Kd.R_lt (by (with_reducible repeat (first | apply Kd.R_alloc | apply Kd.R_drewN | apply Kd.R_drew)); exact HO173.out)) k_ hk)); (case aO => exact (by (with_reducible repeat (first | apply Kd.R_alloc | apply Kd.R_drewN | apply Kd.R_drew)); exact Kd.R_mono HO170.out (fun _ hk => hk.2))); (case aS => exact (below_size (by repeat (first | (with_reducible first | exact HB.out | apply below_alloc | apply pw_below_drewN | apply below_drew1) | exact HB.out)))); (case aL => have := LMc4.out; omega); intro v175 w7 ho hb hg hat; rw [← Ny174.out] at ho; have n0_ := Aside0.mk (Kd.R_after (ok := (fun _ => True)) (by (with_reducible repeat (first | apply Kd.R_alloc | apply Kd.R_drewN | apply Kd.R_drew)); exact HO173.out) hg hat); have n1_ := Aside0.mk (hb); have n2_ := Aside0.mk (ho); clear HO173; clear HB; clear HO170; have HO173 := n0_; have HB := n1_; have HO176 := n2_; clear n0_ n1_ n2_; clear ho hb hg hat) | ((with_reducible refine gate_dst (N := 19) rfl ?_); refine Kd.R_lit (Kd.int .u32) _ 55 ?hg (N := 19) ?hd (xs := ([1779033703, 3144134277, 1013904242, 2773480762, 1359893119, 2600822924, 528734635, 1541459225] : List Int)) (inner := [.int .u32 1779033703, .int .u32 3144134277, .int .u32 1013904242, .int .u32 2773480762, .int .u32 1359893119, .int .u32 2600822924, .int .u32 528734635, .int .u32 1541459225]) (ok := fun _ => True) (okp := fun _ => True) ?hr ?hp (fun _ hk => hk) trivial (Below.refl _ _) (Nat.le_refl _) (by simp) ?_; (case hd => rfl); (case hg => rfl); (case hr => first | (go_simp; done) | (go_simp; rfl)); (case hp => exact (Reps.one (show Kd.M (Kd.int .u32) _ _ _ 1779033703 [.int .u32 1779033703] from rfl) (Reps.one (show Kd.M (Kd.int .u32) _ _ _ 3144134277 [.int .u32 3144134277] from rfl) (Reps.one (show Kd.M (Kd.int .u32) _ _ _ 1013904242 [.int .u32 1013904242] from rfl) (Reps.one (show Kd.M (Kd.int .u32) _ _ _ 2773480762 [.int .u32 2773480762] from rfl) (Reps.one (show Kd.M (Kd.int .u32) _ _ _ 1359893119 [.int .u32 1359893119] from rfl) (Reps.one (show Kd.M (Kd.int .u32) _ _ _ 2600822924 [.int .u32 2600822924] from rfl) (Reps.one (show Kd.M (Kd.int .u32) _ _ _ 528734635 [.int .u32 528734635] from rfl) (Reps.one (show Kd.M (Kd.int .u32) _ _ _ 1541459225 [.int .u32 1541459225] from rfl) (Reps.none _ _)))))))))); intro v178 w9 ho10 hb hg_ hnew_; clear hg_ hnew_; (first | rw [← Ny177.out] at ho10 | (simp only [Int.reduceToNat] at ho10; rw [← Ny177.out] at ho10)); have n0_ := Aside0.mk (Kd.R_below (by (with_reducible repeat (first | apply Kd.R_alloc | apply Kd.R_drewN | apply Kd.R_drew)); exact HO173.out) hb); have n1_ := Aside0.mk (Kd.R_below (by (with_reducible repeat (first | apply Kd.R_alloc | apply Kd.R_drewN | apply Kd.R_drew)); exact HO176.out) hb); have n2_ := Aside0.mk (Kd.R_lower ho10 (below_size (by repeat (first | (with_reducible first | exact HB.out | apply below_alloc | apply pw_below_drewN | apply below_drew1) | exact HB.out)))); have n3_ := Aside0.mk (below_step (by repeat (first | (with_reducible first | exact HB.out | apply below_alloc | apply pw_below_drewN | apply below_drew1) | exact HB.out)) hb); clear HO173; clear HO176; clear HB; have HO173 := n0_; have HO176 := n1_; have HO179 := n2_; have HB := n3_; clear n0_ n1_ n2_ n3_; clear hb ho10))
      go_loopg [5, 6] k (fun kq v5 v6 w' => ∃ (x5_1 : List Int) (x6_1 : Int), v6 = .int .i64 x6_1 ∧ Aside0 (heliastref04_Sum.l0 kq y174 x5_1 x6_1 = some r) ∧ Aside0 (kq ≤ k) ∧ Aside0 (Kd.R (Kd.int .u8) 5 w' w.heap.size (fun _ => True) v175 y174) ∧ Aside0 (Kd.R (Kd.int .u32) 55 w' w.heap.size (fun _ => True) v5 x5_1) ∧ Aside0 (Below w.heap.size w w'))
      case atStart => exact ⟨(y177), (0), (by first | rfl | (simp; done) | (simp [*]; done)), H', ⟨Nat.le_refl _⟩, ⟨by (with_reducible repeat (first | apply Kd.R_alloc | apply Kd.R_drewN | apply Kd.R_drew)); exact Kd.R_mono HO176.out (fun _ hk => trivial)⟩, ⟨by (with_reducible repeat (first | apply Kd.R_alloc | apply Kd.R_drewN | apply Kd.R_drew)); exact HO179.out⟩, ⟨by repeat (first | (with_reducible first | exact HB.out | apply below_alloc | apply pw_below_drewN | apply below_drew1) | exact HB.out)⟩⟩
      case round =>
        clear H'
        try clear c2
        try clear p2
        try clear c3
        try clear c4
        obtain ⟨x5_1, x6_1, rfl, HA, HK1, HO_3, HO_5, HB⟩ := hrel
        cases gk with
        | zero => exact absurd HA.out (by simp [heliastref04_Sum.l0])
        | succ k1 =>
          have H := HA.out
          clear HA
          simp only [heliastref04_Sum.l0] at H
          by_cases c11 : x6_1 < (y174.length : Int)
          · rw [if_pos c11] at H
            have c11b0 : decide (x6_1 < (y174.length : Int)) = true := decide_eq_true c11
            clear c11
            by_cases c12 : 0 ≤ x6_1
            · rw [if_pos c12] at H
              have c12b0 := eq_true c12
              have c12b1 : decide (0 ≤ x6_1) = true := decide_eq_true c12
              clear c12
              by_cases c13 : x6_1 ≤ (wrap64 (x6_1 + 64))
              · rw [if_pos c13] at H
                have c13b0 := eq_true c13
                have c13b1 : decide (x6_1 ≤ (wrap64 (x6_1 + 64))) = true := decide_eq_true c13
                by_cases c14 : (wrap64 (x6_1 + 64)) ≤ (y174.length : Int)
                · rw [if_pos c14] at H
                  have c14b0 := eq_true c14
                  have c14b1 : decide ((wrap64 (x6_1 + 64)) ≤ (y174.length : Int)) = true := decide_eq_true c14
                  obtain ⟨y180, hy180⟩ : ∃ y_ : List Int, y_ = ((y174.take ((wrap64 (x6_1 + 64)) : Int).toNat).drop (x6_1 : Int).toNat) := ⟨_, rfl⟩
                  replace H : ((heliastref04_block.f k1 x5_1 y180).bind fun t184 => (heliastref04_Sum.l0 k1 y174 t184 (wrap64 (x6_1 + 64)))) = some r := by first | (rw [hy180]; with_reducible exact H) | (have H2_ := (Option.bind_some _ _).symm.trans H; rw [hy180]; with_reducible exact H2_) | (have H2_ := (Option.bind_some _ _).symm.trans H; with_reducible exact H2_) | with_reducible exact H | (rw [hy180]; exact H) | exact H
                  have Ny180 := Aside0.mk hy180
                  clear hy180
                  replace H := Option.bind_eq_some_iff.mp H
                  obtain ⟨t184, A150, H⟩ := H
                  replace H : (heliastref04_Sum.l0 k1 y174 t184 (wrap64 (x6_1 + 64))) = some r := H
                  have A15 := Aside0.mk A150
                  clear A150
                  have H' := Aside0.mk H
                  clear H
                  obtain ⟨Ao16, co16, eo16⟩ := Kd.R_slice HO_3.out
                  subst eo16
                  have q17 : ((wrap64 (x6_1 + 64)) : Int) ≤ ((y174.length : Int) : Int) := of_decide_eq_true (by first | (with_reducible assumption) | assumption)
                  obtain ⟨i017, hi017, _, hsz17, _⟩ := info_parts info5
                  have hroom17 : y174.length ≤ co16 := (Kd.R_reads' HO_3.out).2.1
                  have hC17 : Kd.C (Kd.int .u8) _ Ao16 y174.length y174 := (Kd.R_reads' HO_3.out).2.2
                  have ql17 : (x6_1 : Int) ≤ ((wrap64 (x6_1 + 64)) : Int) := of_decide_eq_true (by first | (with_reducible assumption) | assumption)
                  have q017 : (0 : Int) ≤ (x6_1 : Int) := of_decide_eq_true (by first | (with_reducible assumption) | assumption)
                  have hcut17 := cut_mid (P := Try.prog) 22 5 .i64 .i64 Try.underlying22 hi017 1 hsz17 Ao16 y174.length co16 x6_1 (wrap64 (x6_1 + 64)) q017 ql17 q17 hroom17
                  have hr17 := Kd.C_mid (lo := (x6_1 : Int).toNat) (hi := ((wrap64 (x6_1 + 64)) : Int).toNat) (c := co16) hC17 (by omega) (by omega) hroom17
                  obtain ⟨A17, hA17⟩ : ∃ A1, A1 = (if co16 = (x6_1 : Int).toNat then Ao16 else (Ao16 : Option Addr).map (·.add ((x6_1 : Int).toNat * 1))) := ⟨_, rfl⟩
                  obtain ⟨c17, hc17⟩ : ∃ c1, c1 = co16 - (x6_1 : Int).toNat := ⟨_, rfl⟩
                  have hy17 : y180.length = ((wrap64 (x6_1 + 64)) : Int).toNat - (x6_1 : Int).toNat := (by rw [Ny180.out, List.length_drop, List.length_take] <;> omega)
                  rw [show ((y174).take ((wrap64 (x6_1 + 64)) : Int).toNat).drop (x6_1 : Int).toNat = y180 from Ny180.out.symm] at hr17
                  replace hr17 : Kd.C (Kd.int .u8) _ A17 y180.length y180 := (by rw [hA17]; exact hr17)
                  rw [← hy17, ← hA17, ← hc17] at hcut17
                  have HR183 := Aside0.mk hr17
                  have HC183 := Aside0.mk (show y180.length ≤ c17 from by rw [hy17, hc17]; exact Nat.sub_le_sub_right (Nat.le_trans (by omega) hroom17) _)
                  clear hr17 hC17 hroom17 hi017 hsz17 hc17
                  have KY17 := Aside0.mk hy17
                  have KA17 := Aside0.mk hA17
                  clear hy17 hA17
                  have KL17 := Aside0.mk (show ((wrap64 (x6_1 + 64)) : Int).toNat ≤ y174.length from by omega)
                  have KM17 := Aside0.mk (show (x6_1 : Int).toNat ≤ ((wrap64 (x6_1 + 64)) : Int).toNat from by omega)
                  replace q17 := eq_true q17
                  obtain ⟨Ao18, co18, eo18⟩ := Kd.R_slice HO_5.out
                  subst eo18
                  go_wp2_with (first | ((with_reducible refine gate_callee (f := 35) rfl ?_); refine goesL_ (some 32) rfl rfl Try.func35 (by kernel_rfl) rfl #[.slice Ao18 x5_1.length co18, .slice A17 y180.length c17] rfl (by (try simp only [List.map_toArray, List.map_cons, List.map_nil]); first | done | rfl | (simp only [List.length_drop, List.length_take]; rfl)) ?_; (with_reducible refine (heliastref04_block.calls k1 _ _ x5_1 _ _ y180 t184 _ ?side1 ?side2 ?side3 ?side4 A15.out).mono ?_); (case side1 => repeat (first | exact (Kd.R_reads' HO_5.out).2.2 | (with_reducible refine Kd.C_alloc ?_ _) | (with_reducible refine Kd.C_drewN ?_ _) | (with_reducible refine Kd.C_drew ?_))); (case side2 => exact (Kd.R_reads' HO_5.out).2.1); (case side3 => repeat (first | exact (by repeat (first | (with_reducible exact HR183.out) | (with_reducible refine Kd.C_alloc ?_ _) | (with_reducible refine Kd.C_drewN ?_ _) | (with_reducible refine Kd.C_drew ?_) | exact HR183.out)) | (with_reducible refine Kd.C_alloc ?_ _) | (with_reducible refine Kd.C_drewN ?_ _) | (with_reducible refine Kd.C_drew ?_))); (case side4 => exact HC183.out); rintro e w19 ⟨v185, rfl, ho0, hb⟩; refine ⟨_, rfl, ?_⟩; have n0_ := Aside0.mk (Kd.R_below (by (with_reducible repeat (first | apply Kd.R_alloc | apply Kd.R_drewN | apply Kd.R_drew)); exact HO_3.out) hb); have n1_ := Aside0.mk (Kd.R_elder' (by (with_reducible repeat (first | apply Kd.R_alloc | apply Kd.R_drewN | apply Kd.R_drew)); exact HO_5.out) (Kd.R_base ho0) hb); have n2_ := Aside0.mk (Kd.R_lower (Kd.R_new' ho0 (Kd.R_lt (by (with_reducible repeat (first | apply Kd.R_alloc | apply Kd.R_drewN | apply Kd.R_drew)); exact HO_5.out))) (below_size (by repeat (first | (with_reducible first | exact HB.out | apply below_alloc | apply pw_below_drewN | apply below_drew1) | exact HB.out)))); have n3_ := Aside0.mk (Kd.C_below (by repeat (first | (with_reducible exact HR183.out) | (with_reducible refine Kd.C_alloc ?_ _) | (with_reducible refine Kd.C_drewN ?_ _) | (with_reducible refine Kd.C_drew ?_) | exact HR183.out)) hb); have n4_ := Aside0.mk (below_step (by repeat (first | (with_reducible first | exact HB.out | apply below_alloc | apply pw_below_drewN | apply below_drew1) | exact HB.out)) hb); clear HO_3; clear HO_5; clear HR183; clear HB; have HO_3 := n0_; have HO_5 := n1_; have HO186 := n2_; have HR183 := n3_; have HB := n4_; clear n0_ n1_ n2_ n3_ n4_; (try clear hb); (try clear hb2); (try clear hk); (try clear hi); (try clear ho0)))
                  go_roundg k1
                  case measure => have := HK1.out; omega
                  case rel => exact ⟨(t184), (wrap64 (x6_1 + 64)), (by first | rfl | (simp; done) | (simp [*]; done)), H', ⟨by have := HK1.out; omega⟩, ⟨by (with_reducible repeat (first | apply Kd.R_alloc | apply Kd.R_drewN | apply Kd.R_drew)); exact HO_3.out⟩, ⟨by (with_reducible repeat (first | apply Kd.R_alloc | apply Kd.R_drewN | apply Kd.R_drew)); exact Kd.R_mono HO186.out (fun _ hk => trivial)⟩, ⟨by repeat (first | (with_reducible first | exact HB.out | apply below_alloc | apply pw_below_drewN | apply below_drew1) | exact HB.out)⟩⟩
                · rw [if_neg c14] at H
                  exact absurd H (by simp)
              · rw [if_neg c13] at H
                exact absurd H (by simp)
            · rw [if_neg c12] at H
              exact absurd H (by simp)
          · rw [if_neg c11] at H
            have c11b0 : decide (x6_1 < (y174.length : Int)) = false := decide_eq_false c11
            clear c11
            have H' := Aside0.mk H
            clear H
            obtain ⟨Ao20, co20, eo20⟩ := Kd.R_slice HO_3.out
            subst eo20
            go_wp2
            go_loopg [7, 8] k1 (fun kq v7 v8 w' => ∃ (x7_2 : List Int) (x8_2 : Int), v8 = .int .i64 x8_2 ∧ Aside0 (heliastref04_Sum.l1 kq x5_1 x7_2 x8_2 = some r) ∧ Aside0 (kq ≤ k1) ∧ Aside0 (Kd.R (Kd.int .u32) 55 w' w.heap.size (fun _ => True) u5 x5_1) ∧ Aside0 (Kd.R (Kd.int .u8) 5 w' w.heap.size (fun _ => True) v7 x7_2) ∧ Aside0 (Below w.heap.size w w'))
            case atStart => exact ⟨(([] : List Int)), (0), (by first | rfl | (simp; done) | (simp [*]; done)), H', ⟨Nat.le_refl _⟩, ⟨by (with_reducible repeat (first | apply Kd.R_alloc | apply Kd.R_drewN | apply Kd.R_drew)); exact HO_5.out⟩, ⟨by first | exact Kd.R_nil _ _ _ _ _ | exact Kd.N_nil _ _ _ _ _ | exact Kd.V_nil _ _ _ _ _ | exact Kd.Q_nil _ _ _ _ _ | exact Kd.S_nil _ _ _ _ _⟩, ⟨by repeat (first | (with_reducible first | exact HB.out | apply below_alloc | apply pw_below_drewN | apply below_drew1) | exact HB.out)⟩⟩
            case round =>
              clear H'
              try clear c1
              try clear q1
              try clear c2
              try clear p2
              try clear c3
              try clear c4
              try clear p6
              try clear c11
              try clear c11b0
              try clear c12
              try clear c12b0
              try clear c12b1
              try clear c13
              try clear c13b0
              try clear c13b1
              try clear c14
              try clear c14b0
              try clear c14b1
              try clear c17
              try clear q17
              try clear p2
              try clear q017
              try clear q17
              obtain ⟨x7_2, x8_2, rfl, HA, HK2, HO_5, HO_7, HB⟩ := hrel
              cases gk with
              | zero => exact absurd HA.out (by simp [heliastref04_Sum.l1])
              | succ k2 =>
                have H := HA.out
                clear HA
                simp only [heliastref04_Sum.l1] at H
                by_cases c21 : x8_2 < 8
                · rw [if_pos c21] at H
                  have c21b0 : decide (x8_2 < 8) = true := decide_eq_true c21
                  clear c21
                  by_cases c22 : 0 ≤ x8_2
                  · rw [if_pos c22] at H
                    have c22b0 : decide (0 ≤ x8_2) = true := decide_eq_true c22
                    clear c22
                    by_cases c23 : x8_2 < (x5_1.length : Int)
                    · rw [if_pos c23] at H
                      have c23b0 : decide (x8_2 < (x5_1.length : Int)) = true := decide_eq_true c23
                      clear c23
                      obtain ⟨y191, hy191⟩ : ∃ y_ : List Int, y_ = (([((rd x5_1 x8_2) / 16777216) % 256, ((rd x5_1 x8_2) / 65536) % 256, ((rd x5_1 x8_2) / 256) % 256, (rd x5_1 x8_2) % 256] : List Int)) := ⟨_, rfl⟩
                      replace H : (if x7_2.length + y191.length < 140737488355328 then (heliastref04_Sum.l1 k2 x5_1 (x7_2 ++ y191) (wrap64 (x8_2 + 1))) else (none)) = some r := by first | (rw [hy191]; with_reducible exact H) | (have H2_ := (Option.bind_some _ _).symm.trans H; rw [hy191]; with_reducible exact H2_) | (have H2_ := (Option.bind_some _ _).symm.trans H; with_reducible exact H2_) | with_reducible exact H | (rw [hy191]; exact H) | exact H
                      have Ny191 := Aside0.mk hy191
                      clear hy191
                      by_cases c24 : x7_2.length + y191.length < 140737488355328
                      · rw [if_pos c24] at H
                        have LMc24 := Aside0.mk c24
                        clear c24
                        obtain ⟨y194, hy194⟩ : ∃ y_ : List Int, y_ = (x7_2 ++ y191) := ⟨_, rfl⟩
                        replace H : (heliastref04_Sum.l1 k2 x5_1 y194 (wrap64 (x8_2 + 1))) = some r := by first | (rw [hy194]; with_reducible exact H) | (have H2_ := (Option.bind_some _ _).symm.trans H; rw [hy194]; with_reducible exact H2_) | (have H2_ := (Option.bind_some _ _).symm.trans H; with_reducible exact H2_) | with_reducible exact H | (rw [hy194]; exact H) | exact H
                        have Ny194 := Aside0.mk hy194
                        clear hy194
                        have H' := Aside0.mk H
                        clear H
                        try go_wp2
                        have n0_ := Aside0.mk (Kd.R_drew HO_5.out)
                        have n1_ := Aside0.mk (Kd.R_drew HO_7.out)
                        have n2_ := Aside0.mk (below_drew1 HB.out)
                        clear HO_5
                        clear HO_7
                        clear HB
                        have HO_5 := n0_
                        have HO_7 := n1_
                        have HB := n2_
                        clear n0_ n1_ n2_
                        obtain ⟨Ao26, co26, eo26⟩ := Kd.R_slice HO_5.out
                        (first | subst eo26 | (injection eo26 with f1_ f2_ f3_; have f4_ := f1_.symm; have f5_ := f3_.symm; clear f1_ f2_ f3_; subst f4_; subst f5_))
                        have p187 : 0 ≤ (x8_2 : Int) := of_decide_eq_true (by first | (with_reducible assumption) | assumption)
                        have q187 : x8_2 < (x5_1.length : Int) := of_decide_eq_true (by first | (with_reducible assumption) | assumption)
                        obtain ⟨ad187, e187, hx187_0⟩ := Kd.at_int (Kd.R_reads' HO_5.out).2.2 x8_2 p187 q187
                        cases e187
                        replace p187 := eq_true p187
                        replace q187 := eq_true q187
                        have p188 : 0 ≤ (x8_2 : Int) := of_decide_eq_true (by first | (with_reducible assumption) | assumption)
                        have q188 : x8_2 < (x5_1.length : Int) := of_decide_eq_true (by first | (with_reducible assumption) | assumption)
                        obtain ⟨ad188, e188, hx188_0⟩ := Kd.at_int (Kd.R_reads' HO_5.out).2.2 x8_2 p188 q188
                        obtain rfl : ad187 = ad188 := (by injection e188)
                        replace p188 := eq_true p188
                        replace q188 := eq_true q188
                        have p189 : 0 ≤ (x8_2 : Int) := of_decide_eq_true (by first | (with_reducible assumption) | assumption)
                        have q189 : x8_2 < (x5_1.length : Int) := of_decide_eq_true (by first | (with_reducible assumption) | assumption)
                        obtain ⟨ad189, e189, hx189_0⟩ := Kd.at_int (Kd.R_reads' HO_5.out).2.2 x8_2 p189 q189
                        obtain rfl : ad187 = ad189 := (by injection e189)
                        replace p189 := eq_true p189
                        replace q189 := eq_true q189
                        have p190 : 0 ≤ (x8_2 : Int) := of_decide_eq_true (by first | (with_reducible assumption) | assumption)
                        have q190 : x8_2 < (x5_1.length : Int) := of_decide_eq_true (by first | (with_reducible assumption) | assumption)
                        obtain ⟨ad190, e190, hx190_0⟩ := Kd.at_int (Kd.R_reads' HO_5.out).2.2 x8_2 p190 q190
                        obtain rfl : ad187 = ad190 := (by injection e190)
                        replace p190 := eq_true p190
                        replace q190 := eq_true q190
                        refine start_ (n := 27) (S := fun w' => w'.cell? (ad187.add (x8_2).toNat) = some (.int .u32 (rd x5_1 x8_2)) ∧ w'.cell? (ad187.add (x8_2).toNat) = some (.int .u32 (rd x5_1 x8_2)) ∧ w'.cell? (ad187.add (x8_2).toNat) = some (.int .u32 (rd x5_1 x8_2)) ∧ w'.cell? (ad187.add (x8_2).toNat) = some (.int .u32 (rd x5_1 x8_2))) (ds := [25]) #[false, false, false, false, false, false, false, false, false, false, false, false, false, false, false, false, false, false, false, false, false, false, false, false, false, false, false] (by kernel_rfl) rfl rfl ⟨hx187_0, hx188_0, hx189_0, hx190_0⟩ (fun hHeld => ?_); refine with_tabW heliastref04_Sum.tab14 heliastref04_Sum.bits14 (fun HT_ HW_ => ?_)
                        generalize wr.drew = w25 at HO_5 HO_7 HB hx187_0 hx188_0 hx189_0 hx190_0 hHeld ⊢
                        refine pure_ (i := 0) (N := some 37) (v := ?_) (a' := ?_) #[true, false, false, false, false, false, false, false, false, false, false, false, false, false, false, false, false, false, false, false, false, false, false, false, false, false, false] rfl rfl (any_of HT_.out (by kernel_rfl)) (fun _ _ _ h => h) (Or.inl ⟨by rfl, ?_⟩) ?_ ?_
                        rotate_left
                        · intro w'
                          go_simp
                          with_reducible rfl
                        rotate_left
                        · simp only [Act.put, List.setIfInBounds_toArray, List.set_cons_zero, List.set_cons_succ, i64_w, i32_w]
                          rfl
                        refine pure_ (i := 1) (N := some 38) (v := ?_) (a' := ?_) #[true, true, false, false, false, false, false, false, false, false, false, false, false, false, false, false, false, false, false, false, false, false, false, false, false, false, false] rfl rfl (any_of HT_.out (by kernel_rfl)) (fun _ _ _ h => h) (Or.inl ⟨by rfl, ?_⟩) ?_ ?_
                        rotate_left
                        · intro w'
                          go_simp
                          with_reducible rfl
                        rotate_left
                        · simp only [Act.put, List.setIfInBounds_toArray, List.set_cons_zero, List.set_cons_succ, i64_w, i32_w]
                          rfl
                        refine pure_ (i := 2) (N := some 39) (v := ?_) (a' := ?_) #[true, true, true, false, false, false, false, false, false, false, false, false, false, false, false, false, false, false, false, false, false, false, false, false, false, false, false] rfl rfl (any_of HT_.out (by kernel_rfl)) (fun _ _ _ h => h) (Or.inl ⟨by rfl, ?_⟩) ?_ ?_
                        rotate_left
                        · intro w'
                          go_simp
                          with_reducible rfl
                        rotate_left
                        · simp only [Act.put, List.setIfInBounds_toArray, List.set_cons_zero, List.set_cons_succ, i64_w, i32_w]
                          rfl
                        refine pure_ (i := 3) (N := some 40) (v := ?_) (a' := ?_) #[true, true, true, true, false, false, false, false, false, false, false, false, false, false, false, false, false, false, false, false, false, false, false, false, false, false, false] rfl rfl (any_of HT_.out (by kernel_rfl)) (fun _ _ _ h => h) (Or.inl ⟨by rfl, ?_⟩) ?_ ?_
                        rotate_left
                        · intro w'
                          go_simp
                          with_reducible rfl
                        rotate_left
                        · simp only [Act.put, List.setIfInBounds_toArray, List.set_cons_zero, List.set_cons_succ, i64_w, i32_w]
                          rfl
                        refine pure_ (i := 7) (N := some 44) (v := ?_) (a' := ?_) #[true, true, true, true, false, false, false, true, false, false, false, false, false, false, false, false, false, false, false, false, false, false, false, false, false, false, false] rfl rfl (any_of HT_.out (by kernel_rfl)) (fun _ _ _ h => h) (Or.inl ⟨by rfl, ?_⟩) ?_ ?_
                        rotate_left
                        · intro w'
                          go_simp
                          with_reducible rfl
                        rotate_left
                        · simp only [Act.put, List.setIfInBounds_toArray, List.set_cons_zero, List.set_cons_succ, i64_w, i32_w]
                          rfl
                        refine pure_ (i := 8) (N := some 45) (v := ?_) (a' := ?_) #[true, true, true, true, false, false, false, true, true, false, false, false, false, false, false, false, false, false, false, false, false, false, false, false, false, false, false] rfl rfl (any_of HT_.out (by kernel_rfl)) (fun _ _ _ h => h) (Or.inl ⟨by rfl, ?_⟩) ?_ ?_
                        rotate_left
                        · intro w'
                          go_simp
                          with_reducible rfl
                        rotate_left
                        · simp only [Act.put, List.setIfInBounds_toArray, List.set_cons_zero, List.set_cons_succ, i64_w, i32_w]
                          rfl
                        refine pure_ (i := 9) (N := some 46) (v := ?_) (a' := ?_) #[true, true, true, true, false, false, false, true, true, true, false, false, false, false, false, false, false, false, false, false, false, false, false, false, false, false, false] rfl rfl (any_of HT_.out (by kernel_rfl)) (fun _ _ _ h => h) (Or.inl ⟨by rfl, ?_⟩) ?_ ?_
                        rotate_left
                        · intro w'
                          go_simp
                          with_reducible rfl
                        rotate_left
                        · simp only [Act.put, List.setIfInBounds_toArray, List.set_cons_zero, List.set_cons_succ, i64_w, i32_w]
                          rfl
                        refine pure_ (i := 13) (N := some 50) (v := ?_) (a' := ?_) #[true, true, true, true, false, false, false, true, true, true, false, false, false, true, false, false, false, false, false, false, false, false, false, false, false, false, false] rfl rfl (any_of HT_.out (by kernel_rfl)) (fun _ _ _ h => h) (Or.inl ⟨by rfl, ?_⟩) ?_ ?_
                        rotate_left
                        · intro w'
                          go_simp
                          with_reducible rfl
                        rotate_left
                        · simp only [Act.put, List.setIfInBounds_toArray, List.set_cons_zero, List.set_cons_succ, i64_w, i32_w]
                          rfl
                        refine pure_ (i := 14) (N := some 51) (v := ?_) (a' := ?_) #[true, true, true, true, false, false, false, true, true, true, false, false, false, true, true, false, false, false, false, false, false, false, false, false, false, false, false] rfl rfl (any_of HT_.out (by kernel_rfl)) (fun _ _ _ h => h) (Or.inl ⟨by rfl, ?_⟩) ?_ ?_
                        rotate_left
                        · intro w'
                          go_simp
                          with_reducible rfl
                        rotate_left
                        · simp only [Act.put, List.setIfInBounds_toArray, List.set_cons_zero, List.set_cons_succ, i64_w, i32_w]
                          rfl
                        refine pure_ (i := 15) (N := some 52) (v := ?_) (a' := ?_) #[true, true, true, true, false, false, false, true, true, true, false, false, false, true, true, true, false, false, false, false, false, false, false, false, false, false, false] rfl rfl (any_of HT_.out (by kernel_rfl)) (fun _ _ _ h => h) (Or.inl ⟨by rfl, ?_⟩) ?_ ?_
                        rotate_left
                        · intro w'
                          go_simp
                          with_reducible rfl
                        rotate_left
                        · simp only [Act.put, List.setIfInBounds_toArray, List.set_cons_zero, List.set_cons_succ, i64_w, i32_w]
                          rfl
                        refine pure_ (i := 19) (N := some 56) (v := ?_) (a' := ?_) #[true, true, true, true, false, false, false, true, true, true, false, false, false, true, true, true, false, false, false, true, false, false, false, false, false, false, false] rfl rfl (any_of HT_.out (by kernel_rfl)) (fun _ _ _ h => h) (Or.inl ⟨by rfl, ?_⟩) ?_ ?_
                        rotate_left
                        · intro w'
                          go_simp
                          with_reducible rfl
                        rotate_left
                        · simp only [Act.put, List.setIfInBounds_toArray, List.set_cons_zero, List.set_cons_succ, i64_w, i32_w]
                          rfl
                        refine pure_ (i := 20) (N := some 57) (v := ?_) (a' := ?_) #[true, true, true, true, false, false, false, true, true, true, false, false, false, true, true, true, false, false, false, true, true, false, false, false, false, false, false] rfl rfl (any_of HT_.out (by kernel_rfl)) (fun _ _ _ h => h) (Or.inl ⟨by rfl, ?_⟩) ?_ ?_
                        rotate_left
                        · intro w'
                          go_simp
                          with_reducible rfl
                        rotate_left
                        · simp only [Act.put, List.setIfInBounds_toArray, List.set_cons_zero, List.set_cons_succ, i64_w, i32_w]
                          rfl
                        refine pure_ (i := 21) (N := some 58) (v := ?_) (a' := ?_) #[true, true, true, true, false, false, false, true, true, true, false, false, false, true, true, true, false, false, false, true, true, true, false, false, false, false, false] rfl rfl (any_of HT_.out (by kernel_rfl)) (fun _ _ _ h => h) (Or.inl ⟨by rfl, ?_⟩) ?_ ?_
                        rotate_left
                        · intro w'
                          go_simp
                          with_reducible rfl
                        rotate_left
                        · simp only [Act.put, List.setIfInBounds_toArray, List.set_cons_zero, List.set_cons_succ, i64_w, i32_w]
                          rfl
                        refine take_ (i := 4) (N := some 41) (v := ?_) (a' := ?_) #[true, true, true, true, true, false, false, true, true, true, false, false, false, true, true, true, false, false, false, true, true, true, false, false, false, false, false] rfl rfl (take_ofW HT_.out HW_.out (by kernel_rfl)) (fun _ _ _ h => h) (Or.inl ⟨by rfl, ?_⟩) hHeld ?_ ?_
                        rotate_left
                        · rintro w' ⟨s0, s1, s2, s3⟩
                          go_simp
                          with_reducible rfl
                        rotate_left
                        · simp only [Act.put, List.setIfInBounds_toArray, List.set_cons_zero, List.set_cons_succ, i64_w, i32_w]
                          rfl
                        refine pure_ (i := 5) (N := some 42) (v := ?_) (a' := ?_) #[true, true, true, true, true, true, false, true, true, true, false, false, false, true, true, true, false, false, false, true, true, true, false, false, false, false, false] rfl rfl (any_of HT_.out (by kernel_rfl)) (fun _ _ _ h => h) (Or.inl ⟨by rfl, ?_⟩) ?_ ?_
                        rotate_left
                        · intro w'
                          go_simp
                          with_reducible rfl
                        rotate_left
                        · simp only [Act.put, List.setIfInBounds_toArray, List.set_cons_zero, List.set_cons_succ, i64_w, i32_w]
                          rfl
                        refine pure_ (i := 6) (N := some 43) (v := ?_) (a' := ?_) #[true, true, true, true, true, true, true, true, true, true, false, false, false, true, true, true, false, false, false, true, true, true, false, false, false, false, false] rfl rfl (any_of HT_.out (by kernel_rfl)) (fun _ _ _ h => h) (Or.inl ⟨by rfl, ?_⟩) ?_ ?_
                        rotate_left
                        · intro w'
                          go_simp
                          with_reducible rfl
                        rotate_left
                        · simp only [Act.put, List.setIfInBounds_toArray, List.set_cons_zero, List.set_cons_succ, i64_w, i32_w]
                          rfl
                        refine take_ (i := 10) (N := some 47) (v := ?_) (a' := ?_) #[true, true, true, true, true, true, true, true, true, true, true, false, false, true, true, true, false, false, false, true, true, true, false, false, false, false, false] rfl rfl (take_ofW HT_.out HW_.out (by kernel_rfl)) (fun _ _ _ h => h) (Or.inl ⟨by rfl, ?_⟩) hHeld ?_ ?_
                        rotate_left
                        · rintro w' ⟨s0, s1, s2, s3⟩
                          go_simp
                          with_reducible rfl
                        rotate_left
                        · simp only [Act.put, List.setIfInBounds_toArray, List.set_cons_zero, List.set_cons_succ, i64_w, i32_w]
                          rfl
                        refine pure_ (i := 11) (N := some 48) (v := ?_) (a' := ?_) #[true, true, true, true, true, true, true, true, true, true, true, true, false, true, true, true, false, false, false, true, true, true, false, false, false, false, false] rfl rfl (any_of HT_.out (by kernel_rfl)) (fun _ _ _ h => h) (Or.inl ⟨by rfl, ?_⟩) ?_ ?_
                        rotate_left
                        · intro w'
                          go_simp
                          with_reducible rfl
                        rotate_left
                        · simp only [Act.put, List.setIfInBounds_toArray, List.set_cons_zero, List.set_cons_succ, i64_w, i32_w]
                          rfl
                        refine pure_ (i := 12) (N := some 49) (v := ?_) (a' := ?_) #[true, true, true, true, true, true, true, true, true, true, true, true, true, true, true, true, false, false, false, true, true, true, false, false, false, false, false] rfl rfl (any_of HT_.out (by kernel_rfl)) (fun _ _ _ h => h) (Or.inl ⟨by rfl, ?_⟩) ?_ ?_
                        rotate_left
                        · intro w'
                          go_simp
                          with_reducible rfl
                        rotate_left
                        · simp only [Act.put, List.setIfInBounds_toArray, List.set_cons_zero, List.set_cons_succ, i64_w, i32_w]
                          rfl
                        refine take_ (i := 16) (N := some 53) (v := ?_) (a' := ?_) #[true, true, true, true, true, true, true, true, true, true, true, true, true, true, true, true, true, false, false, true, true, true, false, false, false, false, false] rfl rfl (take_ofW HT_.out HW_.out (by kernel_rfl)) (fun _ _ _ h => h) (Or.inl ⟨by rfl, ?_⟩) hHeld ?_ ?_
                        rotate_left
                        · rintro w' ⟨s0, s1, s2, s3⟩
                          go_simp
                          with_reducible rfl
                        rotate_left
                        · simp only [Act.put, List.setIfInBounds_toArray, List.set_cons_zero, List.set_cons_succ, i64_w, i32_w]
                          rfl
                        refine pure_ (i := 17) (N := some 54) (v := ?_) (a' := ?_) #[true, true, true, true, true, true, true, true, true, true, true, true, true, true, true, true, true, true, false, true, true, true, false, false, false, false, false] rfl rfl (any_of HT_.out (by kernel_rfl)) (fun _ _ _ h => h) (Or.inl ⟨by rfl, ?_⟩) ?_ ?_
                        rotate_left
                        · intro w'
                          go_simp
                          with_reducible rfl
                        rotate_left
                        · simp only [Act.put, List.setIfInBounds_toArray, List.set_cons_zero, List.set_cons_succ, i64_w, i32_w]
                          rfl
                        refine pure_ (i := 18) (N := some 55) (v := ?_) (a' := ?_) #[true, true, true, true, true, true, true, true, true, true, true, true, true, true, true, true, true, true, true, true, true, true, false, false, false, false, false] rfl rfl (any_of HT_.out (by kernel_rfl)) (fun _ _ _ h => h) (Or.inl ⟨by rfl, ?_⟩) ?_ ?_
                        rotate_left
                        · intro w'
                          go_simp
                          with_reducible rfl
                        rotate_left
                        · simp only [Act.put, List.setIfInBounds_toArray, List.set_cons_zero, List.set_cons_succ, i64_w, i32_w]
                          rfl
                        refine take_ (i := 22) (N := some 59) (v := ?_) (a' := ?_) #[true, true, true, true, true, true, true, true, true, true, true, true, true, true, true, true, true, true, true, true, true, true, true, false, false, false, false] rfl rfl (take_ofW HT_.out HW_.out (by kernel_rfl)) (fun _ _ _ h => h) (Or.inl ⟨by rfl, ?_⟩) hHeld ?_ ?_
                        rotate_left
                        · rintro w' ⟨s0, s1, s2, s3⟩
                          go_simp
                          with_reducible rfl
                        rotate_left
                        · simp only [Act.put, List.setIfInBounds_toArray, List.set_cons_zero, List.set_cons_succ, i64_w, i32_w]
                          rfl
                        refine pure_ (i := 23) (N := some 60) (v := ?_) (a' := ?_) #[true, true, true, true, true, true, true, true, true, true, true, true, true, true, true, true, true, true, true, true, true, true, true, true, false, false, false] rfl rfl (any_of HT_.out (by kernel_rfl)) (fun _ _ _ h => h) (Or.inl ⟨by rfl, ?_⟩) ?_ ?_
                        rotate_left
                        · intro w'
                          go_simp
                          with_reducible rfl
                        rotate_left
                        · simp only [Act.put, List.setIfInBounds_toArray, List.set_cons_zero, List.set_cons_succ, i64_w, i32_w]
                          rfl
                        refine one_ (i := 24) (N := some 61) #[true, true, true, true, true, true, true, true, true, true, true, true, true, true, true, true, true, true, true, true, true, true, true, true, true, false, false] rfl rfl (one_of HT_.out (by kernel_rfl)) (by decide) (fun K hK => ?_)
                        refine Kd.R_lit_step (Kd.int .u8) _ 5 ?hg (N := 61) ?hd (xs := ([((rd x5_1 x8_2) / 16777216) % 256, ((rd x5_1 x8_2) / 65536) % 256, ((rd x5_1 x8_2) / 256) % 256, (rd x5_1 x8_2) % 256] : List Int)) (inner := [.int .u8 (((rd x5_1 x8_2) / 16777216) % 256), .int .u8 (((rd x5_1 x8_2) / 65536) % 256), .int .u8 (((rd x5_1 x8_2) / 256) % 256), .int .u8 ((rd x5_1 x8_2) % 256)]) (ok := fun _ => True) (okp := fun _ => True) ?hr ?hp (fun _ hk => hk) trivial (Below.refl _ _) (Nat.le_refl _) (by simp) ?_; (case hd => rfl); (case hg => rfl); (case hr => first | (go_simp; done) | (go_simp; rfl)); (case hp => exact (Reps.one (show Kd.M (Kd.int .u8) _ _ _ (((rd x5_1 x8_2) / 16777216) % 256) [.int .u8 (((rd x5_1 x8_2) / 16777216) % 256)] from rfl) (Reps.one (show Kd.M (Kd.int .u8) _ _ _ (((rd x5_1 x8_2) / 65536) % 256) [.int .u8 (((rd x5_1 x8_2) / 65536) % 256)] from rfl) (Reps.one (show Kd.M (Kd.int .u8) _ _ _ (((rd x5_1 x8_2) / 256) % 256) [.int .u8 (((rd x5_1 x8_2) / 256) % 256)] from rfl) (Reps.one (show Kd.M (Kd.int .u8) _ _ _ ((rd x5_1 x8_2) % 256) [.int .u8 ((rd x5_1 x8_2) % 256)] from rfl) (Reps.none _ _))))))
                        intro v192 w27 ho28 hb hg_ hnew_
                        have HS0_ := (hb.cell (World.block_lt_of_cell? _ _ (hHeld.1))).trans (hHeld.1)
                        have HS1_ := (hb.cell (World.block_lt_of_cell? _ _ (hHeld.2.1))).trans (hHeld.2.1)
                        have HS2_ := (hb.cell (World.block_lt_of_cell? _ _ (hHeld.2.2.1))).trans (hHeld.2.2.1)
                        have HS3_ := (hb.cell (World.block_lt_of_cell? _ _ (hHeld.2.2.2))).trans (hHeld.2.2.2)
                        clear hg_ hnew_
                        (first | rw [← Ny191.out] at ho28 | (simp only [Int.reduceToNat] at ho28; rw [← Ny191.out] at ho28))
                        have n0_ := Aside0.mk (Kd.R_below (by (with_reducible repeat (first | apply Kd.R_alloc | apply Kd.R_drewN | apply Kd.R_drew)); exact HO_5.out) hb)
                        have n1_ := Aside0.mk (Kd.R_elder' (by (with_reducible repeat (first | apply Kd.R_alloc | apply Kd.R_drewN | apply Kd.R_drew)); exact HO_7.out) (Kd.R_base ho28) hb)
                        have n2_ := Aside0.mk (Kd.R_lower (Kd.R_new' ho28 (Kd.R_lt (by (with_reducible repeat (first | apply Kd.R_alloc | apply Kd.R_drewN | apply Kd.R_drew)); exact HO_7.out))) (below_size (by repeat (first | (with_reducible first | exact HB.out | apply below_alloc | apply pw_below_drewN | apply below_drew1) | exact HB.out))))
                        have n3_ := Aside0.mk (below_step (by repeat (first | (with_reducible first | exact HB.out | apply below_alloc | apply pw_below_drewN | apply below_drew1) | exact HB.out)) hb)
                        clear HO_5
                        clear HO_7
                        clear HB
                        have HO_5 := n0_
                        have HO_7 := n1_
                        have HO193 := n2_
                        have HB := n3_
                        clear n0_ n1_ n2_ n3_
                        clear hb ho28
                        obtain ⟨Ao30, co30, eo30⟩ := Kd.R_slice HO193.out
                        (first | subst eo30 | (injection eo30 with f1_ f2_ f3_; have f4_ := f1_.symm; have f5_ := f3_.symm; clear f1_ f2_ f3_; subst f4_; subst f5_))
                        refine hK.out _ _ ⟨HS0_, HS1_, HS2_, HS3_⟩ (fun hHeld => ?_)
                        clear hK K
                        refine norm_ (a' := ?_) ?_ ?_
                        rotate_left
                        · show Act.put _ (some 61) _ = _
                          simp only [Act.put, List.setIfInBounds_toArray, List.set_cons_zero, List.set_cons_succ, i64_w, i32_w]
                          rfl
                        refine last_ (i := 25) (N := some 62) #[true, true, true, true, true, true, true, true, true, true, true, true, true, true, true, true, true, true, true, true, true, true, true, true, true, true, false] rfl rfl (one_of HT_.out (by kernel_rfl)) (by decide) (fun K hK => ?_)
                        refine Kd.R_append_rows_step (Kd.int .u8) (w0 := w) w.heap.size (by rfl) (.tmp 37) (.tmp 61) 22 5 (.int .u8 0) 1 rfl Try.underlying22 info5 rfl (by decide) (by omega) u7 x7_2 y191 _ _ _ (fun k_ => some k_ ≠ (.slice Ao30 y191.length co30 : Value).ownBlock) (fun _ => False) rfl rfl ?aO ?aR (fun _ _ h => h) (fun _ h => h.elim) ?aF ?aB ?aS ?aL ?_
                        (case aR => repeat (first | exact (Kd.R_reads' HO193.out).2.2 | (with_reducible refine Kd.C_alloc ?_ _) | (with_reducible refine Kd.C_drewN ?_ _) | (with_reducible refine Kd.C_drew ?_)))
                        (case aB => exact (by repeat (first | (with_reducible first | exact HB.out | apply below_alloc | apply pw_below_drewN | apply below_drew1) | exact HB.out)))
                        (case aF => exact (fun k_ hk => Kd.fresh' (Kd.R_lt (by (with_reducible repeat (first | apply Kd.R_alloc | apply Kd.R_drewN | apply Kd.R_drew)); exact HO193.out)) k_ hk))
                        (case aO => exact (by (with_reducible repeat (first | apply Kd.R_alloc | apply Kd.R_drewN | apply Kd.R_drew)); exact Kd.R_mono HO_7.out (fun _ hk => hk.2)))
                        (case aS => exact (below_size (by repeat (first | (with_reducible first | exact HB.out | apply below_alloc | apply pw_below_drewN | apply below_drew1) | exact HB.out))))
                        (case aL => have := LMc24.out; omega)
                        intro v195 w29 ho hb hg hat
                        rw [← Ny194.out] at ho
                        have n0_ := Aside0.mk (Kd.R_over' (by (with_reducible repeat (first | apply Kd.R_alloc | apply Kd.R_drewN | apply Kd.R_drew)); exact HO_5.out) (Kd.R_typed (by (with_reducible repeat (first | apply Kd.R_alloc | apply Kd.R_drewN | apply Kd.R_drew)); exact HO_7.out)) (by decide) hg)
                        have n1_ := Aside0.mk (Kd.R_after (ok := (fun _ => True)) (by (with_reducible repeat (first | apply Kd.R_alloc | apply Kd.R_drewN | apply Kd.R_drew)); exact HO193.out) hg hat)
                        have n2_ := Aside0.mk (hb)
                        have n3_ := Aside0.mk (ho)
                        clear HO_5
                        clear HO193
                        clear HB
                        clear HO_7
                        have HO_5 := n0_
                        have HO193 := n1_
                        have HB := n2_
                        have HO196 := n3_
                        clear n0_ n1_ n2_ n3_
                        clear ho hb hg hat
                        refine hK.out _ _ ?_
                        clear hK K
                        refine norm_ (a' := ?_) ?_ ?_
                        rotate_left
                        · show Act.put _ (some 62) _ = _
                          simp only [Act.put, List.setIfInBounds_toArray, List.set_cons_zero, List.set_cons_succ, i64_w, i32_w]
                          rfl
                        refine pure_ (i := 26) (N := some 7) (v := ?_) (a' := ?_) #[true, true, true, true, true, true, true, true, true, true, true, true, true, true, true, true, true, true, true, true, true, true, true, true, true, true, true] rfl rfl (any_of HT_.out (by kernel_rfl)) (fun _ _ _ h => h) (Or.inl ⟨by rfl, ?_⟩) ?_ ?_
                        rotate_left
                        · intro w'
                          go_simp
                          with_reducible rfl
                        rotate_left
                        · simp only [Act.put, List.setIfInBounds_toArray, List.set_cons_zero, List.set_cons_succ, i64_w, i32_w]
                          rfl
                        refine done_ (done_of HT_.out (by kernel_rfl)) ?_
                        try go_wp2
                        go_roundg k2
                        case measure => have := HK1.out; have := HK2.out; omega
                        case rel => exact ⟨(y194), (wrap64 (x8_2 + 1)), (by first | rfl | (simp; done) | (simp [*]; done)), H', ⟨by have := HK1.out; have := HK2.out; omega⟩, ⟨by (with_reducible repeat (first | apply Kd.R_alloc | apply Kd.R_drewN | apply Kd.R_drew)); exact HO_5.out⟩, ⟨by (with_reducible repeat (first | apply Kd.R_alloc | apply Kd.R_drewN | apply Kd.R_drew)); exact Kd.R_mono HO196.out (fun _ hk => trivial)⟩, ⟨by repeat (first | (with_reducible first | exact HB.out | apply below_alloc | apply pw_below_drewN | apply below_drew1) | exact HB.out)⟩⟩
                      · rw [if_neg c24] at H
                        exact absurd H (by simp)
                    · rw [if_neg c23] at H
                      exact absurd H (by simp)
                  · rw [if_neg c22] at H
                    exact absurd H (by simp)
                · rw [if_neg c21] at H
                  have c21b0 : decide (x8_2 < 8) = false := decide_eq_false c21
                  clear c21
                  obtain rfl := Option.some.inj H
                  go_wp2
                  go_ret
                  exact ⟨_, by first | rfl | (simp [errW_none, errW_some] <;> rfl) | (simp [*, errW_none, errW_some] <;> rfl), by (with_reducible repeat (first | apply Kd.R_alloc | apply Kd.R_drewN | apply Kd.R_drew)); exact HO_7.out, by repeat (first | (with_reducible first | exact HB.out | apply below_alloc | apply pw_below_drewN | apply below_drew1) | exact HB.out)⟩
    · rw [if_neg c4] at H
      exact absurd H (by simp)
  · rw [if_neg c2] at H
    exact absurd H (by simp)

end Go.Proofs.Ytnhljemnebgekaa.Rf

/-
  What the functions of these laws compute, as plain Lean functions, and that the machine's calls compute it: written by this session's own hook over the kit's print.
-/
namespace Go.Proofs.Ytnhljemnebgekaa.Rf
open Go.RowKit Go.Proofs.YtnhljemnebgekaaW.PrintWords Go.Proofs.YtnhljemnebgekaaW.PrintLast Go.Proofs.YtnhljemnebgekaaW.PrintMore
attribute [local go_sem] u32_sg u32_mx u64_sg u64_mx
attribute [local go_sem] max2_int min2_int max_two min_two max_three min_three max_four min_four   -- for this text's walks alone
set_option linter.unusedVariables false
set_option linter.unusedSimpArgs false

/-! ### heliastref04_Same: function 13 -/
def heliastref04_Same.l0 : Nat → List Int → List Int → Int → Option (Bool)
  | 0, _, _, _ => none
  | k + 1, x0, x1, x5 => if x5 < (x0.length : Int) then (if 0 ≤ x5 then (if x5 < (x1.length : Int) then (if (rd x0 x5) = (rd x1 x5) then (heliastref04_Same.l0 k x0 x1 (wrap64 (x5 + 1))) else (some false)) else (none)) else (none)) else (some true)
def heliastref04_Same.f (k : Nat) (l0 : List Int) (l1 : List Int) : Option (Bool) := if (l0.length : Int) = (l1.length : Int) then (heliastref04_Same.l0 k l0 l1 0) else (some false)
theorem heliastref04_Same.mono_l : ∀ k, (∀ y0 y1 y2, LeO (heliastref04_Same.l0 k y0 y1 y2) (heliastref04_Same.l0 (k + 1) y0 y1 y2))
  | 0 => fun _ _ _ r h => by simp [heliastref04_Same.l0] at h
  | k + 1 => by
    have ih0 := heliastref04_Same.mono_l k
    · intro y0 y1 y2
      unfold heliastref04_Same.l0
      repeat' first
      | (with_reducible exact ih0 _ _ _)
      | (with_reducible exact LeO.refl _)
      | (with_reducible exact LeO.none _)
      | (with_reducible refine LeO.ite ?_ ?_)
      | (with_reducible refine LeO.bind ?_ (fun _ => ?_))
      | exact ih0 _ _ _
      | exact LeO.none _
      | refine LeO.ite ?_ ?_
      | refine LeO.bind ?_ (fun _ => ?_)
theorem heliastref04_Same.mono : ∀ a0 a1 k, LeO (heliastref04_Same.f k a0 a1) (heliastref04_Same.f (k + 1) a0 a1) := by
  intro a0 a1 k
  have ih0 := heliastref04_Same.mono_l k
  unfold heliastref04_Same.f
  repeat' first
      | (with_reducible exact ih0 _ _ _)
      | (with_reducible exact LeO.refl _)
      | (with_reducible exact LeO.none _)
      | (with_reducible refine LeO.ite ?_ ?_)
      | (with_reducible refine LeO.bind ?_ (fun _ => ?_))
      | exact ih0 _ _ _
      | exact LeO.none _
      | refine LeO.ite ?_ ?_
      | refine LeO.bind ?_ (fun _ => ?_)
set_option maxHeartbeats 8000000 in
set_option maxRecDepth 100000 in
theorem heliastref04_Same.calls (k : Nat) (A0 : Option Addr) (c0 : Nat) (l0 : List Int) (A1 : Option Addr) (c1 : Nat) (l1 : List Int) (r : Bool) (w : World) (hr0 : Kd.C (Kd.int .u8) w A0 l0.length l0) (hc0 : l0.length ≤ c0) (hr1 : Kd.C (Kd.int .u8) w A1 l1.length l1) (hc1 : l1.length ≤ c1) (h : heliastref04_Same.f k l0 l1 = some r) :
    Calls Try.prog 13 #[.slice A0 l0.length c0, .slice A1 l1.length c1] w fun e w' => e = .returned (.bool r) ∧ Drawn0 w w' := by
  have HR0 := Aside0.mk hr0
  have HC0 := Aside0.mk hc0
  clear hr0 hc0
  have HR1 := Aside0.mk hr1
  have HC1 := Aside0.mk hc1
  clear hr1 hc1
  have H : (if (l0.length : Int) = (l1.length : Int) then (heliastref04_Same.l0 k l0 l1 0) else (some false)) = some r := h
  clear h
  by_cases c3 : (l0.length : Int) = (l1.length : Int)
  · rw [if_pos c3] at H
    have c3b0 : ((l0.length : Int) == (l1.length : Int)) = true := beq_iff_eq.mpr c3
    have c3b1 : ((l0.length : Int) != (l1.length : Int)) = false := bne_eq_false_iff_eq.mpr c3
    have c3b2 : (l0.length == l1.length) = true := by first | simpa using c3 | (simp at c3 ⊢; omega)
    clear c3
    have H' := Aside0.mk H
    clear H
    go_enter Try.func13, Try.ntmps13
    go_wp2
    repeat (go_quiet (fail); try go_wp2)
    go_loopg [5] k (fun kq v5 w' => ∃ (x5_1 : Int), v5 = .int .i64 x5_1 ∧ Aside0 (heliastref04_Same.l0 kq l0 l1 x5_1 = some r) ∧ Aside0 (kq ≤ k) ∧ Drawn0 w w')
    case atStart => exact ⟨(0), (by first | rfl | (simp; done) | (simp [*]; done)), H', ⟨Nat.le_refl _⟩, by repeat (first | exact Drawn0.refl _ | apply Drawn0.step)⟩
    case round =>
      clear H'
      try clear c1
      try clear p2
      try clear c3
      try clear c3b0
      try clear c3b1
      try clear c3b2
      obtain ⟨x5_1, rfl, HA, HK1, ⟨m1, rfl⟩⟩ := hrel
      cases gk with
      | zero => exact absurd HA.out (by simp [heliastref04_Same.l0])
      | succ k1 =>
        have H := HA.out
        clear HA
        simp only [heliastref04_Same.l0] at H
        by_cases c4 : x5_1 < (l0.length : Int)
        · rw [if_pos c4] at H
          have c4b0 : decide (x5_1 < (l0.length : Int)) = true := decide_eq_true c4
          clear c4
          by_cases c5 : 0 ≤ x5_1
          · rw [if_pos c5] at H
            have c5b0 : decide (0 ≤ x5_1) = true := decide_eq_true c5
            clear c5
            by_cases c6 : x5_1 < (l1.length : Int)
            · rw [if_pos c6] at H
              have c6b0 : decide (x5_1 < (l1.length : Int)) = true := decide_eq_true c6
              clear c6
              by_cases c7 : (rd l0 x5_1) = (rd l1 x5_1)
              · rw [if_pos c7] at H
                have c7b0 : ((rd l0 x5_1) == (rd l1 x5_1)) = true := beq_iff_eq.mpr c7
                have c7b1 : ((rd l0 x5_1) != (rd l1 x5_1)) = false := bne_eq_false_iff_eq.mpr c7
                clear c7
                have H' := Aside0.mk H
                clear H
                have p197 : 0 ≤ (x5_1 : Int) := of_decide_eq_true (by first | (with_reducible assumption) | assumption)
                have q197 : x5_1 < (l0.length : Int) := of_decide_eq_true (by first | (with_reducible assumption) | assumption)
                obtain ⟨ad197, e197, hx197_0⟩ := Kd.at_int HR0.out x5_1 p197 q197
                cases e197
                replace p197 := eq_true p197
                replace q197 := eq_true q197
                have p198 : 0 ≤ (x5_1 : Int) := of_decide_eq_true (by first | (with_reducible assumption) | assumption)
                have q198 : x5_1 < (l1.length : Int) := of_decide_eq_true (by first | (with_reducible assumption) | assumption)
                obtain ⟨ad198, e198, hx198_0⟩ := Kd.at_int HR1.out x5_1 p198 q198
                cases e198
                replace p198 := eq_true p198
                replace q198 := eq_true q198
                go_wp2
                repeat (go_quiet (fail); try go_wp2)
                go_roundg k1
                case measure => have := HK1.out; omega
                case rel => exact ⟨(wrap64 (x5_1 + 1)), (by first | rfl | (simp; done) | (simp [*]; done)), H', ⟨by have := HK1.out; omega⟩, by repeat (first | exact Drawn0.refl _ | apply Drawn0.step)⟩
              · rw [if_neg c7] at H
                have c7b0 : ((rd l0 x5_1) == (rd l1 x5_1)) = false := beq_eq_false_iff_ne.mpr c7
                have c7b1 : ((rd l0 x5_1) != (rd l1 x5_1)) = true := bne_iff_ne.mpr c7
                obtain rfl := Option.some.inj H
                have p197 : 0 ≤ (x5_1 : Int) := of_decide_eq_true (by first | (with_reducible assumption) | assumption)
                have q197 : x5_1 < (l0.length : Int) := of_decide_eq_true (by first | (with_reducible assumption) | assumption)
                obtain ⟨ad197, e197, hx197_0⟩ := Kd.at_int HR0.out x5_1 p197 q197
                cases e197
                replace p197 := eq_true p197
                replace q197 := eq_true q197
                have p198 : 0 ≤ (x5_1 : Int) := of_decide_eq_true (by first | (with_reducible assumption) | assumption)
                have q198 : x5_1 < (l1.length : Int) := of_decide_eq_true (by first | (with_reducible assumption) | assumption)
                obtain ⟨ad198, e198, hx198_0⟩ := Kd.at_int HR1.out x5_1 p198 q198
                cases e198
                replace p198 := eq_true p198
                replace q198 := eq_true q198
                go_wp2
                repeat (go_quiet (fail); try go_wp2)
                go_ret
                exact ⟨by first | rfl | (simp; done) | (simp [*]; done), by repeat (first | exact Drawn0.refl _ | apply Drawn0.step)⟩
            · rw [if_neg c6] at H
              exact absurd H (by simp)
          · rw [if_neg c5] at H
            exact absurd H (by simp)
        · rw [if_neg c4] at H
          have c4b0 : decide (x5_1 < (l0.length : Int)) = false := decide_eq_false c4
          clear c4
          obtain rfl := Option.some.inj H
          go_wp2
          repeat (go_quiet (fail); try go_wp2)
          go_ret
          exact ⟨by first | rfl | (simp; done) | (simp [*]; done), by repeat (first | exact Drawn0.refl _ | apply Drawn0.step)⟩
  · rw [if_neg c3] at H
    have c3b0 : ((l0.length : Int) == (l1.length : Int)) = false := beq_eq_false_iff_ne.mpr c3
    have c3b1 : ((l0.length : Int) != (l1.length : Int)) = true := bne_iff_ne.mpr c3
    have c3b2 : (l0.length == l1.length) = false := by first | simpa using c3 | (simp at c3 ⊢; omega)
    obtain rfl := Option.some.inj H
    go_enter Try.func13, Try.ntmps13
    go_wp2
    repeat (go_quiet (fail); try go_wp2)
    go_ret
    exact ⟨by first | rfl | (simp; done) | (simp [*]; done), by repeat (first | exact Drawn0.refl _ | apply Drawn0.step)⟩

/-- THE ONE PURE STATEMENT of heliastref04_Same: yours. -/
def heliastref04_Same.Pure : Prop := ∀ (l0 : List Int) (l1 : List Int), l0.length ≤ maxLen → l0.length * 1 ≤ 140737488351232 → (∀ x ∈ l0, (Lit.int .u8 x).wf = true) → l1.length ≤ maxLen → l1.length * 1 ≤ 140737488351232 → (∀ x ∈ l1, (Lit.int .u8 x).wf = true) → ∃ k, heliastref04_Same.f k l0 l1 = some true
theorem heliastref04_Same.walk (P : heliastref04_Same.Pure) (a0 : Option Addr) (len0 cap0 : Nat) (z0 : List Int) (a1 : Option Addr) (len1 cap1 : Nat) (z1 : List Int) (w : World) (w0 : (a0 = none ∧ len0 = 0 ∧ cap0 = 0 ∧ z0 = []) ∨ ∃ x, a0 = some x ∧ len0 ≤ cap0 ∧ cap0 ≤ maxLen ∧ z0.length = cap0 ∧ (∀ i, i < z0.length → w.cell? (x.add i) = some (.int .u8 (z0.getD i 0))) ∧ ∀ n ∈ z0, (Lit.int .u8 n).wf = true) (y0 : len0 * 1 ≤ 140737488351232) (w1 : (a1 = none ∧ len1 = 0 ∧ cap1 = 0 ∧ z1 = []) ∨ ∃ x, a1 = some x ∧ len1 ≤ cap1 ∧ cap1 ≤ maxLen ∧ z1.length = cap1 ∧ (∀ i, i < z1.length → w.cell? (x.add i) = some (.int .u8 (z1.getD i 0))) ∧ ∀ n ∈ z1, (Lit.int .u8 n).wf = true) (y1 : len1 * 1 ≤ 140737488351232) :
    Calls Try.prog 13 #[.slice a0 len0 cap0, .slice a1 len1 cap1] w fun e w' => e = .returned (.bool true) ∧ Below w.heap.size w w' := by
  obtain ⟨l0, rfl, hr0, hm0, hw0, hc0⟩ := ReadsInt.ofRowC w0
  obtain ⟨l1, rfl, hr1, hm1, hw1, hc1⟩ := ReadsInt.ofRowC w1
  obtain ⟨k, h⟩ := P l0 l1 hm0 y0 hw0 hm1 y1 hw1
  refine (heliastref04_Same.calls k _ _ l0 _ _ l1 true w (Kd.C_of_reads (d := (0 : Int)) (h1 := fun _ => rfl) hr0) hc0 (Kd.C_of_reads (d := (0 : Int)) (h1 := fun _ => rfl) hr1) hc1 h).mono ?_
  rintro e w' ⟨rfl, hd⟩
  exact ⟨rfl, hd.below⟩

end Go.Proofs.Ytnhljemnebgekaa.Rf

/-
  What the functions of these laws compute, as plain Lean functions, and that the machine's calls compute it: written by this session's own hook over the kit's print.
-/
namespace Go.Proofs.Ytnhljemnebgekaa.Rf
open Go.RowKit Go.Proofs.YtnhljemnebgekaaW.PrintWords Go.Proofs.YtnhljemnebgekaaW.PrintLast Go.Proofs.YtnhljemnebgekaaW.PrintMore
attribute [local go_sem] u32_sg u32_mx u64_sg u64_mx
attribute [local go_sem] max2_int min2_int max_two min_two max_three min_three max_four min_four   -- for this text's walks alone
set_option linter.unusedVariables false
set_option linter.unusedSimpArgs false

end Go.Proofs.Ytnhljemnebgekaa.Rf

/-
  The reference's Sum, Same and Tail of chapter 4, as the print tells them, tell the plain sum, the plain tail and whether two rows are the same.
-/
namespace Go.Proofs.Ytnhljemnebgekaa
set_option linter.unusedVariables false
set_option linter.unusedSimpArgs false
open Sha Go.RowKit Go.Proofs.YtnhljemnebgekaaW.PrintWords Go.Proofs.YtnhljemnebgekaaW.PrintLast Go.Proofs.YtnhljemnebgekaaW.PrintMore Go.Proofs.Ytnhljemnebgekaa.Rf
/-- Words as numbers. -/
def intsW (l : List Sha.W) : List Int := l.map fun x => (x.toNat : Int)
theorem intsW_length (l : List Sha.W) : (intsW l).length = l.length := by simp [intsW]
theorem rd_getD (l : List Int) (i : Nat) : rd l (i : Int) = l.getD i 0 := by simp [rd]
theorem rd_intsW (l : List Sha.W) (i : Nat) : rd (intsW l) (i : Int) = ((l.getD i 0).toNat : Int) := by
  rw [rd_getD, intsW, List.getD_eq_getElem?_getD, List.getElem?_map, List.getD_eq_getElem?_getD]
  cases l[i]? <;> simp
theorem ref_turn (x : Sha.W) (n : Nat) (h : n ≤ 32) : heliastref04_turn.f (x.toNat : Int) (n : Int) = some ((turn x n).toNat : Int) := by
  unfold heliastref04_turn.f
  have e1 : IntKind.u64.wrap (32 - (n : Int)) = ((32 - n : Nat) : Int) := by rw [IntKind.wrap_u64]; omega
  have e2 : shr .u32 (x.toNat : Int) (n : Int) = ((x >>> n).toNat : Int) := by
    unfold shr
    rw [Int.toNat_natCast, show IntKind.bits .u32 = 32 from rfl, Nat.min_eq_left h, BitVec.toNat_ushiftRight, Nat.shiftRight_eq_div_pow]
    simp
  have e3 : shl .u32 (x.toNat : Int) ((32 - n : Nat) : Int) = ((x <<< (32 - n)).toNat : Int) := by
    unfold shl
    rw [Int.toNat_natCast, show IntKind.bits .u32 = 32 from rfl, Nat.min_eq_left (by omega), IntKind.wrap_u32, BitVec.toNat_shiftLeft, Nat.shiftLeft_eq]
    simp
  rw [e1, if_pos (by omega), if_pos (by omega), e2, e3, or_nat, BitVec.or_comm]
  rfl
theorem rturn_2 (x : Sha.W) : heliastref04_turn.f (x.toNat : Int) 2 = some ((turn x 2).toNat : Int) := by
  have h := ref_turn x 2 (by decide)
  rwa [show ((2 : Nat) : Int) = 2 from rfl] at h
theorem rturn_6 (x : Sha.W) : heliastref04_turn.f (x.toNat : Int) 6 = some ((turn x 6).toNat : Int) := by
  have h := ref_turn x 6 (by decide)
  rwa [show ((6 : Nat) : Int) = 6 from rfl] at h
theorem rturn_7 (x : Sha.W) : heliastref04_turn.f (x.toNat : Int) 7 = some ((turn x 7).toNat : Int) := by
  have h := ref_turn x 7 (by decide)
  rwa [show ((7 : Nat) : Int) = 7 from rfl] at h
theorem rturn_11 (x : Sha.W) : heliastref04_turn.f (x.toNat : Int) 11 = some ((turn x 11).toNat : Int) := by
  have h := ref_turn x 11 (by decide)
  rwa [show ((11 : Nat) : Int) = 11 from rfl] at h
theorem rturn_13 (x : Sha.W) : heliastref04_turn.f (x.toNat : Int) 13 = some ((turn x 13).toNat : Int) := by
  have h := ref_turn x 13 (by decide)
  rwa [show ((13 : Nat) : Int) = 13 from rfl] at h
theorem rturn_17 (x : Sha.W) : heliastref04_turn.f (x.toNat : Int) 17 = some ((turn x 17).toNat : Int) := by
  have h := ref_turn x 17 (by decide)
  rwa [show ((17 : Nat) : Int) = 17 from rfl] at h
theorem rturn_18 (x : Sha.W) : heliastref04_turn.f (x.toNat : Int) 18 = some ((turn x 18).toNat : Int) := by
  have h := ref_turn x 18 (by decide)
  rwa [show ((18 : Nat) : Int) = 18 from rfl] at h
theorem rturn_19 (x : Sha.W) : heliastref04_turn.f (x.toNat : Int) 19 = some ((turn x 19).toNat : Int) := by
  have h := ref_turn x 19 (by decide)
  rwa [show ((19 : Nat) : Int) = 19 from rfl] at h
theorem rturn_22 (x : Sha.W) : heliastref04_turn.f (x.toNat : Int) 22 = some ((turn x 22).toNat : Int) := by
  have h := ref_turn x 22 (by decide)
  rwa [show ((22 : Nat) : Int) = 22 from rfl] at h
theorem rturn_25 (x : Sha.W) : heliastref04_turn.f (x.toNat : Int) 25 = some ((turn x 25).toNat : Int) := by
  have h := ref_turn x 25 (by decide)
  rwa [show ((25 : Nat) : Int) = 25 from rfl] at h
theorem or_sum (a b i : Nat) (h : b < 2 ^ i) : a * 2 ^ i ||| b = a * 2 ^ i + b := by
  have := Nat.two_pow_add_eq_or_of_lt h a
  rw [Nat.mul_comm] at this
  exact this.symm
theorem push_toNat (w : Sha.W) (c : UInt8) (h : w.toNat < 2 ^ 24) : (push w c).toNat = w.toNat * 256 + c.toNat := by
  have hc := c.toNat_lt
  have h1 := push_nat w c
  have e1 : (w.toNat : Int) * 256 % 4294967296 = ((w.toNat * 256 : Nat) : Int) := by omega
  rw [e1, u32_or_nat _ _ (by omega) (by omega)] at h1
  have h2 : w.toNat * 256 ||| c.toNat = w.toNat * 256 + c.toNat := or_sum w.toNat c.toNat 8 (by omega)
  omega
theorem four_toNat (c0 c1 c2 c3 : UInt8) : (four [c0, c1, c2, c3]).toNat = c0.toNat * 16777216 + c1.toNat * 65536 + c2.toNat * 256 + c3.toNat := by
  have h0 := c0.toNat_lt; have h1 := c1.toNat_lt; have h2 := c2.toNat_lt; have h3 := c3.toNat_lt
  have e : four [c0, c1, c2, c3] = push (push (push (push 0 c0) c1) c2) c3 := rfl
  have p0 := push_toNat 0 c0 (by decide)
  rw [show (0 : Sha.W).toNat = 0 from rfl] at p0
  have p1 := push_toNat (push 0 c0) c1 (by omega)
  have p2 := push_toNat (push (push 0 c0) c1) c2 (by omega)
  have p3 := push_toNat (push (push (push 0 c0) c1) c2) c3 (by omega)
  rw [e, p3, p2, p1, p0]; omega
theorem four_int (c0 c1 c2 c3 : UInt8) : Go.bits .or .u32 (Go.bits .or .u32 (Go.bits .or .u32 ((((c0.toNat : Int) % 4294967296) * 16777216) % 4294967296) ((((c1.toNat : Int) % 4294967296) * 65536) % 4294967296)) ((((c2.toNat : Int) % 4294967296) * 256) % 4294967296)) ((c3.toNat : Int) % 4294967296) = ((four [c0, c1, c2, c3]).toNat : Int) := by
  have h0 := c0.toNat_lt; have h1 := c1.toNat_lt; have h2 := c2.toNat_lt; have h3 := c3.toNat_lt
  have e0 : (((c0.toNat : Int) % 4294967296) * 16777216) % 4294967296 = ((c0.toNat * 2 ^ 24 : Nat) : Int) := by omega
  have e1 : (((c1.toNat : Int) % 4294967296) * 65536) % 4294967296 = ((c1.toNat * 65536 : Nat) : Int) := by omega
  have e2 : (((c2.toNat : Int) % 4294967296) * 256) % 4294967296 = ((c2.toNat * 256 : Nat) : Int) := by omega
  have e3 : (c3.toNat : Int) % 4294967296 = (c3.toNat : Int) := by omega
  have s1 := or_sum c0.toNat (c1.toNat * 65536) 24 (by omega)
  have s2 := or_sum (c0.toNat * 256 + c1.toNat) (c2.toNat * 256) 16 (by omega)
  have s3 := or_sum (c0.toNat * 65536 + c1.toNat * 256 + c2.toNat) c3.toNat 8 (by omega)
  rw [e0, e1, e2, e3, u32_or_nat _ _ (by omega) (by omega), s1, show c0.toNat * 2 ^ 24 + c1.toNat * 65536 = (c0.toNat * 256 + c1.toNat) * 2 ^ 16 by omega, u32_or_nat _ _ (by omega) (by omega), s2,
    show (c0.toNat * 256 + c1.toNat) * 2 ^ 16 + c2.toNat * 256 = (c0.toNat * 65536 + c1.toNat * 256 + c2.toNat) * 2 ^ 8 by omega, u32_or_nat _ _ (by omega) (by omega), s3, four_toNat]
  omega
theorem take4 (b : List UInt8) (t : Nat) (h : 4 * t + 4 ≤ b.length) : (b.drop (4 * t)).take 4 = [b.getD (4 * t) 0, b.getD (4 * t + 1) 0, b.getD (4 * t + 2) 0, b.getD (4 * t + 3) 0] := by
  have e : ∀ i, i < 4 → b.getD (4 * t + i) 0 = (b.drop (4 * t)).getD i 0 := fun i _ => by simp [List.getD_eq_getElem?_getD]
  rw [← Nat.add_zero (4 * t)] 
  rw [show 4 * t + 0 + 1 = 4 * t + 1 by omega, show 4 * t + 0 + 2 = 4 * t + 2 by omega, show 4 * t + 0 + 3 = 4 * t + 3 by omega, e 0 (by omega), e 1 (by omega), e 2 (by omega), e 3 (by omega), Nat.add_zero]
  have hl : 4 ≤ (b.drop (4 * t)).length := by rw [List.length_drop]; omega
  match hd : b.drop (4 * t), hl with
  | x0 :: x1 :: x2 :: x3 :: l, _ => rfl
theorem ref_words_l1 (b : List UInt8) : ∀ d t k : Nat, 16 ≤ t → t + d = 64 → d < k → heliastref04_words.l1 k (intsW (upto b t)) (t : Int) = some (intsW (words b)) := by
  intro d
  induction d with
  | zero =>
    intro t k h16 hj hk
    obtain ⟨k, rfl⟩ : ∃ m, k = m + 1 := ⟨k - 1, by omega⟩
    obtain rfl : t = 64 := by omega
    simp only [heliastref04_words.l1]
    rw [if_neg (by omega)]
    rfl
  | succ d ih =>
    intro t k h16 hj hk
    obtain ⟨k, rfl⟩ : ∃ m, k = m + 1 := ⟨k - 1, by omega⟩
    have hl : (upto b t).length = t := upto_length b t
    have e15 : wrap64 ((t : Int) - 15) = ((t - 15 : Nat) : Int) := by rw [wrap64_small (by omega) (by omega)]; omega
    have e2 : wrap64 ((t : Int) - 2) = ((t - 2 : Nat) : Int) := by rw [wrap64_small (by omega) (by omega)]; omega
    have e7 : wrap64 ((t : Int) - 7) = ((t - 7 : Nat) : Int) := by rw [wrap64_small (by omega) (by omega)]; omega
    have e16 : wrap64 ((t : Int) - 16) = ((t - 16 : Nat) : Int) := by rw [wrap64_small (by omega) (by omega)]; omega
    have e1 : wrap64 ((t : Int) + 1) = ((t + 1 : Nat) : Int) := by rw [wrap64_small (by omega) (by omega)]; omega
    simp only [heliastref04_words.l1]
    simp only [e15, e2, e7, e16, e1, rd_intsW, intsW_length, hl, rturn_7, rturn_18, rturn_17, rturn_19, Option.bind_some]
    clear e15 e2 e7 e16 e1
    rw [if_pos (by omega), if_pos (by omega), if_pos (by omega), if_pos (by omega), if_pos (by omega), if_pos (by omega), if_pos (by omega), if_pos (by omega), if_pos (by omega), if_pos (by omega)]
    have s1 := small_nat ((upto b t).getD (t - 2) 0) 17 19 10 1024 (by decide)
    have s2 := small_nat ((upto b t).getD (t - 15) 0) 7 18 3 8 (by decide)
    simp only [Int.cast_ofNat_Int] at s1 s2
    rw [s1, s2, add_nat, add_nat, add_nat]
    have hn : small ((upto b t).getD (t - 2) 0) 17 19 10 + (upto b t).getD (t - 7) 0 + small ((upto b t).getD (t - 15) 0) 7 18 3 + (upto b t).getD (t - 16) 0 = next (upto b t) := by
      unfold next; rw [hl]
    rw [hn]
    have hu : intsW (upto b t) ++ [((next (upto b t)).toNat : Int)] = intsW (upto b (t + 1)) := by rw [upto_more b t h16]; simp [intsW]
    rw [hu]
    exact ih (t + 1) k (by omega) (by omega) (by omega)
theorem ref_words_l0 (b : List UInt8) (hb : b.length = 64) : ∀ d t k : Nat, t + d = 16 → d + 60 < k → heliastref04_words.l0 k (intsB b) (intsW (upto b t)) (t : Int) = some (intsW (words b)) := by
  intro d
  induction d with
  | zero =>
    intro t k hj hk
    obtain ⟨k, rfl⟩ : ∃ m, k = m + 1 := ⟨k - 1, by omega⟩
    obtain rfl : t = 16 := by omega
    simp only [heliastref04_words.l0]
    rw [if_neg (by omega)]
    exact ref_words_l1 b 48 16 k (by omega) (by omega) (by omega)
  | succ d ih =>
    intro t k hj hk
    obtain ⟨k, rfl⟩ : ∃ m, k = m + 1 := ⟨k - 1, by omega⟩
    have e4 : wrap64 (4 * (t : Int)) = ((4 * t : Nat) : Int) := by rw [wrap64_small (by omega) (by omega)]; omega
    have e41 : wrap64 (((4 * t : Nat) : Int) + 1) = ((4 * t + 1 : Nat) : Int) := by rw [wrap64_small (by omega) (by omega)]; omega
    have e42 : wrap64 (((4 * t : Nat) : Int) + 2) = ((4 * t + 2 : Nat) : Int) := by rw [wrap64_small (by omega) (by omega)]; omega
    have e43 : wrap64 (((4 * t : Nat) : Int) + 3) = ((4 * t + 3 : Nat) : Int) := by rw [wrap64_small (by omega) (by omega)]; omega
    have e1 : wrap64 ((t : Int) + 1) = ((t + 1 : Nat) : Int) := by rw [wrap64_small (by omega) (by omega)]; omega
    simp only [heliastref04_words.l0]
    rw [e4, e41, e42, e43, e1, rd_intsB, rd_intsB, rd_intsB, rd_intsB, intsB_length, intsW_length, upto_length, hb, if_pos (by omega), if_pos (by omega), if_pos (by omega), if_pos (by omega), if_pos (by omega), if_pos (by omega), if_pos (by omega), if_pos (by omega), if_pos (by omega), if_pos (by omega), four_int, ← take4 b t (by omega)]
    have hu : intsW (upto b t) ++ [((four ((b.drop (4 * t)).take 4)).toNat : Int)] = intsW (upto b (t + 1)) := by rw [upto_first b t (by omega)]; simp [intsW]
    rw [hu]
    exact ih (t + 1) k (by omega) (by omega)
theorem ref_words (b : List UInt8) (hb : b.length = 64) (k : Nat) (hk : 80 ≤ k) : heliastref04_words.f k (intsB b) = some (intsW (words b)) :=
  ref_words_l0 b hb 16 0 k (by omega) (by omega)
theorem ref_keys : heliastref04_keys.f = some (intsW keys) := rfl
theorem ref_block_l1 (x y : St) : ∀ d j k : Nat, j + d = 8 → d < k → heliastref04_block.l1 k (intsW x.list) (intsW (mixed y.list x.list j)) (j : Int) = some (intsW (y.add x).list) := by
  intro d
  induction d with
  | zero =>
    intro j k hj hk
    obtain ⟨k, rfl⟩ : ∃ m, k = m + 1 := ⟨k - 1, by omega⟩
    obtain rfl : j = 8 := by omega
    simp only [heliastref04_block.l1]
    rw [if_neg (by omega), mixed_all]
  | succ d ih =>
    intro j k hj hk
    obtain ⟨k, rfl⟩ : ∃ m, k = m + 1 := ⟨k - 1, by omega⟩
    have e1 : wrap64 ((j : Int) + 1) = ((j + 1 : Nat) : Int) := by rw [wrap64_small (by omega) (by omega)]; omega
    simp only [heliastref04_block.l1]
    rw [e1, rd_intsW, rd_intsW, add_nat, intsW_length, intsW_length, mixed_length, show y.list.length = 8 from rfl, show x.list.length = 8 from rfl, if_pos (by omega), if_pos (by omega), if_pos (by omega), if_pos (by omega), Int.toNat_natCast]
    have hm : (intsW (mixed y.list x.list j)).set j (((mixed y.list x.list j).getD j 0 + x.list.getD j 0).toNat : Int) = intsW (mixed y.list x.list (j + 1)) := by
      rw [mixed]; simp [intsW, List.map_set]
    rw [hm]
    exact ih (j + 1) k (by omega) (by omega)
theorem ref_block_l0 (x : St) (b : List UInt8) : ∀ d t k : Nat, t + d = 64 → d + 20 < k → heliastref04_block.l0 k (intsW x.list) (intsW (words b)) (intsW keys) (intsW (rounds x b t).list) (t : Int) = some (intsW (take x b).list) := by
  intro d
  induction d with
  | zero =>
    intro t k hj hk
    obtain ⟨k, rfl⟩ : ∃ m, k = m + 1 := ⟨k - 1, by omega⟩
    obtain rfl : t = 64 := by omega
    simp only [heliastref04_block.l0]
    rw [if_neg (by omega)]
    exact ref_block_l1 x (rounds x b 64) 8 0 k (by omega) (by omega)
  | succ d ih =>
    intro t k hj hk
    obtain ⟨k, rfl⟩ : ∃ m, k = m + 1 := ⟨k - 1, by omega⟩
    obtain ⟨y, hy⟩ : ∃ y, rounds x b t = y := ⟨_, rfl⟩
    have hsucc : rounds x b (t + 1) = round y (keys.getD t 0) ((words b).getD t 0) := by rw [rounds, hy]
    rw [hy]
    obtain ⟨A, B, C, D, E, F, G, H⟩ := y
    have r0 : rd (intsW (St.list ⟨A, B, C, D, E, F, G, H⟩)) 0 = (A.toNat : Int) := rfl
    have r1 : rd (intsW (St.list ⟨A, B, C, D, E, F, G, H⟩)) 1 = (B.toNat : Int) := rfl
    have r2 : rd (intsW (St.list ⟨A, B, C, D, E, F, G, H⟩)) 2 = (C.toNat : Int) := rfl
    have r3 : rd (intsW (St.list ⟨A, B, C, D, E, F, G, H⟩)) 3 = (D.toNat : Int) := rfl
    have r4 : rd (intsW (St.list ⟨A, B, C, D, E, F, G, H⟩)) 4 = (E.toNat : Int) := rfl
    have r5 : rd (intsW (St.list ⟨A, B, C, D, E, F, G, H⟩)) 5 = (F.toNat : Int) := rfl
    have r6 : rd (intsW (St.list ⟨A, B, C, D, E, F, G, H⟩)) 6 = (G.toNat : Int) := rfl
    have r7 : rd (intsW (St.list ⟨A, B, C, D, E, F, G, H⟩)) 7 = (H.toNat : Int) := rfl
    have hl8 : (intsW (St.list ⟨A, B, C, D, E, F, G, H⟩)).length = 8 := rfl
    have e1 : wrap64 ((t : Int) + 1) = ((t + 1 : Nat) : Int) := by rw [wrap64_small (by omega) (by omega)]; omega
    have hwl : (words b).length = 64 := upto_length b 64
    have hkl : keys.length = 64 := rfl
    simp only [heliastref04_block.l0]
    simp only [r0, r1, r2, r3, r4, r5, r6, r7, hl8, e1, rd_intsW, intsW_length, hwl, hkl, rturn_6, rturn_11, rturn_25, rturn_2, rturn_13, rturn_22, Option.bind_some]
    clear e1 r0 r1 r2 r3 r4 r5 r6 r7
    rw [if_pos (by omega), if_pos (by omega), if_pos (by omega), if_pos (by omega), if_pos (by omega), if_pos (by omega), if_pos (by omega), if_pos (by omega), if_pos (by omega), if_pos (by omega), if_pos (by omega), if_pos (by omega)]
    obtain ⟨kw, hkw⟩ : ∃ kw, keys.getD t 0 = kw := ⟨_, rfl⟩
    obtain ⟨ww, hww⟩ : ∃ ww, (words b).getD t 0 = ww := ⟨_, rfl⟩
    rw [hkw, hww] at hsucc ⊢
    have g1 := great_nat E 6 11 25
    have g2 := great_nat A 2 13 22
    rw [g1, g2]
    simp only [and_nat, not_nat, xor_nat, add_nat]
    have hr : [(((H + great E 6 11 25 + ((E &&& F) ^^^ (~~~E &&& G)) + kw + ww + (great A 2 13 22 + ((A &&& B) ^^^ (A &&& C) ^^^ (B &&& C)))).toNat : Nat) : Int), (A.toNat : Int), (B.toNat : Int), (C.toNat : Int), ((D + (H + great E 6 11 25 + ((E &&& F) ^^^ (~~~E &&& G)) + kw + ww)).toNat : Int), (E.toNat : Int), (F.toNat : Int), (G.toNat : Int)] = intsW (rounds x b (t + 1)).list := by
      rw [hsucc]; rfl
    rw [hr]
    exact ih (t + 1) k (by omega) (by omega)
theorem ref_block (x : St) (b : List UInt8) (hb : b.length = 64) (k : Nat) (hk : 100 ≤ k) : heliastref04_block.f k (intsW x.list) (intsB b) = some (intsW (take x b).list) := by
  unfold heliastref04_block.f
  rw [ref_words b hb k (by omega), Option.bind_some, ref_keys, Option.bind_some, if_pos (by rw [intsW_length, show x.list.length = 8 from rfl]; decide), List.nil_append]
  exact ref_block_l0 x b 64 0 k (by omega) (by omega)
theorem vals_take (n d : Nat) (h : d < 8) : (vals n 8).take (8 - (d + 1)) ++ [vb n d] = (vals n 8).take (8 - d) := by
  have : d = 0 ∨ d = 1 ∨ d = 2 ∨ d = 3 ∨ d = 4 ∨ d = 5 ∨ d = 6 ∨ d = 7 := by omega
  rcases this with rfl | rfl | rfl | rfl | rfl | rfl | rfl | rfl <;> rfl
theorem ref_tail_l1 (n : Nat) (A : List Int) (hA : A.length ≤ 200) : ∀ (d k : Nat) (x : Int), d ≤ 8 → x = (d : Int) - 1 → d < k → heliastref04_Tail.l1 k (A ++ (vals n 8).take (8 - d)) (IntKind.u64.wrap ((n : Int) * 8)) x = some (A ++ vals n 8) := by
  intro d
  induction d with
  | zero =>
    intro k x hd hx hk
    obtain ⟨k, rfl⟩ : ∃ m, k = m + 1 := ⟨k - 1, by omega⟩
    simp only [heliastref04_Tail.l1]
    rw [if_neg (by omega), List.take_of_length_le (by rw [vals_length]; omega)]
  | succ d ih =>
    intro k x hd hx hk
    obtain ⟨k, rfl⟩ : ∃ m, k = m + 1 := ⟨k - 1, by omega⟩
    obtain rfl : x = (d : Int) := by omega
    clear hx
    have hl : (A ++ (vals n 8).take (8 - (d + 1))).length ≤ 208 := by
      rw [List.length_append, List.length_take, vals_length]; omega
    have e1 : IntKind.u64.wrap (wrap64 (8 * (d : Int))) = ((8 * d : Nat) : Int) := by rw [wrap64_small (by omega) (by omega), IntKind.wrap_u64]; omega
    have e2 : wrap64 ((d : Int) - 1) = (d : Int) - 1 := wrap64_small (by omega) (by omega)
    simp only [heliastref04_Tail.l1]
    rw [e1, e2, shr_vb n d (by omega), List.append_assoc, vals_take n d (by omega)]
    clear e1 e2
    rw [if_pos (by omega), if_pos (by omega), if_pos (by omega)]
    exact ih k _ (by omega) rfl (by omega)
theorem ref_tail_l0 (n : Nat) (hn : n < 18446744073709551616) : ∀ d j k : Nat, j + d = room n → d + 20 < k → heliastref04_Tail.l0 k n (128 :: List.replicate j 0) = some (intsB (tail n)) := by
  have hr : room n = (119 - n % 64) % 64 := rfl
  intro d
  induction d with
  | zero =>
    intro j k hj hk
    obtain ⟨k, rfl⟩ : ∃ m, k = m + 1 := ⟨k - 1, by omega⟩
    have hc : Int.tmod (IntKind.u64.wrap ((Int.tmod (n : Int) 64) + (IntKind.u64.wrap (((128 :: List.replicate j (0 : Int)).length : Int))))) 64 = 56 := by
      rw [List.length_cons, List.length_replicate, Int.tmod_eq_emod_of_nonneg (a := (n : Int)) (by omega), Int.tmod_eq_emod_of_nonneg (by simp only [IntKind.wrap_u64]; omega)]
      simp only [IntKind.wrap_u64]; omega
    simp only [heliastref04_Tail.l0]
    rw [if_pos hc]
    have h := ref_tail_l1 n (128 :: List.replicate j 0) (by simp; omega) 8 k 7 (by omega) (by omega) (by omega)
    rw [Nat.sub_self, List.take_zero, List.append_nil] at h
    rw [h, vals_8]
    obtain rfl : j = room n := by omega
    simp [tail, intsB, List.map_replicate]
  | succ d ih =>
    intro j k hj hk
    obtain ⟨k, rfl⟩ : ∃ m, k = m + 1 := ⟨k - 1, by omega⟩
    have hc : ¬ Int.tmod (IntKind.u64.wrap ((Int.tmod (n : Int) 64) + (IntKind.u64.wrap (((128 :: List.replicate j (0 : Int)).length : Int))))) 64 = 56 := by
      rw [List.length_cons, List.length_replicate, Int.tmod_eq_emod_of_nonneg (a := (n : Int)) (by omega), Int.tmod_eq_emod_of_nonneg (by simp only [IntKind.wrap_u64]; omega)]
      simp only [IntKind.wrap_u64]; omega
    simp only [heliastref04_Tail.l0]
    rw [if_neg hc, if_pos (by simp; omega)]
    have e : (128 :: List.replicate j (0 : Int)) ++ [0] = 128 :: List.replicate (j + 1) 0 := by rw [List.cons_append, List.replicate_succ']
    rw [e]
    exact ih (j + 1) k (by omega) (by omega)
theorem ref_tail (n : Nat) (hn : n < 18446744073709551616) (k : Nat) (hk : 100 ≤ k) : heliastref04_Tail.f k n = some (intsB (tail n)) := by
  have hr : room n < 64 := Nat.mod_lt _ (by decide)
  exact ref_tail_l0 n hn (room n) 0 k (by omega) (by omega)
theorem ref_sum_l1 (st : St) : ∀ d j k : Nat, j + d = 8 → d < k → heliastref04_Sum.l1 k (intsW st.list) (intsB (outTo st j)) (j : Int) = some (intsB (out st)) := by
  intro d
  induction d with
  | zero =>
    intro j k hj hk
    obtain ⟨k, rfl⟩ : ∃ m, k = m + 1 := ⟨k - 1, by omega⟩
    obtain rfl : j = 8 := by omega
    simp only [heliastref04_Sum.l1]
    rw [if_neg (by omega)]
    rfl
  | succ d ih =>
    intro j k hj hk
    obtain ⟨k, rfl⟩ : ∃ m, k = m + 1 := ⟨k - 1, by omega⟩
    have e1 : wrap64 ((j : Int) + 1) = ((j + 1 : Nat) : Int) := by rw [wrap64_small (by omega) (by omega)]; omega
    simp only [heliastref04_Sum.l1]
    have hy := bytes4_int' (st.list.getD j 0)
    have hb : (((st.list.getD j 0).toNat : Int) / 16777216) % 256 = ((st.list.getD j 0).toNat : Int) / 16777216 := by
      have := (st.list.getD j 0).isLt
      omega
    rw [e1, rd_intsW, intsW_length, show st.list.length = 8 from rfl, hb, ← hy]
    clear e1 hb hy
    rw [if_pos (by omega), if_pos (by omega), if_pos (by omega), Option.bind_some, if_pos (by rw [intsB_length, intsB_length, outTo_length st j (by omega)]; simp [bytes4]; omega), ← intsB_append, ← outTo_succ st j (by omega)]
    exact ih (j + 1) k (by omega) (by omega)
theorem ref_sum_l0 (D : List UInt8) (hD : D.length % 64 = 0) (hDl : D.length ≤ 1099511627776) : ∀ d q k : Nat, q + d = D.length / 64 → d + 200 < k → heliastref04_Sum.l0 k (intsB D) (intsW (run init D q).list) ((64 * q : Nat) : Int) = some (intsB (out (run init D (D.length / 64)))) := by
  intro d
  induction d with
  | zero =>
    intro q k hj hk
    obtain ⟨k, rfl⟩ : ∃ m, k = m + 1 := ⟨k - 1, by omega⟩
    simp only [heliastref04_Sum.l0]
    rw [if_neg (by rw [intsB_length]; omega), show D.length / 64 = q by omega]
    exact ref_sum_l1 (run init D q) 8 0 k (by omega) (by omega)
  | succ d ih =>
    intro q k hj hk
    obtain ⟨k, rfl⟩ : ∃ m, k = m + 1 := ⟨k - 1, by omega⟩
    have e1 : wrap64 (((64 * q : Nat) : Int) + 64) = ((64 * (q + 1) : Nat) : Int) := by rw [wrap64_small (by omega) (by omega)]; omega
    simp only [heliastref04_Sum.l0]
    rw [e1]
    clear e1
    have hs : ((intsB D).take ((64 * (q + 1) : Nat) : Int).toNat).drop ((64 * q : Nat) : Int).toNat = intsB ((D.drop (64 * q)).take 64) := by
      rw [Int.toNat_natCast, Int.toNat_natCast, intsB, ← List.map_take, ← List.map_drop, List.drop_take, show 64 * (q + 1) - 64 * q = 64 by omega]
      rfl
    rw [hs, if_pos (by rw [intsB_length]; omega), if_pos (by omega), if_pos (by omega), if_pos (by rw [intsB_length]; omega),
      ref_block (run init D q) _ (by rw [List.length_take, List.length_drop]; omega) k (by omega), Option.bind_some]
    exact ih (q + 1) k (by omega) (by omega)
theorem ref_sum (l : List UInt8) (h : l.length ≤ 1099511000000) (k : Nat) (hk : l.length + 300 ≤ k) : heliastref04_Sum.f k (intsB l) = some (intsB (Sha.sum l)) := by
  have hr : room l.length < 64 := Nat.mod_lt _ (by decide)
  have ht : (tail l.length).length = room l.length + 9 := tail_length _
  have hw := tail_whole l.length
  unfold heliastref04_Sum.f
  have e1 : IntKind.u64.wrap (((intsB l).length : Int)) = (l.length : Int) := by rw [intsB_length, IntKind.wrap_u64]; omega
  rw [e1]
  clear e1
  rw [if_pos (by rw [intsB_length]; simp; omega), Option.bind_some, ref_tail l.length (by omega) k (by omega), Option.bind_some, List.nil_append, if_pos (by rw [intsB_length, intsB_length]; omega), ← intsB_append]
  have hl : (l ++ tail l.length).length = l.length + (tail l.length).length := List.length_append
  have h := ref_sum_l0 (l ++ tail l.length) (by rw [hl]; exact hw) (by rw [hl]; omega) ((l ++ tail l.length).length / 64) 0 k (by omega) (by rw [hl]; omega)
  rw [hl] at h
  exact h
theorem ref_same_l0 (a b : List UInt8) (hab : a.length = b.length) : ∀ d j k : Nat, j + d = a.length → d < k → a.length ≤ 9223372036854775806 → heliastref04_Same.l0 k (intsB a) (intsB b) (j : Int) = some (decide (a.drop j = b.drop j)) := by
  intro d
  induction d with
  | zero =>
    intro j k hj hk hm
    obtain ⟨k, rfl⟩ : ∃ m, k = m + 1 := ⟨k - 1, by omega⟩
    simp only [heliastref04_Same.l0]
    rw [if_neg (by rw [intsB_length]; omega), List.drop_of_length_le (by omega), List.drop_of_length_le (by omega)]
    simp
  | succ d ih =>
    intro j k hj hk hm
    obtain ⟨k, rfl⟩ : ∃ m, k = m + 1 := ⟨k - 1, by omega⟩
    have e1 : wrap64 ((j : Int) + 1) = ((j + 1 : Nat) : Int) := by rw [wrap64_small (by omega) (by omega)]; omega
    simp only [heliastref04_Same.l0]
    rw [e1, rd_intsB, rd_intsB]
    clear e1
    have ha : a.drop j = a.getD j 0 :: a.drop (j + 1) := by
      rw [List.drop_eq_getElem_cons (by omega)]; simp [List.getD_eq_getElem?_getD, List.getElem?_eq_getElem (show j < a.length by omega)]
    have hb : b.drop j = b.getD j 0 :: b.drop (j + 1) := by
      rw [List.drop_eq_getElem_cons (by omega)]; simp [List.getD_eq_getElem?_getD, List.getElem?_eq_getElem (show j < b.length by omega)]
    rw [if_pos (by rw [intsB_length]; omega), if_pos (by omega), if_pos (by rw [intsB_length]; omega)]
    have hc : (((a.getD j 0).toNat : Int) = ((b.getD j 0).toNat : Int)) ↔ a.getD j 0 = b.getD j 0 := by
      rw [← UInt8.toNat_inj]; omega
    by_cases h : a.getD j 0 = b.getD j 0
    · rw [if_pos (hc.2 h), ih (j + 1) k (by omega) (by omega) hm, ha, hb, h]
      simp
    · rw [if_neg (fun e => h (hc.1 e)), ha, hb]
      exact congrArg some (decide_eq_false (fun e => h (List.cons.inj e).1)).symm
theorem ref_same (a b : List UInt8) (ha : a.length ≤ 9223372036854775806) (k : Nat) (hk : a.length < k) : heliastref04_Same.f k (intsB a) (intsB b) = some (decide (a = b)) := by
  unfold heliastref04_Same.f
  rw [intsB_length, intsB_length]
  by_cases h : a.length = b.length
  · rw [if_pos (by omega), show (0 : Int) = ((0 : Nat) : Int) from rfl, ref_same_l0 a b h a.length 0 k (by omega) hk ha]
    rfl
  · rw [if_neg (by omega)]
    have : a ≠ b := fun e => h (by rw [e])
    simp [this]
theorem same_any (a1 a2 : Option Addr) (c1 c2 : Nat) (l1 l2 : List UInt8) (w : World) (h1 : Rd w a1 l1) (hc1 : l1.length ≤ c1) (h2 : Rd w a2 l2) (hc2 : l2.length ≤ c2) (hl : l1.length ≤ 9223372036854775806) :
    Calls Try.prog 13 #[.slice a1 l1.length c1, .slice a2 l2.length c2] w fun e w' => e = .returned (.bool (decide (l1 = l2))) ∧ ∃ n, w' = w.drewN n := by
  have h := heliastref04_Same.calls (l1.length + 1) a1 c1 (intsB l1) a2 c2 (intsB l2) _ w (by rw [intsB_length]; exact h1) (by rw [intsB_length]; exact hc1) (by rw [intsB_length]; exact h2) (by rw [intsB_length]; exact hc2) (ref_same l1 l2 hl _ (by omega))
  rw [intsB_length, intsB_length] at h
  exact h.mono fun e w' ⟨h1, h2⟩ => ⟨h1, h2.out⟩
theorem same_yes (a1 a2 : Option Addr) (c1 c2 : Nat) (l : List UInt8) (w : World) (h1 : Rd w a1 l) (hc1 : l.length ≤ c1) (h2 : Rd w a2 l) (hc2 : l.length ≤ c2) (hl : l.length ≤ 9223372036854775806) :
    Calls Try.prog 13 #[.slice a1 l.length c1, .slice a2 l.length c2] w fun e w' => e = .returned (.bool true) ∧ ∃ n, w' = w.drewN n := by
  have h := same_any a1 a2 c1 c2 l l w h1 hc1 h2 hc2 hl
  simpa using h
theorem ref_sum_any (a : Option Addr) (c : Nat) (l : List UInt8) (w : World) (h : Rd w a l) (hc : l.length ≤ c) (hl : l.length ≤ 1099511000000) :
    Calls Try.prog 23 #[.slice a l.length c] w fun e w' => ∃ v, e = .returned v ∧ OwnB w' w.heap.size v (Sha.sum l) ∧ Below w.heap.size w w' := by
  have h := heliastref04_Sum.calls (l.length + 300) a c (intsB l) _ w (by rw [intsB_length]; exact h) (by rw [intsB_length]; exact hc) (ref_sum l hl _ (Nat.le_refl _))
  rw [intsB_length] at h
  exact h
theorem ref_tail_any (n : Nat) (hn : n < 18446744073709551616) (w : World) :
    Calls Try.prog 34 #[.int .u64 n] w fun e w' => ∃ v, e = .returned v ∧ OwnB w' w.heap.size v (tail n) ∧ Below w.heap.size w w' :=
  heliastref04_Tail.calls 100 n _ w (ref_tail n hn 100 (Nat.le_refl _))
end Go.Proofs.Ytnhljemnebgekaa

/-
  The references' Sum and Same, as contracts over plain lists.
-/
namespace Go.Proofs.Ytnhljemnebgekaa
open Go.RowKit Sha Go.Proofs.YtnhljemnebgekaaW.PrintWords Go.Proofs.YtnhljemnebgekaaW.PrintLast
def Ext.ref_Sum.f (l0 : List Int) : Option (List Int) := if bytesOk l0 = true then some (intsB (Sha.sum (bytesI l0))) else none
theorem Ext.ref_Sum.f_eq (l : List UInt8) (h : l.length ≤ 1099511000000) : Ext.ref_Sum.f (intsB l) = some (intsB (Sha.sum l)) := by
  unfold Ext.ref_Sum.f
  rw [if_pos (bytesOk_intsB l h), bytesI_intsB]
theorem Ext.ref_Sum.calls (A0 : Option Addr) (c0 : Nat) (l0 : List Int) (r : List Int) (w : World) (hr0 : Kd.C (Kd.int .u8) w A0 l0.length l0) (hc0 : l0.length ≤ c0) (h : Ext.ref_Sum.f l0 = some r) :
    Calls Try.prog 23 #[.slice A0 l0.length c0] w fun e w' => ∃ v0_ : Value, e = .returned (v0_) ∧ Kd.R (Kd.int .u8) 5 w' w.heap.size (fun _ => True) v0_ r ∧ Below w.heap.size w w' := by
  unfold Ext.ref_Sum.f at h
  split at h
  · rename_i hok
    cases h
    obtain ⟨e, n, b⟩ := bytesOk_rd hok
    have := ref_sum_any A0 c0 (bytesI l0) w (by unfold Rd; rw [n, e]; exact hr0) (by omega) (by omega)
    rw [n] at this
    exact this
  · cases h
end Go.Proofs.Ytnhljemnebgekaa

/-
  The reference's key and Code, walked: a key of a block, each byte turned; the sum over the sum.
-/
namespace Go.Proofs.Ytnhljemnebgekaa
open Go.RowKit Sha Go.Proofs.YtnhljemnebgekaaW.PrintWords Go.Proofs.YtnhljemnebgekaaW.PrintLast
set_option linter.unusedSimpArgs false
def keyTo (p : List UInt8) (m : UInt8) (j : Nat) : List UInt8 := (p.take j).map (· ^^^ m) ++ List.replicate (p.length - j) 0
theorem keyTo_length (p : List UInt8) (m : UInt8) (j : Nat) (h : j ≤ p.length) : (keyTo p m j).length = p.length := by simp [keyTo]; omega
theorem keyTo_succ (p : List UInt8) (m : UInt8) (j : Nat) (h : j < p.length) : (keyTo p m j).set j (p.getD j 0 ^^^ m) = keyTo p m (j + 1) := by
  have hl : ((p.take j).map (· ^^^ m)).length = j := by simp; omega
  have hr : List.replicate (p.length - j) (0 : UInt8) = 0 :: List.replicate (p.length - (j + 1)) 0 := by
    rw [show p.length - j = (p.length - (j + 1)) + 1 from by omega]; rfl
  unfold keyTo
  rw [List.set_append_right _ _ (by omega), hl, Nat.sub_self, hr, List.set_cons_zero, List.take_succ_eq_append_getElem h, List.map_append]
  simp [List.getD_eq_getElem?_getD, List.getElem?_eq_getElem h]
theorem keyTo_all (p : List UInt8) (m : UInt8) : keyTo p m p.length = p.map (· ^^^ m) := by simp [keyTo]
theorem keyTo_none (p : List UInt8) (m : UInt8) : keyTo p m 0 = List.replicate p.length 0 := by simp [keyTo]
theorem padOf_getD (l : List UInt8) (j : Nat) (h : j < l.length) : (padOf l).getD j 0 = l.getD j 0 := by
  unfold padOf
  simp only [List.getD_eq_getElem?_getD, List.getElem?_append_left h]
theorem padOf_getD_far (l : List UInt8) (j : Nat) (h : l.length ≤ j) : (padOf l).getD j 0 = 0 := by
  unfold padOf
  rw [List.getD_eq_getElem?_getD, List.getElem?_append_right h, List.getElem?_replicate]
  split <;> rfl
theorem u8s_zeros : (u8s (List.replicate 64 0)).toArray = zero8 := by
  unfold zero8 zeroL u8s
  rw [List.map_replicate]
  rfl
set_option maxRecDepth 100000 in
set_option maxHeartbeats 1000000 in
theorem key_any (a : Option Addr) (c : Nat) (l : List UInt8) (m : UInt8) (w : World) (h : Rd w a l) (hc : l.length ≤ c) (hl : l.length ≤ 1099511000000) :
    Calls Try.prog 25 #[.slice a l.length c, .int .u8 m.toNat] w fun e w' => ∃ v, e = .returned v ∧ OwnB w' w.heap.size v (mask64 l m) ∧ Below w.heap.size w w' := by
  have hmk := make64
  have hml := m.toNat_lt
  have hx0 : bits .xor .u8 0 (m.toNat : Int) = (m.toNat : Int) := by
    have := xor8 0 m
    rw [UInt8.zero_xor] at this
    exact this
  obtain ⟨n, hn⟩ : ∃ n, l.length = n := ⟨_, rfl⟩
  have H := Lib.hid h; have HN := Lib.hid hn
  by_cases hb : 64 < n
  · obtain ⟨S, hS⟩ : ∃ S, Sha.sum l = S := ⟨_, rfl⟩
    have hSl : S.length ≤ 64 := by rw [← hS, Sha.sum_length]; omega
    have hkey : keyOf l = S := by unfold keyOf; rw [if_pos (by omega), hS]
    have hds := ref_sum_any a c l w h hc hl
    rw [hn, hS] at hds
    rw [hn] at hl ⊢
    have HDS := Lib.hid hds; have HK := Lib.hid hkey
    clear hkey hS hds h hc hn H
    go_enter Try.func25, Try.ntmps25
    go_wp2_with fail
    refine HDS.out.mono ?_
    rintro e W1 ⟨v1, rfl, ho1, hb1⟩
    obtain ⟨a1, c1, rfl, hc1, hr1⟩ := ho1.reads
    obtain ⟨z, hz⟩ : ∃ z, S.length = z := ⟨_, rfl⟩
    rw [hz] at hc1 hSl ⊢
    have HR1 := Lib.hid hr1; have HB1 := Lib.hid hb1; have HZ := Lib.hid hz
    clear hr1 hb1 ho1 HDS hz
    have hpl : (padOf S).length = 64 := padOf_length S (by rw [HZ.out]; exact hSl)
    have hz1 : (W1.alloc (.cells zero8 5)).heap[W1.heap.size]? = some (.cells (u8s (List.replicate 64 0)).toArray 5 (0, 0)) := by rw [u8s_zeros]; exact heap_alloc_new W1 _
    have hown : OwnB (W1.alloc (.cells zero8 5)) w.heap.size (.slice (some ⟨W1.heap.size, 0, none⟩) 64 64) (keyTo (padOf S) m 0) := by
      rw [keyTo_none, hpl]
      exact own_of_heap (l := List.replicate 64 0) HB1.out.size hz1 (by simp)
    have HPL := Lib.hid hpl; have HOW := Lib.hid hown
    clear hpl hz1 hown
    go_wp2_with fail
    go_loopw [6, 7] (fun i _ wr => ∃ j : Nat, j ≤ 64 ∧ i = .int .i64 j ∧ OwnB wr w.heap.size (.slice (some ⟨W1.heap.size, 0, none⟩) 64 64) (keyTo (padOf S) m j) ∧ Below W1.heap.size W1 wr) (fun i _ _ => 64 - (intOf i).toNat)
    case atStart => exact ⟨0, by omega, rfl, HOW.out, (Below.refl _ _).alloc (Nat.le_refl _) _⟩
    case round =>
      obtain ⟨j, hj, rfl, hs1, hb4⟩ := hrel
      have HS1 := Lib.hid hs1; have HB4 := Lib.hid hb4
      clear hs1 hb4
      by_cases hlt : j < 64
      · have hcf := HS1.out.cellAt j (by rw [keyTo_length _ _ _ (by rw [HPL.out]; exact hj), HPL.out]; exact hlt)
        have hf := hcf.2
        obtain ⟨u0, hc0⟩ : ∃ u0 : Int, wr.cell? ⟨W1.heap.size, j, none⟩ = some (.int .u8 u0) := ⟨_, hcf.1⟩
        have hsu := keyTo_succ (padOf S) m j (by rw [HPL.out]; exact hlt)
        by_cases hin : j < z
        · obtain ⟨b, off, rfl, hbl, hcs⟩ := rd_at HR1.out (by rw [HZ.out]; omega)
          have hcj := hcs wr HB4.out j (by rw [HZ.out]; exact hin)
          rw [padOf_getD S j (by rw [HZ.out]; exact hin)] at hsu
          obtain ⟨x, hx⟩ : ∃ x, S.getD j 0 = x := ⟨_, rfl⟩
          rw [hx] at hcj hsu
          have hxr := xor8 x m
          have HSU := Lib.hid hsu
          clear hx hsu hcs hcf
          go_wp2_with fail
          go_roundw
          case rel =>
            refine ⟨j + 1, by omega, by go_num, ?_, HB4.out.setCell (p := ⟨W1.heap.size, j, none⟩) (Nat.le_refl _) _⟩
            rw [← HSU.out]
            exact HS1.out.put j (x ^^^ m)
          case measure => simp [intOf]; omega
        · rw [padOf_getD_far S j (by rw [HZ.out]; omega), UInt8.zero_xor] at hsu
          have HSU := Lib.hid hsu
          clear hsu hcf
          go_wp2_with fail
          go_roundw
          case rel =>
            refine ⟨j + 1, by omega, by go_num, ?_, HB4.out.setCell (p := ⟨W1.heap.size, j, none⟩) (Nat.le_refl _) _⟩
            rw [← HSU.out]
            exact HS1.out.put j m
          case measure => simp [intOf]; omega
      · obtain rfl : j = 64 := by omega
        go_wp2_with fail
        go_ret
        have hfin : keyTo (padOf S) m 64 = mask64 l m := by
          have := keyTo_all (padOf S) m
          rw [HPL.out] at this
          rw [this]
          unfold mask64
          rw [HK.out]
        exact ⟨_, rfl, by rw [← hfin]; exact HS1.out, HB1.out.trans (HB4.out.mono HB1.out.size)⟩
  · obtain ⟨S, hS⟩ : ∃ S, l = S := ⟨_, rfl⟩
    have hSl : n ≤ 64 := by omega
    have hkey : keyOf l = S := by unfold keyOf; rw [if_neg (by omega), hS]
    have hz : S.length = n := by rw [← hS, hn]
    have hr1 : Rd w a S := by rw [← hS]; exact h
    rw [hn] at hc ⊢
    have HK := Lib.hid hkey
    have HR1 := Lib.hid hr1; have HZ := Lib.hid hz; have HB1 := Lib.hid (Below.refl w.heap.size w)
    clear hkey hS h hn H hr1 hz
    go_enter Try.func25, Try.ntmps25
    have hpl : (padOf S).length = 64 := padOf_length S (by rw [HZ.out]; exact hSl)
    have hz1 : (w.alloc (.cells zero8 5)).heap[w.heap.size]? = some (.cells (u8s (List.replicate 64 0)).toArray 5 (0, 0)) := by rw [u8s_zeros]; exact heap_alloc_new w _
    have hown : OwnB (w.alloc (.cells zero8 5)) w.heap.size (.slice (some ⟨w.heap.size, 0, none⟩) 64 64) (keyTo (padOf S) m 0) := by
      rw [keyTo_none, hpl]
      exact own_of_heap (l := List.replicate 64 0) HB1.out.size hz1 (by simp)
    have HPL := Lib.hid hpl; have HOW := Lib.hid hown
    clear hpl hz1 hown
    go_wp2_with fail
    go_loopw [6, 7] (fun i _ wr => ∃ j : Nat, j ≤ 64 ∧ i = .int .i64 j ∧ OwnB wr w.heap.size (.slice (some ⟨w.heap.size, 0, none⟩) 64 64) (keyTo (padOf S) m j) ∧ Below w.heap.size w wr) (fun i _ _ => 64 - (intOf i).toNat)
    case atStart => exact ⟨0, by omega, rfl, HOW.out, (Below.refl _ _).alloc (Nat.le_refl _) _⟩
    case round =>
      obtain ⟨j, hj, rfl, hs1, hb4⟩ := hrel
      have HS1 := Lib.hid hs1; have HB4 := Lib.hid hb4
      clear hs1 hb4
      by_cases hlt : j < 64
      · have hcf := HS1.out.cellAt j (by rw [keyTo_length _ _ _ (by rw [HPL.out]; exact hj), HPL.out]; exact hlt)
        have hf := hcf.2
        obtain ⟨u0, hc0⟩ : ∃ u0 : Int, wr.cell? ⟨w.heap.size, j, none⟩ = some (.int .u8 u0) := ⟨_, hcf.1⟩
        have hsu := keyTo_succ (padOf S) m j (by rw [HPL.out]; exact hlt)
        by_cases hin : j < n
        · obtain ⟨b, off, rfl, hbl, hcs⟩ := rd_at HR1.out (by rw [HZ.out]; omega)
          have hcj := hcs wr HB4.out j (by rw [HZ.out]; exact hin)
          rw [padOf_getD S j (by rw [HZ.out]; exact hin)] at hsu
          obtain ⟨x, hx⟩ : ∃ x, S.getD j 0 = x := ⟨_, rfl⟩
          rw [hx] at hcj hsu
          have hxr := xor8 x m
          have HSU := Lib.hid hsu
          clear hx hsu hcs hcf
          go_wp2_with fail
          go_roundw
          case rel =>
            refine ⟨j + 1, by omega, by go_num, ?_, HB4.out.setCell (p := ⟨w.heap.size, j, none⟩) (Nat.le_refl _) _⟩
            rw [← HSU.out]
            exact HS1.out.put j (x ^^^ m)
          case measure => simp [intOf]; omega
        · rw [padOf_getD_far S j (by rw [HZ.out]; omega), UInt8.zero_xor] at hsu
          have HSU := Lib.hid hsu
          clear hsu hcf
          go_wp2_with fail
          go_roundw
          case rel =>
            refine ⟨j + 1, by omega, by go_num, ?_, HB4.out.setCell (p := ⟨w.heap.size, j, none⟩) (Nat.le_refl _) _⟩
            rw [← HSU.out]
            exact HS1.out.put j m
          case measure => simp [intOf]; omega
      · obtain rfl : j = 64 := by omega
        go_wp2_with fail
        go_ret
        have hfin : keyTo (padOf S) m 64 = mask64 l m := by
          have := keyTo_all (padOf S) m
          rw [HPL.out] at this
          rw [this]
          unfold mask64
          rw [HK.out]
        exact ⟨_, rfl, by rw [← hfin]; exact HS1.out, HB1.out.trans (HB4.out.mono HB1.out.size)⟩
set_option maxRecDepth 100000 in
set_option maxHeartbeats 1000000 in
theorem rcode_any (a : Option Addr) (c : Nat) (l : List UInt8) (a2 : Option Addr) (c2 : Nat) (msg : List UInt8) (w : World) (h : Rd w a l) (hc : l.length ≤ c) (hl : l.length ≤ 1000000000000) (h2 : Rd w a2 msg) (hc2 : msg.length ≤ c2) (hm : msg.length ≤ 1000000000000) :
    Calls Try.prog 11 #[.slice a l.length c, .slice a2 msg.length c2] w fun e w' => ∃ v, e = .returned v ∧ OwnB w' w.heap.size v (layerOf l 92 (layerOf l 54 msg)) ∧ Below w.heap.size w w' := by
  have hsum64 : ∀ (x : UInt8) (y : List UInt8), (mask64 l x ++ y).length = 64 + y.length := fun x y => by rw [List.length_append, mask64_length]
  have HS64 := Lib.hid hsum64
  obtain ⟨K1, hK1⟩ : ∃ K, mask64 l 54 = K := ⟨_, rfl⟩
  obtain ⟨K2, hK2⟩ : ∃ K, mask64 l 92 = K := ⟨_, rfl⟩
  have hk1 : K1.length = 64 := by rw [← hK1, mask64_length]
  have hk2 : K2.length = 64 := by rw [← hK2, mask64_length]
  obtain ⟨S, hS⟩ : ∃ S, Sha.sum (K1 ++ msg) = S := ⟨_, rfl⟩
  have hs1 : S.length = 32 := by rw [← hS, Sha.sum_length]
  have hres : layerOf l 92 (layerOf l 54 msg) = Sha.sum (K2 ++ S) := by unfold layerOf; rw [hK1, hK2, hS]
  have key1 := key_any a c l 54 w h hc (by omega)
  have hkk : ∀ w1, Below w.heap.size w w1 → Rd w1 a l := fun w1 hb => h.below hb
  have HKK := Lib.hid hkk
  obtain ⟨n, hn⟩ : ∃ n, l.length = n := ⟨_, rfl⟩
  obtain ⟨n2, hn2⟩ : ∃ n, msg.length = n := ⟨_, rfl⟩
  rw [hK1, hn] at key1
  have key2 := fun w1 hb => key_any a c l 92 w1 (HKK.out w1 hb) hc (by omega)
  rw [hK2, hn] at key2
  rw [hn] at hc hl
  rw [hn2] at hc2 hm
  rw [hn, hn2]
  have HKEY1 := Lib.hid key1; have HKEY2 := Lib.hid key2; have HRES := Lib.hid hres; have HS := Lib.hid hS; have HS1 := Lib.hid hs1
  have HL1 := Lib.hid hk1; have HL2 := Lib.hid hk2; have H2 := Lib.hid h2; have HN2 := Lib.hid hn2
  clear key1 key2 hres hS hs1 hk1 hk2 hkk h h2 hn hn2 hsum64 HS64 hK1 hK2
  go_enter Try.func11, Try.ntmps11
  go_wp2_with fail
  refine HKEY1.out.mono ?_
  rintro e W1 ⟨v1, rfl, ho1, hb1⟩
  obtain ⟨a1, c1, hv1, hc1, hr1⟩ := ho1.reads
  rw [HL1.out] at hv1 hc1
  subst hv1
  have HO1 := Lib.hid ho1; have HB1 := Lib.hid hb1
  clear ho1 hb1 hr1
  go_wp2_with (at_builtin; refine Kd.R_append_row (Value.int .u8) (0 : Int) (h1 := fun _ => rfl) (w0 := w) w.heap.size rfl _ _ 22 5 (.int .u8 0) 1 rfl Try.underlying22 infoB rfl (by decide) _ (intsB K1) (intsB msg) a2 n2 c2 (fun _ => True) rfl rfl (fun _ _ => trivial) ?k1 ?k2 ?k3 ?k4 ?k5 ?_)
  case k1 => exact HO1.out
  case k2 => have := H2.out.below HB1.out; unfold Rd at this; rwa [HN2.out] at this
  case k3 => exact HB1.out
  case k4 => exact HB1.out.size
  case k5 => rw [intsB_length, HL1.out]; omega
  intro v2 W2 hR2 hB2 _ _
  have ho2 : OwnB W2 w.heap.size v2 (K1 ++ msg) := by unfold OwnB; rw [intsB_append]; exact hR2
  obtain ⟨a3, c3, hv2, hc3, hr3⟩ := ho2.reads
  have hlen : (K1 ++ msg).length = 64 + n2 := by rw [List.length_append, HL1.out, HN2.out]
  rw [hlen] at hv2 hc3
  subst hv2
  have hsum := fun w1 (hb : Below W2.heap.size W2 w1) => ref_sum_any a3 c3 (K1 ++ msg) w1 (hr3.below hb) (by rw [hlen]; exact hc3) (by rw [hlen]; omega)
  rw [HS.out, hlen] at hsum
  have HSUM := Lib.hid hsum; have HB2 := Lib.hid hB2
  clear hR2 hB2 ho2 hr3 hlen hsum HO1 HB1
  go_wp2_with fail
  refine (HKEY2.out W2 HB2.out).mono ?_
  rintro e W3 ⟨v3, rfl, ho3, hb3⟩
  obtain ⟨a4, c4, hv3, hc4, hr4⟩ := ho3.reads
  rw [HL2.out] at hv3 hc4
  subst hv3
  have HO3 := Lib.hid ho3; have HB3 := Lib.hid hb3
  clear ho3 hb3 hr4
  go_wp2_with fail
  refine (HSUM.out W3 HB3.out).mono ?_
  rintro e W4 ⟨v4, rfl, ho4, hb4⟩
  obtain ⟨a5, c5, hv4, hc5, hr5⟩ := ho4.reads
  rw [HS1.out] at hv4 hc5
  subst hv4
  have HO3b := Lib.hid (HO3.out.below hb4); have HR5 := Lib.hid hr5; have HB4 := Lib.hid ((HB2.out.trans (HB3.out.mono HB2.out.size)).trans (hb4.mono (Nat.le_trans HB2.out.size HB3.out.size)))
  have hsz2 : W2.heap.size ≤ W4.heap.size := Nat.le_trans HB3.out.size hb4.size
  have hsz1 := HB2.out.size
  clear ho4 hb4 hr5 HO3
  go_wp2_with (at_builtin; refine Kd.R_append_row (Value.int .u8) (0 : Int) (h1 := fun _ => rfl) (w0 := W4) W2.heap.size rfl _ _ 22 5 (.int .u8 0) 1 rfl Try.underlying22 infoB rfl (by decide) _ (intsB K2) (intsB S) a5 32 c5 (fun _ => True) rfl rfl (fun _ _ => trivial) ?k1 ?k2 ?k3 ?k4 ?k5 ?_)
  case k1 => exact HO3b.out
  case k2 => have := HR5.out; unfold Rd at this; rwa [HS1.out] at this
  case k3 => exact Below.refl _ _
  case k4 => exact hsz2
  case k5 => rw [intsB_length, HL2.out]; omega
  intro v6 W6 hR6 hB6 _ _
  have ho6 : OwnB W6 W2.heap.size v6 (K2 ++ S) := by unfold OwnB; rw [intsB_append]; exact hR6
  obtain ⟨a7, c7, hv6, hc7, hr7⟩ := ho6.reads
  have hlen6 : (K2 ++ S).length = 96 := by rw [List.length_append, HL2.out, HS1.out]
  rw [hlen6] at hv6 hc7
  subst hv6
  have hsum := ref_sum_any a7 c7 (K2 ++ S) W6 hr7 (by rw [hlen6]; exact hc7) (by rw [hlen6]; omega)
  rw [hlen6] at hsum
  have HSUM2 := Lib.hid hsum; have HB6 := Lib.hid (HB4.out.trans (hB6.mono hsz1))
  clear hR6 hB6 ho6 hr7 hlen6 hsum
  go_wp2_with fail
  refine HSUM2.out.mono ?_
  rintro e W7 ⟨v7, rfl, ho7, hb7⟩
  obtain ⟨a8, c8, hv7, _, _⟩ := ho7.reads
  have HO7 := Lib.hid ho7; have HB7 := Lib.hid (HB6.out.trans (hb7.mono HB6.out.size)); have hs6 := HB6.out.size
  clear ho7 hb7
  subst hv7
  go_wp2_with fail
  go_ret
  exact ⟨_, rfl, by rw [HRES.out]; exact HO7.out.lower hs6, HB7.out⟩
end Go.Proofs.Ytnhljemnebgekaa

/-
  What the functions of these laws compute, as plain Lean functions, and that the machine's calls compute it: written by this session's own hook over the kit's print.
-/
namespace Go.Proofs.Ytnhljemnebgekaa.Rt
open Go.RowKit Go.Proofs.YtnhljemnebgekaaW.PrintWords Go.Proofs.YtnhljemnebgekaaW.PrintLast Go.Proofs.YtnhljemnebgekaaW.PrintMore
attribute [local go_sem] u32_sg u32_mx u64_sg u64_mx
attribute [local go_sem] max2_int min2_int max_two min_two max_three min_three max_four min_four   -- for this text's walks alone
set_option linter.unusedVariables false
set_option linter.unusedSimpArgs false



def errW : Option Int → Value
  | none => .nilIface
  | some c => .iface 0 (.int .i64 c)
theorem errW_none : errW none = .nilIface := rfl
theorem errW_some (c : Int) : errW (some c) = .iface 0 (.int .i64 c) := rfl

theorem info5 : (Try.prog.info? 5).map (fun i => (i.zero, i.size, i.bytes)) = some (some (.int .u8 0), 1, 1) := by kernel_rfl
-- the values' own types

end Go.Proofs.Ytnhljemnebgekaa.Rt
