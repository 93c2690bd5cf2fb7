/-
  Texts of this session, merged in build order: Rfx6, Rfx7, Rfx, Ptx0, Ptx1, Sha, Turn, Words, Take, Pieces, Tail, Chunk, Write, Summed, Dig, Ref.
-/
import Derived.Test.YtnhljemnebgekaaZC0
import Derived.Test.YtnhljemnebgekaaProg
import Derived.Below
import Derived.Deep.Draws
import Derived.Deep.AppendLies
import Derived.Maps.AppendAt
import Derived.OwnWalk
import Derived.Laws.BytesArg
import Derived.Laws.MakeOwn
import Derived.Laws.OwnMore
import Derived.Deep.OwnRows
import Derived.Tactics
import Derived.Lib.ConvBytes
import Derived.Laws.Slices
import Derived.WalkKit
import Derived.KernelRfl
import Derived.RowKit3
import Derived.Deep.LoopGhost
import Derived.Deep.QuietTactic
import Derived.BigQuiet
import Derived.WideLaws
import Derived.Deep.DeepCutAuto
import Derived.Deep.CutBlock
import Derived.Deep.RegionHeld3
import Derived.Laws.Rows
import Derived.Lib.AppendStr
import Derived.ArgAppend
import Derived.Laws.IdiomCopy
import Derived.OrdersHeld
import Derived.Laws.BitsLemmas
import Derived.RowKit
import Derived.Test.YtnhljemnebgekaaWWords
import Derived.Test.YtnhljemnebgekaaWLast
import Derived.Test.YtnhljemnebgekaaWTab
import Derived.Test.YtnhljemnebgekaaWFour
import Derived.Test.YtnhljemnebgekaaWQPut
import Derived.Test.YtnhljemnebgekaaWApart
import Derived.Test.YtnhljemnebgekaaWArr
import Derived.Test.YtnhljemnebgekaaWZeros
import Derived.Test.YtnhljemnebgekaaWFoot
import Derived.Test.YtnhljemnebgekaaWKept
import Derived.Test.YtnhljemnebgekaaWShare
import Derived.Test.YtnhljemnebgekaaWN
import Derived.Test.YtnhljemnebgekaaWFootNe
import Derived.Test.YtnhljemnebgekaaWAt
import Derived.Test.YtnhljemnebgekaaWEqStruct
import Derived.Test.YtnhljemnebgekaaWRepsOne
import Derived.Test.YtnhljemnebgekaaWInv
import Derived.Test.YtnhljemnebgekaaWInvWords
import Derived.Test.YtnhljemnebgekaaWGuard
import Derived.Test.YtnhljemnebgekaaWNEv
import Derived.Test.YtnhljemnebgekaaWMore
import Derived.Test.YtnhljemnebgekaaChecked
import Derived.WalkSpells
import Derived.WalkLawsBesides
import Derived.Handy
import Derived.Lib.Hide
import Derived.Laws.BitsAllLaws
import Derived.Laws.Shifts
import Derived.WalkSmall
import Derived.Deep.RegionHeld
import Derived.Deep.MidRow
import Derived.Great.BuildSlice
import Derived.BigRegion
import Derived.Deep.Upon
import Derived.Deep.RegionLaw
import Derived.Laws.CopyRow
import Derived.Lib.Walk
import Derived.Lib.SliceRun
import Derived.RangeFuncNested
import Derived.RangeFuncBound
import Derived.RangeFuncCalls
import Derived.Shelf.RegionOpen
import Derived.BigGuardIn
import Derived.OwnWalkIn
import Derived.TacticsInMore
import Derived.LoopNIn
import Derived.LoopIn
import Derived.BigRegionIn
set_option linter.unusedVariables false
set_option linter.unusedSimpArgs false
/-
  What the functions of these laws compute, as plain Lean functions, and that the machine's calls compute it: written by this session's own hook over the kit's print.
-/
namespace Go.Proofs.Ytnhljemnebgekaa.Rf
open Go.RowKit Go.Proofs.YtnhljemnebgekaaW.PrintWords Go.Proofs.YtnhljemnebgekaaW.PrintLast Go.Proofs.YtnhljemnebgekaaW.PrintMore
attribute [local go_sem] u32_sg u32_mx u64_sg u64_mx
attribute [local go_sem] max2_int min2_int max_two min_two max_three min_three max_four min_four   -- for this text's walks alone
set_option linter.unusedVariables false
set_option linter.unusedSimpArgs false

/-! ### heliastref04_Sum: function 23 -/
mutual
def heliastref04_Sum.l0 : Nat → List Int → List Int → Int → Option (List Int)
  | 0, _, _, _ => none
  | k + 1, x3, x5, x6 => if x6 < (x3.length : Int) then (if 0 ≤ x6 then (if x6 ≤ (wrap64 (x6 + 64)) then (if (wrap64 (x6 + 64)) ≤ (x3.length : Int) then ((heliastref04_block.f k x5 ((x3.take ((wrap64 (x6 + 64)) : Int).toNat).drop (x6 : Int).toNat)).bind fun t184 => (heliastref04_Sum.l0 k x3 t184 (wrap64 (x6 + 64)))) else (none)) else (none)) else (none)) else (heliastref04_Sum.l1 k x5 ([] : List Int) 0)
def heliastref04_Sum.l1 : Nat → List Int → List Int → Int → Option (List Int)
  | 0, _, _, _ => none
  | k + 1, x5, x7, x8 => if x8 < 8 then (if 0 ≤ x8 then (if x8 < (x5.length : Int) then ((some (([((rd x5 x8) / 16777216) % 256, ((rd x5 x8) / 65536) % 256, ((rd x5 x8) / 256) % 256, (rd x5 x8) % 256] : List Int) : List Int)).bind fun y191 => (if x7.length + y191.length < 140737488355328 then (heliastref04_Sum.l1 k x5 (x7 ++ y191) (wrap64 (x8 + 1))) else (none))) else (none)) else (none)) else (some x7)
end
def heliastref04_Sum.f (k : Nat) (l0 : List Int) : Option (List Int) := if ([] : List Int).length + l0.length < 140737488355328 then ((some (([] : List Int) ++ l0 : List Int)).bind fun y168 => ((heliastref04_Tail.f k (IntKind.u64.wrap ((l0.length : Int)))).bind fun t171 => (if y168.length + t171.length < 140737488355328 then (heliastref04_Sum.l0 k (y168 ++ t171) (([1779033703, 3144134277, 1013904242, 2773480762, 1359893119, 2600822924, 528734635, 1541459225] : List Int)) 0) else (none)))) else (none)
theorem heliastref04_Sum.mono_l : ∀ k, (∀ y0 y1 y2, LeO (heliastref04_Sum.l0 k y0 y1 y2) (heliastref04_Sum.l0 (k + 1) y0 y1 y2)) ∧ (∀ y0 y1 y2, LeO (heliastref04_Sum.l1 k y0 y1 y2) (heliastref04_Sum.l1 (k + 1) y0 y1 y2))
  | 0 => ⟨fun _ _ _ r h => by simp [heliastref04_Sum.l0] at h, fun _ _ _ r h => by simp [heliastref04_Sum.l1] at h⟩
  | k + 1 => by
    obtain ⟨ih0, ih1⟩ := heliastref04_Sum.mono_l k
    refine ⟨?_, ?_⟩
    · intro y0 y1 y2
      unfold heliastref04_Sum.l0
      repeat' first
      | (with_reducible exact ih0 _ _ _)
      | (with_reducible exact ih1 _ _ _)
      | (with_reducible exact heliastref04_Tail.mono _ _)
      | (with_reducible exact heliastref04_block.mono _ _ _)
      | (with_reducible exact LeO.refl _)
      | (with_reducible exact LeO.none _)
      | (with_reducible refine LeO.ite ?_ ?_)
      | (with_reducible refine LeO.bind ?_ (fun _ => ?_))
      | exact ih0 _ _ _
      | exact ih1 _ _ _
      | exact heliastref04_Tail.mono _ _
      | exact heliastref04_block.mono _ _ _
      | exact LeO.none _
      | refine LeO.ite ?_ ?_
      | refine LeO.bind ?_ (fun _ => ?_)
    · intro y0 y1 y2
      unfold heliastref04_Sum.l1
      repeat' first
      | (with_reducible exact ih0 _ _ _)
      | (with_reducible exact ih1 _ _ _)
      | (with_reducible exact heliastref04_Tail.mono _ _)
      | (with_reducible exact heliastref04_block.mono _ _ _)
      | (with_reducible exact LeO.refl _)
      | (with_reducible exact LeO.none _)
      | (with_reducible refine LeO.ite ?_ ?_)
      | (with_reducible refine LeO.bind ?_ (fun _ => ?_))
      | exact ih0 _ _ _
      | exact ih1 _ _ _
      | exact heliastref04_Tail.mono _ _
      | exact heliastref04_block.mono _ _ _
      | exact LeO.none _
      | refine LeO.ite ?_ ?_
      | refine LeO.bind ?_ (fun _ => ?_)
theorem heliastref04_Sum.mono : ∀ a0 k, LeO (heliastref04_Sum.f k a0) (heliastref04_Sum.f (k + 1) a0) := by
  intro a0 k
  obtain ⟨ih0, ih1⟩ := heliastref04_Sum.mono_l k
  unfold heliastref04_Sum.f
  repeat' first
      | (with_reducible exact ih0 _ _ _)
      | (with_reducible exact ih1 _ _ _)
      | (with_reducible exact heliastref04_Tail.mono _ _)
      | (with_reducible exact heliastref04_block.mono _ _ _)
      | (with_reducible exact LeO.refl _)
      | (with_reducible exact LeO.none _)
      | (with_reducible refine LeO.ite ?_ ?_)
      | (with_reducible refine LeO.bind ?_ (fun _ => ?_))
      | exact ih0 _ _ _
      | exact ih1 _ _ _
      | exact heliastref04_Tail.mono _ _
      | exact heliastref04_block.mono _ _ _
      | exact LeO.none _
      | refine LeO.ite ?_ ?_
      | refine LeO.bind ?_ (fun _ => ?_)
def heliastref04_Sum.T14 : Bool × List (List Nat × List Nat) := (true, [([], []), ([], []), ([], []), ([1, 2], [1, 2]), ([3], [3]), ([4], [4]), ([5], [5]), ([], []), ([], []), ([7, 8], [7, 8]), ([9], [9]), ([10], [10]), ([11], [11]), ([], []), ([], []), ([13, 14], [13, 14]), ([15], [15]), ([16], [16]), ([17], [17]), ([], []), ([], []), ([19, 20], [19, 20]), ([21], [21]), ([22], [22]), ([6, 12, 18, 23], [6, 12, 18, 23]), ([0, 24], [0, 24]), ([25, 25, 0, 1, 2, 3, 4, 5, 6, 7, 8, 9, 10, 11, 12, 13, 14, 15, 16, 17, 18, 19, 20, 21, 22, 23, 24, 25], [0, 25])])
def heliastref04_Sum.B14 : List Nat := [0, 0, 0, 6, 14, 30, 62, 0, 0, 384, 896, 1920, 3968, 0, 0, 24576, 57344, 122880, 253952, 0, 0, 1572864, 3670016, 7864320, 16777214, 33554431, 67108863]
theorem heliastref04_Sum.tab14 : rtab .any (opsOf Try.f23 14) = heliastref04_Sum.T14 := by kernel_rfl
theorem heliastref04_Sum.bits14 : waitsOk heliastref04_Sum.T14.2 heliastref04_Sum.B14 = true := by kernel_rfl
set_option maxHeartbeats 8000000 in
set_option maxRecDepth 100000 in
theorem heliastref04_Sum.calls (k : Nat) (A0 : Option Addr) (c0 : Nat) (l0 : List Int) (r : List Int) (w : World) (hr0 : Kd.C (Kd.int .u8) w A0 l0.length l0) (hc0 : l0.length ≤ c0) (h : heliastref04_Sum.f k l0 = some r) :
    Calls Try.prog 23 #[.slice A0 l0.length c0] w fun e w' => ∃ v0_ : Value, e = .returned (v0_) ∧ Kd.R (Kd.int .u8) 5 w' w.heap.size (fun _ => True) v0_ r ∧ Below w.heap.size w w' := by
  have HR0 := Aside0.mk hr0
  have HC0 := Aside0.mk hc0
  clear hr0 hc0
  have HB := Aside0.mk (Below.refl w.heap.size w)
  have H : (if ([] : List Int).length + l0.length < 140737488355328 then ((some (([] : List Int) ++ l0 : List Int)).bind fun y168 => ((heliastref04_Tail.f k (IntKind.u64.wrap ((l0.length : Int)))).bind fun t171 => (if y168.length + t171.length < 140737488355328 then (heliastref04_Sum.l0 k (y168 ++ t171) (([1779033703, 3144134277, 1013904242, 2773480762, 1359893119, 2600822924, 528734635, 1541459225] : List Int)) 0) else (none)))) else (none)) = some r := h
  clear h
  by_cases c2 : ([] : List Int).length + l0.length < 140737488355328
  · rw [if_pos c2] at H
    have LMc2 := Aside0.mk c2
    clear c2
    obtain ⟨y168, hy168⟩ : ∃ y_ : List Int, y_ = (([] : List Int) ++ l0) := ⟨_, rfl⟩
    replace H : ((heliastref04_Tail.f k (IntKind.u64.wrap ((l0.length : Int)))).bind fun t171 => (if y168.length + t171.length < 140737488355328 then (heliastref04_Sum.l0 k (y168 ++ t171) (([1779033703, 3144134277, 1013904242, 2773480762, 1359893119, 2600822924, 528734635, 1541459225] : List Int)) 0) else (none))) = some r := by first | (rw [hy168]; with_reducible exact H) | (have H2_ := (Option.bind_some _ _).symm.trans H; rw [hy168]; with_reducible exact H2_) | (have H2_ := (Option.bind_some _ _).symm.trans H; with_reducible exact H2_) | with_reducible exact H | (rw [hy168]; exact H) | exact H
    have Ny168 := Aside0.mk hy168
    clear hy168
    replace H := Option.bind_eq_some_iff.mp H
    obtain ⟨t171, A30, H⟩ := H
    replace H : (if y168.length + t171.length < 140737488355328 then (heliastref04_Sum.l0 k (y168 ++ t171) (([1779033703, 3144134277, 1013904242, 2773480762, 1359893119, 2600822924, 528734635, 1541459225] : List Int)) 0) else (none)) = some r := H
    have A3 := Aside0.mk A30
    clear A30
    by_cases c4 : y168.length + t171.length < 140737488355328
    · rw [if_pos c4] at H
      have LMc4 := Aside0.mk c4
      clear c4
      obtain ⟨y174, hy174⟩ : ∃ y_ : List Int, y_ = (y168 ++ t171) := ⟨_, rfl⟩
      replace H : (heliastref04_Sum.l0 k y174 (([1779033703, 3144134277, 1013904242, 2773480762, 1359893119, 2600822924, 528734635, 1541459225] : List Int)) 0) = some r := by first | (rw [hy174]; with_reducible exact H) | (have H2_ := (Option.bind_some _ _).symm.trans H; rw [hy174]; with_reducible exact H2_) | (have H2_ := (Option.bind_some _ _).symm.trans H; with_reducible exact H2_) | with_reducible exact H | (rw [hy174]; exact H) | exact H
      have Ny174 := Aside0.mk hy174
      clear hy174
      obtain ⟨y177, hy177⟩ : ∃ y_ : List Int, y_ = (([1779033703, 3144134277, 1013904242, 2773480762, 1359893119, 2600822924, 528734635, 1541459225] : List Int)) := ⟨_, rfl⟩
      replace H : (heliastref04_Sum.l0 k y174 y177 0) = some r := by first | (rw [hy177]; with_reducible exact H) | (have H2_ := (Option.bind_some _ _).symm.trans H; rw [hy177]; with_reducible exact H2_) | (have H2_ := (Option.bind_some _ _).symm.trans H; with_reducible exact H2_) | with_reducible exact H | (rw [hy177]; exact H) | exact H
      have Ny177 := Aside0.mk hy177
      clear hy177
      have H' := Aside0.mk H
      clear H
      go_enter Try.func23, Try.ntmps23
      go_wp2_with (first | ((with_reducible refine gate_builtin (b := .append) (xs := #[.tmp 9, .tmp 10]) rfl ?_); at_builtin; refine Kd.R_append_rows (Kd.int .u8) (w0 := w) w.heap.size rfl (.tmp 9) (.tmp 10) 22 5 (.int .u8 0) 1 rfl Try.underlying22 info5 rfl (by decide) (by omega) (.slice none 0 0) ([] : List Int) l0 _ _ _ (fun _ => True) (fun _ => False) rfl rfl ?aO ?aR (fun _ _ h => h) (fun _ h => h.elim) ?aF ?aB ?aS ?aL ?_; (case aR => repeat (first | exact HR0.out | (with_reducible refine Kd.C_alloc ?_ _) | (with_reducible refine Kd.C_drewN ?_ _) | (with_reducible refine Kd.C_drew ?_))); (case aB => exact (by repeat (first | (with_reducible first | exact HB.out | apply below_alloc | apply pw_below_drewN | apply below_drew1) | exact HB.out))); (case aF => exact (fun _ _ => trivial)); (case aO => exact ((Kd.R_nil _ _ _ _ (fun _ => True)))); (case aS => exact (below_size (by repeat (first | (with_reducible first | exact HB.out | apply below_alloc | apply pw_below_drewN | apply below_drew1) | exact HB.out)))); (case aL => have := LMc2.out; omega); intro v169 w5 ho hb hg hat; rw [← Ny168.out] at ho; have n0_ := Aside0.mk (hb); have n1_ := Aside0.mk (ho); clear HB; have HB := n0_; have HO170 := n1_; clear n0_ n1_; clear ho hb hg hat) | ((with_reducible refine gate_callee (f := 34) rfl ?_); refine goesL_ (some 15) rfl rfl Try.func34 (by kernel_rfl) rfl #[.int .u64 (IntKind.u64.wrap ((l0.length : Int)))] rfl (by (try simp only [List.map_toArray, List.map_cons, List.map_nil]); first | done | rfl | (simp only [List.length_drop, List.length_take]; rfl)) ?_; (with_reducible refine (heliastref04_Tail.calls k (IntKind.u64.wrap ((l0.length : Int))) t171 _ A3.out).mono ?_); rintro e w6 ⟨v172, rfl, ho0, hb⟩; refine ⟨_, rfl, ?_⟩; have n0_ := Aside0.mk (Kd.R_elder' (by (with_reducible repeat (first | apply Kd.R_alloc | apply Kd.R_drewN | apply Kd.R_drew)); exact HO170.out) (Kd.R_base ho0) hb); have n1_ := Aside0.mk (Kd.R_lower (Kd.R_new' ho0 (Kd.R_lt (by (with_reducible repeat (first | apply Kd.R_alloc | apply Kd.R_drewN | apply Kd.R_drew)); exact HO170.out))) (below_size (by repeat (first | (with_reducible first | exact HB.out | apply below_alloc | apply pw_below_drewN | apply below_drew1) | exact HB.out)))); have n2_ := Aside0.mk (below_step (by repeat (first | (with_reducible first | exact HB.out | apply below_alloc | apply pw_below_drewN | apply below_drew1) | exact HB.out)) hb); clear HO170; clear HB; have HO170 := n0_; have HO173 := n1_; have HB := n2_; clear n0_ n1_ n2_; (try clear hb); (try clear hb2); (try clear hk); (try clear hi); (try clear ho0); obtain ⟨Ao8, co8, eo8⟩ := Kd.R_slice HO173.out; subst eo8) | ((with_reducible refine gate_builtin (b := .append) (xs := #[.tmp 16, .tmp 17]) rfl ?_); at_builtin; refine Kd.R_append_rows (Kd.int .u8) (w0 := w) w.heap.size rfl (.tmp 16) (.tmp 17) 22 5 (.int .u8 0) 1 rfl Try.underlying22 info5 rfl (by decide) (by omega) v169 y168 t171 _ _ _ (fun k_ => some k_ ≠ (.slice Ao8 t171.length co8 : Value).ownBlock) (fun _ => False) rfl rfl ?aO ?aR (fun _ _ h => h) (fun _ h => h.elim) ?aF ?aB ?aS ?aL ?_; (case aR => repeat (first | exact (Kd.R_reads' HO173.out).2.2 | (with_reducible refine Kd.C_alloc ?_ _) | (with_reducible refine Kd.C_drewN ?_ _) | (with_reducible refine Kd.C_drew ?_))); (case aB => exact (by repeat (first | (with_reducible first | exact HB.out | apply below_alloc | apply pw_below_drewN | apply below_drew1) | exact HB.out))); (case aF => exact (fun k_ hk => Kd.fresh' (Kd.R_lt (by (with_reducible repeat (first | apply Kd.R_alloc | apply Kd.R_drewN | apply Kd.R_drew)); exact HO173.out)) k_ hk)); (case aO => exact (by (with_reducible repeat (first | apply Kd.R_alloc | apply Kd.R_drewN | apply Kd.R_drew)); exact Kd.R_mono HO170.out (fun _ hk => hk.2))); (case aS => exact (below_size (by repeat (first | (with_reducible first | exact HB.out | apply below_alloc | apply pw_below_drewN | apply below_drew1) | exact HB.out)))); (case aL => have := LMc4.out; omega); intro v175 w7 ho hb hg hat; rw [← Ny174.out] at ho; have n0_ := Aside0.mk (Kd.R_after (ok := (fun _ => True)) (by (with_reducible repeat (first | apply Kd.R_alloc | apply Kd.R_drewN | apply Kd.R_drew)); exact HO173.out) hg hat); have n1_ := Aside0.mk (hb); have n2_ := Aside0.mk (ho); clear HO173; clear HB; clear HO170; have HO173 := n0_; have HB := n1_; have HO176 := n2_; clear n0_ n1_ n2_; clear ho hb hg hat) | ((with_reducible refine gate_dst (N := 19) rfl ?_); refine Kd.R_lit (Kd.int .u32) _ 55 ?hg (N := 19) ?hd (xs := ([1779033703, 3144134277, 1013904242, 2773480762, 1359893119, 2600822924, 528734635, 1541459225] : List Int)) (inner := [.int .u32 1779033703, .int .u32 3144134277, .int .u32 1013904242, .int .u32 2773480762, .int .u32 1359893119, .int .u32 2600822924, .int .u32 528734635, .int .u32 1541459225]) (ok := fun _ => True) (okp := fun _ => True) ?hr ?hp (fun _ hk => hk) trivial (Below.refl _ _) (Nat.le_refl _) (by simp) ?_; (case hd => rfl); (case hg => rfl); (case hr => first | (go_simp; done) | (go_simp; rfl)); (case hp => exact (Reps.one (show Kd.M (Kd.int .u32) _ _ _ 1779033703 [.int .u32 1779033703] from rfl) (Reps.one (show Kd.M (Kd.int .u32) _ _ _ 3144134277 [.int .u32 3144134277] from rfl) (Reps.one (show Kd.M (Kd.int .u32) _ _ _ 1013904242 [.int .u32 1013904242] from rfl) (Reps.one (show Kd.M (Kd.int .u32) _ _ _ 2773480762 [.int .u32 2773480762] from rfl) (Reps.one (show Kd.M (Kd.int .u32) _ _ _ 1359893119 [.int .u32 1359893119] from rfl) (Reps.one (show Kd.M (Kd.int .u32) _ _ _ 2600822924 [.int .u32 2600822924] from rfl) (Reps.one (show Kd.M (Kd.int .u32) _ _ _ 528734635 [.int .u32 528734635] from rfl) (Reps.one (show Kd.M (Kd.int .u32) _ _ _ 1541459225 [.int .u32 1541459225] from rfl) (Reps.none _ _)))))))))); intro v178 w9 ho10 hb hg_ hnew_; clear hg_ hnew_; (first | rw [← Ny177.out] at ho10 | (simp only [Int.reduceToNat] at ho10; rw [← Ny177.out] at ho10)); have n0_ := Aside0.mk (Kd.R_below (by (with_reducible repeat (first | apply Kd.R_alloc | apply Kd.R_drewN | apply Kd.R_drew)); exact HO173.out) hb); have n1_ := Aside0.mk (Kd.R_below (by (with_reducible repeat (first | apply Kd.R_alloc | apply Kd.R_drewN | apply Kd.R_drew)); exact HO176.out) hb); have n2_ := Aside0.mk (Kd.R_lower ho10 (below_size (by repeat (first | (with_reducible first | exact HB.out | apply below_alloc | apply pw_below_drewN | apply below_drew1) | exact HB.out)))); have n3_ := Aside0.mk (below_step (by repeat (first | (with_reducible first | exact HB.out | apply below_alloc | apply pw_below_drewN | apply below_drew1) | exact HB.out)) hb); clear HO173; clear HO176; clear HB; have HO173 := n0_; have HO176 := n1_; have HO179 := n2_; have HB := n3_; clear n0_ n1_ n2_ n3_; clear hb ho10))
      go_loopg [5, 6] k (fun kq v5 v6 w' => ∃ (x5_1 : List Int) (x6_1 : Int), v6 = .int .i64 x6_1 ∧ Aside0 (heliastref04_Sum.l0 kq y174 x5_1 x6_1 = some r) ∧ Aside0 (kq ≤ k) ∧ Aside0 (Kd.R (Kd.int .u8) 5 w' w.heap.size (fun _ => True) v175 y174) ∧ Aside0 (Kd.R (Kd.int .u32) 55 w' w.heap.size (fun _ => True) v5 x5_1) ∧ Aside0 (Below w.heap.size w w'))
      case atStart => exact ⟨(y177), (0), (by first | rfl | (simp; done) | (simp [*]; done)), H', ⟨Nat.le_refl _⟩, ⟨by (with_reducible repeat (first | apply Kd.R_alloc | apply Kd.R_drewN | apply Kd.R_drew)); exact Kd.R_mono HO176.out (fun _ hk => trivial)⟩, ⟨by (with_reducible repeat (first | apply Kd.R_alloc | apply Kd.R_drewN | apply Kd.R_drew)); exact HO179.out⟩, ⟨by repeat (first | (with_reducible first | exact HB.out | apply below_alloc | apply pw_below_drewN | apply below_drew1) | exact HB.out)⟩⟩
      case round =>
        clear H'
        try clear c2
        try clear p2
        try clear c3
        try clear c4
        obtain ⟨x5_1, x6_1, rfl, HA, HK1, HO_3, HO_5, HB⟩ := hrel
        cases gk with
        | zero => exact absurd HA.out (by simp [heliastref04_Sum.l0])
        | succ k1 =>
          have H := HA.out
          clear HA
          simp only [heliastref04_Sum.l0] at H
          by_cases c11 : x6_1 < (y174.length : Int)
          · rw [if_pos c11] at H
            have c11b0 : decide (x6_1 < (y174.length : Int)) = true := decide_eq_true c11
            clear c11
            by_cases c12 : 0 ≤ x6_1
            · rw [if_pos c12] at H
              have c12b0 := eq_true c12
              have c12b1 : decide (0 ≤ x6_1) = true := decide_eq_true c12
              clear c12
              by_cases c13 : x6_1 ≤ (wrap64 (x6_1 + 64))
              · rw [if_pos c13] at H
                have c13b0 := eq_true c13
                have c13b1 : decide (x6_1 ≤ (wrap64 (x6_1 + 64))) = true := decide_eq_true c13
                by_cases c14 : (wrap64 (x6_1 + 64)) ≤ (y174.length : Int)
                · rw [if_pos c14] at H
                  have c14b0 := eq_true c14
                  have c14b1 : decide ((wrap64 (x6_1 + 64)) ≤ (y174.length : Int)) = true := decide_eq_true c14
                  obtain ⟨y180, hy180⟩ : ∃ y_ : List Int, y_ = ((y174.take ((wrap64 (x6_1 + 64)) : Int).toNat).drop (x6_1 : Int).toNat) := ⟨_, rfl⟩
                  replace H : ((heliastref04_block.f k1 x5_1 y180).bind fun t184 => (heliastref04_Sum.l0 k1 y174 t184 (wrap64 (x6_1 + 64)))) = some r := by first | (rw [hy180]; with_reducible exact H) | (have H2_ := (Option.bind_some _ _).symm.trans H; rw [hy180]; with_reducible exact H2_) | (have H2_ := (Option.bind_some _ _).symm.trans H; with_reducible exact H2_) | with_reducible exact H | (rw [hy180]; exact H) | exact H
                  have Ny180 := Aside0.mk hy180
                  clear hy180
                  replace H := Option.bind_eq_some_iff.mp H
                  obtain ⟨t184, A150, H⟩ := H
                  replace H : (heliastref04_Sum.l0 k1 y174 t184 (wrap64 (x6_1 + 64))) = some r := H
                  have A15 := Aside0.mk A150
                  clear A150
                  have H' := Aside0.mk H
                  clear H
                  obtain ⟨Ao16, co16, eo16⟩ := Kd.R_slice HO_3.out
                  subst eo16
                  have q17 : ((wrap64 (x6_1 + 64)) : Int) ≤ ((y174.length : Int) : Int) := of_decide_eq_true (by first | (with_reducible assumption) | assumption)
                  obtain ⟨i017, hi017, _, hsz17, _⟩ := info_parts info5
                  have hroom17 : y174.length ≤ co16 := (Kd.R_reads' HO_3.out).2.1
                  have hC17 : Kd.C (Kd.int .u8) _ Ao16 y174.length y174 := (Kd.R_reads' HO_3.out).2.2
                  have ql17 : (x6_1 : Int) ≤ ((wrap64 (x6_1 + 64)) : Int) := of_decide_eq_true (by first | (with_reducible assumption) | assumption)
                  have q017 : (0 : Int) ≤ (x6_1 : Int) := of_decide_eq_true (by first | (with_reducible assumption) | assumption)
                  have hcut17 := cut_mid (P := Try.prog) 22 5 .i64 .i64 Try.underlying22 hi017 1 hsz17 Ao16 y174.length co16 x6_1 (wrap64 (x6_1 + 64)) q017 ql17 q17 hroom17
                  have hr17 := Kd.C_mid (lo := (x6_1 : Int).toNat) (hi := ((wrap64 (x6_1 + 64)) : Int).toNat) (c := co16) hC17 (by omega) (by omega) hroom17
                  obtain ⟨A17, hA17⟩ : ∃ A1, A1 = (if co16 = (x6_1 : Int).toNat then Ao16 else (Ao16 : Option Addr).map (·.add ((x6_1 : Int).toNat * 1))) := ⟨_, rfl⟩
                  obtain ⟨c17, hc17⟩ : ∃ c1, c1 = co16 - (x6_1 : Int).toNat := ⟨_, rfl⟩
                  have hy17 : y180.length = ((wrap64 (x6_1 + 64)) : Int).toNat - (x6_1 : Int).toNat := (by rw [Ny180.out, List.length_drop, List.length_take] <;> omega)
                  rw [show ((y174).take ((wrap64 (x6_1 + 64)) : Int).toNat).drop (x6_1 : Int).toNat = y180 from Ny180.out.symm] at hr17
                  replace hr17 : Kd.C (Kd.int .u8) _ A17 y180.length y180 := (by rw [hA17]; exact hr17)
                  rw [← hy17, ← hA17, ← hc17] at hcut17
                  have HR183 := Aside0.mk hr17
                  have HC183 := Aside0.mk (show y180.length ≤ c17 from by rw [hy17, hc17]; exact Nat.sub_le_sub_right (Nat.le_trans (by omega) hroom17) _)
                  clear hr17 hC17 hroom17 hi017 hsz17 hc17
                  have KY17 := Aside0.mk hy17
                  have KA17 := Aside0.mk hA17
                  clear hy17 hA17
                  have KL17 := Aside0.mk (show ((wrap64 (x6_1 + 64)) : Int).toNat ≤ y174.length from by omega)
                  have KM17 := Aside0.mk (show (x6_1 : Int).toNat ≤ ((wrap64 (x6_1 + 64)) : Int).toNat from by omega)
                  replace q17 := eq_true q17
                  obtain ⟨Ao18, co18, eo18⟩ := Kd.R_slice HO_5.out
                  subst eo18
                  go_wp2_with (first | ((with_reducible refine gate_callee (f := 35) rfl ?_); refine goesL_ (some 32) rfl rfl Try.func35 (by kernel_rfl) rfl #[.slice Ao18 x5_1.length co18, .slice A17 y180.length c17] rfl (by (try simp only [List.map_toArray, List.map_cons, List.map_nil]); first | done | rfl | (simp only [List.length_drop, List.length_take]; rfl)) ?_; (with_reducible refine (heliastref04_block.calls k1 _ _ x5_1 _ _ y180 t184 _ ?side1 ?side2 ?side3 ?side4 A15.out).mono ?_); (case side1 => repeat (first | exact (Kd.R_reads' HO_5.out).2.2 | (with_reducible refine Kd.C_alloc ?_ _) | (with_reducible refine Kd.C_drewN ?_ _) | (with_reducible refine Kd.C_drew ?_))); (case side2 => exact (Kd.R_reads' HO_5.out).2.1); (case side3 => repeat (first | exact (by repeat (first | (with_reducible exact HR183.out) | (with_reducible refine Kd.C_alloc ?_ _) | (with_reducible refine Kd.C_drewN ?_ _) | (with_reducible refine Kd.C_drew ?_) | exact HR183.out)) | (with_reducible refine Kd.C_alloc ?_ _) | (with_reducible refine Kd.C_drewN ?_ _) | (with_reducible refine Kd.C_drew ?_))); (case side4 => exact HC183.out); rintro e w19 ⟨v185, rfl, ho0, hb⟩; refine ⟨_, rfl, ?_⟩; have n0_ := Aside0.mk (Kd.R_below (by (with_reducible repeat (first | apply Kd.R_alloc | apply Kd.R_drewN | apply Kd.R_drew)); exact HO_3.out) hb); have n1_ := Aside0.mk (Kd.R_elder' (by (with_reducible repeat (first | apply Kd.R_alloc | apply Kd.R_drewN | apply Kd.R_drew)); exact HO_5.out) (Kd.R_base ho0) hb); have n2_ := Aside0.mk (Kd.R_lower (Kd.R_new' ho0 (Kd.R_lt (by (with_reducible repeat (first | apply Kd.R_alloc | apply Kd.R_drewN | apply Kd.R_drew)); exact HO_5.out))) (below_size (by repeat (first | (with_reducible first | exact HB.out | apply below_alloc | apply pw_below_drewN | apply below_drew1) | exact HB.out)))); have n3_ := Aside0.mk (Kd.C_below (by repeat (first | (with_reducible exact HR183.out) | (with_reducible refine Kd.C_alloc ?_ _) | (with_reducible refine Kd.C_drewN ?_ _) | (with_reducible refine Kd.C_drew ?_) | exact HR183.out)) hb); have n4_ := Aside0.mk (below_step (by repeat (first | (with_reducible first | exact HB.out | apply below_alloc | apply pw_below_drewN | apply below_drew1) | exact HB.out)) hb); clear HO_3; clear HO_5; clear HR183; clear HB; have HO_3 := n0_; have HO_5 := n1_; have HO186 := n2_; have HR183 := n3_; have HB := n4_; clear n0_ n1_ n2_ n3_ n4_; (try clear hb); (try clear hb2); (try clear hk); (try clear hi); (try clear ho0)))
                  go_roundg k1
                  case measure => have := HK1.out; omega
                  case rel => exact ⟨(t184), (wrap64 (x6_1 + 64)), (by first | rfl | (simp; done) | (simp [*]; done)), H', ⟨by have := HK1.out; omega⟩, ⟨by (with_reducible repeat (first | apply Kd.R_alloc | apply Kd.R_drewN | apply Kd.R_drew)); exact HO_3.out⟩, ⟨by (with_reducible repeat (first | apply Kd.R_alloc | apply Kd.R_drewN | apply Kd.R_drew)); exact Kd.R_mono HO186.out (fun _ hk => trivial)⟩, ⟨by repeat (first | (with_reducible first | exact HB.out | apply below_alloc | apply pw_below_drewN | apply below_drew1) | exact HB.out)⟩⟩
                · rw [if_neg c14] at H
                  exact absurd H (by simp)
              · rw [if_neg c13] at H
                exact absurd H (by simp)
            · rw [if_neg c12] at H
              exact absurd H (by simp)
          · rw [if_neg c11] at H
            have c11b0 : decide (x6_1 < (y174.length : Int)) = false := decide_eq_false c11
            clear c11
            have H' := Aside0.mk H
            clear H
            obtain ⟨Ao20, co20, eo20⟩ := Kd.R_slice HO_3.out
            subst eo20
            go_wp2
            go_loopg [7, 8] k1 (fun kq v7 v8 w' => ∃ (x7_2 : List Int) (x8_2 : Int), v8 = .int .i64 x8_2 ∧ Aside0 (heliastref04_Sum.l1 kq x5_1 x7_2 x8_2 = some r) ∧ Aside0 (kq ≤ k1) ∧ Aside0 (Kd.R (Kd.int .u32) 55 w' w.heap.size (fun _ => True) u5 x5_1) ∧ Aside0 (Kd.R (Kd.int .u8) 5 w' w.heap.size (fun _ => True) v7 x7_2) ∧ Aside0 (Below w.heap.size w w'))
            case atStart => exact ⟨(([] : List Int)), (0), (by first | rfl | (simp; done) | (simp [*]; done)), H', ⟨Nat.le_refl _⟩, ⟨by (with_reducible repeat (first | apply Kd.R_alloc | apply Kd.R_drewN | apply Kd.R_drew)); exact HO_5.out⟩, ⟨by first | exact Kd.R_nil _ _ _ _ _ | exact Kd.N_nil _ _ _ _ _ | exact Kd.V_nil _ _ _ _ _ | exact Kd.Q_nil _ _ _ _ _ | exact Kd.S_nil _ _ _ _ _⟩, ⟨by repeat (first | (with_reducible first | exact HB.out | apply below_alloc | apply pw_below_drewN | apply below_drew1) | exact HB.out)⟩⟩
            case round =>
              clear H'
              try clear c1
              try clear q1
              try clear c2
              try clear p2
              try clear c3
              try clear c4
              try clear p6
              try clear c11
              try clear c11b0
              try clear c12
              try clear c12b0
              try clear c12b1
              try clear c13
              try clear c13b0
              try clear c13b1
              try clear c14
              try clear c14b0
              try clear c14b1
              try clear c17
              try clear q17
              try clear p2
              try clear q017
              try clear q17
              obtain ⟨x7_2, x8_2, rfl, HA, HK2, HO_5, HO_7, HB⟩ := hrel
              cases gk with
              | zero => exact absurd HA.out (by simp [heliastref04_Sum.l1])
              | succ k2 =>
                have H := HA.out
                clear HA
                simp only [heliastref04_Sum.l1] at H
                by_cases c21 : x8_2 < 8
                · rw [if_pos c21] at H
                  have c21b0 : decide (x8_2 < 8) = true := decide_eq_true c21
                  clear c21
                  by_cases c22 : 0 ≤ x8_2
                  · rw [if_pos c22] at H
                    have c22b0 : decide (0 ≤ x8_2) = true := decide_eq_true c22
                    clear c22
                    by_cases c23 : x8_2 < (x5_1.length : Int)
                    · rw [if_pos c23] at H
                      have c23b0 : decide (x8_2 < (x5_1.length : Int)) = true := decide_eq_true c23
                      clear c23
                      obtain ⟨y191, hy191⟩ : ∃ y_ : List Int, y_ = (([((rd x5_1 x8_2) / 16777216) % 256, ((rd x5_1 x8_2) / 65536) % 256, ((rd x5_1 x8_2) / 256) % 256, (rd x5_1 x8_2) % 256] : List Int)) := ⟨_, rfl⟩
                      replace H : (if x7_2.length + y191.length < 140737488355328 then (heliastref04_Sum.l1 k2 x5_1 (x7_2 ++ y191) (wrap64 (x8_2 + 1))) else (none)) = some r := by first | (rw [hy191]; with_reducible exact H) | (have H2_ := (Option.bind_some _ _).symm.trans H; rw [hy191]; with_reducible exact H2_) | (have H2_ := (Option.bind_some _ _).symm.trans H; with_reducible exact H2_) | with_reducible exact H | (rw [hy191]; exact H) | exact H
                      have Ny191 := Aside0.mk hy191
                      clear hy191
                      by_cases c24 : x7_2.length + y191.length < 140737488355328
                      · rw [if_pos c24] at H
                        have LMc24 := Aside0.mk c24
                        clear c24
                        obtain ⟨y194, hy194⟩ : ∃ y_ : List Int, y_ = (x7_2 ++ y191) := ⟨_, rfl⟩
                        replace H : (heliastref04_Sum.l1 k2 x5_1 y194 (wrap64 (x8_2 + 1))) = some r := by first | (rw [hy194]; with_reducible exact H) | (have H2_ := (Option.bind_some _ _).symm.trans H; rw [hy194]; with_reducible exact H2_) | (have H2_ := (Option.bind_some _ _).symm.trans H; with_reducible exact H2_) | with_reducible exact H | (rw [hy194]; exact H) | exact H
                        have Ny194 := Aside0.mk hy194
                        clear hy194
                        have H' := Aside0.mk H
                        clear H
                        try go_wp2
                        have n0_ := Aside0.mk (Kd.R_drew HO_5.out)
                        have n1_ := Aside0.mk (Kd.R_drew HO_7.out)
                        have n2_ := Aside0.mk (below_drew1 HB.out)
                        clear HO_5
                        clear HO_7
                        clear HB
                        have HO_5 := n0_
                        have HO_7 := n1_
                        have HB := n2_
                        clear n0_ n1_ n2_
                        obtain ⟨Ao26, co26, eo26⟩ := Kd.R_slice HO_5.out
                        (first | subst eo26 | (injection eo26 with f1_ f2_ f3_; have f4_ := f1_.symm; have f5_ := f3_.symm; clear f1_ f2_ f3_; subst f4_; subst f5_))
                        have p187 : 0 ≤ (x8_2 : Int) := of_decide_eq_true (by first | (with_reducible assumption) | assumption)
                        have q187 : x8_2 < (x5_1.length : Int) := of_decide_eq_true (by first | (with_reducible assumption) | assumption)
                        obtain ⟨ad187, e187, hx187_0⟩ := Kd.at_int (Kd.R_reads' HO_5.out).2.2 x8_2 p187 q187
                        cases e187
                        replace p187 := eq_true p187
                        replace q187 := eq_true q187
                        have p188 : 0 ≤ (x8_2 : Int) := of_decide_eq_true (by first | (with_reducible assumption) | assumption)
                        have q188 : x8_2 < (x5_1.length : Int) := of_decide_eq_true (by first | (with_reducible assumption) | assumption)
                        obtain ⟨ad188, e188, hx188_0⟩ := Kd.at_int (Kd.R_reads' HO_5.out).2.2 x8_2 p188 q188
                        obtain rfl : ad187 = ad188 := (by injection e188)
                        replace p188 := eq_true p188
                        replace q188 := eq_true q188
                        have p189 : 0 ≤ (x8_2 : Int) := of_decide_eq_true (by first | (with_reducible assumption) | assumption)
                        have q189 : x8_2 < (x5_1.length : Int) := of_decide_eq_true (by first | (with_reducible assumption) | assumption)
                        obtain ⟨ad189, e189, hx189_0⟩ := Kd.at_int (Kd.R_reads' HO_5.out).2.2 x8_2 p189 q189
                        obtain rfl : ad187 = ad189 := (by injection e189)
                        replace p189 := eq_true p189
                        replace q189 := eq_true q189
                        have p190 : 0 ≤ (x8_2 : Int) := of_decide_eq_true (by first | (with_reducible assumption) | assumption)
                        have q190 : x8_2 < (x5_1.length : Int) := of_decide_eq_true (by first | (with_reducible assumption) | assumption)
                        obtain ⟨ad190, e190, hx190_0⟩ := Kd.at_int (Kd.R_reads' HO_5.out).2.2 x8_2 p190 q190
                        obtain rfl : ad187 = ad190 := (by injection e190)
                        replace p190 := eq_true p190
                        replace q190 := eq_true q190
                        refine start_ (n := 27) (S := fun w' => w'.cell? (ad187.add (x8_2).toNat) = some (.int .u32 (rd x5_1 x8_2)) ∧ w'.cell? (ad187.add (x8_2).toNat) = some (.int .u32 (rd x5_1 x8_2)) ∧ w'.cell? (ad187.add (x8_2).toNat) = some (.int .u32 (rd x5_1 x8_2)) ∧ w'.cell? (ad187.add (x8_2).toNat) = some (.int .u32 (rd x5_1 x8_2))) (ds := [25]) #[false, false, false, false, false, false, false, false, false, false, false, false, false, false, false, false, false, false, false, false, false, false, false, false, false, false, false] (by kernel_rfl) rfl rfl ⟨hx187_0, hx188_0, hx189_0, hx190_0⟩ (fun hHeld => ?_); refine with_tabW heliastref04_Sum.tab14 heliastref04_Sum.bits14 (fun HT_ HW_ => ?_)
                        generalize wr.drew = w25 at HO_5 HO_7 HB hx187_0 hx188_0 hx189_0 hx190_0 hHeld ⊢
                        refine pure_ (i := 0) (N := some 37) (v := ?_) (a' := ?_) #[true, false, false, false, false, false, false, false, false, false, false, false, false, false, false, false, false, false, false, false, false, false, false, false, false, false, false] rfl rfl (any_of HT_.out (by kernel_rfl)) (fun _ _ _ h => h) (Or.inl ⟨by rfl, ?_⟩) ?_ ?_
                        rotate_left
                        · intro w'
                          go_simp
                          with_reducible rfl
                        rotate_left
                        · simp only [Act.put, List.setIfInBounds_toArray, List.set_cons_zero, List.set_cons_succ, i64_w, i32_w]
                          rfl
                        refine pure_ (i := 1) (N := some 38) (v := ?_) (a' := ?_) #[true, true, false, false, false, false, false, false, false, false, false, false, false, false, false, false, false, false, false, false, false, false, false, false, false, false, false] rfl rfl (any_of HT_.out (by kernel_rfl)) (fun _ _ _ h => h) (Or.inl ⟨by rfl, ?_⟩) ?_ ?_
                        rotate_left
                        · intro w'
                          go_simp
                          with_reducible rfl
                        rotate_left
                        · simp only [Act.put, List.setIfInBounds_toArray, List.set_cons_zero, List.set_cons_succ, i64_w, i32_w]
                          rfl
                        refine pure_ (i := 2) (N := some 39) (v := ?_) (a' := ?_) #[true, true, true, false, false, false, false, false, false, false, false, false, false, false, false, false, false, false, false, false, false, false, false, false, false, false, false] rfl rfl (any_of HT_.out (by kernel_rfl)) (fun _ _ _ h => h) (Or.inl ⟨by rfl, ?_⟩) ?_ ?_
                        rotate_left
                        · intro w'
                          go_simp
                          with_reducible rfl
                        rotate_left
                        · simp only [Act.put, List.setIfInBounds_toArray, List.set_cons_zero, List.set_cons_succ, i64_w, i32_w]
                          rfl
                        refine pure_ (i := 3) (N := some 40) (v := ?_) (a' := ?_) #[true, true, true, true, false, false, false, false, false, false, false, false, false, false, false, false, false, false, false, false, false, false, false, false, false, false, false] rfl rfl (any_of HT_.out (by kernel_rfl)) (fun _ _ _ h => h) (Or.inl ⟨by rfl, ?_⟩) ?_ ?_
                        rotate_left
                        · intro w'
                          go_simp
                          with_reducible rfl
                        rotate_left
                        · simp only [Act.put, List.setIfInBounds_toArray, List.set_cons_zero, List.set_cons_succ, i64_w, i32_w]
                          rfl
                        refine pure_ (i := 7) (N := some 44) (v := ?_) (a' := ?_) #[true, true, true, true, false, false, false, true, false, false, false, false, false, false, false, false, false, false, false, false, false, false, false, false, false, false, false] rfl rfl (any_of HT_.out (by kernel_rfl)) (fun _ _ _ h => h) (Or.inl ⟨by rfl, ?_⟩) ?_ ?_
                        rotate_left
                        · intro w'
                          go_simp
                          with_reducible rfl
                        rotate_left
                        · simp only [Act.put, List.setIfInBounds_toArray, List.set_cons_zero, List.set_cons_succ, i64_w, i32_w]
                          rfl
                        refine pure_ (i := 8) (N := some 45) (v := ?_) (a' := ?_) #[true, true, true, true, false, false, false, true, true, false, false, false, false, false, false, false, false, false, false, false, false, false, false, false, false, false, false] rfl rfl (any_of HT_.out (by kernel_rfl)) (fun _ _ _ h => h) (Or.inl ⟨by rfl, ?_⟩) ?_ ?_
                        rotate_left
                        · intro w'
                          go_simp
                          with_reducible rfl
                        rotate_left
                        · simp only [Act.put, List.setIfInBounds_toArray, List.set_cons_zero, List.set_cons_succ, i64_w, i32_w]
                          rfl
                        refine pure_ (i := 9) (N := some 46) (v := ?_) (a' := ?_) #[true, true, true, true, false, false, false, true, true, true, false, false, false, false, false, false, false, false, false, false, false, false, false, false, false, false, false] rfl rfl (any_of HT_.out (by kernel_rfl)) (fun _ _ _ h => h) (Or.inl ⟨by rfl, ?_⟩) ?_ ?_
                        rotate_left
                        · intro w'
                          go_simp
                          with_reducible rfl
                        rotate_left
                        · simp only [Act.put, List.setIfInBounds_toArray, List.set_cons_zero, List.set_cons_succ, i64_w, i32_w]
                          rfl
                        refine pure_ (i := 13) (N := some 50) (v := ?_) (a' := ?_) #[true, true, true, true, false, false, false, true, true, true, false, false, false, true, false, false, false, false, false, false, false, false, false, false, false, false, false] rfl rfl (any_of HT_.out (by kernel_rfl)) (fun _ _ _ h => h) (Or.inl ⟨by rfl, ?_⟩) ?_ ?_
                        rotate_left
                        · intro w'
                          go_simp
                          with_reducible rfl
                        rotate_left
                        · simp only [Act.put, List.setIfInBounds_toArray, List.set_cons_zero, List.set_cons_succ, i64_w, i32_w]
                          rfl
                        refine pure_ (i := 14) (N := some 51) (v := ?_) (a' := ?_) #[true, true, true, true, false, false, false, true, true, true, false, false, false, true, true, false, false, false, false, false, false, false, false, false, false, false, false] rfl rfl (any_of HT_.out (by kernel_rfl)) (fun _ _ _ h => h) (Or.inl ⟨by rfl, ?_⟩) ?_ ?_
                        rotate_left
                        · intro w'
                          go_simp
                          with_reducible rfl
                        rotate_left
                        · simp only [Act.put, List.setIfInBounds_toArray, List.set_cons_zero, List.set_cons_succ, i64_w, i32_w]
                          rfl
                        refine pure_ (i := 15) (N := some 52) (v := ?_) (a' := ?_) #[true, true, true, true, false, false, false, true, true, true, false, false, false, true, true, true, false, false, false, false, false, false, false, false, false, false, false] rfl rfl (any_of HT_.out (by kernel_rfl)) (fun _ _ _ h => h) (Or.inl ⟨by rfl, ?_⟩) ?_ ?_
                        rotate_left
                        · intro w'
                          go_simp
                          with_reducible rfl
                        rotate_left
                        · simp only [Act.put, List.setIfInBounds_toArray, List.set_cons_zero, List.set_cons_succ, i64_w, i32_w]
                          rfl
                        refine pure_ (i := 19) (N := some 56) (v := ?_) (a' := ?_) #[true, true, true, true, false, false, false, true, true, true, false, false, false, true, true, true, false, false, false, true, false, false, false, false, false, false, false] rfl rfl (any_of HT_.out (by kernel_rfl)) (fun _ _ _ h => h) (Or.inl ⟨by rfl, ?_⟩) ?_ ?_
                        rotate_left
                        · intro w'
                          go_simp
                          with_reducible rfl
                        rotate_left
                        · simp only [Act.put, List.setIfInBounds_toArray, List.set_cons_zero, List.set_cons_succ, i64_w, i32_w]
                          rfl
                        refine pure_ (i := 20) (N := some 57) (v := ?_) (a' := ?_) #[true, true, true, true, false, false, false, true, true, true, false, false, false, true, true, true, false, false, false, true, true, false, false, false, false, false, false] rfl rfl (any_of HT_.out (by kernel_rfl)) (fun _ _ _ h => h) (Or.inl ⟨by rfl, ?_⟩) ?_ ?_
                        rotate_left
                        · intro w'
                          go_simp
                          with_reducible rfl
                        rotate_left
                        · simp only [Act.put, List.setIfInBounds_toArray, List.set_cons_zero, List.set_cons_succ, i64_w, i32_w]
                          rfl
                        refine pure_ (i := 21) (N := some 58) (v := ?_) (a' := ?_) #[true, true, true, true, false, false, false, true, true, true, false, false, false, true, true, true, false, false, false, true, true, true, false, false, false, false, false] rfl rfl (any_of HT_.out (by kernel_rfl)) (fun _ _ _ h => h) (Or.inl ⟨by rfl, ?_⟩) ?_ ?_
                        rotate_left
                        · intro w'
                          go_simp
                          with_reducible rfl
                        rotate_left
                        · simp only [Act.put, List.setIfInBounds_toArray, List.set_cons_zero, List.set_cons_succ, i64_w, i32_w]
                          rfl
                        refine take_ (i := 4) (N := some 41) (v := ?_) (a' := ?_) #[true, true, true, true, true, false, false, true, true, true, false, false, false, true, true, true, false, false, false, true, true, true, false, false, false, false, false] rfl rfl (take_ofW HT_.out HW_.out (by kernel_rfl)) (fun _ _ _ h => h) (Or.inl ⟨by rfl, ?_⟩) hHeld ?_ ?_
                        rotate_left
                        · rintro w' ⟨s0, s1, s2, s3⟩
                          go_simp
                          with_reducible rfl
                        rotate_left
                        · simp only [Act.put, List.setIfInBounds_toArray, List.set_cons_zero, List.set_cons_succ, i64_w, i32_w]
                          rfl
                        refine pure_ (i := 5) (N := some 42) (v := ?_) (a' := ?_) #[true, true, true, true, true, true, false, true, true, true, false, false, false, true, true, true, false, false, false, true, true, true, false, false, false, false, false] rfl rfl (any_of HT_.out (by kernel_rfl)) (fun _ _ _ h => h) (Or.inl ⟨by rfl, ?_⟩) ?_ ?_
                        rotate_left
                        · intro w'
                          go_simp
                          with_reducible rfl
                        rotate_left
                        · simp only [Act.put, List.setIfInBounds_toArray, List.set_cons_zero, List.set_cons_succ, i64_w, i32_w]
                          rfl
                        refine pure_ (i := 6) (N := some 43) (v := ?_) (a' := ?_) #[true, true, true, true, true, true, true, true, true, true, false, false, false, true, true, true, false, false, false, true, true, true, false, false, false, false, false] rfl rfl (any_of HT_.out (by kernel_rfl)) (fun _ _ _ h => h) (Or.inl ⟨by rfl, ?_⟩) ?_ ?_
                        rotate_left
                        · intro w'
                          go_simp
                          with_reducible rfl
                        rotate_left
                        · simp only [Act.put, List.setIfInBounds_toArray, List.set_cons_zero, List.set_cons_succ, i64_w, i32_w]
                          rfl
                        refine take_ (i := 10) (N := some 47) (v := ?_) (a' := ?_) #[true, true, true, true, true, true, true, true, true, true, true, false, false, true, true, true, false, false, false, true, true, true, false, false, false, false, false] rfl rfl (take_ofW HT_.out HW_.out (by kernel_rfl)) (fun _ _ _ h => h) (Or.inl ⟨by rfl, ?_⟩) hHeld ?_ ?_
                        rotate_left
                        · rintro w' ⟨s0, s1, s2, s3⟩
                          go_simp
                          with_reducible rfl
                        rotate_left
                        · simp only [Act.put, List.setIfInBounds_toArray, List.set_cons_zero, List.set_cons_succ, i64_w, i32_w]
                          rfl
                        refine pure_ (i := 11) (N := some 48) (v := ?_) (a' := ?_) #[true, true, true, true, true, true, true, true, true, true, true, true, false, true, true, true, false, false, false, true, true, true, false, false, false, false, false] rfl rfl (any_of HT_.out (by kernel_rfl)) (fun _ _ _ h => h) (Or.inl ⟨by rfl, ?_⟩) ?_ ?_
                        rotate_left
                        · intro w'
                          go_simp
                          with_reducible rfl
                        rotate_left
                        · simp only [Act.put, List.setIfInBounds_toArray, List.set_cons_zero, List.set_cons_succ, i64_w, i32_w]
                          rfl
                        refine pure_ (i := 12) (N := some 49) (v := ?_) (a' := ?_) #[true, true, true, true, true, true, true, true, true, true, true, true, true, true, true, true, false, false, false, true, true, true, false, false, false, false, false] rfl rfl (any_of HT_.out (by kernel_rfl)) (fun _ _ _ h => h) (Or.inl ⟨by rfl, ?_⟩) ?_ ?_
                        rotate_left
                        · intro w'
                          go_simp
                          with_reducible rfl
                        rotate_left
                        · simp only [Act.put, List.setIfInBounds_toArray, List.set_cons_zero, List.set_cons_succ, i64_w, i32_w]
                          rfl
                        refine take_ (i := 16) (N := some 53) (v := ?_) (a' := ?_) #[true, true, true, true, true, true, true, true, true, true, true, true, true, true, true, true, true, false, false, true, true, true, false, false, false, false, false] rfl rfl (take_ofW HT_.out HW_.out (by kernel_rfl)) (fun _ _ _ h => h) (Or.inl ⟨by rfl, ?_⟩) hHeld ?_ ?_
                        rotate_left
                        · rintro w' ⟨s0, s1, s2, s3⟩
                          go_simp
                          with_reducible rfl
                        rotate_left
                        · simp only [Act.put, List.setIfInBounds_toArray, List.set_cons_zero, List.set_cons_succ, i64_w, i32_w]
                          rfl
                        refine pure_ (i := 17) (N := some 54) (v := ?_) (a' := ?_) #[true, true, true, true, true, true, true, true, true, true, true, true, true, true, true, true, true, true, false, true, true, true, false, false, false, false, false] rfl rfl (any_of HT_.out (by kernel_rfl)) (fun _ _ _ h => h) (Or.inl ⟨by rfl, ?_⟩) ?_ ?_
                        rotate_left
                        · intro w'
                          go_simp
                          with_reducible rfl
                        rotate_left
                        · simp only [Act.put, List.setIfInBounds_toArray, List.set_cons_zero, List.set_cons_succ, i64_w, i32_w]
                          rfl
                        refine pure_ (i := 18) (N := some 55) (v := ?_) (a' := ?_) #[true, true, true, true, true, true, true, true, true, true, true, true, true, true, true, true, true, true, true, true, true, true, false, false, false, false, false] rfl rfl (any_of HT_.out (by kernel_rfl)) (fun _ _ _ h => h) (Or.inl ⟨by rfl, ?_⟩) ?_ ?_
                        rotate_left
                        · intro w'
                          go_simp
                          with_reducible rfl
                        rotate_left
                        · simp only [Act.put, List.setIfInBounds_toArray, List.set_cons_zero, List.set_cons_succ, i64_w, i32_w]
                          rfl
                        refine take_ (i := 22) (N := some 59) (v := ?_) (a' := ?_) #[true, true, true, true, true, true, true, true, true, true, true, true, true, true, true, true, true, true, true, true, true, true, true, false, false, false, false] rfl rfl (take_ofW HT_.out HW_.out (by kernel_rfl)) (fun _ _ _ h => h) (Or.inl ⟨by rfl, ?_⟩) hHeld ?_ ?_
                        rotate_left
                        · rintro w' ⟨s0, s1, s2, s3⟩
                          go_simp
                          with_reducible rfl
                        rotate_left
                        · simp only [Act.put, List.setIfInBounds_toArray, List.set_cons_zero, List.set_cons_succ, i64_w, i32_w]
                          rfl
                        refine pure_ (i := 23) (N := some 60) (v := ?_) (a' := ?_) #[true, true, true, true, true, true, true, true, true, true, true, true, true, true, true, true, true, true, true, true, true, true, true, true, false, false, false] rfl rfl (any_of HT_.out (by kernel_rfl)) (fun _ _ _ h => h) (Or.inl ⟨by rfl, ?_⟩) ?_ ?_
                        rotate_left
                        · intro w'
                          go_simp
                          with_reducible rfl
                        rotate_left
                        · simp only [Act.put, List.setIfInBounds_toArray, List.set_cons_zero, List.set_cons_succ, i64_w, i32_w]
                          rfl
                        refine one_ (i := 24) (N := some 61) #[true, true, true, true, true, true, true, true, true, true, true, true, true, true, true, true, true, true, true, true, true, true, true, true, true, false, false] rfl rfl (one_of HT_.out (by kernel_rfl)) (by decide) (fun K hK => ?_)
                        refine Kd.R_lit_step (Kd.int .u8) _ 5 ?hg (N := 61) ?hd (xs := ([((rd x5_1 x8_2) / 16777216) % 256, ((rd x5_1 x8_2) / 65536) % 256, ((rd x5_1 x8_2) / 256) % 256, (rd x5_1 x8_2) % 256] : List Int)) (inner := [.int .u8 (((rd x5_1 x8_2) / 16777216) % 256), .int .u8 (((rd x5_1 x8_2) / 65536) % 256), .int .u8 (((rd x5_1 x8_2) / 256) % 256), .int .u8 ((rd x5_1 x8_2) % 256)]) (ok := fun _ => True) (okp := fun _ => True) ?hr ?hp (fun _ hk => hk) trivial (Below.refl _ _) (Nat.le_refl _) (by simp) ?_; (case hd => rfl); (case hg => rfl); (case hr => first | (go_simp; done) | (go_simp; rfl)); (case hp => exact (Reps.one (show Kd.M (Kd.int .u8) _ _ _ (((rd x5_1 x8_2) / 16777216) % 256) [.int .u8 (((rd x5_1 x8_2) / 16777216) % 256)] from rfl) (Reps.one (show Kd.M (Kd.int .u8) _ _ _ (((rd x5_1 x8_2) / 65536) % 256) [.int .u8 (((rd x5_1 x8_2) / 65536) % 256)] from rfl) (Reps.one (show Kd.M (Kd.int .u8) _ _ _ (((rd x5_1 x8_2) / 256) % 256) [.int .u8 (((rd x5_1 x8_2) / 256) % 256)] from rfl) (Reps.one (show Kd.M (Kd.int .u8) _ _ _ ((rd x5_1 x8_2) % 256) [.int .u8 ((rd x5_1 x8_2) % 256)] from rfl) (Reps.none _ _))))))
                        intro v192 w27 ho28 hb hg_ hnew_
                        have HS0_ := (hb.cell (World.block_lt_of_cell? _ _ (hHeld.1))).trans (hHeld.1)
                        have HS1_ := (hb.cell (World.block_lt_of_cell? _ _ (hHeld.2.1))).trans (hHeld.2.1)
                        have HS2_ := (hb.cell (World.block_lt_of_cell? _ _ (hHeld.2.2.1))).trans (hHeld.2.2.1)
                        have HS3_ := (hb.cell (World.block_lt_of_cell? _ _ (hHeld.2.2.2))).trans (hHeld.2.2.2)
                        clear hg_ hnew_
                        (first | rw [← Ny191.out] at ho28 | (simp only [Int.reduceToNat] at ho28; rw [← Ny191.out] at ho28))
                        have n0_ := Aside0.mk (Kd.R_below (by (with_reducible repeat (first | apply Kd.R_alloc | apply Kd.R_drewN | apply Kd.R_drew)); exact HO_5.out) hb)
                        have n1_ := Aside0.mk (Kd.R_elder' (by (with_reducible repeat (first | apply Kd.R_alloc | apply Kd.R_drewN | apply Kd.R_drew)); exact HO_7.out) (Kd.R_base ho28) hb)
                        have n2_ := Aside0.mk (Kd.R_lower (Kd.R_new' ho28 (Kd.R_lt (by (with_reducible repeat (first | apply Kd.R_alloc | apply Kd.R_drewN | apply Kd.R_drew)); exact HO_7.out))) (below_size (by repeat (first | (with_reducible first | exact HB.out | apply below_alloc | apply pw_below_drewN | apply below_drew1) | exact HB.out))))
                        have n3_ := Aside0.mk (below_step (by repeat (first | (with_reducible first | exact HB.out | apply below_alloc | apply pw_below_drewN | apply below_drew1) | exact HB.out)) hb)
                        clear HO_5
                        clear HO_7
                        clear HB
                        have HO_5 := n0_
                        have HO_7 := n1_
                        have HO193 := n2_
                        have HB := n3_
                        clear n0_ n1_ n2_ n3_
                        clear hb ho28
                        obtain ⟨Ao30, co30, eo30⟩ := Kd.R_slice HO193.out
                        (first | subst eo30 | (injection eo30 with f1_ f2_ f3_; have f4_ := f1_.symm; have f5_ := f3_.symm; clear f1_ f2_ f3_; subst f4_; subst f5_))
                        refine hK.out _ _ ⟨HS0_, HS1_, HS2_, HS3_⟩ (fun hHeld => ?_)
                        clear hK K
                        refine norm_ (a' := ?_) ?_ ?_
                        rotate_left
                        · show Act.put _ (some 61) _ = _
                          simp only [Act.put, List.setIfInBounds_toArray, List.set_cons_zero, List.set_cons_succ, i64_w, i32_w]
                          rfl
                        refine last_ (i := 25) (N := some 62) #[true, true, true, true, true, true, true, true, true, true, true, true, true, true, true, true, true, true, true, true, true, true, true, true, true, true, false] rfl rfl (one_of HT_.out (by kernel_rfl)) (by decide) (fun K hK => ?_)
                        refine Kd.R_append_rows_step (Kd.int .u8) (w0 := w) w.heap.size (by rfl) (.tmp 37) (.tmp 61) 22 5 (.int .u8 0) 1 rfl Try.underlying22 info5 rfl (by decide) (by omega) u7 x7_2 y191 _ _ _ (fun k_ => some k_ ≠ (.slice Ao30 y191.length co30 : Value).ownBlock) (fun _ => False) rfl rfl ?aO ?aR (fun _ _ h => h) (fun _ h => h.elim) ?aF ?aB ?aS ?aL ?_
                        (case aR => repeat (first | exact (Kd.R_reads' HO193.out).2.2 | (with_reducible refine Kd.C_alloc ?_ _) | (with_reducible refine Kd.C_drewN ?_ _) | (with_reducible refine Kd.C_drew ?_)))
                        (case aB => exact (by repeat (first | (with_reducible first | exact HB.out | apply below_alloc | apply pw_below_drewN | apply below_drew1) | exact HB.out)))
                        (case aF => exact (fun k_ hk => Kd.fresh' (Kd.R_lt (by (with_reducible repeat (first | apply Kd.R_alloc | apply Kd.R_drewN | apply Kd.R_drew)); exact HO193.out)) k_ hk))
                        (case aO => exact (by (with_reducible repeat (first | apply Kd.R_alloc | apply Kd.R_drewN | apply Kd.R_drew)); exact Kd.R_mono HO_7.out (fun _ hk => hk.2)))
                        (case aS => exact (below_size (by repeat (first | (with_reducible first | exact HB.out | apply below_alloc | apply pw_below_drewN | apply below_drew1) | exact HB.out))))
                        (case aL => have := LMc24.out; omega)
                        intro v195 w29 ho hb hg hat
                        rw [← Ny194.out] at ho
                        have n0_ := Aside0.mk (Kd.R_over' (by (with_reducible repeat (first | apply Kd.R_alloc | apply Kd.R_drewN | apply Kd.R_drew)); exact HO_5.out) (Kd.R_typed (by (with_reducible repeat (first | apply Kd.R_alloc | apply Kd.R_drewN | apply Kd.R_drew)); exact HO_7.out)) (by decide) hg)
                        have n1_ := Aside0.mk (Kd.R_after (ok := (fun _ => True)) (by (with_reducible repeat (first | apply Kd.R_alloc | apply Kd.R_drewN | apply Kd.R_drew)); exact HO193.out) hg hat)
                        have n2_ := Aside0.mk (hb)
                        have n3_ := Aside0.mk (ho)
                        clear HO_5
                        clear HO193
                        clear HB
                        clear HO_7
                        have HO_5 := n0_
                        have HO193 := n1_
                        have HB := n2_
                        have HO196 := n3_
                        clear n0_ n1_ n2_ n3_
                        clear ho hb hg hat
                        refine hK.out _ _ ?_
                        clear hK K
                        refine norm_ (a' := ?_) ?_ ?_
                        rotate_left
                        · show Act.put _ (some 62) _ = _
                          simp only [Act.put, List.setIfInBounds_toArray, List.set_cons_zero, List.set_cons_succ, i64_w, i32_w]
                          rfl
                        refine pure_ (i := 26) (N := some 7) (v := ?_) (a' := ?_) #[true, true, true, true, true, true, true, true, true, true, true, true, true, true, true, true, true, true, true, true, true, true, true, true, true, true, true] rfl rfl (any_of HT_.out (by kernel_rfl)) (fun _ _ _ h => h) (Or.inl ⟨by rfl, ?_⟩) ?_ ?_
                        rotate_left
                        · intro w'
                          go_simp
                          with_reducible rfl
                        rotate_left
                        · simp only [Act.put, List.setIfInBounds_toArray, List.set_cons_zero, List.set_cons_succ, i64_w, i32_w]
                          rfl
                        refine done_ (done_of HT_.out (by kernel_rfl)) ?_
                        try go_wp2
                        go_roundg k2
                        case measure => have := HK1.out; have := HK2.out; omega
                        case rel => exact ⟨(y194), (wrap64 (x8_2 + 1)), (by first | rfl | (simp; done) | (simp [*]; done)), H', ⟨by have := HK1.out; have := HK2.out; omega⟩, ⟨by (with_reducible repeat (first | apply Kd.R_alloc | apply Kd.R_drewN | apply Kd.R_drew)); exact HO_5.out⟩, ⟨by (with_reducible repeat (first | apply Kd.R_alloc | apply Kd.R_drewN | apply Kd.R_drew)); exact Kd.R_mono HO196.out (fun _ hk => trivial)⟩, ⟨by repeat (first | (with_reducible first | exact HB.out | apply below_alloc | apply pw_below_drewN | apply below_drew1) | exact HB.out)⟩⟩
                      · rw [if_neg c24] at H
                        exact absurd H (by simp)
                    · rw [if_neg c23] at H
                      exact absurd H (by simp)
                  · rw [if_neg c22] at H
                    exact absurd H (by simp)
                · rw [if_neg c21] at H
                  have c21b0 : decide (x8_2 < 8) = false := decide_eq_false c21
                  clear c21
                  obtain rfl := Option.some.inj H
                  go_wp2
                  go_ret
                  exact ⟨_, by first | rfl | (simp [errW_none, errW_some] <;> rfl) | (simp [*, errW_none, errW_some] <;> rfl), by (with_reducible repeat (first | apply Kd.R_alloc | apply Kd.R_drewN | apply Kd.R_drew)); exact HO_7.out, by repeat (first | (with_reducible first | exact HB.out | apply below_alloc | apply pw_below_drewN | apply below_drew1) | exact HB.out)⟩
    · rw [if_neg c4] at H
      exact absurd H (by simp)
  · rw [if_neg c2] at H
    exact absurd H (by simp)

end Go.Proofs.Ytnhljemnebgekaa.Rf

/-
  What the functions of these laws compute, as plain Lean functions, and that the machine's calls compute it: written by this session's own hook over the kit's print.
-/
namespace Go.Proofs.Ytnhljemnebgekaa.Rf
open Go.RowKit Go.Proofs.YtnhljemnebgekaaW.PrintWords Go.Proofs.YtnhljemnebgekaaW.PrintLast Go.Proofs.YtnhljemnebgekaaW.PrintMore
attribute [local go_sem] u32_sg u32_mx u64_sg u64_mx
attribute [local go_sem] max2_int min2_int max_two min_two max_three min_three max_four min_four   -- for this text's walks alone
set_option linter.unusedVariables false
set_option linter.unusedSimpArgs false

/-! ### heliastref04_Same: function 13 -/
def heliastref04_Same.l0 : Nat → List Int → List Int → Int → Option (Bool)
  | 0, _, _, _ => none
  | k + 1, x0, x1, x5 => if x5 < (x0.length : Int) then (if 0 ≤ x5 then (if x5 < (x1.length : Int) then (if (rd x0 x5) = (rd x1 x5) then (heliastref04_Same.l0 k x0 x1 (wrap64 (x5 + 1))) else (some false)) else (none)) else (none)) else (some true)
def heliastref04_Same.f (k : Nat) (l0 : List Int) (l1 : List Int) : Option (Bool) := if (l0.length : Int) = (l1.length : Int) then (heliastref04_Same.l0 k l0 l1 0) else (some false)
theorem heliastref04_Same.mono_l : ∀ k, (∀ y0 y1 y2, LeO (heliastref04_Same.l0 k y0 y1 y2) (heliastref04_Same.l0 (k + 1) y0 y1 y2))
  | 0 => fun _ _ _ r h => by simp [heliastref04_Same.l0] at h
  | k + 1 => by
    have ih0 := heliastref04_Same.mono_l k
    · intro y0 y1 y2
      unfold heliastref04_Same.l0
      repeat' first
      | (with_reducible exact ih0 _ _ _)
      | (with_reducible exact LeO.refl _)
      | (with_reducible exact LeO.none _)
      | (with_reducible refine LeO.ite ?_ ?_)
      | (with_reducible refine LeO.bind ?_ (fun _ => ?_))
      | exact ih0 _ _ _
      | exact LeO.none _
      | refine LeO.ite ?_ ?_
      | refine LeO.bind ?_ (fun _ => ?_)
theorem heliastref04_Same.mono : ∀ a0 a1 k, LeO (heliastref04_Same.f k a0 a1) (heliastref04_Same.f (k + 1) a0 a1) := by
  intro a0 a1 k
  have ih0 := heliastref04_Same.mono_l k
  unfold heliastref04_Same.f
  repeat' first
      | (with_reducible exact ih0 _ _ _)
      | (with_reducible exact LeO.refl _)
      | (with_reducible exact LeO.none _)
      | (with_reducible refine LeO.ite ?_ ?_)
      | (with_reducible refine LeO.bind ?_ (fun _ => ?_))
      | exact ih0 _ _ _
      | exact LeO.none _
      | refine LeO.ite ?_ ?_
      | refine LeO.bind ?_ (fun _ => ?_)
set_option maxHeartbeats 8000000 in
set_option maxRecDepth 100000 in
theorem heliastref04_Same.calls (k : Nat) (A0 : Option Addr) (c0 : Nat) (l0 : List Int) (A1 : Option Addr) (c1 : Nat) (l1 : List Int) (r : Bool) (w : World) (hr0 : Kd.C (Kd.int .u8) w A0 l0.length l0) (hc0 : l0.length ≤ c0) (hr1 : Kd.C (Kd.int .u8) w A1 l1.length l1) (hc1 : l1.length ≤ c1) (h : heliastref04_Same.f k l0 l1 = some r) :
    Calls Try.prog 13 #[.slice A0 l0.length c0, .slice A1 l1.length c1] w fun e w' => e = .returned (.bool r) ∧ Drawn0 w w' := by
  have HR0 := Aside0.mk hr0
  have HC0 := Aside0.mk hc0
  clear hr0 hc0
  have HR1 := Aside0.mk hr1
  have HC1 := Aside0.mk hc1
  clear hr1 hc1
  have H : (if (l0.length : Int) = (l1.length : Int) then (heliastref04_Same.l0 k l0 l1 0) else (some false)) = some r := h
  clear h
  by_cases c3 : (l0.length : Int) = (l1.length : Int)
  · rw [if_pos c3] at H
    have c3b0 : ((l0.length : Int) == (l1.length : Int)) = true := beq_iff_eq.mpr c3
    have c3b1 : ((l0.length : Int) != (l1.length : Int)) = false := bne_eq_false_iff_eq.mpr c3
    have c3b2 : (l0.length == l1.length) = true := by first | simpa using c3 | (simp at c3 ⊢; omega)
    clear c3
    have H' := Aside0.mk H
    clear H
    go_enter Try.func13, Try.ntmps13
    go_wp2
    repeat (go_quiet (fail); try go_wp2)
    go_loopg [5] k (fun kq v5 w' => ∃ (x5_1 : Int), v5 = .int .i64 x5_1 ∧ Aside0 (heliastref04_Same.l0 kq l0 l1 x5_1 = some r) ∧ Aside0 (kq ≤ k) ∧ Drawn0 w w')
    case atStart => exact ⟨(0), (by first | rfl | (simp; done) | (simp [*]; done)), H', ⟨Nat.le_refl _⟩, by repeat (first | exact Drawn0.refl _ | apply Drawn0.step)⟩
    case round =>
      clear H'
      try clear c1
      try clear p2
      try clear c3
      try clear c3b0
      try clear c3b1
      try clear c3b2
      obtain ⟨x5_1, rfl, HA, HK1, ⟨m1, rfl⟩⟩ := hrel
      cases gk with
      | zero => exact absurd HA.out (by simp [heliastref04_Same.l0])
      | succ k1 =>
        have H := HA.out
        clear HA
        simp only [heliastref04_Same.l0] at H
        by_cases c4 : x5_1 < (l0.length : Int)
        · rw [if_pos c4] at H
          have c4b0 : decide (x5_1 < (l0.length : Int)) = true := decide_eq_true c4
          clear c4
          by_cases c5 : 0 ≤ x5_1
          · rw [if_pos c5] at H
            have c5b0 : decide (0 ≤ x5_1) = true := decide_eq_true c5
            clear c5
            by_cases c6 : x5_1 < (l1.length : Int)
            · rw [if_pos c6] at H
              have c6b0 : decide (x5_1 < (l1.length : Int)) = true := decide_eq_true c6
              clear c6
              by_cases c7 : (rd l0 x5_1) = (rd l1 x5_1)
              · rw [if_pos c7] at H
                have c7b0 : ((rd l0 x5_1) == (rd l1 x5_1)) = true := beq_iff_eq.mpr c7
                have c7b1 : ((rd l0 x5_1) != (rd l1 x5_1)) = false := bne_eq_false_iff_eq.mpr c7
                clear c7
                have H' := Aside0.mk H
                clear H
                have p197 : 0 ≤ (x5_1 : Int) := of_decide_eq_true (by first | (with_reducible assumption) | assumption)
                have q197 : x5_1 < (l0.length : Int) := of_decide_eq_true (by first | (with_reducible assumption) | assumption)
                obtain ⟨ad197, e197, hx197_0⟩ := Kd.at_int HR0.out x5_1 p197 q197
                cases e197
                replace p197 := eq_true p197
                replace q197 := eq_true q197
                have p198 : 0 ≤ (x5_1 : Int) := of_decide_eq_true (by first | (with_reducible assumption) | assumption)
                have q198 : x5_1 < (l1.length : Int) := of_decide_eq_true (by first | (with_reducible assumption) | assumption)
                obtain ⟨ad198, e198, hx198_0⟩ := Kd.at_int HR1.out x5_1 p198 q198
                cases e198
                replace p198 := eq_true p198
                replace q198 := eq_true q198
                go_wp2
                repeat (go_quiet (fail); try go_wp2)
                go_roundg k1
                case measure => have := HK1.out; omega
                case rel => exact ⟨(wrap64 (x5_1 + 1)), (by first | rfl | (simp; done) | (simp [*]; done)), H', ⟨by have := HK1.out; omega⟩, by repeat (first | exact Drawn0.refl _ | apply Drawn0.step)⟩
              · rw [if_neg c7] at H
                have c7b0 : ((rd l0 x5_1) == (rd l1 x5_1)) = false := beq_eq_false_iff_ne.mpr c7
                have c7b1 : ((rd l0 x5_1) != (rd l1 x5_1)) = true := bne_iff_ne.mpr c7
                obtain rfl := Option.some.inj H
                have p197 : 0 ≤ (x5_1 : Int) := of_decide_eq_true (by first | (with_reducible assumption) | assumption)
                have q197 : x5_1 < (l0.length : Int) := of_decide_eq_true (by first | (with_reducible assumption) | assumption)
                obtain ⟨ad197, e197, hx197_0⟩ := Kd.at_int HR0.out x5_1 p197 q197
                cases e197
                replace p197 := eq_true p197
                replace q197 := eq_true q197
                have p198 : 0 ≤ (x5_1 : Int) := of_decide_eq_true (by first | (with_reducible assumption) | assumption)
                have q198 : x5_1 < (l1.length : Int) := of_decide_eq_true (by first | (with_reducible assumption) | assumption)
                obtain ⟨ad198, e198, hx198_0⟩ := Kd.at_int HR1.out x5_1 p198 q198
                cases e198
                replace p198 := eq_true p198
                replace q198 := eq_true q198
                go_wp2
                repeat (go_quiet (fail); try go_wp2)
                go_ret
                exact ⟨by first | rfl | (simp; done) | (simp [*]; done), by repeat (first | exact Drawn0.refl _ | apply Drawn0.step)⟩
            · rw [if_neg c6] at H
              exact absurd H (by simp)
          · rw [if_neg c5] at H
            exact absurd H (by simp)
        · rw [if_neg c4] at H
          have c4b0 : decide (x5_1 < (l0.length : Int)) = false := decide_eq_false c4
          clear c4
          obtain rfl := Option.some.inj H
          go_wp2
          repeat (go_quiet (fail); try go_wp2)
          go_ret
          exact ⟨by first | rfl | (simp; done) | (simp [*]; done), by repeat (first | exact Drawn0.refl _ | apply Drawn0.step)⟩
  · rw [if_neg c3] at H
    have c3b0 : ((l0.length : Int) == (l1.length : Int)) = false := beq_eq_false_iff_ne.mpr c3
    have c3b1 : ((l0.length : Int) != (l1.length : Int)) = true := bne_iff_ne.mpr c3
    have c3b2 : (l0.length == l1.length) = false := by first | simpa using c3 | (simp at c3 ⊢; omega)
    obtain rfl := Option.some.inj H
    go_enter Try.func13, Try.ntmps13
    go_wp2
    repeat (go_quiet (fail); try go_wp2)
    go_ret
    exact ⟨by first | rfl | (simp; done) | (simp [*]; done), by repeat (first | exact Drawn0.refl _ | apply Drawn0.step)⟩

/-- THE ONE PURE STATEMENT of heliastref04_Same: yours. -/
def heliastref04_Same.Pure : Prop := ∀ (l0 : List Int) (l1 : List Int), l0.length ≤ maxLen → l0.length * 1 ≤ 140737488351232 → (∀ x ∈ l0, (Lit.int .u8 x).wf = true) → l1.length ≤ maxLen → l1.length * 1 ≤ 140737488351232 → (∀ x ∈ l1, (Lit.int .u8 x).wf = true) → ∃ k, heliastref04_Same.f k l0 l1 = some true
theorem heliastref04_Same.walk (P : heliastref04_Same.Pure) (a0 : Option Addr) (len0 cap0 : Nat) (z0 : List Int) (a1 : Option Addr) (len1 cap1 : Nat) (z1 : List Int) (w : World) (w0 : (a0 = none ∧ len0 = 0 ∧ cap0 = 0 ∧ z0 = []) ∨ ∃ x, a0 = some x ∧ len0 ≤ cap0 ∧ cap0 ≤ maxLen ∧ z0.length = cap0 ∧ (∀ i, i < z0.length → w.cell? (x.add i) = some (.int .u8 (z0.getD i 0))) ∧ ∀ n ∈ z0, (Lit.int .u8 n).wf = true) (y0 : len0 * 1 ≤ 140737488351232) (w1 : (a1 = none ∧ len1 = 0 ∧ cap1 = 0 ∧ z1 = []) ∨ ∃ x, a1 = some x ∧ len1 ≤ cap1 ∧ cap1 ≤ maxLen ∧ z1.length = cap1 ∧ (∀ i, i < z1.length → w.cell? (x.add i) = some (.int .u8 (z1.getD i 0))) ∧ ∀ n ∈ z1, (Lit.int .u8 n).wf = true) (y1 : len1 * 1 ≤ 140737488351232) :
    Calls Try.prog 13 #[.slice a0 len0 cap0, .slice a1 len1 cap1] w fun e w' => e = .returned (.bool true) ∧ Below w.heap.size w w' := by
  obtain ⟨l0, rfl, hr0, hm0, hw0, hc0⟩ := ReadsInt.ofRowC w0
  obtain ⟨l1, rfl, hr1, hm1, hw1, hc1⟩ := ReadsInt.ofRowC w1
  obtain ⟨k, h⟩ := P l0 l1 hm0 y0 hw0 hm1 y1 hw1
  refine (heliastref04_Same.calls k _ _ l0 _ _ l1 true w (Kd.C_of_reads (d := (0 : Int)) (h1 := fun _ => rfl) hr0) hc0 (Kd.C_of_reads (d := (0 : Int)) (h1 := fun _ => rfl) hr1) hc1 h).mono ?_
  rintro e w' ⟨rfl, hd⟩
  exact ⟨rfl, hd.below⟩

end Go.Proofs.Ytnhljemnebgekaa.Rf

/-
  What the functions of these laws compute, as plain Lean functions, and that the machine's calls compute it: written by this session's own hook over the kit's print.
-/
namespace Go.Proofs.Ytnhljemnebgekaa.Rf
open Go.RowKit Go.Proofs.YtnhljemnebgekaaW.PrintWords Go.Proofs.YtnhljemnebgekaaW.PrintLast Go.Proofs.YtnhljemnebgekaaW.PrintMore
attribute [local go_sem] u32_sg u32_mx u64_sg u64_mx
attribute [local go_sem] max2_int min2_int max_two min_two max_three min_three max_four min_four   -- for this text's walks alone
set_option linter.unusedVariables false
set_option linter.unusedSimpArgs false

end Go.Proofs.Ytnhljemnebgekaa.Rf

/-
  What the functions of these laws compute, as plain Lean functions, and that the machine's calls compute it: written by this session's own hook over the kit's print.
-/
namespace Go.Proofs.Ytnhljemnebgekaa.Pt
open Go.RowKit Go.Proofs.YtnhljemnebgekaaW.PrintWords Go.Proofs.YtnhljemnebgekaaW.PrintLast Go.Proofs.YtnhljemnebgekaaW.PrintMore
attribute [local go_sem] max2_int min2_int max_two min_two max_three min_three max_four min_four   -- for this text's walks alone
set_option linter.unusedVariables false
set_option linter.unusedSimpArgs false



def errW : Option Int → Value
  | none => .nilIface
  | some c => .iface 0 (.int .i64 c)
theorem errW_none : errW none = .nilIface := rfl
theorem errW_some (c : Int) : errW (some c) = .iface 0 (.int .i64 c) := rfl

theorem info5 : (Try.prog.info? 5).map (fun i => (i.zero, i.size, i.bytes)) = some (some (.int .u8 0), 1, 1) := by kernel_rfl
-- the values' own types

end Go.Proofs.Ytnhljemnebgekaa.Pt

/-
  What the functions of these laws compute, as plain Lean functions, and that the machine's calls compute it: written by this session's own hook over the kit's print.
-/
namespace Go.Proofs.Ytnhljemnebgekaa.Pt
open Go.RowKit Go.Proofs.YtnhljemnebgekaaW.PrintWords Go.Proofs.YtnhljemnebgekaaW.PrintLast Go.Proofs.YtnhljemnebgekaaW.PrintMore
attribute [local go_sem] max2_int min2_int max_two min_two max_three min_three max_four min_four   -- for this text's walks alone
set_option linter.unusedVariables false
set_option linter.unusedSimpArgs false

/-! ### digest_Tail: function 54 -/
def digest_Tail.l0 : Nat → Int → List Int → Int → Option (List Int)
  | 0, _, _, _ => none
  | k + 1, x0, x4, x17 => if x17 < 8 then (if 0 ≤ (wrap64 (8 * x17)) then (if 0 ≤ (wrap64 ((wrap64 ((x4.length : Int) - 1)) - x17)) then (if (wrap64 ((wrap64 ((x4.length : Int) - 1)) - x17)) < (x4.length : Int) then (digest_Tail.l0 k x0 (x4.set ((wrap64 ((wrap64 ((x4.length : Int) - 1)) - x17)) : Int).toNat ((shr .u64 (IntKind.u64.wrap (x0 * 8)) (wrap64 (8 * x17))) % 256)) (wrap64 (x17 + 1))) else (none)) else (none)) else (none)) else (some x4)
def digest_Tail.f (k : Nat) (a0 : Int) : Option (List Int) := if 0 ≤ (wrap64 ((wrap64 (1 + (Int.tmod (wrap64 (119 - (wrap64 (Int.tmod a0 64)))) 64))) + 8)) then (if (wrap64 ((wrap64 (1 + (Int.tmod (wrap64 (119 - (wrap64 (Int.tmod a0 64)))) 64))) + 8) : Int).toNat ≤ 281474976710656 then ((some (List.replicate (wrap64 ((wrap64 (1 + (Int.tmod (wrap64 (119 - (wrap64 (Int.tmod a0 64)))) 64))) + 8) : Int).toNat 0 : List Int)).bind fun y101 => (if 0 < (y101.length : Int) then (digest_Tail.l0 k a0 (y101.set (0 : Int).toNat 128) 0) else (none))) else (none)) else (none)
theorem digest_Tail.mono_l : ∀ k, (∀ y0 y1 y2, LeO (digest_Tail.l0 k y0 y1 y2) (digest_Tail.l0 (k + 1) y0 y1 y2))
  | 0 => fun _ _ _ r h => by simp [digest_Tail.l0] at h
  | k + 1 => by
    have ih0 := digest_Tail.mono_l k
    · intro y0 y1 y2
      unfold digest_Tail.l0
      repeat' first
      | (with_reducible exact ih0 _ _ _)
      | (with_reducible exact LeO.refl _)
      | (with_reducible exact LeO.none _)
      | (with_reducible refine LeO.ite ?_ ?_)
      | (with_reducible refine LeO.bind ?_ (fun _ => ?_))
      | exact ih0 _ _ _
      | exact LeO.none _
      | refine LeO.ite ?_ ?_
      | refine LeO.bind ?_ (fun _ => ?_)
theorem digest_Tail.mono : ∀ a0 k, LeO (digest_Tail.f k a0) (digest_Tail.f (k + 1) a0) := by
  intro a0 k
  have ih0 := digest_Tail.mono_l k
  unfold digest_Tail.f
  repeat' first
      | (with_reducible exact ih0 _ _ _)
      | (with_reducible exact LeO.refl _)
      | (with_reducible exact LeO.none _)
      | (with_reducible refine LeO.ite ?_ ?_)
      | (with_reducible refine LeO.bind ?_ (fun _ => ?_))
      | exact ih0 _ _ _
      | exact LeO.none _
      | refine LeO.ite ?_ ?_
      | refine LeO.bind ?_ (fun _ => ?_)
set_option maxHeartbeats 8000000 in
set_option maxRecDepth 100000 in
theorem digest_Tail.calls (k : Nat) (a0 : Int) (r : List Int) (w : World) (h : digest_Tail.f k a0 = some r) :
    Calls Try.prog 54 #[.int .u64 a0] w fun e w' => ∃ v0_ : Value, e = .returned (v0_) ∧ Kd.R (Kd.int .u8) 5 w' w.heap.size (fun _ => True) v0_ r ∧ Below w.heap.size w w' := by
  have HB := Aside0.mk (Below.refl w.heap.size w)
  have H : (if 0 ≤ (wrap64 ((wrap64 (1 + (Int.tmod (wrap64 (119 - (wrap64 (Int.tmod a0 64)))) 64))) + 8)) then (if (wrap64 ((wrap64 (1 + (Int.tmod (wrap64 (119 - (wrap64 (Int.tmod a0 64)))) 64))) + 8) : Int).toNat ≤ 281474976710656 then ((some (List.replicate (wrap64 ((wrap64 (1 + (Int.tmod (wrap64 (119 - (wrap64 (Int.tmod a0 64)))) 64))) + 8) : Int).toNat 0 : List Int)).bind fun y101 => (if 0 < (y101.length : Int) then (digest_Tail.l0 k a0 (y101.set (0 : Int).toNat 128) 0) else (none))) else (none)) else (none)) = some r := h
  clear h
  obtain ⟨ji2, hji2⟩ : ∃ j_ : Int, (wrap64 ((wrap64 (1 + (Int.tmod (wrap64 (119 - (wrap64 (Int.tmod a0 64)))) 64))) + 8)) = j_ := ⟨_, rfl⟩
  replace H : (if 0 ≤ (ji2) then (if (ji2 : Int).toNat ≤ 281474976710656 then ((some (List.replicate (ji2 : Int).toNat 0 : List Int)).bind fun y101 => (if 0 < (y101.length : Int) then (digest_Tail.l0 k a0 (y101.set (0 : Int).toNat 128) 0) else (none))) else (none)) else (none)) = some r := by first | (rw [hji2] at H; exact H) | (simp only [hji2] at H ⊢; exact H)
  have hji2w : (IntKind.i64.wrap ((wrap64 (1 + (Int.tmod (wrap64 (119 - (wrap64 (Int.tmod a0 64)))) 64))) + 8)) = ji2 := (i64_w _).trans hji2
  by_cases c3 : 0 ≤ (ji2)
  · rw [if_pos c3] at H
    have c3b0 := eq_true c3
    have c3b1 : decide (0 ≤ (ji2)) = true := decide_eq_true c3
    clear c3
    by_cases c4 : (ji2 : Int).toNat ≤ 281474976710656
    · rw [if_pos c4] at H
      have c4b0 := eq_true c4
      have c4b1 : decide ((ji2 : Int).toNat ≤ 281474976710656) = true := decide_eq_true c4
      clear c4
      obtain ⟨y101, hy101⟩ : ∃ y_ : List Int, y_ = (List.replicate (ji2 : Int).toNat 0) := ⟨_, rfl⟩
      replace H : (if 0 < (y101.length : Int) then (digest_Tail.l0 k a0 (y101.set (0 : Int).toNat 128) 0) else (none)) = some r := by first | (rw [hy101]; with_reducible exact H) | (have H2_ := (Option.bind_some _ _).symm.trans H; rw [hy101]; with_reducible exact H2_) | (have H2_ := (Option.bind_some _ _).symm.trans H; with_reducible exact H2_) | with_reducible exact H | (rw [hy101]; exact H) | exact H
      have Ny101 := Aside0.mk hy101
      clear hy101
      by_cases c5 : 0 < (y101.length : Int)
      · rw [if_pos c5] at H
        have c5b0 : decide (0 < (y101.length : Int)) = true := decide_eq_true c5
        have c5b1 : decide (0 < y101.length) = true := decide_eq_true (by omega)
        clear c5
        obtain ⟨y104, hy104⟩ : ∃ y_ : List Int, y_ = (y101.set (0 : Int).toNat 128) := ⟨_, rfl⟩
        replace H : (digest_Tail.l0 k a0 y104 0) = some r := by first | (rw [hy104]; with_reducible exact H) | (have H2_ := (Option.bind_some _ _).symm.trans H; rw [hy104]; with_reducible exact H2_) | (have H2_ := (Option.bind_some _ _).symm.trans H; with_reducible exact H2_) | with_reducible exact H | (rw [hy104]; exact H) | exact H
        have Ny104 := Aside0.mk hy104
        clear hy104
        have H' := Aside0.mk H
        clear H
        go_enter Try.func54, Try.ntmps54
        go_wp2_with (first | ((with_reducible refine gate_dst (N := 14) rfl ?_); refine Kd.R_make (Kd.int .u8) _ 5 rfl (N := 14) rfl 22 _ _ rfl ji2 rfl rfl Try.underlying22 (.int .u8 0) 1 info5 rfl (by decide) (by omega) 0 (ok := fun _ => True) (okp := fun _ => True) rfl (fun _ hk => hk) trivial (of_decide_eq_true (by first | (with_reducible assumption) | assumption)) (Nat.le_trans (Nat.mul_le_mul_right _ (of_decide_eq_true (by first | (with_reducible assumption) | assumption) : ji2.toNat ≤ 281474976710656)) (by omega)) (Below.refl _ _) (Nat.le_refl _) ?_; intro v102 w7 ho8 hb hg_ hnew_; clear hg_ hnew_; (first | rw [← Ny101.out] at ho8 | (simp only [Int.reduceToNat] at ho8; rw [← Ny101.out] at ho8)); have n0_ := Aside0.mk (Kd.R_lower ho8 (below_size (by repeat (first | (with_reducible first | exact HB.out | apply below_alloc | apply pw_below_drewN | apply below_drew1) | exact HB.out)))); have n1_ := Aside0.mk (below_step (by repeat (first | (with_reducible first | exact HB.out | apply below_alloc | apply pw_below_drewN | apply below_drew1) | exact HB.out)) hb); clear HB; have HO103 := n0_; have HB := n1_; clear n0_ n1_; clear hb ho8; have p6 : 0 ≤ (0 : Int) := (by omega); have q6 : (0 : Int) < ((y101.length : Int) : Int) := of_decide_eq_true (by first | (with_reducible assumption) | assumption); have qi6 : (0 < y101.length) = True := eq_true (by omega); obtain ⟨go6, co6, eo6, gb6, gl6, cl6, HG6⟩ := Kd.R_form HO103.out (by omega); (first | cases eo6 | (injection eo6 with ea_ en_ ec_; (first | subst ea_ | (injection ea_ with ea_; subst ea_)); subst ec_; clear en_)); have GB6 := Aside0.mk gb6; have GG6 := Aside0.mk HG6; clear gb6 gl6 HG6; obtain ⟨hx6_0, hf6_0⟩ := Kd.R_celln 0 HO103.out (0 : Int) p6 q6; (try rw [show ((0 : Int)).toNat = 0 from rfl] at hx6_0); (try simp only [Nat.reduceMul, Nat.zero_mul, Nat.zero_add, Nat.reduceAdd] at hx6_0); (try rw [show ((0 : Int)).toNat = 0 from rfl] at hf6_0); (try simp only [Nat.reduceMul, Nat.zero_mul, Nat.zero_add, Nat.reduceAdd] at hf6_0); replace p6 := eq_true p6; replace q6 := eq_true q6; obtain ⟨hy9_, hz9_⟩ := Kd.R_celln 0 HO103.out (0 : Int) (by omega) (of_decide_eq_true (by first | (with_reducible assumption) | assumption)); (try simp only [Int.reduceToNat, Int.toNat_zero, Int.toNat_ofNat, Nat.reduceMul, Nat.zero_mul, Nat.zero_add] at hy9_ hz9_); (try rw [show ((0 : Int)).toNat = 0 from rfl] at hy9_); (try rw [show ((0 : Int)).toNat = 0 from rfl] at hz9_); have HP9 := Kd.R_putg HO103.out (0 : Int) 128) | ((with_reducible refine gate_store (t := 5) (p := 16) rfl ?_); refine store_event (t := 5) (p := 16) (v := ?vo_w10) (w1 := (w7.setCell ⟨go6, (0 : Int).toNat, none⟩ (.int .u8 128))) ?hg ?ho ?hn ?hr ?_; (case ho => rfl); (case hg => rfl); (case hn => rfl); (case hr => first | (go_simp; done) | (go_simp; rfl)); intro w10 hw; have hg : w7.grownBy w10 (some go6) := (by rw [hw]; exact HP9.2); have hp_ : Kd.R (Kd.int .u8) 5 w10 w.heap.size (fun _ => True) (.slice (some ⟨go6, 0, none⟩) y101.length co6) y104 := (by rw [hw, Ny104.out]; exact HP9.1); clear HP9; have n0_ := Aside0.mk (hp_); have n1_ := Aside0.mk ((by rw [hw]; exact below_set (HB.out) GB6.out : Below w.heap.size w w10)); clear HO103; clear HB; have HO103 := n0_; have HB := n1_; clear n0_ n1_; clear hg hw hp_))
        go_loopg [17] k (fun kq v17 w' => ∃ (x4_1 : List Int) (x17_1 : Int), v17 = .int .i64 x17_1 ∧ Aside0 (digest_Tail.l0 kq a0 x4_1 x17_1 = some r) ∧ Aside0 (kq ≤ k) ∧ Aside0 (Kd.R (Kd.int .u8) 5 w' w.heap.size (fun _ => True) (.slice (some ⟨go6, 0, none⟩) y101.length co6) x4_1) ∧ Aside0 (Below w.heap.size w w'))
        case atStart => exact ⟨(y104), (0), (by first | rfl | (simp; done) | (simp [*]; done)), H', ⟨Nat.le_refl _⟩, ⟨by (with_reducible repeat (first | apply Kd.R_alloc | apply Kd.R_drewN | apply Kd.R_drew)); exact HO103.out⟩, ⟨by repeat (first | (with_reducible first | exact HB.out | apply below_alloc | apply pw_below_drewN | apply below_drew1) | exact HB.out)⟩⟩
        case round =>
          clear H'
          try clear p2
          try clear c3
          try clear c3b0
          try clear c3b1
          try clear c4
          try clear c4b0
          try clear c4b1
          try clear c5
          try clear c5b0
          try clear c5b1
          try clear p6
          try clear q6
          try clear hx6
          try clear qi6
          try clear hf6
          try clear hx6_0
          try clear p6
          try clear q6
          obtain ⟨x4_1, x17_1, rfl, HA, HK1, HO_4, HB⟩ := hrel
          have hl4_1 := (Kd.R_reads' HO_4.out).1
          rw [hl4_1] at HO_4
          (try simp only [hl4_1])
          cases gk with
          | zero => exact absurd HA.out (by simp [digest_Tail.l0])
          | succ k1 =>
            have H := HA.out
            clear HA
            simp only [digest_Tail.l0] at H
            by_cases c11 : x17_1 < 8
            · rw [if_pos c11] at H
              have c11b0 : decide (x17_1 < 8) = true := decide_eq_true c11
              clear c11
              obtain ⟨ji12, hji12⟩ : ∃ j_ : Int, (wrap64 (8 * x17_1)) = j_ := ⟨_, rfl⟩
              replace H : (if 0 ≤ (ji12) then (if 0 ≤ (wrap64 ((wrap64 ((x4_1.length : Int) - 1)) - x17_1)) then (if (wrap64 ((wrap64 ((x4_1.length : Int) - 1)) - x17_1)) < (x4_1.length : Int) then (digest_Tail.l0 k1 a0 (x4_1.set ((wrap64 ((wrap64 ((x4_1.length : Int) - 1)) - x17_1)) : Int).toNat ((shr .u64 (IntKind.u64.wrap (a0 * 8)) (ji12)) % 256)) (wrap64 (x17_1 + 1))) else (none)) else (none)) else (none)) = some r := by first | (rw [hji12] at H; exact H) | (simp only [hji12] at H ⊢; exact H)
              have hji12w : (IntKind.i64.wrap (8 * x17_1)) = ji12 := (i64_w _).trans hji12
              by_cases c13 : 0 ≤ (ji12)
              · rw [if_pos c13] at H
                have c13b0 := eq_true c13
                have c13b1 : decide (0 ≤ (ji12)) = true := decide_eq_true c13
                clear c13
                obtain ⟨ji14, hji14⟩ : ∃ j_ : Int, (shr .u64 (IntKind.u64.wrap (a0 * 8)) (ji12)) = j_ := ⟨_, rfl⟩
                replace H : (if 0 ≤ (wrap64 ((wrap64 ((x4_1.length : Int) - 1)) - x17_1)) then (if (wrap64 ((wrap64 ((x4_1.length : Int) - 1)) - x17_1)) < (x4_1.length : Int) then (digest_Tail.l0 k1 a0 (x4_1.set ((wrap64 ((wrap64 ((x4_1.length : Int) - 1)) - x17_1)) : Int).toNat ((ji14) % 256)) (wrap64 (x17_1 + 1))) else (none)) else (none)) = some r := by first | (rw [hji14] at H; exact H) | (simp only [hji14] at H ⊢; exact H)
                have hji14_ : ((IntKind.u64.wrap (a0 * 8)) / 2 ^ min (ji12).toNat 64) = ji14 := hji14
                have hji14z : (ji12) ≤ 64 → ((IntKind.u64.wrap (a0 * 8)) / 2 ^ (ji12).toNat) = ji14 := shr_small hji14
                obtain ⟨ji15, hji15⟩ : ∃ j_ : Int, (wrap64 ((wrap64 ((x4_1.length : Int) - 1)) - x17_1)) = j_ := ⟨_, rfl⟩
                replace H : (if 0 ≤ (ji15) then (if (ji15) < (x4_1.length : Int) then (digest_Tail.l0 k1 a0 (x4_1.set ((ji15) : Int).toNat ((ji14) % 256)) (wrap64 (x17_1 + 1))) else (none)) else (none)) = some r := by first | (rw [hji15] at H; exact H) | (simp only [hji15] at H ⊢; exact H)
                have hji15w : (IntKind.i64.wrap ((wrap64 ((x4_1.length : Int) - 1)) - x17_1)) = ji15 := (i64_w _).trans hji15
                by_cases c16 : 0 ≤ (ji15)
                · rw [if_pos c16] at H
                  have c16b0 : decide (0 ≤ (ji15)) = true := decide_eq_true c16
                  clear c16
                  by_cases c17 : (ji15) < (x4_1.length : Int)
                  · rw [if_pos c17] at H
                    have c17b0 : decide ((ji15) < (x4_1.length : Int)) = true := decide_eq_true c17
                    clear c17
                    obtain ⟨y105, hy105⟩ : ∃ y_ : List Int, y_ = (x4_1.set ((ji15) : Int).toNat ((ji14) % 256)) := ⟨_, rfl⟩
                    replace H : (digest_Tail.l0 k1 a0 y105 (wrap64 (x17_1 + 1))) = some r := by first | (rw [hy105]; with_reducible exact H) | (have H2_ := (Option.bind_some _ _).symm.trans H; rw [hy105]; with_reducible exact H2_) | (have H2_ := (Option.bind_some _ _).symm.trans H; with_reducible exact H2_) | with_reducible exact H | (rw [hy105]; exact H) | exact H
                    have Ny105 := Aside0.mk hy105
                    clear hy105
                    have H' := Aside0.mk H
                    clear H
                    have p18 : 0 ≤ ((ji15) : Int) := of_decide_eq_true (by first | (with_reducible assumption) | assumption)
                    have q18 : ((ji15) : Int) < ((x4_1.length : Int) : Int) := of_decide_eq_true (by first | (with_reducible assumption) | assumption)
                    obtain ⟨hx18_0, hf18_0⟩ := Kd.R_celln 0 HO_4.out ((ji15) : Int) p18 q18
                    replace p18 := eq_true p18
                    replace q18 := eq_true q18
                    have HP19 := Kd.R_putg HO_4.out ((ji15) : Int) ((ji14) % 256)
                    go_wp2_with (first | ((with_reducible refine gate_store (t := 5) (p := 32) rfl ?_); refine store_event (t := 5) (p := 32) (v := ?vo_w20) (w1 := (wr.setCell ⟨go6, ((ji15) : Int).toNat, none⟩ (.int .u8 ((ji14) % 256)))) ?hg ?ho ?hn ?hr ?_; (case ho => rfl); (case hg => rfl); (case hn => rfl); (case hr => first | (go_simp; done) | (go_simp; rfl)); intro w20 hw; have hg : wr.grownBy w20 (some go6) := (by rw [hw]; exact HP19.2); have hp_ : Kd.R (Kd.int .u8) 5 w20 w.heap.size (fun _ => True) (.slice (some ⟨go6, 0, none⟩) x4_1.length co6) y105 := (by rw [hw, Ny105.out]; exact HP19.1); clear HP19; have n0_ := Aside0.mk (hp_); have n1_ := Aside0.mk ((by rw [hw]; exact below_set (HB.out) GB6.out : Below w.heap.size w w20)); clear HO_4; clear HB; have HO_4 := n0_; have HB := n1_; clear n0_ n1_; clear hg hw hp_))
                    (try simp only [← hl4_1])
                    go_roundg k1
                    case measure => have := HK1.out; omega
                    case rel => exact ⟨(y105), (wrap64 (x17_1 + 1)), (by first | rfl | (simp; done) | (simp [*]; done)), H', ⟨by have := HK1.out; omega⟩, ⟨by (try simp only [hl4_1]); (with_reducible repeat (first | apply Kd.R_alloc | apply Kd.R_drewN | apply Kd.R_drew)); exact HO_4.out⟩, ⟨by repeat (first | (with_reducible first | exact HB.out | apply below_alloc | apply pw_below_drewN | apply below_drew1) | exact HB.out)⟩⟩
                  · rw [if_neg c17] at H
                    exact absurd H (by simp)
                · rw [if_neg c16] at H
                  exact absurd H (by simp)
              · rw [if_neg c13] at H
                exact absurd H (by simp)
            · rw [if_neg c11] at H
              have c11b0 : decide (x17_1 < 8) = false := decide_eq_false c11
              clear c11
              obtain rfl := Option.some.inj H
              go_wp2
              go_ret
              exact ⟨_, by first | rfl | (simp [errW_none, errW_some] <;> rfl) | (simp only [← hji2]; first | rfl | (simp [errW_none, errW_some] <;> rfl)) | (simp [*, errW_none, errW_some] <;> rfl), by (with_reducible repeat (first | apply Kd.R_alloc | apply Kd.R_drewN | apply Kd.R_drew)); exact HO_4.out, by repeat (first | (with_reducible first | exact HB.out | apply below_alloc | apply pw_below_drewN | apply below_drew1) | exact HB.out)⟩
      · rw [if_neg c5] at H
        exact absurd H (by simp)
    · rw [if_neg c4] at H
      exact absurd H (by simp)
  · rw [if_neg c3] at H
    exact absurd H (by simp)

end Go.Proofs.Ytnhljemnebgekaa.Pt

/-
  Plain: the sum of 256 bits: its words, its rounds, its blocks, its tail; in whatever pieces the bytes come it is the same.
-/
namespace Sha
abbrev W := BitVec 32
def turn (x : W) (n : Nat) : W := (x <<< (32 - n)) ||| (x >>> n)
def small (x : W) (a b c : Nat) : W := turn x a ^^^ turn x b ^^^ (x >>> c)
def great (x : W) (a b c : Nat) : W := turn x a ^^^ turn x b ^^^ turn x c
/-- A byte behind a word. -/
def push (w : W) (c : UInt8) : W := (w <<< 8) ||| c.toBitVec.setWidth 32
def four (b : List UInt8) : W := b.foldl push 0
/-- The word that follows. -/
def next (l : List W) : W := small (l.getD (l.length - 2) 0) 17 19 10 + l.getD (l.length - 7) 0 + small (l.getD (l.length - 15) 0) 7 18 3 + l.getD (l.length - 16) 0
def first (b : List UInt8) (n : Nat) : List W := (List.range n).map fun i => four ((b.drop (4 * i)).take 4)
def more (l : List W) : Nat → List W
  | 0 => l
  | k + 1 => more l k ++ [next (more l k)]
/-- The first t words of a block. -/
def upto (b : List UInt8) (t : Nat) : List W := if t ≤ 16 then first b t else more (first b 16) (t - 16)
def words (b : List UInt8) : List W := upto b 64
theorem first_length (b : List UInt8) (n : Nat) : (first b n).length = n := by simp [first]
theorem more_length (l : List W) (k : Nat) : (more l k).length = l.length + k := by
  induction k with
  | zero => rfl
  | succ k ih => simp [more, ih]; omega
theorem upto_length (b : List UInt8) (t : Nat) : (upto b t).length = t := by
  unfold upto
  split
  · exact first_length b t
  · rw [more_length, first_length]; omega
theorem upto_first (b : List UInt8) (t : Nat) (h : t < 16) : upto b (t + 1) = upto b t ++ [four ((b.drop (4 * t)).take 4)] := by
  unfold upto
  rw [if_pos (by omega), if_pos (by omega)]
  simp [first, List.range_succ]
theorem upto_more (b : List UInt8) (t : Nat) (h : 16 ≤ t) : upto b (t + 1) = upto b t ++ [next (upto b t)] := by
  have e1 : upto b (t + 1) = more (first b 16) (t - 16 + 1) := by unfold upto; rw [if_neg (by omega)]; congr 1; omega
  have e2 : upto b t = more (first b 16) (t - 16) := by
    unfold upto
    split
    · obtain rfl : t = 16 := by omega
      rfl
    · rfl
  rw [e1, e2]; rfl

/-- The eight words of a sum. -/
structure St where
  (a b c d e f g h : W)
def St.list (x : St) : List W := [x.a, x.b, x.c, x.d, x.e, x.f, x.g, x.h]
def t1 (x : St) (k w : W) : W := x.h + great x.e 6 11 25 + ((x.e &&& x.f) ^^^ (~~~x.e &&& x.g)) + k + w
def t2 (x : St) : W := great x.a 2 13 22 + ((x.a &&& x.b) ^^^ (x.a &&& x.c) ^^^ (x.b &&& x.c))
def round (x : St) (k w : W) : St := ⟨t1 x k w + t2 x, x.a, x.b, x.c, x.d + t1 x k w, x.e, x.f, x.g⟩
def St.add (x y : St) : St := ⟨x.a + y.a, x.b + y.b, x.c + y.c, x.d + y.d, x.e + y.e, x.f + y.f, x.g + y.g, x.h + y.h⟩
def keys : List W := [0x428a2f98, 0x71374491, 0xb5c0fbcf, 0xe9b5dba5, 0x3956c25b, 0x59f111f1, 0x923f82a4, 0xab1c5ed5,
  0xd807aa98, 0x12835b01, 0x243185be, 0x550c7dc3, 0x72be5d74, 0x80deb1fe, 0x9bdc06a7, 0xc19bf174,
  0xe49b69c1, 0xefbe4786, 0x0fc19dc6, 0x240ca1cc, 0x2de92c6f, 0x4a7484aa, 0x5cb0a9dc, 0x76f988da,
  0x983e5152, 0xa831c66d, 0xb00327c8, 0xbf597fc7, 0xc6e00bf3, 0xd5a79147, 0x06ca6351, 0x14292967,
  0x27b70a85, 0x2e1b2138, 0x4d2c6dfc, 0x53380d13, 0x650a7354, 0x766a0abb, 0x81c2c92e, 0x92722c85,
  0xa2bfe8a1, 0xa81a664b, 0xc24b8b70, 0xc76c51a3, 0xd192e819, 0xd6990624, 0xf40e3585, 0x106aa070,
  0x19a4c116, 0x1e376c08, 0x2748774c, 0x34b0bcb5, 0x391c0cb3, 0x4ed8aa4a, 0x5b9cca4f, 0x682e6ff3,
  0x748f82ee, 0x78a5636f, 0x84c87814, 0x8cc70208, 0x90befffa, 0xa4506ceb, 0xbef9a3f7, 0xc67178f2]
/-- The rounds up to t. -/
def rounds (x : St) (b : List UInt8) : Nat → St
  | 0 => x
  | t + 1 => round (rounds x b t) (keys.getD t 0) ((words b).getD t 0)
/-- A block behind a state. -/
def take (x : St) (b : List UInt8) : St := (rounds x b 64).add x
def init : St := ⟨0x6a09e667, 0xbb67ae85, 0x3c6ef372, 0xa54ff53a, 0x510e527f, 0x9b05688c, 0x1f83d9ab, 0x5be0cd19⟩
/-- So many blocks of d behind a state. -/
def run (x : St) (d : List UInt8) : Nat → St
  | 0 => x
  | n + 1 => take (run x d n) ((d.drop (64 * n)).take 64)
theorem run_front (x : St) (d e : List UInt8) : ∀ n, 64 * n ≤ d.length → run x (d ++ e) n = run x d n
  | 0, _ => rfl
  | n + 1, h => by
    rw [run, run, run_front x d e n (by omega), List.drop_append_of_le_length (by omega), List.take_append_of_le_length (by simp; omega)]
/-- What follows so many blocks, by its own. -/
theorem run_more (x : St) (d : List UInt8) (n : Nat) : ∀ m, run x d (n + m) = run (run x d n) (d.drop (64 * n)) m
  | 0 => rfl
  | m + 1 => by
    rw [← Nat.add_assoc, run, run, run_more x d n m, List.drop_drop]
    congr 3
    omega
def bytes8 (n : Nat) : List UInt8 := (List.range 8).map fun i => UInt8.ofNat (n >>> (8 * (7 - i)))
def room (n : Nat) : Nat := (119 - n % 64) % 64
def tail (n : Nat) : List UInt8 := 0x80 :: (List.replicate (room n) 0 ++ bytes8 (n * 8))
theorem tail_length (n : Nat) : (tail n).length = room n + 9 := by simp [tail, bytes8]
theorem tail_whole (n : Nat) : (n + (tail n).length) % 64 = 0 := by rw [tail_length]; unfold room; omega
def bytes4 (w : W) : List UInt8 := [UInt8.ofNat (w.toNat / 16777216), UInt8.ofNat (w.toNat / 65536), UInt8.ofNat (w.toNat / 256), UInt8.ofNat w.toNat]
def out (x : St) : List UInt8 := x.list.flatMap bytes4
/-- The sum. -/
def sum (d : List UInt8) : List UInt8 := out (run init (d ++ tail d.length) ((d.length + (tail d.length).length) / 64))
theorem out_length (x : St) : (out x).length = 32 := rfl
theorem sum_length (d : List UInt8) : (sum d).length = 32 := rfl
theorem sum_abc : sum [0x61, 0x62, 0x63] = [0xba, 0x78, 0x16, 0xbf, 0x8f, 0x01, 0xcf, 0xea, 0x41, 0x41, 0x40, 0xde, 0x5d, 0xae, 0x22, 0x23, 0xb0, 0x03, 0x61, 0xa3, 0x96, 0x17, 0x7a, 0x9c, 0xb4, 0x10, 0xff, 0x61, 0xf2, 0x00, 0x15, 0xad] := by decide +kernel
end Sha

/-
  The turns of a word: RotateLeft32, right, small and great, called on any word with the numbers that the sum uses.
-/
namespace Go.Proofs.Ytnhljemnebgekaa
open Go.RowKit Sha

theorem turn_nat (x : W) (n m k : Nat) (hn : n ≤ 32) (hm : m = 2 ^ (32 - n)) (hk : k = 2 ^ n) :
    bits .or .u32 ((x.toNat : Int) * (m : Int) % 4294967296) ((x.toNat : Int) / (k : Int)) = ((turn x n).toNat : Int) := by
  have hx := x.isLt
  have h1 : (x.toNat : Int) * (m : Int) % 4294967296 = ((x.toNat * m % 4294967296 : Nat) : Int) := by simp
  have h2 : (x.toNat : Int) / (k : Int) = ((x.toNat / k : Nat) : Int) := by simp
  have h3 : x.toNat / k < 4294967296 := Nat.lt_of_le_of_lt (Nat.div_le_self _ _) hx
  rw [h1, h2, u32_or_nat _ _ (Nat.mod_lt _ (by decide)) h3]
  unfold turn
  rw [BitVec.toNat_or, BitVec.toNat_shiftLeft, BitVec.toNat_ushiftRight, Nat.shiftLeft_eq, Nat.shiftRight_eq_div_pow, hm, hk]

theorem xor_nat (x y : W) : bits .xor .u32 (x.toNat : Int) (y.toNat : Int) = ((x ^^^ y).toNat : Int) := by
  rw [u32_xor_nat _ _ x.isLt y.isLt, BitVec.toNat_xor]
theorem and_nat (x y : W) : bits .and .u32 (x.toNat : Int) (y.toNat : Int) = ((x &&& y).toNat : Int) := by
  rw [u32_and_nat _ _ x.isLt y.isLt, BitVec.toNat_and]
theorem or_nat (x y : W) : bits .or .u32 (x.toNat : Int) (y.toNat : Int) = ((x ||| y).toNat : Int) := by
  rw [u32_or_nat _ _ x.isLt y.isLt, BitVec.toNat_or]
theorem shr_nat (x : W) (c k : Nat) (hk : k = 2 ^ c) : (x.toNat : Int) / (k : Int) = ((x >>> c).toNat : Int) := by
  rw [BitVec.toNat_ushiftRight, Nat.shiftRight_eq_div_pow, hk]; simp
theorem small_nat (x : W) (a b c k : Nat) (hk : k = 2 ^ c) : bits .xor .u32 (bits .xor .u32 ((turn x a).toNat : Int) ((turn x b).toNat : Int)) ((x.toNat : Int) / (k : Int)) = ((small x a b c).toNat : Int) := by
  rw [xor_nat, shr_nat x c k hk, xor_nat]; rfl
theorem great_nat (x : W) (a b c : Nat) : bits .xor .u32 (bits .xor .u32 ((turn x a).toNat : Int) ((turn x b).toNat : Int)) ((turn x c).toNat : Int) = ((great x a b c).toNat : Int) := by
  rw [xor_nat, xor_nat]; rfl

set_option maxRecDepth 100000 in
theorem rotate_2 (x : W) (w : World) : Calls Try.prog 65 #[.int .u32 x.toNat, .int .i64 (-2)] w fun e w' => e = .returned (.int .u32 (turn x 2).toNat) ∧ w = w' := by
  have hx := x.isLt
  have hb : bits .and .u64 (IntKind.u64.wrap (-2)) 31 = 30 := by decide
  go_enter Try.func65, Try.ntmps65
  go_wp2_with fail
  go_ret
  exact ⟨congrArg (fun z => Ending.returned (Value.int .u32 z)) (turn_nat x 2 1073741824 4 (by decide) (by decide) (by decide)), rfl⟩
set_option maxRecDepth 100000 in
theorem right_2 (x : W) (w : World) : Calls Try.prog 64 #[.int .u32 x.toNat, .int .i64 2] w fun e w' => e = .returned (.int .u32 (turn x 2).toNat) ∧ w = w' := by
  go_enter Try.func64, Try.ntmps64
  go_wp2_with fail
  refine (rotate_2 x _).mono ?_
  rintro e _ ⟨rfl, rfl⟩
  go_wp2_with fail
  go_ret
  exact ⟨rfl, rfl⟩
set_option maxRecDepth 100000 in
theorem rotate_6 (x : W) (w : World) : Calls Try.prog 65 #[.int .u32 x.toNat, .int .i64 (-6)] w fun e w' => e = .returned (.int .u32 (turn x 6).toNat) ∧ w = w' := by
  have hx := x.isLt
  have hb : bits .and .u64 (IntKind.u64.wrap (-6)) 31 = 26 := by decide
  go_enter Try.func65, Try.ntmps65
  go_wp2_with fail
  go_ret
  exact ⟨congrArg (fun z => Ending.returned (Value.int .u32 z)) (turn_nat x 6 67108864 64 (by decide) (by decide) (by decide)), rfl⟩
set_option maxRecDepth 100000 in
theorem right_6 (x : W) (w : World) : Calls Try.prog 64 #[.int .u32 x.toNat, .int .i64 6] w fun e w' => e = .returned (.int .u32 (turn x 6).toNat) ∧ w = w' := by
  go_enter Try.func64, Try.ntmps64
  go_wp2_with fail
  refine (rotate_6 x _).mono ?_
  rintro e _ ⟨rfl, rfl⟩
  go_wp2_with fail
  go_ret
  exact ⟨rfl, rfl⟩
set_option maxRecDepth 100000 in
theorem rotate_7 (x : W) (w : World) : Calls Try.prog 65 #[.int .u32 x.toNat, .int .i64 (-7)] w fun e w' => e = .returned (.int .u32 (turn x 7).toNat) ∧ w = w' := by
  have hx := x.isLt
  have hb : bits .and .u64 (IntKind.u64.wrap (-7)) 31 = 25 := by decide
  go_enter Try.func65, Try.ntmps65
  go_wp2_with fail
  go_ret
  exact ⟨congrArg (fun z => Ending.returned (Value.int .u32 z)) (turn_nat x 7 33554432 128 (by decide) (by decide) (by decide)), rfl⟩
set_option maxRecDepth 100000 in
theorem right_7 (x : W) (w : World) : Calls Try.prog 64 #[.int .u32 x.toNat, .int .i64 7] w fun e w' => e = .returned (.int .u32 (turn x 7).toNat) ∧ w = w' := by
  go_enter Try.func64, Try.ntmps64
  go_wp2_with fail
  refine (rotate_7 x _).mono ?_
  rintro e _ ⟨rfl, rfl⟩
  go_wp2_with fail
  go_ret
  exact ⟨rfl, rfl⟩
set_option maxRecDepth 100000 in
theorem rotate_11 (x : W) (w : World) : Calls Try.prog 65 #[.int .u32 x.toNat, .int .i64 (-11)] w fun e w' => e = .returned (.int .u32 (turn x 11).toNat) ∧ w = w' := by
  have hx := x.isLt
  have hb : bits .and .u64 (IntKind.u64.wrap (-11)) 31 = 21 := by decide
  go_enter Try.func65, Try.ntmps65
  go_wp2_with fail
  go_ret
  exact ⟨congrArg (fun z => Ending.returned (Value.int .u32 z)) (turn_nat x 11 2097152 2048 (by decide) (by decide) (by decide)), rfl⟩
set_option maxRecDepth 100000 in
theorem right_11 (x : W) (w : World) : Calls Try.prog 64 #[.int .u32 x.toNat, .int .i64 11] w fun e w' => e = .returned (.int .u32 (turn x 11).toNat) ∧ w = w' := by
  go_enter Try.func64, Try.ntmps64
  go_wp2_with fail
  refine (rotate_11 x _).mono ?_
  rintro e _ ⟨rfl, rfl⟩
  go_wp2_with fail
  go_ret
  exact ⟨rfl, rfl⟩
set_option maxRecDepth 100000 in
theorem rotate_13 (x : W) (w : World) : Calls Try.prog 65 #[.int .u32 x.toNat, .int .i64 (-13)] w fun e w' => e = .returned (.int .u32 (turn x 13).toNat) ∧ w = w' := by
  have hx := x.isLt
  have hb : bits .and .u64 (IntKind.u64.wrap (-13)) 31 = 19 := by decide
  go_enter Try.func65, Try.ntmps65
  go_wp2_with fail
  go_ret
  exact ⟨congrArg (fun z => Ending.returned (Value.int .u32 z)) (turn_nat x 13 524288 8192 (by decide) (by decide) (by decide)), rfl⟩
set_option maxRecDepth 100000 in
theorem right_13 (x : W) (w : World) : Calls Try.prog 64 #[.int .u32 x.toNat, .int .i64 13] w fun e w' => e = .returned (.int .u32 (turn x 13).toNat) ∧ w = w' := by
  go_enter Try.func64, Try.ntmps64
  go_wp2_with fail
  refine (rotate_13 x _).mono ?_
  rintro e _ ⟨rfl, rfl⟩
  go_wp2_with fail
  go_ret
  exact ⟨rfl, rfl⟩
set_option maxRecDepth 100000 in
theorem rotate_17 (x : W) (w : World) : Calls Try.prog 65 #[.int .u32 x.toNat, .int .i64 (-17)] w fun e w' => e = .returned (.int .u32 (turn x 17).toNat) ∧ w = w' := by
  have hx := x.isLt
  have hb : bits .and .u64 (IntKind.u64.wrap (-17)) 31 = 15 := by decide
  go_enter Try.func65, Try.ntmps65
  go_wp2_with fail
  go_ret
  exact ⟨congrArg (fun z => Ending.returned (Value.int .u32 z)) (turn_nat x 17 32768 131072 (by decide) (by decide) (by decide)), rfl⟩
set_option maxRecDepth 100000 in
theorem right_17 (x : W) (w : World) : Calls Try.prog 64 #[.int .u32 x.toNat, .int .i64 17] w fun e w' => e = .returned (.int .u32 (turn x 17).toNat) ∧ w = w' := by
  go_enter Try.func64, Try.ntmps64
  go_wp2_with fail
  refine (rotate_17 x _).mono ?_
  rintro e _ ⟨rfl, rfl⟩
  go_wp2_with fail
  go_ret
  exact ⟨rfl, rfl⟩
set_option maxRecDepth 100000 in
theorem rotate_18 (x : W) (w : World) : Calls Try.prog 65 #[.int .u32 x.toNat, .int .i64 (-18)] w fun e w' => e = .returned (.int .u32 (turn x 18).toNat) ∧ w = w' := by
  have hx := x.isLt
  have hb : bits .and .u64 (IntKind.u64.wrap (-18)) 31 = 14 := by decide
  go_enter Try.func65, Try.ntmps65
  go_wp2_with fail
  go_ret
  exact ⟨congrArg (fun z => Ending.returned (Value.int .u32 z)) (turn_nat x 18 16384 262144 (by decide) (by decide) (by decide)), rfl⟩
set_option maxRecDepth 100000 in
theorem right_18 (x : W) (w : World) : Calls Try.prog 64 #[.int .u32 x.toNat, .int .i64 18] w fun e w' => e = .returned (.int .u32 (turn x 18).toNat) ∧ w = w' := by
  go_enter Try.func64, Try.ntmps64
  go_wp2_with fail
  refine (rotate_18 x _).mono ?_
  rintro e _ ⟨rfl, rfl⟩
  go_wp2_with fail
  go_ret
  exact ⟨rfl, rfl⟩
set_option maxRecDepth 100000 in
theorem rotate_19 (x : W) (w : World) : Calls Try.prog 65 #[.int .u32 x.toNat, .int .i64 (-19)] w fun e w' => e = .returned (.int .u32 (turn x 19).toNat) ∧ w = w' := by
  have hx := x.isLt
  have hb : bits .and .u64 (IntKind.u64.wrap (-19)) 31 = 13 := by decide
  go_enter Try.func65, Try.ntmps65
  go_wp2_with fail
  go_ret
  exact ⟨congrArg (fun z => Ending.returned (Value.int .u32 z)) (turn_nat x 19 8192 524288 (by decide) (by decide) (by decide)), rfl⟩
set_option maxRecDepth 100000 in
theorem right_19 (x : W) (w : World) : Calls Try.prog 64 #[.int .u32 x.toNat, .int .i64 19] w fun e w' => e = .returned (.int .u32 (turn x 19).toNat) ∧ w = w' := by
  go_enter Try.func64, Try.ntmps64
  go_wp2_with fail
  refine (rotate_19 x _).mono ?_
  rintro e _ ⟨rfl, rfl⟩
  go_wp2_with fail
  go_ret
  exact ⟨rfl, rfl⟩
set_option maxRecDepth 100000 in
theorem rotate_22 (x : W) (w : World) : Calls Try.prog 65 #[.int .u32 x.toNat, .int .i64 (-22)] w fun e w' => e = .returned (.int .u32 (turn x 22).toNat) ∧ w = w' := by
  have hx := x.isLt
  have hb : bits .and .u64 (IntKind.u64.wrap (-22)) 31 = 10 := by decide
  go_enter Try.func65, Try.ntmps65
  go_wp2_with fail
  go_ret
  exact ⟨congrArg (fun z => Ending.returned (Value.int .u32 z)) (turn_nat x 22 1024 4194304 (by decide) (by decide) (by decide)), rfl⟩
set_option maxRecDepth 100000 in
theorem right_22 (x : W) (w : World) : Calls Try.prog 64 #[.int .u32 x.toNat, .int .i64 22] w fun e w' => e = .returned (.int .u32 (turn x 22).toNat) ∧ w = w' := by
  go_enter Try.func64, Try.ntmps64
  go_wp2_with fail
  refine (rotate_22 x _).mono ?_
  rintro e _ ⟨rfl, rfl⟩
  go_wp2_with fail
  go_ret
  exact ⟨rfl, rfl⟩
set_option maxRecDepth 100000 in
theorem rotate_25 (x : W) (w : World) : Calls Try.prog 65 #[.int .u32 x.toNat, .int .i64 (-25)] w fun e w' => e = .returned (.int .u32 (turn x 25).toNat) ∧ w = w' := by
  have hx := x.isLt
  have hb : bits .and .u64 (IntKind.u64.wrap (-25)) 31 = 7 := by decide
  go_enter Try.func65, Try.ntmps65
  go_wp2_with fail
  go_ret
  exact ⟨congrArg (fun z => Ending.returned (Value.int .u32 z)) (turn_nat x 25 128 33554432 (by decide) (by decide) (by decide)), rfl⟩
set_option maxRecDepth 100000 in
theorem right_25 (x : W) (w : World) : Calls Try.prog 64 #[.int .u32 x.toNat, .int .i64 25] w fun e w' => e = .returned (.int .u32 (turn x 25).toNat) ∧ w = w' := by
  go_enter Try.func64, Try.ntmps64
  go_wp2_with fail
  refine (rotate_25 x _).mono ?_
  rintro e _ ⟨rfl, rfl⟩
  go_wp2_with fail
  go_ret
  exact ⟨rfl, rfl⟩
set_option maxRecDepth 100000 in
theorem small_17 (x : W) (w : World) : Calls Try.prog 63 #[.int .u32 x.toNat, .int .i64 17, .int .i64 19, .int .u64 10] w fun e w' => e = .returned (.int .u32 (small x 17 19 10).toNat) ∧ w = w' := by
  have hx := x.isLt
  go_enter Try.func63, Try.ntmps63
  go_wp2_with fail
  refine (right_17 x _).mono ?_
  rintro e _ ⟨rfl, rfl⟩
  go_wp2_with fail
  refine (right_19 x _).mono ?_
  rintro e _ ⟨rfl, rfl⟩
  go_wp2_with fail
  go_ret
  exact ⟨congrArg (fun z => Ending.returned (Value.int .u32 z)) (small_nat x 17 19 10 1024 (by decide)), rfl⟩
set_option maxRecDepth 100000 in
theorem small_7 (x : W) (w : World) : Calls Try.prog 63 #[.int .u32 x.toNat, .int .i64 7, .int .i64 18, .int .u64 3] w fun e w' => e = .returned (.int .u32 (small x 7 18 3).toNat) ∧ w = w' := by
  have hx := x.isLt
  go_enter Try.func63, Try.ntmps63
  go_wp2_with fail
  refine (right_7 x _).mono ?_
  rintro e _ ⟨rfl, rfl⟩
  go_wp2_with fail
  refine (right_18 x _).mono ?_
  rintro e _ ⟨rfl, rfl⟩
  go_wp2_with fail
  go_ret
  exact ⟨congrArg (fun z => Ending.returned (Value.int .u32 z)) (small_nat x 7 18 3 8 (by decide)), rfl⟩
set_option maxRecDepth 100000 in
theorem great_6 (x : W) (w : World) : Calls Try.prog 61 #[.int .u32 x.toNat, .int .i64 6, .int .i64 11, .int .i64 25] w fun e w' => e = .returned (.int .u32 (great x 6 11 25).toNat) ∧ w = w' := by
  go_enter Try.func61, Try.ntmps61
  go_wp2_with fail
  refine (right_6 x _).mono ?_
  rintro e _ ⟨rfl, rfl⟩
  go_wp2_with fail
  refine (right_11 x _).mono ?_
  rintro e _ ⟨rfl, rfl⟩
  go_wp2_with fail
  refine (right_25 x _).mono ?_
  rintro e _ ⟨rfl, rfl⟩
  go_wp2_with fail
  go_ret
  exact ⟨congrArg (fun z => Ending.returned (Value.int .u32 z)) (great_nat x 6 11 25), rfl⟩
set_option maxRecDepth 100000 in
theorem great_2 (x : W) (w : World) : Calls Try.prog 61 #[.int .u32 x.toNat, .int .i64 2, .int .i64 13, .int .i64 22] w fun e w' => e = .returned (.int .u32 (great x 2 13 22).toNat) ∧ w = w' := by
  go_enter Try.func61, Try.ntmps61
  go_wp2_with fail
  refine (right_2 x _).mono ?_
  rintro e _ ⟨rfl, rfl⟩
  go_wp2_with fail
  refine (right_13 x _).mono ?_
  rintro e _ ⟨rfl, rfl⟩
  go_wp2_with fail
  refine (right_22 x _).mono ?_
  rintro e _ ⟨rfl, rfl⟩
  go_wp2_with fail
  go_ret
  exact ⟨congrArg (fun z => Ending.returned (Value.int .u32 z)) (great_nat x 2 13 22), rfl⟩
end Go.Proofs.Ytnhljemnebgekaa

/-
  The function words, called on any block of 64 bytes, returns its plain words; the function keys returns the plain keys.
-/
namespace Go.Proofs.Ytnhljemnebgekaa
open Go.RowKit Sha

/-- Words, and bytes, as cells. -/
def u32s (l : List W) : List Value := l.map fun x => Value.int .u32 (x.toNat : Int)
def u8s (l : List UInt8) : List Value := l.map fun c => Value.int .u8 (c.toNat : Int)
theorem u32s_one (l : List W) : ∀ v ∈ u32s l, v.oneCell' = true := by
  intro v hv
  obtain ⟨x, _, rfl⟩ := List.mem_map.1 hv
  rfl
/-- The words lie in block b: they are all of it. -/
def Row (w : World) (b : Nat) (T : TypeId) (l : List W) : Prop := w.heap[b]? = some (.cells (u32s l).toArray T (0, 0))
theorem Row.cell {w : World} {b : Nat} {T : TypeId} {l : List W} (h : Row w b T l) {j : Nat} {x : W} (hj : l[j]? = some x) : w.cell? ⟨b, j, none⟩ = some (.int .u32 (x.toNat : Int)) := by
  rw [cell_of_row w b j _ T (0, 0) h]
  simp [u32s, hj]
theorem Row.frozen {w : World} {b : Nat} {T : TypeId} {l : List W} (h : Row w b T l) (j : Nat) : w.frozen? ⟨b, j, none⟩ = false := by
  exact frozen_of_row w b j _ T h
theorem Row.set {w : World} {b : Nat} {T : TypeId} {l : List W} (h : Row w b T l) (k : Nat) (x : W) : Row (w.setCell ⟨b, k, none⟩ (.int .u32 (x.toNat : Int))) b T (l.set k x) := by
  rw [Row, setCell_eq_setRow w b k _ T (0, 0) _ h, setRow_heap _ _ _ _ _ _ h]
  simp [u32s, List.map_set]
theorem Row.drew {w : World} {b : Nat} {T : TypeId} {l : List W} (h : Row w b T l) : Row w.drew b T l := h
theorem Row.lt {w : World} {b : Nat} {T : TypeId} {l : List W} (h : Row w b T l) : b < w.heap.size := (Array.getElem?_eq_some_iff.1 h).1
theorem Row.below {w w' : World} {b : Nat} {T : TypeId} {l : List W} (h : Row w b T l) (hb : Below w.heap.size w w') : Row w' b T l := (hb.block b h.lt).trans h
theorem below_setRow {W w : World} (h : Below W.heap.size W w) (b : Nat) (cs : Array Value) (hb : W.heap.size ≤ b) : Below W.heap.size W (w.setRow b cs) :=
  ⟨h.os, h.tape, h.output, by simpa [World.setRow] using h.size, fun k hk => by rw [setRow_other _ _ _ _ (by omega)]; exact h.block k hk⟩
/-- Words, and noughts behind them, n in all. -/
def padded (l : List W) (n : Nat) : List W := l ++ List.replicate (n - l.length) 0
theorem padded_get (l : List W) (n j : Nat) (hj : j < n) : (padded l n)[j]? = some (l.getD j 0) := by
  unfold padded
  by_cases h : j < l.length
  · rw [List.getElem?_append_left h, List.getElem?_eq_getElem h]; simp [List.getD, List.getElem?_eq_getElem h]
  · rw [List.getElem?_append_right (by omega), List.getElem?_replicate, if_pos (by omega)]
    simp [List.getD, List.getElem?_eq_none (Nat.le_of_not_lt h)]
theorem padded_set (l : List W) (n : Nat) (x : W) (h : l.length < n) : (padded l n).set l.length x = padded (l ++ [x]) n := by
  unfold padded
  rw [show n - l.length = (n - (l.length + 1)) + 1 by omega, List.replicate_succ, List.set_append_right _ _ (Nat.le_refl _)]
  simp
theorem padded_same (l : List W) (n : Nat) (h : l.length < n) : (padded l n).set l.length 0 = padded l n := by
  have h1 := padded_get l n l.length h
  rw [List.getD_eq_getElem?_getD, List.getElem?_eq_none (Nat.le_refl _)] at h1
  obtain ⟨hlt, he⟩ := List.getElem?_eq_some_iff.1 h1
  conv => lhs; rw [show (0 : W) = (padded l n)[l.length] from he.symm]
  exact List.set_getElem_self hlt
theorem padded_full (l : List W) (n : Nat) (h : l.length = n) : padded l n = l := by simp [padded, h]
theorem add_nat (x y : W) : ((x.toNat : Int) + (y.toNat : Int)) % 4294967296 = ((x + y).toNat : Int) := by
  rw [BitVec.toNat_add]; simp
theorem push_nat (x : W) (c : UInt8) : bits .or .u32 ((x.toNat : Int) * 256 % 4294967296) (c.toNat : Int) = ((push x c).toNat : Int) := by
  have h1 : (x.toNat : Int) * 256 % 4294967296 = ((x.toNat * 256 % 4294967296 : Nat) : Int) := by simp
  have hc := c.toNat_lt
  rw [h1, u32_or_nat _ _ (Nat.mod_lt _ (by decide)) (by omega)]
  unfold push
  rw [BitVec.toNat_or, BitVec.toNat_shiftLeft, Nat.shiftLeft_eq, BitVec.toNat_setWidth]
  congr 2
  show _ = c.toNat % 2 ^ 32
  rw [Nat.mod_eq_of_lt (by omega)]

def keysV : Array Value := (u32s keys).toArray
def zeroV (n : Nat) : Array Value := Array.replicate n (.int .u32 0)
def keysI : List Int := [1116352408, 1899447441, 3049323471, 3921009573, 961987163, 1508970993, 2453635748, 2870763221, 3624381080, 310598401, 607225278, 1426881987, 1925078388, 2162078206, 2614888103, 3248222580, 3835390401, 4022224774, 264347078, 604807628, 770255983, 1249150122, 1555081692, 1996064986, 2554220882, 2821834349, 2952996808, 3210313671, 3336571891, 3584528711, 113926993, 338241895, 666307205, 773529912, 1294757372, 1396182291, 1695183700, 1986661051, 2177026350, 2456956037, 2730485921, 2820302411, 3259730800, 3345764771, 3516065817, 3600352804, 4094571909, 275423344, 430227734, 506948616, 659060556, 883997877, 958139571, 1322822218, 1537002063, 1747873779, 1955562222, 2024104815, 2227730452, 2361852424, 2428436474, 2756734187, 3204031479, 3329325298]
theorem keysV_ints : keysV = (keysI.map (Value.int .u32)).toArray := rfl
theorem keysV_one : keysV.all (·.oneCell') = true := all_oneCell_toArray (u32s_one keys)
theorem info57 : (Try.prog.info? 83).map (·.size) = some 64 := by kernel_rfl
theorem info43 : (Try.prog.info? 71).map (·.size) = some 1 := by kernel_rfl
theorem zero57 : ((Try.prog.info? 83).bind (·.zero)).map (·.cells.size) = some keysI.length := by kernel_rfl
set_option maxRecDepth 100000 in
set_option maxHeartbeats 1000000 in
theorem keys_any (w : World) : Calls Try.prog 60 #[] w fun e w' => e = .returned (.agg keysV) ∧ Below w.heap.size w w' := by
  have hz : ∀ w, (zeroValue 83).run Try.prog w = .ok (.agg (zeroV 64)) w := fun w => by kernel_rfl
  go_enter Try.func60, Try.ntmps60
  go_wp2_with (first
    | refine wpList_buildFlatArrTo rfl 83 71 64 _ rfl .u32 keysI (some 1) rfl Try.underlying83 info43 zero57 (by kernel_rfl) ?_
    | refine wpList_store_rowTo rfl 83 _ _ rfl rfl w.heap.size keysV rfl rfl 83 (zeroV 64) (heap_alloc_new _ _) info57 (by decide +kernel) keysV_one ?_)
  refine bodyPost_ret_by (results_cell_row rfl _ _ w.heap.size 83 keysV (0, 0) _ rfl (setRow_heap _ _ _ _ _ _ (heap_alloc_new _ _)) Try.underlying83 rfl info57) rfl ⟨rfl, below_setRow ?_ _ _ (Nat.le_refl _)⟩
  go_grown

/-- The bytes lie in a row from a on. -/
def BytesAt (W : World) (a : Option Addr) (l : List UInt8) : Prop := 0 < l.length → ∃ b off, a = some ⟨b, off, none⟩ ∧ b < W.heap.size ∧ ∀ i (h : i < l.length), W.cell? ⟨b, off + i, none⟩ = some (.int .u8 (l[i].toNat : Int))
theorem BytesAt.below {W W' : World} {a : Option Addr} {l : List UInt8} (h : BytesAt W a l) (hb : Below W.heap.size W W') : BytesAt W' a l := fun hp => by
  obtain ⟨b, off, e, hlt, hc⟩ := h hp
  exact ⟨b, off, e, Nat.lt_of_lt_of_le hlt hb.size, fun i hi => (hb.cell (p := ⟨b, off + i, none⟩) hlt).trans (hc i hi)⟩
theorem four_snoc (l : List UInt8) (c : UInt8) : four (l ++ [c]) = push (four l) c := by simp [four]
theorem drew_below (w : World) : Below w.heap.size w w.drew := by go_grown
theorem small_lit (x : W) (a b c : Int) (h : (a = 17 ∧ b = 19 ∧ c = 10) ∨ (a = 7 ∧ b = 18 ∧ c = 3)) (w : World) :
    Calls Try.prog 63 #[.int .u32 x.toNat, .int .i64 a, .int .i64 b, .int .u64 c] w fun e w' => e = .returned (.int .u32 (small x a.toNat b.toNat c.toNat).toNat) ∧ w = w' := by
  rcases h with ⟨rfl, rfl, rfl⟩ | ⟨rfl, rfl, rfl⟩
  · exact small_17 x w
  · exact small_7 x w

set_option maxRecDepth 100000 in
set_option maxHeartbeats 2000000 in
theorem words_any (a : Option Addr) (n cap : Nat) (b : List UInt8) (w : World) (hn : 64 ≤ b.length) (hb : BytesAt w a b) (hnl : b.length = n) (hc : n ≤ cap) (hc2 : cap ≤ maxLen) :
    Calls Try.prog 59 #[.slice a n cap] w fun e w' => e = .returned (.agg (u32s (words b)).toArray) ∧ Below w.heap.size w w' := by
  obtain ⟨g, o, rfl, hg, hcell⟩ := hb (by omega)
  have hz : ∀ w, (zeroValue 83).run Try.prog w = .ok (.agg (zeroV 64)) w := fun w => by kernel_rfl
  have HC := Lib.hid hcell
  clear hcell
  have hc3 : cap ≤ 9223372036854775807 := hc2
  clear hc2
  go_enter Try.func59, Try.ntmps59
  go_wp2_with fail
  go_loopw [6] (fun i wr => ∃ k : Nat, k ≤ 64 ∧ i = .int .i64 k ∧ Row wr w.heap.size 83 (padded (upto b k) 64) ∧ Below w.heap.size w wr) (fun i _ => 64 - (intOf i).toNat)
  case atStart =>
    refine ⟨0, by omega, rfl, ?_, ?_⟩
    · exact heap_alloc_new w _
    · go_grown
  case round =>
    obtain ⟨k, hk, rfl, hrow, hbel⟩ := hrel
    have HROW := Lib.hid hrow; have HBEL := Lib.hid hbel
    clear hrow hbel
    by_cases hlt : k < 64
    · by_cases h16 : k < 16
      · have h4a : (4 : Int) * (k : Int) + 4 ≤ (cap : Int) := by omega
        go_wp2_with fail
        go_loopw [19] (fun i wq => ∃ j : Nat, j ≤ 4 ∧ i = .int .i64 j ∧ Row wq w.heap.size 83 ((padded (upto b k) 64).set k (four (((b.drop (4 * k)).take 4).take j))) ∧ Below w.heap.size w wq) (fun i _ => 4 - (intOf i).toNat)
        case atStart =>
          refine ⟨0, by omega, rfl, ?_, HBEL.out⟩
          have h := padded_same (upto b k) 64 (by rw [upto_length]; exact hlt)
          rw [upto_length] at h
          rw [List.take_zero, show four [] = 0 from rfl, h]
          exact HROW.out
        case round =>
          obtain ⟨j, hj, rfl, hrow, hbel⟩ := hrel
          obtain ⟨S, hS⟩ : ∃ S, four (((b.drop (4 * k)).take 4).take j) = S := ⟨_, rfl⟩
          rw [hS] at hrow
          have HS := Lib.hid hS
          have HROW2 := Lib.hid hrow; have HBEL2 := Lib.hid hbel
          clear hrow hbel hS
          by_cases hlj : j < 4
          · have hji : (j : Int) < 4 := by omega
            have hkb : 4 * k + j < b.length := by omega
            have fb : wr.cell? ⟨g, o + 4 * k + j, none⟩ = some (.int .u8 (b[4 * k + j].toNat : Int)) := by
              rw [HBEL2.out.cell (p := ⟨g, o + 4 * k + j, none⟩) hg, Nat.add_assoc]
              exact HC.out _ hkb
            have fw : wr.cell? ⟨w.heap.size, k, none⟩ = some (.int .u32 (S.toNat : Int)) :=
              HROW2.out.cell (by rw [List.getElem?_set_self]; simp [padded, upto_length]; omega)
            have ff : wr.frozen? ⟨w.heap.size, k, none⟩ = false := HROW2.out.frozen k
            have ht : ((b.drop (4 * k)).take 4).take (j + 1) = ((b.drop (4 * k)).take 4).take j ++ [b[4 * k + j]] := by
              rw [List.take_succ_eq_append_getElem (by simp; omega)]
              simp
            obtain ⟨c, hc⟩ : ∃ c, b[4 * k + j] = c := ⟨_, rfl⟩
            rw [hc] at fb ht
            have HT := Lib.hid ht
            clear hc ht
            have hcn := c.toNat_lt
            have hpu := push_nat S c
            have hcw : IntKind.u32.wrap (c.toNat : Int) = (c.toNat : Int) := by rw [IntKind.wrap_u32]; omega
            go_wp2_with fail
            go_roundw
            case rel =>
              refine ⟨j + 1, by omega, by go_num, ?_, HBEL2.out.setCell (p := ⟨w.heap.size, k, none⟩) (Nat.le_refl _) _⟩
              rw [HT.out, four_snoc, HS.out]
              have := HROW2.out.set k (push S c)
              rwa [List.set_set] at this
            case measure => simp [intOf]; omega
          · obtain rfl : j = 4 := by omega
            have h4 : S = four ((b.drop (4 * k)).take 4) := by rw [← HS.out, List.take_take, Nat.min_self]
            go_wp2_with fail
            go_roundw
            case rel =>
              refine ⟨k + 1, by omega, by go_num, ?_, HBEL2.out⟩
              have := padded_set (upto b k) 64 S (by rw [upto_length]; exact hlt)
              rw [upto_length] at this
              rw [upto_first b k h16, ← h4, ← this]
              exact HROW2.out
            case measure => simp [intOf]; omega
      · have h64 : (upto b k).length = k := upto_length b k
        obtain ⟨L, hL⟩ : ∃ L, upto b k = L := ⟨_, rfl⟩
        have hnx := upto_more b k (by omega)
        rw [hL] at h64 hnx
        have hrow := HROW.out
        rw [hL] at hrow
        obtain ⟨k2, hk2⟩ : ∃ k2, k - 2 = k2 := ⟨_, rfl⟩
        obtain ⟨k7, hk7⟩ : ∃ k7, k - 7 = k7 := ⟨_, rfl⟩
        obtain ⟨k15, hk15⟩ : ∃ k15, k - 15 = k15 := ⟨_, rfl⟩
        obtain ⟨k16, hk16⟩ : ∃ k16, k - 16 = k16 := ⟨_, rfl⟩
        obtain ⟨x2, hx2⟩ : ∃ x, L.getD k2 0 = x := ⟨_, rfl⟩
        obtain ⟨x7, hx7⟩ : ∃ x, L.getD k7 0 = x := ⟨_, rfl⟩
        obtain ⟨x15, hx15⟩ : ∃ x, L.getD k15 0 = x := ⟨_, rfl⟩
        obtain ⟨x16, hx16⟩ : ∃ x, L.getD k16 0 = x := ⟨_, rfl⟩
        have c2 : wr.cell? ⟨w.heap.size, k2, none⟩ = some (.int .u32 (x2.toNat : Int)) := by rw [← hx2]; exact hrow.cell (padded_get L 64 k2 (by omega))
        have c7 : wr.cell? ⟨w.heap.size, k7, none⟩ = some (.int .u32 (x7.toNat : Int)) := by rw [← hx7]; exact hrow.cell (padded_get L 64 k7 (by omega))
        have c15 : wr.cell? ⟨w.heap.size, k15, none⟩ = some (.int .u32 (x15.toNat : Int)) := by rw [← hx15]; exact hrow.cell (padded_get L 64 k15 (by omega))
        have c16 : wr.cell? ⟨w.heap.size, k16, none⟩ = some (.int .u32 (x16.toNat : Int)) := by rw [← hx16]; exact hrow.cell (padded_get L 64 k16 (by omega))
        have ck : wr.cell? ⟨w.heap.size, k, none⟩ = some (.int .u32 0) := by
          rw [hrow.cell (padded_get L 64 k (by omega)), List.getD_eq_getElem?_getD, List.getElem?_eq_none (by omega)]; rfl
        have ff : wr.frozen? ⟨w.heap.size, k, none⟩ = false := hrow.frozen k
        have hv : next L = small x2 17 19 10 + x7 + small x15 7 18 3 + x16 := by
          unfold next
          rw [h64, hk2, hk7, hk15, hk16, hx2, hx7, hx15, hx16]
        have HV := Lib.hid hv; have HNX := Lib.hid hnx; have HR := Lib.hid hrow; have HL := Lib.hid hL; have H64 := Lib.hid h64
        have e2 : (k : Int) - 2 = (k2 : Int) := by omega
        have e7 : (k : Int) - 7 = (k7 : Int) := by omega
        have e15 : (k : Int) - 15 = (k15 : Int) := by omega
        have e16 : (k : Int) - 16 = (k16 : Int) := by omega
        have w2 : IntKind.i64.wrap (k2 : Int) = (k2 : Int) := by rw [IntKind.wrap_i64]; omega
        have w7 : IntKind.i64.wrap (k7 : Int) = (k7 : Int) := by rw [IntKind.wrap_i64]; omega
        have w15 : IntKind.i64.wrap (k15 : Int) = (k15 : Int) := by rw [IntKind.wrap_i64]; omega
        have w16 : IntKind.i64.wrap (k16 : Int) = (k16 : Int) := by rw [IntKind.wrap_i64]; omega
        have l2 : (k2 : Int) < 64 := by omega
        have l7 : (k7 : Int) < 64 := by omega
        have l15 : (k15 : Int) < 64 := by omega
        have l16 : (k16 : Int) < 64 := by omega
        have lk : (k : Int) < 64 := by omega
        have g2 : (0 : Int) ≤ (k2 : Int) := by omega
        have g7 : (0 : Int) ≤ (k7 : Int) := by omega
        have g15 : (0 : Int) ≤ (k15 : Int) := by omega
        have g16 : (0 : Int) ≤ (k16 : Int) := by omega
        have gk : (0 : Int) ≤ (k : Int) := by omega
        have n2 : Hid (∀ v, (wr.setCell ⟨w.heap.size, k, none⟩ v).cell? ⟨w.heap.size, k2, none⟩ = some (.int .u32 (x2.toNat : Int))) := Lib.hid fun v => by
          rw [World.cell?_setCell_other _ _ _ _ (by intro h; injection h with _ h2 _; omega)]; exact c2
        have n7 : Hid (∀ v, (wr.setCell ⟨w.heap.size, k, none⟩ v).cell? ⟨w.heap.size, k7, none⟩ = some (.int .u32 (x7.toNat : Int))) := Lib.hid fun v => by
          rw [World.cell?_setCell_other _ _ _ _ (by intro h; injection h with _ h2 _; omega)]; exact c7
        have n15 : Hid (∀ v, (wr.setCell ⟨w.heap.size, k, none⟩ v).cell? ⟨w.heap.size, k15, none⟩ = some (.int .u32 (x15.toNat : Int))) := Lib.hid fun v => by
          rw [World.cell?_setCell_other _ _ _ _ (by intro h; injection h with _ h2 _; omega)]; exact c15
        have n16 : Hid (∀ v, (wr.setCell ⟨w.heap.size, k, none⟩ v).cell? ⟨w.heap.size, k16, none⟩ = some (.int .u32 (x16.toNat : Int))) := Lib.hid fun v => by
          rw [World.cell?_setCell_other _ _ _ _ (by intro h; injection h with _ h2 _; omega)]; exact c16
        clear hx2 hx7 hx15 hx16 hv hnx hrow hL h64 hk2 hk7 hk15 hk16
        go_wp2_with fail
        go_region_held (fun w' => w'.cell? ⟨w.heap.size, k2, none⟩ = some (.int .u32 (x2.toNat : Int)) ∧ w'.cell? ⟨w.heap.size, k7, none⟩ = some (.int .u32 (x7.toNat : Int)) ∧ w'.cell? ⟨w.heap.size, k15, none⟩ = some (.int .u32 (x15.toNat : Int)) ∧ w'.cell? ⟨w.heap.size, k16, none⟩ = some (.int .u32 (x16.toNat : Int)))
          (first | exact ⟨n2.out _, n7.out _, n15.out _, n16.out _⟩ | go_keep)
          (first | (go_at_call 63; refine (small_lit _ _ _ _ (by decide) _).mono ?_; rintro e _ ⟨rfl, rfl⟩))
        go_wp2_with fail
        go_roundw
        case rel =>
          have hval : (((((small x2 17 19 10).toNat : Int) + (x7.toNat : Int)) % 4294967296 + ((small x15 7 18 3).toNat : Int)) % 4294967296 + (x16.toNat : Int)) % 4294967296 = ((next L).toNat : Int) := by
            rw [add_nat, add_nat, add_nat, HV.out]
          refine ⟨k + 1, by omega, by go_num, ?_, (HBEL.out.setCell (p := ⟨w.heap.size, k, none⟩) (Nat.le_refl _) _).trans ((drew_below _).mono (by have := HBEL.out.size; simpa using this))⟩
          rw [hval]
          have := HR.out.set k (next L)
          have hp := padded_set L 64 (next L) (by rw [H64.out]; exact hlt)
          rw [H64.out] at hp
          rw [hp, ← HNX.out] at this
          exact this
        case measure => simp [intOf]; omega
    · obtain rfl : k = 64 := by omega
      have hrow := HROW.out
      rw [padded_full _ _ (upto_length b 64)] at hrow
      have hsz : (Try.prog.info? 83).map (·.size) = some (u32s (upto b 64)).toArray.size := by
        rw [info57]; simp [u32s, upto_length]
      have hone : (u32s (upto b 64)).toArray.all (·.oneCell') = true := all_oneCell_toArray (u32s_one _)
      obtain ⟨R, hR⟩ : ∃ R, (u32s (upto b 64)).toArray = R := ⟨_, rfl⟩
      unfold Row at hrow
      rw [hR] at hrow hsz hone
      have HR := Lib.hid hR; have HRW := Lib.hid hrow; have HSZ := Lib.hid hsz; have HON := Lib.hid hone
      clear hR hrow hsz hone
      go_wp2_with (first
        | refine wpList_load_row rfl 83 _ rfl w.heap.size rfl 83 R (0, 0) _ HRW.out Try.underlying83 rfl HSZ.out ?_
        | refine wpList_store_rowTo rfl 83 _ _ rfl rfl w.heap.size R rfl rfl 83 R HRW.out HSZ.out rfl HON.out ?_)
      refine bodyPost_ret_by (results_cell_row rfl _ _ w.heap.size 83 R (0, 0) _ rfl (setRow_heap _ _ _ _ _ _ HRW.out) Try.underlying83 rfl HSZ.out) rfl ⟨?_, below_setRow HBEL.out _ _ (Nat.le_refl _)⟩
      rw [← HR.out]; rfl
end Go.Proofs.Ytnhljemnebgekaa

/-
  The method take, called on any state and any block of 64 bytes, returns the plain state behind the block.
-/
namespace Go.Proofs.Ytnhljemnebgekaa
open Go.RowKit Sha
set_option linter.unusedSimpArgs false

def stV (x : St) : Array Value := (u32s x.list).toArray
theorem info45 : (Try.prog.info? 73).map (·.size) = some 8 := by kernel_rfl
theorem count_list : ∀ (l : List Bool) (i : Nat), l[i]? = some false → ((l.set i true).filter id).length = (l.filter id).length + 1
  | [], i, h => by simp at h
  | c :: l, 0, h => by
    obtain rfl : c = false := by simpa using h
    simp
  | c :: l, i + 1, h => by
    have := count_list l i (by simpa using h)
    cases c <;> simp [this]
theorem count_set (listed : Array Bool) (i : Nat) (h : listed.getD i true = false) : ((listed.setIfInBounds i true).toList.filter id).length = (listed.toList.filter id).length + 1 := by
  rw [Array.toList_setIfInBounds]
  refine count_list _ _ ?_
  by_cases hi : i < listed.size
  · rw [Array.getElem?_toList, Array.getElem?_eq_getElem hi]
    simpa [Array.getD, hi] using h
  · simp [Array.getD, hi] at h
section
variable {P : Program} {ops : Array Oper} {Q : Exit → Act → World → Prop} {md : Region.Mode}
/-- In whatever order: what each operation keeps holds behind all of them. -/
theorem wpAny_inv (I : Array Bool → Act → World → Prop)
    (hstep : ∀ listed a w i, I listed a w → i ∈ Region.ready md ops listed → wpOp P ops Q i (fun a' w' => I (listed.setIfInBounds i true) a' w') a w)
    (hend : ∀ listed a w, I listed a w → Region.ready md ops listed = [] → Q .normal a w)
    (hlast : ∀ listed a w, I listed a w → ops.size ≤ (listed.toList.filter id).length → Region.ready md ops listed = []) :
    ∀ (fuel : Nat) (listed : Array Bool) (a : Act) (w : World), ops.size ≤ fuel + (listed.toList.filter id).length → I listed a w → wpAny P md ops Q fuel listed a w
  | 0, listed, a, w, hf, hI => ⟨hlast _ _ _ hI (by omega), hend _ _ _ hI (hlast _ _ _ hI (by omega))⟩
  | fuel + 1, listed, a, w, hf, hI => ⟨fun h => hend _ _ _ hI h, fun i hi =>
      wpOp_mono (fun a' w' h => wpAny_inv I hstep hend hlast fuel _ a' w' (by rw [count_set _ _ (mem_ready.1 hi).1]; omega) h) (hstep _ _ _ _ hI hi)⟩
theorem wp_val {o : Oper} {a : Act} {w w' : World} {K : Act → World → Prop} {v : Value} (h : (execOp a.eval o).run P w = .ok (.value v) w') (hk : K (a.put o.dst v) w') : o.wp P a w K Q := by
  unfold Oper.wp
  rw [h, Oper.upon_value]
  exact hk
theorem wpOp_of {i : Nat} {o : Oper} {a : Act} {w : World} {K : Act → World → Prop} (hi : ops[i]? = some o) (hg : o.guard = none) (h : o.wp P a w K Q) : wpOp P ops Q i K a w := by
  unfold wpOp
  simp [hi, Region.wanted, hg, h]
theorem wp_enter {o : Oper} {a : Act} {w w' : World} {K : Act → World → Prop} {f : FuncId} {args : Array Value} (h : (execOp a.eval o).run P w = .ok (.enter f args) w')
    (hk : Calls P f args w' fun e w'' => ∃ v, e = .returned v ∧ K (a.put o.dst v) w'') : o.wp P a w K Q := by
  unfold Oper.wp
  rw [h, Oper.upon_enter]
  refine hk.mono ?_
  rintro e w'' ⟨v, rfl, hv⟩
  exact hv
end
theorem all_seven : ∀ l0 l1 l2 l3 l4 l5 l6 : Bool, 7 ≤ (#[l0, l1, l2, l3, l4, l5, l6].toList.filter id).length → l0 = true ∧ l1 = true ∧ l2 = true ∧ l3 = true ∧ l4 = true ∧ l5 = true ∧ l6 = true := by
  intro l0 l1 l2 l3 l4 l5 l6 h
  cases l0 <;> cases l1 <;> cases l2 <;> cases l3 <;> cases l4 <;> cases l5 <;> cases l6 <;> simp at h ⊢
theorem step_copy_row {P : Program} {ops : Array Oper} {o : Oper} {a : Act} {w : World} {K : Act → World → Prop} {Q : Exit → Act → World → Prop} {E : Prop} (hgd : o.guard = none) (d s : Operand) (dT sT : TypeId)
    (ho : o.op = .call { callee := .builtin .copy, args := #[d, s], argTypes := #[dT, sT] }) (elem : TypeId) (hu : P.underlying dT = some (.slice elem)) (hsz : (P.info? elem).map (·.size) = some 1)
    (g off dLen dCap : Nat) (ad : Addr) (sLen sCap : Nat) (hd : a.eval d = .slice (some ⟨g, off, none⟩) dLen dCap) (hs : a.eval s = .slice (some ad) sLen sCap)
    (cur : Array Value) (t : TypeId) (hg : w.heap[g]? = some (.cells cur t (0, 0))) (cs : List Value) (hn : cs.length = Nat.min sLen dLen)
    (hsrc : ∀ j v, cs[j]? = some v → w.cell? (ad.add j) = some v) (hfit : off + cs.length ≤ cur.size) (h1 : ∀ v ∈ cs, v.oneCell' = true)
    (new : Array Value) (hnew : (cur.toList.take off ++ cs ++ cur.toList.drop (off + cs.length)).toArray = new)
    (h : K (a.put o.dst (goInt cs.length)) (w.setRow g new)) :
    if Region.wanted o (yielded ops a.tmps) = true then Oper.wp P o a w K Q else E := by
  have hw : Region.wanted o (yielded ops a.tmps) = true := by simp [Region.wanted, hgd]
  rw [if_pos hw]
  subst hnew
  have hrun := run_copy_row (P := P) w dT sT o.type elem g off dLen dCap ad sLen sCap cur t cs hu hsz hg hn hsrc hfit h1
  unfold Oper.wp
  simp only [List.append_assoc] at h hrun
  simp [execOp, ho, resolve, invoke, builtin, hd, hs, hrun, Result.andThen]
  exact h
theorem not_nat (x : W) : bits .xor .u32 4294967295 (x.toNat : Int) = ((~~~x).toNat : Int) := by
  have h := u32_xor_nat 4294967295 x.toNat (by omega) x.isLt
  rw [show ((4294967295 : Nat) : Int) = 4294967295 from rfl] at h
  rw [h, show (4294967295 : Nat) = (BitVec.allOnes 32).toNat from rfl, ← BitVec.toNat_xor, BitVec.allOnes_xor]
theorem row_src {w : World} {b : Nat} {T : TypeId} {l : List W} (h : Row w b T l) (n : Nat) : ∀ j v, (u32s (l.take n))[j]? = some v → w.cell? ((⟨b, 0, none⟩ : Addr).add j) = some v := fun j v hv => by
  rw [Addr.add_mid, Nat.zero_add]
  rw [u32s, List.getElem?_map] at hv
  cases hq : (l.take n)[j]? with
  | none => rw [hq] at hv; simp at hv
  | some x =>
    rw [hq] at hv
    have hx : l[j]? = some x := by
      rw [List.getElem?_take] at hq
      split at hq
      · exact hq
      · simp at hq
    rw [h.cell hx]
    simpa using hv
theorem World.setCell_heap_ne {w : World} {b b' : Nat} (o : Nat) (v : Value) (h : b ≠ b') : (w.setCell ⟨b', o, none⟩ v).heap[b]? = w.heap[b]? := by
  simp [World.setCell, Array.getElem?_modify, Ne.symm h]
theorem great_lit (x : W) (a b c : Int) (h : (a = 6 ∧ b = 11 ∧ c = 25) ∨ (a = 2 ∧ b = 13 ∧ c = 22)) (w : World) :
    Calls Try.prog 61 #[.int .u32 x.toNat, .int .i64 a, .int .i64 b, .int .i64 c] w fun e w' => e = .returned (.int .u32 (great x a.toNat b.toNat c.toNat).toNat) ∧ w = w' := by
  rcases h with ⟨rfl, rfl, rfl⟩ | ⟨rfl, rfl, rfl⟩
  · exact great_6 x w
  · exact great_2 x w
def fr (X : Array Value) (sl : Value) (B : Nat) (v5 v6 v14 v15 v16 : Value) : Act := ⟨#[.agg X, sl, .pointer (some ⟨B, 0, none⟩), undef, .pointer (some ⟨B + 1, 0, none⟩), v5, v6, undef, undef, undef, undef, undef, undef, undef, v14, v15, v16, undef, undef, undef, undef, undef, undef, undef, undef, undef, undef, undef, undef, undef, undef, undef, undef, undef, undef, undef, undef, undef, undef, undef, undef, undef, undef, undef, undef, undef, undef, undef, undef, undef, undef, undef, undef, undef, undef, undef, undef, undef, undef, undef, undef, undef, undef, undef, undef, undef, undef, undef, undef, undef, undef, undef, undef, undef, undef, undef, undef, undef, undef, undef, undef, undef, undef, undef, undef, undef, undef, undef, undef, undef, undef, undef], []⟩
theorem drew_below' (B : Nat) (w : World) : Below B w w.drew := ⟨rfl, rfl, rfl, Nat.le_refl _, fun _ _ => rfl⟩
theorem below_setRow' {B : Nat} {W w : World} (h : Below B W w) (b : Nat) (cs : Array Value) (hb : B ≤ b) : Below B W (w.setRow b cs) :=
  ⟨h.os, h.tape, h.output, by simpa [World.setRow] using h.size, fun k hk => by rw [setRow_other _ _ _ _ (by omega)]; exact h.block k hk⟩
/-- What stands while the words are told and the two arrays are made, in whatever order. -/
def Making (w w1 : World) (X R : Array Value) (sl : Value) (listed : Array Bool) (a : Act) (W : World) : Prop :=
  ∃ (l0 l1 l2 l3 l4 l5 l6 : Bool) (v14 v15 v16 v5 v6 : Value), listed = #[l0, l1, l2, l3, l4, l5, l6] ∧ a = fr X sl w.heap.size v5 v6 v14 v15 v16 ∧
    (l0 = true → v14 = sl) ∧ (l1 = true → v15 = .agg R) ∧ (l2 = true → v16 = .agg X) ∧
    (l3 = true → ∃ b5, v5 = .pointer (some ⟨b5, 0, none⟩) ∧ w.heap.size + 2 ≤ b5 ∧ W.heap[b5]? = some (.cells (if l5 then R else zeroV 64) 83 (0, 0))) ∧
    (l4 = true → ∃ b6, v6 = .pointer (some ⟨b6, 0, none⟩) ∧ w.heap.size + 2 ≤ b6 ∧ W.heap[b6]? = some (.cells (if l6 then X else zeroV 8) 73 (0, 0))) ∧
    W.heap[w.heap.size]? = some (.cells X 73 (0, 0)) ∧ Below (w.heap.size + 2) w1 W ∧ w.heap.size + 2 ≤ W.heap.size ∧ (l5 = true → l3 = true) ∧ (l6 = true → l4 = true)

/-- Words to which others have been added, up to one. -/
def mixed (l m : List W) : Nat → List W
  | 0 => l
  | j + 1 => (mixed l m j).set j ((mixed l m j).getD j 0 + m.getD j 0)
theorem mixed_length (l m : List W) : ∀ j, (mixed l m j).length = l.length
  | 0 => rfl
  | j + 1 => by rw [mixed, List.length_set, mixed_length l m j]
theorem mixed_all (y x : St) : mixed y.list x.list 8 = (y.add x).list := rfl
theorem getD_some (l : List W) (j : Nat) (h : j < l.length) : l[j]? = some (l.getD j 0) := by
  rw [List.getD_eq_getElem?_getD, List.getElem?_eq_getElem h]; rfl
set_option maxRecDepth 100000 in
set_option maxHeartbeats 1500000 in
theorem take_any (x : St) (a : Option Addr) (n cap : Nat) (b : List UInt8) (w : World) (hn : 64 ≤ b.length) (hb : BytesAt w a b) (hnl : b.length = n) (hc : n ≤ cap) (hc2 : cap ≤ maxLen) :
    Calls Try.prog 53 #[.agg (stV x), .slice a n cap] w fun e w' => e = .returned (.agg (stV (take x b))) ∧ Below w.heap.size w w' := by
  have hz57 : ∀ w, (zeroValue 83).run Try.prog w = .ok (.agg (zeroV 64)) w := fun w => by kernel_rfl
  have hz45 : ∀ w, (zeroValue 73).run Try.prog w = .ok (.agg (zeroV 8)) w := fun w => by kernel_rfl
  obtain ⟨X, hX⟩ : ∃ X, stV x = X := ⟨_, rfl⟩
  rw [hX]
  have hXs : X.size = 8 := by rw [← hX]; rfl
  have hX1 : X.all (·.oneCell') = true := by rw [← hX]; exact all_oneCell_toArray (u32s_one _)
  have HX := Lib.hid hX; have HX1 := Lib.hid hX1; have HXs := Lib.hid hXs
  clear hX hX1 hXs
  obtain ⟨R, hR⟩ : ∃ R, (u32s (words b)).toArray = R := ⟨_, rfl⟩
  have hRs : R.size = 64 := by rw [← hR]; simp [u32s, words, upto_length]
  have hR1 : R.all (·.oneCell') = true := by rw [← hR]; exact all_oneCell_toArray (u32s_one _)
  have HR := Lib.hid hR; have HR1 := Lib.hid hR1; have HRs := Lib.hid hRs
  clear hR hR1 hRs
  obtain ⟨w1, hw1⟩ : ∃ w1, (w.alloc (.cells X 73)).alloc (.cells (zeroV 8) 73) = w1 := ⟨_, rfl⟩
  have hb1 : BytesAt w1 a b := by rw [← hw1]; exact hb.below (by go_grown)
  have hw1s : w1.heap.size = w.heap.size + 2 := by rw [← hw1]; simp
  have hx1 : w1.heap[w.heap.size]? = some (.cells X 73 (0, 0)) := by rw [← hw1, heap_alloc_old _ _ (by simp), heap_alloc_new]
  have hr1 : w1.heap[w.heap.size + 1]? = some (.cells (zeroV 8) 73 (0, 0)) := by
    rw [← hw1]; have := heap_alloc_new (w.alloc (.cells X 73)) (.cells (zeroV 8) 73)
    simpa using this
  go_enter Try.func53, Try.ntmps53
  go_wp2_with fail
  go_cut [5, 6] (fun p5 p6 wx => ∃ b5 b6, p5 = .pointer (some ⟨b5, 0, none⟩) ∧ p6 = .pointer (some ⟨b6, 0, none⟩) ∧ w.heap.size + 2 ≤ b5 ∧ w.heap.size + 2 ≤ b6 ∧ Row wx b5 83 (words b) ∧ Row wx b6 73 x.list ∧ wx.heap[w.heap.size]? = some (.cells X 73 (0, 0)) ∧ Below (w.heap.size + 2) w1 wx)
  case first =>
    refine wp_region_any (by kernel_rfl) ?_
    refine wpAny_inv (Making w w1 X R (.slice a n cap)) ?step ?fin ?last _ _ _ _ (by simp) ?start
    case start =>
      exact ⟨false, false, false, false, false, false, false, undef, undef, undef, undef, undef, rfl, rfl, by simp, by simp, by simp, by simp, by simp, hx1, drew_below' _ _, by rw [← hw1s]; exact Nat.le_refl _, by simp, by simp⟩
    case last =>
      rintro listed a' W ⟨l0, l1, l2, l3, l4, l5, l6, v14, v15, v16, v5, v6, rfl, _⟩ hcount
      have hall := all_seven l0 l1 l2 l3 l4 l5 l6 hcount
      obtain ⟨rfl, rfl, rfl, rfl, rfl, rfl, rfl⟩ := hall
      rfl
    case fin =>
      rintro listed a' W ⟨l0, l1, l2, l3, l4, l5, l6, v14, v15, v16, v5, v6, rfl, rfl, f0, f1, f2, f3, f4, hx, hB, hs, f5, f6⟩ hnil
      have hno : ∀ i, i ∉ Region.ready .any _ #[l0, l1, l2, l3, l4, l5, l6] := fun i => by rw [hnil]; simp
      have q0 : l0 = true := by
        cases l0 with
        | true => rfl
        | false =>
          refine absurd (mem_ready.2 ⟨rfl, _, rfl, fun e he hbd => ?_⟩) (hno 0)
          simp at he
          try first
            | (rcases he with rfl | rfl | rfl | rfl | rfl | rfl | rfl | rfl | rfl <;> rfl)
            | (rcases he with rfl | rfl | rfl | rfl | rfl | rfl | rfl | rfl <;> rfl)
            | (subst he; first | rfl | cases hbd)
      subst q0
      have q1 : l1 = true := by
        cases l1 with
        | true => rfl
        | false =>
          refine absurd (mem_ready.2 ⟨rfl, _, rfl, fun e he hbd => ?_⟩) (hno 1)
          simp at he
          try first
            | (rcases he with rfl | rfl | rfl | rfl | rfl | rfl | rfl | rfl | rfl <;> rfl)
            | (rcases he with rfl | rfl | rfl | rfl | rfl | rfl | rfl | rfl <;> rfl)
            | (subst he; first | rfl | cases hbd)
      subst q1
      have q3 : l3 = true := by
        cases l3 with
        | true => rfl
        | false =>
          refine absurd (mem_ready.2 ⟨rfl, _, rfl, fun e he hbd => ?_⟩) (hno 3)
          simp at he
          try first
            | (rcases he with rfl | rfl | rfl | rfl | rfl | rfl | rfl | rfl | rfl <;> rfl)
            | (rcases he with rfl | rfl | rfl | rfl | rfl | rfl | rfl | rfl <;> rfl)
            | (subst he; first | rfl | cases hbd)
      subst q3
      have q4 : l4 = true := by
        cases l4 with
        | true => rfl
        | false =>
          refine absurd (mem_ready.2 ⟨rfl, _, rfl, fun e he hbd => ?_⟩) (hno 4)
          simp at he
          try first
            | (rcases he with rfl | rfl | rfl | rfl | rfl | rfl | rfl | rfl | rfl <;> rfl)
            | (rcases he with rfl | rfl | rfl | rfl | rfl | rfl | rfl | rfl <;> rfl)
            | (subst he; first | rfl | cases hbd)
      subst q4
      have q2 : l2 = true := by
        cases l2 with
        | true => rfl
        | false =>
          refine absurd (mem_ready.2 ⟨rfl, _, rfl, fun e he hbd => ?_⟩) (hno 2)
          simp at he
          try first
            | (rcases he with rfl | rfl | rfl | rfl | rfl | rfl | rfl | rfl | rfl <;> rfl)
            | (rcases he with rfl | rfl | rfl | rfl | rfl | rfl | rfl | rfl <;> rfl)
            | (subst he; first | rfl | cases hbd)
      subst q2
      have q5 : l5 = true := by
        cases l5 with
        | true => rfl
        | false =>
          refine absurd (mem_ready.2 ⟨rfl, _, rfl, fun e he hbd => ?_⟩) (hno 5)
          simp at he
          try first
            | (rcases he with rfl | rfl | rfl | rfl | rfl | rfl | rfl | rfl | rfl <;> rfl)
            | (rcases he with rfl | rfl | rfl | rfl | rfl | rfl | rfl | rfl <;> rfl)
            | (subst he; first | rfl | cases hbd)
      subst q5
      have q6 : l6 = true := by
        cases l6 with
        | true => rfl
        | false =>
          refine absurd (mem_ready.2 ⟨rfl, _, rfl, fun e he hbd => ?_⟩) (hno 6)
          simp at he
          try first
            | (rcases he with rfl | rfl | rfl | rfl | rfl | rfl | rfl | rfl | rfl <;> rfl)
            | (rcases he with rfl | rfl | rfl | rfl | rfl | rfl | rfl | rfl <;> rfl)
            | (subst he; first | rfl | cases hbd)
      subst q6
      obtain ⟨b5, rfl, g5, r5⟩ := f3 rfl
      obtain ⟨b6, rfl, g6, r6⟩ := f4 rfl
      show Exit.then _ _ Exit.normal (fr _ _ _ _ _ _ _ _) _
      unfold fr
      go_wp2_with fail
      go_meet
      refine ⟨b5, b6, rfl, rfl, g5, g6, ?_, ?_, hx, hB⟩
      · rw [Row, HR.out]; exact r5
      · rw [Row, show (u32s x.list).toArray = X from HX.out]; exact r6
    case step =>
      rintro listed a' W i ⟨l0, l1, l2, l3, l4, l5, l6, v14, v15, v16, v5, v6, rfl, rfl, f0, f1, f2, f3, f4, hx, hB, hs, f5, f6⟩ hi
      obtain ⟨hl, o, ho, hd⟩ := mem_ready.1 hi
      match i, ho with
      | 0, ho =>
        have ho0 := ho
        simp only [List.getElem?_toArray, List.getElem?_cons_succ, List.getElem?_cons_zero, Option.some.injEq] at ho
        subst ho
        refine wpOp_of ho0 rfl (wp_val (v := .slice a n cap) (w' := W) rfl ?_)
        exact ⟨true, l1, l2, l3, l4, l5, l6, .slice a n cap, v15, v16, v5, v6, rfl, rfl, fun _ => rfl, f1, f2, f3, f4, hx, hB, hs, f5, f6⟩
      | 1, ho =>
        have ho0 := ho
        simp only [List.getElem?_toArray, List.getElem?_cons_succ, List.getElem?_cons_zero, Option.some.injEq] at ho
        subst ho
        have h0 : l0 = true := by
            exact hd _ (Array.getElem_mem (i := 0) (by decide)) rfl
        obtain rfl := f0 h0
        refine wpOp_of ho0 rfl (wp_enter (f := 59) (args := #[.slice a n cap]) (w' := W) (by go_simp; rfl) ?_)
        refine (words_any _ _ _ b _ hn (hb1.below (by rw [hw1s]; exact hB)) hnl hc hc2).mono ?_
        rintro e w5 ⟨rfl, hBk⟩
        rw [HR.out]
        refine ⟨_, rfl, l0, true, l2, l3, l4, l5, l6, .slice a n cap, _, v16, v5, v6, rfl, rfl, f0, fun _ => rfl, f2, fun h => ?_, fun h => ?_, ?_, hB.trans (hBk.mono hs), Nat.le_trans hs hBk.size, f5, f6⟩
        · obtain ⟨b5, e5, g5, r5⟩ := f3 h
          exact ⟨b5, e5, g5, (hBk.block _ (Array.getElem?_eq_some_iff.1 r5).1).trans r5⟩
        · obtain ⟨b5, e5, g5, r5⟩ := f4 h
          exact ⟨b5, e5, g5, (hBk.block _ (Array.getElem?_eq_some_iff.1 r5).1).trans r5⟩
        · exact (hBk.block _ (Array.getElem?_eq_some_iff.1 hx).1).trans hx
      | 2, ho =>
        have ho0 := ho
        simp only [List.getElem?_toArray, List.getElem?_cons_succ, List.getElem?_cons_zero, Option.some.injEq] at ho
        subst ho
        refine wpOp_of ho0 rfl (wp_load_row 73 _ rfl w.heap.size rfl 73 X (0, 0) _ hx Try.underlying73 rfl (by rw [HXs.out]; exact info45) ?_)
        exact ⟨l0, l1, true, l3, l4, l5, l6, v14, v15, .agg X, v5, v6, rfl, rfl, f0, f1, fun _ => rfl, f3, f4, hx, hB, hs, f5, f6⟩
      | 3, ho =>
        have ho0 := ho
        simp only [List.getElem?_toArray, List.getElem?_cons_succ, List.getElem?_cons_zero, Option.some.injEq] at ho
        subst ho
        have h3 : l3 = false := hl
        have h5 : l5 = false := by cases l5 with | false => rfl | true => exact absurd (f5 rfl) (by rw [h3]; simp)
        subst h5
        refine wpOp_of ho0 rfl (wp_val (v := .pointer (some ⟨W.heap.size, 0, none⟩)) (w' := W.alloc (.cells (zeroV 64) 83)) (by go_simp) ?_)
        refine ⟨l0, l1, l2, true, l4, false, l6, v14, v15, v16, _, v6, rfl, rfl, f0, f1, f2, fun _ => ⟨_, rfl, hs, heap_alloc_new _ _⟩, fun h => ?_, ?_, hB.alloc hs _, by simp; omega, by simp, f6⟩
        · obtain ⟨b5, e5, g5, r5⟩ := f4 h
          exact ⟨b5, e5, g5, (heap_alloc_old _ _ (Array.getElem?_eq_some_iff.1 r5).1).trans r5⟩
        · exact (heap_alloc_old _ _ (Array.getElem?_eq_some_iff.1 hx).1).trans hx
      | 4, ho =>
        have ho0 := ho
        simp only [List.getElem?_toArray, List.getElem?_cons_succ, List.getElem?_cons_zero, Option.some.injEq] at ho
        subst ho
        have h3 : l4 = false := hl
        have h5 : l6 = false := by cases l6 with | false => rfl | true => exact absurd (f6 rfl) (by rw [h3]; simp)
        subst h5
        refine wpOp_of ho0 rfl (wp_val (v := .pointer (some ⟨W.heap.size, 0, none⟩)) (w' := W.alloc (.cells (zeroV 8) 73)) (by go_simp) ?_)
        refine ⟨l0, l1, l2, l3, true, l5, false, v14, v15, v16, v5, _, rfl, rfl, f0, f1, f2, fun h => ?_, fun _ => ⟨_, rfl, hs, heap_alloc_new _ _⟩, ?_, hB.alloc hs _, by simp; omega, f5, by simp⟩
        · obtain ⟨b5, e5, g5, r5⟩ := f3 h
          exact ⟨b5, e5, g5, (heap_alloc_old _ _ (Array.getElem?_eq_some_iff.1 r5).1).trans r5⟩
        · exact (heap_alloc_old _ _ (Array.getElem?_eq_some_iff.1 hx).1).trans hx
      | 5, ho =>
        have ho0 := ho
        simp only [List.getElem?_toArray, List.getElem?_cons_succ, List.getElem?_cons_zero, Option.some.injEq] at ho
        subst ho
        have d3 : l3 = true := hd _ (Array.getElem_mem (i := 0) (by decide)) rfl
        have d1 : l1 = true := hd _ (Array.getElem_mem (i := 1) (by decide)) rfl
        have h5 : l5 = false := hl
        subst h5
        obtain rfl := f1 d1
        obtain ⟨b5, rfl, g5, r5⟩ := f3 d3
        refine wpOp_of ho0 rfl (wp_store_row 83 _ _ rfl b5 R rfl rfl 83 (zeroV 64) r5 (by rw [info57, HRs.out]) (by rw [HRs.out]; simp [zeroV]) HR1.out ?_)
        refine ⟨l0, l1, l2, l3, l4, true, l6, v14, _, v16, _, v6, rfl, rfl, f0, f1, f2, fun _ => ⟨b5, rfl, g5, setRow_heap _ _ _ _ _ _ r5⟩, fun h => ?_, ?_, below_setRow' hB _ _ g5, by simpa [World.setRow] using hs, fun _ => d3, f6⟩
        · obtain ⟨b6, e6, g6, r6⟩ := f4 h
          refine ⟨b6, e6, g6, ?_⟩
          rw [setRow_other _ _ _ _ (by rintro rfl; rw [r5] at r6; simp at r6)]; exact r6
        · rw [setRow_other _ _ _ _ (by omega)]; exact hx
      | 6, ho =>
        have ho0 := ho
        simp only [List.getElem?_toArray, List.getElem?_cons_succ, List.getElem?_cons_zero, Option.some.injEq] at ho
        subst ho
        have d4 : l4 = true := hd _ (Array.getElem_mem (i := 0) (by decide)) rfl
        have d2 : l2 = true := hd _ (Array.getElem_mem (i := 1) (by decide)) rfl
        have h6 : l6 = false := hl
        subst h6
        obtain rfl := f2 d2
        obtain ⟨b6, rfl, g6, r6⟩ := f4 d4
        refine wpOp_of ho0 rfl (wp_store_row 73 _ _ rfl b6 X rfl rfl 73 (zeroV 8) r6 (by rw [info45, HXs.out]) (by rw [HXs.out]; simp [zeroV]) HX1.out ?_)
        refine ⟨l0, l1, l2, l3, l4, l5, true, v14, v15, _, v5, _, rfl, rfl, f0, f1, f2, fun h => ?_, fun _ => ⟨b6, rfl, g6, setRow_heap _ _ _ _ _ _ r6⟩, ?_, below_setRow' hB _ _ g6, by simpa [World.setRow] using hs, f5, fun _ => d4⟩
        · obtain ⟨b5, e5, g5, r5⟩ := f3 h
          refine ⟨b5, e5, g5, ?_⟩
          rw [setRow_other _ _ _ _ (by rintro rfl; rw [r6] at r5; simp at r5)]; exact r5
        · rw [setRow_other _ _ _ _ (by omega)]; exact hx
      | k + 7, ho => simp at ho
  case rest =>
    obtain ⟨b5, b6, rfl, rfl, g5, g6, r5, r6, hx, hB⟩ := hcut
    have R5 := Lib.hid r5; have R6 := Lib.hid r6; have HXR := Lib.hid hx; have HB := Lib.hid hB
    clear r5 r6 hx hB
    have hne : b5 ≠ b6 := by
      rintro rfl
      have h1 := R5.out; have h2 := R6.out
      rw [Row] at h1 h2
      rw [h1] at h2; simp at h2
    go_wp2_with fail
    refine (keys_any _).mono ?_
    rintro e wk ⟨rfl, hBk⟩
    have r5 : Row wk b5 83 (words b) := R5.out.below hBk
    have r6 : Row wk b6 73 x.list := R6.out.below hBk
    have R5' := Lib.hid r5; have R6' := Lib.hid r6
    have hws : w.heap.size + 2 ≤ wc.heap.size := by have := HB.out.size; omega
    have HBW : Hid (Below (w.heap.size + 2) w1 wk) := Lib.hid (HB.out.trans (hBk.mono hws))
    obtain ⟨KV, hKV⟩ : ∃ KV, keysV = KV := ⟨_, rfl⟩
    rw [hKV]
    have HKV := Lib.hid hKV
    clear r5 r6 hBk hKV R5 R6
    go_wp2_with fail
    go_loopw [18] (fun i wr => ∃ k : Nat, k ≤ 64 ∧ i = .int .i64 k ∧ Row wr b6 73 (rounds x b k).list ∧ Row wr b5 83 (words b) ∧ Below (w.heap.size + 2) w1 wr) (fun i _ => 64 - (intOf i).toNat)
    case atStart => exact ⟨0, by omega, rfl, R6'.out, R5'.out, HBW.out⟩
    case round =>
      obtain ⟨k, hk, rfl, hr6, hr5, hbel⟩ := hrel
      obtain ⟨y, hy⟩ : ∃ y, rounds x b k = y := ⟨_, rfl⟩
      rw [hy] at hr6
      obtain ⟨A, B, C, D, E, F, G, H⟩ := y
      have HY := Lib.hid hy; have HR6 := Lib.hid hr6; have HR5 := Lib.hid hr5; have HBEL := Lib.hid hbel
      have c0 : wr.cell? ⟨b6, 0, none⟩ = some (.int .u32 (A.toNat : Int)) := hr6.cell rfl
      have c1 : wr.cell? ⟨b6, 1, none⟩ = some (.int .u32 (B.toNat : Int)) := hr6.cell rfl
      have c2 : wr.cell? ⟨b6, 2, none⟩ = some (.int .u32 (C.toNat : Int)) := hr6.cell rfl
      have c3 : wr.cell? ⟨b6, 3, none⟩ = some (.int .u32 (D.toNat : Int)) := hr6.cell rfl
      have c4 : wr.cell? ⟨b6, 4, none⟩ = some (.int .u32 (E.toNat : Int)) := hr6.cell rfl
      have c5 : wr.cell? ⟨b6, 5, none⟩ = some (.int .u32 (F.toNat : Int)) := hr6.cell rfl
      have c6 : wr.cell? ⟨b6, 6, none⟩ = some (.int .u32 (G.toNat : Int)) := hr6.cell rfl
      have c7 : wr.cell? ⟨b6, 7, none⟩ = some (.int .u32 (H.toNat : Int)) := hr6.cell rfl
      clear hy hr6 hbel
      by_cases hlt : k < 64
      · obtain ⟨kw, hkw⟩ : ∃ kw, keys.getD k 0 = kw := ⟨_, rfl⟩
        obtain ⟨ww, hww⟩ : ∃ ww, (words b).getD k 0 = ww := ⟨_, rfl⟩
        have cw : wr.cell? ⟨b5, k, none⟩ = some (.int .u32 (ww.toNat : Int)) := hr5.cell (by
          have hl : k < (words b).length := by unfold words; rw [upto_length]; exact hlt
          rw [List.getElem?_eq_getElem hl, ← hww, List.getD_eq_getElem?_getD, List.getElem?_eq_getElem hl]; rfl)
        have ck : KV[k]? = some (.int .u32 (kw.toNat : Int)) := by
          have hl : k < keys.length := hlt
          rw [← HKV.out, ← hkw, keysV]
          simp [u32s, List.getElem?_eq_getElem hl]
        have hks : KV.size = 64 := by rw [← HKV.out]; rfl
        have HKW := Lib.hid hkw; have HWW := Lib.hid hww
        clear hkw hww hr5
        have hsg : IntKind.u32.signed = false := rfl
        have hmx : IntKind.u32.max = 4294967295 := rfl
        have hki : (k : Int) < 64 := by omega
        have hk0 : (0 : Int) ≤ (k : Int) := by omega
        have hidx : (Instr.index 83 (.agg KV) (.int .i64 (k : Int))).run Try.prog wr = .ok (.int .u32 (kw.toNat : Int)) wr := by
          have hs43 : (sizeOf 71).run Try.prog wr = .ok 1 wr := by
            have h := info43
            cases hi : Try.prog.info? 71 with
            | none => rw [hi] at h; simp at h
            | some i43 => rw [hi] at h; simp at h; simp [sizeOf, typeInfo, hi, h]
          simp [Instr.index, run_underlying Try.underlying83, asIntOf, hki, hs43, part, go_sem, ck]
          intro hbad; omega
        go_wp2_with fail
        go_quiet (fail)
        go_wp2_with fail
        go_region_held3 (fun w' => w'.cell? ⟨b6, 5, none⟩ = some (.int .u32 (F.toNat : Int)) ∧ w'.cell? ⟨b6, 6, none⟩ = some (.int .u32 (G.toNat : Int)) ∧ w'.cell? ⟨b6, 7, none⟩ = some (.int .u32 (H.toNat : Int)) ∧ w'.cell? ⟨b5, k, none⟩ = some (.int .u32 (ww.toNat : Int)))
          (first | (simp only [World.cell?_drewN, World.cell?_drew]; exact ⟨c5, c6, c7, cw⟩) | exact ⟨c5, c6, c7, cw⟩ | go_keep) (first | (go_at_call 61; refine (great_6 _ _).mono ?_; rintro e _ ⟨rfl, rfl⟩; dsimp only))
        go_wp2_with fail
        go_region_held3 (fun w' => w'.cell? ⟨b6, 1, none⟩ = some (.int .u32 (B.toNat : Int)) ∧ w'.cell? ⟨b6, 2, none⟩ = some (.int .u32 (C.toNat : Int)))
          (first | exact ⟨c1, c2⟩ | go_keep) (first | (go_at_call 61; refine (great_2 _ _).mono ?_; rintro e _ ⟨rfl, rfl⟩; dsimp only))
        go_wp2_with fail
        have e1 : IntKind.u32.wrap (IntKind.u32.wrap (IntKind.u32.wrap (IntKind.u32.wrap ((H.toNat : Int) + ((great E 6 11 25).toNat : Int)) + bits .xor .u32 (bits .and .u32 (E.toNat : Int) (F.toNat : Int)) (bits .and .u32 (bits .xor .u32 4294967295 (E.toNat : Int)) (G.toNat : Int))) + (kw.toNat : Int)) + (ww.toNat : Int)) = ((t1 ⟨A, B, C, D, E, F, G, H⟩ kw ww).toNat : Int) := by
          rw [and_nat, not_nat, and_nat, xor_nat]
          simp only [IntKind.wrap_u32]
          rw [add_nat, add_nat, add_nat, add_nat]; rfl
        have e2 : IntKind.u32.wrap (((great A 2 13 22).toNat : Int) + bits .xor .u32 (bits .xor .u32 (bits .and .u32 (A.toNat : Int) (B.toNat : Int)) (bits .and .u32 (A.toNat : Int) (C.toNat : Int))) (bits .and .u32 (B.toNat : Int) (C.toNat : Int))) = ((t2 ⟨A, B, C, D, E, F, G, H⟩).toNat : Int) := by
          rw [and_nat, and_nat, and_nat, xor_nat, xor_nat]
          simp only [IntKind.wrap_u32]
          rw [add_nat]; rfl
        rw [e1, e2]
        obtain ⟨T1, hT1⟩ : ∃ T, t1 ⟨A, B, C, D, E, F, G, H⟩ kw ww = T := ⟨_, rfl⟩
        obtain ⟨T2, hT2⟩ : ∃ T, t2 ⟨A, B, C, D, E, F, G, H⟩ = T := ⟨_, rfl⟩
        rw [hT1, hT2]
        have HT1 := Lib.hid hT1; have HT2 := Lib.hid hT2
        clear hT1 hT2 e1 e2 hidx ck hks
        have hsrc := row_src HR6.out 7
        go_region_law (refine step_copy_row rfl (.tmp 66) (.tmp 67) 87 87 rfl 71 Try.underlying87 info43 b6 1 7 7 ⟨b6, 0, none⟩ 7 8 (by rfl) (by rfl) (u32s [A, B, C, D, E, F, G, H]).toArray 73 HR6.out (u32s [A, B, C, D, E, F, G]) (by rfl) hsrc (by simp [u32s]) (u32s_one _) (u32s [A, A, B, C, D, E, F, G]).toArray (by rfl) ?_)
        obtain ⟨w9, hw9⟩ : ∃ w9, (wr.drewN (nq + 1 + 1 + 1)).setRow b6 (u32s [A, A, B, C, D, E, F, G]).toArray = w9 := ⟨_, rfl⟩
        have r6 : Row w9 b6 73 [A, A, B, C, D, E, F, G] := by rw [← hw9]; exact setRow_heap _ _ _ _ _ _ HR6.out
        have r5 : Row w9 b5 83 (words b) := by
          rw [← hw9, Row, setRow_other _ _ _ _ hne]; exact HR5.out
        have hB9 : Below (w.heap.size + 2) w1 w9 := by
          have hdn : Below (w.heap.size + 2) w1 (wr.drewN (nq + 1 + 1 + 1)) := HBEL.out.trans ⟨rfl, rfl, rfl, Nat.le_refl _, fun _ _ => rfl⟩
          rw [← hw9]; exact below_setRow' hdn _ _ g6
        have d4 : w9.cell? ⟨b6, 4, none⟩ = some (.int .u32 (D.toNat : Int)) := r6.cell rfl
        have d0 : w9.cell? ⟨b6, 0, none⟩ = some (.int .u32 (A.toNat : Int)) := r6.cell rfl
        have df4 : w9.frozen? ⟨b6, 4, none⟩ = false := r6.frozen 4
        have df0 : w9.frozen? ⟨b6, 0, none⟩ = false := r6.frozen 0
        rw [hw9]
        have R6'' := Lib.hid r6; have R5'' := Lib.hid r5; have HB9 := Lib.hid hB9
        obtain ⟨DT, hDT⟩ : ∃ s, D + T1 = s := ⟨_, rfl⟩
        obtain ⟨TT, hTT⟩ : ∃ s, T1 + T2 = s := ⟨_, rfl⟩
        have s1 := add_nat D T1
        have s2 := add_nat T1 T2
        rw [hDT] at s1
        rw [hTT] at s2
        have HDT := Lib.hid hDT; have HTT := Lib.hid hTT
        clear hDT hTT
        clear r6 r5 hB9 hw9 c0 c1 c2 c3 c4 c5 c6 c7 cw hsrc
        go_wp2_with fail
        go_roundw
        case rel =>
          refine ⟨k + 1, by omega, by go_num, ?_, ?_, (HB9.out.setCell (p := ⟨b6, 4, none⟩) g6 _).setCell (p := ⟨b6, 0, none⟩) g6 _⟩
          · have hr : rounds x b (k + 1) = ⟨TT, A, B, C, DT, E, F, G⟩ := by
              rw [rounds, HY.out, HKW.out, HWW.out, round, HT1.out, HT2.out]; simp only [HDT.out, HTT.out]
            rw [hr]
            exact (R6''.out.set 4 DT).set 0 TT
          · rw [Row, World.setCell_heap_ne _ _ hne, World.setCell_heap_ne _ _ hne]; exact R5''.out
        case measure => simp [intOf]; omega
      · obtain rfl : k = 64 := by omega
        have hX : Row wr w.heap.size 73 x.list := by
          rw [Row, show (u32s x.list).toArray = X from HX.out]
          exact (HBEL.out.block _ (by omega)).trans hx1
        have HXW := Lib.hid hX
        have hr2 : wr.heap[w.heap.size + 1]? = some (.cells (zeroV 8) 73 (0, 0)) := (HBEL.out.block _ (by omega)).trans hr1
        have hb6 : w.heap.size ≠ b6 := by omega
        have hy64 : (⟨A, B, C, D, E, F, G, H⟩ : St) = rounds x b 64 := HY.out.symm
        obtain ⟨y, hye⟩ : ∃ y : St, ⟨A, B, C, D, E, F, G, H⟩ = y := ⟨_, rfl⟩
        rw [hye] at HR6
        have HYE := Lib.hid (hye ▸ hy64 : y = rounds x b 64)
        clear c0 c1 c2 c3 c4 c5 c6 c7 hX hy64 hye HY hr2
        go_wp2_with fail
        go_loopw [79] (fun i wq => ∃ j : Nat, j ≤ 8 ∧ i = .int .i64 j ∧ Row wq b6 73 (mixed y.list x.list j) ∧ Below (w.heap.size + 2) w1 wq) (fun i _ => 8 - (intOf i).toNat)
        case atStart => exact ⟨0, by omega, rfl, HR6.out, HBEL.out⟩
        case round =>
          obtain ⟨j, hj, rfl, hrow, hbel⟩ := hrel
          obtain ⟨M, hM⟩ : ∃ M, mixed y.list x.list j = M := ⟨_, rfl⟩
          have hMl : M.length = 8 := by rw [← hM, mixed_length]; rfl
          rw [hM] at hrow
          have HM := Lib.hid hM; have HROW := Lib.hid hrow; have HBQ := Lib.hid hbel; have HML := Lib.hid hMl
          clear hM hrow hbel hMl
          by_cases hlj : j < 8
          · obtain ⟨p, hp⟩ : ∃ p, M.getD j 0 = p := ⟨_, rfl⟩
            obtain ⟨q, hq⟩ : ∃ q, x.list.getD j 0 = q := ⟨_, rfl⟩
            have cp : wr.cell? ⟨b6, j, none⟩ = some (.int .u32 (p.toNat : Int)) := by
              rw [← hp]; exact HROW.out.cell (getD_some M j (by rw [HML.out]; exact hlj))
            have cq : wr.cell? ⟨w.heap.size, j, none⟩ = some (.int .u32 (q.toNat : Int)) := by
              have hX : Row wr w.heap.size 73 x.list := by
                rw [Row, show (u32s x.list).toArray = X from HX.out]
                exact (HBQ.out.block _ (by omega)).trans hx1
              rw [← hq]; exact hX.cell (getD_some x.list j hlj)
            have ff : wr.frozen? ⟨b6, j, none⟩ = false := HROW.out.frozen j
            obtain ⟨sm, hsm⟩ : ∃ s, p + q = s := ⟨_, rfl⟩
            have s1 := add_nat p q
            rw [hsm] at s1
            have HSM := Lib.hid hsm; have HP := Lib.hid hp; have HQ := Lib.hid hq
            clear hsm hp hq
            have hji : (j : Int) < 8 := by omega
            have hj0 : (0 : Int) ≤ (j : Int) := by omega
            go_wp2_with fail
            go_region
            go_wp2_with fail
            go_roundw
            case rel =>
              refine ⟨j + 1, by omega, by go_num, ?_, (HBQ.out.setCell (p := ⟨b6, j, none⟩) g6 _).drew⟩
              rw [mixed, HM.out, HP.out, HQ.out, HSM.out]
              exact HROW.out.set j sm
            case measure => simp [intOf]; omega
          · obtain rfl : j = 8 := by omega
            have hfin : M = (y.add x).list := by rw [← HM.out, mixed_all]
            rw [hfin] at HROW
            have hr2 : wr.heap[w.heap.size + 1]? = some (.cells (zeroV 8) 73 (0, 0)) := (HBQ.out.block _ (by omega)).trans hr1
            obtain ⟨Y, hY⟩ : ∃ Y, (u32s (y.add x).list).toArray = Y := ⟨_, rfl⟩
            have hrow := HROW.out
            rw [Row, hY] at hrow
            have hys : Y.size = 8 := by rw [← hY]; rfl
            have hone : Y.all (·.oneCell') = true := by rw [← hY]; exact all_oneCell_toArray (u32s_one _)
            have hsz : (Try.prog.info? 73).map (·.size) = some Y.size := by rw [info45, hys]
            have HYY := Lib.hid hY; have HRW := Lib.hid hrow; have HSZ := Lib.hid hsz; have HON := Lib.hid hone; have HR2 := Lib.hid hr2; have HYS := Lib.hid hys
            clear hY hrow hsz hone hr2 hys hfin
            go_wp2_with (first
              | refine wpList_load_row rfl 73 _ rfl b6 rfl 73 Y (0, 0) _ HRW.out Try.underlying73 rfl HSZ.out ?_
              | refine wpList_store_rowTo rfl 73 _ _ rfl rfl (w.heap.size + 1) Y rfl rfl 73 (zeroV 8) HR2.out HSZ.out (by rw [HYS.out]; rfl) HON.out ?_)
            refine bodyPost_ret_by (results_cell_row rfl _ _ (w.heap.size + 1) 73 Y (0, 0) _ rfl (setRow_heap _ _ _ _ _ _ HR2.out) Try.underlying73 rfl HSZ.out) rfl ⟨?_, ?_⟩
            · rw [← HYY.out, HYE.out]; rfl
            · refine below_setRow ?_ _ _ (by omega)
              have h1 : Below w.heap.size w w1 := by rw [← hw1]; go_grown
              exact h1.trans (HBQ.out.mono (by omega))
end Go.Proofs.Ytnhljemnebgekaa

/-
  The generic functions Clone, Grow and Concat of the package slices at bytes, called as Write calls them, return new rows of the same bytes.
-/
namespace Go.Proofs.Ytnhljemnebgekaa
open Go.RowKit Go.Proofs.YtnhljemnebgekaaW.PrintWords Go.Proofs.YtnhljemnebgekaaW.PrintLast Go.Proofs.YtnhljemnebgekaaW.PrintMore Sha
set_option linter.unusedSimpArgs false
/-- Bytes as numbers, and back. -/
def intsB (l : List UInt8) : List Int := l.map fun c => (c.toNat : Int)
def bytesI (l : List Int) : List UInt8 := l.map fun z => UInt8.ofNat z.toNat
theorem intsB_length (l : List UInt8) : (intsB l).length = l.length := by simp [intsB]
theorem intsB_append (a b : List UInt8) : intsB (a ++ b) = intsB a ++ intsB b := by simp [intsB]
theorem bytesI_intsB (l : List UInt8) : bytesI (intsB l) = l := by
  unfold bytesI intsB
  rw [List.map_map]
  conv => rhs; rw [← List.map_id l]
  exact List.map_congr_left fun c _ => by simp
/-- The bytes are read from a on. -/
def Rd (w : World) (a : Option Addr) (l : List UInt8) : Prop := Kd.C (Kd.int .u8) w a l.length (intsB l)
/-- The bytes lie in a row of the call's own. -/
def OwnB (w : World) (base : Nat) (v : Value) (l : List UInt8) : Prop := Kd.R (Kd.int .u8) 5 w base (fun _ => True) v (intsB l)
theorem Rd.below {w w1 : World} {a : Option Addr} {l : List UInt8} (h : Rd w a l) (hb : Below w.heap.size w w1) : Rd w1 a l := Kd.C_below h hb
theorem Rd.nil (w : World) : Rd w none [] := Kd.C_nil _ w
theorem OwnB.nil (w : World) (base : Nat) : OwnB w base (.slice none 0 0) [] := Kd.R_nil _ _ _ _ _
theorem OwnB.reads {w : World} {base : Nat} {v : Value} {l : List UInt8} (h : OwnB w base v l) : ∃ a c, v = .slice a l.length c ∧ l.length ≤ c ∧ Rd w a l := by
  obtain ⟨a, c, e, hl, hr⟩ := Kd.R_reads h
  rw [intsB_length] at e hl hr
  exact ⟨a, c, e, hl, hr⟩
theorem OwnB.below {w w1 : World} {base : Nat} {v : Value} {l : List UInt8} (h : OwnB w base v l) (hb : Below w.heap.size w w1) : OwnB w1 base v l := Kd.R_below h hb
theorem OwnB.lower {w : World} {base base' : Nat} {v : Value} {l : List UInt8} (h : OwnB w base v l) (hb : base' ≤ base) : OwnB w base' v l := Kd.R_lower h hb
theorem Rd.bytesAt {w : World} {a : Option Addr} {l : List UInt8} (h : Rd w a l) : BytesAt w a l := fun hp => by
  have hr := Kd.reads_of_C (enc := Value.int .u8) (d := (0 : Int)) (h1 := fun _ => rfl) h
  obtain ⟨ad, e, hc⟩ := hr.2.2 hp
  obtain ⟨b, off, spot⟩ := ad
  have h0 := hc 0 hp
  have hs : spot = none := by simpa [Addr.add] using World.cell?_spot h0
  subst hs
  refine ⟨b, off, e, ?_, fun i hi => ?_⟩
  · have := World.block_lt_of_cell? w _ h0
    simpa [Addr.add] using this
  · have := hc i hi
    rw [Addr.add_mid] at this
    rw [this]
    simp [intsB, List.getD_eq_getElem?_getD, List.getElem?_eq_getElem hi]
theorem infoB : (Try.prog.info? 5).map (fun i => (i.zero, i.size, i.bytes)) = some (some (.int .u8 0), 1, 1) := by kernel_rfl
/-- A row that is cut to nothing is still a row of its own. -/
theorem OwnB.cut {w : World} {base : Nat} {g n c : Nat} {l : List UInt8} (h : OwnB w base (.slice (some ⟨g, 0, none⟩) n c) l) : OwnB w base (.slice (some ⟨g, 0, none⟩) 0 c) [] := by
  have ho := Kd.own_of_R h
  refine Kd.R_of_own ?_ (fun _ _ => trivial)
  rcases ho.2 with ⟨e, _⟩ | ⟨g', cap, cur, e, hb, hh, hn, hm, hs, _⟩
  · cases e
  · cases e
    exact ⟨by simp [encs, intsB], .inr ⟨_, _, cur, rfl, hb, hh, Nat.zero_le _, hm, hs, by simp [encs, intsB]⟩⟩

set_option maxRecDepth 100000 in
theorem clone_any (ad : Addr) (c : Nat) (l : List UInt8) (w : World) (hl : l.length ≤ 64) (h : Rd w (some ad) l) :
    Calls Try.prog 52 #[.slice (some ad) l.length c] w fun e w' => ∃ v', e = .returned v' ∧ OwnB w' w.heap.size v' l ∧ Below w.heap.size w w' := by
  have q22 : ∀ (w : World) (a : Option Addr) (n c n' c' : Nat), (binOp .eql 22 (.slice a n c) (.slice none n' c')).run Try.prog w = .ok (.bool a.isNone) w := fun w a n c n' c' => Lib.run_eql_slice_nil w _ _ a n c n' c' Try.underlying22
  have H := Aside0.mk h
  clear h
  go_enter Try.func52, Try.ntmps52
  go_wp2_with (at_builtin; refine Kd.R_append_row (Value.int .u8) (0 : Int) (h1 := fun _ => rfl) (w0 := w) w.heap.size rfl _ _ 22 5 (.int .u8 0) 1 rfl Try.underlying22 infoB rfl (by decide) _ [] (intsB l) (some ad) l.length _ (fun _ => True) rfl rfl (fun _ _ => trivial) ?k1 ?k2 ?k3 ?k4 ?k5 ?_)
  case k1 => exact Kd.R_of_own (World.ownsRow_made w #[] 0 (Nat.le_refl _) (Nat.zero_le _) rfl) (fun _ _ => trivial)
  case k2 => exact Kd.C_alloc H.out _
  case k3 => exact below_alloc (Below.refl _ _) _
  case k4 => simp
  case k5 => simp; omega
  intro v1 w1 hR hB _ _
  go_wp2
  go_ret
  exact ⟨v1, rfl, hR, hB⟩

set_option maxRecDepth 100000 in
theorem grow_nil (w : World) : Calls Try.prog 58 #[.slice none 0 0, .int .i64 0] w fun e w' => ∃ v', e = .returned v' ∧ OwnB w' w.heap.size v' [] ∧ Below w.heap.size w w' := by
  go_enter Try.func58, Try.ntmps58
  go_wp2
  go_ret
  exact ⟨_, rfl, OwnB.nil _ _, Below.refl _ _⟩
set_option maxRecDepth 100000 in
theorem grow_any (n : Nat) (h0 : 0 < n) (hn : n ≤ 140737488351232) (w : World) : Calls Try.prog 58 #[.slice none 0 0, .int .i64 n] w fun e w' => ∃ v', e = .returned v' ∧ OwnB w' w.heap.size v' [] ∧ Below w.heap.size w w' := by
  go_enter Try.func58, Try.ntmps58
  go_wp2_with (at_builtin; refine Kd.R_append_zeros (Kd.int .u8) (w0 := w) w.heap.size rfl _ _ 22 3 5 (.int .u8 0) 1 rfl Try.underlying22 Try.underlying3 infoB rfl (by decide) (by decide) (.slice none 0 0) [] 0 (n : Int) (fun _ => True) rfl rfl ?k1 (fun _ _ => trivial) ?k2 ?k3 ?k4 ?k5 ?k6 ?_)
  case k1 => rfl
  case k2 => exact Kd.R_nil _ _ _ _ _
  case k3 => omega
  case k4 => exact Below.refl _ _
  case k5 => exact Nat.le_refl _
  case k6 => simp; omega
  intro v1 w1 hR hB _ _
  have hR2 : OwnB w1 w.heap.size v1 (List.replicate n 0) := by
    unfold OwnB intsB
    simpa using hR
  clear hR
  have ho := (Kd.own_of_R hR2).2
  rw [intsB_length, List.length_replicate] at ho
  rcases ho with ⟨_, e⟩ | ⟨g, cap, cur, rfl, _⟩
  · omega
  have H := Lib.hid hR2.cut
  clear hR2
  have HB := Lib.hid hB
  clear hB
  go_wp2
  go_ret
  exact ⟨_, rfl, H.out, HB.out⟩
set_option maxRecDepth 100000 in
set_option maxHeartbeats 1000000 in
theorem concat_any (g c : Nat) (a1 a2 : Option Addr) (c1 c2 : Nat) (l1 l2 : List UInt8) (w : World) (hl : l1.length + l2.length ≤ 140737488351232) (h1 : Rd w a1 l1) (h2 : Rd w a2 l2)
    (hg1 : w.cell? ⟨g, 0, none⟩ = some (.slice a1 l1.length c1)) (hg2 : w.cell? ⟨g, 1, none⟩ = some (.slice a2 l2.length c2)) (hlt : g < w.heap.size) :
    Calls Try.prog 51 #[.slice (some ⟨g, 0, none⟩) 2 c] w fun e w' => ∃ v', e = .returned v' ∧ OwnB w' w.heap.size v' (l1 ++ l2) ∧ Below w.heap.size w w' := by
  have H1 := Aside0.mk h1
  have H2 := Aside0.mk h2
  clear h1 h2
  obtain ⟨n1, hn1⟩ : ∃ n, l1.length = n := ⟨_, rfl⟩
  obtain ⟨n2, hn2⟩ : ∃ n, l2.length = n := ⟨_, rfl⟩
  rw [hn1] at hg1 hl
  rw [hn2] at hg2 hl
  have N1 := Lib.hid hn1
  have N2 := Lib.hid hn2
  clear hn1 hn2
  go_enter Try.func51, Try.ntmps51
  go_wp2_with fail
  go_loop [3, 11] (fun s i => ∃ k m : Nat, k ≤ 2 ∧ i = .int .i64 k ∧ s = .int .i64 m ∧ m = (if k = 0 then 0 else if k = 1 then n1 else n1 + n2)) (fun _ i => 2 - (intOf i).toNat)
  case atStart => exact ⟨0, 0, by omega, rfl, rfl, rfl⟩
  case round =>
    obtain ⟨k, m, hk, rfl, rfl, hm⟩ := hrel
    by_cases hk0 : k = 0
    · subst hk0
      have hm2 : m = 0 := hm
      clear hm
      subst hm2
      go_wp2_with fail
      go_round
      case rel => exact ⟨1, n1, by omega, by go_num, by go_num, by simp⟩
      case measure => simp [intOf]
    · by_cases hk1 : k = 1
      · subst hk1
        have hm2 : m = n1 := by simpa using hm
        clear hm
        subst hm2
        go_wp2_with fail
        go_round
        case rel => exact ⟨2, m + n2, by omega, by go_num, by go_num, by simp⟩
        case measure => simp [intOf]
      · obtain rfl : k = 2 := by omega
        have hm2 : m = n1 + n2 := by simpa using hm
        clear hm
        subst hm2
        have hgrow : Calls Try.prog 58 #[.slice none 0 0, .int .i64 ((n1 + n2 : Nat) : Int)] w fun e w' => ∃ v', e = .returned v' ∧ OwnB w' w.heap.size v' [] ∧ Below w.heap.size w w' := by
          by_cases hz : n1 + n2 = 0
          · rw [hz]; exact grow_nil w
          · exact grow_any (n1 + n2) (by omega) hl w
        have HGR := Lib.hid hgrow
        clear hgrow
        go_wp2_with fail
        refine HGR.out.mono ?_
        rintro e w1 ⟨v1, rfl, ho, hb⟩
        obtain ⟨a0, c0, rfl, _, _⟩ := ho.reads
        have HO := Lib.hid ho
        have HB := Lib.hid hb
        clear ho hb
        go_wp2_with fail
        go_loopw [6, 27] (fun v i wr => ∃ (k : Nat) (vv : Value), k ≤ 2 ∧ i = .int .i64 k ∧ v = vv ∧ OwnB wr w.heap.size vv (if k = 0 then [] else if k = 1 then l1 else l1 ++ l2) ∧ Below w.heap.size w wr) (fun _ i _ => 2 - (intOf i).toNat)
        case atStart => exact ⟨0, _, by omega, rfl, rfl, HO.out, HB.out⟩
        case round =>
          obtain ⟨k, v, hk, rfl, rfl, ho, hb⟩ := hrel
          have hc1 : wr.cell? ⟨g, 0, none⟩ = some (.slice a1 n1 c1) := (hb.cell (p := ⟨g, 0, none⟩) hlt).trans hg1
          have hc2 : wr.cell? ⟨g, 1, none⟩ = some (.slice a2 n2 c2) := (hb.cell (p := ⟨g, 1, none⟩) hlt).trans hg2
          by_cases hk0 : k = 0
          · subst hk0
            simp only [if_true] at ho
            have HO2 := Lib.hid ho
            have HB2 := Lib.hid hb
            clear ho hb
            go_wp2_with (at_builtin; refine Kd.R_append_row (Value.int .u8) (0 : Int) (h1 := fun _ => rfl) (w0 := w) w.heap.size rfl _ _ 22 5 (.int .u8 0) 1 rfl Try.underlying22 infoB rfl (by decide) _ [] (intsB l1) a1 n1 c1 (fun _ => True) rfl rfl (fun _ _ => trivial) ?k1 ?k2 ?k3 ?k4 ?k5 ?_)
            case k1 => exact HO2.out
            case k2 => rw [← N1.out]; exact Kd.C_below H1.out HB2.out
            case k3 => exact HB2.out
            case k4 => exact HB2.out.size
            case k5 => simp; omega
            intro v1 w2 hR hB2 _ _
            have HR := Lib.hid hR
            have HB3 := Lib.hid hB2
            clear hR hB2
            go_wp2_with fail
            go_roundw
            case rel => exact ⟨1, _, by omega, by go_num, rfl, HR.out, HB3.out⟩
            case measure => simp [intOf]
          · by_cases hk1 : k = 1
            · subst hk1
              simp only [if_true, if_false, Nat.one_ne_zero] at ho
              have HO2 := Lib.hid ho
              have HB2 := Lib.hid hb
              clear ho hb
              go_wp2_with (at_builtin; refine Kd.R_append_row (Value.int .u8) (0 : Int) (h1 := fun _ => rfl) (w0 := w) w.heap.size rfl _ _ 22 5 (.int .u8 0) 1 rfl Try.underlying22 infoB rfl (by decide) _ (intsB l1) (intsB l2) a2 n2 c2 (fun _ => True) rfl rfl (fun _ _ => trivial) ?k1 ?k2 ?k3 ?k4 ?k5 ?_)
              case k1 => exact HO2.out
              case k2 => rw [← N2.out]; exact Kd.C_below H2.out HB2.out
              case k3 => exact HB2.out
              case k4 => exact HB2.out.size
              case k5 => rw [intsB_length, N1.out]; omega
              intro v1 w2 hR hB2 _ _
              rw [← intsB_append] at hR
              have HR := Lib.hid hR
              have HB3 := Lib.hid hB2
              clear hR hB2
              go_wp2_with fail
              go_roundw
              case rel => exact ⟨2, _, by omega, by go_num, rfl, HR.out, HB3.out⟩
              case measure => simp [intOf]
            · obtain rfl : k = 2 := by omega
              simp only [if_false, show ¬ (2 = 0) by omega, show ¬ (2 = 1) by omega] at ho
              have HO2 := Lib.hid ho
              have HB2 := Lib.hid hb
              clear ho hb
              go_wp2_with fail
              go_ret
              exact ⟨_, rfl, HO2.out, HB2.out⟩
end Go.Proofs.Ytnhljemnebgekaa

/-
  The function Tail of the package digest, as the print tells it, tells the plain tail.
-/
namespace Go.Proofs.Ytnhljemnebgekaa
set_option linter.unusedVariables false
open Sha Go.RowKit Go.Proofs.YtnhljemnebgekaaW.PrintWords Go.Proofs.YtnhljemnebgekaaW.PrintLast Go.Proofs.YtnhljemnebgekaaW.PrintMore Go.Proofs.Ytnhljemnebgekaa.Pt
def vb (n i : Nat) : Int := ((UInt8.ofNat ((n * 8) >>> (8 * i))).toNat : Int)
def vals (n : Nat) : Nat → List Int
  | 0 => []
  | j + 1 => vb n j :: vals n j
theorem vals_length (n : Nat) : ∀ j, (vals n j).length = j
  | 0 => rfl
  | j + 1 => by rw [vals, List.length_cons, vals_length n j]
theorem vals_8 (n : Nat) : vals n 8 = intsB (bytes8 (n * 8)) := rfl
theorem shr_vb (n i : Nat) (hi : i < 8) : (shr .u64 (IntKind.u64.wrap ((n : Int) * 8)) ((8 * i : Nat) : Int)) % 256 = vb n i := by
  unfold shr vb
  rw [IntKind.wrap_u64, UInt8.toNat_ofNat', Nat.shiftRight_eq_div_pow, Int.toNat_natCast, show IntKind.bits .u64 = 64 from rfl, Nat.min_eq_left (by omega)]
  have : i = 0 ∨ i = 1 ∨ i = 2 ∨ i = 3 ∨ i = 4 ∨ i = 5 ∨ i = 6 ∨ i = 7 := by omega
  rcases this with rfl | rfl | rfl | rfl | rfl | rfl | rfl | rfl <;> simp only [Nat.reduceMul, Nat.reducePow, Int.reducePow] <;> omega
theorem wrap64_small {z : Int} (h0 : -9223372036854775808 ≤ z) (h : z ≤ 9223372036854775807) : wrap64 z = z := by unfold wrap64; omega
theorem set_at (A B : List Int) (d : Nat) (v : Int) : (A ++ List.replicate (d + 1) 0 ++ B).set (A.length + d) v = A ++ List.replicate d 0 ++ (v :: B) := by
  rw [List.append_assoc, List.set_append_right _ _ (Nat.le_add_right _ _), Nat.add_sub_cancel_left, List.replicate_succ', List.append_assoc, List.set_append_right _ _ (by simp)]
  simp
theorem tail_l0 (n : Nat) (hn : n < 18446744073709551616) (A : List Int) (hA : A.length ≤ 100) (hA1 : 1 ≤ A.length) : ∀ (d j k : Nat), j + d = 8 → d < k → digest_Tail.l0 k n (A ++ List.replicate d 0 ++ vals n j) j = some (A ++ vals n 8) := by
  intro d
  induction d with
  | zero =>
    intro j k hj hk
    obtain ⟨k, rfl⟩ : ∃ m, k = m + 1 := ⟨k - 1, by omega⟩
    obtain rfl : j = 8 := by omega
    simp only [digest_Tail.l0]
    rw [if_neg (by omega)]
    simp
  | succ d ih =>
    intro j k hj hk
    obtain ⟨k, rfl⟩ : ∃ m, k = m + 1 := ⟨k - 1, by omega⟩
    have hlen : (A ++ List.replicate (d + 1) 0 ++ vals n j).length = A.length + (d + 1) + j := by simp [vals_length]; omega
    have e1 : wrap64 (8 * (j : Int)) = ((8 * j : Nat) : Int) := by rw [wrap64_small (by omega) (by omega)]; omega
    have e2 : wrap64 ((wrap64 (((A ++ List.replicate (d + 1) 0 ++ vals n j).length : Int) - 1)) - j) = ((A.length + d : Nat) : Int) := by
      rw [hlen, wrap64_small (z := ((A.length + (d + 1) + j : Nat) : Int) - 1) (by omega) (by omega), wrap64_small (by omega) (by omega)]; omega
    have e3 : wrap64 ((j : Int) + 1) = ((j + 1 : Nat) : Int) := by rw [wrap64_small (by omega) (by omega)]; omega
    simp only [digest_Tail.l0]
    rw [e1, e2, e3, if_pos (by omega), if_pos (by omega), if_pos (by omega), if_pos (by rw [hlen]; omega), shr_vb n j (by omega), Int.toNat_natCast, set_at]
    exact ih (j + 1) k (by omega) (by omega)
theorem tail_f (n : Nat) (hn : n < 18446744073709551616) (k : Nat) (hk : 9 ≤ k) : digest_Tail.f k n = some (intsB (tail n)) := by
  have e0 : wrap64 (Int.tmod (n : Int) 64) = ((n % 64 : Nat) : Int) := by rw [Int.tmod_eq_emod_of_nonneg (by omega), wrap64_small (by omega) (by omega)]; omega
  have e1 : wrap64 (119 - ((n % 64 : Nat) : Int)) = ((119 - n % 64 : Nat) : Int) := by rw [wrap64_small (by omega) (by omega)]; omega
  have e2 : wrap64 (1 + Int.tmod ((119 - n % 64 : Nat) : Int) 64) = ((1 + room n : Nat) : Int) := by
    rw [Int.tmod_eq_emod_of_nonneg (by omega)]
    unfold room
    rw [wrap64_small (by omega) (by omega)]; omega
  have e3 : wrap64 (((1 + room n : Nat) : Int) + 8) = ((room n + 9 : Nat) : Int) := by
    have : room n < 64 := Nat.mod_lt _ (by decide)
    rw [wrap64_small (by omega) (by omega)]; omega
  have hr : room n < 64 := Nat.mod_lt _ (by decide)
  unfold digest_Tail.f
  rw [e0, e1, e2, e3, if_pos (by omega), Int.toNat_natCast, if_pos (by omega), Option.bind_some, if_pos (by simp; omega)]
  have hs : (List.replicate (room n + 9) (0 : Int)).set (0 : Int).toNat 128 = (128 :: List.replicate (room n) 0) ++ List.replicate 8 0 ++ vals n 0 := by
    rw [show room n + 9 = room n + 8 + 1 by omega, List.replicate_succ, ← List.replicate_append_replicate]; simp [vals]
  rw [hs]
  have h := tail_l0 n hn (128 :: List.replicate (room n) 0) (by simp; omega) (by simp) 8 0 k (by omega) (by omega)
  rw [show ((0 : Nat) : Int) = 0 from rfl] at h
  rw [h, vals_8]
  simp [tail, intsB, List.map_replicate]
theorem tail_any (n : Nat) (hn : n < 18446744073709551616) (w : World) : Calls Try.prog 54 #[.int .u64 n] w fun e w' => ∃ v, e = .returned v ∧ OwnB w' w.heap.size v (tail n) ∧ Below w.heap.size w w' :=
  digest_Tail.calls 9 n (intsB (tail n)) w (tail_f n hn 9 (Nat.le_refl _))
def Ext.digest_Tail.f (a0 : Int) : Option (List Int) := if 0 ≤ a0 ∧ a0 < 18446744073709551616 then some (intsB (tail a0.toNat)) else none
theorem Ext.digest_Tail.f_eq (n : Nat) (h : n < 18446744073709551616) : Ext.digest_Tail.f n = some (intsB (tail n)) := by
  unfold Ext.digest_Tail.f
  rw [if_pos ⟨by omega, by omega⟩, Int.toNat_natCast]
theorem Ext.digest_Tail.calls (a0 : Int) (r : List Int) (w : World) (h : Ext.digest_Tail.f a0 = some r) :
    Calls Try.prog 54 #[.int .u64 a0] w fun e w' => ∃ v0_ : Value, e = .returned (v0_) ∧ Kd.R (Kd.int .u8) 5 w' w.heap.size (fun _ => True) v0_ r ∧ Below w.heap.size w w' := by
  unfold Ext.digest_Tail.f at h
  split at h
  · rename_i hok
    cases h
    obtain ⟨n, rfl⟩ := Int.eq_ofNat_of_zero_le hok.1
    rw [Int.toNat_natCast]
    exact tail_any n (by omega) w
  · cases h
end Go.Proofs.Ytnhljemnebgekaa

/-
  The iterator Chunk of the package slices at bytes, over any row in memory, yields the row's pieces of 64 bytes, one after another, the last one shorter.
-/
namespace Go.Proofs.Ytnhljemnebgekaa
open Go.RowKit Go.Shelf Sha
attribute [local go_sem] Oper.semAt_some
set_option linter.unusedSimpArgs false

/-- A piece's number: it begins within the row. -/
abbrev Ck (L : Nat) := { k : Nat // 64 * k < L }
def ckLen (L k : Nat) : Nat := min 64 (L - 64 * k)
def encK (g L : Nat) (x : Ck L) : Array Value := #[.slice (some ⟨g, 64 * x.1, none⟩) (ckLen L x.1) (ckLen L x.1)]
/-- Two blocks lie as they lay. -/
def Keep2 (b1 b2 : Nat) (W W' : World) : Prop := W.heap.size ≤ W'.heap.size ∧ W'.heap[b1]? = W.heap[b1]? ∧ W'.heap[b2]? = W.heap[b2]?
theorem Keep2.refl (b1 b2 : Nat) (W : World) : Keep2 b1 b2 W W := ⟨Nat.le_refl _, rfl, rfl⟩
theorem Keep2.trans {b1 b2 : Nat} {A B C : World} (h : Keep2 b1 b2 A B) (k : Keep2 b1 b2 B C) : Keep2 b1 b2 A C := ⟨Nat.le_trans h.1 k.1, k.2.1.trans h.2.1, k.2.2.trans h.2.2⟩
theorem cell_of_heap {W W' : World} {b o : Nat} (h : W'.heap[b]? = W.heap[b]?) : W'.cell? ⟨b, o, none⟩ = W.cell? ⟨b, o, none⟩ := by
  unfold World.cell?; rw [show W'.heap[(⟨b, o, none⟩ : Addr).block]? = W.heap[(⟨b, o, none⟩ : Addr).block]? from h]
theorem Keep2.grown {b1 b2 : Nat} {W W' : World} {row : Option Nat} (h : W.grownBy W' row) (h1 : b1 < W.heap.size) (h2 : b2 < W.heap.size) (r1 : some b1 ≠ row) (r2 : some b2 ≠ row) : Keep2 b1 b2 W W' := ⟨h.size, h.block b1 h1 r1, h.block b2 h2 r2⟩
theorem Keep2.putObj {b1 b2 : Nat} {B : Nat} (h1 : b1 < B) (h2 : b2 < B) (W : World) (l : Nat) (o o' : Obj) (hl : B ≤ l) (_ : W.heap[l]? = some o) (_ : o.isCells = false) (_ : o.isWalk = false) : Keep2 b1 b2 W (W.putObj l o') :=
  ⟨by simp [World.putObj], World.putObj_heap_other (by omega), World.putObj_heap_other (by omega)⟩
def many (L : Nat) : Nat := (L + 63) / 64
def AllK (L : Nat) (ys : List (Ck L)) : Prop := ys.map (·.1) = List.range (many L)
def FrontK (L : Nat) (pre : List (Ck L)) : Prop := pre.map (·.1) = List.range pre.length

set_option maxRecDepth 100000 in
set_option maxHeartbeats 1000000 in
theorem chunk1_in (n : Nat) (hn : 1 ≤ n) (l Bs Bn g : Nat) (L c : Nat) (a : Option Addr) (ha : 0 < L → a = some ⟨g, 0, none⟩) (hL : L ≤ 140737488351232) (hLc : L ≤ c) (hc9 : c ≤ 9223372036854775807) (J Jx : List (Ck L) → World → Prop)
    (hY : ∀ pre x W, J pre W → pre.length < L + 1 → YieldAt Fence.wide (n - 1) Try.prog l (encK g L x) W fun e W' =>
      (e = .returned (.bool true) ∧ J (pre ++ [x]) W' ∧ Keep2 Bs Bn W W') ∨ (e = .returned (.bool false) ∧ Jx (pre ++ [x]) W'))
    (hJ : ∀ p W, J p W → J p W.drew)
    (W : World) (hBs : W.cell? ⟨Bs, 0, none⟩ = some (.slice a L c)) (hBn : W.cell? ⟨Bn, 0, none⟩ = some (.int .i64 64)) (h0 : J [] W) :
    CallsIn Fence.wide n Try.prog 40 #[.func (.yield l) #[] #[], .pointer (some ⟨Bs, 0, none⟩), .pointer (some ⟨Bn, 0, none⟩)] W fun e W' => (∃ v, e = .returned v) ∧
      ((∃ ys, AllK L ys ∧ J ys W') ∨ (∃ pre, FrontK L pre ∧ Jx pre W')) := by
  refine callsIn_of_wp Try.func40 rfl trivial ?_ rfl
  simp only [Try.ntmps40, List.size_toArray, List.length_cons, List.length_nil, Nat.reduceAdd, Nat.reduceSub, Array.replicate_succ, Array.replicate_zero, List.push_toArray, List.append_toArray, List.nil_append, List.cons_append]
  gi_wp2_with fail
  gi_loopw [4] (fun p wr => ∃ (pre : List (Ck L)), FrontK L pre ∧ 64 * pre.length < L + 64 ∧ p = .int .i64 (64 * pre.length : Nat) ∧ J pre wr ∧ wr.cell? ⟨Bs, 0, none⟩ = some (.slice a L c) ∧ wr.cell? ⟨Bn, 0, none⟩ = some (.int .i64 64))
    (fun p wr => L + 64 - (intOf p).toNat)
  case atStart => exact ⟨[], rfl, by simp, rfl, h0, hBs, hBn⟩
  case round =>
    obtain ⟨pre, hF, hlt, rfl, hJp, hcs, hcn⟩ := hrel
    obtain ⟨k, hk⟩ : ∃ k, pre.length = k := ⟨_, rfl⟩
    rw [hk] at hlt ⊢
    have HF := Lib.hid hF; have HJ := Lib.hid hJp; have HK := Lib.hid hk; have HY := Lib.hid hY; have HJD := Lib.hid hJ
    clear hF hJp hk h0 hY hJ hBs hBn
    obtain ⟨i, hi⟩ : ∃ i, 64 * k = i := ⟨_, rfl⟩
    rw [hi] at hlt ⊢
    have HI := Lib.hid hi
    clear hi
    by_cases hend : i < L
    · obtain rfl := ha (by omega)
      obtain ⟨m, hmk⟩ : ∃ m, ckLen L k = m := ⟨_, rfl⟩
      have hmm : min (64 : Int) ((L - i : Nat) : Int) = (m : Int) := by
        have := HI.out
        rw [← hmk]; unfold ckLen; omega
      have hm1 : 1 ≤ m := by have := HI.out; rw [← hmk]; unfold ckLen; omega
      have hm64 : m ≤ 64 := by rw [← hmk]; unfold ckLen; omega
      have hmL : i + m ≤ L := by have := HI.out; rw [← hmk]; unfold ckLen; omega
      have HMM := Lib.hid hmm; have HMK := Lib.hid hmk
      clear hmm hmk
      gi_wp2_with fail
      gi_region
      rw [HMM.out]
      have hcs2 : wr.drew.cell? ⟨Bs, 0, none⟩ = some (.slice (some ⟨g, 0, none⟩) L c) := hcs
      have hcn2 : wr.drew.cell? ⟨Bn, 0, none⟩ = some (.int .i64 64) := hcn
      obtain ⟨fn, tmps, assign, body, hy, hR⟩ := HY.out pre ⟨k, by have := HI.out; omega⟩ wr.drew (HJD.out _ _ HJ.out) (by have := HI.out; have := HK.out; omega)
      simp only [encK, HI.out, HMK.out] at hy
      have HRR := Lib.hid hR; clear hR
      gi_wp2_with fail
      refine HRR.out.mono ?_
      rintro e W3 (⟨rfl, hJ3, hk3⟩ | ⟨rfl, hJx3⟩)
      · have hcs3 := (cell_of_heap (o := 0) hk3.2.1).trans hcs2
        have hcn3 := (cell_of_heap (o := 0) hk3.2.2).trans hcn2
        have HJ3 := Lib.hid hJ3; clear hJ3 hk3 hcs hcn hcs2 hcn2
        gi_wp2_with fail
        go_roundw
        case rel =>
          have hki := HI.out
          have hkk := HK.out
          refine ⟨pre ++ [⟨k, by omega⟩], ?_, ?_, ?_, HJ3.out, hcs3, hcn3⟩
          · unfold FrontK
            rw [List.map_append, HF.out, List.length_append, hkk]
            simp [List.range_succ]
          · simp; omega
          · have e : ∀ y : Ck L, (pre ++ [y]).length = k + 1 := fun y => by rw [List.length_append, hkk]; rfl
            rw [e]
            exact congrArg (Value.int .i64) (by omega)
        case measure => simp [intOf]; omega
      · have HJ3 := Lib.hid hJx3; clear hJx3
        gi_wp2_with fail
        refine bodyPost_ret (results_none rfl _ _ _) rfl ?_
        refine ⟨⟨_, rfl⟩, .inr ⟨pre ++ [⟨k, by have := HI.out; omega⟩], ?_, HJ3.out⟩⟩
        unfold FrontK
        rw [List.map_append, HF.out, List.length_append, HK.out]
        simp [List.range_succ]
    · gi_wp2_with fail
      go_end0
      refine ⟨⟨_, rfl⟩, .inl ⟨pre, ?_, HJ.out⟩⟩
      unfold AllK
      rw [HF.out, HK.out]
      have hm : many L = k := by
        unfold many
        have := HI.out
        omega
      rw [hm]
end Go.Proofs.Ytnhljemnebgekaa

/-
  The method Write of a Hasher, called on a Hasher in memory and any row of bytes, takes each whole block and keeps the rest.
-/
namespace Go.Proofs.Ytnhljemnebgekaa
open Go.RowKit Go.Shelf Sha Go.Proofs.YtnhljemnebgekaaW.PrintWords
attribute [local go_sem] Oper.semAt_some
set_option linter.unusedSimpArgs false

/-- A Hasher's ten cells. -/
def hashV (x : St) (left : Value) (n : Nat) : Array Value := (u32s x.list ++ [left, .int .u64 (n : Int)]).toArray
def HashAt (W : World) (p : Nat) (x : St) (left : Value) (n : Nat) : Prop := W.heap[p]? = some (.cells (hashV x left n) 75 (0, 0))
theorem HashAt.cell {W : World} {p : Nat} {x : St} {left : Value} {n : Nat} (h : HashAt W p x left n) {j : Nat} {v : Value} (hv : (hashV x left n)[j]? = some v) : W.cell? ⟨p, j, none⟩ = some v := by
  rw [cell_of_row W p j _ 75 (0, 0) h]; exact hv
theorem HashAt.frozen {W : World} {p : Nat} {x : St} {left : Value} {n : Nat} (h : HashAt W p x left n) (j : Nat) : W.frozen? ⟨p, j, none⟩ = false := frozen_of_row W p j _ 75 h
theorem HashAt.lt {W : World} {p : Nat} {x : St} {left : Value} {n : Nat} (h : HashAt W p x left n) : p < W.heap.size := (Array.getElem?_eq_some_iff.1 h).1
theorem HashAt.of_heap {W W' : World} {p : Nat} {x : St} {left : Value} {n : Nat} (h : HashAt W p x left n) (e : W'.heap[p]? = W.heap[p]?) : HashAt W' p x left n := e.trans h
theorem HashAt.below {W W' : World} {p : Nat} {x : St} {left : Value} {n : Nat} (h : HashAt W p x left n) (hb : Below W.heap.size W W') : HashAt W' p x left n := h.of_heap (hb.block p h.lt)
theorem heap_setCell (W : World) (p j : Nat) (v : Value) (cs : Array Value) (T : TypeId) (h : W.heap[p]? = some (.cells cs T (0, 0))) : (W.setCell ⟨p, j, none⟩ v).heap[p]? = some (.cells (cs.setIfInBounds j v) T (0, 0)) := by
  rw [setCell_eq_setRow W p j _ T (0, 0) _ h, setRow_heap _ _ _ _ _ _ h]
theorem HashAt.setN {W : World} {p : Nat} {x : St} {left : Value} {n m : Nat} (h : HashAt W p x left n) : HashAt (W.setCell ⟨p, 9, none⟩ (.int .u64 (m : Int))) p x left m := by
  unfold HashAt; rw [heap_setCell _ _ _ _ _ _ h]; rfl
theorem HashAt.setLeft {W : World} {p : Nat} {x : St} {left v : Value} {n : Nat} (h : HashAt W p x left n) : HashAt (W.setCell ⟨p, 8, none⟩ v) p x v n := by
  unfold HashAt; rw [heap_setCell _ _ _ _ _ _ h]; rfl
theorem grownBy_set (W : World) (p j : Nat) (v : Value) : W.grownBy (W.setCell ⟨p, j, none⟩ v) (some p) :=
  ⟨rfl, rfl, rfl, by simp [World.setCell], fun k _ hk => World.setCell_heap_ne j v (by rintro rfl; exact hk rfl)⟩
theorem grownBy_below {W W' : World} {row : Option Nat} (h : Below W.heap.size W W') : W.grownBy W' row := ⟨h.os, h.tape, h.output, h.size, fun k hk _ => h.block k hk⟩
theorem grownBy_trans {A B C : World} {row : Option Nat} (h : A.grownBy B row) (k : B.grownBy C row) : A.grownBy C row :=
  ⟨k.os.trans h.os, k.tape.trans h.tape, k.output.trans h.output, Nat.le_trans h.size k.size, fun i hi hr => (k.block i (Nat.lt_of_lt_of_le hi h.size) hr).trans (h.block i hi hr)⟩
theorem Rd.cells {w : World} {a : Option Addr} {l : List UInt8} (h : Rd w a l) (hp : 0 < l.length) : ∃ b off, a = some ⟨b, off, none⟩ ∧ b < w.heap.size ∧ ∀ i (h : i < l.length), w.cell? ⟨b, off + i, none⟩ = some (.int .u8 (l[i].toNat : Int)) := h.bytesAt hp
theorem Rd.of_cells {w w1 : World} {a : Option Addr} {l : List UInt8} (h : Rd w a l) (hk : ∀ ad v, w.cell? ad = some v → (∃ b, a = some b ∧ ad.block = b.block) → w1.cell? ad = some v) : Rd w1 a l := by
  have hr := Kd.reads_of_C (enc := Value.int .u8) (d := (0 : Int)) (h1 := fun _ => rfl) h
  refine Kd.C_of_reads (d := (0 : Int)) ⟨hr.1, hr.2.1, fun hp => ?_⟩
  obtain ⟨ad, e, hc⟩ := hr.2.2 hp
  refine ⟨ad, e, fun j hj => hk _ _ (hc j hj) ⟨ad, e, ?_⟩⟩
  unfold Addr.add; split <;> rfl
theorem Rd.grown {w w1 : World} {a : Option Addr} {l : List UInt8} {row : Option Nat} (h : Rd w a l) (hg : w.grownBy w1 row) (hne : ∀ b, a = some b → 0 < l.length → some b.block ≠ row) : Rd w1 a l := by
  by_cases hp : 0 < l.length
  · exact h.of_cells fun ad v hv hb => by
      obtain ⟨b, e, hb⟩ := hb
      rw [World.cell?_of_block (hg.block ad.block (World.block_lt_of_cell? w ad hv) (by rw [hb]; exact hne b e hp))]; exact hv
  · exact ⟨h.1, h.2.1, fun h2 => absurd h2 hp⟩

set_option maxRecDepth 100000 in
theorem chunk_any (a : Option Addr) (n c : Nat) (w : World) : Calls Try.prog 27 #[.slice a n c, .int .i64 64] w fun e w' => e = .returned (.func (.func 40) #[] #[.pointer (some ⟨w.heap.size, 0, none⟩), .pointer (some ⟨w.heap.size + 1, 0, none⟩)]) ∧ (w.alloc (.cells #[.slice a n c] 22)).alloc (.cells #[.int .i64 64] 3) = w' := by
  have hmf : ∀ (fn : Fn) (first cap : Array Value) (w : World), (Instr.makeFunc fn first cap).run Try.prog w = .ok (.func fn first cap) w := fun _ _ _ _ => rfl
  go_enter Try.func27, Try.ntmps27
  go_wp2_with fail
  go_ret
  exact ⟨rfl, rfl⟩
/-- A row's form: none, or at the begin of a block of the call's own. -/
theorem OwnB.form {w : World} {base : Nat} {a : Option Addr} {n c : Nat} {l : List UInt8} (h : OwnB w base (.slice a n c) l) : c ≤ 9223372036854775807 ∧ (0 < l.length → ∃ g, a = some ⟨g, 0, none⟩) ∧ (∀ b, a = some b → base ≤ b.block ∧ b.block < w.heap.size) := by
  have ho := (Kd.own_of_R h).2
  rcases ho with ⟨e, e2⟩ | ⟨g, cap, cur, e, hb, hh, hn, hm, _⟩
  · cases e
    refine ⟨by omega, fun hp => ?_, fun b e => by cases e⟩
    rw [intsB_length] at e2; omega
  · cases e
    refine ⟨by simpa [maxLen] using hm, fun _ => ⟨g, rfl⟩, fun b e => ?_⟩
    cases e
    exact ⟨hb, (Array.getElem?_eq_some_iff.1 hh).1⟩
theorem kept_cells {W W' : World} {row : Option Nat} (hg : W.grownBy W' row) (hr : ∀ r, row = some r → ∃ o : Obj, W.heap[r]? = some o ∧ o.isCells = false) {b : Nat} {cs : Array Value} {T : TypeId} {m : Nat × Nat} (h : W.heap[b]? = some (.cells cs T m)) : W'.heap[b]? = W.heap[b]? := by
  refine hg.block b (Array.getElem?_eq_some_iff.1 h).1 (fun e => ?_)
  obtain ⟨o, ho, hc⟩ := hr b e.symm
  rw [h] at ho; cases ho
  simp [Obj.isCells] at hc
theorem OwnB.kept {W W' : World} {row : Option Nat} {base : Nat} {v : Value} {l : List UInt8} (h : OwnB W base v l) (hg : W.grownBy W' row) (hne : ∀ k, v.ownBlock = some k → some k ≠ row) : OwnB W' base v l :=
  Kd.R_of_own ((Kd.own_of_R h).kept hg (by
    cases hv : v.ownBlock with
    | none => exact .inl rfl
    | some k => exact .inr (hne k hv))) (fun _ _ => trivial)
theorem OwnB.walk {W W' : World} {row : Option Nat} {base : Nat} {v : Value} {l : List UInt8} (h : OwnB W base v l) (hg : W.grownBy W' row) (hr : ∀ r, row = some r → ∃ o : Obj, W.heap[r]? = some o ∧ o.isCells = false) : OwnB W' base v l :=
  h.kept hg fun k hk e => by
    obtain ⟨cells, hc⟩ := own_typed (Kd.own_of_R h) k hk
    obtain ⟨o, ho, hi⟩ := hr k e.symm
    rw [hc] at ho; cases ho
    simp [Obj.isCells] at hi
theorem Rd.walk {W W' : World} {row : Option Nat} {a : Option Addr} {l : List UInt8} (h : Rd W a l) (hg : W.grownBy W' row) (hr : ∀ r, row = some r → ∃ o : Obj, W.heap[r]? = some o ∧ o.isCells = false) : Rd W' a l :=
  h.of_cells fun _ _ hv _ => cell_kept hv hg hr
theorem grownBy_walk {w W W' : World} {row keep : Option Nat} (h : w.grownBy W keep) (hg : W.grownBy W' row) (hr : ∀ r, row = some r → w.heap.size ≤ r) : w.grownBy W' keep :=
  ⟨hg.os.trans h.os, hg.tape.trans h.tape, hg.output.trans h.output, Nat.le_trans h.size hg.size, fun k hk hne => (hg.block k (Nat.lt_of_lt_of_le hk h.size) (fun e => by have := hr k e.symm; omega)).trans (h.block k hk hne)⟩
/-- The state behind some pieces. -/
def stOf (x : St) (d : List UInt8) (pre : List (Ck d.length)) : St := pre.foldl (fun s y => take s ((d.drop (64 * y.1)).take 64)) x
theorem stOf_snoc (x : St) (d : List UInt8) (pre : List (Ck d.length)) (y : Ck d.length) : stOf x d (pre ++ [y]) = take (stOf x d pre) ((d.drop (64 * y.1)).take 64) := by simp [stOf]
theorem stOf_run (x : St) (d : List UInt8) (pre : List (Ck d.length)) (n : Nat) (h : pre.map (·.1) = List.range n) : stOf x d pre = run x d n := by
  have e : stOf x d pre = (pre.map (·.1)).foldl (fun s k => take s ((d.drop (64 * k)).take 64)) x := by unfold stOf; rw [List.foldl_map]
  rw [e, h]
  clear e h
  induction n with
  | zero => rfl
  | succ n ih => rw [List.range_succ, List.foldl_append, ih]; rfl
def FullK {L : Nat} (pre : List (Ck L)) : Prop := ∀ y ∈ pre, ckLen L y.1 = 64

/-- The state's eight cells, written one after another. -/
def set8 (W : World) (p : Nat) (tA tB tC tD tE tF tG tH : Sha.W) : World :=
  (((((((W.setCell ⟨p, 0, none⟩ (.int .u32 (tA.toNat : Int))).setCell ⟨p, 1, none⟩ (.int .u32 (tB.toNat : Int))).setCell ⟨p, 2, none⟩ (.int .u32 (tC.toNat : Int))).setCell ⟨p, 3, none⟩ (.int .u32 (tD.toNat : Int))).setCell ⟨p, 4, none⟩ (.int .u32 (tE.toNat : Int))).setCell ⟨p, 5, none⟩ (.int .u32 (tF.toNat : Int))).setCell ⟨p, 6, none⟩ (.int .u32 (tG.toNat : Int))).setCell ⟨p, 7, none⟩ (.int .u32 (tH.toNat : Int))
theorem HashAt.put8 {W : World} {p : Nat} {x : St} {left : Value} {n : Nat} (h : HashAt W p x left n) (tA tB tC tD tE tF tG tH : Sha.W) : HashAt (set8 W p tA tB tC tD tE tF tG tH) p ⟨tA, tB, tC, tD, tE, tF, tG, tH⟩ left n := by
  unfold HashAt set8
  have h0 := heap_setCell W p 0 (.int .u32 (tA.toNat : Int)) _ _ h
  have h1 := heap_setCell _ p 1 (.int .u32 (tB.toNat : Int)) _ _ h0
  have h2 := heap_setCell _ p 2 (.int .u32 (tC.toNat : Int)) _ _ h1
  have h3 := heap_setCell _ p 3 (.int .u32 (tD.toNat : Int)) _ _ h2
  have h4 := heap_setCell _ p 4 (.int .u32 (tE.toNat : Int)) _ _ h3
  have h5 := heap_setCell _ p 5 (.int .u32 (tF.toNat : Int)) _ _ h4
  have h6 := heap_setCell _ p 6 (.int .u32 (tG.toNat : Int)) _ _ h5
  have h7 := heap_setCell _ p 7 (.int .u32 (tH.toNat : Int)) _ _ h6
  rw [h7]
  simp [hashV, u32s, St.list]
theorem grownBy_set8 (W : World) (p : Nat) (tA tB tC tD tE tF tG tH : Sha.W) : W.grownBy (set8 W p tA tB tC tD tE tF tG tH) (some p) := by
  unfold set8
  exact grownBy_trans (grownBy_trans (grownBy_trans (grownBy_trans (grownBy_trans (grownBy_trans (grownBy_trans (grownBy_set _ _ _ _) (grownBy_set _ _ _ _)) (grownBy_set _ _ _ _)) (grownBy_set _ _ _ _)) (grownBy_set _ _ _ _)) (grownBy_set _ _ _ _)) (grownBy_set _ _ _ _)) (grownBy_set _ _ _ _)
theorem drew_grown (W : World) (row : Option Nat) : W.grownBy W.drew row := ⟨rfl, rfl, rfl, Nat.le_refl _, fun _ _ _ => rfl⟩
theorem chunk_stops (n : Nat) (hn : 1 ≤ n) (Bs Bn g L c : Nat) (a : Option Addr) (ha : 0 < L → a = some ⟨g, 0, none⟩) (hL : L ≤ 140737488351232) (hLc : L ≤ c) (hc9 : c ≤ 9223372036854775807) (w : World)
    (hs : w.heap[Bs]? = some (.cells #[.slice a L c] 22 (0, 0))) (hn2 : w.heap[Bn]? = some (.cells #[.int .i64 64] 3 (0, 0))) :
    SeqStopsK Fence.wide n Try.prog 40 #[.pointer (some ⟨Bs, 0, none⟩), .pointer (some ⟨Bn, 0, none⟩)] (encK g L) (Keep2 Bs Bn) (AllK L) (FrontK L) (L + 1) w := fun l J Jx W hW hJ _ hY h0 =>
  chunk1_in n hn l Bs Bn g L c a ha hL hLc hc9 J Jx hY (fun p W1 h => hJ p W1 W1.drew none h (drew_grown _ _) (fun r e => by cases e)) W
    (by rw [cell_of_row W _ 0 _ 22 (0, 0) ((hW.block _ (Array.getElem?_eq_some_iff.1 hs).1).trans hs)]; rfl) (by rw [cell_of_row W _ 0 _ 3 (0, 0) ((hW.block _ (Array.getElem?_eq_some_iff.1 hn2).1).trans hn2)]; rfl) h0
theorem Rd.cut {w : World} {g : Nat} {l : List UInt8} (h : Rd w (some ⟨g, 0, none⟩) l) (i m : Nat) (hm : i + m ≤ l.length) : Rd w (some ⟨g, i, none⟩) ((l.drop i).take m) := by
  have hr := Kd.reads_of_C (enc := Value.int .u8) (d := (0 : Int)) (h1 := fun _ => rfl) h
  have hl : ((l.drop i).take m).length = m := by simp; omega
  unfold Rd
  rw [hl]
  refine Kd.C_of_reads (d := (0 : Int)) ⟨by rw [intsB_length, hl], by have := hr.2.1; omega, fun hp => ⟨_, rfl, fun j hj => ?_⟩⟩
  obtain ⟨ad, e, hc⟩ := hr.2.2 (by omega)
  cases e
  have := hc (i + j) (by omega)
  rw [Addr.add_mid] at this ⊢
  rw [Nat.zero_add] at this
  rw [this]
  have h1 : (intsB l).getD (i + j) 0 = (intsB ((l.drop i).take m)).getD j 0 := by
    simp only [intsB, List.getD_eq_getElem?_getD, List.getElem?_map, List.getElem?_take, List.getElem?_drop, if_pos hj]
  rw [h1]
/-- What the loop of Write keeps. -/
def WInv (w : World) (z p : Nat) (x : St) (d : List UInt8) (a3 : Option Addr) (M : Nat) (pre : List (Ck d.length)) (W : World) : Prop :=
  HashAt W p (stOf x d pre) (.slice none 0 0) M ∧ FullK pre ∧ W.heap[w.heap.size]? = some (.cells #[.pointer (some ⟨p, 0, none⟩)] 58 (0, 0)) ∧ w.grownBy W (some p) ∧ Rd W a3 d ∧ z ≤ W.heap.size
/-- What stands where it has left by the jump behind a shorter piece. -/
def WOut (w : World) (p : Nat) (x : St) (d : List UInt8) (M : Nat) (c : Code) (pre : List (Ck d.length)) (W : World) : Prop :=
  c = .exit 0 ∧ ∃ (pre0 : List (Ck d.length)) (y : Ck d.length) (v : Value), pre = pre0 ++ [y] ∧ FullK pre0 ∧ ckLen d.length y.1 < 64 ∧ HashAt W p (stOf x d pre0) v M ∧ OwnB W w.heap.size v ((d.drop (64 * y.1)).take 64) ∧ w.grownBy W (some p)
theorem WInv.own {w : World} {z p : Nat} {x : St} {d : List UInt8} {a3 : Option Addr} {M B : Nat} (hB : w.heap.size ≤ B) : OwnFrom B (WInv w z p x d a3 M) := fun _ A _ _ hs hg hr => by
  obtain ⟨h1, h2, h3, h4, h5, h6⟩ := hs
  have hr2 := fun r e => (hr r e).2
  exact ⟨h1.of_heap (kept_cells hg hr2 h1), h2, (kept_cells hg hr2 h3).trans h3, grownBy_walk h4 hg (fun r e => Nat.le_trans hB (hr r e).1), h5.walk hg hr2, Nat.le_trans h6 hg.size⟩
theorem WOut.own {w : World} {p : Nat} {x : St} {d : List UInt8} {M B : Nat} (hB : w.heap.size ≤ B) (c : Code) : OwnFrom B (WOut w p x d M c) := fun _ A _ _ hs hg hr => by
  obtain ⟨h1, pre0, y, v, h2, h3, h4, h5, h6, h7⟩ := hs
  have hr2 := fun r e => (hr r e).2
  exact ⟨h1, pre0, y, v, h2, h3, h4, h5.of_heap (kept_cells hg hr2 h5), h6.walk hg hr2, grownBy_walk h7 hg (fun r e => Nat.le_trans hB (hr r e).1)⟩
/-- What became of the loop, in plain words. -/
theorem done_plain (x : St) (d : List UInt8) (pre : List (Ck d.length)) (hA : AllK d.length pre) (hF : FullK pre) : stOf x d pre = run x d (d.length / 64) ∧ d.drop (64 * (d.length / 64)) = [] := by
  have hm : many d.length = d.length / 64 := by
    by_cases h0 : many d.length = 0
    · unfold many at h0 ⊢; omega
    · have hk : many d.length - 1 ∈ pre.map (·.1) := by rw [hA]; exact List.mem_range.2 (by omega)
      obtain ⟨y, hy, he⟩ := List.mem_map.1 hk
      have h64 := hF y hy
      have hy2 := y.2
      unfold ckLen at h64
      rw [he] at h64 hy2
      unfold many at h64 hy2 h0 ⊢
      omega
  refine ⟨?_, ?_⟩
  · rw [stOf_run x d pre _ hA, hm]
  · apply List.drop_eq_nil_of_le
    unfold many at hm; omega
theorem out_plain (x : St) (d : List UInt8) (pre0 : List (Ck d.length)) (y : Ck d.length) (hA : FrontK d.length (pre0 ++ [y])) (hy : ckLen d.length y.1 < 64) : stOf x d pre0 = run x d (d.length / 64) ∧ d.drop (64 * (d.length / 64)) = (d.drop (64 * y.1)).take 64 := by
  have h1 : pre0.map (·.1) = List.range pre0.length ∧ y.1 = pre0.length := by
    unfold FrontK at hA
    rw [List.map_append, List.length_append] at hA
    simp only [List.map_cons, List.map_nil, List.length_cons, List.length_nil, Nat.zero_add, List.range_succ] at hA
    have := List.append_inj hA (by simp)
    exact ⟨this.1, by simpa using this.2⟩
  have hy2 := y.2
  unfold ckLen at hy
  have hq : d.length / 64 = y.1 := by omega
  refine ⟨?_, ?_⟩
  · rw [stOf_run x d pre0 _ h1.1, hq, h1.2]
  · rw [hq, List.take_of_length_le]
    simp; omega

set_option maxRecDepth 100000 in
set_option maxHeartbeats 2000000 in
theorem write_in (p : Nat) (x : St) (al : Option Addr) (cl : Nat) (left b : List UInt8) (N : Nat) (ab : Option Addr) (cb : Nat) (w : World)
    (hp : HashAt w p x (.slice al left.length cl) N) (hl : Rd w al left) (hb : Rd w ab b) (hal : ∀ a, al = some a → a.block ≠ p) (hab : ∀ a, ab = some a → 0 < b.length → a.block ≠ p) (hlen : left.length + b.length ≤ 1099511627776) (hN : N + b.length < 18446744073709551616) :
    CallsIn Fence.wide 3 Try.prog 37 #[.pointer (some ⟨p, 0, none⟩), .slice ab b.length cb] w fun e w' => e = .returned (.int .i64 b.length) ∧
      ∃ v, HashAt w' p (run x (left ++ b) ((left ++ b).length / 64)) v (N + b.length) ∧ OwnB w' w.heap.size v ((left ++ b).drop (64 * ((left ++ b).length / 64))) ∧ w.grownBy w' (some p) := by
  obtain ⟨n, hn⟩ : ∃ n, b.length = n := ⟨_, rfl⟩
  obtain ⟨nl, hnl⟩ : ∃ n, left.length = n := ⟨_, rfl⟩
  rw [hn] at hlen hN ⊢
  rw [hnl] at hp hlen
  have c9 : w.cell? ⟨p, 9, none⟩ = some (.int .u64 (N : Int)) := hp.cell rfl
  have c8 : w.cell? ⟨p, 8, none⟩ = some (.slice al nl cl) := hp.cell rfl
  have f9 : w.frozen? ⟨p, 9, none⟩ = false := hp.frozen 9
  have f8 : w.frozen? ⟨p, 8, none⟩ = false := hp.frozen 8
  have hpl := hp.lt
  have hw1 : IntKind.u64.wrap (n : Int) = (n : Int) := by rw [IntKind.wrap_u64]; omega
  have hw2 : IntKind.u64.wrap ((N : Int) + (n : Int)) = ((N + n : Nat) : Int) := by rw [IntKind.wrap_u64]; omega
  have HP := Lib.hid hp; have HL := Lib.hid hl; have HBB := Lib.hid hb; have HN := Lib.hid hn; have HNL := Lib.hid hnl
  clear hp hl hb hn hnl
  refine callsIn_of_wp_marks Try.func37 rfl trivial ?_ rfl
  simp only [Try.ntmps37, List.size_toArray, List.length_cons, List.length_nil, Nat.reduceAdd, Nat.reduceSub, Array.replicate_succ, Array.replicate_zero, List.push_toArray, List.append_toArray, List.nil_append, List.cons_append]
  obtain ⟨W1, hW1⟩ : ∃ W1, w.setCell ⟨p, 9, none⟩ (.int .u64 ((N : Int) + (n : Int))) = W1 := ⟨_, rfl⟩
  have hh1 : HashAt W1 p x (.slice al nl cl) (N + n) := by
    rw [← hW1, ← Int.natCast_add]; exact HP.out.setN
  have hg1 : w.grownBy W1 (some p) := by rw [← hW1]; exact grownBy_set w p 9 _
  have hs1 : W1.heap.size = w.heap.size := by rw [← hW1]; simp [World.setCell]
  have HH1 := Lib.hid hh1; have HG1 := Lib.hid hg1; have HW1 := Lib.hid hW1; have HS1 := Lib.hid hs1
  clear hh1 hg1 hW1 hs1
  gi_wp2_with fail
  rw [HW1.out]
  obtain ⟨W2, hW2⟩ : ∃ W2, (W1.alloc (.cells #[.pointer (some ⟨p, 0, none⟩)] 58)).alloc (.cells #[.slice al nl cl, .slice ab n cb] 22) = W2 := ⟨_, rfl⟩
  rw [hW2]
  have hb2 : Below W1.heap.size W1 W2 := by rw [← hW2]; exact ((Below.refl _ _).alloc (Nat.le_refl _) _).alloc (by simp) _
  have hs2 : W2.heap.size = w.heap.size + 2 := by rw [← hW2, ← HS1.out]; simp
  have hx0 : W2.heap[w.heap.size]? = some (.cells #[.pointer (some ⟨p, 0, none⟩)] 58 (0, 0)) := by
    rw [← hW2, ← HS1.out, heap_alloc_old _ _ (by simp), heap_alloc_new]
  have hx1 : W2.heap[w.heap.size + 1]? = some (.cells #[.slice al nl cl, .slice ab n cb] 22 (0, 0)) := by
    rw [← hW2, ← HS1.out]
    have := heap_alloc_new (W1.alloc (.cells #[.pointer (some ⟨p, 0, none⟩)] 58)) (.cells #[.slice al nl cl, .slice ab n cb] 22)
    simpa using this
  have hrl : Rd W2 al left := (HL.out.grown HG1.out (fun a e _ => by simpa using hal a e)).below hb2
  have hrb : Rd W2 ab b := (HBB.out.grown HG1.out (fun a e hp => by simpa using hab a e hp)).below hb2
  have hcat := concat_any (w.heap.size + 1) 2 al ab cl cb left b W2 (by rw [HN.out, HNL.out]; omega) hrl hrb
    (by rw [HNL.out, cell_of_row W2 _ 0 _ 22 (0, 0) hx1]; rfl) (by rw [HN.out, cell_of_row W2 _ 1 _ 22 (0, 0) hx1]; rfl) (by omega)
  have hh2 : HashAt W2 p x (.slice al nl cl) (N + n) := HH1.out.below hb2
  have HH2 := Lib.hid hh2; have HX0 := Lib.hid hx0; have HS2 := Lib.hid hs2; have HB2 := Lib.hid hb2
  clear hx0 hx1 hrl hrb hh2 hs2 hb2 hW2 c8 c9 f8 f9 hw1 hw2
  refine ⟨trivial, (callsIn_wide.2 hcat).mono ?_⟩
  clear hcat
  rintro e W3 ⟨v3, rfl, ho, hb3⟩
  obtain ⟨d, hd⟩ : ∃ d, left ++ b = d := ⟨_, rfl⟩
  rw [hd] at ho
  obtain ⟨a3, k3, rfl, hk3, hr3⟩ := ho.reads
  have hh3 : HashAt W3 p x (.slice al nl cl) (N + n) := HH2.out.below hb3
  have hx3 : W3.heap[w.heap.size]? = some (.cells #[.pointer (some ⟨p, 0, none⟩)] 58 (0, 0)) := (hb3.block _ (by have := HS2.out; omega)).trans HX0.out
  have c8 : W3.cell? ⟨p, 8, none⟩ = some (.slice al nl cl) := hh3.cell rfl
  have f8 : W3.frozen? ⟨p, 8, none⟩ = false := hh3.frozen 8
  have cb3 : W3.cell? ⟨w.heap.size, 0, none⟩ = some (.pointer (some ⟨p, 0, none⟩)) := by rw [cell_of_row W3 _ 0 _ 58 (0, 0) hx3]; rfl
  have HH3 := Lib.hid hh3; have HX3 := Lib.hid hx3; have HB3 := Lib.hid hb3; have HO := Lib.hid ho; have HD := Lib.hid hd; have HR3 := Lib.hid hr3
  clear hh3 hx3 hb3 ho hd hr3
  gi_wp2_with fail
  obtain ⟨W4, hW4⟩ : ∃ W4, W3.setCell ⟨p, 8, none⟩ (.slice none 0 0) = W4 := ⟨_, rfl⟩
  rw [hW4]
  have hh4 : HashAt W4 p x (.slice none 0 0) (N + n) := by rw [← hW4]; exact HH3.out.setLeft
  have hg4 : W3.grownBy W4 (some p) := by rw [← hW4]; exact grownBy_set W3 p 8 _
  have hs4 : W4.heap.size = W3.heap.size := by rw [← hW4]; simp [World.setCell]
  have HH4 := Lib.hid hh4; have HG4 := Lib.hid hg4; have HS4 := Lib.hid hs4
  clear hh4 hg4 hs4 hW4 c8 f8 cb3
  refine ⟨trivial, (callsIn_wide.2 (chunk_any _ _ _ _)).mono ?_⟩
  rintro e w5 ⟨rfl, rfl⟩
  gi_wp2_with fail
  obtain ⟨hk9, hform, hbase⟩ := HO.out.form
  obtain ⟨g, hga⟩ : ∃ g, 0 < d.length → a3 = some ⟨g, 0, none⟩ := by
    by_cases h : 0 < d.length
    · obtain ⟨g, hg⟩ := hform h
      exact ⟨g, fun _ => hg⟩
    · exact ⟨0, fun h2 => absurd h2 h⟩
  have hdl : d.length ≤ 1099511627776 := by rw [← HD.out, List.length_append, HN.out, HNL.out]; exact hlen
  have hz : w.heap.size + 2 ≤ W4.heap.size := by have := HB3.out.size; have := HS2.out; have := HS4.out; omega
  obtain ⟨W5, hW5⟩ : ∃ W5, (W4.alloc (.cells #[.slice a3 d.length k3] 22)).alloc (.cells #[.int .i64 64] 3) = W5 := ⟨_, rfl⟩
  have hb5 : Below W4.heap.size W4 W5 := by rw [← hW5]; exact ((Below.refl _ _).alloc (Nat.le_refl _) _).alloc (by simp) _
  have hs5 : W5.heap.size = W4.heap.size + 2 := by rw [← hW5]; simp
  have hq0 : W5.heap[W4.heap.size]? = some (.cells #[.slice a3 d.length k3] 22 (0, 0)) := by
    rw [← hW5, heap_alloc_old _ _ (by simp), heap_alloc_new]
  have hq1 : W5.heap[W4.heap.size + 1]? = some (.cells #[.int .i64 64] 3 (0, 0)) := by
    rw [← hW5]
    have := heap_alloc_new (W4.alloc (.cells #[.slice a3 d.length k3] 22)) (.cells #[.int .i64 64] 3)
    simpa using this
  have hgr : w.grownBy W5 (some p) := grownBy_trans (grownBy_trans (grownBy_trans (grownBy_trans HG1.out (grownBy_below HB2.out)) (grownBy_below HB3.out)) HG4.out) (grownBy_below hb5)
  have hh5 : HashAt W5 p x (.slice none 0 0) (N + n) := HH4.out.below hb5
  have hpw := hpl
  have hbx : W5.heap[w.heap.size]? = some (.cells #[.pointer (some ⟨p, 0, none⟩)] 58 (0, 0)) := ((hb5.block _ (by omega)).trans (HG4.out.block _ (by have := HS4.out; omega) (by simp; omega))).trans HX3.out
  have hrd : Rd W5 a3 d := (HR3.out.grown HG4.out (fun b e _ => by have := (hbase b e).1; have := HS2.out; simp; omega)).below hb5
  rw [hW5]
  refine wpIn_rangeFunc_ownG rfl (by omega) (gf := 40) (lb := #[.pointer (some ⟨W4.heap.size, 0, none⟩), .pointer (some ⟨W4.heap.size + 1, 0, none⟩)]) rfl trivial (enters_of Try.func40 (by kernel_rfl) rfl)
    (chunk_stops 2 (by omega) W4.heap.size (W4.heap.size + 1) g d.length k3 a3 hga (by omega) hk3 hk9 W5 hq0 hq1) Keep2.trans (Keep2.putObj (B := W5.heap.size) (by omega) (by omega)) (Below.refl _ _) (fun _ => rfl)
    (WInv w W5.heap.size p x d a3 (N + n)) (WOut w p x d (N + n)) (WInv.own (by omega)) (WOut.own (by omega))
    ⟨hh5, (fun y hy => by cases hy), hbx, hgr, hrd, Nat.le_refl _⟩
    (fun (y : Ck d.length) => { tmps := #[.pointer (some ⟨p, 0, none⟩), .slice ab n cb, .pointer (some ⟨w.heap.size, 0, none⟩), undef, .int .i64 0, .slice a3 d.length k3, .slice (some ⟨g, 64 * y.1, none⟩) (ckLen d.length y.1) (ckLen d.length y.1), .pointer (some ⟨p, 0, none⟩), .bool false,
          .pointer (some ⟨p, 0, none⟩), .pointer (some ⟨p, 0, none⟩), .pointer (some ⟨p, 9, none⟩), .int .u64 N, .slice ab n cb, .int .i64 n, .int .u64 n, .int .u64 (N + n),
          .pointer (some ⟨p, 0, none⟩), .pointer (some ⟨p, 9, none⟩), .pointer (some ⟨p, 0, none⟩), .pointer (some ⟨p, 0, none⟩), .pointer (some ⟨p, 8, none⟩), .slice al nl cl, .slice ab n cb,
          .slice (some ⟨w.heap.size + 1, 0, none⟩) 2 2, .slice a3 d.length k3, .pointer (some ⟨p, 0, none⟩), .pointer (some ⟨p, 0, none⟩), .pointer (some ⟨p, 8, none⟩), .slice a3 d.length k3,
          .func (.func 40) #[] #[.pointer (some ⟨W4.heap.size, 0, none⟩), .pointer (some ⟨W4.heap.size + 1, 0, none⟩)], .slice (some ⟨g, 64 * y.1, none⟩) (ckLen d.length y.1) (ckLen d.length y.1),
          undef, undef, undef, undef, undef, undef, undef, undef, undef, undef, undef, undef, undef, undef, undef, undef, undef, undef, undef], defers := [] }) ?assign ?body ?done ?stop
  case assign =>
    intro l y W K hK
    simp only [encK]
    gi_wp2
    exact hK
  case body =>
    rintro l pre y W hinv hlt
    obtain ⟨h1, h2, h3, h4, h5, h6⟩ := hinv
    obtain ⟨m, hm⟩ : ∃ m, ckLen d.length y.1 = m := ⟨_, rfl⟩
    obtain ⟨k, hky⟩ : ∃ k, 64 * y.1 = k := ⟨_, rfl⟩
    have hy2 := y.2
    have hmk : m = min 64 (d.length - k) := by rw [← hm, ← hky]; rfl
    rw [hky] at hy2
    have hm1 : 1 ≤ m := by omega
    have hm64 : m ≤ 64 := by omega
    have hkm : k + m ≤ d.length := by omega
    obtain rfl := hga (by omega)
    obtain ⟨ch, hch⟩ : ∃ ch, (d.drop k).take 64 = ch := ⟨_, rfl⟩
    have hchl : ch.length = m := by rw [← hch, List.length_take, List.length_drop]; omega
    have hrc : Rd W (some ⟨g, k, none⟩) ch := by
      have e : (d.drop k).take m = ch := by
        rw [← hch]
        by_cases hf : m = 64
        · rw [hf]
        · rw [List.take_of_length_le (by rw [List.length_drop]; omega), List.take_of_length_le (by rw [List.length_drop]; omega)]
      rw [← e]; exact h5.cut k m hkm
    have cb3 : W.cell? ⟨w.heap.size, 0, none⟩ = some (.pointer (some ⟨p, 0, none⟩)) := by rw [cell_of_row W _ 0 _ 58 (0, 0) h3]; rfl
    have H1 := Lib.hid h1; have H2 := Lib.hid h2; have H3 := Lib.hid h3; have H4 := Lib.hid h4; have H5 := Lib.hid h5; have HM := Lib.hid hm; have HK := Lib.hid hky; have HCH := Lib.hid hch; have HCL := Lib.hid hchl; have HRC := Lib.hid hrc
    rw [hky, hm]
    have hbw : w.heap.size < W.heap.size := (Array.getElem?_eq_some_iff.1 h3).1
    clear h1 h2 h3 h4 h5 hm hky hch hchl hrc hmk
    by_cases hf : m < 64
    · have hfi : (m : Int) < 64 := by omega
      have hcl : ∀ Wq, Wq = W.drew → CallsIn Fence.wide 0 Try.prog 52 #[.slice (some ⟨g, k, none⟩) m m] Wq fun e w' => ∃ av cv, e = .returned (.slice av m cv) ∧ OwnB w' w.heap.size (.slice av m cv) ch ∧ Below W.heap.size W w' := by
        rintro _ rfl
        have := clone_any ⟨g, k, none⟩ m ch W.drew (by rw [HCL.out]; exact hm64) (HRC.out.below (Below.refl _ _).drew)
        rw [HCL.out] at this
        refine (callsIn_wide.2 this).mono ?_
        rintro e w' ⟨v, rfl, h2, h3⟩
        obtain ⟨av, cv, rfl, _, _⟩ := h2.reads
        rw [HCL.out] at h2 ⊢
        exact ⟨av, cv, rfl, h2.lower (by exact Nat.le_of_lt hbw), ((Below.refl _ W).drew).trans h3⟩
      have HCC := Lib.hid hcl
      clear hcl
      gi_wp2_with fail
      have hmx : Try.prog.follows .mixedOrders = true := by kernel_rfl
      gi_region_with_o (refine ⟨trivial, ?_⟩; gi_at_call 52; refine (CallsIn.inRound l (HCC.out _ rfl)).mono ?_; rintro e w6 ⟨av, cv, rfl, ho, hb6⟩; have hh6 := H1.out.below hb6; have c86 := hh6.cell (j := 8) rfl; have f86 := hh6.frozen 8; have cb6 := (hb6.cell (p := ⟨w.heap.size, 0, none⟩) hbw).trans cb3; have HH6 := Lib.hid hh6; have HO6 := Lib.hid ho; have HB6 := Lib.hid hb6; clear hh6 ho hb6)
      all_goals gi_wp2
      all_goals
        have hset := HH6.out.setLeft (v := .slice av m cv)
        have hg6 : W.grownBy (w6.setCell ⟨p, 8, none⟩ (.slice av m cv)) (some p) := grownBy_trans (grownBy_below HB6.out) (grownBy_set _ _ _ _)
        have ho6 : OwnB (w6.setCell ⟨p, 8, none⟩ (.slice av m cv)) w.heap.size (.slice av m cv) ch := HO6.out.kept (grownBy_set _ _ _ _) (fun q hq e => by
          have := own_base (Kd.own_of_R HO6.out) q hq
          cases e; omega)
        exact ⟨KeepsFrom.of_grownBy hg6 (fun j e => by cases e; omega), rfl, pre, y, _, rfl, H2.out, by rw [HM.out]; exact hf, hset, by rw [HK.out, HCH.out]; exact ho6, grownBy_trans H4.out hg6⟩
    · obtain rfl : m = 64 := by omega
      obtain ⟨st, hst⟩ : ∃ st, stOf x d pre = st := ⟨_, rfl⟩
      rw [hst] at H1
      obtain ⟨sA, sB, sC, sD, sE, sF, sG, sH⟩ := st
      have HST := Lib.hid hst
      clear hst
      have c0 : W.cell? ⟨p, 0, none⟩ = some (.int .u32 (sA.toNat : Int)) := H1.out.cell rfl
      have c1 : W.cell? ⟨p, 1, none⟩ = some (.int .u32 (sB.toNat : Int)) := H1.out.cell rfl
      have c2 : W.cell? ⟨p, 2, none⟩ = some (.int .u32 (sC.toNat : Int)) := H1.out.cell rfl
      have c3 : W.cell? ⟨p, 3, none⟩ = some (.int .u32 (sD.toNat : Int)) := H1.out.cell rfl
      have c4 : W.cell? ⟨p, 4, none⟩ = some (.int .u32 (sE.toNat : Int)) := H1.out.cell rfl
      have c5 : W.cell? ⟨p, 5, none⟩ = some (.int .u32 (sF.toNat : Int)) := H1.out.cell rfl
      have c6 : W.cell? ⟨p, 6, none⟩ = some (.int .u32 (sG.toNat : Int)) := H1.out.cell rfl
      have c7 : W.cell? ⟨p, 7, none⟩ = some (.int .u32 (sH.toNat : Int)) := H1.out.cell rfl
      have htk : ∀ Wq, Wq = W.drew → CallsIn Fence.wide 0 Try.prog 53 #[.agg #[.int .u32 (sA.toNat : Int), .int .u32 (sB.toNat : Int), .int .u32 (sC.toNat : Int), .int .u32 (sD.toNat : Int), .int .u32 (sE.toNat : Int), .int .u32 (sF.toNat : Int), .int .u32 (sG.toNat : Int), .int .u32 (sH.toNat : Int)], .slice (some ⟨g, k, none⟩) 64 64] Wq
          fun e w' => ∃ tA tB tC tD tE tF tG tH : Sha.W, e = .returned (.agg #[.int .u32 (tA.toNat : Int), .int .u32 (tB.toNat : Int), .int .u32 (tC.toNat : Int), .int .u32 (tD.toNat : Int), .int .u32 (tE.toNat : Int), .int .u32 (tF.toNat : Int), .int .u32 (tG.toNat : Int), .int .u32 (tH.toNat : Int)]) ∧ take ⟨sA, sB, sC, sD, sE, sF, sG, sH⟩ ch = ⟨tA, tB, tC, tD, tE, tF, tG, tH⟩ ∧ Below W.heap.size W w' := by
        rintro _ rfl
        have := take_any ⟨sA, sB, sC, sD, sE, sF, sG, sH⟩ (some ⟨g, k, none⟩) 64 64 ch W.drew (by rw [HCL.out]; exact Nat.le_refl _) (HRC.out.below (Below.refl _ _).drew).bytesAt HCL.out (Nat.le_refl _) (by unfold maxLen; omega)
        refine (callsIn_wide.2 this).mono ?_
        rintro e w' ⟨rfl, h3⟩
        obtain ⟨t, ht⟩ : ∃ t, take ⟨sA, sB, sC, sD, sE, sF, sG, sH⟩ ch = t := ⟨_, rfl⟩
        rw [ht]
        obtain ⟨tA, tB, tC, tD, tE, tF, tG, tH⟩ := t
        exact ⟨tA, tB, tC, tD, tE, tF, tG, tH, rfl, rfl, ((Below.refl _ W).drew).trans h3⟩
      have HTK := Lib.hid htk
      clear htk
      have hmx : Try.prog.follows .mixedOrders = true := by kernel_rfl
      gi_wp2_with fail
      gi_region_with_o (refine ⟨trivial, ?_⟩; gi_at_call 53; refine (CallsIn.inRound l (HTK.out _ rfl)).mono ?_; rintro e w6 ⟨tA, tB, tC, tD, tE, tF, tG, tH, rfl, ht, hb6⟩; have hh6 := H1.out.below hb6; have d0 := hh6.cell (j := 0) rfl; have d1 := hh6.cell (j := 1) rfl; have d2 := hh6.cell (j := 2) rfl; have d3 := hh6.cell (j := 3) rfl; have d4 := hh6.cell (j := 4) rfl; have d5 := hh6.cell (j := 5) rfl; have d6 := hh6.cell (j := 6) rfl; have d7 := hh6.cell (j := 7) rfl; have e0 := hh6.frozen 0; have e1 := hh6.frozen 1; have e2 := hh6.frozen 2; have e3 := hh6.frozen 3; have e4 := hh6.frozen 4; have e5 := hh6.frozen 5; have e6 := hh6.frozen 6; have e7 := hh6.frozen 7; have cb6 := (hb6.cell (p := ⟨w.heap.size, 0, none⟩) hbw).trans cb3; have HH6 := Lib.hid hh6; have HT6 := Lib.hid ht; have HB6 := Lib.hid hb6; clear hh6 ht hb6)
      all_goals gi_wp2
      all_goals
        have hset := HH6.out.put8 tA tB tC tD tE tF tG tH
        have hg6 : W.grownBy (set8 w6 p tA tB tC tD tE tF tG tH) (some p) := grownBy_trans (grownBy_below HB6.out) (grownBy_set8 _ _ _ _ _ _ _ _ _ _)
        have hst2 : stOf x d (pre ++ [y]) = ⟨tA, tB, tC, tD, tE, tF, tG, tH⟩ := by rw [stOf_snoc, HST.out, HK.out, HCH.out, HT6.out]
        have hfull : FullK (pre ++ [y]) := fun q hq => by
          rcases List.mem_append.1 hq with hq | hq
          · exact H2.out q hq
          · rw [List.mem_singleton.1 hq]; exact HM.out
        have hpz : p < W4.heap.size := by omega
        refine ⟨KeepsFrom.of_grownBy hg6 (fun j e => by cases e; omega), Keep2.grown hg6 (by omega) (by omega) (by simp; omega) (by simp; omega), by rw [hst2]; exact hset, hfull, (hg6.block _ (by omega) (by simp; omega)).trans H3.out, grownBy_trans H4.out hg6, H5.out.grown hg6 (fun b e _ => by have := (hbase b e).1; have := HS2.out; simp; omega), ?_⟩
        have hsz6 := hg6.size
        first | exact Nat.le_trans h6 hsz6 | (rw [hs5] at h6; exact Nat.le_trans h6 hsz6)
  case done =>
    rintro D ys W hD hS hinv hK
    obtain ⟨h1, h2, h3, h4, h5, h6⟩ := (WInv.own (B := W5.heap.size) (by omega)).putObj (.deferred none) hinv hD hK rfl
    obtain ⟨e1, e2⟩ := done_plain x d ys hS h2
    have E1 := Lib.hid e1; have E2 := Lib.hid e2; have H1 := Lib.hid h1; have H4 := Lib.hid h4; have HI := Lib.hid hinv
    clear e1 e2 h1 h2 h3 h4 h5 h6 hinv hS
    gi_wp2
    refine ⟨by simp, .inl ⟨_, _, rfl, run_takeDeferred hK, ?_⟩⟩
    refine ⟨_, results_tmp rfl _ _ _, rfl, .slice none 0 0, ?_, ?_, H4.out⟩
    · rw [HD.out, ← E1.out]; exact H1.out
    · rw [HD.out, E2.out]; exact OwnB.nil _ _
  case stop =>
    rintro D c pre W hD hS hout hK
    obtain ⟨rfl, pre0, y, v, rfl, h3, h4, h5, h6, h7⟩ := (WOut.own (w := w) (p := p) (x := x) (d := d) (M := N + n) (B := W5.heap.size) (by omega) c).putObj (.deferred none) hout hD hK rfl
    obtain ⟨e1, e2⟩ := out_plain x d pre0 y hS h4
    have E1 := Lib.hid e1; have E2 := Lib.hid e2; have H5 := Lib.hid h5; have H6 := Lib.hid h6; have H7 := Lib.hid h7
    clear e1 e2 h3 h4 h5 h6 h7 hout hS
    gi_wp2
    refine ⟨by simp, .inl ⟨_, _, rfl, run_takeDeferred hK, ?_⟩⟩
    refine ⟨_, results_tmp rfl _ _ _, rfl, v, ?_, ?_, H7.out⟩
    · rw [HD.out, ← E1.out]; exact H5.out
    · rw [HD.out, E2.out]; exact H6.out
end Go.Proofs.Ytnhljemnebgekaa

/-
  New, Write, Sum and Long of a Hasher and the function Sum of the package digest, in one form: a Hasher that bytes were written to holds these bytes' state.
-/
namespace Go.Proofs.Ytnhljemnebgekaa
open Go.RowKit Go.Shelf Sha Go.Proofs.YtnhljemnebgekaaW.PrintWords Go.Proofs.YtnhljemnebgekaaW.PrintLast Go.Proofs.YtnhljemnebgekaaW.PrintMore
set_option linter.unusedSimpArgs false

/-- The bytes d were written to the Hasher in block p. -/
def Holds (W : World) (p : Nat) (d : List UInt8) : Prop :=
  ∃ (al : Option Addr) (cl : Nat), HashAt W p (run init d (d.length / 64)) (.slice al (d.drop (64 * (d.length / 64))).length cl) d.length ∧ Rd W al (d.drop (64 * (d.length / 64))) ∧ ∀ a, al = some a → a.block ≠ p ∧ a.block < W.heap.size
theorem run_append (x : St) (d e : List UInt8) (q : Nat) (hq : 64 * q ≤ d.length) : run x (d ++ e) ((d ++ e).length / 64) = run (run x d q) (d.drop (64 * q) ++ e) ((d.drop (64 * q) ++ e).length / 64) := by
  have h1 : (d ++ e).length / 64 = q + (d.drop (64 * q) ++ e).length / 64 := by simp only [List.length_append, List.length_drop]; omega
  rw [h1, run_more, run_front x d e q hq, List.drop_append_of_le_length hq]
theorem drop_append (d e : List UInt8) (q : Nat) (hq : 64 * q ≤ d.length) : (d ++ e).drop (64 * ((d ++ e).length / 64)) = (d.drop (64 * q) ++ e).drop (64 * ((d.drop (64 * q) ++ e).length / 64)) := by
  have h1 : 64 * ((d ++ e).length / 64) = 64 * q + 64 * ((d.drop (64 * q) ++ e).length / 64) := by simp only [List.length_append, List.length_drop]; omega
  rw [h1, ← List.drop_drop, List.drop_append_of_le_length hq]
theorem Holds.lt {W : World} {p : Nat} {d : List UInt8} (h : Holds W p d) : p < W.heap.size := by
  obtain ⟨_, _, h, _⟩ := h; exact h.lt
/-- Written behind. -/
theorem write_any (p : Nat) (d b : List UInt8) (ab : Option Addr) (cb : Nat) (w : World) (h : Holds w p d) (hb : Rd w ab b) (hab : ∀ a, ab = some a → 0 < b.length → a.block ≠ p) (hlen : d.length + b.length ≤ 1099511627776) :
    Calls Try.prog 37 #[.pointer (some ⟨p, 0, none⟩), .slice ab b.length cb] w fun e w' => e = .returned (.int .i64 b.length) ∧ Holds w' p (d ++ b) ∧ w.grownBy w' (some p) := by
  obtain ⟨al, cl, hp, hl, hal⟩ := h
  refine callsIn_wide.1 ((write_in p _ al cl _ b d.length ab cb w hp hl hb (fun a e => (hal a e).1) hab (by rw [List.length_drop]; omega) (by omega)).mono ?_)
  rintro e w' ⟨rfl, v, h1, h2, h3⟩
  have hq : 64 * (d.length / 64) ≤ d.length := by omega
  rw [← run_append init d b _ hq] at h1
  rw [← drop_append d b _ hq] at h2
  rw [← List.length_append] at h1
  obtain ⟨a2, c2, rfl, hc2, hr2⟩ := h2.reads
  refine ⟨rfl, ⟨a2, c2, h1, hr2, fun a e => ?_⟩, h3⟩
  have := h2.form.2.2 a e
  have hpl := hp.lt
  exact ⟨by omega, this.2⟩

def initV : Array Value := hashV init (.slice none 0 0) 0
set_option maxRecDepth 100000 in
theorem new_any (w : World) : Calls Try.prog 36 #[] w fun e w' => ∃ p, e = .returned (.pointer (some ⟨p, 0, none⟩)) ∧ Holds w' p [] ∧ w.heap.size ≤ p ∧ Below w.heap.size w w' := by
  go_enter Try.func36, Try.ntmps36
  go_wp2
  go_ret
  refine ⟨w.heap.size, rfl, ⟨none, 0, ?_, Rd.nil _, fun a e => by cases e⟩, Nat.le_refl _, by go_grown⟩
  exact heap_alloc_new _ _
set_option maxRecDepth 100000 in
theorem write_nil (v : Value) (a : Option Addr) (n c : Nat) (hv : v = .slice a n c) (w : World) : Calls Try.prog 37 #[.pointer none, v] w fun e w' => e = .returned (.int .i64 0) ∧ Below w.heap.size w w' := by
  subst hv
  go_enter Try.func37, Try.ntmps37
  go_wp2_with fail
  go_ret
  exact ⟨rfl, by go_grown⟩

/-- A word's four bytes, as the walk tells them. -/
theorem bytes4_int (x : Sha.W) : intsB (bytes4 x) = [IntKind.u8.wrap ((x.toNat : Int) / 16777216), IntKind.u8.wrap ((x.toNat : Int) / 65536), IntKind.u8.wrap ((x.toNat : Int) / 256), IntKind.u8.wrap (x.toNat : Int)] := by
  simp only [bytes4, intsB, List.map_cons, List.map_nil, IntKind.wrap_u8, UInt8.toNat_ofNat']
  simp
theorem bytes4_int' (x : Sha.W) : intsB (bytes4 x) = [(x.toNat : Int) / 16777216, (x.toNat : Int) / 65536 % 256, (x.toNat : Int) / 256 % 256, (x.toNat : Int) % 256] := by
  rw [bytes4_int]
  have := x.isLt
  simp only [IntKind.wrap_u8]
  congr 1
  omega
/-- A new block of four bytes is read. -/
theorem four_read (w : World) (y0 y1 y2 y3 : Int) (T : TypeId) : (Kd.int .u8).C (w.alloc (.cells #[.int .u8 y0, .int .u8 y1, .int .u8 y2, .int .u8 y3] T)) (some ⟨w.heap.size, 0, none⟩) 4 [y0, y1, y2, y3] := by
  refine Kd.C_of_reads (d := (0 : Int)) ⟨rfl, by omega, fun _ => ⟨_, rfl, fun j hj => ?_⟩⟩
  rw [Addr.add_mid, Nat.zero_add, cell_of_row _ _ j _ T (0, 0) (heap_alloc_new w _)]
  have : j = 0 ∨ j = 1 ∨ j = 2 ∨ j = 3 := by omega
  rcases this with rfl | rfl | rfl | rfl <;> rfl
def outTo (x : St) (k : Nat) : List UInt8 := (x.list.take k).flatMap bytes4
theorem outTo_succ (x : St) (k : Nat) (h : k < 8) : outTo x (k + 1) = outTo x k ++ bytes4 (x.list.getD k 0) := by
  have hl : k < x.list.length := h
  unfold outTo
  rw [List.take_succ_eq_append_getElem hl, List.flatMap_append, List.getD_eq_getElem?_getD, List.getElem?_eq_getElem hl]
  simp
theorem outTo_length (x : St) : ∀ k, k ≤ 8 → (outTo x k).length = 4 * k
  | 0, _ => rfl
  | k + 1, h => by rw [outTo_succ x k (by omega), List.length_append, outTo_length x k (by omega)]; rfl

set_option maxRecDepth 100000 in
set_option maxHeartbeats 1000000 in
theorem hsum_any (p : Nat) (d : List UInt8) (w : World) (h : Holds w p d) (hlen : d.length ≤ 1099511000000) :
    Calls Try.prog 39 #[.pointer (some ⟨p, 0, none⟩)] w fun e w' => ∃ v, e = .returned v ∧ OwnB w' w.heap.size v (Sha.sum d) ∧ Below w.heap.size w w' := by
  obtain ⟨al, cl, hp, hl, hal⟩ := h
  obtain ⟨st, hst⟩ : ∃ st, run init d (d.length / 64) = st := ⟨_, rfl⟩
  rw [hst] at hp
  obtain ⟨sA, sB, sC, sD, sE, sF, sG, sH⟩ := st
  obtain ⟨n, hn⟩ : ∃ n, d.length = n := ⟨_, rfl⟩
  obtain ⟨nl, hnl⟩ : ∃ nl, (d.drop (64 * (d.length / 64))).length = nl := ⟨_, rfl⟩
  rw [hnl] at hp
  rw [hn] at hp hlen
  have c0 : w.cell? ⟨p, 0, none⟩ = some (.int .u32 (sA.toNat : Int)) := hp.cell rfl
  have c1 : w.cell? ⟨p, 1, none⟩ = some (.int .u32 (sB.toNat : Int)) := hp.cell rfl
  have c2 : w.cell? ⟨p, 2, none⟩ = some (.int .u32 (sC.toNat : Int)) := hp.cell rfl
  have c3 : w.cell? ⟨p, 3, none⟩ = some (.int .u32 (sD.toNat : Int)) := hp.cell rfl
  have c4 : w.cell? ⟨p, 4, none⟩ = some (.int .u32 (sE.toNat : Int)) := hp.cell rfl
  have c5 : w.cell? ⟨p, 5, none⟩ = some (.int .u32 (sF.toNat : Int)) := hp.cell rfl
  have c6 : w.cell? ⟨p, 6, none⟩ = some (.int .u32 (sG.toNat : Int)) := hp.cell rfl
  have c7 : w.cell? ⟨p, 7, none⟩ = some (.int .u32 (sH.toNat : Int)) := hp.cell rfl
  have c8 : w.cell? ⟨p, 8, none⟩ = some (.slice al nl cl) := hp.cell rfl
  have c9 : w.cell? ⟨p, 9, none⟩ = some (.int .u64 (n : Int)) := hp.cell rfl
  have hpl := hp.lt
  have HP := Lib.hid hp; have HST := Lib.hid hst; have HN := Lib.hid hn; have HNL := Lib.hid hnl; have HL := Lib.hid hl; have HAL := Lib.hid hal
  clear hp hst hn hnl hl hal
  go_enter Try.func39, Try.ntmps39
  go_wp2_with fail
  obtain ⟨W1, hW1⟩ : ∃ W1, w.alloc (.cells #[.int .u32 (sA.toNat : Int), .int .u32 (sB.toNat : Int), .int .u32 (sC.toNat : Int), .int .u32 (sD.toNat : Int), .int .u32 (sE.toNat : Int), .int .u32 (sF.toNat : Int), .int .u32 (sG.toNat : Int), .int .u32 (sH.toNat : Int), .slice al nl cl, .int .u64 (n : Int)] 75) = W1 := ⟨_, rfl⟩
  rw [hW1]
  have hold : Holds W1 w.heap.size d := by
    refine ⟨al, cl, ?_, HL.out.below (by rw [← hW1]; exact (Below.refl _ w).alloc (Nat.le_refl _) _), fun a e => ?_⟩
    · rw [HST.out, HNL.out, HN.out, ← hW1]; exact heap_alloc_new _ _
    · have := HAL.out a e
      rw [← hW1]; simp; omega
  have hb1 : Below w.heap.size w W1 := by rw [← hW1]; exact (Below.refl _ w).alloc (Nat.le_refl _) _
  have hs1 : W1.heap.size = w.heap.size + 1 := by rw [← hW1]; simp
  refine (tail_any n (by omega) W1).mono ?_
  rintro e W2 ⟨v, rfl, ho, hb2⟩
  obtain ⟨a2, k2, rfl, hk2, hr2⟩ := ho.reads
  have hold2 : Holds W2 w.heap.size d := by
    obtain ⟨al', cl', h1, h2, h3⟩ := hold
    exact ⟨al', cl', h1.below hb2, h2.below hb2, fun a e => ⟨(h3 a e).1, Nat.lt_of_lt_of_le (h3 a e).2 hb2.size⟩⟩
  have hwr := write_any w.heap.size d (tail n) a2 k2 W2 hold2 hr2 (fun a e _ => by have := ho.form.2.2 a e; omega) (by rw [tail_length, HN.out]; have : room n < 64 := Nat.mod_lt _ (by decide); omega)
  have HW := Lib.hid hwr; have HB1 := Lib.hid hb1; have HB2 := Lib.hid hb2; have HS1 := Lib.hid hs1
  clear hwr hold2 hr2 ho hold hW1 hb1 hb2 hs1
  go_wp2_with fail
  refine HW.out.mono ?_
  rintro e W3 ⟨rfl, hold3, hg3⟩
  obtain ⟨al3, cl3, hp3, _, _⟩ := hold3
  have hlen3 : (d ++ tail n).length / 64 = (d.length + (tail d.length).length) / 64 := by rw [List.length_append, HN.out]
  have hst3 : out (run init (d ++ tail n) ((d ++ tail n).length / 64)) = Sha.sum d := by
    unfold Sha.sum; rw [hlen3, HN.out]
  obtain ⟨st, hst⟩ : ∃ st, run init (d ++ tail n) ((d ++ tail n).length / 64) = st := ⟨_, rfl⟩
  rw [hst] at hp3 hst3
  obtain ⟨q0, q1, q2, q3, q4, q5, q6, q7⟩ := st
  have HST3 := Lib.hid hst3
  clear hst3 hlen3 hst c0 c1 c2 c3 c4 c5 c6 c7 c8 c9
  have c0 : W3.cell? ⟨w.heap.size, 0, none⟩ = some (.int .u32 (q0.toNat : Int)) := hp3.cell rfl
  have c1 : W3.cell? ⟨w.heap.size, 1, none⟩ = some (.int .u32 (q1.toNat : Int)) := hp3.cell rfl
  have c2 : W3.cell? ⟨w.heap.size, 2, none⟩ = some (.int .u32 (q2.toNat : Int)) := hp3.cell rfl
  have c3 : W3.cell? ⟨w.heap.size, 3, none⟩ = some (.int .u32 (q3.toNat : Int)) := hp3.cell rfl
  have c4 : W3.cell? ⟨w.heap.size, 4, none⟩ = some (.int .u32 (q4.toNat : Int)) := hp3.cell rfl
  have c5 : W3.cell? ⟨w.heap.size, 5, none⟩ = some (.int .u32 (q5.toNat : Int)) := hp3.cell rfl
  have c6 : W3.cell? ⟨w.heap.size, 6, none⟩ = some (.int .u32 (q6.toNat : Int)) := hp3.cell rfl
  have c7 : W3.cell? ⟨w.heap.size, 7, none⟩ = some (.int .u32 (q7.toNat : Int)) := hp3.cell rfl
  have hB3 : Below w.heap.size w W3 := by
    have h2 : Below w.heap.size w W2 := HB1.out.trans (HB2.out.mono (by have := HS1.out; omega))
    exact ⟨hg3.os.trans h2.os, hg3.tape.trans h2.tape, hg3.output.trans h2.output, Nat.le_trans h2.size hg3.size, fun k hk => (hg3.block k (Nat.lt_of_lt_of_le hk h2.size) (by simp; omega)).trans (h2.block k hk)⟩
  have HB3 := Lib.hid hB3
  clear hB3 hg3 hp3
  go_wp2_with fail
  obtain ⟨KV, hKV⟩ : ∃ KV : Array Value, #[.int .u32 (q0.toNat : Int), .int .u32 (q1.toNat : Int), .int .u32 (q2.toNat : Int), .int .u32 (q3.toNat : Int), .int .u32 (q4.toNat : Int), .int .u32 (q5.toNat : Int), .int .u32 (q6.toNat : Int), .int .u32 (q7.toNat : Int)] = KV := ⟨_, rfl⟩
  rw [hKV]
  have hkv : KV = (u32s (St.list ⟨q0, q1, q2, q3, q4, q5, q6, q7⟩)).toArray := hKV.symm
  have HKV := Lib.hid hkv
  clear hKV hkv c0 c1 c2 c3 c4 c5 c6 c7
  obtain ⟨st, hst⟩ : ∃ st : St, ⟨q0, q1, q2, q3, q4, q5, q6, q7⟩ = st := ⟨_, rfl⟩
  rw [hst] at HKV HST3
  clear hst
  go_loopw [4, 21] (fun v i wr => ∃ (k : Nat) (vv : Value), k ≤ 8 ∧ i = .int .i64 k ∧ v = vv ∧ OwnB wr w.heap.size vv (outTo st k) ∧ Below w.heap.size w wr) (fun _ i _ => 8 - (intOf i).toNat)
  case atStart => exact ⟨0, _, by omega, rfl, rfl, OwnB.nil _ _, HB3.out⟩
  case round =>
    obtain ⟨k, v, hk, rfl, rfl, ho, hb⟩ := hrel
    obtain ⟨a4, k4, rfl, _, _⟩ := ho.reads
    have hlo := outTo_length st k hk
    rw [hlo] at ho ⊢
    have HO := Lib.hid ho; have HB := Lib.hid hb
    clear ho hb
    by_cases hlt : k < 8
    · obtain ⟨xk, hxk⟩ : ∃ x, st.list.getD k 0 = x := ⟨_, rfl⟩
      have ck : KV[k]? = some (.int .u32 (xk.toNat : Int)) := by
        have hl : k < st.list.length := hlt
        rw [HKV.out, ← hxk, List.getD_eq_getElem?_getD]
        simp [u32s, List.getElem?_eq_getElem hl]
      have hks : KV.size = 8 := by rw [HKV.out]; rfl
      have hki : (k : Int) < 8 := by omega
      have hidx : ∀ wr : World, (Instr.index 73 (.agg KV) (.int .i64 (k : Int))).run Try.prog wr = .ok (.int .u32 (xk.toNat : Int)) wr := fun wr => by
        have hs43 : (sizeOf 71).run Try.prog wr = .ok 1 wr := by
          have h := info43
          cases hi : Try.prog.info? 71 with
          | none => rw [hi] at h; simp at h
          | some i43 => rw [hi] at h; simp at h; simp [sizeOf, typeInfo, hi, h]
        simp [Instr.index, run_underlying Try.underlying73, asIntOf, hki, hs43, part, go_sem, ck]
        intro hbad; omega
      have HXK := Lib.hid hxk
      have hxl := xk.isLt
      clear hxk ck hks
      have hy := bytes4_int' xk
      obtain ⟨y0, hy0⟩ : ∃ y, (xk.toNat : Int) / 16777216 = y := ⟨_, rfl⟩
      have HY := Lib.hid hy
      clear hy
      clear hy0 y0
      go_wp2_with (at_builtin; refine Kd.R_append_row (Value.int .u8) (0 : Int) (h1 := fun _ => rfl) (w0 := w) w.heap.size rfl _ _ 22 5 (.int .u8 0) 1 rfl Try.underlying22 infoB rfl (by decide) _ (intsB (outTo st k)) [(xk.toNat : Int) / 16777216, (xk.toNat : Int) / 65536 % 256, (xk.toNat : Int) / 256 % 256, (xk.toNat : Int) % 256] (some ⟨wr.heap.size, 0, none⟩) 4 4 (fun _ => True) rfl rfl (fun _ _ => trivial) ?k1 ?k2 ?k3 ?k4 ?k5 ?_)
      case k1 => exact HO.out.below (below_alloc (Below.refl _ _) _)
      case k2 => exact four_read wr _ _ _ _ 5
      case k3 => exact HB.out.alloc HB.out.size _
      case k4 => have := HB.out.size; simp; omega
      case k5 => rw [intsB_length, hlo]; omega
      intro v1 w2 hR hB2 _ _
      rw [← HY.out, ← intsB_append] at hR
      have hR2 : OwnB w2 w.heap.size v1 (outTo st (k + 1)) := by rw [outTo_succ st k hlt, HXK.out]; exact hR
      have HR := Lib.hid hR2
      have HB3 := Lib.hid hB2
      clear hR hR2 hB2
      go_wp2_with fail
      go_roundw
      case rel => exact ⟨k + 1, _, by omega, by go_num, rfl, HR.out, HB3.out⟩
      case measure => simp [intOf]; omega
    · obtain rfl : k = 8 := by omega
      go_wp2_with fail
      go_ret
      have hf : outTo st 8 = Sha.sum d := HST3.out
      exact ⟨_, rfl, by rw [← hf]; exact HO.out, HB.out⟩
end Go.Proofs.Ytnhljemnebgekaa

/-
  The function Sum of the package digest, called on any row of bytes that is no longer than the bound, returns the plain sum of 256 bits in a new row.
-/
namespace Go.Proofs.Ytnhljemnebgekaa
open Go.RowKit Sha Go.Proofs.YtnhljemnebgekaaW.PrintWords Go.Proofs.YtnhljemnebgekaaW.PrintLast
set_option maxRecDepth 100000 in
theorem digest_sum_any (a : Option Addr) (c : Nat) (l : List UInt8) (w : World) (h : Rd w a l) (hl : l.length ≤ 1099511000000) :
    Calls Try.prog 31 #[.slice a l.length c] w fun e w' => ∃ v, e = .returned v ∧ OwnB w' w.heap.size v (Sha.sum l) ∧ Below w.heap.size w w' := by
  obtain ⟨n, hn⟩ : ∃ n, l.length = n := ⟨_, rfl⟩
  have HN := Lib.hid hn
  rw [hn]
  have H := Lib.hid h
  clear hn h
  go_enter Try.func31, Try.ntmps31
  go_wp2_with fail
  refine (new_any w).mono ?_
  rintro e w1 ⟨p, rfl, hh, hp, hb⟩
  have hal : ∀ ad, a = some ad → 0 < n → ad.block < w.heap.size := fun ad e hp => by
    obtain ⟨b, off, e2, hlt, _⟩ := H.out.bytesAt (by rw [HN.out]; exact hp)
    rw [e] at e2; cases e2; exact hlt
  have HAL := Lib.hid hal
  have HH := Lib.hid hh
  have HB := Lib.hid hb
  clear hal hh hb
  go_wp2_with fail
  have hwr : Calls Try.prog 37 #[.pointer (some ⟨p, 0, none⟩), .slice a n c] w1 fun e w' => e = .returned (.int .i64 n) ∧ Holds w' p l ∧ w1.grownBy w' (some p) := by
    have := write_any p [] l a c w1 HH.out (H.out.below HB.out) (fun ad e hz => by have := HAL.out ad e (by rw [← HN.out]; exact hz); omega) (by simp; omega)
    rwa [HN.out, List.nil_append] at this
  refine hwr.mono ?_
  rintro e w2 ⟨rfl, hh2, hg2⟩
  have HH2 := Lib.hid hh2
  have HG2 := Lib.hid hg2
  clear hwr hh2 hg2
  go_wp2_with fail
  refine (hsum_any p l w2 HH2.out hl).mono ?_
  rintro e w3 ⟨v, rfl, ho, hb3⟩
  have hb2 : Below w.heap.size w w2 := ⟨HG2.out.os.trans HB.out.os, HG2.out.tape.trans HB.out.tape, HG2.out.output.trans HB.out.output, Nat.le_trans HB.out.size HG2.out.size, fun k hk => (HG2.out.block k (Nat.lt_of_lt_of_le hk HB.out.size) (by simp; omega)).trans (HB.out.block k hk)⟩
  obtain ⟨av, cv, rfl, _, _⟩ := ho.reads
  go_wp2_with fail
  go_ret
  exact ⟨_, rfl, ho.lower hb2.size, hb2.trans (hb3.mono hb2.size)⟩
set_option maxRecDepth 100000 in
theorem hsum_nil (w : World) : Calls Try.prog 39 #[.pointer none] w fun e w' => ∃ v, e = .returned v ∧ OwnB w' w.heap.size v (Sha.sum []) ∧ Below w.heap.size w w' := by
  go_enter Try.func39, Try.ntmps39
  go_wp2_with fail
  refine (digest_sum_any none 0 [] w (Rd.nil w) (by simp)).mono ?_
  rintro e w1 ⟨v, rfl, ho, hb⟩
  obtain ⟨av, cv, rfl, _, _⟩ := ho.reads
  go_wp2_with fail
  go_ret
  exact ⟨_, rfl, ho, hb⟩
/-- Are they bytes, and not too many? -/
def bytesOk (l : List Int) : Bool := decide (intsB (bytesI l) = l) && decide (l.length ≤ 1099511000000)
def Ext.digest_Sum.f (l0 : List Int) : Option (List Int) := if bytesOk l0 = true then some (intsB (Sha.sum (bytesI l0))) else none
theorem bytesOk_intsB (l : List UInt8) (h : l.length ≤ 1099511000000) : bytesOk (intsB l) = true := by
  unfold bytesOk
  rw [bytesI_intsB, intsB_length]
  simp [h]
theorem Ext.digest_Sum.f_eq (l : List UInt8) (h : l.length ≤ 1099511000000) : Ext.digest_Sum.f (intsB l) = some (intsB (Sha.sum l)) := by
  unfold Ext.digest_Sum.f
  rw [if_pos (bytesOk_intsB l h), bytesI_intsB]
theorem Ext.digest_Sum.calls (A0 : Option Addr) (c0 : Nat) (l0 : List Int) (r : List Int) (w : World) (hr0 : Kd.C (Kd.int .u8) w A0 l0.length l0) (_hc0 : l0.length ≤ c0) (h : Ext.digest_Sum.f l0 = some r) :
    Calls Try.prog 31 #[.slice A0 l0.length c0] w fun e w' => ∃ v0_ : Value, e = .returned (v0_) ∧ Kd.R (Kd.int .u8) 5 w' w.heap.size (fun _ => True) v0_ r ∧ Below w.heap.size w w' := by
  unfold Ext.digest_Sum.f at h
  split at h
  · rename_i hok
    cases h
    unfold bytesOk at hok
    simp only [Bool.and_eq_true, decide_eq_true_eq] at hok
    have hl : (bytesI l0).length = l0.length := by simp [bytesI]
    have hr : Rd w A0 (bytesI l0) := by unfold Rd; rw [hl, hok.1]; exact hr0
    have := digest_sum_any A0 c0 (bytesI l0) w hr (by rw [hl]; exact hok.2)
    rw [hl] at this
    exact this
  · cases h
end Go.Proofs.Ytnhljemnebgekaa

/-
  The reference's Sum, Same and Tail of chapter 4, as the print tells them, tell the plain sum, the plain tail and whether two rows are the same.
-/
namespace Go.Proofs.Ytnhljemnebgekaa
set_option linter.unusedVariables false
set_option linter.unusedSimpArgs false
open Sha Go.RowKit Go.Proofs.YtnhljemnebgekaaW.PrintWords Go.Proofs.YtnhljemnebgekaaW.PrintLast Go.Proofs.YtnhljemnebgekaaW.PrintMore Go.Proofs.Ytnhljemnebgekaa.Rf
/-- Words as numbers. -/
def intsW (l : List Sha.W) : List Int := l.map fun x => (x.toNat : Int)
theorem intsW_length (l : List Sha.W) : (intsW l).length = l.length := by simp [intsW]
theorem rd_getD (l : List Int) (i : Nat) : rd l (i : Int) = l.getD i 0 := by simp [rd]
theorem rd_intsW (l : List Sha.W) (i : Nat) : rd (intsW l) (i : Int) = ((l.getD i 0).toNat : Int) := by
  rw [rd_getD, intsW, List.getD_eq_getElem?_getD, List.getElem?_map, List.getD_eq_getElem?_getD]
  cases l[i]? <;> simp
theorem rd_intsB (l : List UInt8) (i : Nat) : rd (intsB l) (i : Int) = ((l.getD i 0).toNat : Int) := by
  rw [rd_getD, intsB, List.getD_eq_getElem?_getD, List.getElem?_map, List.getD_eq_getElem?_getD]
  cases l[i]? <;> simp
theorem ref_turn (x : Sha.W) (n : Nat) (h : n ≤ 32) : heliastref04_turn.f (x.toNat : Int) (n : Int) = some ((turn x n).toNat : Int) := by
  unfold heliastref04_turn.f
  have e1 : IntKind.u64.wrap (32 - (n : Int)) = ((32 - n : Nat) : Int) := by rw [IntKind.wrap_u64]; omega
  have e2 : shr .u32 (x.toNat : Int) (n : Int) = ((x >>> n).toNat : Int) := by
    unfold shr
    rw [Int.toNat_natCast, show IntKind.bits .u32 = 32 from rfl, Nat.min_eq_left h, BitVec.toNat_ushiftRight, Nat.shiftRight_eq_div_pow]
    simp
  have e3 : shl .u32 (x.toNat : Int) ((32 - n : Nat) : Int) = ((x <<< (32 - n)).toNat : Int) := by
    unfold shl
    rw [Int.toNat_natCast, show IntKind.bits .u32 = 32 from rfl, Nat.min_eq_left (by omega), IntKind.wrap_u32, BitVec.toNat_shiftLeft, Nat.shiftLeft_eq]
    simp
  rw [e1, if_pos (by omega), if_pos (by omega), e2, e3, or_nat, BitVec.or_comm]
  rfl
theorem rturn_2 (x : Sha.W) : heliastref04_turn.f (x.toNat : Int) 2 = some ((turn x 2).toNat : Int) := by
  have h := ref_turn x 2 (by decide)
  rwa [show ((2 : Nat) : Int) = 2 from rfl] at h
theorem rturn_6 (x : Sha.W) : heliastref04_turn.f (x.toNat : Int) 6 = some ((turn x 6).toNat : Int) := by
  have h := ref_turn x 6 (by decide)
  rwa [show ((6 : Nat) : Int) = 6 from rfl] at h
theorem rturn_7 (x : Sha.W) : heliastref04_turn.f (x.toNat : Int) 7 = some ((turn x 7).toNat : Int) := by
  have h := ref_turn x 7 (by decide)
  rwa [show ((7 : Nat) : Int) = 7 from rfl] at h
theorem rturn_11 (x : Sha.W) : heliastref04_turn.f (x.toNat : Int) 11 = some ((turn x 11).toNat : Int) := by
  have h := ref_turn x 11 (by decide)
  rwa [show ((11 : Nat) : Int) = 11 from rfl] at h
theorem rturn_13 (x : Sha.W) : heliastref04_turn.f (x.toNat : Int) 13 = some ((turn x 13).toNat : Int) := by
  have h := ref_turn x 13 (by decide)
  rwa [show ((13 : Nat) : Int) = 13 from rfl] at h
theorem rturn_17 (x : Sha.W) : heliastref04_turn.f (x.toNat : Int) 17 = some ((turn x 17).toNat : Int) := by
  have h := ref_turn x 17 (by decide)
  rwa [show ((17 : Nat) : Int) = 17 from rfl] at h
theorem rturn_18 (x : Sha.W) : heliastref04_turn.f (x.toNat : Int) 18 = some ((turn x 18).toNat : Int) := by
  have h := ref_turn x 18 (by decide)
  rwa [show ((18 : Nat) : Int) = 18 from rfl] at h
theorem rturn_19 (x : Sha.W) : heliastref04_turn.f (x.toNat : Int) 19 = some ((turn x 19).toNat : Int) := by
  have h := ref_turn x 19 (by decide)
  rwa [show ((19 : Nat) : Int) = 19 from rfl] at h
theorem rturn_22 (x : Sha.W) : heliastref04_turn.f (x.toNat : Int) 22 = some ((turn x 22).toNat : Int) := by
  have h := ref_turn x 22 (by decide)
  rwa [show ((22 : Nat) : Int) = 22 from rfl] at h
theorem rturn_25 (x : Sha.W) : heliastref04_turn.f (x.toNat : Int) 25 = some ((turn x 25).toNat : Int) := by
  have h := ref_turn x 25 (by decide)
  rwa [show ((25 : Nat) : Int) = 25 from rfl] at h
theorem or_sum (a b i : Nat) (h : b < 2 ^ i) : a * 2 ^ i ||| b = a * 2 ^ i + b := by
  have := Nat.two_pow_add_eq_or_of_lt h a
  rw [Nat.mul_comm] at this
  exact this.symm
theorem push_toNat (w : Sha.W) (c : UInt8) (h : w.toNat < 2 ^ 24) : (push w c).toNat = w.toNat * 256 + c.toNat := by
  have hc := c.toNat_lt
  have h1 := push_nat w c
  have e1 : (w.toNat : Int) * 256 % 4294967296 = ((w.toNat * 256 : Nat) : Int) := by omega
  rw [e1, u32_or_nat _ _ (by omega) (by omega)] at h1
  have h2 : w.toNat * 256 ||| c.toNat = w.toNat * 256 + c.toNat := or_sum w.toNat c.toNat 8 (by omega)
  omega
theorem four_toNat (c0 c1 c2 c3 : UInt8) : (four [c0, c1, c2, c3]).toNat = c0.toNat * 16777216 + c1.toNat * 65536 + c2.toNat * 256 + c3.toNat := by
  have h0 := c0.toNat_lt; have h1 := c1.toNat_lt; have h2 := c2.toNat_lt; have h3 := c3.toNat_lt
  have e : four [c0, c1, c2, c3] = push (push (push (push 0 c0) c1) c2) c3 := rfl
  have p0 := push_toNat 0 c0 (by decide)
  rw [show (0 : Sha.W).toNat = 0 from rfl] at p0
  have p1 := push_toNat (push 0 c0) c1 (by omega)
  have p2 := push_toNat (push (push 0 c0) c1) c2 (by omega)
  have p3 := push_toNat (push (push (push 0 c0) c1) c2) c3 (by omega)
  rw [e, p3, p2, p1, p0]; omega
theorem four_int (c0 c1 c2 c3 : UInt8) : Go.bits .or .u32 (Go.bits .or .u32 (Go.bits .or .u32 ((((c0.toNat : Int) % 4294967296) * 16777216) % 4294967296) ((((c1.toNat : Int) % 4294967296) * 65536) % 4294967296)) ((((c2.toNat : Int) % 4294967296) * 256) % 4294967296)) ((c3.toNat : Int) % 4294967296) = ((four [c0, c1, c2, c3]).toNat : Int) := by
  have h0 := c0.toNat_lt; have h1 := c1.toNat_lt; have h2 := c2.toNat_lt; have h3 := c3.toNat_lt
  have e0 : (((c0.toNat : Int) % 4294967296) * 16777216) % 4294967296 = ((c0.toNat * 2 ^ 24 : Nat) : Int) := by omega
  have e1 : (((c1.toNat : Int) % 4294967296) * 65536) % 4294967296 = ((c1.toNat * 65536 : Nat) : Int) := by omega
  have e2 : (((c2.toNat : Int) % 4294967296) * 256) % 4294967296 = ((c2.toNat * 256 : Nat) : Int) := by omega
  have e3 : (c3.toNat : Int) % 4294967296 = (c3.toNat : Int) := by omega
  have s1 := or_sum c0.toNat (c1.toNat * 65536) 24 (by omega)
  have s2 := or_sum (c0.toNat * 256 + c1.toNat) (c2.toNat * 256) 16 (by omega)
  have s3 := or_sum (c0.toNat * 65536 + c1.toNat * 256 + c2.toNat) c3.toNat 8 (by omega)
  rw [e0, e1, e2, e3, u32_or_nat _ _ (by omega) (by omega), s1, show c0.toNat * 2 ^ 24 + c1.toNat * 65536 = (c0.toNat * 256 + c1.toNat) * 2 ^ 16 by omega, u32_or_nat _ _ (by omega) (by omega), s2,
    show (c0.toNat * 256 + c1.toNat) * 2 ^ 16 + c2.toNat * 256 = (c0.toNat * 65536 + c1.toNat * 256 + c2.toNat) * 2 ^ 8 by omega, u32_or_nat _ _ (by omega) (by omega), s3, four_toNat]
  omega
theorem take4 (b : List UInt8) (t : Nat) (h : 4 * t + 4 ≤ b.length) : (b.drop (4 * t)).take 4 = [b.getD (4 * t) 0, b.getD (4 * t + 1) 0, b.getD (4 * t + 2) 0, b.getD (4 * t + 3) 0] := by
  have e : ∀ i, i < 4 → b.getD (4 * t + i) 0 = (b.drop (4 * t)).getD i 0 := fun i _ => by simp [List.getD_eq_getElem?_getD]
  rw [← Nat.add_zero (4 * t)] 
  rw [show 4 * t + 0 + 1 = 4 * t + 1 by omega, show 4 * t + 0 + 2 = 4 * t + 2 by omega, show 4 * t + 0 + 3 = 4 * t + 3 by omega, e 0 (by omega), e 1 (by omega), e 2 (by omega), e 3 (by omega), Nat.add_zero]
  have hl : 4 ≤ (b.drop (4 * t)).length := by rw [List.length_drop]; omega
  match hd : b.drop (4 * t), hl with
  | x0 :: x1 :: x2 :: x3 :: l, _ => rfl
theorem ref_words_l1 (b : List UInt8) : ∀ d t k : Nat, 16 ≤ t → t + d = 64 → d < k → heliastref04_words.l1 k (intsW (upto b t)) (t : Int) = some (intsW (words b)) := by
  intro d
  induction d with
  | zero =>
    intro t k h16 hj hk
    obtain ⟨k, rfl⟩ : ∃ m, k = m + 1 := ⟨k - 1, by omega⟩
    obtain rfl : t = 64 := by omega
    simp only [heliastref04_words.l1]
    rw [if_neg (by omega)]
    rfl
  | succ d ih =>
    intro t k h16 hj hk
    obtain ⟨k, rfl⟩ : ∃ m, k = m + 1 := ⟨k - 1, by omega⟩
    have hl : (upto b t).length = t := upto_length b t
    have e15 : wrap64 ((t : Int) - 15) = ((t - 15 : Nat) : Int) := by rw [wrap64_small (by omega) (by omega)]; omega
    have e2 : wrap64 ((t : Int) - 2) = ((t - 2 : Nat) : Int) := by rw [wrap64_small (by omega) (by omega)]; omega
    have e7 : wrap64 ((t : Int) - 7) = ((t - 7 : Nat) : Int) := by rw [wrap64_small (by omega) (by omega)]; omega
    have e16 : wrap64 ((t : Int) - 16) = ((t - 16 : Nat) : Int) := by rw [wrap64_small (by omega) (by omega)]; omega
    have e1 : wrap64 ((t : Int) + 1) = ((t + 1 : Nat) : Int) := by rw [wrap64_small (by omega) (by omega)]; omega
    simp only [heliastref04_words.l1]
    simp only [e15, e2, e7, e16, e1, rd_intsW, intsW_length, hl, rturn_7, rturn_18, rturn_17, rturn_19, Option.bind_some]
    clear e15 e2 e7 e16 e1
    rw [if_pos (by omega), if_pos (by omega), if_pos (by omega), if_pos (by omega), if_pos (by omega), if_pos (by omega), if_pos (by omega), if_pos (by omega), if_pos (by omega), if_pos (by omega)]
    have s1 := small_nat ((upto b t).getD (t - 2) 0) 17 19 10 1024 (by decide)
    have s2 := small_nat ((upto b t).getD (t - 15) 0) 7 18 3 8 (by decide)
    simp only [Int.cast_ofNat_Int] at s1 s2
    rw [s1, s2, add_nat, add_nat, add_nat]
    have hn : small ((upto b t).getD (t - 2) 0) 17 19 10 + (upto b t).getD (t - 7) 0 + small ((upto b t).getD (t - 15) 0) 7 18 3 + (upto b t).getD (t - 16) 0 = next (upto b t) := by
      unfold next; rw [hl]
    rw [hn]
    have hu : intsW (upto b t) ++ [((next (upto b t)).toNat : Int)] = intsW (upto b (t + 1)) := by rw [upto_more b t h16]; simp [intsW]
    rw [hu]
    exact ih (t + 1) k (by omega) (by omega) (by omega)
theorem ref_words_l0 (b : List UInt8) (hb : b.length = 64) : ∀ d t k : Nat, t + d = 16 → d + 60 < k → heliastref04_words.l0 k (intsB b) (intsW (upto b t)) (t : Int) = some (intsW (words b)) := by
  intro d
  induction d with
  | zero =>
    intro t k hj hk
    obtain ⟨k, rfl⟩ : ∃ m, k = m + 1 := ⟨k - 1, by omega⟩
    obtain rfl : t = 16 := by omega
    simp only [heliastref04_words.l0]
    rw [if_neg (by omega)]
    exact ref_words_l1 b 48 16 k (by omega) (by omega) (by omega)
  | succ d ih =>
    intro t k hj hk
    obtain ⟨k, rfl⟩ : ∃ m, k = m + 1 := ⟨k - 1, by omega⟩
    have e4 : wrap64 (4 * (t : Int)) = ((4 * t : Nat) : Int) := by rw [wrap64_small (by omega) (by omega)]; omega
    have e41 : wrap64 (((4 * t : Nat) : Int) + 1) = ((4 * t + 1 : Nat) : Int) := by rw [wrap64_small (by omega) (by omega)]; omega
    have e42 : wrap64 (((4 * t : Nat) : Int) + 2) = ((4 * t + 2 : Nat) : Int) := by rw [wrap64_small (by omega) (by omega)]; omega
    have e43 : wrap64 (((4 * t : Nat) : Int) + 3) = ((4 * t + 3 : Nat) : Int) := by rw [wrap64_small (by omega) (by omega)]; omega
    have e1 : wrap64 ((t : Int) + 1) = ((t + 1 : Nat) : Int) := by rw [wrap64_small (by omega) (by omega)]; omega
    simp only [heliastref04_words.l0]
    rw [e4, e41, e42, e43, e1, rd_intsB, rd_intsB, rd_intsB, rd_intsB, intsB_length, intsW_length, upto_length, hb, if_pos (by omega), if_pos (by omega), if_pos (by omega), if_pos (by omega), if_pos (by omega), if_pos (by omega), if_pos (by omega), if_pos (by omega), if_pos (by omega), if_pos (by omega), four_int, ← take4 b t (by omega)]
    have hu : intsW (upto b t) ++ [((four ((b.drop (4 * t)).take 4)).toNat : Int)] = intsW (upto b (t + 1)) := by rw [upto_first b t (by omega)]; simp [intsW]
    rw [hu]
    exact ih (t + 1) k (by omega) (by omega)
theorem ref_words (b : List UInt8) (hb : b.length = 64) (k : Nat) (hk : 80 ≤ k) : heliastref04_words.f k (intsB b) = some (intsW (words b)) :=
  ref_words_l0 b hb 16 0 k (by omega) (by omega)
theorem ref_keys : heliastref04_keys.f = some (intsW keys) := rfl
theorem ref_block_l1 (x y : St) : ∀ d j k : Nat, j + d = 8 → d < k → heliastref04_block.l1 k (intsW x.list) (intsW (mixed y.list x.list j)) (j : Int) = some (intsW (y.add x).list) := by
  intro d
  induction d with
  | zero =>
    intro j k hj hk
    obtain ⟨k, rfl⟩ : ∃ m, k = m + 1 := ⟨k - 1, by omega⟩
    obtain rfl : j = 8 := by omega
    simp only [heliastref04_block.l1]
    rw [if_neg (by omega), mixed_all]
  | succ d ih =>
    intro j k hj hk
    obtain ⟨k, rfl⟩ : ∃ m, k = m + 1 := ⟨k - 1, by omega⟩
    have e1 : wrap64 ((j : Int) + 1) = ((j + 1 : Nat) : Int) := by rw [wrap64_small (by omega) (by omega)]; omega
    simp only [heliastref04_block.l1]
    rw [e1, rd_intsW, rd_intsW, add_nat, intsW_length, intsW_length, mixed_length, show y.list.length = 8 from rfl, show x.list.length = 8 from rfl, if_pos (by omega), if_pos (by omega), if_pos (by omega), if_pos (by omega), Int.toNat_natCast]
    have hm : (intsW (mixed y.list x.list j)).set j (((mixed y.list x.list j).getD j 0 + x.list.getD j 0).toNat : Int) = intsW (mixed y.list x.list (j + 1)) := by
      rw [mixed]; simp [intsW, List.map_set]
    rw [hm]
    exact ih (j + 1) k (by omega) (by omega)
theorem ref_block_l0 (x : St) (b : List UInt8) : ∀ d t k : Nat, t + d = 64 → d + 20 < k → heliastref04_block.l0 k (intsW x.list) (intsW (words b)) (intsW keys) (intsW (rounds x b t).list) (t : Int) = some (intsW (take x b).list) := by
  intro d
  induction d with
  | zero =>
    intro t k hj hk
    obtain ⟨k, rfl⟩ : ∃ m, k = m + 1 := ⟨k - 1, by omega⟩
    obtain rfl : t = 64 := by omega
    simp only [heliastref04_block.l0]
    rw [if_neg (by omega)]
    exact ref_block_l1 x (rounds x b 64) 8 0 k (by omega) (by omega)
  | succ d ih =>
    intro t k hj hk
    obtain ⟨k, rfl⟩ : ∃ m, k = m + 1 := ⟨k - 1, by omega⟩
    obtain ⟨y, hy⟩ : ∃ y, rounds x b t = y := ⟨_, rfl⟩
    have hsucc : rounds x b (t + 1) = round y (keys.getD t 0) ((words b).getD t 0) := by rw [rounds, hy]
    rw [hy]
    obtain ⟨A, B, C, D, E, F, G, H⟩ := y
    have r0 : rd (intsW (St.list ⟨A, B, C, D, E, F, G, H⟩)) 0 = (A.toNat : Int) := rfl
    have r1 : rd (intsW (St.list ⟨A, B, C, D, E, F, G, H⟩)) 1 = (B.toNat : Int) := rfl
    have r2 : rd (intsW (St.list ⟨A, B, C, D, E, F, G, H⟩)) 2 = (C.toNat : Int) := rfl
    have r3 : rd (intsW (St.list ⟨A, B, C, D, E, F, G, H⟩)) 3 = (D.toNat : Int) := rfl
    have r4 : rd (intsW (St.list ⟨A, B, C, D, E, F, G, H⟩)) 4 = (E.toNat : Int) := rfl
    have r5 : rd (intsW (St.list ⟨A, B, C, D, E, F, G, H⟩)) 5 = (F.toNat : Int) := rfl
    have r6 : rd (intsW (St.list ⟨A, B, C, D, E, F, G, H⟩)) 6 = (G.toNat : Int) := rfl
    have r7 : rd (intsW (St.list ⟨A, B, C, D, E, F, G, H⟩)) 7 = (H.toNat : Int) := rfl
    have hl8 : (intsW (St.list ⟨A, B, C, D, E, F, G, H⟩)).length = 8 := rfl
    have e1 : wrap64 ((t : Int) + 1) = ((t + 1 : Nat) : Int) := by rw [wrap64_small (by omega) (by omega)]; omega
    have hwl : (words b).length = 64 := upto_length b 64
    have hkl : keys.length = 64 := rfl
    simp only [heliastref04_block.l0]
    simp only [r0, r1, r2, r3, r4, r5, r6, r7, hl8, e1, rd_intsW, intsW_length, hwl, hkl, rturn_6, rturn_11, rturn_25, rturn_2, rturn_13, rturn_22, Option.bind_some]
    clear e1 r0 r1 r2 r3 r4 r5 r6 r7
    rw [if_pos (by omega), if_pos (by omega), if_pos (by omega), if_pos (by omega), if_pos (by omega), if_pos (by omega), if_pos (by omega), if_pos (by omega), if_pos (by omega), if_pos (by omega), if_pos (by omega), if_pos (by omega)]
    obtain ⟨kw, hkw⟩ : ∃ kw, keys.getD t 0 = kw := ⟨_, rfl⟩
    obtain ⟨ww, hww⟩ : ∃ ww, (words b).getD t 0 = ww := ⟨_, rfl⟩
    rw [hkw, hww] at hsucc ⊢
    have g1 := great_nat E 6 11 25
    have g2 := great_nat A 2 13 22
    rw [g1, g2]
    simp only [and_nat, not_nat, xor_nat, add_nat]
    have hr : [(((H + great E 6 11 25 + ((E &&& F) ^^^ (~~~E &&& G)) + kw + ww + (great A 2 13 22 + ((A &&& B) ^^^ (A &&& C) ^^^ (B &&& C)))).toNat : Nat) : Int), (A.toNat : Int), (B.toNat : Int), (C.toNat : Int), ((D + (H + great E 6 11 25 + ((E &&& F) ^^^ (~~~E &&& G)) + kw + ww)).toNat : Int), (E.toNat : Int), (F.toNat : Int), (G.toNat : Int)] = intsW (rounds x b (t + 1)).list := by
      rw [hsucc]; rfl
    rw [hr]
    exact ih (t + 1) k (by omega) (by omega)
theorem ref_block (x : St) (b : List UInt8) (hb : b.length = 64) (k : Nat) (hk : 100 ≤ k) : heliastref04_block.f k (intsW x.list) (intsB b) = some (intsW (take x b).list) := by
  unfold heliastref04_block.f
  rw [ref_words b hb k (by omega), Option.bind_some, ref_keys, Option.bind_some, if_pos (by rw [intsW_length, show x.list.length = 8 from rfl]; decide), List.nil_append]
  exact ref_block_l0 x b 64 0 k (by omega) (by omega)
theorem vals_take (n d : Nat) (h : d < 8) : (vals n 8).take (8 - (d + 1)) ++ [vb n d] = (vals n 8).take (8 - d) := by
  have : d = 0 ∨ d = 1 ∨ d = 2 ∨ d = 3 ∨ d = 4 ∨ d = 5 ∨ d = 6 ∨ d = 7 := by omega
  rcases this with rfl | rfl | rfl | rfl | rfl | rfl | rfl | rfl <;> rfl
theorem ref_tail_l1 (n : Nat) (A : List Int) (hA : A.length ≤ 200) : ∀ (d k : Nat) (x : Int), d ≤ 8 → x = (d : Int) - 1 → d < k → heliastref04_Tail.l1 k (A ++ (vals n 8).take (8 - d)) (IntKind.u64.wrap ((n : Int) * 8)) x = some (A ++ vals n 8) := by
  intro d
  induction d with
  | zero =>
    intro k x hd hx hk
    obtain ⟨k, rfl⟩ : ∃ m, k = m + 1 := ⟨k - 1, by omega⟩
    simp only [heliastref04_Tail.l1]
    rw [if_neg (by omega), List.take_of_length_le (by rw [vals_length]; omega)]
  | succ d ih =>
    intro k x hd hx hk
    obtain ⟨k, rfl⟩ : ∃ m, k = m + 1 := ⟨k - 1, by omega⟩
    obtain rfl : x = (d : Int) := by omega
    clear hx
    have hl : (A ++ (vals n 8).take (8 - (d + 1))).length ≤ 208 := by
      rw [List.length_append, List.length_take, vals_length]; omega
    have e1 : IntKind.u64.wrap (wrap64 (8 * (d : Int))) = ((8 * d : Nat) : Int) := by rw [wrap64_small (by omega) (by omega), IntKind.wrap_u64]; omega
    have e2 : wrap64 ((d : Int) - 1) = (d : Int) - 1 := wrap64_small (by omega) (by omega)
    simp only [heliastref04_Tail.l1]
    rw [e1, e2, shr_vb n d (by omega), List.append_assoc, vals_take n d (by omega)]
    clear e1 e2
    rw [if_pos (by omega), if_pos (by omega), if_pos (by omega)]
    exact ih k _ (by omega) rfl (by omega)
theorem ref_tail_l0 (n : Nat) (hn : n < 18446744073709551616) : ∀ d j k : Nat, j + d = room n → d + 20 < k → heliastref04_Tail.l0 k n (128 :: List.replicate j 0) = some (intsB (tail n)) := by
  have hr : room n = (119 - n % 64) % 64 := rfl
  intro d
  induction d with
  | zero =>
    intro j k hj hk
    obtain ⟨k, rfl⟩ : ∃ m, k = m + 1 := ⟨k - 1, by omega⟩
    have hc : Int.tmod (IntKind.u64.wrap ((Int.tmod (n : Int) 64) + (IntKind.u64.wrap (((128 :: List.replicate j (0 : Int)).length : Int))))) 64 = 56 := by
      rw [List.length_cons, List.length_replicate, Int.tmod_eq_emod_of_nonneg (a := (n : Int)) (by omega), Int.tmod_eq_emod_of_nonneg (by simp only [IntKind.wrap_u64]; omega)]
      simp only [IntKind.wrap_u64]; omega
    simp only [heliastref04_Tail.l0]
    rw [if_pos hc]
    have h := ref_tail_l1 n (128 :: List.replicate j 0) (by simp; omega) 8 k 7 (by omega) (by omega) (by omega)
    rw [Nat.sub_self, List.take_zero, List.append_nil] at h
    rw [h, vals_8]
    obtain rfl : j = room n := by omega
    simp [tail, intsB, List.map_replicate]
  | succ d ih =>
    intro j k hj hk
    obtain ⟨k, rfl⟩ : ∃ m, k = m + 1 := ⟨k - 1, by omega⟩
    have hc : ¬ Int.tmod (IntKind.u64.wrap ((Int.tmod (n : Int) 64) + (IntKind.u64.wrap (((128 :: List.replicate j (0 : Int)).length : Int))))) 64 = 56 := by
      rw [List.length_cons, List.length_replicate, Int.tmod_eq_emod_of_nonneg (a := (n : Int)) (by omega), Int.tmod_eq_emod_of_nonneg (by simp only [IntKind.wrap_u64]; omega)]
      simp only [IntKind.wrap_u64]; omega
    simp only [heliastref04_Tail.l0]
    rw [if_neg hc, if_pos (by simp; omega)]
    have e : (128 :: List.replicate j (0 : Int)) ++ [0] = 128 :: List.replicate (j + 1) 0 := by rw [List.cons_append, List.replicate_succ']
    rw [e]
    exact ih (j + 1) k (by omega) (by omega)
theorem ref_tail (n : Nat) (hn : n < 18446744073709551616) (k : Nat) (hk : 100 ≤ k) : heliastref04_Tail.f k n = some (intsB (tail n)) := by
  have hr : room n < 64 := Nat.mod_lt _ (by decide)
  exact ref_tail_l0 n hn (room n) 0 k (by omega) (by omega)
theorem ref_sum_l1 (st : St) : ∀ d j k : Nat, j + d = 8 → d < k → heliastref04_Sum.l1 k (intsW st.list) (intsB (outTo st j)) (j : Int) = some (intsB (out st)) := by
  intro d
  induction d with
  | zero =>
    intro j k hj hk
    obtain ⟨k, rfl⟩ : ∃ m, k = m + 1 := ⟨k - 1, by omega⟩
    obtain rfl : j = 8 := by omega
    simp only [heliastref04_Sum.l1]
    rw [if_neg (by omega)]
    rfl
  | succ d ih =>
    intro j k hj hk
    obtain ⟨k, rfl⟩ : ∃ m, k = m + 1 := ⟨k - 1, by omega⟩
    have e1 : wrap64 ((j : Int) + 1) = ((j + 1 : Nat) : Int) := by rw [wrap64_small (by omega) (by omega)]; omega
    simp only [heliastref04_Sum.l1]
    have hy := bytes4_int' (st.list.getD j 0)
    have hb : (((st.list.getD j 0).toNat : Int) / 16777216) % 256 = ((st.list.getD j 0).toNat : Int) / 16777216 := by
      have := (st.list.getD j 0).isLt
      omega
    rw [e1, rd_intsW, intsW_length, show st.list.length = 8 from rfl, hb, ← hy]
    clear e1 hb hy
    rw [if_pos (by omega), if_pos (by omega), if_pos (by omega), Option.bind_some, if_pos (by rw [intsB_length, intsB_length, outTo_length st j (by omega)]; simp [bytes4]; omega), ← intsB_append, ← outTo_succ st j (by omega)]
    exact ih (j + 1) k (by omega) (by omega)
theorem ref_sum_l0 (D : List UInt8) (hD : D.length % 64 = 0) (hDl : D.length ≤ 1099511627776) : ∀ d q k : Nat, q + d = D.length / 64 → d + 200 < k → heliastref04_Sum.l0 k (intsB D) (intsW (run init D q).list) ((64 * q : Nat) : Int) = some (intsB (out (run init D (D.length / 64)))) := by
  intro d
  induction d with
  | zero =>
    intro q k hj hk
    obtain ⟨k, rfl⟩ : ∃ m, k = m + 1 := ⟨k - 1, by omega⟩
    simp only [heliastref04_Sum.l0]
    rw [if_neg (by rw [intsB_length]; omega), show D.length / 64 = q by omega]
    exact ref_sum_l1 (run init D q) 8 0 k (by omega) (by omega)
  | succ d ih =>
    intro q k hj hk
    obtain ⟨k, rfl⟩ : ∃ m, k = m + 1 := ⟨k - 1, by omega⟩
    have e1 : wrap64 (((64 * q : Nat) : Int) + 64) = ((64 * (q + 1) : Nat) : Int) := by rw [wrap64_small (by omega) (by omega)]; omega
    simp only [heliastref04_Sum.l0]
    rw [e1]
    clear e1
    have hs : ((intsB D).take ((64 * (q + 1) : Nat) : Int).toNat).drop ((64 * q : Nat) : Int).toNat = intsB ((D.drop (64 * q)).take 64) := by
      rw [Int.toNat_natCast, Int.toNat_natCast, intsB, ← List.map_take, ← List.map_drop, List.drop_take, show 64 * (q + 1) - 64 * q = 64 by omega]
      rfl
    rw [hs, if_pos (by rw [intsB_length]; omega), if_pos (by omega), if_pos (by omega), if_pos (by rw [intsB_length]; omega),
      ref_block (run init D q) _ (by rw [List.length_take, List.length_drop]; omega) k (by omega), Option.bind_some]
    exact ih (q + 1) k (by omega) (by omega)
theorem ref_sum (l : List UInt8) (h : l.length ≤ 1099511000000) (k : Nat) (hk : l.length + 300 ≤ k) : heliastref04_Sum.f k (intsB l) = some (intsB (Sha.sum l)) := by
  have hr : room l.length < 64 := Nat.mod_lt _ (by decide)
  have ht : (tail l.length).length = room l.length + 9 := tail_length _
  have hw := tail_whole l.length
  unfold heliastref04_Sum.f
  have e1 : IntKind.u64.wrap (((intsB l).length : Int)) = (l.length : Int) := by rw [intsB_length, IntKind.wrap_u64]; omega
  rw [e1]
  clear e1
  rw [if_pos (by rw [intsB_length]; simp; omega), Option.bind_some, ref_tail l.length (by omega) k (by omega), Option.bind_some, List.nil_append, if_pos (by rw [intsB_length, intsB_length]; omega), ← intsB_append]
  have hl : (l ++ tail l.length).length = l.length + (tail l.length).length := List.length_append
  have h := ref_sum_l0 (l ++ tail l.length) (by rw [hl]; exact hw) (by rw [hl]; omega) ((l ++ tail l.length).length / 64) 0 k (by omega) (by rw [hl]; omega)
  rw [hl] at h
  exact h
theorem ref_same_l0 (a b : List UInt8) (hab : a.length = b.length) : ∀ d j k : Nat, j + d = a.length → d < k → a.length ≤ 9223372036854775806 → heliastref04_Same.l0 k (intsB a) (intsB b) (j : Int) = some (decide (a.drop j = b.drop j)) := by
  intro d
  induction d with
  | zero =>
    intro j k hj hk hm
    obtain ⟨k, rfl⟩ : ∃ m, k = m + 1 := ⟨k - 1, by omega⟩
    simp only [heliastref04_Same.l0]
    rw [if_neg (by rw [intsB_length]; omega), List.drop_of_length_le (by omega), List.drop_of_length_le (by omega)]
    simp
  | succ d ih =>
    intro j k hj hk hm
    obtain ⟨k, rfl⟩ : ∃ m, k = m + 1 := ⟨k - 1, by omega⟩
    have e1 : wrap64 ((j : Int) + 1) = ((j + 1 : Nat) : Int) := by rw [wrap64_small (by omega) (by omega)]; omega
    simp only [heliastref04_Same.l0]
    rw [e1, rd_intsB, rd_intsB]
    clear e1
    have ha : a.drop j = a.getD j 0 :: a.drop (j + 1) := by
      rw [List.drop_eq_getElem_cons (by omega)]; simp [List.getD_eq_getElem?_getD, List.getElem?_eq_getElem (show j < a.length by omega)]
    have hb : b.drop j = b.getD j 0 :: b.drop (j + 1) := by
      rw [List.drop_eq_getElem_cons (by omega)]; simp [List.getD_eq_getElem?_getD, List.getElem?_eq_getElem (show j < b.length by omega)]
    rw [if_pos (by rw [intsB_length]; omega), if_pos (by omega), if_pos (by rw [intsB_length]; omega)]
    have hc : (((a.getD j 0).toNat : Int) = ((b.getD j 0).toNat : Int)) ↔ a.getD j 0 = b.getD j 0 := by
      rw [← UInt8.toNat_inj]; omega
    by_cases h : a.getD j 0 = b.getD j 0
    · rw [if_pos (hc.2 h), ih (j + 1) k (by omega) (by omega) hm, ha, hb, h]
      simp
    · rw [if_neg (fun e => h (hc.1 e)), ha, hb]
      exact congrArg some (decide_eq_false (fun e => h (List.cons.inj e).1)).symm
theorem ref_same (a b : List UInt8) (ha : a.length ≤ 9223372036854775806) (k : Nat) (hk : a.length < k) : heliastref04_Same.f k (intsB a) (intsB b) = some (decide (a = b)) := by
  unfold heliastref04_Same.f
  rw [intsB_length, intsB_length]
  by_cases h : a.length = b.length
  · rw [if_pos (by omega), show (0 : Int) = ((0 : Nat) : Int) from rfl, ref_same_l0 a b h a.length 0 k (by omega) hk ha]
    rfl
  · rw [if_neg (by omega)]
    have : a ≠ b := fun e => h (by rw [e])
    simp [this]
theorem same_any (a1 a2 : Option Addr) (c1 c2 : Nat) (l1 l2 : List UInt8) (w : World) (h1 : Rd w a1 l1) (hc1 : l1.length ≤ c1) (h2 : Rd w a2 l2) (hc2 : l2.length ≤ c2) (hl : l1.length ≤ 9223372036854775806) :
    Calls Try.prog 13 #[.slice a1 l1.length c1, .slice a2 l2.length c2] w fun e w' => e = .returned (.bool (decide (l1 = l2))) ∧ ∃ n, w' = w.drewN n := by
  have h := heliastref04_Same.calls (l1.length + 1) a1 c1 (intsB l1) a2 c2 (intsB l2) _ w (by rw [intsB_length]; exact h1) (by rw [intsB_length]; exact hc1) (by rw [intsB_length]; exact h2) (by rw [intsB_length]; exact hc2) (ref_same l1 l2 hl _ (by omega))
  rw [intsB_length, intsB_length] at h
  exact h.mono fun e w' ⟨h1, h2⟩ => ⟨h1, h2.out⟩
theorem same_yes (a1 a2 : Option Addr) (c1 c2 : Nat) (l : List UInt8) (w : World) (h1 : Rd w a1 l) (hc1 : l.length ≤ c1) (h2 : Rd w a2 l) (hc2 : l.length ≤ c2) (hl : l.length ≤ 9223372036854775806) :
    Calls Try.prog 13 #[.slice a1 l.length c1, .slice a2 l.length c2] w fun e w' => e = .returned (.bool true) ∧ ∃ n, w' = w.drewN n := by
  have h := same_any a1 a2 c1 c2 l l w h1 hc1 h2 hc2 hl
  simpa using h
theorem ref_sum_any (a : Option Addr) (c : Nat) (l : List UInt8) (w : World) (h : Rd w a l) (hc : l.length ≤ c) (hl : l.length ≤ 1099511000000) :
    Calls Try.prog 23 #[.slice a l.length c] w fun e w' => ∃ v, e = .returned v ∧ OwnB w' w.heap.size v (Sha.sum l) ∧ Below w.heap.size w w' := by
  have h := heliastref04_Sum.calls (l.length + 300) a c (intsB l) _ w (by rw [intsB_length]; exact h) (by rw [intsB_length]; exact hc) (ref_sum l hl _ (Nat.le_refl _))
  rw [intsB_length] at h
  exact h
theorem ref_tail_any (n : Nat) (hn : n < 18446744073709551616) (w : World) :
    Calls Try.prog 34 #[.int .u64 n] w fun e w' => ∃ v, e = .returned v ∧ OwnB w' w.heap.size v (tail n) ∧ Below w.heap.size w w' :=
  heliastref04_Tail.calls 100 n _ w (ref_tail n hn 100 (Nat.le_refl _))
end Go.Proofs.Ytnhljemnebgekaa
