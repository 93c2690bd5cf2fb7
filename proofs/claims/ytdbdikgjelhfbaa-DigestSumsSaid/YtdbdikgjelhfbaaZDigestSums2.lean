/-
  Texts of this session, merged in build order: Rfx6, Rfx7, Rfx, Ref, LawPieces, Long, LawSums, RowSums, RDigestSums.
-/
import Derived.Test.YtdbdikgjelhfbaaZDigestSums0
import Derived.Test.YtdbdikgjelhfbaaZDigestSums1
import Derived.Deep.RegionHeld3
import Derived.Deep.Matrix
import Derived.Test.YtdbdikgjelhfbaaRows
set_option linter.unusedVariables false
set_option linter.unusedSimpArgs false
/-
  What the functions of these laws compute, as plain Lean functions, and that the machine's calls compute it: written by this session's own hook over the kit's print.
-/
namespace Go.Proofs.Ytdbdikgjelhfbaa.Rf
open Go.RowKit Go.Proofs.YtdbdikgjelhfbaaW.PrintWords Go.Proofs.YtdbdikgjelhfbaaW.PrintLast Go.Proofs.YtdbdikgjelhfbaaW.PrintMore
attribute [local go_sem] u32_sg u32_mx u64_sg u64_mx
attribute [local go_sem] max2_int min2_int max_two min_two max_three min_three max_four min_four   -- for this text's walks alone
set_option linter.unusedVariables false
set_option linter.unusedSimpArgs false

/-! ### heliastref04_Sum: function 17 -/
mutual
def heliastref04_Sum.l0 : Nat → List Int → List Int → Int → Option (List Int)
  | 0, _, _, _ => none
  | k + 1, x3, x5, x6 => if x6 < (x3.length : Int) then (if 0 ≤ x6 then (if x6 ≤ (wrap64 (x6 + 64)) then (if (wrap64 (x6 + 64)) ≤ (x3.length : Int) then ((heliastref04_block.f k x5 ((x3.take ((wrap64 (x6 + 64)) : Int).toNat).drop (x6 : Int).toNat)).bind fun t184 => (heliastref04_Sum.l0 k x3 t184 (wrap64 (x6 + 64)))) else (none)) else (none)) else (none)) else (heliastref04_Sum.l1 k x5 ([] : List Int) 0)
def heliastref04_Sum.l1 : Nat → List Int → List Int → Int → Option (List Int)
  | 0, _, _, _ => none
  | k + 1, x5, x7, x8 => if x8 < 8 then (if 0 ≤ x8 then (if x8 < (x5.length : Int) then ((some (([((rd x5 x8) / 16777216) % 256, ((rd x5 x8) / 65536) % 256, ((rd x5 x8) / 256) % 256, (rd x5 x8) % 256] : List Int) : List Int)).bind fun y191 => (if x7.length + y191.length < 140737488355328 then (heliastref04_Sum.l1 k x5 (x7 ++ y191) (wrap64 (x8 + 1))) else (none))) else (none)) else (none)) else (some x7)
end
def heliastref04_Sum.f (k : Nat) (l0 : List Int) : Option (List Int) := if ([] : List Int).length + l0.length < 140737488355328 then ((some (([] : List Int) ++ l0 : List Int)).bind fun y168 => ((heliastref04_Tail.f k (IntKind.u64.wrap ((l0.length : Int)))).bind fun t171 => (if y168.length + t171.length < 140737488355328 then (heliastref04_Sum.l0 k (y168 ++ t171) (([1779033703, 3144134277, 1013904242, 2773480762, 1359893119, 2600822924, 528734635, 1541459225] : List Int)) 0) else (none)))) else (none)
theorem heliastref04_Sum.mono_l : ∀ k, (∀ y0 y1 y2, LeO (heliastref04_Sum.l0 k y0 y1 y2) (heliastref04_Sum.l0 (k + 1) y0 y1 y2)) ∧ (∀ y0 y1 y2, LeO (heliastref04_Sum.l1 k y0 y1 y2) (heliastref04_Sum.l1 (k + 1) y0 y1 y2))
  | 0 => ⟨fun _ _ _ r h => by simp [heliastref04_Sum.l0] at h, fun _ _ _ r h => by simp [heliastref04_Sum.l1] at h⟩
  | k + 1 => by
    obtain ⟨ih0, ih1⟩ := heliastref04_Sum.mono_l k
    refine ⟨?_, ?_⟩
    · intro y0 y1 y2
      unfold heliastref04_Sum.l0
      repeat' first
      | (with_reducible exact ih0 _ _ _)
      | (with_reducible exact ih1 _ _ _)
      | (with_reducible exact heliastref04_Tail.mono _ _)
      | (with_reducible exact heliastref04_block.mono _ _ _)
      | (with_reducible exact LeO.refl _)
      | (with_reducible exact LeO.none _)
      | (with_reducible refine LeO.ite ?_ ?_)
      | (with_reducible refine LeO.bind ?_ (fun _ => ?_))
      | exact ih0 _ _ _
      | exact ih1 _ _ _
      | exact heliastref04_Tail.mono _ _
      | exact heliastref04_block.mono _ _ _
      | exact LeO.none _
      | refine LeO.ite ?_ ?_
      | refine LeO.bind ?_ (fun _ => ?_)
    · intro y0 y1 y2
      unfold heliastref04_Sum.l1
      repeat' first
      | (with_reducible exact ih0 _ _ _)
      | (with_reducible exact ih1 _ _ _)
      | (with_reducible exact heliastref04_Tail.mono _ _)
      | (with_reducible exact heliastref04_block.mono _ _ _)
      | (with_reducible exact LeO.refl _)
      | (with_reducible exact LeO.none _)
      | (with_reducible refine LeO.ite ?_ ?_)
      | (with_reducible refine LeO.bind ?_ (fun _ => ?_))
      | exact ih0 _ _ _
      | exact ih1 _ _ _
      | exact heliastref04_Tail.mono _ _
      | exact heliastref04_block.mono _ _ _
      | exact LeO.none _
      | refine LeO.ite ?_ ?_
      | refine LeO.bind ?_ (fun _ => ?_)
theorem heliastref04_Sum.mono : ∀ a0 k, LeO (heliastref04_Sum.f k a0) (heliastref04_Sum.f (k + 1) a0) := by
  intro a0 k
  obtain ⟨ih0, ih1⟩ := heliastref04_Sum.mono_l k
  unfold heliastref04_Sum.f
  repeat' first
      | (with_reducible exact ih0 _ _ _)
      | (with_reducible exact ih1 _ _ _)
      | (with_reducible exact heliastref04_Tail.mono _ _)
      | (with_reducible exact heliastref04_block.mono _ _ _)
      | (with_reducible exact LeO.refl _)
      | (with_reducible exact LeO.none _)
      | (with_reducible refine LeO.ite ?_ ?_)
      | (with_reducible refine LeO.bind ?_ (fun _ => ?_))
      | exact ih0 _ _ _
      | exact ih1 _ _ _
      | exact heliastref04_Tail.mono _ _
      | exact heliastref04_block.mono _ _ _
      | exact LeO.none _
      | refine LeO.ite ?_ ?_
      | refine LeO.bind ?_ (fun _ => ?_)
def heliastref04_Sum.T14 : Bool × List (List Nat × List Nat) := (true, [([], []), ([], []), ([], []), ([1, 2], [1, 2]), ([3], [3]), ([4], [4]), ([5], [5]), ([], []), ([], []), ([7, 8], [7, 8]), ([9], [9]), ([10], [10]), ([11], [11]), ([], []), ([], []), ([13, 14], [13, 14]), ([15], [15]), ([16], [16]), ([17], [17]), ([], []), ([], []), ([19, 20], [19, 20]), ([21], [21]), ([22], [22]), ([6, 12, 18, 23], [6, 12, 18, 23]), ([0, 24], [0, 24]), ([25, 25, 0, 1, 2, 3, 4, 5, 6, 7, 8, 9, 10, 11, 12, 13, 14, 15, 16, 17, 18, 19, 20, 21, 22, 23, 24, 25], [0, 25])])
def heliastref04_Sum.B14 : List Nat := [0, 0, 0, 6, 14, 30, 62, 0, 0, 384, 896, 1920, 3968, 0, 0, 24576, 57344, 122880, 253952, 0, 0, 1572864, 3670016, 7864320, 16777214, 33554431, 67108863]
theorem heliastref04_Sum.tab14 : rtab .any (opsOf Try.f17 14) = heliastref04_Sum.T14 := by kernel_rfl
theorem heliastref04_Sum.bits14 : waitsOk heliastref04_Sum.T14.2 heliastref04_Sum.B14 = true := by kernel_rfl
set_option maxHeartbeats 8000000 in
set_option maxRecDepth 100000 in
theorem heliastref04_Sum.calls (k : Nat) (A0 : Option Addr) (c0 : Nat) (l0 : List Int) (r : List Int) (w : World) (hr0 : Kd.C (Kd.int .u8) w A0 l0.length l0) (hc0 : l0.length ≤ c0) (h : heliastref04_Sum.f k l0 = some r) :
    Calls Try.prog 17 #[.slice A0 l0.length c0] w fun e w' => ∃ v0_ : Value, e = .returned (v0_) ∧ Kd.R (Kd.int .u8) 5 w' w.heap.size (fun _ => True) v0_ r ∧ Below w.heap.size w w' := by
  have HR0 := Aside0.mk hr0
  have HC0 := Aside0.mk hc0
  clear hr0 hc0
  have HB := Aside0.mk (Below.refl w.heap.size w)
  have H : (if ([] : List Int).length + l0.length < 140737488355328 then ((some (([] : List Int) ++ l0 : List Int)).bind fun y168 => ((heliastref04_Tail.f k (IntKind.u64.wrap ((l0.length : Int)))).bind fun t171 => (if y168.length + t171.length < 140737488355328 then (heliastref04_Sum.l0 k (y168 ++ t171) (([1779033703, 3144134277, 1013904242, 2773480762, 1359893119, 2600822924, 528734635, 1541459225] : List Int)) 0) else (none)))) else (none)) = some r := h
  clear h
  by_cases c2 : ([] : List Int).length + l0.length < 140737488355328
  · rw [if_pos c2] at H
    have LMc2 := Aside0.mk c2
    clear c2
    obtain ⟨y168, hy168⟩ : ∃ y_ : List Int, y_ = (([] : List Int) ++ l0) := ⟨_, rfl⟩
    replace H : ((heliastref04_Tail.f k (IntKind.u64.wrap ((l0.length : Int)))).bind fun t171 => (if y168.length + t171.length < 140737488355328 then (heliastref04_Sum.l0 k (y168 ++ t171) (([1779033703, 3144134277, 1013904242, 2773480762, 1359893119, 2600822924, 528734635, 1541459225] : List Int)) 0) else (none))) = some r := by first | (rw [hy168]; with_reducible exact H) | (have H2_ := (Option.bind_some _ _).symm.trans H; rw [hy168]; with_reducible exact H2_) | (have H2_ := (Option.bind_some _ _).symm.trans H; with_reducible exact H2_) | with_reducible exact H | (rw [hy168]; exact H) | exact H
    have Ny168 := Aside0.mk hy168
    clear hy168
    replace H := Option.bind_eq_some_iff.mp H
    obtain ⟨t171, A30, H⟩ := H
    replace H : (if y168.length + t171.length < 140737488355328 then (heliastref04_Sum.l0 k (y168 ++ t171) (([1779033703, 3144134277, 1013904242, 2773480762, 1359893119, 2600822924, 528734635, 1541459225] : List Int)) 0) else (none)) = some r := H
    have A3 := Aside0.mk A30
    clear A30
    by_cases c4 : y168.length + t171.length < 140737488355328
    · rw [if_pos c4] at H
      have LMc4 := Aside0.mk c4
      clear c4
      obtain ⟨y174, hy174⟩ : ∃ y_ : List Int, y_ = (y168 ++ t171) := ⟨_, rfl⟩
      replace H : (heliastref04_Sum.l0 k y174 (([1779033703, 3144134277, 1013904242, 2773480762, 1359893119, 2600822924, 528734635, 1541459225] : List Int)) 0) = some r := by first | (rw [hy174]; with_reducible exact H) | (have H2_ := (Option.bind_some _ _).symm.trans H; rw [hy174]; with_reducible exact H2_) | (have H2_ := (Option.bind_some _ _).symm.trans H; with_reducible exact H2_) | with_reducible exact H | (rw [hy174]; exact H) | exact H
      have Ny174 := Aside0.mk hy174
      clear hy174
      obtain ⟨y177, hy177⟩ : ∃ y_ : List Int, y_ = (([1779033703, 3144134277, 1013904242, 2773480762, 1359893119, 2600822924, 528734635, 1541459225] : List Int)) := ⟨_, rfl⟩
      replace H : (heliastref04_Sum.l0 k y174 y177 0) = some r := by first | (rw [hy177]; with_reducible exact H) | (have H2_ := (Option.bind_some _ _).symm.trans H; rw [hy177]; with_reducible exact H2_) | (have H2_ := (Option.bind_some _ _).symm.trans H; with_reducible exact H2_) | with_reducible exact H | (rw [hy177]; exact H) | exact H
      have Ny177 := Aside0.mk hy177
      clear hy177
      have H' := Aside0.mk H
      clear H
      go_enter Try.func17, Try.ntmps17
      go_wp2_with (first | ((with_reducible refine gate_builtin (b := .append) (xs := #[.tmp 9, .tmp 10]) rfl ?_); at_builtin; refine Kd.R_append_rows (Kd.int .u8) (w0 := w) w.heap.size rfl (.tmp 9) (.tmp 10) 22 5 (.int .u8 0) 1 rfl Try.underlying22 info5 rfl (by decide) (by omega) (.slice none 0 0) ([] : List Int) l0 _ _ _ (fun _ => True) (fun _ => False) rfl rfl ?aO ?aR (fun _ _ h => h) (fun _ h => h.elim) ?aF ?aB ?aS ?aL ?_; (case aR => repeat (first | exact HR0.out | (with_reducible refine Kd.C_alloc ?_ _) | (with_reducible refine Kd.C_drewN ?_ _) | (with_reducible refine Kd.C_drew ?_))); (case aB => exact (by repeat (first | (with_reducible first | exact HB.out | apply below_alloc | apply pw_below_drewN | apply below_drew1) | exact HB.out))); (case aF => exact (fun _ _ => trivial)); (case aO => exact ((Kd.R_nil _ _ _ _ (fun _ => True)))); (case aS => exact (below_size (by repeat (first | (with_reducible first | exact HB.out | apply below_alloc | apply pw_below_drewN | apply below_drew1) | exact HB.out)))); (case aL => have := LMc2.out; omega); intro v169 w5 ho hb hg hat; rw [← Ny168.out] at ho; have n0_ := Aside0.mk (hb); have n1_ := Aside0.mk (ho); clear HB; have HB := n0_; have HO170 := n1_; clear n0_ n1_; clear ho hb hg hat) | ((with_reducible refine gate_callee (f := 18) rfl ?_); refine goesL_ (some 15) rfl rfl Try.func18 (by kernel_rfl) rfl #[.int .u64 (IntKind.u64.wrap ((l0.length : Int)))] rfl (by (try simp only [List.map_toArray, List.map_cons, List.map_nil]); first | done | rfl | (simp only [List.length_drop, List.length_take]; rfl)) ?_; (with_reducible refine (heliastref04_Tail.calls k (IntKind.u64.wrap ((l0.length : Int))) t171 _ A3.out).mono ?_); rintro e w6 ⟨v172, rfl, ho0, hb⟩; refine ⟨_, rfl, ?_⟩; have n0_ := Aside0.mk (Kd.R_elder' (by (with_reducible repeat (first | apply Kd.R_alloc | apply Kd.R_drewN | apply Kd.R_drew)); exact HO170.out) (Kd.R_base ho0) hb); have n1_ := Aside0.mk (Kd.R_lower (Kd.R_new' ho0 (Kd.R_lt (by (with_reducible repeat (first | apply Kd.R_alloc | apply Kd.R_drewN | apply Kd.R_drew)); exact HO170.out))) (below_size (by repeat (first | (with_reducible first | exact HB.out | apply below_alloc | apply pw_below_drewN | apply below_drew1) | exact HB.out)))); have n2_ := Aside0.mk (below_step (by repeat (first | (with_reducible first | exact HB.out | apply below_alloc | apply pw_below_drewN | apply below_drew1) | exact HB.out)) hb); clear HO170; clear HB; have HO170 := n0_; have HO173 := n1_; have HB := n2_; clear n0_ n1_ n2_; (try clear hb); (try clear hb2); (try clear hk); (try clear hi); (try clear ho0); obtain ⟨Ao8, co8, eo8⟩ := Kd.R_slice HO173.out; subst eo8) | ((with_reducible refine gate_builtin (b := .append) (xs := #[.tmp 16, .tmp 17]) rfl ?_); at_builtin; refine Kd.R_append_rows (Kd.int .u8) (w0 := w) w.heap.size rfl (.tmp 16) (.tmp 17) 22 5 (.int .u8 0) 1 rfl Try.underlying22 info5 rfl (by decide) (by omega) v169 y168 t171 _ _ _ (fun k_ => some k_ ≠ (.slice Ao8 t171.length co8 : Value).ownBlock) (fun _ => False) rfl rfl ?aO ?aR (fun _ _ h => h) (fun _ h => h.elim) ?aF ?aB ?aS ?aL ?_; (case aR => repeat (first | exact (Kd.R_reads' HO173.out).2.2 | (with_reducible refine Kd.C_alloc ?_ _) | (with_reducible refine Kd.C_drewN ?_ _) | (with_reducible refine Kd.C_drew ?_))); (case aB => exact (by repeat (first | (with_reducible first | exact HB.out | apply below_alloc | apply pw_below_drewN | apply below_drew1) | exact HB.out))); (case aF => exact (fun k_ hk => Kd.fresh' (Kd.R_lt (by (with_reducible repeat (first | apply Kd.R_alloc | apply Kd.R_drewN | apply Kd.R_drew)); exact HO173.out)) k_ hk)); (case aO => exact (by (with_reducible repeat (first | apply Kd.R_alloc | apply Kd.R_drewN | apply Kd.R_drew)); exact Kd.R_mono HO170.out (fun _ hk => hk.2))); (case aS => exact (below_size (by repeat (first | (with_reducible first | exact HB.out | apply below_alloc | apply pw_below_drewN | apply below_drew1) | exact HB.out)))); (case aL => have := LMc4.out; omega); intro v175 w7 ho hb hg hat; rw [← Ny174.out] at ho; have n0_ := Aside0.mk (Kd.R_after (ok := (fun _ => True)) (by (with_reducible repeat (first | apply Kd.R_alloc | apply Kd.R_drewN | apply Kd.R_drew)); exact HO173.out) hg hat); have n1_ := Aside0.mk (hb); have n2_ := Aside0.mk (ho); clear HO173; clear HB; clear HO170; have HO173 := n0_; have HB := n1_; have HO176 := n2_; clear n0_ n1_ n2_; clear ho hb hg hat) | ((with_reducible refine gate_dst (N := 19) rfl ?_); refine Kd.R_lit (Kd.int .u32) _ 32 ?hg (N := 19) ?hd (xs := ([1779033703, 3144134277, 1013904242, 2773480762, 1359893119, 2600822924, 528734635, 1541459225] : List Int)) (inner := [.int .u32 1779033703, .int .u32 3144134277, .int .u32 1013904242, .int .u32 2773480762, .int .u32 1359893119, .int .u32 2600822924, .int .u32 528734635, .int .u32 1541459225]) (ok := fun _ => True) (okp := fun _ => True) ?hr ?hp (fun _ hk => hk) trivial (Below.refl _ _) (Nat.le_refl _) (by simp) ?_; (case hd => rfl); (case hg => rfl); (case hr => first | (go_simp; done) | (go_simp; rfl)); (case hp => exact (Reps.one (show Kd.M (Kd.int .u32) _ _ _ 1779033703 [.int .u32 1779033703] from rfl) (Reps.one (show Kd.M (Kd.int .u32) _ _ _ 3144134277 [.int .u32 3144134277] from rfl) (Reps.one (show Kd.M (Kd.int .u32) _ _ _ 1013904242 [.int .u32 1013904242] from rfl) (Reps.one (show Kd.M (Kd.int .u32) _ _ _ 2773480762 [.int .u32 2773480762] from rfl) (Reps.one (show Kd.M (Kd.int .u32) _ _ _ 1359893119 [.int .u32 1359893119] from rfl) (Reps.one (show Kd.M (Kd.int .u32) _ _ _ 2600822924 [.int .u32 2600822924] from rfl) (Reps.one (show Kd.M (Kd.int .u32) _ _ _ 528734635 [.int .u32 528734635] from rfl) (Reps.one (show Kd.M (Kd.int .u32) _ _ _ 1541459225 [.int .u32 1541459225] from rfl) (Reps.none _ _)))))))))); intro v178 w9 ho10 hb hg_ hnew_; clear hg_ hnew_; (first | rw [← Ny177.out] at ho10 | (simp only [Int.reduceToNat] at ho10; rw [← Ny177.out] at ho10)); have n0_ := Aside0.mk (Kd.R_below (by (with_reducible repeat (first | apply Kd.R_alloc | apply Kd.R_drewN | apply Kd.R_drew)); exact HO173.out) hb); have n1_ := Aside0.mk (Kd.R_below (by (with_reducible repeat (first | apply Kd.R_alloc | apply Kd.R_drewN | apply Kd.R_drew)); exact HO176.out) hb); have n2_ := Aside0.mk (Kd.R_lower ho10 (below_size (by repeat (first | (with_reducible first | exact HB.out | apply below_alloc | apply pw_below_drewN | apply below_drew1) | exact HB.out)))); have n3_ := Aside0.mk (below_step (by repeat (first | (with_reducible first | exact HB.out | apply below_alloc | apply pw_below_drewN | apply below_drew1) | exact HB.out)) hb); clear HO173; clear HO176; clear HB; have HO173 := n0_; have HO176 := n1_; have HO179 := n2_; have HB := n3_; clear n0_ n1_ n2_ n3_; clear hb ho10))
      go_loopg [5, 6] k (fun kq v5 v6 w' => ∃ (x5_1 : List Int) (x6_1 : Int), v6 = .int .i64 x6_1 ∧ Aside0 (heliastref04_Sum.l0 kq y174 x5_1 x6_1 = some r) ∧ Aside0 (kq ≤ k) ∧ Aside0 (Kd.R (Kd.int .u8) 5 w' w.heap.size (fun _ => True) v175 y174) ∧ Aside0 (Kd.R (Kd.int .u32) 32 w' w.heap.size (fun _ => True) v5 x5_1) ∧ Aside0 (Below w.heap.size w w'))
      case atStart => exact ⟨(y177), (0), (by first | rfl | (simp; done) | (simp [*]; done)), H', ⟨Nat.le_refl _⟩, ⟨by (with_reducible repeat (first | apply Kd.R_alloc | apply Kd.R_drewN | apply Kd.R_drew)); exact Kd.R_mono HO176.out (fun _ hk => trivial)⟩, ⟨by (with_reducible repeat (first | apply Kd.R_alloc | apply Kd.R_drewN | apply Kd.R_drew)); exact HO179.out⟩, ⟨by repeat (first | (with_reducible first | exact HB.out | apply below_alloc | apply pw_below_drewN | apply below_drew1) | exact HB.out)⟩⟩
      case round =>
        clear H'
        try clear c1
        try clear c2
        try clear p2
        try clear c4
        obtain ⟨x5_1, x6_1, rfl, HA, HK1, HO_3, HO_5, HB⟩ := hrel
        cases gk with
        | zero => exact absurd HA.out (by simp [heliastref04_Sum.l0])
        | succ k1 =>
          have H := HA.out
          clear HA
          simp only [heliastref04_Sum.l0] at H
          by_cases c11 : x6_1 < (y174.length : Int)
          · rw [if_pos c11] at H
            have c11b0 : decide (x6_1 < (y174.length : Int)) = true := decide_eq_true c11
            clear c11
            by_cases c12 : 0 ≤ x6_1
            · rw [if_pos c12] at H
              have c12b0 := eq_true c12
              have c12b1 : decide (0 ≤ x6_1) = true := decide_eq_true c12
              clear c12
              by_cases c13 : x6_1 ≤ (wrap64 (x6_1 + 64))
              · rw [if_pos c13] at H
                have c13b0 := eq_true c13
                have c13b1 : decide (x6_1 ≤ (wrap64 (x6_1 + 64))) = true := decide_eq_true c13
                by_cases c14 : (wrap64 (x6_1 + 64)) ≤ (y174.length : Int)
                · rw [if_pos c14] at H
                  have c14b0 := eq_true c14
                  have c14b1 : decide ((wrap64 (x6_1 + 64)) ≤ (y174.length : Int)) = true := decide_eq_true c14
                  obtain ⟨y180, hy180⟩ : ∃ y_ : List Int, y_ = ((y174.take ((wrap64 (x6_1 + 64)) : Int).toNat).drop (x6_1 : Int).toNat) := ⟨_, rfl⟩
                  replace H : ((heliastref04_block.f k1 x5_1 y180).bind fun t184 => (heliastref04_Sum.l0 k1 y174 t184 (wrap64 (x6_1 + 64)))) = some r := by first | (rw [hy180]; with_reducible exact H) | (have H2_ := (Option.bind_some _ _).symm.trans H; rw [hy180]; with_reducible exact H2_) | (have H2_ := (Option.bind_some _ _).symm.trans H; with_reducible exact H2_) | with_reducible exact H | (rw [hy180]; exact H) | exact H
                  have Ny180 := Aside0.mk hy180
                  clear hy180
                  replace H := Option.bind_eq_some_iff.mp H
                  obtain ⟨t184, A150, H⟩ := H
                  replace H : (heliastref04_Sum.l0 k1 y174 t184 (wrap64 (x6_1 + 64))) = some r := H
                  have A15 := Aside0.mk A150
                  clear A150
                  have H' := Aside0.mk H
                  clear H
                  obtain ⟨Ao16, co16, eo16⟩ := Kd.R_slice HO_3.out
                  subst eo16
                  have q17 : ((wrap64 (x6_1 + 64)) : Int) ≤ ((y174.length : Int) : Int) := of_decide_eq_true (by first | (with_reducible assumption) | assumption)
                  obtain ⟨i017, hi017, _, hsz17, _⟩ := info_parts info5
                  have hroom17 : y174.length ≤ co16 := (Kd.R_reads' HO_3.out).2.1
                  have hC17 : Kd.C (Kd.int .u8) _ Ao16 y174.length y174 := (Kd.R_reads' HO_3.out).2.2
                  have ql17 : (x6_1 : Int) ≤ ((wrap64 (x6_1 + 64)) : Int) := of_decide_eq_true (by first | (with_reducible assumption) | assumption)
                  have q017 : (0 : Int) ≤ (x6_1 : Int) := of_decide_eq_true (by first | (with_reducible assumption) | assumption)
                  have hcut17 := cut_mid (P := Try.prog) 22 5 .i64 .i64 Try.underlying22 hi017 1 hsz17 Ao16 y174.length co16 x6_1 (wrap64 (x6_1 + 64)) q017 ql17 q17 hroom17
                  have hr17 := Kd.C_mid (lo := (x6_1 : Int).toNat) (hi := ((wrap64 (x6_1 + 64)) : Int).toNat) (c := co16) hC17 (by omega) (by omega) hroom17
                  obtain ⟨A17, hA17⟩ : ∃ A1, A1 = (if co16 = (x6_1 : Int).toNat then Ao16 else (Ao16 : Option Addr).map (·.add ((x6_1 : Int).toNat * 1))) := ⟨_, rfl⟩
                  obtain ⟨c17, hc17⟩ : ∃ c1, c1 = co16 - (x6_1 : Int).toNat := ⟨_, rfl⟩
                  have hy17 : y180.length = ((wrap64 (x6_1 + 64)) : Int).toNat - (x6_1 : Int).toNat := (by rw [Ny180.out, List.length_drop, List.length_take] <;> omega)
                  rw [show ((y174).take ((wrap64 (x6_1 + 64)) : Int).toNat).drop (x6_1 : Int).toNat = y180 from Ny180.out.symm] at hr17
                  replace hr17 : Kd.C (Kd.int .u8) _ A17 y180.length y180 := (by rw [hA17]; exact hr17)
                  rw [← hy17, ← hA17, ← hc17] at hcut17
                  have HR183 := Aside0.mk hr17
                  have HC183 := Aside0.mk (show y180.length ≤ c17 from by rw [hy17, hc17]; exact Nat.sub_le_sub_right (Nat.le_trans (by omega) hroom17) _)
                  clear hr17 hC17 hroom17 hi017 hsz17 hc17
                  have KY17 := Aside0.mk hy17
                  have KA17 := Aside0.mk hA17
                  clear hy17 hA17
                  have KL17 := Aside0.mk (show ((wrap64 (x6_1 + 64)) : Int).toNat ≤ y174.length from by omega)
                  have KM17 := Aside0.mk (show (x6_1 : Int).toNat ≤ ((wrap64 (x6_1 + 64)) : Int).toNat from by omega)
                  replace q17 := eq_true q17
                  obtain ⟨Ao18, co18, eo18⟩ := Kd.R_slice HO_5.out
                  subst eo18
                  go_wp2_with (first | ((with_reducible refine gate_callee (f := 24) rfl ?_); refine goesL_ (some 32) rfl rfl Try.func24 (by kernel_rfl) rfl #[.slice Ao18 x5_1.length co18, .slice A17 y180.length c17] rfl (by (try simp only [List.map_toArray, List.map_cons, List.map_nil]); first | done | rfl | (simp only [List.length_drop, List.length_take]; rfl)) ?_; (with_reducible refine (heliastref04_block.calls k1 _ _ x5_1 _ _ y180 t184 _ ?side1 ?side2 ?side3 ?side4 A15.out).mono ?_); (case side1 => repeat (first | exact (Kd.R_reads' HO_5.out).2.2 | (with_reducible refine Kd.C_alloc ?_ _) | (with_reducible refine Kd.C_drewN ?_ _) | (with_reducible refine Kd.C_drew ?_))); (case side2 => exact (Kd.R_reads' HO_5.out).2.1); (case side3 => repeat (first | exact (by repeat (first | (with_reducible exact HR183.out) | (with_reducible refine Kd.C_alloc ?_ _) | (with_reducible refine Kd.C_drewN ?_ _) | (with_reducible refine Kd.C_drew ?_) | exact HR183.out)) | (with_reducible refine Kd.C_alloc ?_ _) | (with_reducible refine Kd.C_drewN ?_ _) | (with_reducible refine Kd.C_drew ?_))); (case side4 => exact HC183.out); rintro e w19 ⟨v185, rfl, ho0, hb⟩; refine ⟨_, rfl, ?_⟩; have n0_ := Aside0.mk (Kd.R_below (by (with_reducible repeat (first | apply Kd.R_alloc | apply Kd.R_drewN | apply Kd.R_drew)); exact HO_3.out) hb); have n1_ := Aside0.mk (Kd.R_elder' (by (with_reducible repeat (first | apply Kd.R_alloc | apply Kd.R_drewN | apply Kd.R_drew)); exact HO_5.out) (Kd.R_base ho0) hb); have n2_ := Aside0.mk (Kd.R_lower (Kd.R_new' ho0 (Kd.R_lt (by (with_reducible repeat (first | apply Kd.R_alloc | apply Kd.R_drewN | apply Kd.R_drew)); exact HO_5.out))) (below_size (by repeat (first | (with_reducible first | exact HB.out | apply below_alloc | apply pw_below_drewN | apply below_drew1) | exact HB.out)))); have n3_ := Aside0.mk (Kd.C_below (by repeat (first | (with_reducible exact HR183.out) | (with_reducible refine Kd.C_alloc ?_ _) | (with_reducible refine Kd.C_drewN ?_ _) | (with_reducible refine Kd.C_drew ?_) | exact HR183.out)) hb); have n4_ := Aside0.mk (below_step (by repeat (first | (with_reducible first | exact HB.out | apply below_alloc | apply pw_below_drewN | apply below_drew1) | exact HB.out)) hb); clear HO_3; clear HO_5; clear HR183; clear HB; have HO_3 := n0_; have HO_5 := n1_; have HO186 := n2_; have HR183 := n3_; have HB := n4_; clear n0_ n1_ n2_ n3_ n4_; (try clear hb); (try clear hb2); (try clear hk); (try clear hi); (try clear ho0)))
                  go_roundg k1
                  case measure => have := HK1.out; omega
                  case rel => exact ⟨(t184), (wrap64 (x6_1 + 64)), (by first | rfl | (simp; done) | (simp [*]; done)), H', ⟨by have := HK1.out; omega⟩, ⟨by (with_reducible repeat (first | apply Kd.R_alloc | apply Kd.R_drewN | apply Kd.R_drew)); exact HO_3.out⟩, ⟨by (with_reducible repeat (first | apply Kd.R_alloc | apply Kd.R_drewN | apply Kd.R_drew)); exact Kd.R_mono HO186.out (fun _ hk => trivial)⟩, ⟨by repeat (first | (with_reducible first | exact HB.out | apply below_alloc | apply pw_below_drewN | apply below_drew1) | exact HB.out)⟩⟩
                · rw [if_neg c14] at H
                  exact absurd H (by simp)
              · rw [if_neg c13] at H
                exact absurd H (by simp)
            · rw [if_neg c12] at H
              exact absurd H (by simp)
          · rw [if_neg c11] at H
            have c11b0 : decide (x6_1 < (y174.length : Int)) = false := decide_eq_false c11
            clear c11
            have H' := Aside0.mk H
            clear H
            obtain ⟨Ao20, co20, eo20⟩ := Kd.R_slice HO_3.out
            subst eo20
            go_wp2
            go_loopg [7, 8] k1 (fun kq v7 v8 w' => ∃ (x7_2 : List Int) (x8_2 : Int), v8 = .int .i64 x8_2 ∧ Aside0 (heliastref04_Sum.l1 kq x5_1 x7_2 x8_2 = some r) ∧ Aside0 (kq ≤ k1) ∧ Aside0 (Kd.R (Kd.int .u32) 32 w' w.heap.size (fun _ => True) u5 x5_1) ∧ Aside0 (Kd.R (Kd.int .u8) 5 w' w.heap.size (fun _ => True) v7 x7_2) ∧ Aside0 (Below w.heap.size w w'))
            case atStart => exact ⟨(([] : List Int)), (0), (by first | rfl | (simp; done) | (simp [*]; done)), H', ⟨Nat.le_refl _⟩, ⟨by (with_reducible repeat (first | apply Kd.R_alloc | apply Kd.R_drewN | apply Kd.R_drew)); exact HO_5.out⟩, ⟨by first | exact Kd.R_nil _ _ _ _ _ | exact Kd.N_nil _ _ _ _ _ | exact Kd.V_nil _ _ _ _ _ | exact Kd.Q_nil _ _ _ _ _ | exact Kd.S_nil _ _ _ _ _⟩, ⟨by repeat (first | (with_reducible first | exact HB.out | apply below_alloc | apply pw_below_drewN | apply below_drew1) | exact HB.out)⟩⟩
            case round =>
              clear H'
              try clear c1
              try clear q1
              try clear c2
              try clear p2
              try clear c4
              try clear p6
              try clear c11
              try clear c11b0
              try clear c12
              try clear c12b0
              try clear c12b1
              try clear c13
              try clear c13b0
              try clear c13b1
              try clear c14
              try clear c14b0
              try clear c14b1
              try clear c17
              try clear q17
              try clear c18
              try clear p2
              try clear q017
              try clear q17
              obtain ⟨x7_2, x8_2, rfl, HA, HK2, HO_5, HO_7, HB⟩ := hrel
              cases gk with
              | zero => exact absurd HA.out (by simp [heliastref04_Sum.l1])
              | succ k2 =>
                have H := HA.out
                clear HA
                simp only [heliastref04_Sum.l1] at H
                by_cases c21 : x8_2 < 8
                · rw [if_pos c21] at H
                  have c21b0 : decide (x8_2 < 8) = true := decide_eq_true c21
                  clear c21
                  by_cases c22 : 0 ≤ x8_2
                  · rw [if_pos c22] at H
                    have c22b0 : decide (0 ≤ x8_2) = true := decide_eq_true c22
                    clear c22
                    by_cases c23 : x8_2 < (x5_1.length : Int)
                    · rw [if_pos c23] at H
                      have c23b0 : decide (x8_2 < (x5_1.length : Int)) = true := decide_eq_true c23
                      clear c23
                      obtain ⟨y191, hy191⟩ : ∃ y_ : List Int, y_ = (([((rd x5_1 x8_2) / 16777216) % 256, ((rd x5_1 x8_2) / 65536) % 256, ((rd x5_1 x8_2) / 256) % 256, (rd x5_1 x8_2) % 256] : List Int)) := ⟨_, rfl⟩
                      replace H : (if x7_2.length + y191.length < 140737488355328 then (heliastref04_Sum.l1 k2 x5_1 (x7_2 ++ y191) (wrap64 (x8_2 + 1))) else (none)) = some r := by first | (rw [hy191]; with_reducible exact H) | (have H2_ := (Option.bind_some _ _).symm.trans H; rw [hy191]; with_reducible exact H2_) | (have H2_ := (Option.bind_some _ _).symm.trans H; with_reducible exact H2_) | with_reducible exact H | (rw [hy191]; exact H) | exact H
                      have Ny191 := Aside0.mk hy191
                      clear hy191
                      by_cases c24 : x7_2.length + y191.length < 140737488355328
                      · rw [if_pos c24] at H
                        have LMc24 := Aside0.mk c24
                        clear c24
                        obtain ⟨y194, hy194⟩ : ∃ y_ : List Int, y_ = (x7_2 ++ y191) := ⟨_, rfl⟩
                        replace H : (heliastref04_Sum.l1 k2 x5_1 y194 (wrap64 (x8_2 + 1))) = some r := by first | (rw [hy194]; with_reducible exact H) | (have H2_ := (Option.bind_some _ _).symm.trans H; rw [hy194]; with_reducible exact H2_) | (have H2_ := (Option.bind_some _ _).symm.trans H; with_reducible exact H2_) | with_reducible exact H | (rw [hy194]; exact H) | exact H
                        have Ny194 := Aside0.mk hy194
                        clear hy194
                        have H' := Aside0.mk H
                        clear H
                        try go_wp2
                        have n0_ := Aside0.mk (Kd.R_drew HO_5.out)
                        have n1_ := Aside0.mk (Kd.R_drew HO_7.out)
                        have n2_ := Aside0.mk (below_drew1 HB.out)
                        clear HO_5
                        clear HO_7
                        clear HB
                        have HO_5 := n0_
                        have HO_7 := n1_
                        have HB := n2_
                        clear n0_ n1_ n2_
                        obtain ⟨Ao26, co26, eo26⟩ := Kd.R_slice HO_5.out
                        (first | subst eo26 | (injection eo26 with f1_ f2_ f3_; have f4_ := f1_.symm; have f5_ := f3_.symm; clear f1_ f2_ f3_; subst f4_; subst f5_))
                        have p187 : 0 ≤ (x8_2 : Int) := of_decide_eq_true (by first | (with_reducible assumption) | assumption)
                        have q187 : x8_2 < (x5_1.length : Int) := of_decide_eq_true (by first | (with_reducible assumption) | assumption)
                        obtain ⟨ad187, e187, hx187_0⟩ := Kd.at_int (Kd.R_reads' HO_5.out).2.2 x8_2 p187 q187
                        cases e187
                        replace p187 := eq_true p187
                        replace q187 := eq_true q187
                        have p188 : 0 ≤ (x8_2 : Int) := of_decide_eq_true (by first | (with_reducible assumption) | assumption)
                        have q188 : x8_2 < (x5_1.length : Int) := of_decide_eq_true (by first | (with_reducible assumption) | assumption)
                        obtain ⟨ad188, e188, hx188_0⟩ := Kd.at_int (Kd.R_reads' HO_5.out).2.2 x8_2 p188 q188
                        obtain rfl : ad187 = ad188 := (by injection e188)
                        replace p188 := eq_true p188
                        replace q188 := eq_true q188
                        have p189 : 0 ≤ (x8_2 : Int) := of_decide_eq_true (by first | (with_reducible assumption) | assumption)
                        have q189 : x8_2 < (x5_1.length : Int) := of_decide_eq_true (by first | (with_reducible assumption) | assumption)
                        obtain ⟨ad189, e189, hx189_0⟩ := Kd.at_int (Kd.R_reads' HO_5.out).2.2 x8_2 p189 q189
                        obtain rfl : ad187 = ad189 := (by injection e189)
                        replace p189 := eq_true p189
                        replace q189 := eq_true q189
                        have p190 : 0 ≤ (x8_2 : Int) := of_decide_eq_true (by first | (with_reducible assumption) | assumption)
                        have q190 : x8_2 < (x5_1.length : Int) := of_decide_eq_true (by first | (with_reducible assumption) | assumption)
                        obtain ⟨ad190, e190, hx190_0⟩ := Kd.at_int (Kd.R_reads' HO_5.out).2.2 x8_2 p190 q190
                        obtain rfl : ad187 = ad190 := (by injection e190)
                        replace p190 := eq_true p190
                        replace q190 := eq_true q190
                        refine start_ (n := 27) (S := fun w' => w'.cell? (ad187.add (x8_2).toNat) = some (.int .u32 (rd x5_1 x8_2)) ∧ w'.cell? (ad187.add (x8_2).toNat) = some (.int .u32 (rd x5_1 x8_2)) ∧ w'.cell? (ad187.add (x8_2).toNat) = some (.int .u32 (rd x5_1 x8_2)) ∧ w'.cell? (ad187.add (x8_2).toNat) = some (.int .u32 (rd x5_1 x8_2))) (ds := [25]) #[false, false, false, false, false, false, false, false, false, false, false, false, false, false, false, false, false, false, false, false, false, false, false, false, false, false, false] (by kernel_rfl) rfl rfl ⟨hx187_0, hx188_0, hx189_0, hx190_0⟩ (fun hHeld => ?_); refine with_tabW heliastref04_Sum.tab14 heliastref04_Sum.bits14 (fun HT_ HW_ => ?_)
                        generalize wr.drew = w25 at HO_5 HO_7 HB hx187_0 hx188_0 hx189_0 hx190_0 hHeld ⊢
                        refine pure_ (i := 0) (N := some 37) (v := ?_) (a' := ?_) #[true, false, false, false, false, false, false, false, false, false, false, false, false, false, false, false, false, false, false, false, false, false, false, false, false, false, false] rfl rfl (any_of HT_.out (by kernel_rfl)) (fun _ _ _ h => h) (Or.inl ⟨by rfl, ?_⟩) ?_ ?_
                        rotate_left
                        · intro w'
                          go_simp
                          with_reducible rfl
                        rotate_left
                        · simp only [Act.put, List.setIfInBounds_toArray, List.set_cons_zero, List.set_cons_succ, i64_w, i32_w]
                          rfl
                        refine pure_ (i := 1) (N := some 38) (v := ?_) (a' := ?_) #[true, true, false, false, false, false, false, false, false, false, false, false, false, false, false, false, false, false, false, false, false, false, false, false, false, false, false] rfl rfl (any_of HT_.out (by kernel_rfl)) (fun _ _ _ h => h) (Or.inl ⟨by rfl, ?_⟩) ?_ ?_
                        rotate_left
                        · intro w'
                          go_simp
                          with_reducible rfl
                        rotate_left
                        · simp only [Act.put, List.setIfInBounds_toArray, List.set_cons_zero, List.set_cons_succ, i64_w, i32_w]
                          rfl
                        refine pure_ (i := 2) (N := some 39) (v := ?_) (a' := ?_) #[true, true, true, false, false, false, false, false, false, false, false, false, false, false, false, false, false, false, false, false, false, false, false, false, false, false, false] rfl rfl (any_of HT_.out (by kernel_rfl)) (fun _ _ _ h => h) (Or.inl ⟨by rfl, ?_⟩) ?_ ?_
                        rotate_left
                        · intro w'
                          go_simp
                          with_reducible rfl
                        rotate_left
                        · simp only [Act.put, List.setIfInBounds_toArray, List.set_cons_zero, List.set_cons_succ, i64_w, i32_w]
                          rfl
                        refine pure_ (i := 3) (N := some 40) (v := ?_) (a' := ?_) #[true, true, true, true, false, false, false, false, false, false, false, false, false, false, false, false, false, false, false, false, false, false, false, false, false, false, false] rfl rfl (any_of HT_.out (by kernel_rfl)) (fun _ _ _ h => h) (Or.inl ⟨by rfl, ?_⟩) ?_ ?_
                        rotate_left
                        · intro w'
                          go_simp
                          with_reducible rfl
                        rotate_left
                        · simp only [Act.put, List.setIfInBounds_toArray, List.set_cons_zero, List.set_cons_succ, i64_w, i32_w]
                          rfl
                        refine pure_ (i := 7) (N := some 44) (v := ?_) (a' := ?_) #[true, true, true, true, false, false, false, true, false, false, false, false, false, false, false, false, false, false, false, false, false, false, false, false, false, false, false] rfl rfl (any_of HT_.out (by kernel_rfl)) (fun _ _ _ h => h) (Or.inl ⟨by rfl, ?_⟩) ?_ ?_
                        rotate_left
                        · intro w'
                          go_simp
                          with_reducible rfl
                        rotate_left
                        · simp only [Act.put, List.setIfInBounds_toArray, List.set_cons_zero, List.set_cons_succ, i64_w, i32_w]
                          rfl
                        refine pure_ (i := 8) (N := some 45) (v := ?_) (a' := ?_) #[true, true, true, true, false, false, false, true, true, false, false, false, false, false, false, false, false, false, false, false, false, false, false, false, false, false, false] rfl rfl (any_of HT_.out (by kernel_rfl)) (fun _ _ _ h => h) (Or.inl ⟨by rfl, ?_⟩) ?_ ?_
                        rotate_left
                        · intro w'
                          go_simp
                          with_reducible rfl
                        rotate_left
                        · simp only [Act.put, List.setIfInBounds_toArray, List.set_cons_zero, List.set_cons_succ, i64_w, i32_w]
                          rfl
                        refine pure_ (i := 9) (N := some 46) (v := ?_) (a' := ?_) #[true, true, true, true, false, false, false, true, true, true, false, false, false, false, false, false, false, false, false, false, false, false, false, false, false, false, false] rfl rfl (any_of HT_.out (by kernel_rfl)) (fun _ _ _ h => h) (Or.inl ⟨by rfl, ?_⟩) ?_ ?_
                        rotate_left
                        · intro w'
                          go_simp
                          with_reducible rfl
                        rotate_left
                        · simp only [Act.put, List.setIfInBounds_toArray, List.set_cons_zero, List.set_cons_succ, i64_w, i32_w]
                          rfl
                        refine pure_ (i := 13) (N := some 50) (v := ?_) (a' := ?_) #[true, true, true, true, false, false, false, true, true, true, false, false, false, true, false, false, false, false, false, false, false, false, false, false, false, false, false] rfl rfl (any_of HT_.out (by kernel_rfl)) (fun _ _ _ h => h) (Or.inl ⟨by rfl, ?_⟩) ?_ ?_
                        rotate_left
                        · intro w'
                          go_simp
                          with_reducible rfl
                        rotate_left
                        · simp only [Act.put, List.setIfInBounds_toArray, List.set_cons_zero, List.set_cons_succ, i64_w, i32_w]
                          rfl
                        refine pure_ (i := 14) (N := some 51) (v := ?_) (a' := ?_) #[true, true, true, true, false, false, false, true, true, true, false, false, false, true, true, false, false, false, false, false, false, false, false, false, false, false, false] rfl rfl (any_of HT_.out (by kernel_rfl)) (fun _ _ _ h => h) (Or.inl ⟨by rfl, ?_⟩) ?_ ?_
                        rotate_left
                        · intro w'
                          go_simp
                          with_reducible rfl
                        rotate_left
                        · simp only [Act.put, List.setIfInBounds_toArray, List.set_cons_zero, List.set_cons_succ, i64_w, i32_w]
                          rfl
                        refine pure_ (i := 15) (N := some 52) (v := ?_) (a' := ?_) #[true, true, true, true, false, false, false, true, true, true, false, false, false, true, true, true, false, false, false, false, false, false, false, false, false, false, false] rfl rfl (any_of HT_.out (by kernel_rfl)) (fun _ _ _ h => h) (Or.inl ⟨by rfl, ?_⟩) ?_ ?_
                        rotate_left
                        · intro w'
                          go_simp
                          with_reducible rfl
                        rotate_left
                        · simp only [Act.put, List.setIfInBounds_toArray, List.set_cons_zero, List.set_cons_succ, i64_w, i32_w]
                          rfl
                        refine pure_ (i := 19) (N := some 56) (v := ?_) (a' := ?_) #[true, true, true, true, false, false, false, true, true, true, false, false, false, true, true, true, false, false, false, true, false, false, false, false, false, false, false] rfl rfl (any_of HT_.out (by kernel_rfl)) (fun _ _ _ h => h) (Or.inl ⟨by rfl, ?_⟩) ?_ ?_
                        rotate_left
                        · intro w'
                          go_simp
                          with_reducible rfl
                        rotate_left
                        · simp only [Act.put, List.setIfInBounds_toArray, List.set_cons_zero, List.set_cons_succ, i64_w, i32_w]
                          rfl
                        refine pure_ (i := 20) (N := some 57) (v := ?_) (a' := ?_) #[true, true, true, true, false, false, false, true, true, true, false, false, false, true, true, true, false, false, false, true, true, false, false, false, false, false, false] rfl rfl (any_of HT_.out (by kernel_rfl)) (fun _ _ _ h => h) (Or.inl ⟨by rfl, ?_⟩) ?_ ?_
                        rotate_left
                        · intro w'
                          go_simp
                          with_reducible rfl
                        rotate_left
                        · simp only [Act.put, List.setIfInBounds_toArray, List.set_cons_zero, List.set_cons_succ, i64_w, i32_w]
                          rfl
                        refine pure_ (i := 21) (N := some 58) (v := ?_) (a' := ?_) #[true, true, true, true, false, false, false, true, true, true, false, false, false, true, true, true, false, false, false, true, true, true, false, false, false, false, false] rfl rfl (any_of HT_.out (by kernel_rfl)) (fun _ _ _ h => h) (Or.inl ⟨by rfl, ?_⟩) ?_ ?_
                        rotate_left
                        · intro w'
                          go_simp
                          with_reducible rfl
                        rotate_left
                        · simp only [Act.put, List.setIfInBounds_toArray, List.set_cons_zero, List.set_cons_succ, i64_w, i32_w]
                          rfl
                        refine take_ (i := 4) (N := some 41) (v := ?_) (a' := ?_) #[true, true, true, true, true, false, false, true, true, true, false, false, false, true, true, true, false, false, false, true, true, true, false, false, false, false, false] rfl rfl (take_ofW HT_.out HW_.out (by kernel_rfl)) (fun _ _ _ h => h) (Or.inl ⟨by rfl, ?_⟩) hHeld ?_ ?_
                        rotate_left
                        · rintro w' ⟨s0, s1, s2, s3⟩
                          go_simp
                          with_reducible rfl
                        rotate_left
                        · simp only [Act.put, List.setIfInBounds_toArray, List.set_cons_zero, List.set_cons_succ, i64_w, i32_w]
                          rfl
                        refine pure_ (i := 5) (N := some 42) (v := ?_) (a' := ?_) #[true, true, true, true, true, true, false, true, true, true, false, false, false, true, true, true, false, false, false, true, true, true, false, false, false, false, false] rfl rfl (any_of HT_.out (by kernel_rfl)) (fun _ _ _ h => h) (Or.inl ⟨by rfl, ?_⟩) ?_ ?_
                        rotate_left
                        · intro w'
                          go_simp
                          with_reducible rfl
                        rotate_left
                        · simp only [Act.put, List.setIfInBounds_toArray, List.set_cons_zero, List.set_cons_succ, i64_w, i32_w]
                          rfl
                        refine pure_ (i := 6) (N := some 43) (v := ?_) (a' := ?_) #[true, true, true, true, true, true, true, true, true, true, false, false, false, true, true, true, false, false, false, true, true, true, false, false, false, false, false] rfl rfl (any_of HT_.out (by kernel_rfl)) (fun _ _ _ h => h) (Or.inl ⟨by rfl, ?_⟩) ?_ ?_
                        rotate_left
                        · intro w'
                          go_simp
                          with_reducible rfl
                        rotate_left
                        · simp only [Act.put, List.setIfInBounds_toArray, List.set_cons_zero, List.set_cons_succ, i64_w, i32_w]
                          rfl
                        refine take_ (i := 10) (N := some 47) (v := ?_) (a' := ?_) #[true, true, true, true, true, true, true, true, true, true, true, false, false, true, true, true, false, false, false, true, true, true, false, false, false, false, false] rfl rfl (take_ofW HT_.out HW_.out (by kernel_rfl)) (fun _ _ _ h => h) (Or.inl ⟨by rfl, ?_⟩) hHeld ?_ ?_
                        rotate_left
                        · rintro w' ⟨s0, s1, s2, s3⟩
                          go_simp
                          with_reducible rfl
                        rotate_left
                        · simp only [Act.put, List.setIfInBounds_toArray, List.set_cons_zero, List.set_cons_succ, i64_w, i32_w]
                          rfl
                        refine pure_ (i := 11) (N := some 48) (v := ?_) (a' := ?_) #[true, true, true, true, true, true, true, true, true, true, true, true, false, true, true, true, false, false, false, true, true, true, false, false, false, false, false] rfl rfl (any_of HT_.out (by kernel_rfl)) (fun _ _ _ h => h) (Or.inl ⟨by rfl, ?_⟩) ?_ ?_
                        rotate_left
                        · intro w'
                          go_simp
                          with_reducible rfl
                        rotate_left
                        · simp only [Act.put, List.setIfInBounds_toArray, List.set_cons_zero, List.set_cons_succ, i64_w, i32_w]
                          rfl
                        refine pure_ (i := 12) (N := some 49) (v := ?_) (a' := ?_) #[true, true, true, true, true, true, true, true, true, true, true, true, true, true, true, true, false, false, false, true, true, true, false, false, false, false, false] rfl rfl (any_of HT_.out (by kernel_rfl)) (fun _ _ _ h => h) (Or.inl ⟨by rfl, ?_⟩) ?_ ?_
                        rotate_left
                        · intro w'
                          go_simp
                          with_reducible rfl
                        rotate_left
                        · simp only [Act.put, List.setIfInBounds_toArray, List.set_cons_zero, List.set_cons_succ, i64_w, i32_w]
                          rfl
                        refine take_ (i := 16) (N := some 53) (v := ?_) (a' := ?_) #[true, true, true, true, true, true, true, true, true, true, true, true, true, true, true, true, true, false, false, true, true, true, false, false, false, false, false] rfl rfl (take_ofW HT_.out HW_.out (by kernel_rfl)) (fun _ _ _ h => h) (Or.inl ⟨by rfl, ?_⟩) hHeld ?_ ?_
                        rotate_left
                        · rintro w' ⟨s0, s1, s2, s3⟩
                          go_simp
                          with_reducible rfl
                        rotate_left
                        · simp only [Act.put, List.setIfInBounds_toArray, List.set_cons_zero, List.set_cons_succ, i64_w, i32_w]
                          rfl
                        refine pure_ (i := 17) (N := some 54) (v := ?_) (a' := ?_) #[true, true, true, true, true, true, true, true, true, true, true, true, true, true, true, true, true, true, false, true, true, true, false, false, false, false, false] rfl rfl (any_of HT_.out (by kernel_rfl)) (fun _ _ _ h => h) (Or.inl ⟨by rfl, ?_⟩) ?_ ?_
                        rotate_left
                        · intro w'
                          go_simp
                          with_reducible rfl
                        rotate_left
                        · simp only [Act.put, List.setIfInBounds_toArray, List.set_cons_zero, List.set_cons_succ, i64_w, i32_w]
                          rfl
                        refine pure_ (i := 18) (N := some 55) (v := ?_) (a' := ?_) #[true, true, true, true, true, true, true, true, true, true, true, true, true, true, true, true, true, true, true, true, true, true, false, false, false, false, false] rfl rfl (any_of HT_.out (by kernel_rfl)) (fun _ _ _ h => h) (Or.inl ⟨by rfl, ?_⟩) ?_ ?_
                        rotate_left
                        · intro w'
                          go_simp
                          with_reducible rfl
                        rotate_left
                        · simp only [Act.put, List.setIfInBounds_toArray, List.set_cons_zero, List.set_cons_succ, i64_w, i32_w]
                          rfl
                        refine take_ (i := 22) (N := some 59) (v := ?_) (a' := ?_) #[true, true, true, true, true, true, true, true, true, true, true, true, true, true, true, true, true, true, true, true, true, true, true, false, false, false, false] rfl rfl (take_ofW HT_.out HW_.out (by kernel_rfl)) (fun _ _ _ h => h) (Or.inl ⟨by rfl, ?_⟩) hHeld ?_ ?_
                        rotate_left
                        · rintro w' ⟨s0, s1, s2, s3⟩
                          go_simp
                          with_reducible rfl
                        rotate_left
                        · simp only [Act.put, List.setIfInBounds_toArray, List.set_cons_zero, List.set_cons_succ, i64_w, i32_w]
                          rfl
                        refine pure_ (i := 23) (N := some 60) (v := ?_) (a' := ?_) #[true, true, true, true, true, true, true, true, true, true, true, true, true, true, true, true, true, true, true, true, true, true, true, true, false, false, false] rfl rfl (any_of HT_.out (by kernel_rfl)) (fun _ _ _ h => h) (Or.inl ⟨by rfl, ?_⟩) ?_ ?_
                        rotate_left
                        · intro w'
                          go_simp
                          with_reducible rfl
                        rotate_left
                        · simp only [Act.put, List.setIfInBounds_toArray, List.set_cons_zero, List.set_cons_succ, i64_w, i32_w]
                          rfl
                        refine one_ (i := 24) (N := some 61) #[true, true, true, true, true, true, true, true, true, true, true, true, true, true, true, true, true, true, true, true, true, true, true, true, true, false, false] rfl rfl (one_of HT_.out (by kernel_rfl)) (by decide) (fun K hK => ?_)
                        refine Kd.R_lit_step (Kd.int .u8) _ 5 ?hg (N := 61) ?hd (xs := ([((rd x5_1 x8_2) / 16777216) % 256, ((rd x5_1 x8_2) / 65536) % 256, ((rd x5_1 x8_2) / 256) % 256, (rd x5_1 x8_2) % 256] : List Int)) (inner := [.int .u8 (((rd x5_1 x8_2) / 16777216) % 256), .int .u8 (((rd x5_1 x8_2) / 65536) % 256), .int .u8 (((rd x5_1 x8_2) / 256) % 256), .int .u8 ((rd x5_1 x8_2) % 256)]) (ok := fun _ => True) (okp := fun _ => True) ?hr ?hp (fun _ hk => hk) trivial (Below.refl _ _) (Nat.le_refl _) (by simp) ?_; (case hd => rfl); (case hg => rfl); (case hr => first | (go_simp; done) | (go_simp; rfl)); (case hp => exact (Reps.one (show Kd.M (Kd.int .u8) _ _ _ (((rd x5_1 x8_2) / 16777216) % 256) [.int .u8 (((rd x5_1 x8_2) / 16777216) % 256)] from rfl) (Reps.one (show Kd.M (Kd.int .u8) _ _ _ (((rd x5_1 x8_2) / 65536) % 256) [.int .u8 (((rd x5_1 x8_2) / 65536) % 256)] from rfl) (Reps.one (show Kd.M (Kd.int .u8) _ _ _ (((rd x5_1 x8_2) / 256) % 256) [.int .u8 (((rd x5_1 x8_2) / 256) % 256)] from rfl) (Reps.one (show Kd.M (Kd.int .u8) _ _ _ ((rd x5_1 x8_2) % 256) [.int .u8 ((rd x5_1 x8_2) % 256)] from rfl) (Reps.none _ _))))))
                        intro v192 w27 ho28 hb hg_ hnew_
                        have HS0_ := (hb.cell (World.block_lt_of_cell? _ _ (hHeld.1))).trans (hHeld.1)
                        have HS1_ := (hb.cell (World.block_lt_of_cell? _ _ (hHeld.2.1))).trans (hHeld.2.1)
                        have HS2_ := (hb.cell (World.block_lt_of_cell? _ _ (hHeld.2.2.1))).trans (hHeld.2.2.1)
                        have HS3_ := (hb.cell (World.block_lt_of_cell? _ _ (hHeld.2.2.2))).trans (hHeld.2.2.2)
                        clear hg_ hnew_
                        (first | rw [← Ny191.out] at ho28 | (simp only [Int.reduceToNat] at ho28; rw [← Ny191.out] at ho28))
                        have n0_ := Aside0.mk (Kd.R_below (by (with_reducible repeat (first | apply Kd.R_alloc | apply Kd.R_drewN | apply Kd.R_drew)); exact HO_5.out) hb)
                        have n1_ := Aside0.mk (Kd.R_elder' (by (with_reducible repeat (first | apply Kd.R_alloc | apply Kd.R_drewN | apply Kd.R_drew)); exact HO_7.out) (Kd.R_base ho28) hb)
                        have n2_ := Aside0.mk (Kd.R_lower (Kd.R_new' ho28 (Kd.R_lt (by (with_reducible repeat (first | apply Kd.R_alloc | apply Kd.R_drewN | apply Kd.R_drew)); exact HO_7.out))) (below_size (by repeat (first | (with_reducible first | exact HB.out | apply below_alloc | apply pw_below_drewN | apply below_drew1) | exact HB.out))))
                        have n3_ := Aside0.mk (below_step (by repeat (first | (with_reducible first | exact HB.out | apply below_alloc | apply pw_below_drewN | apply below_drew1) | exact HB.out)) hb)
                        clear HO_5
                        clear HO_7
                        clear HB
                        have HO_5 := n0_
                        have HO_7 := n1_
                        have HO193 := n2_
                        have HB := n3_
                        clear n0_ n1_ n2_ n3_
                        clear hb ho28
                        obtain ⟨Ao30, co30, eo30⟩ := Kd.R_slice HO193.out
                        (first | subst eo30 | (injection eo30 with f1_ f2_ f3_; have f4_ := f1_.symm; have f5_ := f3_.symm; clear f1_ f2_ f3_; subst f4_; subst f5_))
                        refine hK.out _ _ ⟨HS0_, HS1_, HS2_, HS3_⟩ (fun hHeld => ?_)
                        clear hK K
                        refine norm_ (a' := ?_) ?_ ?_
                        rotate_left
                        · show Act.put _ (some 61) _ = _
                          simp only [Act.put, List.setIfInBounds_toArray, List.set_cons_zero, List.set_cons_succ, i64_w, i32_w]
                          rfl
                        refine last_ (i := 25) (N := some 62) #[true, true, true, true, true, true, true, true, true, true, true, true, true, true, true, true, true, true, true, true, true, true, true, true, true, true, false] rfl rfl (one_of HT_.out (by kernel_rfl)) (by decide) (fun K hK => ?_)
                        refine Kd.R_append_rows_step (Kd.int .u8) (w0 := w) w.heap.size (by rfl) (.tmp 37) (.tmp 61) 22 5 (.int .u8 0) 1 rfl Try.underlying22 info5 rfl (by decide) (by omega) u7 x7_2 y191 _ _ _ (fun k_ => some k_ ≠ (.slice Ao30 y191.length co30 : Value).ownBlock) (fun _ => False) rfl rfl ?aO ?aR (fun _ _ h => h) (fun _ h => h.elim) ?aF ?aB ?aS ?aL ?_
                        (case aR => repeat (first | exact (Kd.R_reads' HO193.out).2.2 | (with_reducible refine Kd.C_alloc ?_ _) | (with_reducible refine Kd.C_drewN ?_ _) | (with_reducible refine Kd.C_drew ?_)))
                        (case aB => exact (by repeat (first | (with_reducible first | exact HB.out | apply below_alloc | apply pw_below_drewN | apply below_drew1) | exact HB.out)))
                        (case aF => exact (fun k_ hk => Kd.fresh' (Kd.R_lt (by (with_reducible repeat (first | apply Kd.R_alloc | apply Kd.R_drewN | apply Kd.R_drew)); exact HO193.out)) k_ hk))
                        (case aO => exact (by (with_reducible repeat (first | apply Kd.R_alloc | apply Kd.R_drewN | apply Kd.R_drew)); exact Kd.R_mono HO_7.out (fun _ hk => hk.2)))
                        (case aS => exact (below_size (by repeat (first | (with_reducible first | exact HB.out | apply below_alloc | apply pw_below_drewN | apply below_drew1) | exact HB.out))))
                        (case aL => have := LMc24.out; omega)
                        intro v195 w29 ho hb hg hat
                        rw [← Ny194.out] at ho
                        have n0_ := Aside0.mk (Kd.R_over' (by (with_reducible repeat (first | apply Kd.R_alloc | apply Kd.R_drewN | apply Kd.R_drew)); exact HO_5.out) (Kd.R_typed (by (with_reducible repeat (first | apply Kd.R_alloc | apply Kd.R_drewN | apply Kd.R_drew)); exact HO_7.out)) (by decide) hg)
                        have n1_ := Aside0.mk (Kd.R_after (ok := (fun _ => True)) (by (with_reducible repeat (first | apply Kd.R_alloc | apply Kd.R_drewN | apply Kd.R_drew)); exact HO193.out) hg hat)
                        have n2_ := Aside0.mk (hb)
                        have n3_ := Aside0.mk (ho)
                        clear HO_5
                        clear HO193
                        clear HB
                        clear HO_7
                        have HO_5 := n0_
                        have HO193 := n1_
                        have HB := n2_
                        have HO196 := n3_
                        clear n0_ n1_ n2_ n3_
                        clear ho hb hg hat
                        refine hK.out _ _ ?_
                        clear hK K
                        refine norm_ (a' := ?_) ?_ ?_
                        rotate_left
                        · show Act.put _ (some 62) _ = _
                          simp only [Act.put, List.setIfInBounds_toArray, List.set_cons_zero, List.set_cons_succ, i64_w, i32_w]
                          rfl
                        refine pure_ (i := 26) (N := some 7) (v := ?_) (a' := ?_) #[true, true, true, true, true, true, true, true, true, true, true, true, true, true, true, true, true, true, true, true, true, true, true, true, true, true, true] rfl rfl (any_of HT_.out (by kernel_rfl)) (fun _ _ _ h => h) (Or.inl ⟨by rfl, ?_⟩) ?_ ?_
                        rotate_left
                        · intro w'
                          go_simp
                          with_reducible rfl
                        rotate_left
                        · simp only [Act.put, List.setIfInBounds_toArray, List.set_cons_zero, List.set_cons_succ, i64_w, i32_w]
                          rfl
                        refine done_ (done_of HT_.out (by kernel_rfl)) ?_
                        try go_wp2
                        go_roundg k2
                        case measure => have := HK1.out; have := HK2.out; omega
                        case rel => exact ⟨(y194), (wrap64 (x8_2 + 1)), (by first | rfl | (simp; done) | (simp [*]; done)), H', ⟨by have := HK1.out; have := HK2.out; omega⟩, ⟨by (with_reducible repeat (first | apply Kd.R_alloc | apply Kd.R_drewN | apply Kd.R_drew)); exact HO_5.out⟩, ⟨by (with_reducible repeat (first | apply Kd.R_alloc | apply Kd.R_drewN | apply Kd.R_drew)); exact Kd.R_mono HO196.out (fun _ hk => trivial)⟩, ⟨by repeat (first | (with_reducible first | exact HB.out | apply below_alloc | apply pw_below_drewN | apply below_drew1) | exact HB.out)⟩⟩
                      · rw [if_neg c24] at H
                        exact absurd H (by simp)
                    · rw [if_neg c23] at H
                      exact absurd H (by simp)
                  · rw [if_neg c22] at H
                    exact absurd H (by simp)
                · rw [if_neg c21] at H
                  have c21b0 : decide (x8_2 < 8) = false := decide_eq_false c21
                  clear c21
                  obtain rfl := Option.some.inj H
                  go_wp2
                  go_ret
                  exact ⟨_, by first | rfl | (simp [errW_none, errW_some] <;> rfl) | (simp [*, errW_none, errW_some] <;> rfl), by (with_reducible repeat (first | apply Kd.R_alloc | apply Kd.R_drewN | apply Kd.R_drew)); exact HO_7.out, by repeat (first | (with_reducible first | exact HB.out | apply below_alloc | apply pw_below_drewN | apply below_drew1) | exact HB.out)⟩
    · rw [if_neg c4] at H
      exact absurd H (by simp)
  · rw [if_neg c2] at H
    exact absurd H (by simp)

end Go.Proofs.Ytdbdikgjelhfbaa.Rf

/-
  What the functions of these laws compute, as plain Lean functions, and that the machine's calls compute it: written by this session's own hook over the kit's print.
-/
namespace Go.Proofs.Ytdbdikgjelhfbaa.Rf
open Go.RowKit Go.Proofs.YtdbdikgjelhfbaaW.PrintWords Go.Proofs.YtdbdikgjelhfbaaW.PrintLast Go.Proofs.YtdbdikgjelhfbaaW.PrintMore
attribute [local go_sem] u32_sg u32_mx u64_sg u64_mx
attribute [local go_sem] max2_int min2_int max_two min_two max_three min_three max_four min_four   -- for this text's walks alone
set_option linter.unusedVariables false
set_option linter.unusedSimpArgs false

/-! ### heliastref04_Same: function 13 -/
def heliastref04_Same.l0 : Nat → List Int → List Int → Int → Option (Bool)
  | 0, _, _, _ => none
  | k + 1, x0, x1, x5 => if x5 < (x0.length : Int) then (if 0 ≤ x5 then (if x5 < (x1.length : Int) then (if (rd x0 x5) = (rd x1 x5) then (heliastref04_Same.l0 k x0 x1 (wrap64 (x5 + 1))) else (some false)) else (none)) else (none)) else (some true)
def heliastref04_Same.f (k : Nat) (l0 : List Int) (l1 : List Int) : Option (Bool) := if (l0.length : Int) = (l1.length : Int) then (heliastref04_Same.l0 k l0 l1 0) else (some false)
theorem heliastref04_Same.mono_l : ∀ k, (∀ y0 y1 y2, LeO (heliastref04_Same.l0 k y0 y1 y2) (heliastref04_Same.l0 (k + 1) y0 y1 y2))
  | 0 => fun _ _ _ r h => by simp [heliastref04_Same.l0] at h
  | k + 1 => by
    have ih0 := heliastref04_Same.mono_l k
    · intro y0 y1 y2
      unfold heliastref04_Same.l0
      repeat' first
      | (with_reducible exact ih0 _ _ _)
      | (with_reducible exact LeO.refl _)
      | (with_reducible exact LeO.none _)
      | (with_reducible refine LeO.ite ?_ ?_)
      | (with_reducible refine LeO.bind ?_ (fun _ => ?_))
      | exact ih0 _ _ _
      | exact LeO.none _
      | refine LeO.ite ?_ ?_
      | refine LeO.bind ?_ (fun _ => ?_)
theorem heliastref04_Same.mono : ∀ a0 a1 k, LeO (heliastref04_Same.f k a0 a1) (heliastref04_Same.f (k + 1) a0 a1) := by
  intro a0 a1 k
  have ih0 := heliastref04_Same.mono_l k
  unfold heliastref04_Same.f
  repeat' first
      | (with_reducible exact ih0 _ _ _)
      | (with_reducible exact LeO.refl _)
      | (with_reducible exact LeO.none _)
      | (with_reducible refine LeO.ite ?_ ?_)
      | (with_reducible refine LeO.bind ?_ (fun _ => ?_))
      | exact ih0 _ _ _
      | exact LeO.none _
      | refine LeO.ite ?_ ?_
      | refine LeO.bind ?_ (fun _ => ?_)
set_option maxHeartbeats 8000000 in
set_option maxRecDepth 100000 in
theorem heliastref04_Same.calls (k : Nat) (A0 : Option Addr) (c0 : Nat) (l0 : List Int) (A1 : Option Addr) (c1 : Nat) (l1 : List Int) (r : Bool) (w : World) (hr0 : Kd.C (Kd.int .u8) w A0 l0.length l0) (hc0 : l0.length ≤ c0) (hr1 : Kd.C (Kd.int .u8) w A1 l1.length l1) (hc1 : l1.length ≤ c1) (h : heliastref04_Same.f k l0 l1 = some r) :
    Calls Try.prog 13 #[.slice A0 l0.length c0, .slice A1 l1.length c1] w fun e w' => e = .returned (.bool r) ∧ Drawn0 w w' := by
  have HR0 := Aside0.mk hr0
  have HC0 := Aside0.mk hc0
  clear hr0 hc0
  have HR1 := Aside0.mk hr1
  have HC1 := Aside0.mk hc1
  clear hr1 hc1
  have H : (if (l0.length : Int) = (l1.length : Int) then (heliastref04_Same.l0 k l0 l1 0) else (some false)) = some r := h
  clear h
  by_cases c3 : (l0.length : Int) = (l1.length : Int)
  · rw [if_pos c3] at H
    have c3b0 : ((l0.length : Int) == (l1.length : Int)) = true := beq_iff_eq.mpr c3
    have c3b1 : ((l0.length : Int) != (l1.length : Int)) = false := bne_eq_false_iff_eq.mpr c3
    have c3b2 : (l0.length == l1.length) = true := by first | simpa using c3 | (simp at c3 ⊢; omega)
    clear c3
    have H' := Aside0.mk H
    clear H
    go_enter Try.func13, Try.ntmps13
    go_wp2
    repeat (go_quiet (fail); try go_wp2)
    go_loopg [5] k (fun kq v5 w' => ∃ (x5_1 : Int), v5 = .int .i64 x5_1 ∧ Aside0 (heliastref04_Same.l0 kq l0 l1 x5_1 = some r) ∧ Aside0 (kq ≤ k) ∧ Drawn0 w w')
    case atStart => exact ⟨(0), (by first | rfl | (simp; done) | (simp [*]; done)), H', ⟨Nat.le_refl _⟩, by repeat (first | exact Drawn0.refl _ | apply Drawn0.step)⟩
    case round =>
      clear H'
      try clear c1
      try clear p2
      try clear c3
      try clear c3b0
      try clear c3b1
      try clear c3b2
      obtain ⟨x5_1, rfl, HA, HK1, ⟨m1, rfl⟩⟩ := hrel
      cases gk with
      | zero => exact absurd HA.out (by simp [heliastref04_Same.l0])
      | succ k1 =>
        have H := HA.out
        clear HA
        simp only [heliastref04_Same.l0] at H
        by_cases c4 : x5_1 < (l0.length : Int)
        · rw [if_pos c4] at H
          have c4b0 : decide (x5_1 < (l0.length : Int)) = true := decide_eq_true c4
          clear c4
          by_cases c5 : 0 ≤ x5_1
          · rw [if_pos c5] at H
            have c5b0 : decide (0 ≤ x5_1) = true := decide_eq_true c5
            clear c5
            by_cases c6 : x5_1 < (l1.length : Int)
            · rw [if_pos c6] at H
              have c6b0 : decide (x5_1 < (l1.length : Int)) = true := decide_eq_true c6
              clear c6
              by_cases c7 : (rd l0 x5_1) = (rd l1 x5_1)
              · rw [if_pos c7] at H
                have c7b0 : ((rd l0 x5_1) == (rd l1 x5_1)) = true := beq_iff_eq.mpr c7
                have c7b1 : ((rd l0 x5_1) != (rd l1 x5_1)) = false := bne_eq_false_iff_eq.mpr c7
                clear c7
                have H' := Aside0.mk H
                clear H
                have p197 : 0 ≤ (x5_1 : Int) := of_decide_eq_true (by first | (with_reducible assumption) | assumption)
                have q197 : x5_1 < (l0.length : Int) := of_decide_eq_true (by first | (with_reducible assumption) | assumption)
                obtain ⟨ad197, e197, hx197_0⟩ := Kd.at_int HR0.out x5_1 p197 q197
                cases e197
                replace p197 := eq_true p197
                replace q197 := eq_true q197
                have p198 : 0 ≤ (x5_1 : Int) := of_decide_eq_true (by first | (with_reducible assumption) | assumption)
                have q198 : x5_1 < (l1.length : Int) := of_decide_eq_true (by first | (with_reducible assumption) | assumption)
                obtain ⟨ad198, e198, hx198_0⟩ := Kd.at_int HR1.out x5_1 p198 q198
                cases e198
                replace p198 := eq_true p198
                replace q198 := eq_true q198
                go_wp2
                repeat (go_quiet (fail); try go_wp2)
                go_roundg k1
                case measure => have := HK1.out; omega
                case rel => exact ⟨(wrap64 (x5_1 + 1)), (by first | rfl | (simp; done) | (simp [*]; done)), H', ⟨by have := HK1.out; omega⟩, by repeat (first | exact Drawn0.refl _ | apply Drawn0.step)⟩
              · rw [if_neg c7] at H
                have c7b0 : ((rd l0 x5_1) == (rd l1 x5_1)) = false := beq_eq_false_iff_ne.mpr c7
                have c7b1 : ((rd l0 x5_1) != (rd l1 x5_1)) = true := bne_iff_ne.mpr c7
                obtain rfl := Option.some.inj H
                have p197 : 0 ≤ (x5_1 : Int) := of_decide_eq_true (by first | (with_reducible assumption) | assumption)
                have q197 : x5_1 < (l0.length : Int) := of_decide_eq_true (by first | (with_reducible assumption) | assumption)
                obtain ⟨ad197, e197, hx197_0⟩ := Kd.at_int HR0.out x5_1 p197 q197
                cases e197
                replace p197 := eq_true p197
                replace q197 := eq_true q197
                have p198 : 0 ≤ (x5_1 : Int) := of_decide_eq_true (by first | (with_reducible assumption) | assumption)
                have q198 : x5_1 < (l1.length : Int) := of_decide_eq_true (by first | (with_reducible assumption) | assumption)
                obtain ⟨ad198, e198, hx198_0⟩ := Kd.at_int HR1.out x5_1 p198 q198
                cases e198
                replace p198 := eq_true p198
                replace q198 := eq_true q198
                go_wp2
                repeat (go_quiet (fail); try go_wp2)
                go_ret
                exact ⟨by first | rfl | (simp; done) | (simp [*]; done), by repeat (first | exact Drawn0.refl _ | apply Drawn0.step)⟩
            · rw [if_neg c6] at H
              exact absurd H (by simp)
          · rw [if_neg c5] at H
            exact absurd H (by simp)
        · rw [if_neg c4] at H
          have c4b0 : decide (x5_1 < (l0.length : Int)) = false := decide_eq_false c4
          clear c4
          obtain rfl := Option.some.inj H
          go_wp2
          repeat (go_quiet (fail); try go_wp2)
          go_ret
          exact ⟨by first | rfl | (simp; done) | (simp [*]; done), by repeat (first | exact Drawn0.refl _ | apply Drawn0.step)⟩
  · rw [if_neg c3] at H
    have c3b0 : ((l0.length : Int) == (l1.length : Int)) = false := beq_eq_false_iff_ne.mpr c3
    have c3b1 : ((l0.length : Int) != (l1.length : Int)) = true := bne_iff_ne.mpr c3
    have c3b2 : (l0.length == l1.length) = false := by first | simpa using c3 | (simp at c3 ⊢; omega)
    obtain rfl := Option.some.inj H
    go_enter Try.func13, Try.ntmps13
    go_wp2
    repeat (go_quiet (fail); try go_wp2)
    go_ret
    exact ⟨by first | rfl | (simp; done) | (simp [*]; done), by repeat (first | exact Drawn0.refl _ | apply Drawn0.step)⟩

/-- THE ONE PURE STATEMENT of heliastref04_Same: yours. -/
def heliastref04_Same.Pure : Prop := ∀ (l0 : List Int) (l1 : List Int), l0.length ≤ maxLen → l0.length * 1 ≤ 140737488351232 → (∀ x ∈ l0, (Lit.int .u8 x).wf = true) → l1.length ≤ maxLen → l1.length * 1 ≤ 140737488351232 → (∀ x ∈ l1, (Lit.int .u8 x).wf = true) → ∃ k, heliastref04_Same.f k l0 l1 = some true
theorem heliastref04_Same.walk (P : heliastref04_Same.Pure) (a0 : Option Addr) (len0 cap0 : Nat) (z0 : List Int) (a1 : Option Addr) (len1 cap1 : Nat) (z1 : List Int) (w : World) (w0 : (a0 = none ∧ len0 = 0 ∧ cap0 = 0 ∧ z0 = []) ∨ ∃ x, a0 = some x ∧ len0 ≤ cap0 ∧ cap0 ≤ maxLen ∧ z0.length = cap0 ∧ (∀ i, i < z0.length → w.cell? (x.add i) = some (.int .u8 (z0.getD i 0))) ∧ ∀ n ∈ z0, (Lit.int .u8 n).wf = true) (y0 : len0 * 1 ≤ 140737488351232) (w1 : (a1 = none ∧ len1 = 0 ∧ cap1 = 0 ∧ z1 = []) ∨ ∃ x, a1 = some x ∧ len1 ≤ cap1 ∧ cap1 ≤ maxLen ∧ z1.length = cap1 ∧ (∀ i, i < z1.length → w.cell? (x.add i) = some (.int .u8 (z1.getD i 0))) ∧ ∀ n ∈ z1, (Lit.int .u8 n).wf = true) (y1 : len1 * 1 ≤ 140737488351232) :
    Calls Try.prog 13 #[.slice a0 len0 cap0, .slice a1 len1 cap1] w fun e w' => e = .returned (.bool true) ∧ Below w.heap.size w w' := by
  obtain ⟨l0, rfl, hr0, hm0, hw0, hc0⟩ := ReadsInt.ofRowC w0
  obtain ⟨l1, rfl, hr1, hm1, hw1, hc1⟩ := ReadsInt.ofRowC w1
  obtain ⟨k, h⟩ := P l0 l1 hm0 y0 hw0 hm1 y1 hw1
  refine (heliastref04_Same.calls k _ _ l0 _ _ l1 true w (Kd.C_of_reads (d := (0 : Int)) (h1 := fun _ => rfl) hr0) hc0 (Kd.C_of_reads (d := (0 : Int)) (h1 := fun _ => rfl) hr1) hc1 h).mono ?_
  rintro e w' ⟨rfl, hd⟩
  exact ⟨rfl, hd.below⟩

end Go.Proofs.Ytdbdikgjelhfbaa.Rf

/-
  What the functions of these laws compute, as plain Lean functions, and that the machine's calls compute it: written by this session's own hook over the kit's print.
-/
namespace Go.Proofs.Ytdbdikgjelhfbaa.Rf
open Go.RowKit Go.Proofs.YtdbdikgjelhfbaaW.PrintWords Go.Proofs.YtdbdikgjelhfbaaW.PrintLast Go.Proofs.YtdbdikgjelhfbaaW.PrintMore
attribute [local go_sem] u32_sg u32_mx u64_sg u64_mx
attribute [local go_sem] max2_int min2_int max_two min_two max_three min_three max_four min_four   -- for this text's walks alone
set_option linter.unusedVariables false
set_option linter.unusedSimpArgs false

end Go.Proofs.Ytdbdikgjelhfbaa.Rf

/-
  The reference's Sum, Same and Tail of chapter 4, as the print tells them, tell the plain sum, the plain tail and whether two rows are the same.
-/
namespace Go.Proofs.Ytdbdikgjelhfbaa
set_option linter.unusedVariables false
set_option linter.unusedSimpArgs false
open Sha Go.RowKit Go.Proofs.YtdbdikgjelhfbaaW.PrintWords Go.Proofs.YtdbdikgjelhfbaaW.PrintLast Go.Proofs.YtdbdikgjelhfbaaW.PrintMore Go.Proofs.Ytdbdikgjelhfbaa.Rf
/-- Words as numbers. -/
def intsW (l : List Sha.W) : List Int := l.map fun x => (x.toNat : Int)
theorem intsW_length (l : List Sha.W) : (intsW l).length = l.length := by simp [intsW]
theorem rd_getD (l : List Int) (i : Nat) : rd l (i : Int) = l.getD i 0 := by simp [rd]
theorem rd_intsW (l : List Sha.W) (i : Nat) : rd (intsW l) (i : Int) = ((l.getD i 0).toNat : Int) := by
  rw [rd_getD, intsW, List.getD_eq_getElem?_getD, List.getElem?_map, List.getD_eq_getElem?_getD]
  cases l[i]? <;> simp
theorem rd_intsB (l : List UInt8) (i : Nat) : rd (intsB l) (i : Int) = ((l.getD i 0).toNat : Int) := by
  rw [rd_getD, intsB, List.getD_eq_getElem?_getD, List.getElem?_map, List.getD_eq_getElem?_getD]
  cases l[i]? <;> simp
theorem ref_turn (x : Sha.W) (n : Nat) (h : n ≤ 32) : heliastref04_turn.f (x.toNat : Int) (n : Int) = some ((turn x n).toNat : Int) := by
  unfold heliastref04_turn.f
  have e1 : IntKind.u64.wrap (32 - (n : Int)) = ((32 - n : Nat) : Int) := by rw [IntKind.wrap_u64]; omega
  have e2 : shr .u32 (x.toNat : Int) (n : Int) = ((x >>> n).toNat : Int) := by
    unfold shr
    rw [Int.toNat_natCast, show IntKind.bits .u32 = 32 from rfl, Nat.min_eq_left h, BitVec.toNat_ushiftRight, Nat.shiftRight_eq_div_pow]
    simp
  have e3 : shl .u32 (x.toNat : Int) ((32 - n : Nat) : Int) = ((x <<< (32 - n)).toNat : Int) := by
    unfold shl
    rw [Int.toNat_natCast, show IntKind.bits .u32 = 32 from rfl, Nat.min_eq_left (by omega), IntKind.wrap_u32, BitVec.toNat_shiftLeft, Nat.shiftLeft_eq]
    simp
  rw [e1, if_pos (by omega), if_pos (by omega), e2, e3, or_nat, BitVec.or_comm]
  rfl
theorem rturn_2 (x : Sha.W) : heliastref04_turn.f (x.toNat : Int) 2 = some ((turn x 2).toNat : Int) := by
  have h := ref_turn x 2 (by decide)
  rwa [show ((2 : Nat) : Int) = 2 from rfl] at h
theorem rturn_6 (x : Sha.W) : heliastref04_turn.f (x.toNat : Int) 6 = some ((turn x 6).toNat : Int) := by
  have h := ref_turn x 6 (by decide)
  rwa [show ((6 : Nat) : Int) = 6 from rfl] at h
theorem rturn_7 (x : Sha.W) : heliastref04_turn.f (x.toNat : Int) 7 = some ((turn x 7).toNat : Int) := by
  have h := ref_turn x 7 (by decide)
  rwa [show ((7 : Nat) : Int) = 7 from rfl] at h
theorem rturn_11 (x : Sha.W) : heliastref04_turn.f (x.toNat : Int) 11 = some ((turn x 11).toNat : Int) := by
  have h := ref_turn x 11 (by decide)
  rwa [show ((11 : Nat) : Int) = 11 from rfl] at h
theorem rturn_13 (x : Sha.W) : heliastref04_turn.f (x.toNat : Int) 13 = some ((turn x 13).toNat : Int) := by
  have h := ref_turn x 13 (by decide)
  rwa [show ((13 : Nat) : Int) = 13 from rfl] at h
theorem rturn_17 (x : Sha.W) : heliastref04_turn.f (x.toNat : Int) 17 = some ((turn x 17).toNat : Int) := by
  have h := ref_turn x 17 (by decide)
  rwa [show ((17 : Nat) : Int) = 17 from rfl] at h
theorem rturn_18 (x : Sha.W) : heliastref04_turn.f (x.toNat : Int) 18 = some ((turn x 18).toNat : Int) := by
  have h := ref_turn x 18 (by decide)
  rwa [show ((18 : Nat) : Int) = 18 from rfl] at h
theorem rturn_19 (x : Sha.W) : heliastref04_turn.f (x.toNat : Int) 19 = some ((turn x 19).toNat : Int) := by
  have h := ref_turn x 19 (by decide)
  rwa [show ((19 : Nat) : Int) = 19 from rfl] at h
theorem rturn_22 (x : Sha.W) : heliastref04_turn.f (x.toNat : Int) 22 = some ((turn x 22).toNat : Int) := by
  have h := ref_turn x 22 (by decide)
  rwa [show ((22 : Nat) : Int) = 22 from rfl] at h
theorem rturn_25 (x : Sha.W) : heliastref04_turn.f (x.toNat : Int) 25 = some ((turn x 25).toNat : Int) := by
  have h := ref_turn x 25 (by decide)
  rwa [show ((25 : Nat) : Int) = 25 from rfl] at h
theorem or_sum (a b i : Nat) (h : b < 2 ^ i) : a * 2 ^ i ||| b = a * 2 ^ i + b := by
  have := Nat.two_pow_add_eq_or_of_lt h a
  rw [Nat.mul_comm] at this
  exact this.symm
theorem push_toNat (w : Sha.W) (c : UInt8) (h : w.toNat < 2 ^ 24) : (push w c).toNat = w.toNat * 256 + c.toNat := by
  have hc := c.toNat_lt
  have h1 := push_nat w c
  have e1 : (w.toNat : Int) * 256 % 4294967296 = ((w.toNat * 256 : Nat) : Int) := by omega
  rw [e1, u32_or_nat _ _ (by omega) (by omega)] at h1
  have h2 : w.toNat * 256 ||| c.toNat = w.toNat * 256 + c.toNat := or_sum w.toNat c.toNat 8 (by omega)
  omega
theorem four_toNat (c0 c1 c2 c3 : UInt8) : (four [c0, c1, c2, c3]).toNat = c0.toNat * 16777216 + c1.toNat * 65536 + c2.toNat * 256 + c3.toNat := by
  have h0 := c0.toNat_lt; have h1 := c1.toNat_lt; have h2 := c2.toNat_lt; have h3 := c3.toNat_lt
  have e : four [c0, c1, c2, c3] = push (push (push (push 0 c0) c1) c2) c3 := rfl
  have p0 := push_toNat 0 c0 (by decide)
  rw [show (0 : Sha.W).toNat = 0 from rfl] at p0
  have p1 := push_toNat (push 0 c0) c1 (by omega)
  have p2 := push_toNat (push (push 0 c0) c1) c2 (by omega)
  have p3 := push_toNat (push (push (push 0 c0) c1) c2) c3 (by omega)
  rw [e, p3, p2, p1, p0]; omega
theorem four_int (c0 c1 c2 c3 : UInt8) : Go.bits .or .u32 (Go.bits .or .u32 (Go.bits .or .u32 ((((c0.toNat : Int) % 4294967296) * 16777216) % 4294967296) ((((c1.toNat : Int) % 4294967296) * 65536) % 4294967296)) ((((c2.toNat : Int) % 4294967296) * 256) % 4294967296)) ((c3.toNat : Int) % 4294967296) = ((four [c0, c1, c2, c3]).toNat : Int) := by
  have h0 := c0.toNat_lt; have h1 := c1.toNat_lt; have h2 := c2.toNat_lt; have h3 := c3.toNat_lt
  have e0 : (((c0.toNat : Int) % 4294967296) * 16777216) % 4294967296 = ((c0.toNat * 2 ^ 24 : Nat) : Int) := by omega
  have e1 : (((c1.toNat : Int) % 4294967296) * 65536) % 4294967296 = ((c1.toNat * 65536 : Nat) : Int) := by omega
  have e2 : (((c2.toNat : Int) % 4294967296) * 256) % 4294967296 = ((c2.toNat * 256 : Nat) : Int) := by omega
  have e3 : (c3.toNat : Int) % 4294967296 = (c3.toNat : Int) := by omega
  have s1 := or_sum c0.toNat (c1.toNat * 65536) 24 (by omega)
  have s2 := or_sum (c0.toNat * 256 + c1.toNat) (c2.toNat * 256) 16 (by omega)
  have s3 := or_sum (c0.toNat * 65536 + c1.toNat * 256 + c2.toNat) c3.toNat 8 (by omega)
  rw [e0, e1, e2, e3, u32_or_nat _ _ (by omega) (by omega), s1, show c0.toNat * 2 ^ 24 + c1.toNat * 65536 = (c0.toNat * 256 + c1.toNat) * 2 ^ 16 by omega, u32_or_nat _ _ (by omega) (by omega), s2,
    show (c0.toNat * 256 + c1.toNat) * 2 ^ 16 + c2.toNat * 256 = (c0.toNat * 65536 + c1.toNat * 256 + c2.toNat) * 2 ^ 8 by omega, u32_or_nat _ _ (by omega) (by omega), s3, four_toNat]
  omega
theorem take4 (b : List UInt8) (t : Nat) (h : 4 * t + 4 ≤ b.length) : (b.drop (4 * t)).take 4 = [b.getD (4 * t) 0, b.getD (4 * t + 1) 0, b.getD (4 * t + 2) 0, b.getD (4 * t + 3) 0] := by
  have e : ∀ i, i < 4 → b.getD (4 * t + i) 0 = (b.drop (4 * t)).getD i 0 := fun i _ => by simp [List.getD_eq_getElem?_getD]
  rw [← Nat.add_zero (4 * t)] 
  rw [show 4 * t + 0 + 1 = 4 * t + 1 by omega, show 4 * t + 0 + 2 = 4 * t + 2 by omega, show 4 * t + 0 + 3 = 4 * t + 3 by omega, e 0 (by omega), e 1 (by omega), e 2 (by omega), e 3 (by omega), Nat.add_zero]
  have hl : 4 ≤ (b.drop (4 * t)).length := by rw [List.length_drop]; omega
  match hd : b.drop (4 * t), hl with
  | x0 :: x1 :: x2 :: x3 :: l, _ => rfl
theorem ref_words_l1 (b : List UInt8) : ∀ d t k : Nat, 16 ≤ t → t + d = 64 → d < k → heliastref04_words.l1 k (intsW (upto b t)) (t : Int) = some (intsW (words b)) := by
  intro d
  induction d with
  | zero =>
    intro t k h16 hj hk
    obtain ⟨k, rfl⟩ : ∃ m, k = m + 1 := ⟨k - 1, by omega⟩
    obtain rfl : t = 64 := by omega
    simp only [heliastref04_words.l1]
    rw [if_neg (by omega)]
    rfl
  | succ d ih =>
    intro t k h16 hj hk
    obtain ⟨k, rfl⟩ : ∃ m, k = m + 1 := ⟨k - 1, by omega⟩
    have hl : (upto b t).length = t := upto_length b t
    have e15 : wrap64 ((t : Int) - 15) = ((t - 15 : Nat) : Int) := by rw [wrap64_small (by omega) (by omega)]; omega
    have e2 : wrap64 ((t : Int) - 2) = ((t - 2 : Nat) : Int) := by rw [wrap64_small (by omega) (by omega)]; omega
    have e7 : wrap64 ((t : Int) - 7) = ((t - 7 : Nat) : Int) := by rw [wrap64_small (by omega) (by omega)]; omega
    have e16 : wrap64 ((t : Int) - 16) = ((t - 16 : Nat) : Int) := by rw [wrap64_small (by omega) (by omega)]; omega
    have e1 : wrap64 ((t : Int) + 1) = ((t + 1 : Nat) : Int) := by rw [wrap64_small (by omega) (by omega)]; omega
    simp only [heliastref04_words.l1]
    simp only [e15, e2, e7, e16, e1, rd_intsW, intsW_length, hl, rturn_7, rturn_18, rturn_17, rturn_19, Option.bind_some]
    clear e15 e2 e7 e16 e1
    rw [if_pos (by omega), if_pos (by omega), if_pos (by omega), if_pos (by omega), if_pos (by omega), if_pos (by omega), if_pos (by omega), if_pos (by omega), if_pos (by omega), if_pos (by omega)]
    have s1 := small_nat ((upto b t).getD (t - 2) 0) 17 19 10 1024 (by decide)
    have s2 := small_nat ((upto b t).getD (t - 15) 0) 7 18 3 8 (by decide)
    simp only [Int.cast_ofNat_Int] at s1 s2
    rw [s1, s2, add_nat, add_nat, add_nat]
    have hn : small ((upto b t).getD (t - 2) 0) 17 19 10 + (upto b t).getD (t - 7) 0 + small ((upto b t).getD (t - 15) 0) 7 18 3 + (upto b t).getD (t - 16) 0 = next (upto b t) := by
      unfold next; rw [hl]
    rw [hn]
    have hu : intsW (upto b t) ++ [((next (upto b t)).toNat : Int)] = intsW (upto b (t + 1)) := by rw [upto_more b t h16]; simp [intsW]
    rw [hu]
    exact ih (t + 1) k (by omega) (by omega) (by omega)
theorem ref_words_l0 (b : List UInt8) (hb : b.length = 64) : ∀ d t k : Nat, t + d = 16 → d + 60 < k → heliastref04_words.l0 k (intsB b) (intsW (upto b t)) (t : Int) = some (intsW (words b)) := by
  intro d
  induction d with
  | zero =>
    intro t k hj hk
    obtain ⟨k, rfl⟩ : ∃ m, k = m + 1 := ⟨k - 1, by omega⟩
    obtain rfl : t = 16 := by omega
    simp only [heliastref04_words.l0]
    rw [if_neg (by omega)]
    exact ref_words_l1 b 48 16 k (by omega) (by omega) (by omega)
  | succ d ih =>
    intro t k hj hk
    obtain ⟨k, rfl⟩ : ∃ m, k = m + 1 := ⟨k - 1, by omega⟩
    have e4 : wrap64 (4 * (t : Int)) = ((4 * t : Nat) : Int) := by rw [wrap64_small (by omega) (by omega)]; omega
    have e41 : wrap64 (((4 * t : Nat) : Int) + 1) = ((4 * t + 1 : Nat) : Int) := by rw [wrap64_small (by omega) (by omega)]; omega
    have e42 : wrap64 (((4 * t : Nat) : Int) + 2) = ((4 * t + 2 : Nat) : Int) := by rw [wrap64_small (by omega) (by omega)]; omega
    have e43 : wrap64 (((4 * t : Nat) : Int) + 3) = ((4 * t + 3 : Nat) : Int) := by rw [wrap64_small (by omega) (by omega)]; omega
    have e1 : wrap64 ((t : Int) + 1) = ((t + 1 : Nat) : Int) := by rw [wrap64_small (by omega) (by omega)]; omega
    simp only [heliastref04_words.l0]
    rw [e4, e41, e42, e43, e1, rd_intsB, rd_intsB, rd_intsB, rd_intsB, intsB_length, intsW_length, upto_length, hb, if_pos (by omega), if_pos (by omega), if_pos (by omega), if_pos (by omega), if_pos (by omega), if_pos (by omega), if_pos (by omega), if_pos (by omega), if_pos (by omega), if_pos (by omega), four_int, ← take4 b t (by omega)]
    have hu : intsW (upto b t) ++ [((four ((b.drop (4 * t)).take 4)).toNat : Int)] = intsW (upto b (t + 1)) := by rw [upto_first b t (by omega)]; simp [intsW]
    rw [hu]
    exact ih (t + 1) k (by omega) (by omega)
theorem ref_words (b : List UInt8) (hb : b.length = 64) (k : Nat) (hk : 80 ≤ k) : heliastref04_words.f k (intsB b) = some (intsW (words b)) :=
  ref_words_l0 b hb 16 0 k (by omega) (by omega)
theorem ref_keys : heliastref04_keys.f = some (intsW keys) := rfl
theorem ref_block_l1 (x y : St) : ∀ d j k : Nat, j + d = 8 → d < k → heliastref04_block.l1 k (intsW x.list) (intsW (mixed y.list x.list j)) (j : Int) = some (intsW (y.add x).list) := by
  intro d
  induction d with
  | zero =>
    intro j k hj hk
    obtain ⟨k, rfl⟩ : ∃ m, k = m + 1 := ⟨k - 1, by omega⟩
    obtain rfl : j = 8 := by omega
    simp only [heliastref04_block.l1]
    rw [if_neg (by omega), mixed_all]
  | succ d ih =>
    intro j k hj hk
    obtain ⟨k, rfl⟩ : ∃ m, k = m + 1 := ⟨k - 1, by omega⟩
    have e1 : wrap64 ((j : Int) + 1) = ((j + 1 : Nat) : Int) := by rw [wrap64_small (by omega) (by omega)]; omega
    simp only [heliastref04_block.l1]
    rw [e1, rd_intsW, rd_intsW, add_nat, intsW_length, intsW_length, mixed_length, show y.list.length = 8 from rfl, show x.list.length = 8 from rfl, if_pos (by omega), if_pos (by omega), if_pos (by omega), if_pos (by omega), Int.toNat_natCast]
    have hm : (intsW (mixed y.list x.list j)).set j (((mixed y.list x.list j).getD j 0 + x.list.getD j 0).toNat : Int) = intsW (mixed y.list x.list (j + 1)) := by
      rw [mixed]; simp [intsW, List.map_set]
    rw [hm]
    exact ih (j + 1) k (by omega) (by omega)
theorem ref_block_l0 (x : St) (b : List UInt8) : ∀ d t k : Nat, t + d = 64 → d + 20 < k → heliastref04_block.l0 k (intsW x.list) (intsW (words b)) (intsW keys) (intsW (rounds x b t).list) (t : Int) = some (intsW (take x b).list) := by
  intro d
  induction d with
  | zero =>
    intro t k hj hk
    obtain ⟨k, rfl⟩ : ∃ m, k = m + 1 := ⟨k - 1, by omega⟩
    obtain rfl : t = 64 := by omega
    simp only [heliastref04_block.l0]
    rw [if_neg (by omega)]
    exact ref_block_l1 x (rounds x b 64) 8 0 k (by omega) (by omega)
  | succ d ih =>
    intro t k hj hk
    obtain ⟨k, rfl⟩ : ∃ m, k = m + 1 := ⟨k - 1, by omega⟩
    obtain ⟨y, hy⟩ : ∃ y, rounds x b t = y := ⟨_, rfl⟩
    have hsucc : rounds x b (t + 1) = round y (keys.getD t 0) ((words b).getD t 0) := by rw [rounds, hy]
    rw [hy]
    obtain ⟨A, B, C, D, E, F, G, H⟩ := y
    have r0 : rd (intsW (St.list ⟨A, B, C, D, E, F, G, H⟩)) 0 = (A.toNat : Int) := rfl
    have r1 : rd (intsW (St.list ⟨A, B, C, D, E, F, G, H⟩)) 1 = (B.toNat : Int) := rfl
    have r2 : rd (intsW (St.list ⟨A, B, C, D, E, F, G, H⟩)) 2 = (C.toNat : Int) := rfl
    have r3 : rd (intsW (St.list ⟨A, B, C, D, E, F, G, H⟩)) 3 = (D.toNat : Int) := rfl
    have r4 : rd (intsW (St.list ⟨A, B, C, D, E, F, G, H⟩)) 4 = (E.toNat : Int) := rfl
    have r5 : rd (intsW (St.list ⟨A, B, C, D, E, F, G, H⟩)) 5 = (F.toNat : Int) := rfl
    have r6 : rd (intsW (St.list ⟨A, B, C, D, E, F, G, H⟩)) 6 = (G.toNat : Int) := rfl
    have r7 : rd (intsW (St.list ⟨A, B, C, D, E, F, G, H⟩)) 7 = (H.toNat : Int) := rfl
    have hl8 : (intsW (St.list ⟨A, B, C, D, E, F, G, H⟩)).length = 8 := rfl
    have e1 : wrap64 ((t : Int) + 1) = ((t + 1 : Nat) : Int) := by rw [wrap64_small (by omega) (by omega)]; omega
    have hwl : (words b).length = 64 := upto_length b 64
    have hkl : keys.length = 64 := rfl
    simp only [heliastref04_block.l0]
    simp only [r0, r1, r2, r3, r4, r5, r6, r7, hl8, e1, rd_intsW, intsW_length, hwl, hkl, rturn_6, rturn_11, rturn_25, rturn_2, rturn_13, rturn_22, Option.bind_some]
    clear e1 r0 r1 r2 r3 r4 r5 r6 r7
    rw [if_pos (by omega), if_pos (by omega), if_pos (by omega), if_pos (by omega), if_pos (by omega), if_pos (by omega), if_pos (by omega), if_pos (by omega), if_pos (by omega), if_pos (by omega), if_pos (by omega), if_pos (by omega)]
    obtain ⟨kw, hkw⟩ : ∃ kw, keys.getD t 0 = kw := ⟨_, rfl⟩
    obtain ⟨ww, hww⟩ : ∃ ww, (words b).getD t 0 = ww := ⟨_, rfl⟩
    rw [hkw, hww] at hsucc ⊢
    have g1 := great_nat E 6 11 25
    have g2 := great_nat A 2 13 22
    rw [g1, g2]
    simp only [and_nat, not_nat, xor_nat, add_nat]
    have hr : [(((H + great E 6 11 25 + ((E &&& F) ^^^ (~~~E &&& G)) + kw + ww + (great A 2 13 22 + ((A &&& B) ^^^ (A &&& C) ^^^ (B &&& C)))).toNat : Nat) : Int), (A.toNat : Int), (B.toNat : Int), (C.toNat : Int), ((D + (H + great E 6 11 25 + ((E &&& F) ^^^ (~~~E &&& G)) + kw + ww)).toNat : Int), (E.toNat : Int), (F.toNat : Int), (G.toNat : Int)] = intsW (rounds x b (t + 1)).list := by
      rw [hsucc]; rfl
    rw [hr]
    exact ih (t + 1) k (by omega) (by omega)
theorem ref_block (x : St) (b : List UInt8) (hb : b.length = 64) (k : Nat) (hk : 100 ≤ k) : heliastref04_block.f k (intsW x.list) (intsB b) = some (intsW (take x b).list) := by
  unfold heliastref04_block.f
  rw [ref_words b hb k (by omega), Option.bind_some, ref_keys, Option.bind_some, if_pos (by rw [intsW_length, show x.list.length = 8 from rfl]; decide), List.nil_append]
  exact ref_block_l0 x b 64 0 k (by omega) (by omega)
theorem vals_take (n d : Nat) (h : d < 8) : (vals n 8).take (8 - (d + 1)) ++ [vb n d] = (vals n 8).take (8 - d) := by
  have : d = 0 ∨ d = 1 ∨ d = 2 ∨ d = 3 ∨ d = 4 ∨ d = 5 ∨ d = 6 ∨ d = 7 := by omega
  rcases this with rfl | rfl | rfl | rfl | rfl | rfl | rfl | rfl <;> rfl
theorem ref_tail_l1 (n : Nat) (A : List Int) (hA : A.length ≤ 200) : ∀ (d k : Nat) (x : Int), d ≤ 8 → x = (d : Int) - 1 → d < k → heliastref04_Tail.l1 k (A ++ (vals n 8).take (8 - d)) (IntKind.u64.wrap ((n : Int) * 8)) x = some (A ++ vals n 8) := by
  intro d
  induction d with
  | zero =>
    intro k x hd hx hk
    obtain ⟨k, rfl⟩ : ∃ m, k = m + 1 := ⟨k - 1, by omega⟩
    simp only [heliastref04_Tail.l1]
    rw [if_neg (by omega), List.take_of_length_le (by rw [vals_length]; omega)]
  | succ d ih =>
    intro k x hd hx hk
    obtain ⟨k, rfl⟩ : ∃ m, k = m + 1 := ⟨k - 1, by omega⟩
    obtain rfl : x = (d : Int) := by omega
    clear hx
    have hl : (A ++ (vals n 8).take (8 - (d + 1))).length ≤ 208 := by
      rw [List.length_append, List.length_take, vals_length]; omega
    have e1 : IntKind.u64.wrap (wrap64 (8 * (d : Int))) = ((8 * d : Nat) : Int) := by rw [wrap64_small (by omega) (by omega), IntKind.wrap_u64]; omega
    have e2 : wrap64 ((d : Int) - 1) = (d : Int) - 1 := wrap64_small (by omega) (by omega)
    simp only [heliastref04_Tail.l1]
    rw [e1, e2, shr_vb n d (by omega), List.append_assoc, vals_take n d (by omega)]
    clear e1 e2
    rw [if_pos (by omega), if_pos (by omega), if_pos (by omega)]
    exact ih k _ (by omega) rfl (by omega)
theorem ref_tail_l0 (n : Nat) (hn : n < 18446744073709551616) : ∀ d j k : Nat, j + d = room n → d + 20 < k → heliastref04_Tail.l0 k n (128 :: List.replicate j 0) = some (intsB (tail n)) := by
  have hr : room n = (119 - n % 64) % 64 := rfl
  intro d
  induction d with
  | zero =>
    intro j k hj hk
    obtain ⟨k, rfl⟩ : ∃ m, k = m + 1 := ⟨k - 1, by omega⟩
    have hc : Int.tmod (IntKind.u64.wrap ((Int.tmod (n : Int) 64) + (IntKind.u64.wrap (((128 :: List.replicate j (0 : Int)).length : Int))))) 64 = 56 := by
      rw [List.length_cons, List.length_replicate, Int.tmod_eq_emod_of_nonneg (a := (n : Int)) (by omega), Int.tmod_eq_emod_of_nonneg (by simp only [IntKind.wrap_u64]; omega)]
      simp only [IntKind.wrap_u64]; omega
    simp only [heliastref04_Tail.l0]
    rw [if_pos hc]
    have h := ref_tail_l1 n (128 :: List.replicate j 0) (by simp; omega) 8 k 7 (by omega) (by omega) (by omega)
    rw [Nat.sub_self, List.take_zero, List.append_nil] at h
    rw [h, vals_8]
    obtain rfl : j = room n := by omega
    simp [tail, intsB, List.map_replicate]
  | succ d ih =>
    intro j k hj hk
    obtain ⟨k, rfl⟩ : ∃ m, k = m + 1 := ⟨k - 1, by omega⟩
    have hc : ¬ Int.tmod (IntKind.u64.wrap ((Int.tmod (n : Int) 64) + (IntKind.u64.wrap (((128 :: List.replicate j (0 : Int)).length : Int))))) 64 = 56 := by
      rw [List.length_cons, List.length_replicate, Int.tmod_eq_emod_of_nonneg (a := (n : Int)) (by omega), Int.tmod_eq_emod_of_nonneg (by simp only [IntKind.wrap_u64]; omega)]
      simp only [IntKind.wrap_u64]; omega
    simp only [heliastref04_Tail.l0]
    rw [if_neg hc, if_pos (by simp; omega)]
    have e : (128 :: List.replicate j (0 : Int)) ++ [0] = 128 :: List.replicate (j + 1) 0 := by rw [List.cons_append, List.replicate_succ']
    rw [e]
    exact ih (j + 1) k (by omega) (by omega)
theorem ref_tail (n : Nat) (hn : n < 18446744073709551616) (k : Nat) (hk : 100 ≤ k) : heliastref04_Tail.f k n = some (intsB (tail n)) := by
  have hr : room n < 64 := Nat.mod_lt _ (by decide)
  exact ref_tail_l0 n hn (room n) 0 k (by omega) (by omega)
theorem ref_sum_l1 (st : St) : ∀ d j k : Nat, j + d = 8 → d < k → heliastref04_Sum.l1 k (intsW st.list) (intsB (outTo st j)) (j : Int) = some (intsB (out st)) := by
  intro d
  induction d with
  | zero =>
    intro j k hj hk
    obtain ⟨k, rfl⟩ : ∃ m, k = m + 1 := ⟨k - 1, by omega⟩
    obtain rfl : j = 8 := by omega
    simp only [heliastref04_Sum.l1]
    rw [if_neg (by omega)]
    rfl
  | succ d ih =>
    intro j k hj hk
    obtain ⟨k, rfl⟩ : ∃ m, k = m + 1 := ⟨k - 1, by omega⟩
    have e1 : wrap64 ((j : Int) + 1) = ((j + 1 : Nat) : Int) := by rw [wrap64_small (by omega) (by omega)]; omega
    simp only [heliastref04_Sum.l1]
    have hy := bytes4_int' (st.list.getD j 0)
    have hb : (((st.list.getD j 0).toNat : Int) / 16777216) % 256 = ((st.list.getD j 0).toNat : Int) / 16777216 := by
      have := (st.list.getD j 0).isLt
      omega
    rw [e1, rd_intsW, intsW_length, show st.list.length = 8 from rfl, hb, ← hy]
    clear e1 hb hy
    rw [if_pos (by omega), if_pos (by omega), if_pos (by omega), Option.bind_some, if_pos (by rw [intsB_length, intsB_length, outTo_length st j (by omega)]; simp [bytes4]; omega), ← intsB_append, ← outTo_succ st j (by omega)]
    exact ih (j + 1) k (by omega) (by omega)
theorem ref_sum_l0 (D : List UInt8) (hD : D.length % 64 = 0) (hDl : D.length ≤ 1099511627776) : ∀ d q k : Nat, q + d = D.length / 64 → d + 200 < k → heliastref04_Sum.l0 k (intsB D) (intsW (run init D q).list) ((64 * q : Nat) : Int) = some (intsB (out (run init D (D.length / 64)))) := by
  intro d
  induction d with
  | zero =>
    intro q k hj hk
    obtain ⟨k, rfl⟩ : ∃ m, k = m + 1 := ⟨k - 1, by omega⟩
    simp only [heliastref04_Sum.l0]
    rw [if_neg (by rw [intsB_length]; omega), show D.length / 64 = q by omega]
    exact ref_sum_l1 (run init D q) 8 0 k (by omega) (by omega)
  | succ d ih =>
    intro q k hj hk
    obtain ⟨k, rfl⟩ : ∃ m, k = m + 1 := ⟨k - 1, by omega⟩
    have e1 : wrap64 (((64 * q : Nat) : Int) + 64) = ((64 * (q + 1) : Nat) : Int) := by rw [wrap64_small (by omega) (by omega)]; omega
    simp only [heliastref04_Sum.l0]
    rw [e1]
    clear e1
    have hs : ((intsB D).take ((64 * (q + 1) : Nat) : Int).toNat).drop ((64 * q : Nat) : Int).toNat = intsB ((D.drop (64 * q)).take 64) := by
      rw [Int.toNat_natCast, Int.toNat_natCast, intsB, ← List.map_take, ← List.map_drop, List.drop_take, show 64 * (q + 1) - 64 * q = 64 by omega]
      rfl
    rw [hs, if_pos (by rw [intsB_length]; omega), if_pos (by omega), if_pos (by omega), if_pos (by rw [intsB_length]; omega),
      ref_block (run init D q) _ (by rw [List.length_take, List.length_drop]; omega) k (by omega), Option.bind_some]
    exact ih (q + 1) k (by omega) (by omega)
theorem ref_sum (l : List UInt8) (h : l.length ≤ 1099511000000) (k : Nat) (hk : l.length + 300 ≤ k) : heliastref04_Sum.f k (intsB l) = some (intsB (Sha.sum l)) := by
  have hr : room l.length < 64 := Nat.mod_lt _ (by decide)
  have ht : (tail l.length).length = room l.length + 9 := tail_length _
  have hw := tail_whole l.length
  unfold heliastref04_Sum.f
  have e1 : IntKind.u64.wrap (((intsB l).length : Int)) = (l.length : Int) := by rw [intsB_length, IntKind.wrap_u64]; omega
  rw [e1]
  clear e1
  rw [if_pos (by rw [intsB_length]; simp; omega), Option.bind_some, ref_tail l.length (by omega) k (by omega), Option.bind_some, List.nil_append, if_pos (by rw [intsB_length, intsB_length]; omega), ← intsB_append]
  have hl : (l ++ tail l.length).length = l.length + (tail l.length).length := List.length_append
  have h := ref_sum_l0 (l ++ tail l.length) (by rw [hl]; exact hw) (by rw [hl]; omega) ((l ++ tail l.length).length / 64) 0 k (by omega) (by rw [hl]; omega)
  rw [hl] at h
  exact h
theorem ref_same_l0 (a b : List UInt8) (hab : a.length = b.length) : ∀ d j k : Nat, j + d = a.length → d < k → a.length ≤ 9223372036854775806 → heliastref04_Same.l0 k (intsB a) (intsB b) (j : Int) = some (decide (a.drop j = b.drop j)) := by
  intro d
  induction d with
  | zero =>
    intro j k hj hk hm
    obtain ⟨k, rfl⟩ : ∃ m, k = m + 1 := ⟨k - 1, by omega⟩
    simp only [heliastref04_Same.l0]
    rw [if_neg (by rw [intsB_length]; omega), List.drop_of_length_le (by omega), List.drop_of_length_le (by omega)]
    simp
  | succ d ih =>
    intro j k hj hk hm
    obtain ⟨k, rfl⟩ : ∃ m, k = m + 1 := ⟨k - 1, by omega⟩
    have e1 : wrap64 ((j : Int) + 1) = ((j + 1 : Nat) : Int) := by rw [wrap64_small (by omega) (by omega)]; omega
    simp only [heliastref04_Same.l0]
    rw [e1, rd_intsB, rd_intsB]
    clear e1
    have ha : a.drop j = a.getD j 0 :: a.drop (j + 1) := by
      rw [List.drop_eq_getElem_cons (by omega)]; simp [List.getD_eq_getElem?_getD, List.getElem?_eq_getElem (show j < a.length by omega)]
    have hb : b.drop j = b.getD j 0 :: b.drop (j + 1) := by
      rw [List.drop_eq_getElem_cons (by omega)]; simp [List.getD_eq_getElem?_getD, List.getElem?_eq_getElem (show j < b.length by omega)]
    rw [if_pos (by rw [intsB_length]; omega), if_pos (by omega), if_pos (by rw [intsB_length]; omega)]
    have hc : (((a.getD j 0).toNat : Int) = ((b.getD j 0).toNat : Int)) ↔ a.getD j 0 = b.getD j 0 := by
      rw [← UInt8.toNat_inj]; omega
    by_cases h : a.getD j 0 = b.getD j 0
    · rw [if_pos (hc.2 h), ih (j + 1) k (by omega) (by omega) hm, ha, hb, h]
      simp
    · rw [if_neg (fun e => h (hc.1 e)), ha, hb]
      exact congrArg some (decide_eq_false (fun e => h (List.cons.inj e).1)).symm
theorem ref_same (a b : List UInt8) (ha : a.length ≤ 9223372036854775806) (k : Nat) (hk : a.length < k) : heliastref04_Same.f k (intsB a) (intsB b) = some (decide (a = b)) := by
  unfold heliastref04_Same.f
  rw [intsB_length, intsB_length]
  by_cases h : a.length = b.length
  · rw [if_pos (by omega), show (0 : Int) = ((0 : Nat) : Int) from rfl, ref_same_l0 a b h a.length 0 k (by omega) hk ha]
    rfl
  · rw [if_neg (by omega)]
    have : a ≠ b := fun e => h (by rw [e])
    simp [this]
theorem same_any (a1 a2 : Option Addr) (c1 c2 : Nat) (l1 l2 : List UInt8) (w : World) (h1 : Rd w a1 l1) (hc1 : l1.length ≤ c1) (h2 : Rd w a2 l2) (hc2 : l2.length ≤ c2) (hl : l1.length ≤ 9223372036854775806) :
    Calls Try.prog 13 #[.slice a1 l1.length c1, .slice a2 l2.length c2] w fun e w' => e = .returned (.bool (decide (l1 = l2))) ∧ ∃ n, w' = w.drewN n := by
  have h := heliastref04_Same.calls (l1.length + 1) a1 c1 (intsB l1) a2 c2 (intsB l2) _ w (by rw [intsB_length]; exact h1) (by rw [intsB_length]; exact hc1) (by rw [intsB_length]; exact h2) (by rw [intsB_length]; exact hc2) (ref_same l1 l2 hl _ (by omega))
  rw [intsB_length, intsB_length] at h
  exact h.mono fun e w' ⟨h1, h2⟩ => ⟨h1, h2.out⟩
theorem same_yes (a1 a2 : Option Addr) (c1 c2 : Nat) (l : List UInt8) (w : World) (h1 : Rd w a1 l) (hc1 : l.length ≤ c1) (h2 : Rd w a2 l) (hc2 : l.length ≤ c2) (hl : l.length ≤ 9223372036854775806) :
    Calls Try.prog 13 #[.slice a1 l.length c1, .slice a2 l.length c2] w fun e w' => e = .returned (.bool true) ∧ ∃ n, w' = w.drewN n := by
  have h := same_any a1 a2 c1 c2 l l w h1 hc1 h2 hc2 hl
  simpa using h
theorem ref_sum_any (a : Option Addr) (c : Nat) (l : List UInt8) (w : World) (h : Rd w a l) (hc : l.length ≤ c) (hl : l.length ≤ 1099511000000) :
    Calls Try.prog 17 #[.slice a l.length c] w fun e w' => ∃ v, e = .returned v ∧ OwnB w' w.heap.size v (Sha.sum l) ∧ Below w.heap.size w w' := by
  have h := heliastref04_Sum.calls (l.length + 300) a c (intsB l) _ w (by rw [intsB_length]; exact h) (by rw [intsB_length]; exact hc) (ref_sum l hl _ (Nat.le_refl _))
  rw [intsB_length] at h
  exact h
theorem ref_tail_any (n : Nat) (hn : n < 18446744073709551616) (w : World) :
    Calls Try.prog 18 #[.int .u64 n] w fun e w' => ∃ v, e = .returned v ∧ OwnB w' w.heap.size v (tail n) ∧ Below w.heap.size w w' :=
  heliastref04_Tail.calls 100 n _ w (ref_tail n hn 100 (Nat.le_refl _))
end Go.Proofs.Ytdbdikgjelhfbaa

/-
  The law DigestPieces, walked: whatever the bytes and the place, it answers true.
-/
namespace Go.Proofs.Ytdbdikgjelhfbaa
open Go.RowKit Sha Go.Proofs.YtdbdikgjelhfbaaW.PrintWords Go.Proofs.YtdbdikgjelhfbaaW.PrintLast
set_option linter.unusedSimpArgs false
/-- A slice of bytes that came in. -/
theorem rd_of_row {W : World} {a : Option Addr} {zs : List Int} (h : RowAt W a (zs.map (.int .u8))) (hw : ∀ z ∈ zs, (Lit.int .u8 z).wf = true) (hm : zs.length ≤ 9223372036854775807) : ∃ l : List UInt8, l.length = zs.length ∧ Rd W a l := by
  obtain ⟨l, rfl⟩ := bytes_wf hw
  refine ⟨l, by simp, ?_⟩
  have hl : (l.map fun c : UInt8 => (c.toNat : Int)).length = l.length := by simp
  rw [hl] at hm
  refine Kd.C_of_reads (d := (0 : Int)) ⟨intsB_length l, hm, fun hp => ?_⟩
  obtain ⟨b, off, e, _, hc⟩ := h (by simpa using hp)
  refine ⟨_, e, fun j hj => ?_⟩
  rw [Addr.add_mid, hc j (by simpa using hj)]
  simp [intsB, List.getD_eq_getElem?_getD, List.getElem?_eq_getElem hj]
/-- A cut of a slice at the front, and behind it. -/
theorem Rd.front {w : World} {a : Option Addr} {l : List UInt8} (h : Rd w a l) (k : Nat) (hk : k ≤ l.length) : Rd w a (l.take k) := by
  have hr := Kd.reads_of_C (enc := Value.int .u8) (d := (0 : Int)) (h1 := fun _ => rfl) h
  have hl : (l.take k).length = k := by simp; omega
  unfold Rd
  rw [hl]
  refine Kd.C_of_reads (d := (0 : Int)) ⟨by rw [intsB_length, hl], by have := hr.2.1; omega, fun hp => ?_⟩
  obtain ⟨ad, e, hc⟩ := hr.2.2 (by omega)
  refine ⟨ad, e, fun j hj => ?_⟩
  rw [hc j (by omega)]
  simp only [intsB, List.getD_eq_getElem?_getD, List.getElem?_map, List.getElem?_take, if_pos hj]
theorem Rd.back {w : World} {b o : Nat} {l : List UInt8} (h : Rd w (some ⟨b, o, none⟩) l) (k : Nat) : Rd w (some ⟨b, o + k, none⟩) (l.drop k) := by
  have hr := Kd.reads_of_C (enc := Value.int .u8) (d := (0 : Int)) (h1 := fun _ => rfl) h
  have hl : (l.drop k).length = l.length - k := List.length_drop
  unfold Rd
  rw [hl]
  refine Kd.C_of_reads (d := (0 : Int)) ⟨by rw [intsB_length, hl], by have := hr.2.1; omega, fun hp => ⟨_, rfl, fun j hj => ?_⟩⟩
  obtain ⟨ad, e, hc⟩ := hr.2.2 (by omega)
  cases e
  have := hc (k + j) (by omega)
  rw [Addr.add_mid] at this ⊢
  rw [Nat.add_assoc, this]
  simp only [intsB, List.getD_eq_getElem?_getD, List.getElem?_map, List.getElem?_drop]
theorem Rd.backO {w : World} {a : Option Addr} {l : List UInt8} (h : Rd w a l) (k : Nat) : Rd w (Option.map (fun x : Addr => x.add k) a) (l.drop k) := by
  by_cases hp : 0 < l.length
  · obtain ⟨b, off, rfl, _, _⟩ := h.bytesAt hp
    have := h.back k
    rwa [← Addr.add_mid] at this
  · have e : l = [] := List.eq_nil_of_length_eq_zero (by omega)
    subst e
    rw [List.drop_nil]
    exact ⟨rfl, by simp, fun h => absurd h (Nat.lt_irrefl 0)⟩
theorem Rd.empty (w : World) (a : Option Addr) : Rd w a [] := ⟨rfl, by simp, fun h => absurd h (Nat.lt_irrefl 0)⟩
theorem Rd.blk {w : World} {a : Option Addr} {l : List UInt8} (h : Rd w a l) : ∀ ad, a = some ad → 0 < l.length → ad.block < w.heap.size := fun ad e hp => by
  obtain ⟨b, off, e2, hlt, _⟩ := h.bytesAt hp
  rw [e] at e2; cases e2; exact hlt
theorem Holds.below {W W' : World} {p : Nat} {d : List UInt8} (h : Holds W p d) (hb : Below W.heap.size W W') : Holds W' p d := by
  obtain ⟨al, cl, h1, h2, h3⟩ := h
  exact ⟨al, cl, h1.below hb, h2.below hb, fun a e => ⟨(h3 a e).1, Nat.lt_of_lt_of_le (h3 a e).2 hb.size⟩⟩
theorem drewN_below (W : World) (n : Nat) : Below W.heap.size W (W.drewN n) := ⟨rfl, rfl, rfl, Nat.le_refl _, fun _ _ => rfl⟩
theorem below_grown {w W W' : World} {p : Nat} (h : Below w.heap.size w W) (hg : W.grownBy W' (some p)) (hp : w.heap.size ≤ p) : Below w.heap.size w W' :=
  ⟨hg.os.trans h.os, hg.tape.trans h.tape, hg.output.trans h.output, Nat.le_trans h.size hg.size, fun k hk => (hg.block k (Nat.lt_of_lt_of_le hk h.size) (by simp; omega)).trans (h.block k hk)⟩
theorem below_trans {w W W' : World} (h : Below w.heap.size w W) (h2 : Below W.heap.size W W') : Below w.heap.size w W' := h.trans (h2.mono h.size)

set_option maxRecDepth 100000 in
set_option maxHeartbeats 1000000 in
theorem digestPieces_walk (a0 : Option Addr) (len0 cap0 : Nat) (z0 : List Int) (a1 : Int) (W : World) (x0 : z0.length = len0) (y0 : RowAt W a0 (z0.map (.int .u8))) (u0 : ∀ z ∈ z0, (Lit.int .u8 z).wf = true) (_b0 : len0 * 1 ≤ 140737488351232) (c0 : len0 ≤ cap0) (m0 : cap0 ≤ maxLen) (w1 : (Lit.int .u16 a1).wf = true) :
    Calls Try.prog 3 #[.slice a0 len0 cap0, .int .u16 a1] W fun e w' => e = .returned (.bool true) ∧ Below W.heap.size W w' := by
  unfold maxLen at m0
  obtain ⟨l, hll, hr⟩ := rd_of_row y0 u0 (by omega)
  obtain rfl : l.length = len0 := by omega
  clear x0 y0 u0 hll z0 _b0
  have hb := bounds_u16 w1
  obtain ⟨t, rfl⟩ := Int.eq_ofNat_of_zero_le hb.1
  clear w1
  by_cases hbig : 500 < l.length
  · go_enter Try.func3, Try.ntmps3
    go_wp2_with fail
    refine (known_any _).mono ?_
    rintro e w1 ⟨rfl, hb1⟩
    go_wp2_with fail
    go_ret
    exact ⟨rfl, hb1⟩
  · obtain ⟨k, hk⟩ : ∃ k, t % (l.length + 1) = k := ⟨_, rfl⟩
    have hkl : k ≤ l.length := by have := Nat.mod_lt t (show 0 < l.length + 1 by omega); omega
    obtain ⟨n, hn⟩ : ∃ n, l.length = n := ⟨_, rfl⟩
    rw [hn] at hbig c0 hk hkl ⊢
    have e1 : (t : Int) % ((n : Int) + 1) = (k : Int) := by rw [← hk, Int.natCast_emod, Int.natCast_add]; rfl
    have E1 := Lib.hid e1
    clear e1
    have HR := Lib.hid hr; have HN := Lib.hid hn
    clear hr hn hk
    go_enter Try.func3, Try.ntmps3
    go_wp2_with fail
    rw [E1.out]
    refine (new_any W).mono ?_
    rintro e w1 ⟨p, rfl, hh, hp, hb1⟩
    have HH := Lib.hid hh; have HB1 := Lib.hid hb1
    clear hh hb1 E1
    have hki : (k : Int) ≤ (cap0 : Int) := by omega
    go_wp2_with fail
    have hlk : (l.take k).length = k := by rw [List.length_take, HN.out]; omega
    have hw := write_any p [] (l.take k) a0 cap0 w1 HH.out ((HR.out.front k (by rw [HN.out]; exact hkl)).below HB1.out) (fun ad e hz => by have := HR.out.blk ad e (by rw [hlk] at hz; rw [HN.out]; omega); omega) (by rw [hlk]; simp; omega)
    rw [hlk, List.nil_append] at hw
    have HW := Lib.hid hw
    have HLK := Lib.hid hlk
    clear hw hlk
    refine HW.out.mono ?_
    rintro e w2 ⟨rfl, hh2, hg2⟩
    have hb2 := below_grown HB1.out hg2 hp
    have HH2 := Lib.hid hh2; have HB2 := Lib.hid hb2
    clear hh2 hg2 hb2 HW HH
    go_wp2_with fail
    refine (hsum_any p (l.take k) w2 HH2.out (by rw [HLK.out]; omega)).mono ?_
    rintro e w3 ⟨v, rfl, ho, hb3⟩
    obtain ⟨av, cv, rfl, hcv, _⟩ := ho.reads
    have hbb := below_trans HB2.out hb3
    have hh3 := HH2.out.below hb3
    have HO := Lib.hid ho; have HB3 := Lib.hid hbb; have HH3 := Lib.hid hh3
    have hp3 := HB2.out.size
    have hpl := HH2.out.lt
    clear ho hbb hh3 hb3 hp3
    have hld : (l.drop k).length = n - k := by rw [List.length_drop, HN.out]
    have hda : l.take k ++ l.drop k = l := List.take_append_drop k l
    have hwr : ∀ (ab : Option Addr) (cb : Nat), Rd W ab (l.drop k) → Calls Try.prog 11 #[.pointer (some ⟨p, 0, none⟩), .slice ab (n - k) cb] w3 fun e w' => e = .returned (.int .i64 ((n - k : Nat) : Int)) ∧ Holds w' p l ∧ w3.grownBy w' (some p) := fun ab cb hab => by
      have := write_any p (l.take k) (l.drop k) ab cb w3 HH3.out (hab.below HB3.out) (fun ad e hz => by have := hab.blk ad e hz; omega) (by rw [HLK.out, hld]; omega)
      rwa [hld, hda] at this
    have HWR := Lib.hid hwr
    clear hwr hld hda
    have hbk := HR.out.backO k
    have HBK := Lib.hid hbk
    clear hbk
    obtain ⟨S, hS⟩ : ∃ S, Sha.sum (l.take k) = S := ⟨_, rfl⟩
    have hSl : S.length ≤ 32 := by rw [← hS, Sha.sum_length]; omega
    have hS32 : S.length = 32 := by rw [← hS, Sha.sum_length]
    rw [hS] at HO hcv ⊢
    have HS := Lib.hid hS; have HS32 := Lib.hid hS32
    clear hS hS32
    by_cases hck : k < cap0
    rotate_left
    · obtain rfl : k = cap0 := by omega
      have hdk : l.drop k = [] := List.drop_eq_nil_of_le (by rw [HN.out]; omega)
      have hab : Rd W a0 (l.drop k) := by rw [hdk]; exact Rd.empty W a0
      have hw0 := HWR.out a0 0 hab
      rw [show n - k = 0 by omega] at hw0
      have HW0 := Lib.hid hw0
      clear hab hdk hw0
      go_wp2_with fail
      refine HW0.out.mono ?_
      rintro e w4 ⟨rfl, hh4, hg4⟩
      have hb4 := below_grown HB3.out hg4 hp
      have ho4 : OwnB w4 w2.heap.size (.slice av S.length cv) S := HO.out.kept hg4 (fun q hq e => by
        have := own_base (Kd.own_of_R HO.out) q hq
        cases e; omega)
      have HH4 := Lib.hid hh4; have HB4 := Lib.hid hb4; have HO4 := Lib.hid ho4
      clear hh4 hg4 hb4 ho4
      go_wp2_with fail
      refine (known_any _).mono ?_
      rintro e w5 ⟨rfl, hb5⟩
      have hb5b := below_trans HB4.out hb5
      have hh5 := HH4.out.below hb5
      have ho5 := HO4.out.below hb5
      have HH5 := Lib.hid hh5; have HB5 := Lib.hid hb5b; have HO5 := Lib.hid ho5
      clear hh5 hb5b hb5 ho5
      go_wp2_with fail
      have hd := digest_sum_any a0 k (l.take k) w5 ((HR.out.front k (by rw [HN.out]; exact hkl)).below HB5.out) (by rw [HLK.out]; omega)
      rw [HLK.out, HS.out] at hd
      have HD := Lib.hid hd
      clear hd
      refine HD.out.mono ?_
      rintro e w6 ⟨v6, rfl, ho6, hb6⟩
      obtain ⟨a6, c6, rfl, hc6, hr6⟩ := ho6.reads
      have hb6b := below_trans HB5.out hb6
      have hh6 := HH5.out.below hb6
      have ho5 := HO5.out.below hb6
      have HH6 := Lib.hid hh6; have HB6 := Lib.hid hb6b; have HO6 := Lib.hid ho5; have HR6 := Lib.hid hr6
      clear hh6 hb6b hb6 ho5 ho6 hr6 HD
      go_wp2_with fail
      have hrv := (Kd.R_reads' HO6.out).2.2
      rw [intsB_length] at hrv
      refine (same_yes av a6 cv c6 S w6 hrv hcv HR6.out hc6 (by omega)).mono ?_
      rintro e _ ⟨rfl, q7, rfl⟩
      have hb7 := drewN_below w6 q7
      have hb7b := below_trans HB6.out hb7
      have hh7 := HH6.out.below hb7
      have HH7 := Lib.hid hh7; have HB7 := Lib.hid hb7b
      clear hh7 hb7b hb7 hrv
      go_wp2_with fail
      refine (hsum_any p l _ HH7.out (by rw [HN.out]; omega)).mono ?_
      rintro e w8 ⟨v8, rfl, ho8, hb8⟩
      obtain ⟨S2, hS2⟩ : ∃ S, Sha.sum l = S := ⟨_, rfl⟩
      have hS2l : S2.length ≤ 32 := by rw [← hS2, Sha.sum_length]; omega
      rw [hS2] at ho8
      obtain ⟨a8, c8, rfl, hc8, hr8⟩ := ho8.reads
      have hb8b := below_trans HB7.out hb8
      have HS2 := Lib.hid hS2; have HR8 := Lib.hid hr8; have HB8 := Lib.hid hb8b
      clear hS2 hr8 hb8 hb8b ho8
      go_wp2_with fail
      have hd := digest_sum_any a0 k l w8 (HR.out.below HB8.out) (by rw [HN.out]; omega)
      rw [HN.out, HS2.out] at hd
      have HD := Lib.hid hd
      clear hd
      refine HD.out.mono ?_
      rintro e w9 ⟨v9, rfl, ho9, hb9⟩
      obtain ⟨a9, c9, rfl, hc9, hr9⟩ := ho9.reads
      have hb9b := below_trans HB8.out hb9
      have hr89 := HR8.out.below hb9
      have HR9 := Lib.hid hr9; have HB9 := Lib.hid hb9b; have HR89 := Lib.hid hr89
      clear hr9 hb9 hb9b ho9 hr89 HD
      go_wp2_with fail
      refine (same_yes a8 a9 c8 c9 S2 w9 HR89.out hc8 HR9.out hc9 (by omega)).mono ?_
      rintro e _ ⟨rfl, q10, rfl⟩
      have hS : ((S.length : Int) == 32) = true := by rw [HS32.out]; rfl
      go_wp2_with fail
      go_ret
      exact ⟨rfl, below_trans HB9.out (drewN_below w9 q10)⟩
    · go_wp2_with fail
      refine (HWR.out _ _ HBK.out).mono ?_
      rintro e w4 ⟨rfl, hh4, hg4⟩
      have hb4 := below_grown HB3.out hg4 hp
      have ho4 : OwnB w4 w2.heap.size (.slice av S.length cv) S := HO.out.kept hg4 (fun q hq e => by
        have := own_base (Kd.own_of_R HO.out) q hq
        cases e; omega)
      have HH4 := Lib.hid hh4; have HB4 := Lib.hid hb4; have HO4 := Lib.hid ho4
      clear hh4 hg4 hb4 ho4
      go_wp2_with fail
      refine (known_any _).mono ?_
      rintro e w5 ⟨rfl, hb5⟩
      have hb5b := below_trans HB4.out hb5
      have hh5 := HH4.out.below hb5
      have ho5 := HO4.out.below hb5
      have HH5 := Lib.hid hh5; have HB5 := Lib.hid hb5b; have HO5 := Lib.hid ho5
      clear hh5 hb5b hb5 ho5
      go_wp2_with fail
      have hd := digest_sum_any a0 cap0 (l.take k) w5 ((HR.out.front k (by rw [HN.out]; exact hkl)).below HB5.out) (by rw [HLK.out]; omega)
      rw [HLK.out, HS.out] at hd
      have HD := Lib.hid hd
      clear hd
      refine HD.out.mono ?_
      rintro e w6 ⟨v6, rfl, ho6, hb6⟩
      obtain ⟨a6, c6, rfl, hc6, hr6⟩ := ho6.reads
      have hb6b := below_trans HB5.out hb6
      have hh6 := HH5.out.below hb6
      have ho5 := HO5.out.below hb6
      have HH6 := Lib.hid hh6; have HB6 := Lib.hid hb6b; have HO6 := Lib.hid ho5; have HR6 := Lib.hid hr6
      clear hh6 hb6b hb6 ho5 ho6 hr6 HD
      go_wp2_with fail
      have hrv := (Kd.R_reads' HO6.out).2.2
      rw [intsB_length] at hrv
      refine (same_yes av a6 cv c6 S w6 hrv hcv HR6.out hc6 (by omega)).mono ?_
      rintro e _ ⟨rfl, q7, rfl⟩
      have hb7 := drewN_below w6 q7
      have hb7b := below_trans HB6.out hb7
      have hh7 := HH6.out.below hb7
      have HH7 := Lib.hid hh7; have HB7 := Lib.hid hb7b
      clear hh7 hb7b hb7 hrv
      go_wp2_with fail
      refine (hsum_any p l _ HH7.out (by rw [HN.out]; omega)).mono ?_
      rintro e w8 ⟨v8, rfl, ho8, hb8⟩
      obtain ⟨S2, hS2⟩ : ∃ S, Sha.sum l = S := ⟨_, rfl⟩
      have hS2l : S2.length ≤ 32 := by rw [← hS2, Sha.sum_length]; omega
      rw [hS2] at ho8
      obtain ⟨a8, c8, rfl, hc8, hr8⟩ := ho8.reads
      have hb8b := below_trans HB7.out hb8
      have HS2 := Lib.hid hS2; have HR8 := Lib.hid hr8; have HB8 := Lib.hid hb8b
      clear hS2 hr8 hb8 hb8b ho8
      go_wp2_with fail
      have hd := digest_sum_any a0 cap0 l w8 (HR.out.below HB8.out) (by rw [HN.out]; omega)
      rw [HN.out, HS2.out] at hd
      have HD := Lib.hid hd
      clear hd
      refine HD.out.mono ?_
      rintro e w9 ⟨v9, rfl, ho9, hb9⟩
      obtain ⟨a9, c9, rfl, hc9, hr9⟩ := ho9.reads
      have hb9b := below_trans HB8.out hb9
      have hr89 := HR8.out.below hb9
      have HR9 := Lib.hid hr9; have HB9 := Lib.hid hb9b; have HR89 := Lib.hid hr89
      clear hr9 hb9 hb9b ho9 hr89 HD
      go_wp2_with fail
      refine (same_yes a8 a9 c8 c9 S2 w9 HR89.out hc8 HR9.out hc9 (by omega)).mono ?_
      rintro e _ ⟨rfl, q10, rfl⟩
      have hS : ((S.length : Int) == 32) = true := by rw [HS32.out]; rfl
      go_wp2_with fail
      go_ret
      exact ⟨rfl, below_trans HB9.out (drewN_below w9 q10)⟩
end Go.Proofs.Ytdbdikgjelhfbaa

/-
  The method Long of a Hasher tells how many bytes were written.
-/
namespace Go.Proofs.Ytdbdikgjelhfbaa
open Go.RowKit Sha
set_option maxRecDepth 100000 in
theorem long_any (p : Nat) (d : List UInt8) (w : World) (h : Holds w p d) : Calls Try.prog 16 #[.pointer (some ⟨p, 0, none⟩)] w fun e w' => e = .returned (.int .u64 d.length) ∧ w = w' := by
  obtain ⟨al, cl, hp, _⟩ := h
  have c9 : w.cell? ⟨p, 9, none⟩ = some (.int .u64 (d.length : Int)) := hp.cell rfl
  go_enter Try.func16, Try.ntmps16
  go_wp2
  go_ret
  exact ⟨rfl, rfl⟩
set_option maxRecDepth 100000 in
theorem long_nil (w : World) : Calls Try.prog 16 #[.pointer none] w fun e w' => e = .returned (.int .u64 0) ∧ w = w' := by
  go_enter Try.func16, Try.ntmps16
  go_wp2
  go_ret
  exact ⟨rfl, rfl⟩
end Go.Proofs.Ytdbdikgjelhfbaa

/-
  The law DigestSums, walked: whatever the pieces and the length, it answers true.
-/
namespace Go.Proofs.Ytdbdikgjelhfbaa
open Go.RowKit Sha Go.Proofs.YtdbdikgjelhfbaaW.PrintWords Go.Proofs.YtdbdikgjelhfbaaW.PrintLast
set_option linter.unusedSimpArgs false
set_option linter.unusedVariables false
/-- The first pieces, one behind another. -/
def cat (R : Nat → List UInt8) (i : Nat) : List UInt8 := (List.range i).flatMap R
theorem cat_succ (R : Nat → List UInt8) (i : Nat) : cat R (i + 1) = cat R i ++ R i := by simp [cat, List.range_succ]
theorem cat_le (R : Nat → List UInt8) : ∀ (p i : Nat), (cat R i).length ≤ (cat R (i + p)).length
  | 0, i => Nat.le_refl _
  | p + 1, i => by
    rw [show i + (p + 1) = (i + p) + 1 from by omega, cat_succ, List.length_append]
    have := cat_le R p i
    omega
theorem cat_mono (R : Nat → List UInt8) {i j : Nat} (h : i ≤ j) : (cat R i).length ≤ (cat R j).length := by
  obtain ⟨p, rfl⟩ : ∃ p, j = i + p := ⟨j - i, by omega⟩
  exact cat_le R p i
theorem tail_short (n : Nat) : (tail n).length ≤ 1000 := by
  rw [tail_length]; unfold room; omega
set_option maxRecDepth 100000 in
set_option maxHeartbeats 2000000 in
theorem digestSums_walk (a : Option Addr) (len cap : Nat) (bo oo : Nat) (A : Nat → Option Addr) (C : Nat → Nat) (R : Nat → List UInt8) (t : Nat) (W : World)
    (ha : 0 < len → a = some ⟨bo, oo, none⟩) (hm : len ≤ 140737488351232)
    (hout : ∀ i, i < len → bo < W.heap.size ∧ W.cell? ⟨bo, oo + i, none⟩ = some (.slice (A i) (R i).length (C i)))
    (hrow : ∀ i, i < len → Rd W (A i) (R i) ∧ (R i).length ≤ C i ∧ (R i).length ≤ 140737488351232) (ht : t < 18446744073709551616) :
    Calls Try.prog 6 #[.slice a len cap, .int .u64 t] W fun e w' => e = .returned (.bool true) ∧ Below W.heap.size W w' := by
  have HA := Lib.hid ha; have HOUT := Lib.hid hout; have HROW := Lib.hid hrow
  clear ha hout hrow
  go_enter Try.func6, Try.ntmps6
  go_wp2_with fail
  go_loopw [5, 6] (fun v i wr => ∃ k : Nat, k ≤ len ∧ i = .int .i64 k ∧ OwnB wr W.heap.size v (cat R k) ∧ Below W.heap.size W wr) (fun _ i _ => len - (intOf i).toNat)
  case atStart => exact ⟨0, by omega, rfl, OwnB.nil _ _, Below.refl _ _⟩
  case round =>
    obtain ⟨k, hk, rfl, hown, hbw⟩ := hrel
    obtain ⟨L, hL⟩ : ∃ L, (cat R k).length = L := ⟨_, rfl⟩
    obtain ⟨a5, c5, rfl, hc5, hr5⟩ := hown.reads
    rw [hL] at hc5 hown ⊢
    have HO := Lib.hid hown; have HB := Lib.hid hbw; have HL := Lib.hid hL; have HR5 := Lib.hid hr5
    clear hown hbw hL hr5
    by_cases hbig : 400 < L
    · have hg : ¬ (L : Int) ≤ 400 := by omega
      have hgd : decide ((L : Int) ≤ 400) = false := by simpa using hg
      have hgd2 : decide (L ≤ 400) = false := by simp; omega
      go_wp2_with fail
      all_goals
        refine (known_any _).mono ?_
        rintro e w1 ⟨rfl, hb1⟩
        go_wp2_with fail
        go_ret
        exact ⟨rfl, below_trans HB.out hb1⟩
    · have hsm : (L : Int) ≤ 400 := by omega
      by_cases hlt : k < len
      · obtain ⟨hbo, hcell⟩ := HOUT.out k hlt
        obtain ⟨hrk, hck, hlk⟩ := HROW.out k hlt
        obtain rfl := HA.out (by omega)
        have hcw := (HB.out.cell (p := ⟨bo, oo + k, none⟩) hbo).trans hcell
        obtain ⟨m, hmm⟩ : ∃ m, (R k).length = m := ⟨_, rfl⟩
        rw [hmm] at hcw hck hlk
        have HRK := Lib.hid (hrk.below HB.out); have HM := Lib.hid hmm
        clear hrk hmm hcell hbig
        go_wp2_with (at_builtin; refine Kd.R_append_row (Value.int .u8) (0 : Int) (h1 := fun _ => rfl) (w0 := W) W.heap.size rfl _ _ 22 5 (.int .u8 0) 1 rfl Try.underlying22 infoB rfl (by decide) _ (intsB (cat R k)) (intsB (R k)) (A k) m (C k) (fun _ => True) rfl rfl (fun _ _ => trivial) ?k1 ?k2 ?k3 ?k4 ?k5 ?_)
        case k1 => exact HO.out
        case k2 => have := HRK.out; unfold Rd at this; rwa [HM.out] at this
        case k3 => exact HB.out
        case k4 => exact HB.out.size
        case k5 => rw [intsB_length, HL.out]; omega
        intro v1 w2 hR hB2 _ _
        have hR2 : OwnB w2 W.heap.size v1 (cat R (k + 1)) := by unfold OwnB; rw [cat_succ, intsB_append]; exact hR
        have HR2 := Lib.hid hR2; have HB2 := Lib.hid hB2
        clear hR hR2 hB2
        go_wp2_with fail
        go_roundw
        case rel => exact ⟨k + 1, by omega, by go_num, HR2.out, HB2.out⟩
        case measure => simp [intOf]; omega
      · obtain rfl : k = len := by omega
        by_cases h100 : 100 < k
        · have hgd : decide ((k : Int) < (k : Int)) = false := by simp
          go_wp2_with fail
          refine (known_any _).mono ?_
          rintro e w1 ⟨rfl, hb1⟩
          go_wp2_with fail
          go_ret
          exact ⟨rfl, below_trans HB.out hb1⟩
        · have hgd : decide ((k : Int) < (k : Int)) = false := by simp
          go_wp2_with fail
          refine (known_any _).mono ?_
          rintro e w1 ⟨rfl, hb1⟩
          have HB1 := Lib.hid (below_trans HB.out hb1)
          have HR1 := Lib.hid (HR5.out.below hb1)
          clear hb1
          go_wp2_with fail
          refine (new_any w1).mono ?_
          rintro e w2 ⟨p, rfl, hh, hp, hb2⟩
          have HH := Lib.hid hh; have HB2 := Lib.hid hb2
          clear hh hb2
          go_wp2_with fail
          go_loopw [8, 9] (fun u i wr => ∃ j : Nat, j ≤ k ∧ i = .int .i64 j ∧ u = .int .u64 ((cat R j).length : Nat) ∧ Holds wr p (cat R j) ∧ Below w1.heap.size w1 wr) (fun _ i _ => k - (intOf i).toNat)
          case atStart => exact ⟨0, by omega, rfl, rfl, HH.out, HB2.out⟩
          case round =>
            obtain ⟨j, hj, rfl, rfl, hh, hbw⟩ := hrel
            have hDL := cat_mono R hj
            obtain ⟨D, hD⟩ : ∃ D, (cat R j).length = D := ⟨_, rfl⟩
            rw [hD, HL.out] at hDL
            rw [hD]
            have HHJ := Lib.hid hh; have HBW := Lib.hid hbw; have HD := Lib.hid hD
            have hb0w := below_trans HB1.out hbw
            clear hh hbw hD
            by_cases hjk : j < k
            · obtain ⟨hbo, hcell⟩ := HOUT.out j hjk
              obtain ⟨hrk, hck, hlk⟩ := HROW.out j hjk
              obtain rfl := HA.out (by omega)
              have hDL2 := cat_mono R (show j + 1 ≤ k from hjk)
              obtain ⟨m, hmm⟩ : ∃ m, (R j).length = m := ⟨_, rfl⟩
              rw [cat_succ, List.length_append, HD.out, hmm, HL.out] at hDL2
              have hcw := (hb0w.cell (p := ⟨bo, oo + j, none⟩) hbo).trans hcell
              rw [hmm] at hcw hck
              have hwr : ∀ w', Holds w' p (cat R j) → Below w1.heap.size w1 w' → Calls Try.prog 11 #[.pointer (some ⟨p, 0, none⟩), .slice (A j) m (C j)] w' fun e w'' => e = .returned (.int .i64 m) ∧ Holds w'' p (cat R (j + 1)) ∧ w'.grownBy w'' (some p) := fun w' h1 h2 => by
                have := write_any p (cat R j) (R j) (A j) (C j) w' h1 (hrk.below (below_trans HB1.out h2)) (fun ad e hz => by have := hrk.blk ad e hz; have := HB1.out.size; omega) (by rw [HD.out, hmm]; omega)
                rwa [hmm, ← cat_succ] at this
              have HWR := Lib.hid hwr
              have hcs : (cat R (j + 1)).length = D + m := by rw [cat_succ, List.length_append, HD.out, hmm]
              have HCS := Lib.hid hcs
              have hne : bo ≠ p := by have := HB1.out.size; omega
              have hcs2 : bo < wr.heap.size := Nat.lt_of_lt_of_le hbo (Nat.le_trans HB1.out.size HBW.out.size)
              clear hwr hcs hrk hcell hmm hb0w hck
              go_wp2_with fail
              have hmb : ((m : Int) != (m : Int)) = false := by simp
              go_region_held3 (fun w' => w'.cell? ⟨bo, oo + j, none⟩ = some (.slice (A j) m (C j)))
                (first | exact hcw | assumption | (simp only [World.cell?_drewN, World.cell?_drew]; first | exact hcw | assumption) | go_keep)
                (first
                  | (go_at_call 11; refine (HWR.out _ (by exact HHJ.out) (by exact ⟨HBW.out.os, HBW.out.tape, HBW.out.output, HBW.out.size, HBW.out.block⟩)).mono ?_; rintro e w4 ⟨rfl, hh4, hg4⟩; have hc4 := (World.cell?_of_block (a := ⟨bo, oo + j, none⟩) (hg4.block bo hcs2 (by simp; omega))).trans hcw; have HH4 := Lib.hid hh4; have HG4 := Lib.hid hg4; clear hh4 hg4)
                  | (go_at_call 16; refine (long_any p (cat R (j + 1)) _ (by exact HH4.out)).mono ?_; rintro e _ ⟨rfl, rfl⟩; rw [HCS.out]))
              have HB5 := Lib.hid (below_grown (w := w1) (W := wr.drew) ⟨HBW.out.os, HBW.out.tape, HBW.out.output, HBW.out.size, HBW.out.block⟩ HG4.out hp)
              go_wp2_with fail
              go_roundw
              case rel => exact ⟨j + 1, by omega, by go_num, by rw [HCS.out]; rfl, HH4.out, HB5.out⟩
              case measure => simp [intOf]; omega
            · obtain rfl : j = k := by omega
              have hD : D = L := by rw [← HD.out, HL.out]
              subst hD
              obtain ⟨d, hd⟩ : ∃ d, cat R j = d := ⟨_, rfl⟩
              have HRd := Lib.hid (show Rd w1 a5 d from by rw [← hd]; exact HR1.out)
              have HHd := Lib.hid (show Holds wr p d from by rw [← hd]; exact HHJ.out)
              have HDd := Lib.hid (show d.length = D from by rw [← hd]; exact HD.out)
              obtain ⟨S, hS⟩ : ∃ S, Sha.sum d = S := ⟨_, rfl⟩
              have hSl : S.length = 32 := by rw [← hS, Sha.sum_length]
              have hSl2 : S.length ≤ 32 := by omega
              have hrs : ∀ w', Below w1.heap.size w1 w' → Calls Try.prog 17 #[.slice a5 D c5] w' fun e w'' => ∃ v, e = .returned v ∧ OwnB w'' w'.heap.size v S ∧ Below w'.heap.size w' w'' := fun w' hb => by
                have := ref_sum_any a5 c5 d w' (HRd.out.below hb) (by rw [HDd.out]; exact hc5) (by rw [HDd.out]; omega)
                rwa [HDd.out, hS] at this
              have hds : ∀ w', Below w1.heap.size w1 w' → Calls Try.prog 14 #[.slice a5 D c5] w' fun e w'' => ∃ v, e = .returned v ∧ OwnB w'' w'.heap.size v S ∧ Below w'.heap.size w' w'' := fun w' hb => by
                have := digest_sum_any a5 c5 d w' (HRd.out.below hb) (by rw [HDd.out]; omega)
                rwa [HDd.out, hS] at this
              have hhs : ∀ w', Below wr.heap.size wr w' → Calls Try.prog 12 #[.pointer (some ⟨p, 0, none⟩)] w' fun e w'' => ∃ v, e = .returned v ∧ OwnB w'' w'.heap.size v S ∧ Below w'.heap.size w' w'' := fun w' hb => by
                have := hsum_any p d w' (HHd.out.below hb) (by rw [HDd.out]; omega)
                rwa [hS] at this
              have HRS := Lib.hid hrs; have HDS := Lib.hid hds; have HHS := Lib.hid hhs
              clear hrs hds hhs hd hS hDL hSl
              go_wp2_with fail
              refine (HRS.out wr HBW.out).mono ?_
              rintro e w5 ⟨v5, rfl, ho5, hb5⟩
              obtain ⟨a6, c6, rfl, hc6, hr6⟩ := ho5.reads
              have HB5 := Lib.hid hb5; have HR6 := Lib.hid hr6
              clear hb5 ho5 hr6
              go_wp2_with fail
              refine (HDS.out w5 (below_trans HBW.out HB5.out)).mono ?_
              rintro e w6 ⟨v6, rfl, ho6, hb6⟩
              obtain ⟨a7, c7, rfl, hc7, hr7⟩ := ho6.reads
              have HB6 := Lib.hid (below_trans HB5.out hb6); have HR7 := Lib.hid hr7; have HR6b := Lib.hid (HR6.out.below hb6)
              clear hb6 ho6 hr7
              go_wp2_with fail
              refine (same_yes a7 a6 c7 c6 S w6 HR7.out hc7 HR6b.out hc6 (by omega)).mono ?_
              rintro e _ ⟨rfl, q7, rfl⟩
              have HB7 := Lib.hid (below_trans HB6.out (drewN_below w6 q7)); have HR6c := Lib.hid (HR6b.out.below (drewN_below w6 q7))
              go_wp2_with fail
              refine (HHS.out _ HB7.out).mono ?_
              rintro e w8 ⟨v8, rfl, ho8, hb8⟩
              obtain ⟨a8, c8, rfl, hc8, hr8⟩ := ho8.reads
              have HB8 := Lib.hid (below_trans HB7.out hb8); have HR8 := Lib.hid hr8; have HR6d := Lib.hid (HR6c.out.below hb8)
              clear hb8 ho8 hr8
              go_wp2_with fail
              refine (same_yes a8 a6 c8 c6 S w8 HR8.out hc8 HR6d.out hc6 (by omega)).mono ?_
              rintro e _ ⟨rfl, q9, rfl⟩
              have HB9 := Lib.hid (below_trans HB8.out (drewN_below w8 q9)); have HR6e := Lib.hid (HR6d.out.below (drewN_below w8 q9))
              go_wp2_with fail
              refine (HHS.out _ HB9.out).mono ?_
              rintro e w10 ⟨v10, rfl, ho10, hb10⟩
              obtain ⟨a10, c10, rfl, hc10, hr10⟩ := ho10.reads
              have HB10 := Lib.hid (below_trans HB9.out hb10); have HR10 := Lib.hid hr10; have HR6f := Lib.hid (HR6e.out.below hb10)
              clear hb10 ho10 hr10
              go_wp2_with fail
              refine (same_yes a10 a6 c10 c6 S w10 HR10.out hc10 HR6f.out hc6 (by omega)).mono ?_
              rintro e _ ⟨rfl, q11, rfl⟩
              have HB11 := Lib.hid (below_trans HB10.out (drewN_below w10 q11))
              go_wp2_with fail
              refine (tail_any t ht _).mono ?_
              rintro e w12 ⟨v12, rfl, ho12, hb12⟩
              obtain ⟨T, hT⟩ : ∃ T, tail t = T := ⟨_, rfl⟩
              have hTl : T.length ≤ 1000 := by rw [← hT]; exact tail_short t
              rw [hT] at ho12
              obtain ⟨a12, c12, rfl, hc12, hr12⟩ := ho12.reads
              have HB12 := Lib.hid (below_trans HB11.out hb12); have HR12 := Lib.hid hr12; have HT := Lib.hid hT
              clear hb12 ho12 hr12 hT
              go_wp2_with fail
              refine (ref_tail_any t ht _).mono ?_
              rintro e w13 ⟨v13, rfl, ho13, hb13⟩
              rw [HT.out] at ho13
              obtain ⟨a13, c13, rfl, hc13, hr13⟩ := ho13.reads
              have HB13 := Lib.hid (below_trans HB12.out hb13); have HR13 := Lib.hid hr13; have HR12b := Lib.hid (HR12.out.below hb13)
              clear hb13 ho13 hr13
              go_wp2_with fail
              refine (same_yes a12 a13 c12 c13 T w13 HR12b.out hc12 HR13.out hc13 (by omega)).mono ?_
              rintro e _ ⟨rfl, q14, rfl⟩
              have HB14 := Lib.hid (below_trans HB13.out (drewN_below w13 q14))
              go_wp2_with fail
              refine (tail_any D (by omega) _).mono ?_
              rintro e w15 ⟨v15, rfl, ho15, hb15⟩
              obtain ⟨U, hU⟩ : ∃ U, tail D = U := ⟨_, rfl⟩
              have hUl : U.length ≤ 1000 := by rw [← hU]; exact tail_short D
              rw [hU] at ho15
              obtain ⟨a15, c15, rfl, hc15, hr15⟩ := ho15.reads
              have HB15 := Lib.hid (below_trans HB14.out hb15); have HR15 := Lib.hid hr15; have HU := Lib.hid hU
              clear hb15 ho15 hr15 hU
              go_wp2_with fail
              refine (ref_tail_any D (by omega) _).mono ?_
              rintro e w16 ⟨v16, rfl, ho16, hb16⟩
              rw [HU.out] at ho16
              obtain ⟨a16, c16, rfl, hc16, hr16⟩ := ho16.reads
              have HB16 := Lib.hid (below_trans HB15.out hb16); have HR16 := Lib.hid hr16; have HR15b := Lib.hid (HR15.out.below hb16)
              clear hb16 ho16 hr16
              go_wp2_with fail
              refine (same_yes a15 a16 c15 c16 U w16 HR15b.out hc15 HR16.out hc16 (by omega)).mono ?_
              rintro e _ ⟨rfl, q17, rfl⟩
              have HB17 := Lib.hid (below_trans HB16.out (drewN_below w16 q17))
              go_wp2_with fail
              go_ret
              exact ⟨rfl, below_trans HB1.out (below_trans HBW.out HB17.out)⟩
end Go.Proofs.Ytdbdikgjelhfbaa

/-
  A slice of slices of bytes that came in: what it reads as, each row no longer than the form's reach.
-/
namespace Go.Proofs.Ytdbdikgjelhfbaa
open Go.ChangeShapes Go.WideShapes Go.ChangeAt Go.RowKit Go.Deep Sha Go.Proofs.YtdbdikgjelhfbaaW.PrintWords
theorem bytesI_wf {zs : List Int} (h : ∀ z ∈ zs, (Lit.int .u8 z).wf = true) : intsB (bytesI zs) = zs := by
  obtain ⟨l, rfl⟩ := bytes_wf h
  exact congrArg intsB (bytesI_intsB l)
theorem open_byte_rows {H : Type} {enc : TypeId × Value → H} {P : Program} {W : World} {base : Nat} {held : Bool} {ts : List TypeId} {ds : List (DataW H)} {j : Nat} {t e q : TypeId} {a : Option Addr} {len cap : Nat} {d : DataW H} {ps : List MemPlace}
    (hsz : (DataW.weightsEach P ts ds).all (· ≤ reachBytes) = true) (ht : ts[j]? = some t) (hd : ds[j]? = some d) (hu : P.underlying t = some (.slice e)) (he : P.underlying e = some (.slice q)) (hq : P.underlying q = some (.int .u8)) (ce : P.cellsOf e = 1) (cq : P.cellsOf q = 1) {B : Nat} (hB : P.bytesOf e = B) (hB1 : 1 ≤ B) (hBq : P.bytesOf q = 1)
    (h : DataW.Trod enc P W base (fun _ => true) held t (.slice a len cap) d ps) :
    ∃ (bo oo : Nat) (A : Nat → Option Addr) (C : Nat → Nat) (R : Nat → List UInt8), (0 < len → a = some ⟨bo, oo, none⟩) ∧ len ≤ 140737488351232 ∧
      (∀ i, i < len → bo < W.heap.size ∧ W.cell? ⟨bo, oo + i, none⟩ = some (.slice (A i) (R i).length (C i))) ∧
      (∀ i, i < len → Rd W (A i) (R i) ∧ (R i).length ≤ C i ∧ (R i).length ≤ 140737488351232) := by
  obtain ⟨fuel, hf⟩ := h
  rcases open_int_rows hu he hq ce cq hf with ⟨hcs, _⟩ | ⟨x, l, c, A, L, C, Z, hcs, _, hl, hm, hx, hrow⟩
  · simp [Value.cells] at hcs
    obtain ⟨rfl, rfl, rfl⟩ := hcs
    exact ⟨0, 0, fun _ => none, fun _ => 0, fun _ => [], fun h => absurd h (by simp), by simp, fun i h => absurd h (by simp), fun i h => absurd h (by simp)⟩
  · simp [Value.cells] at hcs
    obtain ⟨rfl, rfl, rfl⟩ := hcs
    obtain ⟨hx, _⟩ := Prod.mk.inj hx
    subst hx
    have z := sized_slice hsz ht hd hu
    rw [hB] at z
    have hlen : len ≤ 140737488351232 := by
      have z2 : len * B ≤ 140737488351232 := by
        refine Nat.le_trans (Nat.mul_le_mul_right _ ?_) z
        simp
      exact Nat.le_trans (Nat.le_mul_of_pos_right _ (by omega)) z2
    have hRl : ∀ r, r < cap → (bytesI ((Z r).take (L r))).length = L r := fun r hr => by
      obtain ⟨_, h1, _, h3, _⟩ := hrow r hr
      simp [bytesI]
      omega
    have hcell0 : ∀ r, r < len → W.cell? (x.add r) = some (.slice (A r) (bytesI ((Z r).take (L r))).length (C r)) := fun r hr => by
      rw [hRl r (by omega)]
      exact (hrow r (by omega)).1
    obtain ⟨bo, oo, spot⟩ := x
    have hx0 : 0 < len → spot = none ∧ bo < W.heap.size := fun hp => by
      have h0 := hcell0 0 hp
      have hs : spot = none := by simpa [Addr.add] using World.cell?_spot h0
      subst hs
      have := World.block_lt_of_cell? W _ h0
      exact ⟨rfl, by simpa [Addr.add] using this⟩
    refine ⟨bo, oo, A, C, fun r => bytesI ((Z r).take (L r)), fun hp => by rw [(hx0 hp).1], hlen, fun i hi => ⟨(hx0 (by omega)).2, ?_⟩, fun i hi => ?_⟩
    · have h0 := (hx0 (by omega)).1
      subst h0
      have := hcell0 i hi
      rwa [Addr.add_mid] at this
    · obtain ⟨h1, h2, h3, h4, h5, h6, h7⟩ := hrow i (by omega)
      have hwf : ∀ n ∈ (Z i).take (L i), (Lit.int .u8 n).wf = true := fun n hn => h5 n (List.mem_of_mem_take hn)
      have hLi := hRl i (by omega)
      have hbound : C i ≤ 140737488351232 := by
        cases hA : A i with
        | none => rw [h6 hA]; omega
        | some a' =>
          have hmem : intRow (H := H) .u8 (A i) (L i) (Z i) ∈ (List.range len).map fun r => intRow (H := H) .u8 (A r) (L r) (Z r) := List.mem_map.2 ⟨i, List.mem_range.2 hi, rfl⟩
          have hw : C i * 1 ∈ (intRow (H := H) .u8 (A i) (L i) (Z i)).weights P e := by
            rw [hA]
            simp only [intRow, DataW.weights, he, hBq, List.mem_cons]
            left
            simp [lits]
            omega
          have hn := weights_all_mem (P := P) (e := e) hmem (C i * 1) hw
          have hn2 := DataW.weights_mem_each (P := P) ht hd (C i * 1) (by simp only [DataW.weights, hu, List.mem_cons, List.mem_append]; exact .inr (.inl hn))
          have := List.all_eq_true.1 hsz _ hn2
          have h8 : C i * 1 ≤ 140737488351232 := of_decide_eq_true this
          omega
      show Rd W (A i) (bytesI ((Z i).take (L i))) ∧ (bytesI ((Z i).take (L i))).length ≤ C i ∧ (bytesI ((Z i).take (L i))).length ≤ 140737488351232
      refine ⟨?_, by omega, by omega⟩
      refine Kd.C_of_reads (d := (0 : Int)) ⟨intsB_length _, by rw [hLi]; unfold maxLen at h3; omega, fun hp => ?_⟩
      cases hA : A i with
      | none => have := h6 hA; omega
      | some a' =>
        refine ⟨a', rfl, fun k hk => ?_⟩
        rw [(h7 a' hA).2 k (by omega), bytesI_wf hwf]
        rw [hLi] at hk
        simp [List.getD_eq_getElem?_getD, List.getElem?_take, hk]
end Go.Proofs.Ytdbdikgjelhfbaa

/-
  The row of the law DigestSums: whatever the input, it answers true and leaves its arguments as they were; out of its walk.
-/
namespace Go.Proofs.Ytdbdikgjelhfbaa.digestSums
open Go.ChangeShapes Go.WideShapes Go.ChangeAt Go.RowKit
open Go.ChangeMaps (open_string shut_string)
theorem own : ownKnob Try.prog.godebug = none := by kernel_rfl
theorem laidOut : laidOutB Try.prog = true := by kernel_rfl
set_option maxRecDepth 100000 in
theorem lifted (os : Os) (started : os.Started) (H : Type) (enc : TypeId × Value → H) :
    ReturnsInHanded {} Try.checked os 6 .any (Rows.digestSumsSpec.pre6 enc Try.prog Try.f6 Rows.digestSumsRow.domain false) (Rows.digestSumsSpec.post enc Try.prog Try.f6 false true false false) := by
  refine returnsInHanded_of_change_sized (C := Try.checked) own started (by kernel_rfl) Try.func6
    (ChangeSpec.witness6 (enc := enc) (C := Try.checked) false ⟨#[], #[.slice none 0 0, .int .u64 0], []⟩ 8 (by kernel_rfl) (by kernel_rfl) (by kernel_rfl) (by kernel_rfl)) ?_
  intro W base args ds gs before hval0 hW _ hsz0 _
  have hsz : (DataW.weightsEach Try.prog (Try.f6.params.toList ++ Rows.digestSumsSpec.plain.varTypes Try.prog) (ds ++ gs)).all (· ≤ reachBytes) = true := hsz0
  have hval : ∀ (j : Nat) t v, Try.f6.params[j]? = some t → args[j]? = some v → Value.okWide Try.prog W .any base t v := hval0
  have hW' := hW
  obtain ⟨p, q, hA0, hV, rfl, hfz, hnd⟩ := hW
  have hA : DataW.TrodAll enc Try.prog W 0 (fun _ => true) true Try.f6.params.toList args.toList ds p := hA0
  rw [Try.params6] at hA hval hsz
  obtain ⟨v0, vs0, d0, ds0, p0, q0, hargs, rfl, rfl, h0, r0⟩ := trodAll_cons hA
  obtain ⟨v1, vs1, d1, ds1, p1, q1, rfl, rfl, rfl, h1, r1⟩ := trodAll_cons r0
  obtain ⟨rfl, rfl, rfl⟩ := trodAll_nil r1
  obtain rfl : args = #[v0, v1] := by cases args; simp_all
  obtain ⟨rfl, rfl⟩ := trodVars_none hV
  obtain ⟨a0, len0, cap0, rfl⟩ := okWide_slice Try.underlying38 (hval 0 38 v0 rfl rfl)
  have k0 := h0
  have lt0 : ∀ x ∈ p0, x.block < W.heap.size := by obtain ⟨m, hm⟩ := k0; exact DataW.trod_lt m _ _ _ hm
  obtain ⟨bo, oo, A, C, R, ha, hm, hout, hrow⟩ := open_byte_rows hsz (j := 0) (t := 38) rfl rfl Try.underlying38 Try.underlying22 Try.underlying5 (by kernel_rfl) (by kernel_rfl) (B := 24) (by kernel_rfl) (by omega) (by kernel_rfl) h0
  obtain ⟨a1, rfl, rfl, rfl, w1⟩ := open_int Try.underlying33 (hval 1 33 v1 rfl rfl) h1
  have hb := bounds_u64 w1
  obtain ⟨t, rfl⟩ := Int.eq_ofNat_of_zero_le hb.1
  refine (digestSums_walk a0 len0 cap0 bo oo A C R t W ha hm hout hrow (by omega)).mono fun e W' ⟨he, bel⟩ => ?_
  subst he
  exact ⟨_, rfl, _, _, _, [], _, [], hW', trodAll_mk1 (shut_bool Try.underlying4 _), (trodAll_cons_mk (Below.trod laidOut (by kernel_rfl) (of_decide_eq_true (by kernel_rfl)) k0 bel lt0) (trodAll_cons_mk (shut_int Try.underlying33 w1) trodAll_mk0)), rfl, bel.frame _, fun h => by cases h⟩
theorem over : Rows.digestSumsRow.holds Try.pinned (OpenSpec.ofChange Rows.digestSumsSpec) :=
  OpenClaim.holds_of_wide 6 Try.f6 rfl rfl rfl rfl rfl rfl rfl ⟨rfl, rfl, rfl, rfl, rfl⟩ rfl rfl rfl rfl rfl (by kernel_rfl) Try.func6 (by kernel_rfl)
    (of_decide_eq_true (by kernel_rfl)) (by unfold Func.isWrapper; first | (rw [if_pos (by decide +kernel)]; kernel_rfl) | (rw [if_neg (by decide +kernel)]; exact ⟨rfl, rfl⟩))
    (fun os started H enc _ => lifted os started H enc)
end Go.Proofs.Ytdbdikgjelhfbaa.digestSums
namespace Go.Proofs.Ytdbdikgjelhfbaa
/-- The row, under a short name. -/
theorem digestSums_holds : Rows.DigestSumsSaid := digestSums.over
#print axioms digestSums_holds
end Go.Proofs.Ytdbdikgjelhfbaa

