/-
  Texts of this session, merged in build order: Rtx1, Rtx2, Rtx3, Rtx, RefT, RefB, SealE2, Psx4, PsB, SealE3, LawMakes, LawMakes2, RSealMakes.
-/
import Derived.Test.YtnhljemnebgekaaZSealMakes1
import Derived.Test.YtnhljemnebgekaaZC1
import Derived.Test.YtnhljemnebgekaaZC0
import Derived.Test.YtnhljemnebgekaaZSealMakes0
import Derived.Test.YtnhljemnebgekaaWZeros
import Derived.Test.YtnhljemnebgekaaWWords
import Derived.BigQuiet
import Derived.Test.YtnhljemnebgekaaRows
set_option linter.unusedVariables false
set_option linter.unusedSimpArgs false
/-
  What the functions of these laws compute, as plain Lean functions, and that the machine's calls compute it: written by this session's own hook over the kit's print.
-/
namespace Go.Proofs.Ytnhljemnebgekaa.Rt
open Go.RowKit Go.Proofs.YtnhljemnebgekaaW.PrintWords Go.Proofs.YtnhljemnebgekaaW.PrintLast Go.Proofs.YtnhljemnebgekaaW.PrintMore
attribute [local go_sem] u32_sg u32_mx u64_sg u64_mx
attribute [local go_sem] max2_int min2_int max_two min_two max_three min_three max_four min_four   -- for this text's walks alone
set_option linter.unusedVariables false
set_option linter.unusedSimpArgs false

/-! ### heliastref05_Text: function 12 -/
mutual
def heliastref05_Text.l0 : Nat → List Int → ByteArray → Int → Option (ByteArray)
  | 0, _, _, _ => none
  | k + 1, x0, x3, x4 => if x4 < (x0.length : Int) then (heliastref05_Text.l1 k x0 x3 x4 0 (mn (wrap64 ((x0.length : Int) - x4)) 3) 0) else (some x3)
def heliastref05_Text.l1 : Nat → List Int → ByteArray → Int → Int → Int → Int → Option (ByteArray)
  | 0, _, _, _, _, _, _ => none
  | k + 1, x0, x3, x4, x5, x6, x7 => if x7 < 3 then (if x7 < x6 then (if 0 ≤ (wrap64 (x4 + x7)) then (if (wrap64 (x4 + x7)) < (x0.length : Int) then (heliastref05_Text.l1 k x0 x3 x4 (wrap64 ((wrap64 (256 * x5)) + (wrap64 (rd x0 (wrap64 (x4 + x7)))))) x6 (wrap64 (x7 + 1))) else (none)) else (none)) else (heliastref05_Text.l1 k x0 x3 x4 (wrap64 (256 * x5)) x6 (wrap64 (x7 + 1)))) else (heliastref05_Text.l2 k x0 x3 x4 x5 x6 0)
def heliastref05_Text.l2 : Nat → List Int → ByteArray → Int → Int → Int → Int → Option (ByteArray)
  | 0, _, _, _, _, _, _ => none
  | k + 1, x0, x3, x4, x5, x6, x8 => if x8 ≤ x6 then (if 0 ≤ (IntKind.u64.wrap (wrap64 (18 - (wrap64 (6 * x8))))) then (if 0 ≤ (Int.tmod (shr .i64 x5 (IntKind.u64.wrap (wrap64 (18 - (wrap64 (6 * x8)))))) 64) then (if (Int.tmod (shr .i64 x5 (IntKind.u64.wrap (wrap64 (18 - (wrap64 (6 * x8)))))) 64) ≤ (wrap64 ((Int.tmod (shr .i64 x5 (IntKind.u64.wrap (wrap64 (18 - (wrap64 (6 * x8)))))) 64) + 1)) then (if (wrap64 ((Int.tmod (shr .i64 x5 (IntKind.u64.wrap (wrap64 (18 - (wrap64 (6 * x8)))))) 64) + 1)) ≤ 64 then (if x3.size + ((⟨#[65, 66, 67, 68, 69, 70, 71, 72, 73, 74, 75, 76, 77, 78, 79, 80, 81, 82, 83, 84, 85, 86, 87, 88, 89, 90, 97, 98, 99, 100, 101, 102, 103, 104, 105, 106, 107, 108, 109, 110, 111, 112, 113, 114, 115, 116, 117, 118, 119, 120, 121, 122, 48, 49, 50, 51, 52, 53, 54, 55, 56, 57, 45, 95]⟩ : ByteArray).extract ((Int.tmod (shr .i64 x5 (IntKind.u64.wrap (wrap64 (18 - (wrap64 (6 * x8)))))) 64) : Int).toNat ((wrap64 ((Int.tmod (shr .i64 x5 (IntKind.u64.wrap (wrap64 (18 - (wrap64 (6 * x8)))))) 64) + 1)) : Int).toNat).size ≤ 9223372036854775807 then (heliastref05_Text.l2 k x0 (x3 ++ ((⟨#[65, 66, 67, 68, 69, 70, 71, 72, 73, 74, 75, 76, 77, 78, 79, 80, 81, 82, 83, 84, 85, 86, 87, 88, 89, 90, 97, 98, 99, 100, 101, 102, 103, 104, 105, 106, 107, 108, 109, 110, 111, 112, 113, 114, 115, 116, 117, 118, 119, 120, 121, 122, 48, 49, 50, 51, 52, 53, 54, 55, 56, 57, 45, 95]⟩ : ByteArray).extract ((Int.tmod (shr .i64 x5 (IntKind.u64.wrap (wrap64 (18 - (wrap64 (6 * x8)))))) 64) : Int).toNat ((wrap64 ((Int.tmod (shr .i64 x5 (IntKind.u64.wrap (wrap64 (18 - (wrap64 (6 * x8)))))) 64) + 1)) : Int).toNat)) x4 x5 x6 (wrap64 (x8 + 1))) else (none)) else (none)) else (none)) else (none)) else (none)) else (heliastref05_Text.l0 k x0 x3 (wrap64 (x4 + 3)))
end
def heliastref05_Text.f (k : Nat) (l0 : List Int) : Option (ByteArray) := heliastref05_Text.l0 k l0 (⟨#[]⟩ : ByteArray) 0
theorem heliastref05_Text.mono_l : ∀ k, (∀ y0 y1 y2, LeO (heliastref05_Text.l0 k y0 y1 y2) (heliastref05_Text.l0 (k + 1) y0 y1 y2)) ∧ (∀ y0 y1 y2 y3 y4 y5, LeO (heliastref05_Text.l1 k y0 y1 y2 y3 y4 y5) (heliastref05_Text.l1 (k + 1) y0 y1 y2 y3 y4 y5)) ∧ (∀ y0 y1 y2 y3 y4 y5, LeO (heliastref05_Text.l2 k y0 y1 y2 y3 y4 y5) (heliastref05_Text.l2 (k + 1) y0 y1 y2 y3 y4 y5))
  | 0 => ⟨fun _ _ _ r h => by simp [heliastref05_Text.l0] at h, fun _ _ _ _ _ _ r h => by simp [heliastref05_Text.l1] at h, fun _ _ _ _ _ _ r h => by simp [heliastref05_Text.l2] at h⟩
  | k + 1 => by
    obtain ⟨ih0, ih1, ih2⟩ := heliastref05_Text.mono_l k
    refine ⟨?_, ?_, ?_⟩
    · intro y0 y1 y2
      unfold heliastref05_Text.l0
      repeat' first
      | (with_reducible exact ih0 _ _ _)
      | (with_reducible exact ih1 _ _ _ _ _ _)
      | (with_reducible exact ih2 _ _ _ _ _ _)
      | (with_reducible exact LeO.refl _)
      | (with_reducible exact LeO.none _)
      | (with_reducible refine LeO.ite ?_ ?_)
      | (with_reducible refine LeO.bind ?_ (fun _ => ?_))
      | exact ih0 _ _ _
      | exact ih1 _ _ _ _ _ _
      | exact ih2 _ _ _ _ _ _
      | exact LeO.none _
      | refine LeO.ite ?_ ?_
      | refine LeO.bind ?_ (fun _ => ?_)
    · intro y0 y1 y2 y3 y4 y5
      unfold heliastref05_Text.l1
      repeat' first
      | (with_reducible exact ih0 _ _ _)
      | (with_reducible exact ih1 _ _ _ _ _ _)
      | (with_reducible exact ih2 _ _ _ _ _ _)
      | (with_reducible exact LeO.refl _)
      | (with_reducible exact LeO.none _)
      | (with_reducible refine LeO.ite ?_ ?_)
      | (with_reducible refine LeO.bind ?_ (fun _ => ?_))
      | exact ih0 _ _ _
      | exact ih1 _ _ _ _ _ _
      | exact ih2 _ _ _ _ _ _
      | exact LeO.none _
      | refine LeO.ite ?_ ?_
      | refine LeO.bind ?_ (fun _ => ?_)
    · intro y0 y1 y2 y3 y4 y5
      unfold heliastref05_Text.l2
      repeat' first
      | (with_reducible exact ih0 _ _ _)
      | (with_reducible exact ih1 _ _ _ _ _ _)
      | (with_reducible exact ih2 _ _ _ _ _ _)
      | (with_reducible exact LeO.refl _)
      | (with_reducible exact LeO.none _)
      | (with_reducible refine LeO.ite ?_ ?_)
      | (with_reducible refine LeO.bind ?_ (fun _ => ?_))
      | exact ih0 _ _ _
      | exact ih1 _ _ _ _ _ _
      | exact ih2 _ _ _ _ _ _
      | exact LeO.none _
      | refine LeO.ite ?_ ?_
      | refine LeO.bind ?_ (fun _ => ?_)
theorem heliastref05_Text.mono : ∀ a0 k, LeO (heliastref05_Text.f k a0) (heliastref05_Text.f (k + 1) a0) := by
  intro a0 k
  obtain ⟨ih0, ih1, ih2⟩ := heliastref05_Text.mono_l k
  unfold heliastref05_Text.f
  repeat' first
      | (with_reducible exact ih0 _ _ _)
      | (with_reducible exact ih1 _ _ _ _ _ _)
      | (with_reducible exact ih2 _ _ _ _ _ _)
      | (with_reducible exact LeO.refl _)
      | (with_reducible exact LeO.none _)
      | (with_reducible refine LeO.ite ?_ ?_)
      | (with_reducible refine LeO.bind ?_ (fun _ => ?_))
      | exact ih0 _ _ _
      | exact ih1 _ _ _ _ _ _
      | exact ih2 _ _ _ _ _ _
      | exact LeO.none _
      | refine LeO.ite ?_ ?_
      | refine LeO.bind ?_ (fun _ => ?_)
set_option maxHeartbeats 8000000 in
set_option maxRecDepth 100000 in
theorem heliastref05_Text.calls (k : Nat) (A0 : Option Addr) (c0 : Nat) (l0 : List Int) (r : ByteArray) (w : World) (hr0 : Kd.C (Kd.int .u8) w A0 l0.length l0) (hc0 : l0.length ≤ c0) (h : heliastref05_Text.f k l0 = some r) :
    Calls Try.prog 12 #[.slice A0 l0.length c0] w fun e w' => e = .returned (.string r) ∧ Below w.heap.size w w' := by
  have HR0 := Aside0.mk hr0
  have HC0 := Aside0.mk hc0
  clear hr0 hc0
  have HB := Aside0.mk (Below.refl w.heap.size w)
  have H : (heliastref05_Text.l0 k l0 (⟨#[]⟩ : ByteArray) 0) = some r := h
  clear h
  have H' := Aside0.mk H
  clear H
  go_enter Try.func12, Try.ntmps12
  go_wp2
  go_loopg [3, 4] k (fun kq v3 v4 w' => ∃ (x3_1 : ByteArray) (x4_1 : Int), v3 = .string x3_1 ∧ v4 = .int .i64 x4_1 ∧ Aside0 (heliastref05_Text.l0 kq l0 x3_1 x4_1 = some r) ∧ Aside0 (kq ≤ k) ∧ Aside0 (Below w.heap.size w w'))
  case atStart => exact ⟨((⟨#[]⟩ : ByteArray)), (0), (by first | rfl | (simp; done) | (simp [*]; done)), (by first | rfl | (simp; done) | (simp [*]; done)), H', ⟨Nat.le_refl _⟩, ⟨by repeat (first | (with_reducible first | exact HB.out | apply below_alloc | apply pw_below_drewN | apply below_drew1) | exact HB.out)⟩⟩
  case round =>
    clear H'
    try clear c1
    obtain ⟨x3_1, x4_1, rfl, rfl, HA, HK1, HB⟩ := hrel
    cases gk with
    | zero => exact absurd HA.out (by simp [heliastref05_Text.l0])
    | succ k1 =>
      have H := HA.out
      clear HA
      simp only [heliastref05_Text.l0] at H
      by_cases c2 : x4_1 < (l0.length : Int)
      · rw [if_pos c2] at H
        have c2b0 : decide (x4_1 < (l0.length : Int)) = true := decide_eq_true c2
        clear c2
        obtain ⟨ji3, hji3⟩ : ∃ j_ : Int, (mn (wrap64 ((l0.length : Int) - x4_1)) 3) = j_ := ⟨_, rfl⟩
        replace H : (heliastref05_Text.l1 k1 l0 x3_1 x4_1 0 ji3 0) = some r := by first | (rw [hji3] at H; exact H) | (simp only [hji3] at H ⊢; exact H)
        have hji3_ : (if 3 < (wrap64 ((l0.length : Int) - x4_1)) then 3 else (wrap64 ((l0.length : Int) - x4_1))) = ji3 := hji3
        have H' := Aside0.mk H
        clear H
        go_wp2
        go_loopg [5, 7] k1 (fun kq v5 v7 w' => ∃ (x5_2 : Int) (x7_2 : Int), v5 = .int .i64 x5_2 ∧ v7 = .int .i64 x7_2 ∧ Aside0 (heliastref05_Text.l1 kq l0 x3_1 x4_1 x5_2 ji3 x7_2 = some r) ∧ Aside0 (kq ≤ k1) ∧ Aside0 (Below w.heap.size w w'))
        case atStart => exact ⟨(0), (0), (by first | rfl | (simp; done) | (simp [*]; done)), (by first | rfl | (simp; done) | (simp [*]; done)), H', ⟨Nat.le_refl _⟩, ⟨by repeat (first | (with_reducible first | exact HB.out | apply below_alloc | apply pw_below_drewN | apply below_drew1) | exact HB.out)⟩⟩
        case round =>
          clear H'
          try clear c1
          try clear c2
          try clear c2b0
          try clear p2
          obtain ⟨x5_2, x7_2, rfl, rfl, HA, HK2, HB⟩ := hrel
          cases gk with
          | zero => exact absurd HA.out (by simp [heliastref05_Text.l1])
          | succ k2 =>
            have H := HA.out
            clear HA
            simp only [heliastref05_Text.l1] at H
            by_cases c4 : x7_2 < 3
            · rw [if_pos c4] at H
              have c4b0 : decide (x7_2 < 3) = true := decide_eq_true c4
              clear c4
              by_cases c5 : x7_2 < ji3
              · rw [if_pos c5] at H
                have c5b0 : decide (x7_2 < ji3) = true := decide_eq_true c5
                clear c5
                obtain ⟨ji6, hji6⟩ : ∃ j_ : Int, (wrap64 (x4_1 + x7_2)) = j_ := ⟨_, rfl⟩
                replace H : (if 0 ≤ (ji6) then (if (ji6) < (l0.length : Int) then (heliastref05_Text.l1 k2 l0 x3_1 x4_1 (wrap64 ((wrap64 (256 * x5_2)) + (wrap64 (rd l0 (ji6))))) ji3 (wrap64 (x7_2 + 1))) else (none)) else (none)) = some r := by first | (rw [hji6] at H; exact H) | (simp only [hji6] at H ⊢; exact H)
                have hji6w : (IntKind.i64.wrap (x4_1 + x7_2)) = ji6 := (i64_w _).trans hji6
                by_cases c7 : 0 ≤ (ji6)
                · rw [if_pos c7] at H
                  have c7b0 : decide (0 ≤ (ji6)) = true := decide_eq_true c7
                  clear c7
                  by_cases c8 : (ji6) < (l0.length : Int)
                  · rw [if_pos c8] at H
                    have c8b0 : decide ((ji6) < (l0.length : Int)) = true := decide_eq_true c8
                    clear c8
                    have H' := Aside0.mk H
                    clear H
                    have p101 : 0 ≤ ((ji6) : Int) := of_decide_eq_true (by first | (with_reducible assumption) | assumption)
                    have q101 : (ji6) < (l0.length : Int) := of_decide_eq_true (by first | (with_reducible assumption) | assumption)
                    obtain ⟨ad101, e101, hx101_0⟩ := Kd.at_int HR0.out (ji6) p101 q101
                    cases e101
                    replace hx101_0 := (HB.out.cell (World.block_lt_of_cell? w _ hx101_0)).trans hx101_0
                    replace p101 := eq_true p101
                    replace q101 := eq_true q101
                    go_wp2
                    go_roundg k2
                    case measure => have := HK1.out; have := HK2.out; omega
                    case rel => exact ⟨(wrap64 ((wrap64 (256 * x5_2)) + (wrap64 (rd l0 (ji6))))), (wrap64 (x7_2 + 1)), (by first | rfl | (simp; done) | (simp only [← hji6] <;> (first | rfl | simp)) | (simp [*]; done)), (by first | rfl | (simp; done) | (simp [*]; done)), H', ⟨by have := HK1.out; have := HK2.out; omega⟩, ⟨by repeat (first | (with_reducible first | exact HB.out | apply below_alloc | apply pw_below_drewN | apply below_drew1) | exact HB.out)⟩⟩
                  · rw [if_neg c8] at H
                    exact absurd H (by simp)
                · rw [if_neg c7] at H
                  exact absurd H (by simp)
              · rw [if_neg c5] at H
                have c5b0 : decide (x7_2 < ji3) = false := decide_eq_false c5
                clear c5
                have H' := Aside0.mk H
                clear H
                go_wp2
                go_roundg k2
                case measure => have := HK1.out; have := HK2.out; omega
                case rel => exact ⟨(wrap64 (256 * x5_2)), (wrap64 (x7_2 + 1)), (by first | rfl | (simp; done) | (simp [*]; done)), (by first | rfl | (simp; done) | (simp [*]; done)), H', ⟨by have := HK1.out; have := HK2.out; omega⟩, ⟨by repeat (first | (with_reducible first | exact HB.out | apply below_alloc | apply pw_below_drewN | apply below_drew1) | exact HB.out)⟩⟩
            · rw [if_neg c4] at H
              have c4b0 : decide (x7_2 < 3) = false := decide_eq_false c4
              clear c4
              have H' := Aside0.mk H
              clear H
              go_wp2
              go_loopg [3, 8] k2 (fun kq v3 v8 w' => ∃ (x3_3 : ByteArray) (x8_3 : Int), v3 = .string x3_3 ∧ v8 = .int .i64 x8_3 ∧ Aside0 (heliastref05_Text.l2 kq l0 x3_3 x4_1 x5_2 ji3 x8_3 = some r) ∧ Aside0 (kq ≤ k2) ∧ Aside0 (Below w.heap.size w w'))
              case atStart => exact ⟨(x3_1), (0), (by first | rfl | (simp; done) | (simp [*]; done)), (by first | rfl | (simp; done) | (simp [*]; done)), H', ⟨Nat.le_refl _⟩, ⟨by repeat (first | (with_reducible first | exact HB.out | apply below_alloc | apply pw_below_drewN | apply below_drew1) | exact HB.out)⟩⟩
              case round =>
                clear H'
                try clear c1
                try clear p1
                try clear q1
                try clear hx1
                try clear c2
                try clear c2b0
                try clear p2
                try clear c4
                try clear c4b0
                try clear c5
                try clear c5b0
                try clear p6
                try clear c7
                try clear c7b0
                try clear c8
                try clear c8b0
                try clear hx101_0
                try clear p101
                try clear p2
                try clear q101
                obtain ⟨x3_3, x8_3, rfl, rfl, HA, HK3, HB⟩ := hrel
                cases gk with
                | zero => exact absurd HA.out (by simp [heliastref05_Text.l2])
                | succ k3 =>
                  have H := HA.out
                  clear HA
                  simp only [heliastref05_Text.l2] at H
                  by_cases c9 : x8_3 ≤ ji3
                  · rw [if_pos c9] at H
                    have c9b0 : decide (x8_3 ≤ ji3) = true := decide_eq_true c9
                    clear c9
                    obtain ⟨ji10, hji10⟩ : ∃ j_ : Int, (IntKind.u64.wrap (wrap64 (18 - (wrap64 (6 * x8_3))))) = j_ := ⟨_, rfl⟩
                    replace H : (if 0 ≤ (ji10) then (if 0 ≤ (Int.tmod (shr .i64 x5_2 (ji10)) 64) then (if (Int.tmod (shr .i64 x5_2 (ji10)) 64) ≤ (wrap64 ((Int.tmod (shr .i64 x5_2 (ji10)) 64) + 1)) then (if (wrap64 ((Int.tmod (shr .i64 x5_2 (ji10)) 64) + 1)) ≤ 64 then (if x3_3.size + ((⟨#[65, 66, 67, 68, 69, 70, 71, 72, 73, 74, 75, 76, 77, 78, 79, 80, 81, 82, 83, 84, 85, 86, 87, 88, 89, 90, 97, 98, 99, 100, 101, 102, 103, 104, 105, 106, 107, 108, 109, 110, 111, 112, 113, 114, 115, 116, 117, 118, 119, 120, 121, 122, 48, 49, 50, 51, 52, 53, 54, 55, 56, 57, 45, 95]⟩ : ByteArray).extract ((Int.tmod (shr .i64 x5_2 (ji10)) 64) : Int).toNat ((wrap64 ((Int.tmod (shr .i64 x5_2 (ji10)) 64) + 1)) : Int).toNat).size ≤ 9223372036854775807 then (heliastref05_Text.l2 k3 l0 (x3_3 ++ ((⟨#[65, 66, 67, 68, 69, 70, 71, 72, 73, 74, 75, 76, 77, 78, 79, 80, 81, 82, 83, 84, 85, 86, 87, 88, 89, 90, 97, 98, 99, 100, 101, 102, 103, 104, 105, 106, 107, 108, 109, 110, 111, 112, 113, 114, 115, 116, 117, 118, 119, 120, 121, 122, 48, 49, 50, 51, 52, 53, 54, 55, 56, 57, 45, 95]⟩ : ByteArray).extract ((Int.tmod (shr .i64 x5_2 (ji10)) 64) : Int).toNat ((wrap64 ((Int.tmod (shr .i64 x5_2 (ji10)) 64) + 1)) : Int).toNat)) x4_1 x5_2 ji3 (wrap64 (x8_3 + 1))) else (none)) else (none)) else (none)) else (none)) else (none)) = some r := by first | (rw [hji10] at H; exact H) | (simp only [hji10] at H ⊢; exact H)
                    by_cases c11 : 0 ≤ (ji10)
                    · rw [if_pos c11] at H
                      have c11b0 := eq_true c11
                      have c11b1 : decide (0 ≤ (ji10)) = true := decide_eq_true c11
                      clear c11
                      obtain ⟨ji12, hji12⟩ : ∃ j_ : Int, (shr .i64 x5_2 (ji10)) = j_ := ⟨_, rfl⟩
                      replace H : (if 0 ≤ (Int.tmod (ji12) 64) then (if (Int.tmod (ji12) 64) ≤ (wrap64 ((Int.tmod (ji12) 64) + 1)) then (if (wrap64 ((Int.tmod (ji12) 64) + 1)) ≤ 64 then (if x3_3.size + ((⟨#[65, 66, 67, 68, 69, 70, 71, 72, 73, 74, 75, 76, 77, 78, 79, 80, 81, 82, 83, 84, 85, 86, 87, 88, 89, 90, 97, 98, 99, 100, 101, 102, 103, 104, 105, 106, 107, 108, 109, 110, 111, 112, 113, 114, 115, 116, 117, 118, 119, 120, 121, 122, 48, 49, 50, 51, 52, 53, 54, 55, 56, 57, 45, 95]⟩ : ByteArray).extract ((Int.tmod (ji12) 64) : Int).toNat ((wrap64 ((Int.tmod (ji12) 64) + 1)) : Int).toNat).size ≤ 9223372036854775807 then (heliastref05_Text.l2 k3 l0 (x3_3 ++ ((⟨#[65, 66, 67, 68, 69, 70, 71, 72, 73, 74, 75, 76, 77, 78, 79, 80, 81, 82, 83, 84, 85, 86, 87, 88, 89, 90, 97, 98, 99, 100, 101, 102, 103, 104, 105, 106, 107, 108, 109, 110, 111, 112, 113, 114, 115, 116, 117, 118, 119, 120, 121, 122, 48, 49, 50, 51, 52, 53, 54, 55, 56, 57, 45, 95]⟩ : ByteArray).extract ((Int.tmod (ji12) 64) : Int).toNat ((wrap64 ((Int.tmod (ji12) 64) + 1)) : Int).toNat)) x4_1 x5_2 ji3 (wrap64 (x8_3 + 1))) else (none)) else (none)) else (none)) else (none)) = some r := by first | (rw [hji12] at H; exact H) | (simp only [hji12] at H ⊢; exact H)
                      have hji12_ : (x5_2 / 2 ^ min (ji10).toNat 64) = ji12 := hji12
                      have hji12z : (ji10) ≤ 64 → (x5_2 / 2 ^ (ji10).toNat) = ji12 := shr_small hji12
                      obtain ⟨ji13, hji13⟩ : ∃ j_ : Int, (Int.tmod (ji12) 64) = j_ := ⟨_, rfl⟩
                      replace H : (if 0 ≤ (ji13) then (if (ji13) ≤ (wrap64 ((ji13) + 1)) then (if (wrap64 ((ji13) + 1)) ≤ 64 then (if x3_3.size + ((⟨#[65, 66, 67, 68, 69, 70, 71, 72, 73, 74, 75, 76, 77, 78, 79, 80, 81, 82, 83, 84, 85, 86, 87, 88, 89, 90, 97, 98, 99, 100, 101, 102, 103, 104, 105, 106, 107, 108, 109, 110, 111, 112, 113, 114, 115, 116, 117, 118, 119, 120, 121, 122, 48, 49, 50, 51, 52, 53, 54, 55, 56, 57, 45, 95]⟩ : ByteArray).extract ((ji13) : Int).toNat ((wrap64 ((ji13) + 1)) : Int).toNat).size ≤ 9223372036854775807 then (heliastref05_Text.l2 k3 l0 (x3_3 ++ ((⟨#[65, 66, 67, 68, 69, 70, 71, 72, 73, 74, 75, 76, 77, 78, 79, 80, 81, 82, 83, 84, 85, 86, 87, 88, 89, 90, 97, 98, 99, 100, 101, 102, 103, 104, 105, 106, 107, 108, 109, 110, 111, 112, 113, 114, 115, 116, 117, 118, 119, 120, 121, 122, 48, 49, 50, 51, 52, 53, 54, 55, 56, 57, 45, 95]⟩ : ByteArray).extract ((ji13) : Int).toNat ((wrap64 ((ji13) + 1)) : Int).toNat)) x4_1 x5_2 ji3 (wrap64 (x8_3 + 1))) else (none)) else (none)) else (none)) else (none)) = some r := by first | (rw [hji13] at H; exact H) | (simp only [hji13] at H ⊢; exact H)
                      by_cases c14 : 0 ≤ (ji13)
                      · rw [if_pos c14] at H
                        have c14b0 := eq_true c14
                        have c14b1 : decide (0 ≤ (ji13)) = true := decide_eq_true c14
                        clear c14
                        by_cases c15 : (ji13) ≤ (wrap64 ((ji13) + 1))
                        · rw [if_pos c15] at H
                          have c15b0 := eq_true c15
                          have c15b1 : decide ((ji13) ≤ (wrap64 ((ji13) + 1))) = true := decide_eq_true c15
                          by_cases c16 : (wrap64 ((ji13) + 1)) ≤ 64
                          · rw [if_pos c16] at H
                            have c16b0 := eq_true c16
                            have c16b1 : decide ((wrap64 ((ji13) + 1)) ≤ 64) = true := decide_eq_true c16
                            by_cases c17 : x3_3.size + ((⟨#[65, 66, 67, 68, 69, 70, 71, 72, 73, 74, 75, 76, 77, 78, 79, 80, 81, 82, 83, 84, 85, 86, 87, 88, 89, 90, 97, 98, 99, 100, 101, 102, 103, 104, 105, 106, 107, 108, 109, 110, 111, 112, 113, 114, 115, 116, 117, 118, 119, 120, 121, 122, 48, 49, 50, 51, 52, 53, 54, 55, 56, 57, 45, 95]⟩ : ByteArray).extract ((ji13) : Int).toNat ((wrap64 ((ji13) + 1)) : Int).toNat).size ≤ 9223372036854775807
                            · rw [if_pos c17] at H
                              have c17b0 := eq_true c17
                              have c17b1 : decide (x3_3.size + ((⟨#[65, 66, 67, 68, 69, 70, 71, 72, 73, 74, 75, 76, 77, 78, 79, 80, 81, 82, 83, 84, 85, 86, 87, 88, 89, 90, 97, 98, 99, 100, 101, 102, 103, 104, 105, 106, 107, 108, 109, 110, 111, 112, 113, 114, 115, 116, 117, 118, 119, 120, 121, 122, 48, 49, 50, 51, 52, 53, 54, 55, 56, 57, 45, 95]⟩ : ByteArray).extract ((ji13) : Int).toNat ((wrap64 ((ji13) + 1)) : Int).toNat).size ≤ 9223372036854775807) = true := decide_eq_true c17
                              try have c17b2 : (9223372036854775807 < x3_3.size + ((⟨#[65, 66, 67, 68, 69, 70, 71, 72, 73, 74, 75, 76, 77, 78, 79, 80, 81, 82, 83, 84, 85, 86, 87, 88, 89, 90, 97, 98, 99, 100, 101, 102, 103, 104, 105, 106, 107, 108, 109, 110, 111, 112, 113, 114, 115, 116, 117, 118, 119, 120, 121, 122, 48, 49, 50, 51, 52, 53, 54, 55, 56, 57, 45, 95]⟩ : ByteArray).extract ((ji13) : Int).toNat ((wrap64 ((ji13) + 1)) : Int).toNat).size) = False := eq_false (Nat.not_lt.2 c17)
                              try have c17b3 : (9223372036854775807 < x3_3.size + (((wrap64 ((ji13) + 1)) : Int).toNat - ((ji13) : Int).toNat)) = False := eq_false (by have hS_ := c17; have hE_ : ((⟨#[65, 66, 67, 68, 69, 70, 71, 72, 73, 74, 75, 76, 77, 78, 79, 80, 81, 82, 83, 84, 85, 86, 87, 88, 89, 90, 97, 98, 99, 100, 101, 102, 103, 104, 105, 106, 107, 108, 109, 110, 111, 112, 113, 114, 115, 116, 117, 118, 119, 120, 121, 122, 48, 49, 50, 51, 52, 53, 54, 55, 56, 57, 45, 95]⟩ : ByteArray).extract ((ji13) : Int).toNat ((wrap64 ((ji13) + 1)) : Int).toNat).size = min ((wrap64 ((ji13) + 1)) : Int).toNat 64 - ((ji13) : Int).toNat := ByteArray.size_extract; omega)
                              have H' := Aside0.mk H
                              clear H
                              go_wp2
                              go_roundg k3
                              case measure => have := HK1.out; have := HK2.out; have := HK3.out; omega
                              case rel => exact ⟨(x3_3 ++ ((⟨#[65, 66, 67, 68, 69, 70, 71, 72, 73, 74, 75, 76, 77, 78, 79, 80, 81, 82, 83, 84, 85, 86, 87, 88, 89, 90, 97, 98, 99, 100, 101, 102, 103, 104, 105, 106, 107, 108, 109, 110, 111, 112, 113, 114, 115, 116, 117, 118, 119, 120, 121, 122, 48, 49, 50, 51, 52, 53, 54, 55, 56, 57, 45, 95]⟩ : ByteArray).extract ((ji13) : Int).toNat ((wrap64 ((ji13) + 1)) : Int).toNat)), (wrap64 (x8_3 + 1)), (by first | rfl | (simp; done) | (simp only [← hji13] <;> (first | rfl | simp)) | (simp [*]; done)), (by first | rfl | (simp; done) | (simp [*]; done)), H', ⟨by have := HK1.out; have := HK2.out; have := HK3.out; omega⟩, ⟨by repeat (first | (with_reducible first | exact HB.out | apply below_alloc | apply pw_below_drewN | apply below_drew1) | exact HB.out)⟩⟩
                            · rw [if_neg c17] at H
                              exact absurd H (by simp)
                          · rw [if_neg c16] at H
                            exact absurd H (by simp)
                        · rw [if_neg c15] at H
                          exact absurd H (by simp)
                      · rw [if_neg c14] at H
                        exact absurd H (by simp)
                    · rw [if_neg c11] at H
                      exact absurd H (by simp)
                  · rw [if_neg c9] at H
                    have c9b0 : decide (x8_3 ≤ ji3) = false := decide_eq_false c9
                    clear c9
                    have H' := Aside0.mk H
                    clear H
                    go_wp2
                    go_roundg k3
                    case measure => have := HK1.out; have := HK2.out; have := HK3.out; omega
                    case rel => exact ⟨(x3_3), (wrap64 (x4_1 + 3)), (by first | rfl | (simp; done) | (simp [*]; done)), (by first | rfl | (simp; done) | (simp [*]; done)), H', ⟨by have := HK1.out; have := HK2.out; have := HK3.out; omega⟩, ⟨by repeat (first | (with_reducible first | exact HB.out | apply below_alloc | apply pw_below_drewN | apply below_drew1) | exact HB.out)⟩⟩
      · rw [if_neg c2] at H
        have c2b0 : decide (x4_1 < (l0.length : Int)) = false := decide_eq_false c2
        clear c2
        obtain rfl := Option.some.inj H
        go_wp2
        go_ret
        exact ⟨by first | rfl | (simp [errW_none, errW_some] <;> rfl) | (simp [*, errW_none, errW_some] <;> rfl), by repeat (first | (with_reducible first | exact HB.out | apply below_alloc | apply pw_below_drewN | apply below_drew1) | exact HB.out)⟩

end Go.Proofs.Ytnhljemnebgekaa.Rt

/-
  What the functions of these laws compute, as plain Lean functions, and that the machine's calls compute it: written by this session's own hook over the kit's print.
-/
namespace Go.Proofs.Ytnhljemnebgekaa.Rt
open Go.RowKit Go.Proofs.YtnhljemnebgekaaW.PrintWords Go.Proofs.YtnhljemnebgekaaW.PrintLast Go.Proofs.YtnhljemnebgekaaW.PrintMore
attribute [local go_sem] u32_sg u32_mx u64_sg u64_mx
attribute [local go_sem] max2_int min2_int max_two min_two max_three min_three max_four min_four   -- for this text's walks alone
set_option linter.unusedVariables false
set_option linter.unusedSimpArgs false

/-! ### heliastref05_sign: function 42 -/
def heliastref05_sign.l0 : Nat → Int → Int → Option (Int)
  | 0, _, _ => none
  | k + 1, x0, x3 => if x3 < 64 then (if 0 ≤ x3 then (if (bt (⟨#[65, 66, 67, 68, 69, 70, 71, 72, 73, 74, 75, 76, 77, 78, 79, 80, 81, 82, 83, 84, 85, 86, 87, 88, 89, 90, 97, 98, 99, 100, 101, 102, 103, 104, 105, 106, 107, 108, 109, 110, 111, 112, 113, 114, 115, 116, 117, 118, 119, 120, 121, 122, 48, 49, 50, 51, 52, 53, 54, 55, 56, 57, 45, 95]⟩ : ByteArray) x3) = x0 then (some x3) else (heliastref05_sign.l0 k x0 (wrap64 (x3 + 1)))) else (none)) else (some (-1))
def heliastref05_sign.f (k : Nat) (a0 : Int) : Option (Int) := heliastref05_sign.l0 k a0 0
theorem heliastref05_sign.mono_l : ∀ k, (∀ y0 y1, LeO (heliastref05_sign.l0 k y0 y1) (heliastref05_sign.l0 (k + 1) y0 y1))
  | 0 => fun _ _ r h => by simp [heliastref05_sign.l0] at h
  | k + 1 => by
    have ih0 := heliastref05_sign.mono_l k
    · intro y0 y1
      unfold heliastref05_sign.l0
      repeat' first
      | (with_reducible exact ih0 _ _)
      | (with_reducible exact LeO.refl _)
      | (with_reducible exact LeO.none _)
      | (with_reducible refine LeO.ite ?_ ?_)
      | (with_reducible refine LeO.bind ?_ (fun _ => ?_))
      | exact ih0 _ _
      | exact LeO.none _
      | refine LeO.ite ?_ ?_
      | refine LeO.bind ?_ (fun _ => ?_)
theorem heliastref05_sign.mono : ∀ a0 k, LeO (heliastref05_sign.f k a0) (heliastref05_sign.f (k + 1) a0) := by
  intro a0 k
  have ih0 := heliastref05_sign.mono_l k
  unfold heliastref05_sign.f
  repeat' first
      | (with_reducible exact ih0 _ _)
      | (with_reducible exact LeO.refl _)
      | (with_reducible exact LeO.none _)
      | (with_reducible refine LeO.ite ?_ ?_)
      | (with_reducible refine LeO.bind ?_ (fun _ => ?_))
      | exact ih0 _ _
      | exact LeO.none _
      | refine LeO.ite ?_ ?_
      | refine LeO.bind ?_ (fun _ => ?_)
set_option maxHeartbeats 8000000 in
set_option maxRecDepth 100000 in
theorem heliastref05_sign.calls (k : Nat) (a0 : Int) (r : Int) (w : World) (h : heliastref05_sign.f k a0 = some r) :
    Calls Try.prog 42 #[.int .u8 a0] w fun e w' => e = .returned (.int .i64 r) ∧ Drawn0 w w' := by
  have H : (heliastref05_sign.l0 k a0 0) = some r := h
  clear h
  have H' := Aside0.mk H
  clear H
  go_enter Try.func42, Try.ntmps42
  go_wp2
  go_loopg [3] k (fun kq v3 w' => ∃ (x3_1 : Int), v3 = .int .i64 x3_1 ∧ Aside0 (heliastref05_sign.l0 kq a0 x3_1 = some r) ∧ Aside0 (kq ≤ k) ∧ Drawn0 w w')
  case atStart => exact ⟨(0), (by first | rfl | (simp; done) | (simp [*]; done)), H', ⟨Nat.le_refl _⟩, by repeat (first | exact Drawn0.refl _ | apply Drawn0.step)⟩
  case round =>
    clear H'
    obtain ⟨x3_1, rfl, HA, HK1, ⟨m1, rfl⟩⟩ := hrel
    cases gk with
    | zero => exact absurd HA.out (by simp [heliastref05_sign.l0])
    | succ k1 =>
      have H := HA.out
      clear HA
      simp only [heliastref05_sign.l0] at H
      by_cases c2 : x3_1 < 64
      · rw [if_pos c2] at H
        have c2b0 : decide (x3_1 < 64) = true := decide_eq_true c2
        clear c2
        by_cases c3 : 0 ≤ x3_1
        · rw [if_pos c3] at H
          have c3b0 : decide (0 ≤ x3_1) = true := decide_eq_true c3
          clear c3
          by_cases c5 : (bt (⟨#[65, 66, 67, 68, 69, 70, 71, 72, 73, 74, 75, 76, 77, 78, 79, 80, 81, 82, 83, 84, 85, 86, 87, 88, 89, 90, 97, 98, 99, 100, 101, 102, 103, 104, 105, 106, 107, 108, 109, 110, 111, 112, 113, 114, 115, 116, 117, 118, 119, 120, 121, 122, 48, 49, 50, 51, 52, 53, 54, 55, 56, 57, 45, 95]⟩ : ByteArray) x3_1) = a0
          · rw [if_pos c5] at H
            have c5b0 : ((bt (⟨#[65, 66, 67, 68, 69, 70, 71, 72, 73, 74, 75, 76, 77, 78, 79, 80, 81, 82, 83, 84, 85, 86, 87, 88, 89, 90, 97, 98, 99, 100, 101, 102, 103, 104, 105, 106, 107, 108, 109, 110, 111, 112, 113, 114, 115, 116, 117, 118, 119, 120, 121, 122, 48, 49, 50, 51, 52, 53, 54, 55, 56, 57, 45, 95]⟩ : ByteArray) x3_1) == a0) = true := beq_iff_eq.mpr c5
            have c5b1 : ((bt (⟨#[65, 66, 67, 68, 69, 70, 71, 72, 73, 74, 75, 76, 77, 78, 79, 80, 81, 82, 83, 84, 85, 86, 87, 88, 89, 90, 97, 98, 99, 100, 101, 102, 103, 104, 105, 106, 107, 108, 109, 110, 111, 112, 113, 114, 115, 116, 117, 118, 119, 120, 121, 122, 48, 49, 50, 51, 52, 53, 54, 55, 56, 57, 45, 95]⟩ : ByteArray) x3_1) != a0) = false := bne_eq_false_iff_eq.mpr c5
            clear c5
            obtain rfl := Option.some.inj H
            have p4 : 0 ≤ (x3_1 : Int) := of_decide_eq_true (by first | (with_reducible assumption) | assumption)
            have q4 : x3_1 < (64 : Int) := of_decide_eq_true (by first | (with_reducible assumption) | assumption)
            have hx4 := bt_at (⟨#[65, 66, 67, 68, 69, 70, 71, 72, 73, 74, 75, 76, 77, 78, 79, 80, 81, 82, 83, 84, 85, 86, 87, 88, 89, 90, 97, 98, 99, 100, 101, 102, 103, 104, 105, 106, 107, 108, 109, 110, 111, 112, 113, 114, 115, 116, 117, 118, 119, 120, 121, 122, 48, 49, 50, 51, 52, 53, 54, 55, 56, 57, 45, 95]⟩ : ByteArray) x3_1
            replace p4 := eq_true p4
            replace q4 := eq_true q4
            go_wp2
            go_ret
            exact ⟨by first | rfl | (simp; done) | (simp [*]; done), by repeat (first | exact Drawn0.refl _ | apply Drawn0.step)⟩
          · rw [if_neg c5] at H
            have c5b0 : ((bt (⟨#[65, 66, 67, 68, 69, 70, 71, 72, 73, 74, 75, 76, 77, 78, 79, 80, 81, 82, 83, 84, 85, 86, 87, 88, 89, 90, 97, 98, 99, 100, 101, 102, 103, 104, 105, 106, 107, 108, 109, 110, 111, 112, 113, 114, 115, 116, 117, 118, 119, 120, 121, 122, 48, 49, 50, 51, 52, 53, 54, 55, 56, 57, 45, 95]⟩ : ByteArray) x3_1) == a0) = false := beq_eq_false_iff_ne.mpr c5
            have c5b1 : ((bt (⟨#[65, 66, 67, 68, 69, 70, 71, 72, 73, 74, 75, 76, 77, 78, 79, 80, 81, 82, 83, 84, 85, 86, 87, 88, 89, 90, 97, 98, 99, 100, 101, 102, 103, 104, 105, 106, 107, 108, 109, 110, 111, 112, 113, 114, 115, 116, 117, 118, 119, 120, 121, 122, 48, 49, 50, 51, 52, 53, 54, 55, 56, 57, 45, 95]⟩ : ByteArray) x3_1) != a0) = true := bne_iff_ne.mpr c5
            have H' := Aside0.mk H
            clear H
            have p4 : 0 ≤ (x3_1 : Int) := of_decide_eq_true (by first | (with_reducible assumption) | assumption)
            have q4 : x3_1 < (64 : Int) := of_decide_eq_true (by first | (with_reducible assumption) | assumption)
            have hx4 := bt_at (⟨#[65, 66, 67, 68, 69, 70, 71, 72, 73, 74, 75, 76, 77, 78, 79, 80, 81, 82, 83, 84, 85, 86, 87, 88, 89, 90, 97, 98, 99, 100, 101, 102, 103, 104, 105, 106, 107, 108, 109, 110, 111, 112, 113, 114, 115, 116, 117, 118, 119, 120, 121, 122, 48, 49, 50, 51, 52, 53, 54, 55, 56, 57, 45, 95]⟩ : ByteArray) x3_1
            replace p4 := eq_true p4
            replace q4 := eq_true q4
            go_wp2
            go_roundg k1
            case measure => have := HK1.out; omega
            case rel => exact ⟨(wrap64 (x3_1 + 1)), (by first | rfl | (simp; done) | (simp [*]; done)), H', ⟨by have := HK1.out; omega⟩, by repeat (first | exact Drawn0.refl _ | apply Drawn0.step)⟩
        · rw [if_neg c3] at H
          exact absurd H (by simp)
      · rw [if_neg c2] at H
        have c2b0 : decide (x3_1 < 64) = false := decide_eq_false c2
        clear c2
        obtain rfl := Option.some.inj H
        go_wp2
        go_ret
        exact ⟨by first | rfl | (simp; done) | (simp [*]; done), by repeat (first | exact Drawn0.refl _ | apply Drawn0.step)⟩

end Go.Proofs.Ytnhljemnebgekaa.Rt

/-
  What the functions of these laws compute, as plain Lean functions, and that the machine's calls compute it: written by this session's own hook over the kit's print.
-/
namespace Go.Proofs.Ytnhljemnebgekaa.Rt
open Go.RowKit Go.Proofs.YtnhljemnebgekaaW.PrintWords Go.Proofs.YtnhljemnebgekaaW.PrintLast Go.Proofs.YtnhljemnebgekaaW.PrintMore
attribute [local go_sem] u32_sg u32_mx u64_sg u64_mx
attribute [local go_sem] max2_int min2_int max_two min_two max_three min_three max_four min_four   -- for this text's walks alone
set_option linter.unusedVariables false
set_option linter.unusedSimpArgs false

/-! ### heliastref05_Bytes: function 30 -/
mutual
def heliastref05_Bytes.l0 : Nat → ByteArray → List Int → Int → Option (List Int × Bool)
  | 0, _, _, _ => none
  | k + 1, x0, x4, x5 => if x5 < (x0.size : Int) then (heliastref05_Bytes.l1 k x0 x4 x5 (mn (wrap64 ((x0.size : Int) - x5)) 4) 0 0) else ((heliastref05_Text.f k x4).bind fun t102 => (if t102.toList = x0.toList then (some (x4, true)) else (some (([] : List Int), false))))
def heliastref05_Bytes.l1 : Nat → ByteArray → List Int → Int → Int → Int → Int → Option (List Int × Bool)
  | 0, _, _, _, _, _, _ => none
  | k + 1, x0, x4, x5, x6, x7, x8 => if x8 < 4 then (if x8 < x6 then (if 0 ≤ (wrap64 (x5 + x8)) then (if (wrap64 (x5 + x8)) < (x0.size : Int) then ((heliastref05_sign.f k (bt x0 (wrap64 (x5 + x8)))).bind fun t103 => (if t103 < 0 then (some (([] : List Int), false)) else (heliastref05_Bytes.l1 k x0 x4 x5 x6 (wrap64 ((wrap64 (64 * x7)) + t103)) (wrap64 (x8 + 1))))) else (none)) else (none)) else (if 0 < 0 then (some (([] : List Int), false)) else (heliastref05_Bytes.l1 k x0 x4 x5 x6 (wrap64 ((wrap64 (64 * x7)) + 0)) (wrap64 (x8 + 1))))) else (heliastref05_Bytes.l2 k x0 x4 x5 x6 x7 0)
def heliastref05_Bytes.l2 : Nat → ByteArray → List Int → Int → Int → Int → Int → Option (List Int × Bool)
  | 0, _, _, _, _, _, _ => none
  | k + 1, x0, x4, x5, x6, x7, x10 => if x10 < (wrap64 (x6 - 1)) then (if 0 ≤ (IntKind.u64.wrap (wrap64 (16 - (wrap64 (8 * x10))))) then (if x4.length < 140737488355328 then (heliastref05_Bytes.l2 k x0 (x4 ++ [(shr .i64 x7 (IntKind.u64.wrap (wrap64 (16 - (wrap64 (8 * x10)))))) % 256]) x5 x6 x7 (wrap64 (x10 + 1))) else (none)) else (none)) else (heliastref05_Bytes.l0 k x0 x4 (wrap64 (x5 + 4)))
end
def heliastref05_Bytes.f (k : Nat) (a0 : ByteArray) : Option (List Int × Bool) := heliastref05_Bytes.l0 k a0 ([] : List Int) 0
theorem heliastref05_Bytes.mono_l : ∀ k, (∀ y0 y1 y2, LeO (heliastref05_Bytes.l0 k y0 y1 y2) (heliastref05_Bytes.l0 (k + 1) y0 y1 y2)) ∧ (∀ y0 y1 y2 y3 y4 y5, LeO (heliastref05_Bytes.l1 k y0 y1 y2 y3 y4 y5) (heliastref05_Bytes.l1 (k + 1) y0 y1 y2 y3 y4 y5)) ∧ (∀ y0 y1 y2 y3 y4 y5, LeO (heliastref05_Bytes.l2 k y0 y1 y2 y3 y4 y5) (heliastref05_Bytes.l2 (k + 1) y0 y1 y2 y3 y4 y5))
  | 0 => ⟨fun _ _ _ r h => by simp [heliastref05_Bytes.l0] at h, fun _ _ _ _ _ _ r h => by simp [heliastref05_Bytes.l1] at h, fun _ _ _ _ _ _ r h => by simp [heliastref05_Bytes.l2] at h⟩
  | k + 1 => by
    obtain ⟨ih0, ih1, ih2⟩ := heliastref05_Bytes.mono_l k
    refine ⟨?_, ?_, ?_⟩
    · intro y0 y1 y2
      unfold heliastref05_Bytes.l0
      repeat' first
      | (with_reducible exact ih0 _ _ _)
      | (with_reducible exact ih1 _ _ _ _ _ _)
      | (with_reducible exact ih2 _ _ _ _ _ _)
      | (with_reducible exact heliastref05_Text.mono _ _)
      | (with_reducible exact heliastref05_sign.mono _ _)
      | (with_reducible exact LeO.refl _)
      | (with_reducible exact LeO.none _)
      | (with_reducible refine LeO.ite ?_ ?_)
      | (with_reducible refine LeO.bind ?_ (fun _ => ?_))
      | exact ih0 _ _ _
      | exact ih1 _ _ _ _ _ _
      | exact ih2 _ _ _ _ _ _
      | exact heliastref05_Text.mono _ _
      | exact heliastref05_sign.mono _ _
      | exact LeO.none _
      | refine LeO.ite ?_ ?_
      | refine LeO.bind ?_ (fun _ => ?_)
    · intro y0 y1 y2 y3 y4 y5
      unfold heliastref05_Bytes.l1
      repeat' first
      | (with_reducible exact ih0 _ _ _)
      | (with_reducible exact ih1 _ _ _ _ _ _)
      | (with_reducible exact ih2 _ _ _ _ _ _)
      | (with_reducible exact heliastref05_Text.mono _ _)
      | (with_reducible exact heliastref05_sign.mono _ _)
      | (with_reducible exact LeO.refl _)
      | (with_reducible exact LeO.none _)
      | (with_reducible refine LeO.ite ?_ ?_)
      | (with_reducible refine LeO.bind ?_ (fun _ => ?_))
      | exact ih0 _ _ _
      | exact ih1 _ _ _ _ _ _
      | exact ih2 _ _ _ _ _ _
      | exact heliastref05_Text.mono _ _
      | exact heliastref05_sign.mono _ _
      | exact LeO.none _
      | refine LeO.ite ?_ ?_
      | refine LeO.bind ?_ (fun _ => ?_)
    · intro y0 y1 y2 y3 y4 y5
      unfold heliastref05_Bytes.l2
      repeat' first
      | (with_reducible exact ih0 _ _ _)
      | (with_reducible exact ih1 _ _ _ _ _ _)
      | (with_reducible exact ih2 _ _ _ _ _ _)
      | (with_reducible exact heliastref05_Text.mono _ _)
      | (with_reducible exact heliastref05_sign.mono _ _)
      | (with_reducible exact LeO.refl _)
      | (with_reducible exact LeO.none _)
      | (with_reducible refine LeO.ite ?_ ?_)
      | (with_reducible refine LeO.bind ?_ (fun _ => ?_))
      | exact ih0 _ _ _
      | exact ih1 _ _ _ _ _ _
      | exact ih2 _ _ _ _ _ _
      | exact heliastref05_Text.mono _ _
      | exact heliastref05_sign.mono _ _
      | exact LeO.none _
      | refine LeO.ite ?_ ?_
      | refine LeO.bind ?_ (fun _ => ?_)
theorem heliastref05_Bytes.mono : ∀ a0 k, LeO (heliastref05_Bytes.f k a0) (heliastref05_Bytes.f (k + 1) a0) := by
  intro a0 k
  obtain ⟨ih0, ih1, ih2⟩ := heliastref05_Bytes.mono_l k
  unfold heliastref05_Bytes.f
  repeat' first
      | (with_reducible exact ih0 _ _ _)
      | (with_reducible exact ih1 _ _ _ _ _ _)
      | (with_reducible exact ih2 _ _ _ _ _ _)
      | (with_reducible exact heliastref05_Text.mono _ _)
      | (with_reducible exact heliastref05_sign.mono _ _)
      | (with_reducible exact LeO.refl _)
      | (with_reducible exact LeO.none _)
      | (with_reducible refine LeO.ite ?_ ?_)
      | (with_reducible refine LeO.bind ?_ (fun _ => ?_))
      | exact ih0 _ _ _
      | exact ih1 _ _ _ _ _ _
      | exact ih2 _ _ _ _ _ _
      | exact heliastref05_Text.mono _ _
      | exact heliastref05_sign.mono _ _
      | exact LeO.none _
      | refine LeO.ite ?_ ?_
      | refine LeO.bind ?_ (fun _ => ?_)
set_option maxHeartbeats 8000000 in
set_option maxRecDepth 100000 in
theorem heliastref05_Bytes.calls (k : Nat) (a0 : ByteArray) (r1 : List Int) (r2 : Bool) (w : World) (h : heliastref05_Bytes.f k a0 = some (r1, r2)) :
    Calls Try.prog 30 #[.string a0] w fun e w' => ∃ v0_ : Value, e = .returned (.tuple #[v0_, .bool r2]) ∧ Kd.R (Kd.int .u8) 5 w' w.heap.size (fun _ => True) v0_ r1 ∧ Below w.heap.size w w' := by
  have HB := Aside0.mk (Below.refl w.heap.size w)
  have H : (heliastref05_Bytes.l0 k a0 ([] : List Int) 0) = some (r1, r2) := h
  clear h
  have H' := Aside0.mk H
  clear H
  go_enter Try.func30, Try.ntmps30
  go_wp2
  go_loopg [4, 5] k (fun kq v4 v5 w' => ∃ (x4_1 : List Int) (x5_1 : Int), v5 = .int .i64 x5_1 ∧ Aside0 (heliastref05_Bytes.l0 kq a0 x4_1 x5_1 = some (r1, r2)) ∧ Aside0 (kq ≤ k) ∧ Aside0 (Kd.R (Kd.int .u8) 5 w' w.heap.size (fun _ => True) v4 x4_1) ∧ Aside0 (Below w.heap.size w w'))
  case atStart => exact ⟨(([] : List Int)), (0), (by first | rfl | (simp; done) | (simp [*]; done)), H', ⟨Nat.le_refl _⟩, ⟨by first | exact Kd.R_nil _ _ _ _ _ | exact Kd.N_nil _ _ _ _ _ | exact Kd.V_nil _ _ _ _ _ | exact Kd.Q_nil _ _ _ _ _ | exact Kd.S_nil _ _ _ _ _⟩, ⟨by repeat (first | (with_reducible first | exact HB.out | apply below_alloc | apply pw_below_drewN | apply below_drew1) | exact HB.out)⟩⟩
  case round =>
    clear H'
    obtain ⟨x4_1, x5_1, rfl, HA, HK1, HO_4, HB⟩ := hrel
    cases gk with
    | zero => exact absurd HA.out (by simp [heliastref05_Bytes.l0])
    | succ k1 =>
      have H := HA.out
      clear HA
      simp only [heliastref05_Bytes.l0] at H
      by_cases c2 : x5_1 < (a0.size : Int)
      · rw [if_pos c2] at H
        have c2b0 : decide (x5_1 < (a0.size : Int)) = true := decide_eq_true c2
        clear c2
        obtain ⟨ji3, hji3⟩ : ∃ j_ : Int, (mn (wrap64 ((a0.size : Int) - x5_1)) 4) = j_ := ⟨_, rfl⟩
        replace H : (heliastref05_Bytes.l1 k1 a0 x4_1 x5_1 ji3 0 0) = some (r1, r2) := by first | (rw [hji3] at H; exact H) | (simp only [hji3] at H ⊢; exact H)
        have hji3_ : (if 4 < (wrap64 ((a0.size : Int) - x5_1)) then 4 else (wrap64 ((a0.size : Int) - x5_1))) = ji3 := hji3
        have H' := Aside0.mk H
        clear H
        go_wp2
        go_loopg [7, 8] k1 (fun kq v7 v8 w' => ∃ (x7_2 : Int) (x8_2 : Int), v7 = .int .i64 x7_2 ∧ v8 = .int .i64 x8_2 ∧ Aside0 (heliastref05_Bytes.l1 kq a0 x4_1 x5_1 ji3 x7_2 x8_2 = some (r1, r2)) ∧ Aside0 (kq ≤ k1) ∧ Aside0 (Kd.R (Kd.int .u8) 5 w' w.heap.size (fun _ => True) u4 x4_1) ∧ Aside0 (Below w.heap.size w w'))
        case atStart => exact ⟨(0), (0), (by first | rfl | (simp; done) | (simp [*]; done)), (by first | rfl | (simp; done) | (simp [*]; done)), H', ⟨Nat.le_refl _⟩, ⟨by (with_reducible repeat (first | apply Kd.R_alloc | apply Kd.R_drewN | apply Kd.R_drew)); exact HO_4.out⟩, ⟨by repeat (first | (with_reducible first | exact HB.out | apply below_alloc | apply pw_below_drewN | apply below_drew1) | exact HB.out)⟩⟩
        case round =>
          clear H'
          try clear c2
          try clear c2b0
          try clear p2
          try clear c3
          obtain ⟨x7_2, x8_2, rfl, rfl, HA, HK2, HO_4, HB⟩ := hrel
          cases gk with
          | zero => exact absurd HA.out (by simp [heliastref05_Bytes.l1])
          | succ k2 =>
            have H := HA.out
            clear HA
            simp only [heliastref05_Bytes.l1] at H
            by_cases c4 : x8_2 < 4
            · rw [if_pos c4] at H
              have c4b0 : decide (x8_2 < 4) = true := decide_eq_true c4
              clear c4
              by_cases c5 : x8_2 < ji3
              · rw [if_pos c5] at H
                have c5b0 : decide (x8_2 < ji3) = true := decide_eq_true c5
                clear c5
                obtain ⟨ji6, hji6⟩ : ∃ j_ : Int, (wrap64 (x5_1 + x8_2)) = j_ := ⟨_, rfl⟩
                replace H : (if 0 ≤ (ji6) then (if (ji6) < (a0.size : Int) then ((heliastref05_sign.f k2 (bt a0 (ji6))).bind fun t103 => (if t103 < 0 then (some (([] : List Int), false)) else (heliastref05_Bytes.l1 k2 a0 x4_1 x5_1 ji3 (wrap64 ((wrap64 (64 * x7_2)) + t103)) (wrap64 (x8_2 + 1))))) else (none)) else (none)) = some (r1, r2) := by first | (rw [hji6] at H; exact H) | (simp only [hji6] at H ⊢; exact H)
                have hji6w : (IntKind.i64.wrap (x5_1 + x8_2)) = ji6 := (i64_w _).trans hji6
                by_cases c7 : 0 ≤ (ji6)
                · rw [if_pos c7] at H
                  have c7b0 : decide (0 ≤ (ji6)) = true := decide_eq_true c7
                  clear c7
                  by_cases c8 : (ji6) < (a0.size : Int)
                  · rw [if_pos c8] at H
                    have c8b0 : decide ((ji6) < (a0.size : Int)) = true := decide_eq_true c8
                    clear c8
                    replace H := Option.bind_eq_some_iff.mp H
                    obtain ⟨t103, A100, H⟩ := H
                    replace H : (if t103 < 0 then (some (([] : List Int), false)) else (heliastref05_Bytes.l1 k2 a0 x4_1 x5_1 ji3 (wrap64 ((wrap64 (64 * x7_2)) + t103)) (wrap64 (x8_2 + 1)))) = some (r1, r2) := H
                    have A10 := Aside0.mk A100
                    clear A100
                    by_cases c11 : t103 < 0
                    · rw [if_pos c11] at H
                      have c11b0 : decide (t103 < 0) = true := decide_eq_true c11
                      clear c11
                      simp only [Option.some.injEq, Prod.mk.injEq] at H
                      obtain ⟨rfl, rfl⟩ := H
                      have p9 : 0 ≤ ((ji6) : Int) := of_decide_eq_true (by first | (with_reducible assumption) | assumption)
                      have q9 : (ji6) < (a0.size : Int) := of_decide_eq_true (by first | (with_reducible assumption) | assumption)
                      have hx9 := bt_at a0 (ji6)
                      replace p9 := eq_true p9
                      replace q9 := eq_true q9
                      go_wp2_with (first | ((with_reducible refine gate_callee (f := 42) rfl ?_); refine goesL_ (some 34) rfl rfl Try.func42 (by kernel_rfl) rfl #[.int .u8 (bt a0 (ji6))] rfl (by (try simp only [List.map_toArray, List.map_cons, List.map_nil]); first | done | (simp only [hji6]; rfl) | rfl | (simp only [List.length_drop, List.length_take]; rfl)) ?_; (with_reducible refine (heliastref05_sign.calls k2 (bt a0 (ji6)) t103 _ A10.out).mono ?_); rintro e w' ⟨rfl, ⟨nd, rfl⟩⟩; refine ⟨_, rfl, ?_⟩))
                      go_ret2
                      exact ⟨_, by first | rfl | (simp [errW_none, errW_some] <;> rfl) | (simp only [← hji3, ← hji6]; first | rfl | (simp [errW_none, errW_some] <;> rfl)) | (simp [*, errW_none, errW_some] <;> rfl), by first | exact Kd.R_nil _ _ _ _ _ | exact Kd.N_nil _ _ _ _ _ | exact Kd.V_nil _ _ _ _ _ | exact Kd.Q_nil _ _ _ _ _ | exact Kd.S_nil _ _ _ _ _, by repeat (first | (with_reducible first | exact HB.out | apply below_alloc | apply pw_below_drewN | apply below_drew1) | exact HB.out)⟩
                    · rw [if_neg c11] at H
                      have c11b0 : decide (t103 < 0) = false := decide_eq_false c11
                      clear c11
                      have H' := Aside0.mk H
                      clear H
                      have p9 : 0 ≤ ((ji6) : Int) := of_decide_eq_true (by first | (with_reducible assumption) | assumption)
                      have q9 : (ji6) < (a0.size : Int) := of_decide_eq_true (by first | (with_reducible assumption) | assumption)
                      have hx9 := bt_at a0 (ji6)
                      replace p9 := eq_true p9
                      replace q9 := eq_true q9
                      go_wp2_with (first | ((with_reducible refine gate_callee (f := 42) rfl ?_); refine goesL_ (some 34) rfl rfl Try.func42 (by kernel_rfl) rfl #[.int .u8 (bt a0 (ji6))] rfl (by (try simp only [List.map_toArray, List.map_cons, List.map_nil]); first | done | (simp only [hji6]; rfl) | rfl | (simp only [List.length_drop, List.length_take]; rfl)) ?_; (with_reducible refine (heliastref05_sign.calls k2 (bt a0 (ji6)) t103 _ A10.out).mono ?_); rintro e w' ⟨rfl, ⟨nd, rfl⟩⟩; refine ⟨_, rfl, ?_⟩))
                      go_roundg k2
                      case measure => have := HK1.out; have := HK2.out; omega
                      case rel => exact ⟨(wrap64 ((wrap64 (64 * x7_2)) + t103)), (wrap64 (x8_2 + 1)), (by first | rfl | (simp; done) | (simp [*]; done)), (by first | rfl | (simp; done) | (simp [*]; done)), H', ⟨by have := HK1.out; have := HK2.out; omega⟩, ⟨by (with_reducible repeat (first | apply Kd.R_alloc | apply Kd.R_drewN | apply Kd.R_drew)); exact HO_4.out⟩, ⟨by repeat (first | (with_reducible first | exact HB.out | apply below_alloc | apply pw_below_drewN | apply below_drew1) | exact HB.out)⟩⟩
                  · rw [if_neg c8] at H
                    exact absurd H (by simp)
                · rw [if_neg c7] at H
                  exact absurd H (by simp)
              · rw [if_neg c5] at H
                have c5b0 : decide (x8_2 < ji3) = false := decide_eq_false c5
                clear c5
                by_cases c12 : 0 < 0
                · exact absurd c12 (by omega)
                · rw [if_neg c12] at H
                  have c12b0 : decide (0 < 0) = false := decide_eq_false c12
                  clear c12
                  have H' := Aside0.mk H
                  clear H
                  go_wp2
                  go_roundg k2
                  case measure => have := HK1.out; have := HK2.out; omega
                  case rel => exact ⟨(wrap64 ((wrap64 (64 * x7_2)) + 0)), (wrap64 (x8_2 + 1)), (by first | rfl | (simp; done) | (simp [*]; done)), (by first | rfl | (simp; done) | (simp [*]; done)), H', ⟨by have := HK1.out; have := HK2.out; omega⟩, ⟨by (with_reducible repeat (first | apply Kd.R_alloc | apply Kd.R_drewN | apply Kd.R_drew)); exact HO_4.out⟩, ⟨by repeat (first | (with_reducible first | exact HB.out | apply below_alloc | apply pw_below_drewN | apply below_drew1) | exact HB.out)⟩⟩
            · rw [if_neg c4] at H
              have c4b0 : decide (x8_2 < 4) = false := decide_eq_false c4
              clear c4
              have H' := Aside0.mk H
              clear H
              go_wp2
              go_loopg [4, 10] k2 (fun kq v4 v10 w' => ∃ (x4_3 : List Int) (x10_3 : Int), v10 = .int .i64 x10_3 ∧ Aside0 (heliastref05_Bytes.l2 kq a0 x4_3 x5_1 ji3 x7_2 x10_3 = some (r1, r2)) ∧ Aside0 (kq ≤ k2) ∧ Aside0 (Kd.R (Kd.int .u8) 5 w' w.heap.size (fun _ => True) v4 x4_3) ∧ Aside0 (Below w.heap.size w w'))
              case atStart => exact ⟨(x4_1), (0), (by first | rfl | (simp; done) | (simp [*]; done)), H', ⟨Nat.le_refl _⟩, ⟨by (with_reducible repeat (first | apply Kd.R_alloc | apply Kd.R_drewN | apply Kd.R_drew)); exact HO_4.out⟩, ⟨by repeat (first | (with_reducible first | exact HB.out | apply below_alloc | apply pw_below_drewN | apply below_drew1) | exact HB.out)⟩⟩
              case round =>
                clear H'
                try clear c1
                try clear c2
                try clear c2b0
                try clear p2
                try clear c3
                try clear c4
                try clear c4b0
                try clear c5
                try clear c5b0
                try clear p6
                try clear c7
                try clear c7b0
                try clear c8
                try clear c8b0
                try clear p9
                try clear q9
                try clear hx9
                try clear c11
                try clear c11b0
                try clear c12
                try clear c12b0
                try clear p2
                try clear p9
                try clear q9
                obtain ⟨x4_3, x10_3, rfl, HA, HK3, HO_4, HB⟩ := hrel
                cases gk with
                | zero => exact absurd HA.out (by simp [heliastref05_Bytes.l2])
                | succ k3 =>
                  have H := HA.out
                  clear HA
                  simp only [heliastref05_Bytes.l2] at H
                  by_cases c13 : x10_3 < (wrap64 (ji3 - 1))
                  · rw [if_pos c13] at H
                    have c13b0 : decide (x10_3 < (wrap64 (ji3 - 1))) = true := decide_eq_true c13
                    clear c13
                    obtain ⟨ji14, hji14⟩ : ∃ j_ : Int, (IntKind.u64.wrap (wrap64 (16 - (wrap64 (8 * x10_3))))) = j_ := ⟨_, rfl⟩
                    replace H : (if 0 ≤ (ji14) then (if x4_3.length < 140737488355328 then (heliastref05_Bytes.l2 k3 a0 (x4_3 ++ [(shr .i64 x7_2 (ji14)) % 256]) x5_1 ji3 x7_2 (wrap64 (x10_3 + 1))) else (none)) else (none)) = some (r1, r2) := by first | (rw [hji14] at H; exact H) | (simp only [hji14] at H ⊢; exact H)
                    by_cases c15 : 0 ≤ (ji14)
                    · rw [if_pos c15] at H
                      have c15b0 := eq_true c15
                      have c15b1 : decide (0 ≤ (ji14)) = true := decide_eq_true c15
                      clear c15
                      obtain ⟨ji16, hji16⟩ : ∃ j_ : Int, (shr .i64 x7_2 (ji14)) = j_ := ⟨_, rfl⟩
                      replace H : (if x4_3.length < 140737488355328 then (heliastref05_Bytes.l2 k3 a0 (x4_3 ++ [(ji16) % 256]) x5_1 ji3 x7_2 (wrap64 (x10_3 + 1))) else (none)) = some (r1, r2) := by first | (rw [hji16] at H; exact H) | (simp only [hji16] at H ⊢; exact H)
                      have hji16_ : (x7_2 / 2 ^ min (ji14).toNat 64) = ji16 := hji16
                      have hji16z : (ji14) ≤ 64 → (x7_2 / 2 ^ (ji14).toNat) = ji16 := shr_small hji16
                      by_cases c17 : x4_3.length < 140737488355328
                      · rw [if_pos c17] at H
                        have LMc17 := Aside0.mk c17
                        clear c17
                        obtain ⟨y104, hy104⟩ : ∃ y_ : List Int, y_ = (x4_3 ++ [(ji16) % 256]) := ⟨_, rfl⟩
                        replace H : (heliastref05_Bytes.l2 k3 a0 y104 x5_1 ji3 x7_2 (wrap64 (x10_3 + 1))) = some (r1, r2) := by first | (rw [hy104]; with_reducible exact H) | (have H2_ := (Option.bind_some _ _).symm.trans H; rw [hy104]; with_reducible exact H2_) | (have H2_ := (Option.bind_some _ _).symm.trans H; with_reducible exact H2_) | with_reducible exact H | (rw [hy104]; exact H) | exact H
                        have Ny104 := Aside0.mk hy104
                        clear hy104
                        have H' := Aside0.mk H
                        clear H
                        go_wp2_with (first | ((with_reducible refine gate_builtin (b := .append) (xs := #[.tmp 47, .tmp 55]) rfl ?_); at_builtin; refine Kd.R_append (Kd.int .u8) (w0 := w) w.heap.size rfl (.tmp 47) (.tmp 55) 22 5 (.int .u8 0) 1 rfl Try.underlying22 info5 rfl (by decide) (by omega) u4 x4_3 ((ji16) % 256) [.int .u8 ((ji16) % 256)] (fun _ => True) (fun _ => False) rfl rfl ?aP (fun _ hk => hk.elim) ?aF ?aO ?aB ?aS ?aL ?_; (case aP => exact rfl); (case aB => exact (by repeat (first | (with_reducible first | exact HB.out | apply below_alloc | apply pw_below_drewN | apply below_drew1) | exact HB.out))); (case aF => exact (fun _ _ => trivial)); (case aO => exact (by (with_reducible repeat (first | apply Kd.R_alloc | apply Kd.R_drewN | apply Kd.R_drew)); exact HO_4.out)); (case aS => exact (below_size (by repeat (first | (with_reducible first | exact HB.out | apply below_alloc | apply pw_below_drewN | apply below_drew1) | exact HB.out)))); (case aL => have := LMc17.out; omega); intro v105 w18 ho hb hg hat; rw [← Ny104.out] at ho; have n0_ := Aside0.mk (hb); have n1_ := Aside0.mk (ho); clear HB; clear HO_4; have HB := n0_; have HO106 := n1_; clear n0_ n1_; clear ho hb hg hat))
                        go_roundg k3
                        case measure => have := HK1.out; have := HK2.out; have := HK3.out; omega
                        case rel => exact ⟨(y104), (wrap64 (x10_3 + 1)), (by first | rfl | (simp; done) | (simp [*]; done)), H', ⟨by have := HK1.out; have := HK2.out; have := HK3.out; omega⟩, ⟨by (with_reducible repeat (first | apply Kd.R_alloc | apply Kd.R_drewN | apply Kd.R_drew)); exact HO106.out⟩, ⟨by repeat (first | (with_reducible first | exact HB.out | apply below_alloc | apply pw_below_drewN | apply below_drew1) | exact HB.out)⟩⟩
                      · rw [if_neg c17] at H
                        exact absurd H (by simp)
                    · rw [if_neg c15] at H
                      exact absurd H (by simp)
                  · rw [if_neg c13] at H
                    have c13b0 : decide (x10_3 < (wrap64 (ji3 - 1))) = false := decide_eq_false c13
                    clear c13
                    have H' := Aside0.mk H
                    clear H
                    go_wp2
                    go_roundg k3
                    case measure => have := HK1.out; have := HK2.out; have := HK3.out; omega
                    case rel => exact ⟨(x4_3), (wrap64 (x5_1 + 4)), (by first | rfl | (simp; done) | (simp [*]; done)), H', ⟨by have := HK1.out; have := HK2.out; have := HK3.out; omega⟩, ⟨by (with_reducible repeat (first | apply Kd.R_alloc | apply Kd.R_drewN | apply Kd.R_drew)); exact HO_4.out⟩, ⟨by repeat (first | (with_reducible first | exact HB.out | apply below_alloc | apply pw_below_drewN | apply below_drew1) | exact HB.out)⟩⟩
      · rw [if_neg c2] at H
        have c2b0 : decide (x5_1 < (a0.size : Int)) = false := decide_eq_false c2
        clear c2
        replace H := Option.bind_eq_some_iff.mp H
        obtain ⟨t102, A190, H⟩ := H
        replace H : (if t102.toList = a0.toList then (some (x4_1, true)) else (some (([] : List Int), false))) = some (r1, r2) := H
        have A19 := Aside0.mk A190
        clear A190
        by_cases c20 : t102.toList = a0.toList
        · rw [if_pos c20] at H
          have c20b0 : (t102.toList == a0.toList) = true := beq_iff_eq.mpr c20
          have c20b1 : (t102.toList != a0.toList) = false := bne_eq_false_iff_eq.mpr c20
          clear c20
          simp only [Option.some.injEq, Prod.mk.injEq] at H
          obtain ⟨rfl, rfl⟩ := H
          obtain ⟨Ao21, co21, eo21⟩ := Kd.R_slice HO_4.out
          subst eo21
          go_wp2_with (first | ((with_reducible refine gate_callee (f := 12) rfl ?_); refine goesL_ (some 58) rfl rfl Try.func12 (by kernel_rfl) rfl #[.slice Ao21 x4_1.length co21] rfl (by (try simp only [List.map_toArray, List.map_cons, List.map_nil]); first | done | rfl | (simp only [List.length_drop, List.length_take]; rfl)) ?_; (with_reducible refine (heliastref05_Text.calls k1 _ _ x4_1 t102 _ ?side1 ?side2 A19.out).mono ?_); (case side1 => repeat (first | exact (Kd.R_reads' HO_4.out).2.2 | (with_reducible refine Kd.C_alloc ?_ _) | (with_reducible refine Kd.C_drewN ?_ _) | (with_reducible refine Kd.C_drew ?_))); (case side2 => exact (Kd.R_reads' HO_4.out).2.1); rintro e w22 ⟨rfl, hb⟩; refine ⟨_, rfl, ?_⟩; have n0_ := Aside0.mk (Kd.R_below (by (with_reducible repeat (first | apply Kd.R_alloc | apply Kd.R_drewN | apply Kd.R_drew)); exact HO_4.out) hb); have n1_ := Aside0.mk (below_step (by repeat (first | (with_reducible first | exact HB.out | apply below_alloc | apply pw_below_drewN | apply below_drew1) | exact HB.out)) hb); clear HO_4; clear HB; have HO_4 := n0_; have HB := n1_; clear n0_ n1_; (try clear hb); (try clear hb2); (try clear hk); (try clear hi)))
          go_ret2
          exact ⟨_, by first | rfl | (simp [errW_none, errW_some] <;> rfl) | (simp [*, errW_none, errW_some] <;> rfl), by (with_reducible repeat (first | apply Kd.R_alloc | apply Kd.R_drewN | apply Kd.R_drew)); exact HO_4.out, by repeat (first | (with_reducible first | exact HB.out | apply below_alloc | apply pw_below_drewN | apply below_drew1) | exact HB.out)⟩
        · rw [if_neg c20] at H
          have c20b0 : (t102.toList == a0.toList) = false := beq_eq_false_iff_ne.mpr c20
          have c20b1 : (t102.toList != a0.toList) = true := bne_iff_ne.mpr c20
          simp only [Option.some.injEq, Prod.mk.injEq] at H
          obtain ⟨rfl, rfl⟩ := H
          obtain ⟨Ao23, co23, eo23⟩ := Kd.R_slice HO_4.out
          subst eo23
          go_wp2_with (first | ((with_reducible refine gate_callee (f := 12) rfl ?_); refine goesL_ (some 58) rfl rfl Try.func12 (by kernel_rfl) rfl #[.slice Ao23 x4_1.length co23] rfl (by (try simp only [List.map_toArray, List.map_cons, List.map_nil]); first | done | rfl | (simp only [List.length_drop, List.length_take]; rfl)) ?_; (with_reducible refine (heliastref05_Text.calls k1 _ _ x4_1 t102 _ ?side1 ?side2 A19.out).mono ?_); (case side1 => repeat (first | exact (Kd.R_reads' HO_4.out).2.2 | (with_reducible refine Kd.C_alloc ?_ _) | (with_reducible refine Kd.C_drewN ?_ _) | (with_reducible refine Kd.C_drew ?_))); (case side2 => exact (Kd.R_reads' HO_4.out).2.1); rintro e w24 ⟨rfl, hb⟩; refine ⟨_, rfl, ?_⟩; have n0_ := Aside0.mk (Kd.R_below (by (with_reducible repeat (first | apply Kd.R_alloc | apply Kd.R_drewN | apply Kd.R_drew)); exact HO_4.out) hb); have n1_ := Aside0.mk (below_step (by repeat (first | (with_reducible first | exact HB.out | apply below_alloc | apply pw_below_drewN | apply below_drew1) | exact HB.out)) hb); clear HO_4; clear HB; have HO_4 := n0_; have HB := n1_; clear n0_ n1_; (try clear hb); (try clear hb2); (try clear hk); (try clear hi)))
          go_ret2
          exact ⟨_, by first | rfl | (simp [errW_none, errW_some] <;> rfl) | (simp [*, errW_none, errW_some] <;> rfl), by first | exact Kd.R_nil _ _ _ _ _ | exact Kd.N_nil _ _ _ _ _ | exact Kd.V_nil _ _ _ _ _ | exact Kd.Q_nil _ _ _ _ _ | exact Kd.S_nil _ _ _ _ _, by repeat (first | (with_reducible first | exact HB.out | apply below_alloc | apply pw_below_drewN | apply below_drew1) | exact HB.out)⟩

end Go.Proofs.Ytnhljemnebgekaa.Rt

/-
  What the functions of these laws compute, as plain Lean functions, and that the machine's calls compute it: written by this session's own hook over the kit's print.
-/
namespace Go.Proofs.Ytnhljemnebgekaa.Rt
open Go.RowKit Go.Proofs.YtnhljemnebgekaaW.PrintWords Go.Proofs.YtnhljemnebgekaaW.PrintLast Go.Proofs.YtnhljemnebgekaaW.PrintMore
attribute [local go_sem] u32_sg u32_mx u64_sg u64_mx
attribute [local go_sem] max2_int min2_int max_two min_two max_three min_three max_four min_four   -- for this text's walks alone
set_option linter.unusedVariables false
set_option linter.unusedSimpArgs false

end Go.Proofs.Ytnhljemnebgekaa.Rt

/-
  The reference's Text, sign and Bytes, in plain words: they are the text of the signs, and the way back.
-/
namespace Go.Proofs.Ytnhljemnebgekaa
open Go.RowKit Sha Go.Proofs.YtnhljemnebgekaaW.PrintWords Go.Proofs.YtnhljemnebgekaaW.PrintLast Go.Proofs.YtnhljemnebgekaaW.PrintMore Rt
set_option linter.unusedSimpArgs false
theorem sh_q (q : Nat) (h : q ≤ 3) : IntKind.u64.wrap (wrap64 (18 - wrap64 (6 * (q : Int)))) = ((18 - 6 * q : Nat) : Int) := by
  have : q = 0 ∨ q = 1 ∨ q = 2 ∨ q = 3 := by omega
  rcases this with rfl | rfl | rfl | rfl <;> rw [IntKind.wrap_u64] <;> unfold wrap64 <;> omega
theorem shrN (N e : Nat) (h : e ≤ 64) : shr .i64 (N : Int) (e : Int) = ((N / 2 ^ e : Nat) : Int) := by
  unfold shr
  rw [Int.toNat_natCast, show IntKind.i64.bits = 64 from rfl, Nat.min_eq_left h]
  push_cast
  rfl
theorem rt_l1 (d : List UInt8) (hd : d.length ≤ 1099511000000) (j : Nat) (s : ByteArray) (i k : Nat) (hj : 3 * j < d.length) (hi : i < 3) :
    heliastref05_Text.l1 (k + 1) (intsB d) s ((3 * j : Nat) : Int) ((grp (piece d j) i : Nat) : Int) (((piece d j).length : Nat) : Int) (i : Int) = heliastref05_Text.l1 k (intsB d) s ((3 * j : Nat) : Int) ((grp (piece d j) (i + 1) : Nat) : Int) (((piece d j).length : Nat) : Int) ((i + 1 : Nat) : Int) := by
  have hg := grp_lt (piece d j) i
  have hg2 : grp (piece d j) i < 65536 := Nat.lt_of_lt_of_le hg (by
    have : i = 0 ∨ i = 1 ∨ i = 2 := by omega
    rcases this with rfl | rfl | rfl <;> simp)
  have hl := piece_length d j
  have hx := ((piece d j).getD i 0).toNat_lt
  have hgs : grp (piece d j) (i + 1) = grp (piece d j) i * 256 + ((piece d j).getD i 0).toNat := rfl
  simp only [heliastref05_Text.l1]
  rw [if_pos (by omega), show wrap64 ((i : Int) + 1) = ((i + 1 : Nat) : Int) from by unfold wrap64; omega, show wrap64 (256 * ((grp (piece d j) i : Nat) : Int)) = ((grp (piece d j) i * 256 : Nat) : Int) from by unfold wrap64; omega, show wrap64 (((3 * j : Nat) : Int) + (i : Int)) = ((3 * j + i : Nat) : Int) from by unfold wrap64; omega]
  by_cases hin : i < (piece d j).length
  · rw [if_pos (by omega), if_pos (by omega), if_pos (by rw [intsB_length]; omega), show rd (intsB d) ((3 * j + i : Nat) : Int) = (((piece d j).getD i 0).toNat : Int) from by rw [rd_intsB, piece_getD d j i hi], wrap_nat _ (by omega), hgs,
      show wrap64 (((grp (piece d j) i * 256 : Nat) : Int) + (((piece d j).getD i 0).toNat : Int)) = ((grp (piece d j) i * 256 + ((piece d j).getD i 0).toNat : Nat) : Int) from by unfold wrap64; omega]
  · have h0 : ((piece d j).getD i 0).toNat = 0 := by rw [List.getD_eq_getElem?_getD, List.getElem?_eq_none (by omega)]; rfl
    have h1 : grp (piece d j) i * 256 + 0 = grp (piece d j) i * 256 := Nat.add_zero _
    rw [if_neg (by omega), hgs, h0, h1]
theorem rt_l2 (d : List UInt8) (j : Nat) (s : ByteArray) (q k N m : Nat) (hm : m ≤ 3) (hq : q ≤ m) (hs : s.size ≤ 4611686018427387904) :
    heliastref05_Text.l2 (k + 1) (intsB d) s ((3 * j : Nat) : Int) (N : Int) (m : Int) (q : Int) = heliastref05_Text.l2 k (intsB d) (s ++ bs [signAt N q]) ((3 * j : Nat) : Int) (N : Int) (m : Int) ((q + 1 : Nat) : Int) := by
  simp only [heliastref05_Text.l2]
  rw [if_pos (by omega), sh_q q (by omega), if_pos (by omega), shrN _ _ (by omega)]
  have e1 : Int.tmod ((N / 2 ^ (18 - 6 * q) : Nat) : Int) 64 = ((N / 2 ^ (18 - 6 * q) % 64 : Nat) : Int) := rfl
  have hv : N / 2 ^ (18 - 6 * q) % 64 < 64 := Nat.mod_lt _ (by omega)
  have hsa : signAt N q = signs.getD (N / 2 ^ (18 - 6 * q) % 64) 0 := rfl
  rw [e1, hsa]
  generalize N / 2 ^ (18 - 6 * q) % 64 = v at *
  rw [if_pos (by omega), show wrap64 ((v : Int) + 1) = ((v + 1 : Nat) : Int) from by unfold wrap64; omega, if_pos (by omega), if_pos (by omega), show wrap64 ((q : Int) + 1) = ((q + 1 : Nat) : Int) from by unfold wrap64; omega, Int.toNat_natCast, Int.toNat_natCast]
  have e4 := signs_piece v hv
  unfold SG at e4
  rw [e4, if_pos (by rw [bs_size]; simp; omega)]
theorem rt_l2s (d : List UInt8) (hd : d.length ≤ 1099511000000) (j N m : Nat) (hj : j ≤ 1099511000000) (hN : N < 16777216) (hm : m ≤ 3) (r : ByteArray) : ∀ (p q : Nat) (s : List UInt8), p + q = m + 1 → s.length + p ≤ 4611686018427387904 →
    Ev (fun k => heliastref05_Text.l0 k (intsB d) (bs (s ++ (List.range' q p).map (signAt N))) ((3 * j + 3 : Nat) : Int)) r → Ev (fun k => heliastref05_Text.l2 k (intsB d) (bs s) ((3 * j : Nat) : Int) (N : Int) (m : Int) (q : Int)) r
  | 0, q, s, hp, hs, h => by
    refine Ev.step (fun k => ?_) h
    simp only [heliastref05_Text.l2]
    have e3 : wrap64 (((3 * j : Nat) : Int) + 3) = ((3 * j + 3 : Nat) : Int) := by
      unfold wrap64; omega
    rw [if_neg (by omega), e3]
    simp
  | p + 1, q, s, hp, hs, h => by
    refine Ev.step (fun k => rt_l2 d j (bs s) q k N m hm (by omega) (by rw [bs_size]; omega)) ?_
    rw [bs_snoc]
    refine rt_l2s d hd j N m hj hN hm r p (q + 1) (s ++ [signAt N q]) (by omega) (by simp; omega) ?_
    simpa [List.range'_succ] using h
theorem rt_l0 (d : List UInt8) (hd : d.length ≤ 1099511000000) : ∀ (p j : Nat) (s : List UInt8), d.length ≤ 3 * j + p → s.length + 4 * p ≤ 4611686018427387900 → j ≤ 1099511000000 →
    Ev (fun k => heliastref05_Text.l0 k (intsB d) (bs s) ((3 * j : Nat) : Int)) (bs (s ++ tx (d.drop (3 * j))))
  | p, j, s, hp, hs, hj => by
    by_cases hlt : 3 * j < d.length
    · obtain ⟨q, rfl⟩ : ∃ q, p = q + 1 := ⟨p - 1, by omega⟩
      have hpl := piece_length d j
      have hg3 : grp (piece d j) 3 < 16777216 := grp_lt (piece d j) 3
      refine Ev.step (f := fun k => heliastref05_Text.l1 k (intsB d) (bs s) ((3 * j : Nat) : Int) ((grp (piece d j) 0 : Nat) : Int) (((piece d j).length : Nat) : Int) ((0 : Nat) : Int)) (fun k => ?_) ?_
      · simp only [heliastref05_Text.l0]
        rw [if_pos (by rw [intsB_length]; omega), intsB_length, show wrap64 ((d.length : Int) - ((3 * j : Nat) : Int)) = ((d.length - 3 * j : Nat) : Int) from by unfold wrap64; omega]
        have e : mn ((d.length - 3 * j : Nat) : Int) 3 = (((piece d j).length : Nat) : Int) := by unfold mn; split <;> omega
        rw [e]
        rfl
      refine Ev.step (fun k => rt_l1 d hd j (bs s) 0 k hlt (by omega)) ?_
      refine Ev.step (fun k => rt_l1 d hd j (bs s) 1 k hlt (by omega)) ?_
      refine Ev.step (fun k => rt_l1 d hd j (bs s) 2 k hlt (by omega)) ?_
      refine Ev.step (f := fun k => heliastref05_Text.l2 k (intsB d) (bs s) ((3 * j : Nat) : Int) ((grp (piece d j) 3 : Nat) : Int) (((piece d j).length : Nat) : Int) ((0 : Nat) : Int)) (fun k => ?_) ?_
      · simp only [heliastref05_Text.l1]
        rw [if_neg (by omega)]
        rfl
      refine rt_l2s d hd j _ _ hj hg3 (by omega) _ ((piece d j).length + 1) 0 s (by omega) (by omega) ?_
      have ih := rt_l0 d hd q (j + 1) (s ++ (List.range' 0 ((piece d j).length + 1)).map (signAt (grp (piece d j) 3))) (by omega) (by simp; omega) (by omega)
      rw [tx_step _ (show 0 < (d.drop (3 * j)).length from by rw [List.length_drop]; omega), List.drop_drop]
      have e2 : (List.range' 0 ((piece d j).length + 1)).map (signAt (grp (piece d j) 3)) = grpText ((d.drop (3 * j)).take 3) (((d.drop (3 * j)).take 3).length + 1) := by
        unfold grpText
        rw [List.range_eq_range']
        rfl
      rw [e2, List.append_assoc] at ih
      rw [e2]
      exact ih
    · refine Ev.step (f := fun _ => some (bs s)) (fun k => ?_) ?_
      · simp only [heliastref05_Text.l0]
        rw [if_neg (by rw [intsB_length]; omega)]
      · rw [List.drop_of_length_le (by omega)]
        simp only [tx, List.append_nil]
        exact Ev.now _
theorem rt_text (d : List UInt8) (hd : d.length ≤ 1099511000000) : Ev (fun k => heliastref05_Text.f k (intsB d)) (bs (text d)) := by
  have := rt_l0 d hd d.length 0 [] (by omega) (by simp; omega) (by omega)
  rw [text_tx]
  exact (by simpa using this : Ev (fun k => heliastref05_Text.l0 k (intsB d) (bs []) 0) (bs (tx d)))
end Go.Proofs.Ytnhljemnebgekaa

/-
  The reference's sign and Bytes, in plain words.
-/
namespace Go.Proofs.Ytnhljemnebgekaa
open Go.RowKit Sha Go.Proofs.YtnhljemnebgekaaW.PrintWords Go.Proofs.YtnhljemnebgekaaW.PrintLast Go.Proofs.YtnhljemnebgekaaW.PrintMore Rt
set_option linter.unusedSimpArgs false
theorem sign_l0 (c : UInt8) : ∀ (p i : Nat), i + p = 64 → Ev (fun k => heliastref05_sign.l0 k (c.toNat : Int) (i : Int)) (if Lib.indexByte (signs.drop i) c < 0 then -1 else (i : Int) + Lib.indexByte (signs.drop i) c)
  | 0, i, h => by
    obtain rfl : i = 64 := by omega
    refine Ev.step (f := fun _ => some (-1)) (fun k => ?_) (Ev.now _)
    simp only [heliastref05_sign.l0]
    rw [if_neg (by omega)]
  | p + 1, i, h => by
    have hl : i < signs.length := by show i < 64; omega
    have hb := bt_bs signs i hl
    have hd : signs.drop i = signs.getD i 0 :: signs.drop (i + 1) := by
      rw [List.drop_eq_getElem_cons hl]; simp [List.getD_eq_getElem?_getD, List.getElem?_eq_getElem hl]
    have hge := Lib.indexByte_ge (signs.drop (i + 1)) c
    rw [hd]
    by_cases hc : signs.getD i 0 = c
    · refine Ev.step (f := fun _ => some (i : Int)) (fun k => ?_) ?_
      · simp only [heliastref05_sign.l0]
        rw [← SG_bs] at hb
        unfold SG at hb
        rw [if_pos (by omega), if_pos (by omega), hb, hc, if_pos rfl]
      · simp only [Lib.indexByte, hc, beq_self_eq_true, if_true]
        exact Ev.now _
    · refine Ev.step (f := fun k => heliastref05_sign.l0 k (c.toNat : Int) ((i + 1 : Nat) : Int)) (fun k => ?_) ?_
      · simp only [heliastref05_sign.l0]
        rw [← SG_bs] at hb
        unfold SG at hb
        rw [if_pos (by omega), if_pos (by omega), hb, if_neg (fun e => hc (UInt8.toNat_inj.1 (by omega))), show wrap64 ((i : Int) + 1) = ((i + 1 : Nat) : Int) from by unfold wrap64; omega]
      · have ih := sign_l0 c p (i + 1) (by omega)
        simp only [Lib.indexByte, beq_iff_eq, hc, if_false]
        generalize Lib.indexByte (signs.drop (i + 1)) c = z at *
        by_cases hz : z = -1
        · subst hz
          exact ih
        · rw [if_neg (by omega)] at ih
          rw [if_neg hz, if_neg (by omega), show (i : Int) + (z + 1) = ((i + 1 : Nat) : Int) + z from by omega]
          exact ih
theorem rt_sign (c : UInt8) : Ev (fun k => heliastref05_sign.f k (c.toNat : Int)) (sgn c) := by
  have h := sign_l0 c 64 0 (by omega)
  have e : (if Lib.indexByte (signs.drop 0) c < 0 then -1 else ((0 : Nat) : Int) + Lib.indexByte (signs.drop 0) c) = sgn c := by
    have := Lib.indexByte_ge signs c
    show (if Lib.indexByte signs c < 0 then -1 else ((0 : Nat) : Int) + Lib.indexByte signs c) = Lib.indexByte signs c
    split <;> omega
  rw [e] at h
  exact h
/-- The bytes of a text of signs, whatever its last bits are. -/
def raw4 : List UInt8 → Option (List UInt8)
  | [] => some []
  | [a] => (dg a).bind fun _ => some []
  | [a, b] => (dg a).bind fun x => (dg b).bind fun y => some [UInt8.ofNat (x * 4 + y / 16)]
  | [a, b, c] => (dg a).bind fun x => (dg b).bind fun y => (dg c).bind fun z => some [UInt8.ofNat (x * 4 + y / 16), UInt8.ofNat (y % 16 * 16 + z / 4)]
  | a :: b :: c :: d :: l => (dg a).bind fun x => (dg b).bind fun y => (dg c).bind fun z => (dg d).bind fun u => (raw4 l).bind fun r => some (UInt8.ofNat (x * 4 + y / 16) :: UInt8.ofNat (y % 16 * 16 + z / 4) :: UInt8.ofNat (z % 4 * 64 + u) :: r)
theorem raw_un4 : ∀ (l y : List UInt8), un4 l = some y → raw4 l = some y
  | [], y, h => h
  | [_], y, h => by simp [un4] at h
  | [a, b], y, h => by
    simp only [un4, Option.bind_eq_some_iff] at h
    obtain ⟨x, hx, v, hv, h⟩ := h
    split at h
    · simp only [raw4, hx, hv, Option.bind_some, h]
    · cases h
  | [a, b, c], y, h => by
    simp only [un4, Option.bind_eq_some_iff] at h
    obtain ⟨x, hx, v, hv, z, hz, h⟩ := h
    split at h
    · simp only [raw4, hx, hv, hz, Option.bind_some, h]
    · cases h
  | a :: b :: c :: d :: l, y, h => by
    simp only [un4, Option.bind_eq_some_iff] at h
    obtain ⟨x, hx, v, hv, z, hz, u, hu, r, hr, h⟩ := h
    simp only [raw4, hx, hv, hz, hu, raw_un4 l r hr, Option.bind_some, h]
/-- The reference's test: the text of the bytes is the text. -/
theorem raw_test (l : List UInt8) : (match raw4 l with | none => none | some r => if tx r = l then some r else none) = un4 l := by
  cases hu : un4 l with
  | some y => rw [raw_un4 l y hu]; simp only; rw [if_pos (tx_un4 l y hu)]
  | none =>
    cases hr : raw4 l with
    | none => rfl
    | some r =>
      simp only
      rw [if_neg (fun e => ?_)]
      rw [← e, un4_tx] at hu
      cases hu
theorem sh16 (q : Nat) (h : q ≤ 2) : IntKind.u64.wrap (wrap64 (16 - wrap64 (8 * (q : Int)))) = ((16 - 8 * q : Nat) : Int) := by
  have : q = 0 ∨ q = 1 ∨ q = 2 := by omega
  rcases this with rfl | rfl | rfl <;> rw [IntKind.wrap_u64] <;> unfold wrap64 <;> omega
theorem rb_in (s : List UInt8) (hs : s.length ≤ 1099511000000) (out : List UInt8) (j : Nat) (hj : 4 * j < s.length) (r : List Int × Bool) (i v d : Nat) (hi : i < 4) (hij : 4 * j + i < s.length) (hv : v < 262144) (hd : dg (s.getD (4 * j + i) 0) = some d)
    (h : Ev (fun k => heliastref05_Bytes.l1 k (bs s) (intsB out) ((4 * j : Nat) : Int) ((min (s.length - 4 * j) 4 : Nat) : Int) ((64 * v + d : Nat) : Int) ((i + 1 : Nat) : Int)) r) :
    Ev (fun k => heliastref05_Bytes.l1 k (bs s) (intsB out) ((4 * j : Nat) : Int) ((min (s.length - 4 * j) 4 : Nat) : Int) (v : Int) (i : Int)) r := by
  obtain ⟨h1, h2, h3⟩ := dg_some hd
  refine Ev.step (f := fun k => (heliastref05_sign.f k ((s.getD (4 * j + i) 0).toNat : Int)).bind fun t => if t < 0 then some (([] : List Int), false) else heliastref05_Bytes.l1 k (bs s) (intsB out) ((4 * j : Nat) : Int) ((min (s.length - 4 * j) 4 : Nat) : Int) (wrap64 ((wrap64 (64 * (v : Int))) + t)) (wrap64 ((i : Int) + 1))) (fun k => ?_) ?_
  · simp only [heliastref05_Bytes.l1]
    rw [if_pos (by omega), if_pos (by omega), show wrap64 (((4 * j : Nat) : Int) + (i : Int)) = ((4 * j + i : Nat) : Int) from by unfold wrap64; omega, if_pos (by omega), if_pos (by rw [bs_size]; omega), bt_bs s _ hij]
  · refine Ev.bind (rt_sign _) ?_
    rw [h3]
    refine Ev.congr (fun k => ?_) h
    rw [if_neg (by omega), show wrap64 ((wrap64 (64 * (v : Int))) + (d : Int)) = ((64 * v + d : Nat) : Int) from by unfold wrap64; omega, show wrap64 ((i : Int) + 1) = ((i + 1 : Nat) : Int) from by unfold wrap64; omega]
theorem rb_bad (s : List UInt8) (hs : s.length ≤ 1099511000000) (out : List UInt8) (j : Nat) (hj : 4 * j < s.length) (i v : Nat) (hi : i < 4) (hij : 4 * j + i < s.length) (hd : dg (s.getD (4 * j + i) 0) = none) :
    Ev (fun k => heliastref05_Bytes.l1 k (bs s) (intsB out) ((4 * j : Nat) : Int) ((min (s.length - 4 * j) 4 : Nat) : Int) (v : Int) (i : Int)) (([] : List Int), false) := by
  have h3 := dg_none hd
  refine Ev.step (f := fun k => (heliastref05_sign.f k ((s.getD (4 * j + i) 0).toNat : Int)).bind fun t => if t < 0 then some (([] : List Int), false) else heliastref05_Bytes.l1 k (bs s) (intsB out) ((4 * j : Nat) : Int) ((min (s.length - 4 * j) 4 : Nat) : Int) (wrap64 ((wrap64 (64 * (v : Int))) + t)) (wrap64 ((i : Int) + 1))) (fun k => ?_) ?_
  · simp only [heliastref05_Bytes.l1]
    rw [if_pos (by omega), if_pos (by omega), show wrap64 (((4 * j : Nat) : Int) + (i : Int)) = ((4 * j + i : Nat) : Int) from by unfold wrap64; omega, if_pos (by omega), if_pos (by rw [bs_size]; omega), bt_bs s _ hij]
  · refine Ev.bind (rt_sign _) ?_
    refine Ev.congr (fun k => ?_) (Ev.now _)
    rw [if_pos h3]
theorem rb_out (s : List UInt8) (hs : s.length ≤ 1099511000000) (out : List UInt8) (j : Nat) (hj : 4 * j < s.length) (r : List Int × Bool) (i v : Nat) (hi : i < 4) (hij : s.length ≤ 4 * j + i) (hv : v < 262144)
    (h : Ev (fun k => heliastref05_Bytes.l1 k (bs s) (intsB out) ((4 * j : Nat) : Int) ((min (s.length - 4 * j) 4 : Nat) : Int) ((64 * v : Nat) : Int) ((i + 1 : Nat) : Int)) r) :
    Ev (fun k => heliastref05_Bytes.l1 k (bs s) (intsB out) ((4 * j : Nat) : Int) ((min (s.length - 4 * j) 4 : Nat) : Int) (v : Int) (i : Int)) r := by
  refine Ev.step (fun k => ?_) h
  simp only [heliastref05_Bytes.l1]
  rw [if_pos (by omega), if_neg (by omega), if_neg (by omega), show wrap64 ((wrap64 (64 * (v : Int))) + 0) = ((64 * v : Nat) : Int) from by unfold wrap64; omega, show wrap64 ((i : Int) + 1) = ((i + 1 : Nat) : Int) from by unfold wrap64; omega]
theorem rb_end (s : List UInt8) (hs : s.length ≤ 1099511000000) (out : List UInt8) (j : Nat) (hj : 4 * j < s.length) (r : List Int × Bool) (v : Nat) (h : Ev (fun k => heliastref05_Bytes.l2 k (bs s) (intsB out) ((4 * j : Nat) : Int) ((min (s.length - 4 * j) 4 : Nat) : Int) (v : Int) ((0 : Nat) : Int)) r) :
    Ev (fun k => heliastref05_Bytes.l1 k (bs s) (intsB out) ((4 * j : Nat) : Int) ((min (s.length - 4 * j) 4 : Nat) : Int) (v : Int) ((4 : Nat) : Int)) r := by
  refine Ev.step (fun k => ?_) h
  simp only [heliastref05_Bytes.l1]
  rw [if_neg (by omega)]
  rfl
theorem rb_put (s : List UInt8) (hs : s.length ≤ 1099511000000) (out : List UInt8) (j : Nat) (hj : 4 * j < s.length) (r : List Int × Bool) (q v : Nat) (hq : q < min (s.length - 4 * j) 4 - 1) (ho : out.length < 140737488355328)
    (h : Ev (fun k => heliastref05_Bytes.l2 k (bs s) (intsB (out ++ [UInt8.ofNat (v / 2 ^ (16 - 8 * q))])) ((4 * j : Nat) : Int) ((min (s.length - 4 * j) 4 : Nat) : Int) (v : Int) ((q + 1 : Nat) : Int)) r) :
    Ev (fun k => heliastref05_Bytes.l2 k (bs s) (intsB out) ((4 * j : Nat) : Int) ((min (s.length - 4 * j) 4 : Nat) : Int) (v : Int) (q : Int)) r := by
  refine Ev.step (fun k => ?_) h
  simp only [heliastref05_Bytes.l2]
  rw [show wrap64 (((min (s.length - 4 * j) 4 : Nat) : Int) - 1) = ((min (s.length - 4 * j) 4 - 1 : Nat) : Int) from by unfold wrap64; omega, if_pos (by omega), sh16 q (by omega), if_pos (by omega), if_pos (by rw [intsB_length]; exact ho), shrN _ _ (by omega),
    show wrap64 ((q : Int) + 1) = ((q + 1 : Nat) : Int) from by unfold wrap64; omega]
  have e : intsB out ++ [((v / 2 ^ (16 - 8 * q) : Nat) : Int) % 256] = intsB (out ++ [UInt8.ofNat (v / 2 ^ (16 - 8 * q))]) := by
    rw [intsB_append]
    refine congrArg (intsB out ++ [·]) ?_
    show _ = (((UInt8.ofNat (v / 2 ^ (16 - 8 * q))).toNat : Nat) : Int)
    rw [UInt8.toNat_ofNat']
    omega
  rw [e]
theorem rb_next (s : List UInt8) (hs : s.length ≤ 1099511000000) (out : List UInt8) (j : Nat) (hj : 4 * j < s.length) (r : List Int × Bool) (q v : Nat) (hq : min (s.length - 4 * j) 4 - 1 ≤ q)
    (h : Ev (fun k => heliastref05_Bytes.l0 k (bs s) (intsB out) ((4 * (j + 1) : Nat) : Int)) r) :
    Ev (fun k => heliastref05_Bytes.l2 k (bs s) (intsB out) ((4 * j : Nat) : Int) ((min (s.length - 4 * j) 4 : Nat) : Int) (v : Int) (q : Int)) r := by
  refine Ev.step (fun k => ?_) h
  simp only [heliastref05_Bytes.l2]
  rw [show wrap64 (((min (s.length - 4 * j) 4 : Nat) : Int) - 1) = ((min (s.length - 4 * j) 4 - 1 : Nat) : Int) from by unfold wrap64; omega, if_neg (by omega), show wrap64 (((4 * j : Nat) : Int) + 4) = ((4 * (j + 1) : Nat) : Int) from by unfold wrap64; omega]
def fin4 (s out : List UInt8) : Option (List UInt8) → List Int × Bool
  | none => ([], false)
  | some r => if tx (out ++ r) = s then (intsB (out ++ r), true) else ([], false)
theorem fin4_cons (s out x : List UInt8) (o : Option (List UInt8)) : fin4 s out (o.bind fun r => some (x ++ r)) = fin4 s (out ++ x) o := by
  cases o with
  | none => rfl
  | some r => simp [fin4]
theorem getD_drop (s l : List UInt8) (n i : Nat) (h : s.drop n = l) : s.getD (n + i) 0 = l.getD i 0 := by
  rw [← h]; simp [List.getD_eq_getElem?_getD]
theorem rb_first (s : List UInt8) (hs : s.length ≤ 1000000000000) (out : List UInt8) (j : Nat) (hj : 4 * j < s.length) (r : List Int × Bool)
    (h : Ev (fun k => heliastref05_Bytes.l1 k (bs s) (intsB out) ((4 * j : Nat) : Int) ((min (s.length - 4 * j) 4 : Nat) : Int) ((0 : Nat) : Int) ((0 : Nat) : Int)) r) :
    Ev (fun k => heliastref05_Bytes.l0 k (bs s) (intsB out) ((4 * j : Nat) : Int)) r := by
  refine Ev.step (fun k => ?_) h
  simp only [heliastref05_Bytes.l0]
  rw [if_pos (by rw [bs_size]; omega), bs_size, show wrap64 ((s.length : Int) - ((4 * j : Nat) : Int)) = ((s.length - 4 * j : Nat) : Int) from by unfold wrap64; omega,
    show mn ((s.length - 4 * j : Nat) : Int) 4 = ((min (s.length - 4 * j) 4 : Nat) : Int) from by unfold mn; split <;> omega]
  rfl
theorem rb_last (s : List UInt8) (out : List UInt8) (j : Nat) (hj : s.length ≤ 4 * j) (ho : out.length ≤ 1099511000000) :
    Ev (fun k => heliastref05_Bytes.l0 k (bs s) (intsB out) ((4 * j : Nat) : Int)) (fin4 s out (some [])) := by
  refine Ev.step (f := fun k => (heliastref05_Text.f k (intsB out)).bind fun t => if t.toList = (bs s).toList then some (intsB out, true) else some (([] : List Int), false)) (fun k => ?_) ?_
  · simp only [heliastref05_Bytes.l0]
    rw [if_neg (by rw [bs_size]; omega)]
  · refine Ev.bind (rt_text out ho) ?_
    refine Ev.congr (fun k => ?_) (Ev.now _)
    rw [bs_toList, bs_toList, text_tx]
    simp only [fin4, List.append_nil]
    split <;> rfl
theorem rb_fin (s out r : List UInt8) (j : Nat) (hj : s.length ≤ 4 * j) (ho : (out ++ r).length ≤ 1099511000000) :
    Ev (fun k => heliastref05_Bytes.l0 k (bs s) (intsB (out ++ r)) ((4 * j : Nat) : Int)) (fin4 s out (some r)) := by
  have h := rb_last s (out ++ r) j hj ho
  have e : fin4 s (out ++ r) (some []) = fin4 s out (some r) := by simp [fin4]
  rwa [e] at h
theorem fin4_none (s out : List UInt8) : fin4 s out none = ([], false) := rfl
theorem rb_l0 (s : List UInt8) (hs : s.length ≤ 1000000000000) : ∀ (l : List UInt8) (j : Nat) (out : List UInt8), s.drop (4 * j) = l → out.length ≤ 3 * j → 3 * j ≤ s.length + 3 →
    Ev (fun k => heliastref05_Bytes.l0 k (bs s) (intsB out) ((4 * j : Nat) : Int)) (fin4 s out (raw4 l))
  | [], j, out, hl, ho, hj3 => rb_last s out j (by have := congrArg List.length hl; simp at this; omega) (by omega)
  | [a], j, out, hl, ho, hj3 => by
    have hn : s.length = 4 * j + 1 := by have := congrArg List.length hl; simp at this; omega
    have g0 := getD_drop s _ _ 0 hl
    refine rb_first s hs out j (by omega) _ ?_
    cases h0 : dg a with
    | none =>
      simp only [raw4, h0, Option.bind_none, fin4_none]
      exact rb_bad s (by omega) out j (by omega) 0 0 (by omega) (by omega) (by rw [g0]; exact h0)
    | some x =>
      simp only [raw4, h0, Option.bind_some]
      have x1 := (dg_some h0).1
      refine rb_in s (by omega) out j (by omega) _ 0 0 x (by omega) (by omega) (by omega) (by rw [g0]; exact h0) ?_
      refine rb_out s (by omega) out j (by omega) _ 1 _ (by omega) (by omega) (by omega) ?_
      refine rb_out s (by omega) out j (by omega) _ 2 _ (by omega) (by omega) (by omega) ?_
      refine rb_out s (by omega) out j (by omega) _ 3 _ (by omega) (by omega) (by omega) ?_
      refine rb_end s (by omega) out j (by omega) _ _ ?_
      refine rb_next s (by omega) out j (by omega) _ 0 _ (by omega) ?_
      exact rb_last s out (j + 1) (by omega) (by omega)
  | [a, b], j, out, hl, ho, hj3 => by
    have hn : s.length = 4 * j + 2 := by have := congrArg List.length hl; simp at this; omega
    have g0 := getD_drop s _ _ 0 hl
    have g1 := getD_drop s _ _ 1 hl
    refine rb_first s hs out j (by omega) _ ?_
    cases h0 : dg a with
    | none =>
      simp only [raw4, h0, Option.bind_none, fin4_none]
      exact rb_bad s (by omega) out j (by omega) 0 0 (by omega) (by omega) (by rw [g0]; exact h0)
    | some x =>
      have x1 := (dg_some h0).1
      refine rb_in s (by omega) out j (by omega) _ 0 0 x (by omega) (by omega) (by omega) (by rw [g0]; exact h0) ?_
      cases h1 : dg b with
      | none =>
        simp only [raw4, h0, h1, Option.bind_none, Option.bind_some, fin4_none]
        exact rb_bad s (by omega) out j (by omega) 1 _ (by omega) (by omega) (by rw [g1]; exact h1)
      | some y =>
        have y1 := (dg_some h1).1
        simp only [raw4, h0, h1, Option.bind_some]
        refine rb_in s (by omega) out j (by omega) _ 1 _ y (by omega) (by omega) (by omega) (by rw [g1]; exact h1) ?_
        refine rb_out s (by omega) out j (by omega) _ 2 _ (by omega) (by omega) (by omega) ?_
        refine rb_out s (by omega) out j (by omega) _ 3 _ (by omega) (by omega) (by omega) ?_
        refine rb_end s (by omega) out j (by omega) _ _ ?_
        refine rb_put s (by omega) out j (by omega) _ 0 _ (by omega) (by omega) ?_
        refine rb_next s (by omega) _ j (by omega) _ _ _ (by omega) ?_
        rw [show UInt8.ofNat (64 * (64 * (64 * (64 * 0 + x) + y)) / 2 ^ (16 - 8 * 0)) = UInt8.ofNat (x * 4 + y / 16) from ofNat_eq (by simp; omega)]
        exact rb_fin s out _ (j + 1) (by omega) (by rw [List.length_append]; simp; omega)
  | [a, b, c], j, out, hl, ho, hj3 => by
    have hn : s.length = 4 * j + 3 := by have := congrArg List.length hl; simp at this; omega
    have g0 := getD_drop s _ _ 0 hl
    have g1 := getD_drop s _ _ 1 hl
    have g2 := getD_drop s _ _ 2 hl
    refine rb_first s hs out j (by omega) _ ?_
    cases h0 : dg a with
    | none =>
      simp only [raw4, h0, Option.bind_none, fin4_none]
      exact rb_bad s (by omega) out j (by omega) 0 0 (by omega) (by omega) (by rw [g0]; exact h0)
    | some x =>
      have x1 := (dg_some h0).1
      refine rb_in s (by omega) out j (by omega) _ 0 0 x (by omega) (by omega) (by omega) (by rw [g0]; exact h0) ?_
      cases h1 : dg b with
      | none =>
        simp only [raw4, h0, h1, Option.bind_none, Option.bind_some, fin4_none]
        exact rb_bad s (by omega) out j (by omega) 1 _ (by omega) (by omega) (by rw [g1]; exact h1)
      | some y =>
        have y1 := (dg_some h1).1
        refine rb_in s (by omega) out j (by omega) _ 1 _ y (by omega) (by omega) (by omega) (by rw [g1]; exact h1) ?_
        cases h2 : dg c with
        | none =>
          simp only [raw4, h0, h1, h2, Option.bind_none, Option.bind_some, fin4_none]
          exact rb_bad s (by omega) out j (by omega) 2 _ (by omega) (by omega) (by rw [g2]; exact h2)
        | some z =>
          have z1 := (dg_some h2).1
          simp only [raw4, h0, h1, h2, Option.bind_some]
          refine rb_in s (by omega) out j (by omega) _ 2 _ z (by omega) (by omega) (by omega) (by rw [g2]; exact h2) ?_
          refine rb_out s (by omega) out j (by omega) _ 3 _ (by omega) (by omega) (by omega) ?_
          refine rb_end s (by omega) out j (by omega) _ _ ?_
          refine rb_put s (by omega) out j (by omega) _ 0 _ (by omega) (by omega) ?_
          refine rb_put s (by omega) _ j (by omega) _ 1 _ (by omega) (by simp; omega) ?_
          refine rb_next s (by omega) _ j (by omega) _ _ _ (by omega) ?_
          rw [show UInt8.ofNat (64 * (64 * (64 * (64 * 0 + x) + y) + z) / 2 ^ (16 - 8 * 0)) = UInt8.ofNat (x * 4 + y / 16) from ofNat_eq (by simp; omega),
            show UInt8.ofNat (64 * (64 * (64 * (64 * 0 + x) + y) + z) / 2 ^ (16 - 8 * 1)) = UInt8.ofNat (y % 16 * 16 + z / 4) from ofNat_eq (by simp; omega), List.append_assoc]
          exact rb_fin s out _ (j + 1) (by omega) (by rw [List.length_append]; simp; omega)
  | a :: b :: c :: d :: t, j, out, hl, ho, hj3 => by
    have hn : s.length = 4 * j + 4 + t.length := by have := congrArg List.length hl; simp at this; omega
    have g0 := getD_drop s _ _ 0 hl
    have g1 := getD_drop s _ _ 1 hl
    have g2 := getD_drop s _ _ 2 hl
    have g3 := getD_drop s _ _ 3 hl
    refine rb_first s hs out j (by omega) _ ?_
    cases h0 : dg a with
    | none =>
      simp only [raw4, h0, Option.bind_none, fin4_none]
      exact rb_bad s (by omega) out j (by omega) 0 0 (by omega) (by omega) (by rw [g0]; exact h0)
    | some x =>
      have x1 := (dg_some h0).1
      refine rb_in s (by omega) out j (by omega) _ 0 0 x (by omega) (by omega) (by omega) (by rw [g0]; exact h0) ?_
      cases h1 : dg b with
      | none =>
        simp only [raw4, h0, h1, Option.bind_none, Option.bind_some, fin4_none]
        exact rb_bad s (by omega) out j (by omega) 1 _ (by omega) (by omega) (by rw [g1]; exact h1)
      | some y =>
        have y1 := (dg_some h1).1
        refine rb_in s (by omega) out j (by omega) _ 1 _ y (by omega) (by omega) (by omega) (by rw [g1]; exact h1) ?_
        cases h2 : dg c with
        | none =>
          simp only [raw4, h0, h1, h2, Option.bind_none, Option.bind_some, fin4_none]
          exact rb_bad s (by omega) out j (by omega) 2 _ (by omega) (by omega) (by rw [g2]; exact h2)
        | some z =>
          have z1 := (dg_some h2).1
          refine rb_in s (by omega) out j (by omega) _ 2 _ z (by omega) (by omega) (by omega) (by rw [g2]; exact h2) ?_
          cases h3 : dg d with
          | none =>
            simp only [raw4, h0, h1, h2, h3, Option.bind_none, Option.bind_some, fin4_none]
            exact rb_bad s (by omega) out j (by omega) 3 _ (by omega) (by omega) (by rw [g3]; exact h3)
          | some u =>
            have u1 := (dg_some h3).1
            simp only [raw4, h0, h1, h2, h3, Option.bind_some]
            refine rb_in s (by omega) out j (by omega) _ 3 _ u (by omega) (by omega) (by omega) (by rw [g3]; exact h3) ?_
            refine rb_end s (by omega) out j (by omega) _ _ ?_
            refine rb_put s (by omega) out j (by omega) _ 0 _ (by omega) (by omega) ?_
            refine rb_put s (by omega) _ j (by omega) _ 1 _ (by omega) (by simp; omega) ?_
            refine rb_put s (by omega) _ j (by omega) _ 2 _ (by omega) (by simp; omega) ?_
            refine rb_next s (by omega) _ j (by omega) _ _ _ (by omega) ?_
            rw [show UInt8.ofNat ((64 * (64 * (64 * (64 * 0 + x) + y) + z) + u) / 2 ^ (16 - 8 * 0)) = UInt8.ofNat (x * 4 + y / 16) from ofNat_eq (by simp; omega),
              show UInt8.ofNat ((64 * (64 * (64 * (64 * 0 + x) + y) + z) + u) / 2 ^ (16 - 8 * 1)) = UInt8.ofNat (y % 16 * 16 + z / 4) from ofNat_eq (by simp; omega),
              show UInt8.ofNat ((64 * (64 * (64 * (64 * 0 + x) + y) + z) + u) / 2 ^ (16 - 8 * 2)) = UInt8.ofNat (z % 4 * 64 + u) from ofNat_eq (by simp; omega), List.append_assoc, List.append_assoc]
            have ih := rb_l0 s hs t (j + 1) (out ++ [UInt8.ofNat (x * 4 + y / 16), UInt8.ofNat (y % 16 * 16 + z / 4), UInt8.ofNat (z % 4 * 64 + u)]) (by rw [show 4 * (j + 1) = 4 * j + 4 from by omega, ← List.drop_drop, hl]; rfl) (by simp; omega) (by omega)
            rw [← fin4_cons] at ih
            exact ih
theorem rt_bytes (s : List UInt8) (hs : s.length ≤ 1000000000000) : Ev (fun k => heliastref05_Bytes.f k (bs s)) (match un4 s with | none => (([] : List Int), false) | some r => (intsB r, true)) := by
  have h := rb_l0 s hs s 0 [] rfl (by simp) (by omega)
  have e : fin4 s [] (raw4 s) = (match un4 s with | none => (([] : List Int), false) | some r => (intsB r, true)) := by
    rw [← raw_test]
    cases raw4 s with
    | none => rfl
    | some r =>
      simp only [fin4, List.nil_append]
      split <;> rfl
  rw [e] at h
  exact h
end Go.Proofs.Ytnhljemnebgekaa

/-
  The functions Text and Bytes of the reference, as contracts over plain lists.
-/
namespace Go.Proofs.Ytnhljemnebgekaa
open Go.RowKit Sha Go.Proofs.YtnhljemnebgekaaW.PrintWords Go.Proofs.YtnhljemnebgekaaW.PrintLast Go.Proofs.YtnhljemnebgekaaW.PrintMore Rt
set_option linter.unusedSimpArgs false
theorem rt_text_any (a : Option Addr) (c : Nat) (d : List UInt8) (w : World) (h : Rd w a d) (hc : d.length ≤ c) (hl : d.length ≤ 1099511000000) :
    Calls Try.prog 12 #[.slice a d.length c] w fun e w' => e = .returned (.string (bs (text d))) ∧ Below w.heap.size w w' := by
  obtain ⟨k, hk⟩ := (rt_text d hl).rounds
  have h := heliastref05_Text.calls k a c (intsB d) _ w (by rw [intsB_length]; exact h) (by rw [intsB_length]; exact hc) hk
  rwa [intsB_length] at h
def Ext.ref_Text.f (l0 : List Int) : Option ByteArray := if bytesOk l0 = true then some (bs (tx (bytesI l0))) else none
theorem Ext.ref_Text.f_eq (l : List UInt8) (h : l.length ≤ 1099511000000) : Ext.ref_Text.f (intsB l) = some (bs (tx l)) := by
  unfold Ext.ref_Text.f; rw [if_pos (bytesOk_intsB l h), bytesI_intsB]
theorem Ext.ref_Text.calls (A0 : Option Addr) (c0 : Nat) (l0 : List Int) (r : ByteArray) (w : World) (hr0 : Kd.C (Kd.int .u8) w A0 l0.length l0) (hc0 : l0.length ≤ c0) (h : Ext.ref_Text.f l0 = some r) :
    Calls Try.prog 12 #[.slice A0 l0.length c0] w fun e w' => e = .returned (.string r) ∧ Below w.heap.size w w' := by
  unfold Ext.ref_Text.f at h
  split at h
  · rename_i hok
    cases h
    obtain ⟨e, n, b⟩ := bytesOk_rd hok
    have := rt_text_any A0 c0 (bytesI l0) w (by unfold Rd; rw [n, e]; exact hr0) (by omega) (by omega)
    rw [n, text_tx] at this
    exact this
  · cases h
def Ext.ref_Bytes.f (s : ByteArray) : Option (List Int × Bool) := if bytesOkS s = true then some (backOf s) else none
theorem Ext.ref_Bytes.f_eq (s : ByteArray) (h : s.size ≤ 1000000000000) : Ext.ref_Bytes.f s = some (backOf s) := by
  unfold Ext.ref_Bytes.f bytesOkS; rw [if_pos (decide_eq_true h)]
theorem Ext.ref_Bytes.calls (a0 : ByteArray) (r1 : List Int) (r2 : Bool) (w : World) (h : Ext.ref_Bytes.f a0 = some (r1, r2)) :
    Calls Try.prog 30 #[.string a0] w fun e w' => ∃ v0_ : Value, e = .returned (.tuple #[v0_, .bool r2]) ∧ Kd.R (Kd.int .u8) 5 w' w.heap.size (fun _ => True) v0_ r1 ∧ Below w.heap.size w w' := by
  unfold Ext.ref_Bytes.f at h
  split at h
  · rename_i hok
    have hsz : a0.size ≤ 1000000000000 := of_decide_eq_true hok
    obtain ⟨k, hk⟩ := (rt_bytes a0.data.toList hsz).rounds
    rw [bs_list] at hk
    exact heliastref05_Bytes.calls k a0 r1 r2 w (hk.trans h)
  · cases h
end Go.Proofs.Ytnhljemnebgekaa

/-
  What the functions of these laws compute, as plain Lean functions, and that the machine's calls compute it: written by this session's own hook over the kit's print.
-/
namespace Go.Proofs.Ytnhljemnebgekaa.Ps
open Go.RowKit Go.Proofs.YtnhljemnebgekaaW.PrintWords Go.Proofs.YtnhljemnebgekaaW.PrintLast Go.Proofs.YtnhljemnebgekaaW.PrintMore
attribute [local go_sem] u32_sg u32_mx u64_sg u64_mx
attribute [local go_sem] max2_int min2_int max_two min_two max_three min_three max_four min_four   -- for this text's walks alone
set_option linter.unusedVariables false
set_option linter.unusedSimpArgs false

/-! ### heliastlaw05_bytes: function 17 -/
def heliastlaw05_bytes.f (a0 : ByteArray) : Option (Bool) := (Ext.seal_Bytes.f a0).bind fun bt133 => ((Ext.ref_Bytes.f a0).bind fun bt137 => ((Ext.ref_Same.f bt133.1 bt137.1).bind fun t141 => (if t141 = true then (some (bt133.2 == bt137.2)) else (some false))))
set_option maxHeartbeats 8000000 in
set_option maxRecDepth 100000 in
theorem heliastlaw05_bytes.calls (a0 : ByteArray) (r : Bool) (w : World) (h : heliastlaw05_bytes.f a0 = some r) :
    Calls Try.prog 17 #[.string a0] w fun e w' => e = .returned (.bool r) ∧ Below w.heap.size w w' := by
  have HB := Aside0.mk (Below.refl w.heap.size w)
  have H : ((Ext.seal_Bytes.f a0).bind fun bt133 => ((Ext.ref_Bytes.f a0).bind fun bt137 => ((Ext.ref_Same.f bt133.1 bt137.1).bind fun t141 => (if t141 = true then (some (bt133.2 == bt137.2)) else (some false))))) = some r := h
  clear h
  replace H := Option.bind_eq_some_iff.mp H
  obtain ⟨⟨t133, t134⟩, A20, H⟩ := H
  replace H : ((Ext.ref_Bytes.f a0).bind fun bt137 => ((Ext.ref_Same.f t133 bt137.1).bind fun t141 => (if t141 = true then (some (t134 == bt137.2)) else (some false)))) = some r := H
  have A2 := Aside0.mk A20
  clear A20
  replace H := Option.bind_eq_some_iff.mp H
  obtain ⟨⟨t137, t138⟩, A30, H⟩ := H
  replace H : ((Ext.ref_Same.f t133 t137).bind fun t141 => (if t141 = true then (some (t134 == t138)) else (some false))) = some r := H
  have A3 := Aside0.mk A30
  clear A30
  replace H := Option.bind_eq_some_iff.mp H
  obtain ⟨t141, A40, H⟩ := H
  replace H : (if t141 = true then (some (t134 == t138)) else (some false)) = some r := H
  have A4 := Aside0.mk A40
  clear A40
  by_cases c5 : t141 = true
  · subst c5
    have H1 : (some (t134 == t138)) = some r := by rw [if_pos rfl] at H; exact H
    clear H
    have H := H1
    clear H1
    obtain rfl := Option.some.inj H
    go_enter Try.func17, Try.ntmps17
    go_wp2_with (first | ((with_reducible refine gate_callee (f := 22) rfl ?_); refine goesL_ (some 9) rfl rfl Try.func22 (by kernel_rfl) rfl #[.string a0] rfl (by (try simp only [List.map_toArray, List.map_cons, List.map_nil]); first | done | rfl | (simp only [List.length_drop, List.length_take]; rfl)) ?_; (with_reducible refine (Ext.seal_Bytes.calls a0 t133 t134 _ A2.out).mono ?_); rintro e w6 ⟨v135, rfl, ho0, hb⟩; refine ⟨_, rfl, ?_⟩; have n0_ := Aside0.mk (Kd.R_lower ho0 (below_size (by repeat (first | (with_reducible first | exact HB.out | apply below_alloc | apply pw_below_drewN | apply below_drew1) | exact HB.out)))); have n1_ := Aside0.mk (below_step (by repeat (first | (with_reducible first | exact HB.out | apply below_alloc | apply pw_below_drewN | apply below_drew1) | exact HB.out)) hb); clear HB; have HO136 := n0_; have HB := n1_; clear n0_ n1_; (try clear hb); (try clear hb2); (try clear hk); (try clear hi); (try clear ho0)) | ((with_reducible refine gate_callee (f := 30) rfl ?_); refine goesL_ (some 14) rfl rfl Try.func30 (by kernel_rfl) rfl #[.string a0] rfl (by (try simp only [List.map_toArray, List.map_cons, List.map_nil]); first | done | rfl | (simp only [List.length_drop, List.length_take]; rfl)) ?_; (with_reducible refine (Ext.ref_Bytes.calls a0 t137 t138 _ A3.out).mono ?_); rintro e w7 ⟨v139, rfl, ho0, hb⟩; refine ⟨_, rfl, ?_⟩; have n0_ := Aside0.mk (Kd.R_elder' (by (with_reducible repeat (first | apply Kd.R_alloc | apply Kd.R_drewN | apply Kd.R_drew)); exact HO136.out) (Kd.R_base ho0) hb); have n1_ := Aside0.mk (Kd.R_lower (Kd.R_new' ho0 (Kd.R_lt (by (with_reducible repeat (first | apply Kd.R_alloc | apply Kd.R_drewN | apply Kd.R_drew)); exact HO136.out))) (below_size (by repeat (first | (with_reducible first | exact HB.out | apply below_alloc | apply pw_below_drewN | apply below_drew1) | exact HB.out)))); have n2_ := Aside0.mk (below_step (by repeat (first | (with_reducible first | exact HB.out | apply below_alloc | apply pw_below_drewN | apply below_drew1) | exact HB.out)) hb); clear HO136; clear HB; have HO136 := n0_; have HO140 := n1_; have HB := n2_; clear n0_ n1_ n2_; (try clear hb); (try clear hb2); (try clear hk); (try clear hi); (try clear ho0); obtain ⟨Ao8, co8, eo8⟩ := Kd.R_slice HO136.out; subst eo8; obtain ⟨Ao9, co9, eo9⟩ := Kd.R_slice HO140.out; subst eo9) | ((with_reducible refine gate_callee (f := 13) rfl ?_); refine goesL_ (some 19) rfl rfl Try.func13 (by kernel_rfl) rfl #[.slice Ao8 t133.length co8, .slice Ao9 t137.length co9] rfl (by (try simp only [List.map_toArray, List.map_cons, List.map_nil]); first | done | rfl | (simp only [List.length_drop, List.length_take]; rfl)) ?_; (with_reducible refine (Ext.ref_Same.calls _ _ t133 _ _ t137 true _ ?side1 ?side2 ?side3 ?side4 A4.out).mono ?_); (case side1 => repeat (first | exact (Kd.R_reads' HO136.out).2.2 | (with_reducible refine Kd.C_alloc ?_ _) | (with_reducible refine Kd.C_drewN ?_ _) | (with_reducible refine Kd.C_drew ?_))); (case side2 => exact (Kd.R_reads' HO136.out).2.1); (case side3 => repeat (first | exact (Kd.R_reads' HO140.out).2.2 | (with_reducible refine Kd.C_alloc ?_ _) | (with_reducible refine Kd.C_drewN ?_ _) | (with_reducible refine Kd.C_drew ?_))); (case side4 => exact (Kd.R_reads' HO140.out).2.1); rintro e w10 ⟨rfl, hb⟩; refine ⟨_, rfl, ?_⟩; have n0_ := Aside0.mk (Kd.R_below (by (with_reducible repeat (first | apply Kd.R_alloc | apply Kd.R_drewN | apply Kd.R_drew)); exact HO136.out) hb); have n1_ := Aside0.mk (Kd.R_below (by (with_reducible repeat (first | apply Kd.R_alloc | apply Kd.R_drewN | apply Kd.R_drew)); exact HO140.out) hb); have n2_ := Aside0.mk (below_step (by repeat (first | (with_reducible first | exact HB.out | apply below_alloc | apply pw_below_drewN | apply below_drew1) | exact HB.out)) hb); clear HO136; clear HO140; clear HB; have HO136 := n0_; have HO140 := n1_; have HB := n2_; clear n0_ n1_ n2_; (try clear hb); (try clear hb2); (try clear hk); (try clear hi)))
    go_ret
    exact ⟨by first | rfl | (simp [errW_none, errW_some] <;> rfl) | (simp [*, errW_none, errW_some] <;> rfl), by repeat (first | (with_reducible first | exact HB.out | apply below_alloc | apply pw_below_drewN | apply below_drew1) | exact HB.out)⟩
  · replace c5 := Bool.eq_false_iff.mpr c5
    subst c5
    have H1 : (some false) = some r := by rw [if_neg (show ¬ (false = true) by decide)] at H; exact H
    clear H
    have H := H1
    clear H1
    obtain rfl := Option.some.inj H
    go_enter Try.func17, Try.ntmps17
    go_wp2_with (first | ((with_reducible refine gate_callee (f := 22) rfl ?_); refine goesL_ (some 9) rfl rfl Try.func22 (by kernel_rfl) rfl #[.string a0] rfl (by (try simp only [List.map_toArray, List.map_cons, List.map_nil]); first | done | rfl | (simp only [List.length_drop, List.length_take]; rfl)) ?_; (with_reducible refine (Ext.seal_Bytes.calls a0 t133 t134 _ A2.out).mono ?_); rintro e w11 ⟨v135, rfl, ho0, hb⟩; refine ⟨_, rfl, ?_⟩; have n0_ := Aside0.mk (Kd.R_lower ho0 (below_size (by repeat (first | (with_reducible first | exact HB.out | apply below_alloc | apply pw_below_drewN | apply below_drew1) | exact HB.out)))); have n1_ := Aside0.mk (below_step (by repeat (first | (with_reducible first | exact HB.out | apply below_alloc | apply pw_below_drewN | apply below_drew1) | exact HB.out)) hb); clear HB; have HO136 := n0_; have HB := n1_; clear n0_ n1_; (try clear hb); (try clear hb2); (try clear hk); (try clear hi); (try clear ho0)) | ((with_reducible refine gate_callee (f := 30) rfl ?_); refine goesL_ (some 14) rfl rfl Try.func30 (by kernel_rfl) rfl #[.string a0] rfl (by (try simp only [List.map_toArray, List.map_cons, List.map_nil]); first | done | rfl | (simp only [List.length_drop, List.length_take]; rfl)) ?_; (with_reducible refine (Ext.ref_Bytes.calls a0 t137 t138 _ A3.out).mono ?_); rintro e w12 ⟨v139, rfl, ho0, hb⟩; refine ⟨_, rfl, ?_⟩; have n0_ := Aside0.mk (Kd.R_elder' (by (with_reducible repeat (first | apply Kd.R_alloc | apply Kd.R_drewN | apply Kd.R_drew)); exact HO136.out) (Kd.R_base ho0) hb); have n1_ := Aside0.mk (Kd.R_lower (Kd.R_new' ho0 (Kd.R_lt (by (with_reducible repeat (first | apply Kd.R_alloc | apply Kd.R_drewN | apply Kd.R_drew)); exact HO136.out))) (below_size (by repeat (first | (with_reducible first | exact HB.out | apply below_alloc | apply pw_below_drewN | apply below_drew1) | exact HB.out)))); have n2_ := Aside0.mk (below_step (by repeat (first | (with_reducible first | exact HB.out | apply below_alloc | apply pw_below_drewN | apply below_drew1) | exact HB.out)) hb); clear HO136; clear HB; have HO136 := n0_; have HO140 := n1_; have HB := n2_; clear n0_ n1_ n2_; (try clear hb); (try clear hb2); (try clear hk); (try clear hi); (try clear ho0); obtain ⟨Ao13, co13, eo13⟩ := Kd.R_slice HO136.out; subst eo13; obtain ⟨Ao14, co14, eo14⟩ := Kd.R_slice HO140.out; subst eo14) | ((with_reducible refine gate_callee (f := 13) rfl ?_); refine goesL_ (some 19) rfl rfl Try.func13 (by kernel_rfl) rfl #[.slice Ao13 t133.length co13, .slice Ao14 t137.length co14] rfl (by (try simp only [List.map_toArray, List.map_cons, List.map_nil]); first | done | rfl | (simp only [List.length_drop, List.length_take]; rfl)) ?_; (with_reducible refine (Ext.ref_Same.calls _ _ t133 _ _ t137 false _ ?side1 ?side2 ?side3 ?side4 A4.out).mono ?_); (case side1 => repeat (first | exact (Kd.R_reads' HO136.out).2.2 | (with_reducible refine Kd.C_alloc ?_ _) | (with_reducible refine Kd.C_drewN ?_ _) | (with_reducible refine Kd.C_drew ?_))); (case side2 => exact (Kd.R_reads' HO136.out).2.1); (case side3 => repeat (first | exact (Kd.R_reads' HO140.out).2.2 | (with_reducible refine Kd.C_alloc ?_ _) | (with_reducible refine Kd.C_drewN ?_ _) | (with_reducible refine Kd.C_drew ?_))); (case side4 => exact (Kd.R_reads' HO140.out).2.1); rintro e w15 ⟨rfl, hb⟩; refine ⟨_, rfl, ?_⟩; have n0_ := Aside0.mk (Kd.R_below (by (with_reducible repeat (first | apply Kd.R_alloc | apply Kd.R_drewN | apply Kd.R_drew)); exact HO136.out) hb); have n1_ := Aside0.mk (Kd.R_below (by (with_reducible repeat (first | apply Kd.R_alloc | apply Kd.R_drewN | apply Kd.R_drew)); exact HO140.out) hb); have n2_ := Aside0.mk (below_step (by repeat (first | (with_reducible first | exact HB.out | apply below_alloc | apply pw_below_drewN | apply below_drew1) | exact HB.out)) hb); clear HO136; clear HO140; clear HB; have HO136 := n0_; have HO140 := n1_; have HB := n2_; clear n0_ n1_ n2_; (try clear hb); (try clear hb2); (try clear hk); (try clear hi)))
    go_ret
    exact ⟨by first | rfl | (simp [errW_none, errW_some] <;> rfl) | (simp [*, errW_none, errW_some] <;> rfl), by repeat (first | (with_reducible first | exact HB.out | apply below_alloc | apply pw_below_drewN | apply below_drew1) | exact HB.out)⟩

/-- THE ONE PURE STATEMENT of heliastlaw05_bytes: yours. -/
def heliastlaw05_bytes.Pure : Prop := ∀ (a0 : ByteArray), a0.size ≤ 140737488351232 → heliastlaw05_bytes.f a0 = some true
theorem heliastlaw05_bytes.walk (P : heliastlaw05_bytes.Pure) (a0 : ByteArray) (w : World) (w0 : a0.size ≤ 140737488351232) :
    Calls Try.prog 17 #[.string a0] w fun e w' => e = .returned (.bool true) ∧ Below w.heap.size w w' := by
  have h := P a0 w0
  refine (heliastlaw05_bytes.calls a0 true w h).mono ?_
  rintro e w' ⟨rfl, hd⟩
  exact ⟨rfl, hd⟩

/-! ### heliastref05_Named: function 21 -/
def heliastref05_Named.f (a0 : ByteArray) : Option (Bool) := if a0.toList = ([] : List UInt8) then (some false) else (if 0 < (a0.size : Int) then (if (bt a0 0) = 36 then (if 1 ≤ (a0.size : Int) then ((Ext.ref_Bytes.f (a0.extract 1 a0.size)).bind fun bt142 => (if bt142.2 = true then (some ((bt142.1.length : Int) == 32)) else (some false))) else (none)) else (some false)) else (none))
set_option maxHeartbeats 8000000 in
set_option maxRecDepth 100000 in
theorem heliastref05_Named.calls (a0 : ByteArray) (r : Bool) (w : World) (h : heliastref05_Named.f a0 = some r) :
    Calls Try.prog 21 #[.string a0] w fun e w' => e = .returned (.bool r) ∧ Below w.heap.size w w' := by
  have HB := Aside0.mk (Below.refl w.heap.size w)
  have H : (if a0.toList = ([] : List UInt8) then (some false) else (if 0 < (a0.size : Int) then (if (bt a0 0) = 36 then (if 1 ≤ (a0.size : Int) then ((Ext.ref_Bytes.f (a0.extract 1 a0.size)).bind fun bt142 => (if bt142.2 = true then (some ((bt142.1.length : Int) == 32)) else (some false))) else (none)) else (some false)) else (none))) = some r := h
  clear h
  by_cases c2 : a0.toList = ([] : List UInt8)
  · rw [if_pos c2] at H
    have c2b0 : (a0.toList == ([] : List UInt8)) = true := beq_iff_eq.mpr c2
    have c2b1 : (a0.toList != ([] : List UInt8)) = false := bne_eq_false_iff_eq.mpr c2
    clear c2
    obtain rfl := Option.some.inj H
    go_enter Try.func21, Try.ntmps21
    go_wp2
    go_ret
    exact ⟨by first | rfl | (simp [errW_none, errW_some] <;> rfl) | (simp [*, errW_none, errW_some] <;> rfl), by repeat (first | (with_reducible first | exact HB.out | apply below_alloc | apply pw_below_drewN | apply below_drew1) | exact HB.out)⟩
  · rw [if_neg c2] at H
    have c2b0 : (a0.toList == ([] : List UInt8)) = false := beq_eq_false_iff_ne.mpr c2
    have c2b1 : (a0.toList != ([] : List UInt8)) = true := bne_iff_ne.mpr c2
    by_cases c3 : 0 < (a0.size : Int)
    · rw [if_pos c3] at H
      have c3b0 : decide (0 < (a0.size : Int)) = true := decide_eq_true c3
      have c3b1 : decide (0 < a0.size) = true := decide_eq_true (by omega)
      clear c3
      by_cases c5 : (bt a0 0) = 36
      · rw [if_pos c5] at H
        have c5b0 : ((bt a0 0) == 36) = true := beq_iff_eq.mpr c5
        have c5b1 : ((bt a0 0) != 36) = false := bne_eq_false_iff_eq.mpr c5
        clear c5
        by_cases c6 : 1 ≤ (a0.size : Int)
        · rw [if_pos c6] at H
          have c6b0 := eq_true c6
          have c6b1 : decide (1 ≤ (a0.size : Int)) = true := decide_eq_true c6
          clear c6
          replace H := Option.bind_eq_some_iff.mp H
          obtain ⟨⟨t142, t143⟩, A70, H⟩ := H
          replace H : (if t143 = true then (some ((t142.length : Int) == 32)) else (some false)) = some r := H
          have A7 := Aside0.mk A70
          clear A70
          by_cases c8 : t143 = true
          · subst c8
            have H1 : (some ((t142.length : Int) == 32)) = some r := by rw [if_pos rfl] at H; exact H
            clear H
            have H := H1
            clear H1
            obtain rfl := Option.some.inj H
            have p4 : 0 ≤ (0 : Int) := (by omega)
            have q4 : 0 < a0.size := (by have : (0 : Int) < (a0.size : Int) := of_decide_eq_true (by first | (with_reducible assumption) | assumption); omega)
            have hx4 : ∀ h : 0 < a0.size, ((a0[0]'h).toNat : Int) = bt a0 0 := bt_at a0 0
            clear p4
            have qi4 : (0 < (a0.size : Int)) = True := eq_true (of_decide_eq_true (by first | (with_reducible assumption) | assumption))
            replace q4 := eq_true q4
            go_enter Try.func21, Try.ntmps21
            go_wp2_with (first | ((with_reducible refine gate_callee (f := 30) rfl ?_); refine goesL_ (some 15) rfl rfl Try.func30 (by kernel_rfl) rfl #[.string (a0.extract 1 a0.size)] rfl (by (try simp only [List.map_toArray, List.map_cons, List.map_nil]); first | done | rfl | (simp only [List.length_drop, List.length_take]; rfl)) ?_; (with_reducible refine (Ext.ref_Bytes.calls (a0.extract 1 a0.size) t142 true _ A7.out).mono ?_); rintro e w9 ⟨v144, rfl, ho0, hb⟩; refine ⟨_, rfl, ?_⟩; have n0_ := Aside0.mk (Kd.R_lower ho0 (below_size (by repeat (first | (with_reducible first | exact HB.out | apply below_alloc | apply pw_below_drewN | apply below_drew1) | exact HB.out)))); have n1_ := Aside0.mk (below_step (by repeat (first | (with_reducible first | exact HB.out | apply below_alloc | apply pw_below_drewN | apply below_drew1) | exact HB.out)) hb); clear HB; have HO145 := n0_; have HB := n1_; clear n0_ n1_; (try clear hb); (try clear hb2); (try clear hk); (try clear hi); (try clear ho0); obtain ⟨Ao10, co10, eo10⟩ := Kd.R_slice HO145.out; subst eo10))
            go_ret
            exact ⟨by first | rfl | (simp [errW_none, errW_some] <;> rfl) | (simp [*, errW_none, errW_some] <;> rfl), by repeat (first | (with_reducible first | exact HB.out | apply below_alloc | apply pw_below_drewN | apply below_drew1) | exact HB.out)⟩
          · replace c8 := Bool.eq_false_iff.mpr c8
            subst c8
            have H1 : (some false) = some r := by rw [if_neg (show ¬ (false = true) by decide)] at H; exact H
            clear H
            have H := H1
            clear H1
            obtain rfl := Option.some.inj H
            have p4 : 0 ≤ (0 : Int) := (by omega)
            have q4 : 0 < a0.size := (by have : (0 : Int) < (a0.size : Int) := of_decide_eq_true (by first | (with_reducible assumption) | assumption); omega)
            have hx4 : ∀ h : 0 < a0.size, ((a0[0]'h).toNat : Int) = bt a0 0 := bt_at a0 0
            clear p4
            have qi4 : (0 < (a0.size : Int)) = True := eq_true (of_decide_eq_true (by first | (with_reducible assumption) | assumption))
            replace q4 := eq_true q4
            go_enter Try.func21, Try.ntmps21
            go_wp2_with (first | ((with_reducible refine gate_callee (f := 30) rfl ?_); refine goesL_ (some 15) rfl rfl Try.func30 (by kernel_rfl) rfl #[.string (a0.extract 1 a0.size)] rfl (by (try simp only [List.map_toArray, List.map_cons, List.map_nil]); first | done | rfl | (simp only [List.length_drop, List.length_take]; rfl)) ?_; (with_reducible refine (Ext.ref_Bytes.calls (a0.extract 1 a0.size) t142 false _ A7.out).mono ?_); rintro e w11 ⟨v144, rfl, ho0, hb⟩; refine ⟨_, rfl, ?_⟩; have n0_ := Aside0.mk (Kd.R_lower ho0 (below_size (by repeat (first | (with_reducible first | exact HB.out | apply below_alloc | apply pw_below_drewN | apply below_drew1) | exact HB.out)))); have n1_ := Aside0.mk (below_step (by repeat (first | (with_reducible first | exact HB.out | apply below_alloc | apply pw_below_drewN | apply below_drew1) | exact HB.out)) hb); clear HB; have HO145 := n0_; have HB := n1_; clear n0_ n1_; (try clear hb); (try clear hb2); (try clear hk); (try clear hi); (try clear ho0)))
            go_ret
            exact ⟨by first | rfl | (simp [errW_none, errW_some] <;> rfl) | (simp [*, errW_none, errW_some] <;> rfl), by repeat (first | (with_reducible first | exact HB.out | apply below_alloc | apply pw_below_drewN | apply below_drew1) | exact HB.out)⟩
        · rw [if_neg c6] at H
          exact absurd H (by simp)
      · rw [if_neg c5] at H
        have c5b0 : ((bt a0 0) == 36) = false := beq_eq_false_iff_ne.mpr c5
        have c5b1 : ((bt a0 0) != 36) = true := bne_iff_ne.mpr c5
        obtain rfl := Option.some.inj H
        have p4 : 0 ≤ (0 : Int) := (by omega)
        have q4 : 0 < a0.size := (by have : (0 : Int) < (a0.size : Int) := of_decide_eq_true (by first | (with_reducible assumption) | assumption); omega)
        have hx4 : ∀ h : 0 < a0.size, ((a0[0]'h).toNat : Int) = bt a0 0 := bt_at a0 0
        clear p4
        have qi4 : (0 < (a0.size : Int)) = True := eq_true (of_decide_eq_true (by first | (with_reducible assumption) | assumption))
        replace q4 := eq_true q4
        go_enter Try.func21, Try.ntmps21
        go_wp2
        go_ret
        exact ⟨by first | rfl | (simp [errW_none, errW_some] <;> rfl) | (simp [*, errW_none, errW_some] <;> rfl), by repeat (first | (with_reducible first | exact HB.out | apply below_alloc | apply pw_below_drewN | apply below_drew1) | exact HB.out)⟩
    · rw [if_neg c3] at H
      exact absurd H (by simp)

/-- THE ONE PURE STATEMENT of heliastref05_Named: yours. -/
def heliastref05_Named.Pure : Prop := ∀ (a0 : ByteArray), a0.size ≤ 140737488351232 → heliastref05_Named.f a0 = some true
theorem heliastref05_Named.walk (P : heliastref05_Named.Pure) (a0 : ByteArray) (w : World) (w0 : a0.size ≤ 140737488351232) :
    Calls Try.prog 21 #[.string a0] w fun e w' => e = .returned (.bool true) ∧ Below w.heap.size w w' := by
  have h := P a0 w0
  refine (heliastref05_Named.calls a0 true w h).mono ?_
  rintro e w' ⟨rfl, hd⟩
  exact ⟨rfl, hd⟩

-- BY ITS OWN WALK: function 12 (heliastref05_Text)

end Go.Proofs.Ytnhljemnebgekaa.Ps

/-
  What the printed functions of the reference come to, in plain words.
-/
namespace Go.Proofs.Ytnhljemnebgekaa
open Go.RowKit Sha Go.Proofs.YtnhljemnebgekaaW.PrintWords Go.Proofs.YtnhljemnebgekaaW.PrintLast Go.Proofs.YtnhljemnebgekaaW.PrintMore Ps
set_option linter.unusedSimpArgs false
theorem ps_rnamed (s : List UInt8) (hs : s.length ≤ 1000000000000) : heliastref05_Named.f (bs s) = some (namedOf s) := by
  unfold heliastref05_Named.f
  rw [bs_toList]
  match s with
  | [] => rfl
  | c :: t =>
    have ht : t.length ≤ 1000000000000 := by simp at hs; omega
    have hb : bt (bs (c :: t)) 0 = (c.toNat : Int) := bt_bs (c :: t) 0 (by simp)
    rw [if_neg (by simp), if_pos (by rw [bs_size]; simp), hb]
    by_cases h : c = 36
    · subst h
      rw [if_pos (by rfl), if_pos (by rw [bs_size]; simp; omega), bs_extract, bs_size]
      have e : ((36 :: t).take (36 :: t).length).drop 1 = t := by simp
      rw [e, Ext.ref_Bytes.f_eq _ (by rw [bs_size]; exact ht), Option.bind_some, backOf_bs]
      rw [namedOf_cons]
      cases un4 t with
      | none => rfl
      | some r => simp only [if_true, len32]; rfl
    · have h2 : (c == 36) = false := by simpa using h
      rw [if_neg (fun e => h (UInt8.toNat_inj.1 (by rw [show (36 : UInt8).toNat = 36 from rfl]; omega))), namedOf_cons, h2]
      rfl
theorem ps_bytes (s : List UInt8) (hs : s.length ≤ 1000000000000) : heliastlaw05_bytes.f (bs s) = some true := by
  unfold heliastlaw05_bytes.f
  rw [Ext.seal_Bytes.f_eq _ (by rw [bs_size]; exact hs), Ext.ref_Bytes.f_eq _ (by rw [bs_size]; exact hs), Option.bind_some, Option.bind_some, backOf_bs]
  cases hu : un4 s with
  | none => rfl
  | some r =>
    have hr := un4_length s r hu
    simp only
    rw [Ext.ref_Same.f_eq r r (by omega) (by omega)]
    simp
end Go.Proofs.Ytnhljemnebgekaa

/-
  The functions ID and Code of the reference, as contracts over plain lists.
-/
namespace Go.Proofs.Ytnhljemnebgekaa
open Go.RowKit Sha Go.Proofs.YtnhljemnebgekaaW.PrintWords Go.Proofs.YtnhljemnebgekaaW.PrintLast Go.Proofs.YtnhljemnebgekaaW.PrintMore Rt
set_option linter.unusedSimpArgs false
set_option maxRecDepth 100000 in
set_option maxHeartbeats 1000000 in
theorem rid_any (s : ByteArray) (hs : s.size ≤ 1000000000000) (w : World) : Calls Try.prog 19 #[.string s] w fun e w' => e = .returned (.string (bs (idOf s.data.toList))) ∧ Below w.heap.size w w' := by
  have hcv := fun (w : World) => Lib.run_convert_string_bytes (P := Try.prog) w 9 22 5 s Try.underlying9 Try.underlying22 Try.underlying5
  obtain ⟨W1, hW1⟩ : ∃ W1, Lib.bytesWorld w 5 s = W1 := ⟨_, rfl⟩
  obtain ⟨c1, hc1⟩ : ∃ c, grownCap w s.size 0 5 = c := ⟨_, rfl⟩
  have hle : s.size ≤ c1 := by rw [← hc1]; exact grownCap_ge _ _ _ _
  have hcv1 : ∀ _ : Unit, (convert 9 22 (.string s)).run Try.prog w = .ok (.slice (some ⟨w.heap.size, 0, none⟩) s.size c1) W1 := fun _ => by rw [hcv w, hW1, hc1]
  have HR := Lib.hid (show Rd W1 (some ⟨w.heap.size, 0, none⟩) s.data.toList from by rw [← hW1]; exact bytes_read w s hs)
  have HB1 := Lib.hid (show Below w.heap.size w W1 from by rw [← hW1]; exact bytes_below w s)
  have hcx := hcv1 ()
  obtain ⟨S, hS⟩ : ∃ S, Sha.sum s.data.toList = S := ⟨_, rfl⟩
  have hSl : S.length = 32 := by rw [← hS, Sha.sum_length]
  obtain ⟨t, ht⟩ : ∃ t, bs (text S) = t := ⟨_, rfl⟩
  have hts : t.size ≤ 1000 := by rw [← ht, bs_size, text_tx, tx_length, hSl]; omega
  have hres : bs (idOf s.data.toList) = ⟨#[36]⟩ ++ t := by unfold idOf; rw [hS, ← ht]; exact (bs_snoc [36] _).symm
  have hsum := ref_sum_any (some ⟨w.heap.size, 0, none⟩) c1 s.data.toList W1 HR.out hle (by show s.size ≤ _; omega)
  rw [hS] at hsum
  have HSUM := Lib.hid hsum; have HSL := Lib.hid hSl; have HT := Lib.hid ht; have HRES := Lib.hid hres; have HSZ := Lib.hid hle
  clear hsum hcv hcv1 hW1 hc1 hS hSl ht hres hle HR
  go_enter Try.func19, Try.ntmps19
  go_wp2_with fail
  refine HSUM.out.mono ?_
  rintro e W2 ⟨v2, rfl, ho2, hb2⟩
  obtain ⟨a2, c2, hv2, hc2, hr2⟩ := ho2.reads
  have htx := rt_text_any a2 c2 S W2 hr2 hc2 (by rw [HSL.out]; omega)
  rw [HT.out] at htx
  rw [HSL.out] at hv2 hc2 htx
  subst hv2
  have HTX := Lib.hid htx; have HB2 := Lib.hid (HB1.out.trans (hb2.mono HB1.out.size))
  clear ho2 hb2 hr2 htx HSUM HB1
  go_wp2_with fail
  refine HTX.out.mono ?_
  rintro e W3 ⟨rfl, hb3⟩
  have HB3 := Lib.hid (HB2.out.trans (hb3.mono HB2.out.size))
  clear hb3
  go_wp2_with fail
  go_ret
  exact ⟨by rw [HRES.out]; rfl, HB3.out⟩
def Ext.ref_ID.f (s : ByteArray) : Option ByteArray := if bytesOkS s = true then some (bs (idOf s.data.toList)) else none
theorem Ext.ref_ID.f_eq (s : ByteArray) (h : s.size ≤ 1000000000000) : Ext.ref_ID.f s = some (bs (idOf s.data.toList)) := by
  unfold Ext.ref_ID.f bytesOkS; rw [if_pos (decide_eq_true h)]
theorem Ext.ref_ID.calls (a0 : ByteArray) (r : ByteArray) (w : World) (h : Ext.ref_ID.f a0 = some r) :
    Calls Try.prog 19 #[.string a0] w fun e w' => e = .returned (.string r) ∧ Below w.heap.size w w' := by
  unfold Ext.ref_ID.f at h
  split at h
  · rename_i hok
    cases h
    exact rid_any a0 (of_decide_eq_true hok) w
  · cases h
def Ext.ref_Code.f (l0 l1 : List Int) : Option (List Int) := if bytesMsg l0 = true ∧ bytesMsg l1 = true then some (intsB (layerOf (bytesI l0) 92 (layerOf (bytesI l0) 54 (bytesI l1)))) else none
theorem Ext.ref_Code.f_eq (a b : List UInt8) (h : a.length ≤ 1000000000000) (h2 : b.length ≤ 1000000000000) : Ext.ref_Code.f (intsB a) (intsB b) = some (intsB (layerOf a 92 (layerOf a 54 b))) := by
  unfold Ext.ref_Code.f; rw [if_pos ⟨bytesMsg_intsB a h, bytesMsg_intsB b h2⟩, bytesI_intsB, bytesI_intsB]
theorem Ext.ref_Code.calls (A0 : Option Addr) (c0 : Nat) (l0 : List Int) (A1 : Option Addr) (c1 : Nat) (l1 : List Int) (r : List Int) (w : World) (hr0 : Kd.C (Kd.int .u8) w A0 l0.length l0) (hc0 : l0.length ≤ c0) (hr1 : Kd.C (Kd.int .u8) w A1 l1.length l1) (hc1 : l1.length ≤ c1) (h : Ext.ref_Code.f l0 l1 = some r) :
    Calls Try.prog 11 #[.slice A0 l0.length c0, .slice A1 l1.length c1] w fun e w' => ∃ v0_ : Value, e = .returned (v0_) ∧ Kd.R (Kd.int .u8) 5 w' w.heap.size (fun _ => True) v0_ r ∧ Below w.heap.size w w' := by
  unfold Ext.ref_Code.f at h
  split at h
  · rename_i hok
    cases h
    obtain ⟨e, n, b⟩ := bytesMsg_rd hok.1
    obtain ⟨e1, n1, b1⟩ := bytesMsg_rd hok.2
    have := rcode_any A0 c0 (bytesI l0) A1 c1 (bytesI l1) w (by unfold Rd; rw [n, e]; exact hr0) (by omega) (by omega) (by unfold Rd; rw [n1, e1]; exact hr1) (by omega) (by omega)
    rw [n, n1] at this
    exact this
  · cases h
end Go.Proofs.Ytnhljemnebgekaa

/-
  The law SealMakes, walked: Code, Equal, Text, Bytes, ID and Named of any bytes and texts are what the chapter says.
-/
namespace Go.Proofs.Ytnhljemnebgekaa
open Go.RowKit Sha Go.Proofs.YtnhljemnebgekaaW.PrintWords Go.Proofs.YtnhljemnebgekaaW.PrintLast Go.Proofs.YtnhljemnebgekaaW.PrintMore Ps
set_option linter.unusedSimpArgs false
set_option linter.unusedVariables false
theorem mk_known (w : World) : Calls Try.prog 10 #[] w fun e w' => e = .returned (.bool true) ∧ Below w.heap.size w w' := by
  obtain ⟨k, hk⟩ := ps_known.rounds
  exact heliastlaw05_known.calls k true w hk
theorem mk_named (s : ByteArray) (hs : s.size ≤ 1000000000000) (w : World) : Calls Try.prog 20 #[.string s] w fun e w' => e = .returned (.bool (namedOf s.data.toList)) ∧ Below w.heap.size w w' := by
  have h := ps_named s.data.toList hs
  rw [bs_list] at h
  exact seal_Named.calls s _ w h
structure MkSt (W w : World) (a1 a2 ak ac : Option Addr) (m o kk C : List UInt8) : Prop where
  hb : Below W.heap.size W w
  rm : Rd w a1 m
  ro : Rd w a2 o
  rk : Rd w ak kk
  rc : Rd w ac C
theorem MkSt.step {W w w' : World} {a1 a2 ak ac : Option Addr} {m o kk C : List UInt8} (h : MkSt W w a1 a2 ak ac m o kk C) (hb : Below w.heap.size w w') : MkSt W w' a1 a2 ak ac m o kk C :=
  ⟨below_trans h.hb hb, h.rm.below hb, h.ro.below hb, h.rk.below hb, h.rc.below hb⟩
theorem mk_scode (a1 ak : Option Addr) (n len1 ck cap1 : Nat) (m kk : List UInt8) (hn : kk.length = n) (hm : m.length = len1) (hk : n ≤ 100000) (hl : len1 ≤ 100000) (hck : n ≤ ck) (hc1 : len1 ≤ cap1) (w : World) (h1 : Rd w ak kk) (h2 : Rd w a1 m) :
    Calls Try.prog 14 #[.slice ak n ck, .slice a1 len1 cap1] w fun e w' => ∃ a c, e = .returned (.slice a 32 c) ∧ 32 ≤ c ∧ Rd w' a (codeOf kk m) ∧ Below w.heap.size w w' := by
  subst hn hm
  have h := seal_Code.calls ak ck (intsB kk) a1 cap1 (intsB m) _ w (by rw [intsB_length]; exact h1) (by rw [intsB_length]; exact hck) (by rw [intsB_length]; exact h2) (by rw [intsB_length]; exact hc1) (ps_code kk m (by omega) (by omega))
  rw [intsB_length, intsB_length] at h
  refine h.mono fun e w' ⟨v, he, ho, hb⟩ => ?_
  obtain ⟨a, c, hv, hc, hr⟩ := OwnB.reads ho
  have h32 := codeOf_length kk m
  generalize codeOf kk m = C at *
  rw [h32] at hv hc
  exact ⟨a, c, by rw [he, hv], hc, hr, hb⟩
theorem mk_rcode (a1 ak : Option Addr) (n len1 ck cap1 : Nat) (m kk : List UInt8) (hn : kk.length = n) (hm : m.length = len1) (hk : n ≤ 100000) (hl : len1 ≤ 100000) (hck : n ≤ ck) (hc1 : len1 ≤ cap1) (w : World) (h1 : Rd w ak kk) (h2 : Rd w a1 m) :
    Calls Try.prog 11 #[.slice ak n ck, .slice a1 len1 cap1] w fun e w' => ∃ a c, e = .returned (.slice a 32 c) ∧ 32 ≤ c ∧ Rd w' a (codeOf kk m) ∧ Below w.heap.size w w' := by
  subst hn hm
  refine (rcode_any ak ck kk a1 cap1 m w h1 hck (by omega) h2 hc1 (by omega)).mono fun e w' ⟨v, he, ho, hb⟩ => ?_
  obtain ⟨a, c, hv, hc, hr⟩ := OwnB.reads ho
  have h32 := codeOf_length kk m
  have e1 : layerOf kk 92 (layerOf kk 54 m) = codeOf kk m := rfl
  rw [e1] at hv hc hr
  generalize codeOf kk m = C at *
  rw [h32] at hv hc
  exact ⟨a, c, by rw [he, hv], hc, hr, hb⟩
theorem mk_same (a1 a2 : Option Addr) (n1 n2 c1 c2 : Nat) (l1 l2 : List UInt8) (hn1 : l1.length = n1) (hn2 : l2.length = n2) (hc1 : n1 ≤ c1) (hc2 : n2 ≤ c2) (hl : n1 ≤ 100000) (w : World) (h1 : Rd w a1 l1) (h2 : Rd w a2 l2) :
    Calls Try.prog 13 #[.slice a1 n1 c1, .slice a2 n2 c2] w fun e w' => e = .returned (.bool (decide (l1 = l2))) ∧ Below w.heap.size w w' := by
  subst hn1 hn2
  refine (S.same_any a1 a2 c1 c2 l1 l2 w h1 hc1 h2 hc2 (by omega)).mono fun e w' ⟨he, q, hq⟩ => ⟨he, ?_⟩
  rw [hq]
  exact drewN_below w q
theorem mk_equal (a1 a2 : Option Addr) (n1 n2 c1 c2 : Nat) (l1 l2 : List UInt8) (hn1 : l1.length = n1) (hn2 : l2.length = n2) (hc1 : n1 ≤ c1) (hc2 : n2 ≤ c2) (hl : n1 ≤ 100000) (w : World) (h1 : Rd w a1 l1) (h2 : Rd w a2 l2) :
    Calls Try.prog 15 #[.slice a1 n1 c1, .slice a2 n2 c2] w fun e w' => e = .returned (.bool (decide (l1 = l2))) ∧ Below w.heap.size w w' := by
  subst hn1 hn2
  obtain ⟨k, hk⟩ := (ps_equal l1 l2 (by omega)).rounds
  have h := seal_Equal.calls k a1 c1 (intsB l1) a2 c2 (intsB l2) _ w (by rw [intsB_length]; exact h1) (by rw [intsB_length]; exact hc1) (by rw [intsB_length]; exact h2) (by rw [intsB_length]; exact hc2) hk
  rw [intsB_length, intsB_length] at h
  refine h.mono fun e w' ⟨he, hd⟩ => ⟨he, ?_⟩
  obtain ⟨q, hq⟩ := hd.out
  rw [hq]
  exact drewN_below w q
theorem rnamed_any (s : ByteArray) (hs : s.size ≤ 1000000000000) (w : World) : Calls Try.prog 21 #[.string s] w fun e w' => e = .returned (.bool (namedOf s.data.toList)) ∧ Below w.heap.size w w' := by
  have h := ps_rnamed s.data.toList hs
  rw [bs_list] at h
  exact heliastref05_Named.calls s _ w h
theorem lbytes_any (s : ByteArray) (hs : s.size ≤ 1000000000000) (w : World) : Calls Try.prog 17 #[.string s] w fun e w' => e = .returned (.bool true) ∧ Below w.heap.size w w' := by
  have h := ps_bytes s.data.toList hs
  rw [bs_list] at h
  exact heliastlaw05_bytes.calls s _ w h
theorem rt_tx_any (a : Option Addr) (c : Nat) (d : List UInt8) (w : World) (h : Rd w a d) (hdc : d.length ≤ c) (hl : d.length ≤ 1099511000000) :
    Calls Try.prog 12 #[.slice a d.length c] w fun e w' => e = .returned (.string (bs (tx d))) ∧ Below w.heap.size w w' := by
  have := rt_text_any a c d w h hdc hl
  rwa [text_tx] at this
theorem st_tx_any (a : Option Addr) (c : Nat) (d : List UInt8) (w : World) (h : Rd w a d) (hdc : d.length ≤ c) (hl : d.length ≤ 1099511000000) :
    Calls Try.prog 16 #[.slice a d.length c] w fun e w' => e = .returned (.string (bs (tx d))) ∧ Below w.heap.size w w' := by
  have := text_bs a c d w h hdc hl
  rwa [text_tx] at this
end Go.Proofs.Ytnhljemnebgekaa

/-
  The law SealMakes: the walk.
-/
namespace Go.Proofs.Ytnhljemnebgekaa
open Go.RowKit Sha Go.Proofs.YtnhljemnebgekaaW.PrintWords Go.Proofs.YtnhljemnebgekaaW.PrintLast Go.Proofs.YtnhljemnebgekaaW.PrintMore Ps
set_option linter.unusedSimpArgs false
set_option linter.unusedVariables false
theorem mk_own {w : World} {base : Nat} {v : Value} (l kb : List UInt8) : Kd.R (Kd.int .u8) 5 w base (fun _ => True) v (intsB l ++ intsB kb) ↔ OwnB w base v (l ++ kb) := by
  have h : intsB l ++ intsB kb = intsB (l ++ kb) := by simp [intsB]
  rw [h]
  rfl
theorem mk_zeros {w : World} {base : Nat} {v : Value} (n : Nat) (kb : List UInt8) : Kd.R (Kd.int .u8) 5 w base (fun _ => True) v (List.replicate n (0 : Int) ++ intsB kb) ↔ OwnB w base v (List.replicate n (0 : UInt8) ++ kb) := by
  have h : List.replicate n (0 : Int) ++ intsB kb = intsB (List.replicate n (0 : UInt8) ++ kb) := by simp [intsB]
  rw [h]
  rfl
set_option maxRecDepth 100000 in
set_option maxHeartbeats 2000000 in
theorem sealMakes_walk (a0 : Option Addr) (len0 cap0 : Nat) (z0 : List Int) (a1 : Option Addr) (len1 cap1 : Nat) (z1 : List Int) (a2 : Option Addr) (len2 cap2 : Nat) (z2 : List Int) (a3 : ByteArray) (a4 : Bool) (W : World)
    (x0 : z0.length = len0) (y0 : RowAt W a0 (z0.map (.int .u8))) (u0 : ∀ z ∈ z0, (Lit.int .u8 z).wf = true) (b0 : len0 * 1 ≤ 140737488351232) (c0 : len0 ≤ cap0) (m0 : cap0 ≤ maxLen)
    (x1 : z1.length = len1) (y1 : RowAt W a1 (z1.map (.int .u8))) (u1 : ∀ z ∈ z1, (Lit.int .u8 z).wf = true) (b1 : len1 * 1 ≤ 140737488351232) (c1 : len1 ≤ cap1) (m1 : cap1 ≤ maxLen)
    (x2 : z2.length = len2) (y2 : RowAt W a2 (z2.map (.int .u8))) (u2 : ∀ z ∈ z2, (Lit.int .u8 z).wf = true) (b2 : len2 * 1 ≤ 140737488351232) (c2 : len2 ≤ cap2) (m2 : cap2 ≤ maxLen)
    (s3 : a3.size ≤ 140737488351232) :
    Calls Try.prog 3 #[.slice a0 len0 cap0, .slice a1 len1 cap1, .slice a2 len2 cap2, .string a3, .bool a4] W fun e w' => e = .returned (.bool true) ∧ Below W.heap.size W w' := by
  unfold maxLen at m0 m1 m2
  obtain ⟨kb, hkl, hrk⟩ := rd_of_row y0 u0 (by omega)
  obtain ⟨m, hml, hrm⟩ := rd_of_row y1 u1 (by omega)
  obtain ⟨o, hol, hro⟩ := rd_of_row y2 u2 (by omega)
  rw [x0] at hkl
  rw [x1] at hml
  rw [x2] at hol
  clear x0 y0 u0 x1 y1 u1 x2 y2 u2
  have HKL := Lib.hid hkl; have HML := Lib.hid hml; have HOL := Lib.hid hol
  have HRK := Lib.hid hrk; have HRM := Lib.hid hrm; have HRO := Lib.hid hro
  clear hkl hml hol hrk hrm hro
  obtain ⟨ls, hls⟩ : ∃ n, a3.size = n := ⟨_, rfl⟩
  rw [hls] at s3
  have e1 : IntKind.i64.wrap ((len0 : Int) + len1) = (len0 : Int) + len1 := by rw [IntKind.wrap_i64]; omega
  have e2 : IntKind.i64.wrap ((len0 : Int) + len1 + len2) = (len0 : Int) + len1 + len2 := by rw [IntKind.wrap_i64]; omega
  have e3 : IntKind.i64.wrap ((len0 : Int) + len1 + len2 + ls) = (len0 : Int) + len1 + len2 + ls := by rw [IntKind.wrap_i64]; omega
  by_cases hbig : (400 : Int) < (len0 : Int) + len1 + len2 + ls
  · go_enter Try.func3, Try.ntmps3
    go_wp2_with fail
    refine (mk_known _).mono ?_
    rintro e w1 ⟨rfl, hb1⟩
    go_wp2_with fail
    go_ret
    exact ⟨rfl, hb1⟩
  · go_enter Try.func3, Try.ntmps3
    go_wp2_with fail
    refine (mk_known _).mono ?_
    rintro e w1 ⟨rfl, hb1⟩
    have HB1 := Lib.hid hb1
    clear hb1 e1 e2 e3
    cases a4 with
    | true =>
      go_wp2_with (first | ((with_reducible refine gate_builtin (b := .append) (xs := #[.tmp 32, .tmp 36]) rfl ?_); at_builtin; refine Kd.R_append_zeros (Kd.int .u8) (w0 := W) W.heap.size rfl (.tmp 32) (.tmp 36) 22 3 5 (.int .u8 0) 1 rfl Try.underlying22 Try.underlying3 info5 rfl (by decide) (by decide) (.slice none 0 0) ([] : List Int) 0 (64 - min (len0 : Int) 64) (fun _ => True) rfl rfl ?aZ (fun _ _ => trivial) (Kd.R_nil _ _ _ _ _) (by omega) HB1.out HB1.out.size ?aL ?_; (case aL => simp; omega); (case aZ => rfl); intro v2 w2 ho hb hg hat; clear hg hat; rw [List.nil_append] at ho; have HO2 := Lib.hid ho; have HB2 := Lib.hid hb; clear ho hb) | ((with_reducible refine gate_builtin (b := .append) (xs := #[.tmp 38, .tmp 39]) rfl ?_); at_builtin; refine Kd.R_append_rows (Kd.int .u8) (w0 := W) W.heap.size rfl (.tmp 38) (.tmp 39) 22 5 (.int .u8 0) 1 rfl Try.underlying22 info5 rfl (by decide) (by omega) v2 (List.replicate (64 - min (len0 : Int) 64).toNat 0) (intsB kb) _ _ _ (fun _ => True) (fun _ => False) rfl rfl ?aO ?aR (fun _ _ h => h) (fun _ h => h.elim) ?aF ?aB ?aS ?aL ?_; (case aR => rw [← HKL.out]; exact HRK.out.below HB2.out); (case aB => exact HB2.out); (case aF => exact (fun _ _ => trivial)); (case aO => exact HO2.out); (case aS => exact HB2.out.size); (case aL => simp; omega); intro v3 w3 ho hb hg hat; clear hg hat; have ho3 : OwnB w3 W.heap.size v3 ((List.replicate (64 - min (len0 : Int) 64).toNat (0 : UInt8)) ++ kb) := (by first | exact (mk_zeros _ _).mp ho | exact (mk_own _ _).mp ho); have HB3 := Lib.hid hb; clear ho hb; obtain ⟨kk, hkk⟩ : ∃ kk, (List.replicate (64 - min (len0 : Int) 64).toNat (0 : UInt8)) ++ kb = kk := ⟨_, rfl⟩; have hkn : kk.length ≤ 1000 := (by rw [← hkk, List.length_append, HKL.out]; (first | rw [List.length_replicate] | rw [List.length_nil]); omega); rw [hkk] at ho3; clear hkk; obtain ⟨ak, ck, hv3, hck, hrk⟩ := ho3.reads; subst hv3; obtain ⟨n, hn⟩ : ∃ n, kk.length = n := ⟨_, rfl⟩; rw [hn] at hck hkn ⊢; have HN := Lib.hid hn; have HRKK := Lib.hid hrk; clear hn hrk ho3))
      refine (mk_rcode a1 ak n len1 ck cap1 m kk HN.out HML.out (by omega) (by omega) hck c1 _ HRKK.out (HRM.out.below HB3.out)).mono ?_
      rintro e w4 ⟨ac, cc, rfl, hcc, hrc, hb4⟩
      obtain ⟨C, hC⟩ : ∃ C, codeOf kk m = C := ⟨_, rfl⟩
      have h32 : C.length = 32 := by rw [← hC]; exact codeOf_length kk m
      have HCL := Lib.hid h32; have HC := Lib.hid hC
      rw [hC] at hrc
      have hst : MkSt W w4 a1 a2 ak ac m o kk C := ⟨below_trans HB3.out hb4, (HRM.out.below HB3.out).below hb4, (HRO.out.below HB3.out).below hb4, HRKK.out.below hb4, hrc⟩
      clear h32 hC hrc hb4
      have hscode := fun w (h : MkSt W w a1 a2 ak ac m o kk C) => mk_scode a1 ak n len1 ck cap1 m kk HN.out HML.out (by omega) (by omega) hck c1 w h.rk h.rm
      have hrcode := fun w (h : MkSt W w a1 a2 ak ac m o kk C) => mk_rcode a1 ak n len1 ck cap1 m kk HN.out HML.out (by omega) (by omega) hck c1 w h.rk h.rm
      rw [HC.out] at hscode hrcode
      have hsameC := fun a c (hc : 32 ≤ c) w (hr : Rd w a C) (h : MkSt W w a1 a2 ak ac m o kk C) => mk_same a ac 32 32 c cc C C HCL.out HCL.out hc hcc (by omega) w hr h.rc
      have hsameO := fun w (h : MkSt W w a1 a2 ak ac m o kk C) => mk_same ac a2 32 len2 cc cap2 C o HCL.out HOL.out hcc c2 (by omega) w h.rc h.ro
      have heqO := fun w (h : MkSt W w a1 a2 ak ac m o kk C) => mk_equal ac a2 32 len2 cc cap2 C o HCL.out HOL.out hcc c2 (by omega) w h.rc h.ro
      have hsameM := fun w (h : MkSt W w a1 a2 ak ac m o kk C) => mk_same a1 a2 len1 len2 cap1 cap2 m o HML.out HOL.out c1 c2 (by omega) w h.rm h.ro
      have heqM := fun w (h : MkSt W w a1 a2 ak ac m o kk C) => mk_equal a1 a2 len1 len2 cap1 cap2 m o HML.out HOL.out c1 c2 (by omega) w h.rm h.ro
      have heqC := fun a c (hc : 32 ≤ c) w (hr : Rd w a C) (h : MkSt W w a1 a2 ak ac m o kk C) => mk_equal ac a 32 32 cc c C C HCL.out HCL.out hcc hc (by omega) w h.rc hr
      have hst12 := fun w (h : MkSt W w a1 a2 ak ac m o kk C) => rt_tx_any a1 cap1 m w h.rm (by rw [HML.out]; exact c1) (by rw [HML.out]; omega)
      have hst16 := fun w (h : MkSt W w a1 a2 ak ac m o kk C) => st_tx_any a1 cap1 m w h.rm (by rw [HML.out]; exact c1) (by rw [HML.out]; omega)
      rw [HML.out] at hst12 hst16
      obtain ⟨t, ht⟩ : ∃ t, bs (tx m) = t := ⟨_, rfl⟩
      have htz : t.size ≤ 1000 := by rw [← ht, bs_size, tx_length, HML.out]; omega
      rw [ht] at hst12 hst16
      obtain ⟨eo, heo⟩ : ∃ eo, decide (C = o) = eo := ⟨_, rfl⟩
      obtain ⟨em, hem⟩ : ∃ em, decide (m = o) = em := ⟨_, rfl⟩
      rw [heo] at hsameO heqO
      rw [hem] at hsameM heqM
      simp only [decide_true] at hsameC heqC
      have HST := Lib.hid hst; have HSCODE := Lib.hid hscode; have HRCODE := Lib.hid hrcode; have HSAMEC := Lib.hid hsameC; have HSAMEO := Lib.hid hsameO; have HEQO := Lib.hid heqO; have HSAMEM := Lib.hid hsameM; have HEQM := Lib.hid heqM; have HEQC := Lib.hid heqC; have H12 := Lib.hid hst12; have H16 := Lib.hid hst16
      clear hst hscode hrcode hsameC hsameO heqO hsameM heqM heqC hst12 hst16 heo hem ht
      obtain ⟨nS, hnS⟩ : ∃ r, namedOf a3.data.toList = r := ⟨_, rfl⟩
      obtain ⟨sid, hsid⟩ : ∃ r, bs (idOf a3.data.toList) = r := ⟨_, rfl⟩
      have hs1 := fun w => sid_any a3 (by omega) w
      have hs2 := fun w => rid_any a3 (by omega) w
      have hn1 := fun w => mk_named a3 (by omega) w
      have hn2 := fun w => rnamed_any a3 (by omega) w
      rw [hsid] at hs1 hs2
      rw [hnS] at hn1 hn2
      have HS1 := Lib.hid hs1; have HS2 := Lib.hid hs2; have HN1 := Lib.hid hn1; have HN2 := Lib.hid hn2
      clear hs1 hs2 hn1 hn2 hsid hnS
      go_wp2_with fail
      refine (H12.out _ HST.out).mono ?_
      rintro e w5 ⟨rfl, hb5⟩
      have HST5 := Lib.hid (HST.out.step hb5); clear hb5 HST
      go_wp2_with fail
      refine (HSCODE.out _ HST5.out).mono ?_
      rintro e w6 ⟨a6, c6, rfl, hc6, hr6, hb6⟩
      have HST6 := Lib.hid (HST5.out.step hb6); have HR6 := Lib.hid hr6; clear hb6 hr6 HST5
      go_wp2_with fail
      refine (HSAMEC.out a6 c6 hc6 _ HR6.out HST6.out).mono ?_
      rintro e w7 ⟨rfl, hb7⟩
      have HST7 := Lib.hid (HST6.out.step hb7); clear hb7 HST6 HR6
      go_wp2_with fail
      refine (HEQO.out _ HST7.out).mono ?_
      rintro e w8 ⟨rfl, hb8⟩
      have HST8 := Lib.hid (HST7.out.step hb8); clear hb8 HST7
      go_wp2_with fail
      refine (HSAMEO.out _ HST8.out).mono ?_
      rintro e w9 ⟨rfl, hb9⟩
      have HST9 := Lib.hid (HST8.out.step hb9); clear hb9 HST8
      go_wp2_with fail
      refine (HEQM.out _ HST9.out).mono ?_
      rintro e w10 ⟨rfl, hb10⟩
      have HST10 := Lib.hid (HST9.out.step hb10); clear hb10 HST9
      go_wp2_with fail
      refine (HSAMEM.out _ HST10.out).mono ?_
      rintro e w11 ⟨rfl, hb11⟩
      have HST11 := Lib.hid (HST10.out.step hb11); clear hb11 HST10
      go_wp2_with fail
      refine (HRCODE.out _ HST11.out).mono ?_
      rintro e w12 ⟨a12, c12, rfl, hc12, hr12, hb12⟩
      have HST12 := Lib.hid (HST11.out.step hb12); have HR12 := Lib.hid hr12; clear hb12 hr12 HST11
      go_wp2_with fail
      refine (HEQC.out a12 c12 hc12 _ HR12.out HST12.out).mono ?_
      rintro e w13 ⟨rfl, hb13⟩
      have HST13 := Lib.hid (HST12.out.step hb13); clear hb13 HST12
      clear HR12
      go_wp2_with fail
      refine (H16.out _ HST13.out).mono ?_
      rintro e w14 ⟨rfl, hb14⟩
      have HST14 := Lib.hid (HST13.out.step hb14); clear hb14 HST13
      go_wp2_with fail
      refine (lbytes_any a3 (by omega) _).mono ?_
      rintro e w15 ⟨rfl, hb15⟩
      have HST15 := Lib.hid (HST14.out.step hb15); clear hb15 HST14
      go_wp2_with fail
      refine (lbytes_any _ (by omega) _).mono ?_
      rintro e w16 ⟨rfl, hb16⟩
      have HST16 := Lib.hid (HST15.out.step hb16); clear hb16 HST15
      go_wp2_with fail
      refine (lbytes_any _ (by simp only [ByteArray.size_append]; show _ + 1 ≤ _; omega) _).mono ?_
      rintro e w17 ⟨rfl, hb17⟩
      have HST17 := Lib.hid (HST16.out.step hb17); clear hb17 HST16
      go_wp2_with fail
      refine (HS1.out _).mono ?_
      rintro e w18 ⟨rfl, hb18⟩
      have HST18 := Lib.hid (HST17.out.step hb18); clear hb18 HST17
      go_wp2_with fail
      refine (HS2.out _).mono ?_
      rintro e w19 ⟨rfl, hb19⟩
      have HST19 := Lib.hid (HST18.out.step hb19); clear hb19 HST18
      go_wp2_with fail
      refine (HN1.out _).mono ?_
      rintro e w20 ⟨rfl, hb20⟩
      have HST20 := Lib.hid (HST19.out.step hb20); clear hb20 HST19
      go_wp2_with fail
      refine (HN2.out _).mono ?_
      rintro e w21 ⟨rfl, hb21⟩
      have HST21 := Lib.hid (HST20.out.step hb21); clear hb21 HST20
      go_wp2_with fail
      refine (mk_named _ (by simp only [ByteArray.size_append]; show 1 + _ ≤ _; omega) _).mono ?_
      rintro e w22 ⟨rfl, hb22⟩
      have HST22 := Lib.hid (HST21.out.step hb22); clear hb22 HST21
      go_wp2_with fail
      refine (rnamed_any _ (by simp only [ByteArray.size_append]; show 1 + _ ≤ _; omega) _).mono ?_
      rintro e w23 ⟨rfl, hb23⟩
      have HST23 := Lib.hid (HST22.out.step hb23); clear hb23 HST22
      go_wp2_with fail
      go_ret
      exact ⟨rfl, HST23.out.hb⟩
    | false =>
      go_wp2_with ((with_reducible refine gate_builtin (b := .append) (xs := #[.tmp 38, .tmp 39]) rfl ?_); at_builtin; refine Kd.R_append_rows (Kd.int .u8) (w0 := W) W.heap.size rfl (.tmp 38) (.tmp 39) 22 5 (.int .u8 0) 1 rfl Try.underlying22 info5 rfl (by decide) (by omega) (.slice none 0 0) ([] : List Int) (intsB kb) _ _ _ (fun _ => True) (fun _ => False) rfl rfl ?aO ?aR (fun _ _ h => h) (fun _ h => h.elim) ?aF ?aB ?aS ?aL ?_; (case aR => rw [← HKL.out]; exact HRK.out.below HB1.out); (case aB => exact HB1.out); (case aF => exact (fun _ _ => trivial)); (case aO => exact Kd.R_nil _ _ _ _ _); (case aS => exact HB1.out.size); (case aL => simp; omega); intro v3 w3 ho hb hg hat; clear hg hat; have ho3 : OwnB w3 W.heap.size v3 (([] : List UInt8) ++ kb) := (by first | exact (mk_zeros _ _).mp ho | exact (mk_own _ _).mp ho); have HB3 := Lib.hid hb; clear ho hb; obtain ⟨kk, hkk⟩ : ∃ kk, ([] : List UInt8) ++ kb = kk := ⟨_, rfl⟩; have hkn : kk.length ≤ 1000 := (by rw [← hkk, List.length_append, HKL.out]; (first | rw [List.length_replicate] | rw [List.length_nil]); omega); rw [hkk] at ho3; clear hkk; obtain ⟨ak, ck, hv3, hck, hrk⟩ := ho3.reads; subst hv3; obtain ⟨n, hn⟩ : ∃ n, kk.length = n := ⟨_, rfl⟩; rw [hn] at hck hkn ⊢; have HN := Lib.hid hn; have HRKK := Lib.hid hrk; clear hn hrk ho3)
      refine (mk_rcode a1 ak n len1 ck cap1 m kk HN.out HML.out (by omega) (by omega) hck c1 _ HRKK.out (HRM.out.below HB3.out)).mono ?_
      rintro e w4 ⟨ac, cc, rfl, hcc, hrc, hb4⟩
      obtain ⟨C, hC⟩ : ∃ C, codeOf kk m = C := ⟨_, rfl⟩
      have h32 : C.length = 32 := by rw [← hC]; exact codeOf_length kk m
      have HCL := Lib.hid h32; have HC := Lib.hid hC
      rw [hC] at hrc
      have hst : MkSt W w4 a1 a2 ak ac m o kk C := ⟨below_trans HB3.out hb4, (HRM.out.below HB3.out).below hb4, (HRO.out.below HB3.out).below hb4, HRKK.out.below hb4, hrc⟩
      clear h32 hC hrc hb4
      have hscode := fun w (h : MkSt W w a1 a2 ak ac m o kk C) => mk_scode a1 ak n len1 ck cap1 m kk HN.out HML.out (by omega) (by omega) hck c1 w h.rk h.rm
      have hrcode := fun w (h : MkSt W w a1 a2 ak ac m o kk C) => mk_rcode a1 ak n len1 ck cap1 m kk HN.out HML.out (by omega) (by omega) hck c1 w h.rk h.rm
      rw [HC.out] at hscode hrcode
      have hsameC := fun a c (hc : 32 ≤ c) w (hr : Rd w a C) (h : MkSt W w a1 a2 ak ac m o kk C) => mk_same a ac 32 32 c cc C C HCL.out HCL.out hc hcc (by omega) w hr h.rc
      have hsameO := fun w (h : MkSt W w a1 a2 ak ac m o kk C) => mk_same ac a2 32 len2 cc cap2 C o HCL.out HOL.out hcc c2 (by omega) w h.rc h.ro
      have heqO := fun w (h : MkSt W w a1 a2 ak ac m o kk C) => mk_equal ac a2 32 len2 cc cap2 C o HCL.out HOL.out hcc c2 (by omega) w h.rc h.ro
      have hsameM := fun w (h : MkSt W w a1 a2 ak ac m o kk C) => mk_same a1 a2 len1 len2 cap1 cap2 m o HML.out HOL.out c1 c2 (by omega) w h.rm h.ro
      have heqM := fun w (h : MkSt W w a1 a2 ak ac m o kk C) => mk_equal a1 a2 len1 len2 cap1 cap2 m o HML.out HOL.out c1 c2 (by omega) w h.rm h.ro
      have heqC := fun a c (hc : 32 ≤ c) w (hr : Rd w a C) (h : MkSt W w a1 a2 ak ac m o kk C) => mk_equal ac a 32 32 cc c C C HCL.out HCL.out hcc hc (by omega) w h.rc hr
      have hst12 := fun w (h : MkSt W w a1 a2 ak ac m o kk C) => rt_tx_any a1 cap1 m w h.rm (by rw [HML.out]; exact c1) (by rw [HML.out]; omega)
      have hst16 := fun w (h : MkSt W w a1 a2 ak ac m o kk C) => st_tx_any a1 cap1 m w h.rm (by rw [HML.out]; exact c1) (by rw [HML.out]; omega)
      rw [HML.out] at hst12 hst16
      obtain ⟨t, ht⟩ : ∃ t, bs (tx m) = t := ⟨_, rfl⟩
      have htz : t.size ≤ 1000 := by rw [← ht, bs_size, tx_length, HML.out]; omega
      rw [ht] at hst12 hst16
      obtain ⟨eo, heo⟩ : ∃ eo, decide (C = o) = eo := ⟨_, rfl⟩
      obtain ⟨em, hem⟩ : ∃ em, decide (m = o) = em := ⟨_, rfl⟩
      rw [heo] at hsameO heqO
      rw [hem] at hsameM heqM
      simp only [decide_true] at hsameC heqC
      have HST := Lib.hid hst; have HSCODE := Lib.hid hscode; have HRCODE := Lib.hid hrcode; have HSAMEC := Lib.hid hsameC; have HSAMEO := Lib.hid hsameO; have HEQO := Lib.hid heqO; have HSAMEM := Lib.hid hsameM; have HEQM := Lib.hid heqM; have HEQC := Lib.hid heqC; have H12 := Lib.hid hst12; have H16 := Lib.hid hst16
      clear hst hscode hrcode hsameC hsameO heqO hsameM heqM heqC hst12 hst16 heo hem ht
      obtain ⟨nS, hnS⟩ : ∃ r, namedOf a3.data.toList = r := ⟨_, rfl⟩
      obtain ⟨sid, hsid⟩ : ∃ r, bs (idOf a3.data.toList) = r := ⟨_, rfl⟩
      have hs1 := fun w => sid_any a3 (by omega) w
      have hs2 := fun w => rid_any a3 (by omega) w
      have hn1 := fun w => mk_named a3 (by omega) w
      have hn2 := fun w => rnamed_any a3 (by omega) w
      rw [hsid] at hs1 hs2
      rw [hnS] at hn1 hn2
      have HS1 := Lib.hid hs1; have HS2 := Lib.hid hs2; have HN1 := Lib.hid hn1; have HN2 := Lib.hid hn2
      clear hs1 hs2 hn1 hn2 hsid hnS
      go_wp2_with fail
      refine (H12.out _ HST.out).mono ?_
      rintro e w5 ⟨rfl, hb5⟩
      have HST5 := Lib.hid (HST.out.step hb5); clear hb5 HST
      go_wp2_with fail
      refine (HSCODE.out _ HST5.out).mono ?_
      rintro e w6 ⟨a6, c6, rfl, hc6, hr6, hb6⟩
      have HST6 := Lib.hid (HST5.out.step hb6); have HR6 := Lib.hid hr6; clear hb6 hr6 HST5
      go_wp2_with fail
      refine (HSAMEC.out a6 c6 hc6 _ HR6.out HST6.out).mono ?_
      rintro e w7 ⟨rfl, hb7⟩
      have HST7 := Lib.hid (HST6.out.step hb7); clear hb7 HST6 HR6
      go_wp2_with fail
      refine (HEQO.out _ HST7.out).mono ?_
      rintro e w8 ⟨rfl, hb8⟩
      have HST8 := Lib.hid (HST7.out.step hb8); clear hb8 HST7
      go_wp2_with fail
      refine (HSAMEO.out _ HST8.out).mono ?_
      rintro e w9 ⟨rfl, hb9⟩
      have HST9 := Lib.hid (HST8.out.step hb9); clear hb9 HST8
      go_wp2_with fail
      refine (HEQM.out _ HST9.out).mono ?_
      rintro e w10 ⟨rfl, hb10⟩
      have HST10 := Lib.hid (HST9.out.step hb10); clear hb10 HST9
      go_wp2_with fail
      refine (HSAMEM.out _ HST10.out).mono ?_
      rintro e w11 ⟨rfl, hb11⟩
      have HST11 := Lib.hid (HST10.out.step hb11); clear hb11 HST10
      go_wp2_with fail
      refine (HRCODE.out _ HST11.out).mono ?_
      rintro e w12 ⟨a12, c12, rfl, hc12, hr12, hb12⟩
      have HST12 := Lib.hid (HST11.out.step hb12); have HR12 := Lib.hid hr12; clear hb12 hr12 HST11
      go_wp2_with fail
      refine (HEQC.out a12 c12 hc12 _ HR12.out HST12.out).mono ?_
      rintro e w13 ⟨rfl, hb13⟩
      have HST13 := Lib.hid (HST12.out.step hb13); clear hb13 HST12
      clear HR12
      go_wp2_with fail
      refine (H16.out _ HST13.out).mono ?_
      rintro e w14 ⟨rfl, hb14⟩
      have HST14 := Lib.hid (HST13.out.step hb14); clear hb14 HST13
      go_wp2_with fail
      refine (lbytes_any a3 (by omega) _).mono ?_
      rintro e w15 ⟨rfl, hb15⟩
      have HST15 := Lib.hid (HST14.out.step hb15); clear hb15 HST14
      go_wp2_with fail
      refine (lbytes_any _ (by omega) _).mono ?_
      rintro e w16 ⟨rfl, hb16⟩
      have HST16 := Lib.hid (HST15.out.step hb16); clear hb16 HST15
      go_wp2_with fail
      refine (lbytes_any _ (by simp only [ByteArray.size_append]; show _ + 1 ≤ _; omega) _).mono ?_
      rintro e w17 ⟨rfl, hb17⟩
      have HST17 := Lib.hid (HST16.out.step hb17); clear hb17 HST16
      go_wp2_with fail
      refine (HS1.out _).mono ?_
      rintro e w18 ⟨rfl, hb18⟩
      have HST18 := Lib.hid (HST17.out.step hb18); clear hb18 HST17
      go_wp2_with fail
      refine (HS2.out _).mono ?_
      rintro e w19 ⟨rfl, hb19⟩
      have HST19 := Lib.hid (HST18.out.step hb19); clear hb19 HST18
      go_wp2_with fail
      refine (HN1.out _).mono ?_
      rintro e w20 ⟨rfl, hb20⟩
      have HST20 := Lib.hid (HST19.out.step hb20); clear hb20 HST19
      go_wp2_with fail
      refine (HN2.out _).mono ?_
      rintro e w21 ⟨rfl, hb21⟩
      have HST21 := Lib.hid (HST20.out.step hb21); clear hb21 HST20
      go_wp2_with fail
      refine (mk_named _ (by simp only [ByteArray.size_append]; show 1 + _ ≤ _; omega) _).mono ?_
      rintro e w22 ⟨rfl, hb22⟩
      have HST22 := Lib.hid (HST21.out.step hb22); clear hb22 HST21
      go_wp2_with fail
      refine (rnamed_any _ (by simp only [ByteArray.size_append]; show 1 + _ ≤ _; omega) _).mono ?_
      rintro e w23 ⟨rfl, hb23⟩
      have HST23 := Lib.hid (HST22.out.step hb23); clear hb23 HST22
      go_wp2_with fail
      go_ret
      exact ⟨rfl, HST23.out.hb⟩
end Go.Proofs.Ytnhljemnebgekaa

/-
  The row of the law SealMakes: whatever the input, it answers true and leaves its arguments as they were; out of its walk.
-/
namespace Go.Proofs.Ytnhljemnebgekaa.sealMakes
open Go.ChangeShapes Go.WideShapes Go.ChangeAt Go.RowKit
open Go.ChangeMaps (open_string shut_string)
theorem own : ownKnob Try.prog.godebug = none := by kernel_rfl
theorem laidOut : laidOutB Try.prog = true := by kernel_rfl
set_option maxRecDepth 100000 in
theorem lifted (os : Os) (started : os.Started) (H : Type) (enc : TypeId × Value → H) :
    ReturnsInHanded {} Try.checked os 3 .any (Rows.sealMakesSpec.pre6 enc Try.prog Try.f3 Rows.sealMakesRow.domain false) (Rows.sealMakesSpec.post enc Try.prog Try.f3 false true false false) := by
  refine returnsInHanded_of_change_sized (C := Try.checked) own started (by kernel_rfl) Try.func3
    (ChangeSpec.witness6 (enc := enc) (C := Try.checked) false ⟨#[], #[.slice none 0 0, .slice none 0 0, .slice none 0 0, .string ByteArray.empty, .bool false], []⟩ 8 (by kernel_rfl) (by kernel_rfl) (by kernel_rfl) (by kernel_rfl)) ?_
  intro W base args ds gs before hval0 hW _ hsz0 _
  have hsz : (DataW.weightsEach Try.prog (Try.f3.params.toList ++ Rows.sealMakesSpec.plain.varTypes Try.prog) (ds ++ gs)).all (· ≤ reachBytes) = true := hsz0
  have hval : ∀ (j : Nat) t v, Try.f3.params[j]? = some t → args[j]? = some v → Value.okWide Try.prog W .any base t v := hval0
  have hW' := hW
  obtain ⟨p, q, hA0, hV, rfl, hfz, hnd⟩ := hW
  have hA : DataW.TrodAll enc Try.prog W 0 (fun _ => true) true Try.f3.params.toList args.toList ds p := hA0
  rw [Try.params3] at hA hval hsz
  obtain ⟨v0, vs0, d0, ds0, p0, q0, hargs, rfl, rfl, h0, r0⟩ := trodAll_cons hA
  obtain ⟨v1, vs1, d1, ds1, p1, q1, rfl, rfl, rfl, h1, r1⟩ := trodAll_cons r0
  obtain ⟨v2, vs2, d2, ds2, p2, q2, rfl, rfl, rfl, h2, r2⟩ := trodAll_cons r1
  obtain ⟨v3, vs3, d3, ds3, p3, q3, rfl, rfl, rfl, h3, r3⟩ := trodAll_cons r2
  obtain ⟨v4, vs4, d4, ds4, p4, q4, rfl, rfl, rfl, h4, r4⟩ := trodAll_cons r3
  obtain ⟨rfl, rfl, rfl⟩ := trodAll_nil r4
  obtain rfl : args = #[v0, v1, v2, v3, v4] := by cases args; simp_all
  obtain ⟨rfl, rfl⟩ := trodVars_none hV
  obtain ⟨a0, len0, cap0, rfl⟩ := okWide_slice Try.underlying22 (hval 0 22 v0 rfl rfl)
  have k0 := h0
  have lt0 : ∀ x ∈ p0, x.block < W.heap.size := by obtain ⟨m, hm⟩ := k0; exact DataW.trod_lt m _ _ _ hm
  obtain ⟨z0, x0, y0, u0, b0, c0, m0⟩ := open_nums hsz (j := 0) (t := 22) rfl rfl Try.underlying22 Try.underlying5 (by kernel_rfl) (B := 1) (by kernel_rfl) h0
  obtain ⟨a1, len1, cap1, rfl⟩ := okWide_slice Try.underlying22 (hval 1 22 v1 rfl rfl)
  have k1 := h1
  have lt1 : ∀ x ∈ p1, x.block < W.heap.size := by obtain ⟨m, hm⟩ := k1; exact DataW.trod_lt m _ _ _ hm
  obtain ⟨z1, x1, y1, u1, b1, c1, m1⟩ := open_nums hsz (j := 1) (t := 22) rfl rfl Try.underlying22 Try.underlying5 (by kernel_rfl) (B := 1) (by kernel_rfl) h1
  obtain ⟨a2, len2, cap2, rfl⟩ := okWide_slice Try.underlying22 (hval 2 22 v2 rfl rfl)
  have k2 := h2
  have lt2 : ∀ x ∈ p2, x.block < W.heap.size := by obtain ⟨m, hm⟩ := k2; exact DataW.trod_lt m _ _ _ hm
  obtain ⟨z2, x2, y2, u2, b2, c2, m2⟩ := open_nums hsz (j := 2) (t := 22) rfl rfl Try.underlying22 Try.underlying5 (by kernel_rfl) (B := 1) (by kernel_rfl) h2
  obtain ⟨a3, rfl, rfl, rfl, y3⟩ := open_string Try.underlying9 (hval 3 9 v3 rfl rfl) h3
  have w3 : a3.size ≤ 140737488351232 := by
    have z := sized_string hsz (j := 3) (t := 9) rfl rfl
    rw [Array.length_toList] at z
    exact z
  obtain ⟨a4, rfl, rfl, rfl⟩ := open_bool Try.underlying4 (hval 4 4 v4 rfl rfl) h4
  refine (sealMakes_walk a0 len0 cap0 z0 a1 len1 cap1 z1 a2 len2 cap2 z2 a3 a4 W x0 y0 u0 b0 c0 m0 x1 y1 u1 b1 c1 m1 x2 y2 u2 b2 c2 m2 w3).mono fun e W' ⟨he, bel⟩ => ?_
  subst he
  exact ⟨_, rfl, _, _, _, [], _, [], hW', trodAll_mk1 (shut_bool Try.underlying4 _), (trodAll_cons_mk (Below.trod laidOut (by kernel_rfl) (of_decide_eq_true (by kernel_rfl)) k0 bel lt0) (trodAll_cons_mk (Below.trod laidOut (by kernel_rfl) (of_decide_eq_true (by kernel_rfl)) k1 bel lt1) (trodAll_cons_mk (Below.trod laidOut (by kernel_rfl) (of_decide_eq_true (by kernel_rfl)) k2 bel lt2) (trodAll_cons_mk (shut_string Try.underlying9 y3) (trodAll_cons_mk (shut_bool Try.underlying4 _) trodAll_mk0))))), rfl, bel.frame _, fun h => by cases h⟩
theorem over : Rows.sealMakesRow.holds Try.pinned (OpenSpec.ofChange Rows.sealMakesSpec) :=
  OpenClaim.holds_of_wide 3 Try.f3 rfl rfl rfl rfl rfl rfl rfl ⟨rfl, rfl, rfl, rfl, rfl⟩ rfl rfl rfl rfl rfl (by kernel_rfl) Try.func3 (by kernel_rfl)
    (of_decide_eq_true (by kernel_rfl)) (by unfold Func.isWrapper; first | (rw [if_pos (by decide +kernel)]; kernel_rfl) | (rw [if_neg (by decide +kernel)]; exact ⟨rfl, rfl⟩))
    (fun os started H enc _ => lifted os started H enc)
end Go.Proofs.Ytnhljemnebgekaa.sealMakes
namespace Go.Proofs.Ytnhljemnebgekaa
/-- The row, under a short name. -/
theorem sealMakes_holds : Rows.SealMakesSaid := sealMakes.over
#print axioms sealMakes_holds
end Go.Proofs.Ytnhljemnebgekaa

