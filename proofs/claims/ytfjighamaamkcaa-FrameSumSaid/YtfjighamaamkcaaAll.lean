/-
  The function All, called on any text, returns the plain row of all framed texts.
-/
import Derived.Test.YtfjighamaamkcaaEach
namespace Go.Proofs.Ytfjighamaamkcaa
theorem own_lower {w : World} {base base' : Nat} {e : TypeId} {size n : Nat} {v : Value} {xs : List Value} (h : w.ownsRow base e size v n xs) (hb : base' ≤ base) : w.ownsRow base' e size v n xs := by
  refine ⟨h.1, ?_⟩
  rcases h.2 with h2 | ⟨g, cap, cur, rfl, hg, rest⟩
  · exact .inl h2
  · exact .inr ⟨g, cap, cur, rfl, Nat.le_trans hb hg, rest⟩
open Go.RowKit Go.Shelf
attribute [local go_sem] Oper.semAt_some

set_option maxRecDepth 100000 in
set_option maxHeartbeats 2000000 in
theorem all_in (s : ByteArray) (w : World) (hs : s.size ≤ 1099511627776) :
    CallsIn Fence.wide 3 Try.prog 17 #[.string s] w fun e w' => ∃ v, e = .returned (.tuple #[v, .int .i64 (allL s.data.toList).2]) ∧
      w'.ownsRow w.heap.size 9 1 v (allL s.data.toList).1.length (txts (allL s.data.toList).1) ∧ Below w.heap.size w w' := by
  obtain ⟨i0, hi, hz0, hz1, hz2⟩ := info_parts info9
  refine callsIn_of_wp_marks Try.func17 rfl trivial ?_ rfl
  simp only [Try.ntmps17, List.size_toArray, List.length_cons, List.length_nil, Nat.reduceAdd, Nat.reduceSub, Array.replicate_succ, Array.replicate_zero, List.push_toArray, List.append_toArray, List.nil_append, List.cons_append]
  gi_wp2_with fail
  refine ⟨trivial, (callsIn_wide.2 (each_any s _)).mono ?_⟩
  rintro e w1 ⟨rfl, rfl⟩
  gi_wp2_with fail
  have bO := Boxed.new w 35 (.slice none 0 0)
  have bA := Boxed.new (w.alloc (.cells #[.slice none 0 0] 35)) 3 (.int .i64 0)
  have bS := Boxed.new ((w.alloc (.cells #[.slice none 0 0] 35)).alloc (.cells #[.int .i64 0] 3)) 9 (.string s)
  simp only [World.size_alloc] at bA bS
  have hB0 : Below w.heap.size w (((w.alloc (.cells #[.slice none 0 0] 35)).alloc (.cells #[.int .i64 0] 3)).alloc (.cells #[.string s] 9)) := (((Below.refl _ w).alloc (Nat.le_refl _) _).alloc (by simp) _).alloc (by simp; omega) _
  refine wpIn_rangeFunc_ownG rfl (by omega) (gf := 29) (lb := #[.pointer (some ⟨w.heap.size + 1 + 1, 0, none⟩)]) rfl trivial (enters_of Try.func29 (by kernel_rfl) rfl)
    (each_stops 2 (by omega) (w.heap.size + 1 + 1) s hs _ bS.cell (by simp)) KeepB.trans (KeepB.putObj (by simp)) (Below.refl _ _) (fun _ => rfl)
    (fun (pre : List (Nat × List UInt8)) W => ((∃ v, Boxed W w.heap.size 35 v ∧ W.ownsRow (w.heap.size + 1 + 1 + 1) 9 1 v pre.length (txts (pre.map (·.2))) ∧ True) ∧ Boxed W (w.heap.size + 1) 3 (.int .i64 (lastEnd pre))) ∧ (Below w.heap.size w W ∧ w.heap.size + 1 + 1 < W.heap.size))
    (fun _ _ _ => False)
    (OwnFrom.and (OwnFrom.and (Own.from (holdsRow_own (w.heap.size + 1 + 1 + 1) w.heap.size 35 9 1 (fun (pre : List (Nat × List UInt8)) => pre.length) (fun pre => txts (pre.map (·.2))) (fun _ _ => True)) _) (Own.from (boxed_own (w.heap.size + 1) 3 (fun (pre : List (Nat × List UInt8)) => .int .i64 (lastEnd pre))) _)) (OwnFrom.and (ownFrom_below (Nat.le_refl _) (by simp; omega)) (fun _ _ _ _ hs hg _ => Nat.lt_of_lt_of_le hs hg.size)))
    (fun _ _ _ _ _ hs _ _ => hs)
    ⟨⟨⟨_, (bO.alloc _).alloc _, World.ownsRow_nil _ _ _ _, trivial⟩, bA.alloc _⟩, hB0, by simp⟩
    (fun (x : Nat × List UInt8) => { tmps := #[.string s, undef, .slice none 0 0, .int .i64 0, .pointer (some ⟨w.heap.size, 0, none⟩), .pointer (some ⟨w.heap.size + 1, 0, none⟩), .int .i64 x.1, .string (bs x.2), .string s, .func (.func 29) #[] #[.pointer (some ⟨w.heap.size + 1 + 1, 0, none⟩)], .int .i64 x.1, .string (bs x.2), undef, undef, undef, undef, undef, undef, undef], defers := [] }) ?assign ?body ?done ?stop
  case assign =>
    intro l x W K hK
    simp only [encE]
    gi_wp2
    exact hK
  case body =>
    rintro l pre x W ⟨⟨⟨v, hv, hrow, _⟩, hA⟩, hB, hl0⟩ hlt
    have hc := hv.cell
    have hca := hA.cell
    have hfa := hA.frozen
    have hsz := hA.lt
    have HB := Lib.hid hB; have HR := Lib.hid hrow; have HV := Lib.hid hv; have HA := Lib.hid hA
    clear hB hv hA
    gi_wp2_with (gi_at_builtin; refine wpListIn_append_own _ rfl _ _ 35 rfl (w.heap.size + 1 + 1 + 1) 9 i0 (.string ByteArray.empty) 1 16 Try.underlying35 hi hz0 hz1 hz2 rfl (by decide) _ _ _ rfl (hrow.alloc _) ⟨W.heap.size, 0, none⟩ 1 1 [.string (bs x.2)] rfl rfl (cell_one_new _ _ _) (by simp [Value.oneCell']) (by unfold maxLen; omega) (by omega) (by simp; omega) ?_; intro v' w1 hown' hgrow _; obtain ⟨g', cap', rfl⟩ := ownsRow_succ hown'; have HO := Lib.hid hown'; have HG : Hid ((W.alloc (.cells #[.string (bs x.2)] 9)).grownBy w1 v.ownBlock) := Lib.hid hgrow; clear hown' hgrow; have hA1 := (HA.out.alloc (.cells #[.string (bs x.2)] 9)).kept HG.out (HA.out.not_row (by decide) HR.out); have hV1 := (HV.out.alloc (.cells #[.string (bs x.2)] 9)).kept HG.out (HV.out.not_row (by decide) HR.out); have c1 := hA1.cell; have f1 := hA1.frozen; have c2 := hV1.cell; have f2 := hV1.frozen; have HA1 := Lib.hid hA1; have HV1 := Lib.hid hV1; clear hA1 hV1)
    have hb1 := own_base HR.out
    have hb2 := own_base HO.out
    have ko : ∀ j o, v.ownBlock = some j → (W.alloc (.cells #[.string (bs x.2)] 9)).heap[j]? = some o → o.isCells = true := fun j o ej hj => by
      rcases (HR.out.alloc (.cells #[.string (bs x.2)] 9)).2 with ⟨rfl, _⟩ | ⟨g, cap, cur, rfl, _, hgb, _⟩
      · simp [Value.ownBlock] at ej
      · obtain rfl : g = j := by simpa [Value.ownBlock] using ej
        rw [hgb] at hj; cases hj; rfl
    have hg' : (⟨g', 0, none⟩ : Addr).block = g' := rfl
    refine ⟨(((KeepsOthers.alloc W _).trans (KeepsOthers.of_grownBy HG.out ko)).trans ((KeepsOthers.setCell _ _ _).trans (KeepsOthers.setCell _ _ _))).from _, ?_, ⟨⟨.slice (some ⟨g', 0, none⟩) (pre.length + 1) cap', ?_, ?_, trivial⟩, ?_⟩, ?_⟩
    · have hs2 : w.heap.size + 1 + 1 < W.heap.size := by simpa using hl0
      refine (((KeepB.grown (World.grownBy_alloc W _ none) hs2 (by simp)).trans (KeepB.grown HG.out (by simp; omega) (fun e => ?_))).trans (KeepB.grown (grownBy_setCell' _ _ _) ?_ (by simp))).trans (KeepB.grown (grownBy_setCell' _ _ _) ?_ (by simp; omega))
      · have := hb1 _ e.symm; omega
      · have := HG.out.size; simp at this; omega
      · have := HG.out.size; simp at this; simp; omega
    · exact (HV1.out.other (by omega) _).set _
    · rw [List.length_append, List.map_append, List.map_cons, List.map_nil, txts_snoc]
      refine (HO.out.kept (grownBy_setCell' w1 _ _) (.inr ?_)).kept (grownBy_setCell' _ _ _) (.inr ?_)
      · intro e; have := hb2 _ e; omega
      · intro e; have := hb2 _ e; omega
    · rw [lastEnd_snoc]; exact (HA1.out.set _).other (by omega) _
    · refine ⟨?_, by have := HG.out.size; simp at this; simp; omega⟩
      refine (((HB.out.alloc HB.out.size _).grown HG.out (by simp; omega) (fun k e => by have := hb1 k e; omega)).setCell (by simp) _).setCell (by simp) _
  case done =>
    rintro D ys W hD hS ⟨⟨⟨v, hv, hrow, _⟩, hA⟩, hB, hl0⟩ hK
    have hc := hv.cell
    have hca := hA.cell
    gi_wp2
    gi_region
    all_goals gi_wp2
    all_goals refine ⟨by simp, .inl ⟨_, _, rfl, run_takeDeferred hK, ?_⟩⟩
    all_goals refine ⟨_, results_tmp2 rfl _ _ _, v, by rw [hS]; rfl, ?_, ?_⟩
    · rw [hS]
      have h1 := own_lower (base' := w.heap.size) hrow.drew (by omega)
      have h2 := ownsRow_putObj h1 (.deferred none) hK rfl
      simpa using h2
    · exact hB.drew.trans (belowK_b (w := w) (Nat.le_refl _) W.drew D _ _ (by simp at hD; omega) hK rfl rfl)
  case stop =>
    rintro D c pre W _ _ h _
    exact h.elim

theorem all_any (s : ByteArray) (w : World) (hs : s.size ≤ 1099511627776) :
    Calls Try.prog 17 #[.string s] w fun e w' => ∃ v, e = .returned (.tuple #[v, .int .i64 (allL s.data.toList).2]) ∧
      w'.ownsRow w.heap.size 9 1 v (allL s.data.toList).1.length (txts (allL s.data.toList).1) ∧ Below w.heap.size w w' :=
  callsIn_wide.1 (all_in s w hs)
