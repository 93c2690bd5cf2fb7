/-
  Texts of this session, merged in build order: Open, Ok4, Rtx0, Rtx1, Rtx2, Rtx3, Rtx, RefT, RefB, SealE2, Psx5, RdRow, LawNamed, Rsx0, Rsx1, Rsx, RefS, LawBack, RSealBack.
-/
import Derived.WalkKit
import Derived.ProofKit
import Derived.OpenShut
import Derived.ShutString
import Derived.ChangeOld
import Derived.Below
import Derived.SizedLaws
import Derived.SliceStrings
import Derived.Test.YtnhljemnebgekaaZC1
import Derived.Test.YtnhljemnebgekaaProg
import Derived.Deep.Draws
import Derived.Deep.AppendLies
import Derived.Maps.AppendAt
import Derived.OwnWalk
import Derived.Laws.BytesArg
import Derived.Laws.MakeOwn
import Derived.Laws.OwnMore
import Derived.Deep.OwnRows
import Derived.Tactics
import Derived.Lib.ConvBytes
import Derived.Laws.Slices
import Derived.KernelRfl
import Derived.RowKit3
import Derived.Deep.LoopGhost
import Derived.Deep.QuietTactic
import Derived.BigQuiet
import Derived.WideLaws
import Derived.Deep.DeepCutAuto
import Derived.Deep.CutBlock
import Derived.Deep.RegionHeld3
import Derived.Laws.Rows
import Derived.Lib.AppendStr
import Derived.ArgAppend
import Derived.Laws.IdiomCopy
import Derived.OrdersHeld
import Derived.Laws.BitsLemmas
import Derived.RowKit
import Derived.Test.YtnhljemnebgekaaZC0
import Derived.Test.YtnhljemnebgekaaWWords
import Derived.Test.YtnhljemnebgekaaWLast
import Derived.Test.YtnhljemnebgekaaWTab
import Derived.Test.YtnhljemnebgekaaWFour
import Derived.Test.YtnhljemnebgekaaWQPut
import Derived.Test.YtnhljemnebgekaaWApart
import Derived.Test.YtnhljemnebgekaaWArr
import Derived.Test.YtnhljemnebgekaaWZeros
import Derived.Test.YtnhljemnebgekaaWFoot
import Derived.Test.YtnhljemnebgekaaWKept
import Derived.Test.YtnhljemnebgekaaWShare
import Derived.Test.YtnhljemnebgekaaWN
import Derived.Test.YtnhljemnebgekaaWEqStruct
import Derived.Test.YtnhljemnebgekaaWRepsOne
import Derived.Test.YtnhljemnebgekaaWGuard
import Derived.Test.YtnhljemnebgekaaWNEv
import Derived.Test.YtnhljemnebgekaaWMore
import Derived.Test.YtnhljemnebgekaaRows
set_option linter.unusedVariables false
set_option linter.unusedSimpArgs false
/-
  What a law's arguments read as, in one form: a slice of bytes or of texts is a row of cells ('RowAt'), each no longer than the form's reach.
-/
namespace Go.Proofs.Ytnhljemnebgekaa
open Go.ChangeShapes Go.WideShapes Go.ChangeAt Go.RowKit

/-- The values lie in a row from a on. -/
def RowAt (W : World) (a : Option Addr) (vs : List Value) : Prop :=
  0 < vs.length → ∃ b off, a = some ⟨b, off, none⟩ ∧ b < W.heap.size ∧ ∀ i (h : i < vs.length), W.cell? ⟨b, off + i, none⟩ = some vs[i]
theorem RowAt.below {W W' : World} {a : Option Addr} {vs : List Value} (h : RowAt W a vs) (hb : Below W.heap.size W W') : RowAt W' a vs := fun hp => by
  obtain ⟨b, off, e, hlt, hc⟩ := h hp
  exact ⟨b, off, e, Nat.lt_of_lt_of_le hlt hb.size, fun i hi => (hb.cell (p := ⟨b, off + i, none⟩) hlt).trans (hc i hi)⟩

section
variable {H : Type} {enc : TypeId × Value → H} {P : Program} {W : World} {base : Nat} {spare : Nat → Bool} {held : Bool}
theorem weights_all_mem {e : TypeId} : ∀ {l : List (DataW H)} {d : DataW H}, d ∈ l → ∀ n ∈ d.weights P e, n ∈ DataW.weightsAll P e l
  | d0 :: l, d, hd, n, hn => by
    simp only [DataW.weightsAll, List.mem_append]
    rcases List.mem_cons.1 hd with rfl | hd
    · exact .inl hn
    · exact .inr (weights_all_mem hd n hn)
theorem row_of_cells {a : Addr} {vs : List Value} (hc : ∀ i (h : i < vs.length), W.cell? (a.add i) = some vs[i]) : RowAt W (some a) vs := fun hp => by
  have h0 := hc 0 hp
  obtain ⟨b, off, spot⟩ := a
  have hs : spot = none := by simpa [Addr.add] using World.cell?_spot h0
  subst hs
  refine ⟨b, off, rfl, ?_, fun i hi => ?_⟩
  · have := World.block_lt_of_cell? W _ h0
    simpa [Addr.add] using this
  · rw [← hc i hi]
    congr 1
    unfold Addr.add
    split <;> simp_all
/-- A slice of texts. -/
theorem open_strs {ts : List TypeId} {ds : List (DataW H)} {j : Nat} {t e : TypeId} {a : Option Addr} {len cap : Nat} {d : DataW H} {ps : List MemPlace}
    (hsz : (DataW.weightsEach P ts ds).all (· ≤ reachBytes) = true) (ht : ts[j]? = some t) (hd : ds[j]? = some d) (hu : P.underlying t = some (.slice e)) (he : P.underlying e = some .string) (hc : P.cellsOf e = 1) (hB : P.bytesOf e = 16)
    (h : DataW.Trod enc P W base spare held t (.slice a len cap) d ps) :
    ∃ ss : List ByteArray, ss.length = len ∧ RowAt W a (ss.map .string) ∧ (∀ s ∈ ss, s.size ≤ 140737488351232) ∧ len * 16 ≤ 140737488351232 := by
  obtain ⟨fuel, hf⟩ := h
  rcases open_strings hu he hc hf with ⟨hcs, _⟩ | ⟨x, l, c, zs, hcs, _, hl, _, hz, hx, hcell, _⟩
  · simp [Value.cells] at hcs
    obtain ⟨rfl, rfl, rfl⟩ := hcs
    exact ⟨[], rfl, (fun hp => absurd hp (by simp)), (by simp), by simp⟩
  · simp [Value.cells] at hcs
    obtain ⟨rfl, rfl, rfl⟩ := hcs
    obtain ⟨hx, _⟩ := Prod.mk.inj hx
    subst hx
    have hl2 : len ≤ zs.length := by
      rw [hz]
      split
      · exact hl
      · exact Nat.le_refl _
    have z := sized_slice hsz ht hd hu
    rw [hB] at z
    have h1 : (strs (H := H) (zs.take len)).length + (strs (H := H) (zs.drop len)).length = zs.length := by
      simp [strs]
      omega
    rw [h1] at z
    refine ⟨zs.take len, by simp; omega, row_of_cells fun i hi => ?_, fun s hs => ?_, Nat.le_trans (Nat.mul_le_mul_right _ hl2) z⟩
    · have hi' : i < zs.length := by simp at hi; omega
      rw [hcell i hi']
      simp [List.getD_eq_getElem?_getD, List.getElem?_eq_getElem hi']
    · have hm : (DataW.lit (.string s.data.toList) : DataW H) ∈ strs (H := H) (zs.take len) := List.mem_map.2 ⟨s, hs, rfl⟩
      have hn := weights_all_mem (P := P) (e := e) hm s.data.toList.length (by simp [DataW.weights])
      have hn2 : s.data.toList.length ∈ DataW.weights P t (.slice (strs (H := H) (zs.take len)) (strs (zs.drop len))) := by
        simp only [DataW.weights, hu, List.mem_cons, List.mem_append]
        exact .inr (.inl hn)
      have := List.all_eq_true.1 hsz _ (DataW.weights_mem_each ht hd _ hn2)
      rw [Array.length_toList] at this
      exact of_decide_eq_true this
/-- A slice of whole numbers. -/
theorem open_nums {ts : List TypeId} {ds : List (DataW H)} {j : Nat} {t e : TypeId} {k : IntKind} {a : Option Addr} {len cap : Nat} {d : DataW H} {ps : List MemPlace}
    (hsz : (DataW.weightsEach P ts ds).all (· ≤ reachBytes) = true) (ht : ts[j]? = some t) (hd : ds[j]? = some d) (hu : P.underlying t = some (.slice e)) (he : P.underlying e = some (.int k)) (hc : P.cellsOf e = 1) {B : Nat} (hB : P.bytesOf e = B)
    (h : DataW.Trod enc P W base spare held t (.slice a len cap) d ps) :
    ∃ zs : List Int, zs.length = len ∧ RowAt W a (zs.map (.int k)) ∧ (∀ z ∈ zs, (Lit.int k z).wf = true) ∧ len * B ≤ 140737488351232 ∧ len ≤ cap ∧ cap ≤ maxLen := by
  obtain ⟨fuel, hf⟩ := h
  rcases open_ints hu he hc hf with ⟨hcs, _⟩ | ⟨x, l, c, zs, hcs, _, hl, hm, hz, hx, hcell, hwf⟩
  · simp [Value.cells] at hcs
    obtain ⟨rfl, rfl, rfl⟩ := hcs
    exact ⟨[], rfl, (fun hp => absurd hp (by simp)), (by simp), by simp, by simp, by simp [maxLen]⟩
  · simp [Value.cells] at hcs
    obtain ⟨rfl, rfl, rfl⟩ := hcs
    obtain ⟨hx, _⟩ := Prod.mk.inj hx
    subst hx
    have hl2 : len ≤ zs.length := by
      rw [hz]
      split
      · exact hl
      · exact Nat.le_refl _
    have z := sized_slice hsz ht hd hu
    rw [hB] at z
    have h1 : (lits (H := H) k (zs.take len)).length + (lits (H := H) k (zs.drop len)).length = zs.length := by
      simp [lits]
      omega
    rw [h1] at z
    refine ⟨zs.take len, by simp; omega, row_of_cells fun i hi => ?_, fun s hs => hwf s (List.mem_of_mem_take hs), Nat.le_trans (Nat.mul_le_mul_right _ hl2) z, hl, hm⟩
    have hi' : i < zs.length := by simp at hi; omega
    rw [hcell i hi']
    simp [List.getD_eq_getElem?_getD, List.getElem?_eq_getElem hi']
end
theorem byte_wf {z : Int} (h : (Lit.int .u8 z).wf = true) : ∃ c : UInt8, z = (c.toNat : Int) := by
  have := bounds_u8 h
  refine ⟨UInt8.ofNat z.toNat, ?_⟩
  rw [UInt8.toNat_ofNat']
  omega
theorem bytes_wf : ∀ {zs : List Int}, (∀ z ∈ zs, (Lit.int .u8 z).wf = true) → ∃ l : List UInt8, zs = l.map fun c => (c.toNat : Int)
  | [], _ => ⟨[], rfl⟩
  | z :: zs, h => by
    obtain ⟨c, hc⟩ := byte_wf (h z (by simp))
    obtain ⟨l, hl⟩ := bytes_wf (zs := zs) (fun x hx => h x (by simp [hx]))
    exact ⟨c :: l, by rw [hc, hl]; rfl⟩
end Go.Proofs.Ytnhljemnebgekaa

/-
  Plain lists: when a text of signs alone is some bytes'.
-/
namespace Go.Proofs.Ytnhljemnebgekaa
open Go.RowKit Sha
def ok4 : List Nat → Bool
  | [] => true
  | [_] => false
  | [_, y] => y % 16 == 0
  | [_, _, z] => z % 4 == 0
  | _ :: _ :: _ :: _ :: t => ok4 t
theorem un4_ok : ∀ vs : List Nat, (∀ v ∈ vs, v < 64) → (un4 (vs.map sg)).isSome = ok4 vs
  | [], _ => rfl
  | [_], _ => rfl
  | [x, y], h => by
    simp only [List.map_cons, List.map_nil, un4, dg_sg x (h x (by simp)), dg_sg y (h y (by simp)), Option.bind_some, ok4]
    by_cases e : y % 16 = 0 <;> simp [e]
  | [x, y, z], h => by
    simp only [List.map_cons, List.map_nil, un4, dg_sg x (h x (by simp)), dg_sg y (h y (by simp)), dg_sg z (h z (by simp)), Option.bind_some, ok4]
    by_cases e : z % 4 = 0 <;> simp [e]
  | x :: y :: z :: u :: t, h => by
    have ih := un4_ok t (fun v hv => h v (by simp [hv]))
    simp only [List.map_cons, un4, dg_sg x (h x (by simp)), dg_sg y (h y (by simp)), dg_sg z (h z (by simp)), dg_sg u (h u (by simp)), Option.bind_some, ok4]
    rw [← ih]
    cases un4 (t.map sg) <;> rfl
def wantOf (n last : Nat) : Bool := if n % 4 = 1 then false else if n % 4 = 2 then last % 16 == 0 else if n % 4 = 3 then last % 4 == 0 else true
theorem ok_want : ∀ vs : List Nat, ok4 vs = wantOf vs.length (vs.getD (vs.length - 1) 0)
  | [] => rfl
  | [_] => rfl
  | [_, y] => rfl
  | [_, _, z] => rfl
  | x :: y :: z :: u :: t => by
    rw [ok4, ok_want t]
    unfold wantOf
    simp only [List.length_cons]
    have e : (t.length + 1 + 1 + 1 + 1) % 4 = t.length % 4 := by omega
    rw [e]
    by_cases h : t.length = 0
    · rw [h]; simp
    · have e2 : (x :: y :: z :: u :: t).getD (t.length + 1 + 1 + 1 + 1 - 1) 0 = t.getD (t.length - 1) 0 := by
        obtain ⟨m, hm⟩ : ∃ m, t.length = m + 1 := ⟨t.length - 1, by omega⟩
        rw [hm]
        rfl
      rw [e2]
theorem named1_signs (vs : List Nat) (h : ∀ v ∈ vs, v < 64) : named1 (un4 (vs.map sg)) = (wantOf vs.length (vs.getD (vs.length - 1) 0) && vs.length * 3 / 4 == 32) := by
  rw [← ok_want, ← un4_ok vs h]
  cases hu : un4 (vs.map sg) with
  | none => rfl
  | some y =>
    have := un4_length _ y hu
    rw [List.length_map] at this
    simp only [named1, Option.isSome_some, Bool.true_and]
    rw [Bool.eq_iff_iff]
    simp only [beq_iff_eq]
    omega
end Go.Proofs.Ytnhljemnebgekaa

/-
  What the functions of these laws compute, as plain Lean functions, and that the machine's calls compute it: written by this session's own hook over the kit's print.
-/
namespace Go.Proofs.Ytnhljemnebgekaa.Rt
open Go.RowKit Go.Proofs.YtnhljemnebgekaaW.PrintWords Go.Proofs.YtnhljemnebgekaaW.PrintLast Go.Proofs.YtnhljemnebgekaaW.PrintMore
attribute [local go_sem] u32_sg u32_mx u64_sg u64_mx
attribute [local go_sem] max2_int min2_int max_two min_two max_three min_three max_four min_four   -- for this text's walks alone
set_option linter.unusedVariables false
set_option linter.unusedSimpArgs false



def errW : Option Int → Value
  | none => .nilIface
  | some c => .iface 0 (.int .i64 c)
theorem errW_none : errW none = .nilIface := rfl
theorem errW_some (c : Int) : errW (some c) = .iface 0 (.int .i64 c) := rfl

theorem info5 : (Try.prog.info? 5).map (fun i => (i.zero, i.size, i.bytes)) = some (some (.int .u8 0), 1, 1) := by kernel_rfl
-- the values' own types

end Go.Proofs.Ytnhljemnebgekaa.Rt

/-
  What the functions of these laws compute, as plain Lean functions, and that the machine's calls compute it: written by this session's own hook over the kit's print.
-/
namespace Go.Proofs.Ytnhljemnebgekaa.Rt
open Go.RowKit Go.Proofs.YtnhljemnebgekaaW.PrintWords Go.Proofs.YtnhljemnebgekaaW.PrintLast Go.Proofs.YtnhljemnebgekaaW.PrintMore
attribute [local go_sem] u32_sg u32_mx u64_sg u64_mx
attribute [local go_sem] max2_int min2_int max_two min_two max_three min_three max_four min_four   -- for this text's walks alone
set_option linter.unusedVariables false
set_option linter.unusedSimpArgs false

/-! ### heliastref05_Text: function 12 -/
mutual
def heliastref05_Text.l0 : Nat → List Int → ByteArray → Int → Option (ByteArray)
  | 0, _, _, _ => none
  | k + 1, x0, x3, x4 => if x4 < (x0.length : Int) then (heliastref05_Text.l1 k x0 x3 x4 0 (mn (wrap64 ((x0.length : Int) - x4)) 3) 0) else (some x3)
def heliastref05_Text.l1 : Nat → List Int → ByteArray → Int → Int → Int → Int → Option (ByteArray)
  | 0, _, _, _, _, _, _ => none
  | k + 1, x0, x3, x4, x5, x6, x7 => if x7 < 3 then (if x7 < x6 then (if 0 ≤ (wrap64 (x4 + x7)) then (if (wrap64 (x4 + x7)) < (x0.length : Int) then (heliastref05_Text.l1 k x0 x3 x4 (wrap64 ((wrap64 (256 * x5)) + (wrap64 (rd x0 (wrap64 (x4 + x7)))))) x6 (wrap64 (x7 + 1))) else (none)) else (none)) else (heliastref05_Text.l1 k x0 x3 x4 (wrap64 (256 * x5)) x6 (wrap64 (x7 + 1)))) else (heliastref05_Text.l2 k x0 x3 x4 x5 x6 0)
def heliastref05_Text.l2 : Nat → List Int → ByteArray → Int → Int → Int → Int → Option (ByteArray)
  | 0, _, _, _, _, _, _ => none
  | k + 1, x0, x3, x4, x5, x6, x8 => if x8 ≤ x6 then (if 0 ≤ (IntKind.u64.wrap (wrap64 (18 - (wrap64 (6 * x8))))) then (if 0 ≤ (Int.tmod (shr .i64 x5 (IntKind.u64.wrap (wrap64 (18 - (wrap64 (6 * x8)))))) 64) then (if (Int.tmod (shr .i64 x5 (IntKind.u64.wrap (wrap64 (18 - (wrap64 (6 * x8)))))) 64) ≤ (wrap64 ((Int.tmod (shr .i64 x5 (IntKind.u64.wrap (wrap64 (18 - (wrap64 (6 * x8)))))) 64) + 1)) then (if (wrap64 ((Int.tmod (shr .i64 x5 (IntKind.u64.wrap (wrap64 (18 - (wrap64 (6 * x8)))))) 64) + 1)) ≤ 64 then (if x3.size + ((⟨#[65, 66, 67, 68, 69, 70, 71, 72, 73, 74, 75, 76, 77, 78, 79, 80, 81, 82, 83, 84, 85, 86, 87, 88, 89, 90, 97, 98, 99, 100, 101, 102, 103, 104, 105, 106, 107, 108, 109, 110, 111, 112, 113, 114, 115, 116, 117, 118, 119, 120, 121, 122, 48, 49, 50, 51, 52, 53, 54, 55, 56, 57, 45, 95]⟩ : ByteArray).extract ((Int.tmod (shr .i64 x5 (IntKind.u64.wrap (wrap64 (18 - (wrap64 (6 * x8)))))) 64) : Int).toNat ((wrap64 ((Int.tmod (shr .i64 x5 (IntKind.u64.wrap (wrap64 (18 - (wrap64 (6 * x8)))))) 64) + 1)) : Int).toNat).size ≤ 9223372036854775807 then (heliastref05_Text.l2 k x0 (x3 ++ ((⟨#[65, 66, 67, 68, 69, 70, 71, 72, 73, 74, 75, 76, 77, 78, 79, 80, 81, 82, 83, 84, 85, 86, 87, 88, 89, 90, 97, 98, 99, 100, 101, 102, 103, 104, 105, 106, 107, 108, 109, 110, 111, 112, 113, 114, 115, 116, 117, 118, 119, 120, 121, 122, 48, 49, 50, 51, 52, 53, 54, 55, 56, 57, 45, 95]⟩ : ByteArray).extract ((Int.tmod (shr .i64 x5 (IntKind.u64.wrap (wrap64 (18 - (wrap64 (6 * x8)))))) 64) : Int).toNat ((wrap64 ((Int.tmod (shr .i64 x5 (IntKind.u64.wrap (wrap64 (18 - (wrap64 (6 * x8)))))) 64) + 1)) : Int).toNat)) x4 x5 x6 (wrap64 (x8 + 1))) else (none)) else (none)) else (none)) else (none)) else (none)) else (heliastref05_Text.l0 k x0 x3 (wrap64 (x4 + 3)))
end
def heliastref05_Text.f (k : Nat) (l0 : List Int) : Option (ByteArray) := heliastref05_Text.l0 k l0 (⟨#[]⟩ : ByteArray) 0
theorem heliastref05_Text.mono_l : ∀ k, (∀ y0 y1 y2, LeO (heliastref05_Text.l0 k y0 y1 y2) (heliastref05_Text.l0 (k + 1) y0 y1 y2)) ∧ (∀ y0 y1 y2 y3 y4 y5, LeO (heliastref05_Text.l1 k y0 y1 y2 y3 y4 y5) (heliastref05_Text.l1 (k + 1) y0 y1 y2 y3 y4 y5)) ∧ (∀ y0 y1 y2 y3 y4 y5, LeO (heliastref05_Text.l2 k y0 y1 y2 y3 y4 y5) (heliastref05_Text.l2 (k + 1) y0 y1 y2 y3 y4 y5))
  | 0 => ⟨fun _ _ _ r h => by simp [heliastref05_Text.l0] at h, fun _ _ _ _ _ _ r h => by simp [heliastref05_Text.l1] at h, fun _ _ _ _ _ _ r h => by simp [heliastref05_Text.l2] at h⟩
  | k + 1 => by
    obtain ⟨ih0, ih1, ih2⟩ := heliastref05_Text.mono_l k
    refine ⟨?_, ?_, ?_⟩
    · intro y0 y1 y2
      unfold heliastref05_Text.l0
      repeat' first
      | (with_reducible exact ih0 _ _ _)
      | (with_reducible exact ih1 _ _ _ _ _ _)
      | (with_reducible exact ih2 _ _ _ _ _ _)
      | (with_reducible exact LeO.refl _)
      | (with_reducible exact LeO.none _)
      | (with_reducible refine LeO.ite ?_ ?_)
      | (with_reducible refine LeO.bind ?_ (fun _ => ?_))
      | exact ih0 _ _ _
      | exact ih1 _ _ _ _ _ _
      | exact ih2 _ _ _ _ _ _
      | exact LeO.none _
      | refine LeO.ite ?_ ?_
      | refine LeO.bind ?_ (fun _ => ?_)
    · intro y0 y1 y2 y3 y4 y5
      unfold heliastref05_Text.l1
      repeat' first
      | (with_reducible exact ih0 _ _ _)
      | (with_reducible exact ih1 _ _ _ _ _ _)
      | (with_reducible exact ih2 _ _ _ _ _ _)
      | (with_reducible exact LeO.refl _)
      | (with_reducible exact LeO.none _)
      | (with_reducible refine LeO.ite ?_ ?_)
      | (with_reducible refine LeO.bind ?_ (fun _ => ?_))
      | exact ih0 _ _ _
      | exact ih1 _ _ _ _ _ _
      | exact ih2 _ _ _ _ _ _
      | exact LeO.none _
      | refine LeO.ite ?_ ?_
      | refine LeO.bind ?_ (fun _ => ?_)
    · intro y0 y1 y2 y3 y4 y5
      unfold heliastref05_Text.l2
      repeat' first
      | (with_reducible exact ih0 _ _ _)
      | (with_reducible exact ih1 _ _ _ _ _ _)
      | (with_reducible exact ih2 _ _ _ _ _ _)
      | (with_reducible exact LeO.refl _)
      | (with_reducible exact LeO.none _)
      | (with_reducible refine LeO.ite ?_ ?_)
      | (with_reducible refine LeO.bind ?_ (fun _ => ?_))
      | exact ih0 _ _ _
      | exact ih1 _ _ _ _ _ _
      | exact ih2 _ _ _ _ _ _
      | exact LeO.none _
      | refine LeO.ite ?_ ?_
      | refine LeO.bind ?_ (fun _ => ?_)
theorem heliastref05_Text.mono : ∀ a0 k, LeO (heliastref05_Text.f k a0) (heliastref05_Text.f (k + 1) a0) := by
  intro a0 k
  obtain ⟨ih0, ih1, ih2⟩ := heliastref05_Text.mono_l k
  unfold heliastref05_Text.f
  repeat' first
      | (with_reducible exact ih0 _ _ _)
      | (with_reducible exact ih1 _ _ _ _ _ _)
      | (with_reducible exact ih2 _ _ _ _ _ _)
      | (with_reducible exact LeO.refl _)
      | (with_reducible exact LeO.none _)
      | (with_reducible refine LeO.ite ?_ ?_)
      | (with_reducible refine LeO.bind ?_ (fun _ => ?_))
      | exact ih0 _ _ _
      | exact ih1 _ _ _ _ _ _
      | exact ih2 _ _ _ _ _ _
      | exact LeO.none _
      | refine LeO.ite ?_ ?_
      | refine LeO.bind ?_ (fun _ => ?_)
set_option maxHeartbeats 8000000 in
set_option maxRecDepth 100000 in
theorem heliastref05_Text.calls (k : Nat) (A0 : Option Addr) (c0 : Nat) (l0 : List Int) (r : ByteArray) (w : World) (hr0 : Kd.C (Kd.int .u8) w A0 l0.length l0) (hc0 : l0.length ≤ c0) (h : heliastref05_Text.f k l0 = some r) :
    Calls Try.prog 12 #[.slice A0 l0.length c0] w fun e w' => e = .returned (.string r) ∧ Below w.heap.size w w' := by
  have HR0 := Aside0.mk hr0
  have HC0 := Aside0.mk hc0
  clear hr0 hc0
  have HB := Aside0.mk (Below.refl w.heap.size w)
  have H : (heliastref05_Text.l0 k l0 (⟨#[]⟩ : ByteArray) 0) = some r := h
  clear h
  have H' := Aside0.mk H
  clear H
  go_enter Try.func12, Try.ntmps12
  go_wp2
  go_loopg [3, 4] k (fun kq v3 v4 w' => ∃ (x3_1 : ByteArray) (x4_1 : Int), v3 = .string x3_1 ∧ v4 = .int .i64 x4_1 ∧ Aside0 (heliastref05_Text.l0 kq l0 x3_1 x4_1 = some r) ∧ Aside0 (kq ≤ k) ∧ Aside0 (Below w.heap.size w w'))
  case atStart => exact ⟨((⟨#[]⟩ : ByteArray)), (0), (by first | rfl | (simp; done) | (simp [*]; done)), (by first | rfl | (simp; done) | (simp [*]; done)), H', ⟨Nat.le_refl _⟩, ⟨by repeat (first | (with_reducible first | exact HB.out | apply below_alloc | apply pw_below_drewN | apply below_drew1) | exact HB.out)⟩⟩
  case round =>
    clear H'
    try clear c1
    obtain ⟨x3_1, x4_1, rfl, rfl, HA, HK1, HB⟩ := hrel
    cases gk with
    | zero => exact absurd HA.out (by simp [heliastref05_Text.l0])
    | succ k1 =>
      have H := HA.out
      clear HA
      simp only [heliastref05_Text.l0] at H
      by_cases c2 : x4_1 < (l0.length : Int)
      · rw [if_pos c2] at H
        have c2b0 : decide (x4_1 < (l0.length : Int)) = true := decide_eq_true c2
        clear c2
        obtain ⟨ji3, hji3⟩ : ∃ j_ : Int, (mn (wrap64 ((l0.length : Int) - x4_1)) 3) = j_ := ⟨_, rfl⟩
        replace H : (heliastref05_Text.l1 k1 l0 x3_1 x4_1 0 ji3 0) = some r := by first | (rw [hji3] at H; exact H) | (simp only [hji3] at H ⊢; exact H)
        have hji3_ : (if 3 < (wrap64 ((l0.length : Int) - x4_1)) then 3 else (wrap64 ((l0.length : Int) - x4_1))) = ji3 := hji3
        have H' := Aside0.mk H
        clear H
        go_wp2
        go_loopg [5, 7] k1 (fun kq v5 v7 w' => ∃ (x5_2 : Int) (x7_2 : Int), v5 = .int .i64 x5_2 ∧ v7 = .int .i64 x7_2 ∧ Aside0 (heliastref05_Text.l1 kq l0 x3_1 x4_1 x5_2 ji3 x7_2 = some r) ∧ Aside0 (kq ≤ k1) ∧ Aside0 (Below w.heap.size w w'))
        case atStart => exact ⟨(0), (0), (by first | rfl | (simp; done) | (simp [*]; done)), (by first | rfl | (simp; done) | (simp [*]; done)), H', ⟨Nat.le_refl _⟩, ⟨by repeat (first | (with_reducible first | exact HB.out | apply below_alloc | apply pw_below_drewN | apply below_drew1) | exact HB.out)⟩⟩
        case round =>
          clear H'
          try clear c1
          try clear c2
          try clear c2b0
          try clear p2
          obtain ⟨x5_2, x7_2, rfl, rfl, HA, HK2, HB⟩ := hrel
          cases gk with
          | zero => exact absurd HA.out (by simp [heliastref05_Text.l1])
          | succ k2 =>
            have H := HA.out
            clear HA
            simp only [heliastref05_Text.l1] at H
            by_cases c4 : x7_2 < 3
            · rw [if_pos c4] at H
              have c4b0 : decide (x7_2 < 3) = true := decide_eq_true c4
              clear c4
              by_cases c5 : x7_2 < ji3
              · rw [if_pos c5] at H
                have c5b0 : decide (x7_2 < ji3) = true := decide_eq_true c5
                clear c5
                obtain ⟨ji6, hji6⟩ : ∃ j_ : Int, (wrap64 (x4_1 + x7_2)) = j_ := ⟨_, rfl⟩
                replace H : (if 0 ≤ (ji6) then (if (ji6) < (l0.length : Int) then (heliastref05_Text.l1 k2 l0 x3_1 x4_1 (wrap64 ((wrap64 (256 * x5_2)) + (wrap64 (rd l0 (ji6))))) ji3 (wrap64 (x7_2 + 1))) else (none)) else (none)) = some r := by first | (rw [hji6] at H; exact H) | (simp only [hji6] at H ⊢; exact H)
                have hji6w : (IntKind.i64.wrap (x4_1 + x7_2)) = ji6 := (i64_w _).trans hji6
                by_cases c7 : 0 ≤ (ji6)
                · rw [if_pos c7] at H
                  have c7b0 : decide (0 ≤ (ji6)) = true := decide_eq_true c7
                  clear c7
                  by_cases c8 : (ji6) < (l0.length : Int)
                  · rw [if_pos c8] at H
                    have c8b0 : decide ((ji6) < (l0.length : Int)) = true := decide_eq_true c8
                    clear c8
                    have H' := Aside0.mk H
                    clear H
                    have p101 : 0 ≤ ((ji6) : Int) := of_decide_eq_true (by first | (with_reducible assumption) | assumption)
                    have q101 : (ji6) < (l0.length : Int) := of_decide_eq_true (by first | (with_reducible assumption) | assumption)
                    obtain ⟨ad101, e101, hx101_0⟩ := Kd.at_int HR0.out (ji6) p101 q101
                    cases e101
                    replace hx101_0 := (HB.out.cell (World.block_lt_of_cell? w _ hx101_0)).trans hx101_0
                    replace p101 := eq_true p101
                    replace q101 := eq_true q101
                    go_wp2
                    go_roundg k2
                    case measure => have := HK1.out; have := HK2.out; omega
                    case rel => exact ⟨(wrap64 ((wrap64 (256 * x5_2)) + (wrap64 (rd l0 (ji6))))), (wrap64 (x7_2 + 1)), (by first | rfl | (simp; done) | (simp only [← hji6] <;> (first | rfl | simp)) | (simp [*]; done)), (by first | rfl | (simp; done) | (simp [*]; done)), H', ⟨by have := HK1.out; have := HK2.out; omega⟩, ⟨by repeat (first | (with_reducible first | exact HB.out | apply below_alloc | apply pw_below_drewN | apply below_drew1) | exact HB.out)⟩⟩
                  · rw [if_neg c8] at H
                    exact absurd H (by simp)
                · rw [if_neg c7] at H
                  exact absurd H (by simp)
              · rw [if_neg c5] at H
                have c5b0 : decide (x7_2 < ji3) = false := decide_eq_false c5
                clear c5
                have H' := Aside0.mk H
                clear H
                go_wp2
                go_roundg k2
                case measure => have := HK1.out; have := HK2.out; omega
                case rel => exact ⟨(wrap64 (256 * x5_2)), (wrap64 (x7_2 + 1)), (by first | rfl | (simp; done) | (simp [*]; done)), (by first | rfl | (simp; done) | (simp [*]; done)), H', ⟨by have := HK1.out; have := HK2.out; omega⟩, ⟨by repeat (first | (with_reducible first | exact HB.out | apply below_alloc | apply pw_below_drewN | apply below_drew1) | exact HB.out)⟩⟩
            · rw [if_neg c4] at H
              have c4b0 : decide (x7_2 < 3) = false := decide_eq_false c4
              clear c4
              have H' := Aside0.mk H
              clear H
              go_wp2
              go_loopg [3, 8] k2 (fun kq v3 v8 w' => ∃ (x3_3 : ByteArray) (x8_3 : Int), v3 = .string x3_3 ∧ v8 = .int .i64 x8_3 ∧ Aside0 (heliastref05_Text.l2 kq l0 x3_3 x4_1 x5_2 ji3 x8_3 = some r) ∧ Aside0 (kq ≤ k2) ∧ Aside0 (Below w.heap.size w w'))
              case atStart => exact ⟨(x3_1), (0), (by first | rfl | (simp; done) | (simp [*]; done)), (by first | rfl | (simp; done) | (simp [*]; done)), H', ⟨Nat.le_refl _⟩, ⟨by repeat (first | (with_reducible first | exact HB.out | apply below_alloc | apply pw_below_drewN | apply below_drew1) | exact HB.out)⟩⟩
              case round =>
                clear H'
                try clear c1
                try clear p1
                try clear q1
                try clear hx1
                try clear c2
                try clear c2b0
                try clear p2
                try clear c4
                try clear c4b0
                try clear c5
                try clear c5b0
                try clear p6
                try clear c7
                try clear c7b0
                try clear c8
                try clear c8b0
                try clear hx101_0
                try clear p101
                try clear p2
                try clear q101
                obtain ⟨x3_3, x8_3, rfl, rfl, HA, HK3, HB⟩ := hrel
                cases gk with
                | zero => exact absurd HA.out (by simp [heliastref05_Text.l2])
                | succ k3 =>
                  have H := HA.out
                  clear HA
                  simp only [heliastref05_Text.l2] at H
                  by_cases c9 : x8_3 ≤ ji3
                  · rw [if_pos c9] at H
                    have c9b0 : decide (x8_3 ≤ ji3) = true := decide_eq_true c9
                    clear c9
                    obtain ⟨ji10, hji10⟩ : ∃ j_ : Int, (IntKind.u64.wrap (wrap64 (18 - (wrap64 (6 * x8_3))))) = j_ := ⟨_, rfl⟩
                    replace H : (if 0 ≤ (ji10) then (if 0 ≤ (Int.tmod (shr .i64 x5_2 (ji10)) 64) then (if (Int.tmod (shr .i64 x5_2 (ji10)) 64) ≤ (wrap64 ((Int.tmod (shr .i64 x5_2 (ji10)) 64) + 1)) then (if (wrap64 ((Int.tmod (shr .i64 x5_2 (ji10)) 64) + 1)) ≤ 64 then (if x3_3.size + ((⟨#[65, 66, 67, 68, 69, 70, 71, 72, 73, 74, 75, 76, 77, 78, 79, 80, 81, 82, 83, 84, 85, 86, 87, 88, 89, 90, 97, 98, 99, 100, 101, 102, 103, 104, 105, 106, 107, 108, 109, 110, 111, 112, 113, 114, 115, 116, 117, 118, 119, 120, 121, 122, 48, 49, 50, 51, 52, 53, 54, 55, 56, 57, 45, 95]⟩ : ByteArray).extract ((Int.tmod (shr .i64 x5_2 (ji10)) 64) : Int).toNat ((wrap64 ((Int.tmod (shr .i64 x5_2 (ji10)) 64) + 1)) : Int).toNat).size ≤ 9223372036854775807 then (heliastref05_Text.l2 k3 l0 (x3_3 ++ ((⟨#[65, 66, 67, 68, 69, 70, 71, 72, 73, 74, 75, 76, 77, 78, 79, 80, 81, 82, 83, 84, 85, 86, 87, 88, 89, 90, 97, 98, 99, 100, 101, 102, 103, 104, 105, 106, 107, 108, 109, 110, 111, 112, 113, 114, 115, 116, 117, 118, 119, 120, 121, 122, 48, 49, 50, 51, 52, 53, 54, 55, 56, 57, 45, 95]⟩ : ByteArray).extract ((Int.tmod (shr .i64 x5_2 (ji10)) 64) : Int).toNat ((wrap64 ((Int.tmod (shr .i64 x5_2 (ji10)) 64) + 1)) : Int).toNat)) x4_1 x5_2 ji3 (wrap64 (x8_3 + 1))) else (none)) else (none)) else (none)) else (none)) else (none)) = some r := by first | (rw [hji10] at H; exact H) | (simp only [hji10] at H ⊢; exact H)
                    by_cases c11 : 0 ≤ (ji10)
                    · rw [if_pos c11] at H
                      have c11b0 := eq_true c11
                      have c11b1 : decide (0 ≤ (ji10)) = true := decide_eq_true c11
                      clear c11
                      obtain ⟨ji12, hji12⟩ : ∃ j_ : Int, (shr .i64 x5_2 (ji10)) = j_ := ⟨_, rfl⟩
                      replace H : (if 0 ≤ (Int.tmod (ji12) 64) then (if (Int.tmod (ji12) 64) ≤ (wrap64 ((Int.tmod (ji12) 64) + 1)) then (if (wrap64 ((Int.tmod (ji12) 64) + 1)) ≤ 64 then (if x3_3.size + ((⟨#[65, 66, 67, 68, 69, 70, 71, 72, 73, 74, 75, 76, 77, 78, 79, 80, 81, 82, 83, 84, 85, 86, 87, 88, 89, 90, 97, 98, 99, 100, 101, 102, 103, 104, 105, 106, 107, 108, 109, 110, 111, 112, 113, 114, 115, 116, 117, 118, 119, 120, 121, 122, 48, 49, 50, 51, 52, 53, 54, 55, 56, 57, 45, 95]⟩ : ByteArray).extract ((Int.tmod (ji12) 64) : Int).toNat ((wrap64 ((Int.tmod (ji12) 64) + 1)) : Int).toNat).size ≤ 9223372036854775807 then (heliastref05_Text.l2 k3 l0 (x3_3 ++ ((⟨#[65, 66, 67, 68, 69, 70, 71, 72, 73, 74, 75, 76, 77, 78, 79, 80, 81, 82, 83, 84, 85, 86, 87, 88, 89, 90, 97, 98, 99, 100, 101, 102, 103, 104, 105, 106, 107, 108, 109, 110, 111, 112, 113, 114, 115, 116, 117, 118, 119, 120, 121, 122, 48, 49, 50, 51, 52, 53, 54, 55, 56, 57, 45, 95]⟩ : ByteArray).extract ((Int.tmod (ji12) 64) : Int).toNat ((wrap64 ((Int.tmod (ji12) 64) + 1)) : Int).toNat)) x4_1 x5_2 ji3 (wrap64 (x8_3 + 1))) else (none)) else (none)) else (none)) else (none)) = some r := by first | (rw [hji12] at H; exact H) | (simp only [hji12] at H ⊢; exact H)
                      have hji12_ : (x5_2 / 2 ^ min (ji10).toNat 64) = ji12 := hji12
                      have hji12z : (ji10) ≤ 64 → (x5_2 / 2 ^ (ji10).toNat) = ji12 := shr_small hji12
                      obtain ⟨ji13, hji13⟩ : ∃ j_ : Int, (Int.tmod (ji12) 64) = j_ := ⟨_, rfl⟩
                      replace H : (if 0 ≤ (ji13) then (if (ji13) ≤ (wrap64 ((ji13) + 1)) then (if (wrap64 ((ji13) + 1)) ≤ 64 then (if x3_3.size + ((⟨#[65, 66, 67, 68, 69, 70, 71, 72, 73, 74, 75, 76, 77, 78, 79, 80, 81, 82, 83, 84, 85, 86, 87, 88, 89, 90, 97, 98, 99, 100, 101, 102, 103, 104, 105, 106, 107, 108, 109, 110, 111, 112, 113, 114, 115, 116, 117, 118, 119, 120, 121, 122, 48, 49, 50, 51, 52, 53, 54, 55, 56, 57, 45, 95]⟩ : ByteArray).extract ((ji13) : Int).toNat ((wrap64 ((ji13) + 1)) : Int).toNat).size ≤ 9223372036854775807 then (heliastref05_Text.l2 k3 l0 (x3_3 ++ ((⟨#[65, 66, 67, 68, 69, 70, 71, 72, 73, 74, 75, 76, 77, 78, 79, 80, 81, 82, 83, 84, 85, 86, 87, 88, 89, 90, 97, 98, 99, 100, 101, 102, 103, 104, 105, 106, 107, 108, 109, 110, 111, 112, 113, 114, 115, 116, 117, 118, 119, 120, 121, 122, 48, 49, 50, 51, 52, 53, 54, 55, 56, 57, 45, 95]⟩ : ByteArray).extract ((ji13) : Int).toNat ((wrap64 ((ji13) + 1)) : Int).toNat)) x4_1 x5_2 ji3 (wrap64 (x8_3 + 1))) else (none)) else (none)) else (none)) else (none)) = some r := by first | (rw [hji13] at H; exact H) | (simp only [hji13] at H ⊢; exact H)
                      by_cases c14 : 0 ≤ (ji13)
                      · rw [if_pos c14] at H
                        have c14b0 := eq_true c14
                        have c14b1 : decide (0 ≤ (ji13)) = true := decide_eq_true c14
                        clear c14
                        by_cases c15 : (ji13) ≤ (wrap64 ((ji13) + 1))
                        · rw [if_pos c15] at H
                          have c15b0 := eq_true c15
                          have c15b1 : decide ((ji13) ≤ (wrap64 ((ji13) + 1))) = true := decide_eq_true c15
                          by_cases c16 : (wrap64 ((ji13) + 1)) ≤ 64
                          · rw [if_pos c16] at H
                            have c16b0 := eq_true c16
                            have c16b1 : decide ((wrap64 ((ji13) + 1)) ≤ 64) = true := decide_eq_true c16
                            by_cases c17 : x3_3.size + ((⟨#[65, 66, 67, 68, 69, 70, 71, 72, 73, 74, 75, 76, 77, 78, 79, 80, 81, 82, 83, 84, 85, 86, 87, 88, 89, 90, 97, 98, 99, 100, 101, 102, 103, 104, 105, 106, 107, 108, 109, 110, 111, 112, 113, 114, 115, 116, 117, 118, 119, 120, 121, 122, 48, 49, 50, 51, 52, 53, 54, 55, 56, 57, 45, 95]⟩ : ByteArray).extract ((ji13) : Int).toNat ((wrap64 ((ji13) + 1)) : Int).toNat).size ≤ 9223372036854775807
                            · rw [if_pos c17] at H
                              have c17b0 := eq_true c17
                              have c17b1 : decide (x3_3.size + ((⟨#[65, 66, 67, 68, 69, 70, 71, 72, 73, 74, 75, 76, 77, 78, 79, 80, 81, 82, 83, 84, 85, 86, 87, 88, 89, 90, 97, 98, 99, 100, 101, 102, 103, 104, 105, 106, 107, 108, 109, 110, 111, 112, 113, 114, 115, 116, 117, 118, 119, 120, 121, 122, 48, 49, 50, 51, 52, 53, 54, 55, 56, 57, 45, 95]⟩ : ByteArray).extract ((ji13) : Int).toNat ((wrap64 ((ji13) + 1)) : Int).toNat).size ≤ 9223372036854775807) = true := decide_eq_true c17
                              try have c17b2 : (9223372036854775807 < x3_3.size + ((⟨#[65, 66, 67, 68, 69, 70, 71, 72, 73, 74, 75, 76, 77, 78, 79, 80, 81, 82, 83, 84, 85, 86, 87, 88, 89, 90, 97, 98, 99, 100, 101, 102, 103, 104, 105, 106, 107, 108, 109, 110, 111, 112, 113, 114, 115, 116, 117, 118, 119, 120, 121, 122, 48, 49, 50, 51, 52, 53, 54, 55, 56, 57, 45, 95]⟩ : ByteArray).extract ((ji13) : Int).toNat ((wrap64 ((ji13) + 1)) : Int).toNat).size) = False := eq_false (Nat.not_lt.2 c17)
                              try have c17b3 : (9223372036854775807 < x3_3.size + (((wrap64 ((ji13) + 1)) : Int).toNat - ((ji13) : Int).toNat)) = False := eq_false (by have hS_ := c17; have hE_ : ((⟨#[65, 66, 67, 68, 69, 70, 71, 72, 73, 74, 75, 76, 77, 78, 79, 80, 81, 82, 83, 84, 85, 86, 87, 88, 89, 90, 97, 98, 99, 100, 101, 102, 103, 104, 105, 106, 107, 108, 109, 110, 111, 112, 113, 114, 115, 116, 117, 118, 119, 120, 121, 122, 48, 49, 50, 51, 52, 53, 54, 55, 56, 57, 45, 95]⟩ : ByteArray).extract ((ji13) : Int).toNat ((wrap64 ((ji13) + 1)) : Int).toNat).size = min ((wrap64 ((ji13) + 1)) : Int).toNat 64 - ((ji13) : Int).toNat := ByteArray.size_extract; omega)
                              have H' := Aside0.mk H
                              clear H
                              go_wp2
                              go_roundg k3
                              case measure => have := HK1.out; have := HK2.out; have := HK3.out; omega
                              case rel => exact ⟨(x3_3 ++ ((⟨#[65, 66, 67, 68, 69, 70, 71, 72, 73, 74, 75, 76, 77, 78, 79, 80, 81, 82, 83, 84, 85, 86, 87, 88, 89, 90, 97, 98, 99, 100, 101, 102, 103, 104, 105, 106, 107, 108, 109, 110, 111, 112, 113, 114, 115, 116, 117, 118, 119, 120, 121, 122, 48, 49, 50, 51, 52, 53, 54, 55, 56, 57, 45, 95]⟩ : ByteArray).extract ((ji13) : Int).toNat ((wrap64 ((ji13) + 1)) : Int).toNat)), (wrap64 (x8_3 + 1)), (by first | rfl | (simp; done) | (simp only [← hji13] <;> (first | rfl | simp)) | (simp [*]; done)), (by first | rfl | (simp; done) | (simp [*]; done)), H', ⟨by have := HK1.out; have := HK2.out; have := HK3.out; omega⟩, ⟨by repeat (first | (with_reducible first | exact HB.out | apply below_alloc | apply pw_below_drewN | apply below_drew1) | exact HB.out)⟩⟩
                            · rw [if_neg c17] at H
                              exact absurd H (by simp)
                          · rw [if_neg c16] at H
                            exact absurd H (by simp)
                        · rw [if_neg c15] at H
                          exact absurd H (by simp)
                      · rw [if_neg c14] at H
                        exact absurd H (by simp)
                    · rw [if_neg c11] at H
                      exact absurd H (by simp)
                  · rw [if_neg c9] at H
                    have c9b0 : decide (x8_3 ≤ ji3) = false := decide_eq_false c9
                    clear c9
                    have H' := Aside0.mk H
                    clear H
                    go_wp2
                    go_roundg k3
                    case measure => have := HK1.out; have := HK2.out; have := HK3.out; omega
                    case rel => exact ⟨(x3_3), (wrap64 (x4_1 + 3)), (by first | rfl | (simp; done) | (simp [*]; done)), (by first | rfl | (simp; done) | (simp [*]; done)), H', ⟨by have := HK1.out; have := HK2.out; have := HK3.out; omega⟩, ⟨by repeat (first | (with_reducible first | exact HB.out | apply below_alloc | apply pw_below_drewN | apply below_drew1) | exact HB.out)⟩⟩
      · rw [if_neg c2] at H
        have c2b0 : decide (x4_1 < (l0.length : Int)) = false := decide_eq_false c2
        clear c2
        obtain rfl := Option.some.inj H
        go_wp2
        go_ret
        exact ⟨by first | rfl | (simp [errW_none, errW_some] <;> rfl) | (simp [*, errW_none, errW_some] <;> rfl), by repeat (first | (with_reducible first | exact HB.out | apply below_alloc | apply pw_below_drewN | apply below_drew1) | exact HB.out)⟩

end Go.Proofs.Ytnhljemnebgekaa.Rt

/-
  What the functions of these laws compute, as plain Lean functions, and that the machine's calls compute it: written by this session's own hook over the kit's print.
-/
namespace Go.Proofs.Ytnhljemnebgekaa.Rt
open Go.RowKit Go.Proofs.YtnhljemnebgekaaW.PrintWords Go.Proofs.YtnhljemnebgekaaW.PrintLast Go.Proofs.YtnhljemnebgekaaW.PrintMore
attribute [local go_sem] u32_sg u32_mx u64_sg u64_mx
attribute [local go_sem] max2_int min2_int max_two min_two max_three min_three max_four min_four   -- for this text's walks alone
set_option linter.unusedVariables false
set_option linter.unusedSimpArgs false

/-! ### heliastref05_sign: function 42 -/
def heliastref05_sign.l0 : Nat → Int → Int → Option (Int)
  | 0, _, _ => none
  | k + 1, x0, x3 => if x3 < 64 then (if 0 ≤ x3 then (if (bt (⟨#[65, 66, 67, 68, 69, 70, 71, 72, 73, 74, 75, 76, 77, 78, 79, 80, 81, 82, 83, 84, 85, 86, 87, 88, 89, 90, 97, 98, 99, 100, 101, 102, 103, 104, 105, 106, 107, 108, 109, 110, 111, 112, 113, 114, 115, 116, 117, 118, 119, 120, 121, 122, 48, 49, 50, 51, 52, 53, 54, 55, 56, 57, 45, 95]⟩ : ByteArray) x3) = x0 then (some x3) else (heliastref05_sign.l0 k x0 (wrap64 (x3 + 1)))) else (none)) else (some (-1))
def heliastref05_sign.f (k : Nat) (a0 : Int) : Option (Int) := heliastref05_sign.l0 k a0 0
theorem heliastref05_sign.mono_l : ∀ k, (∀ y0 y1, LeO (heliastref05_sign.l0 k y0 y1) (heliastref05_sign.l0 (k + 1) y0 y1))
  | 0 => fun _ _ r h => by simp [heliastref05_sign.l0] at h
  | k + 1 => by
    have ih0 := heliastref05_sign.mono_l k
    · intro y0 y1
      unfold heliastref05_sign.l0
      repeat' first
      | (with_reducible exact ih0 _ _)
      | (with_reducible exact LeO.refl _)
      | (with_reducible exact LeO.none _)
      | (with_reducible refine LeO.ite ?_ ?_)
      | (with_reducible refine LeO.bind ?_ (fun _ => ?_))
      | exact ih0 _ _
      | exact LeO.none _
      | refine LeO.ite ?_ ?_
      | refine LeO.bind ?_ (fun _ => ?_)
theorem heliastref05_sign.mono : ∀ a0 k, LeO (heliastref05_sign.f k a0) (heliastref05_sign.f (k + 1) a0) := by
  intro a0 k
  have ih0 := heliastref05_sign.mono_l k
  unfold heliastref05_sign.f
  repeat' first
      | (with_reducible exact ih0 _ _)
      | (with_reducible exact LeO.refl _)
      | (with_reducible exact LeO.none _)
      | (with_reducible refine LeO.ite ?_ ?_)
      | (with_reducible refine LeO.bind ?_ (fun _ => ?_))
      | exact ih0 _ _
      | exact LeO.none _
      | refine LeO.ite ?_ ?_
      | refine LeO.bind ?_ (fun _ => ?_)
set_option maxHeartbeats 8000000 in
set_option maxRecDepth 100000 in
theorem heliastref05_sign.calls (k : Nat) (a0 : Int) (r : Int) (w : World) (h : heliastref05_sign.f k a0 = some r) :
    Calls Try.prog 42 #[.int .u8 a0] w fun e w' => e = .returned (.int .i64 r) ∧ Drawn0 w w' := by
  have H : (heliastref05_sign.l0 k a0 0) = some r := h
  clear h
  have H' := Aside0.mk H
  clear H
  go_enter Try.func42, Try.ntmps42
  go_wp2
  go_loopg [3] k (fun kq v3 w' => ∃ (x3_1 : Int), v3 = .int .i64 x3_1 ∧ Aside0 (heliastref05_sign.l0 kq a0 x3_1 = some r) ∧ Aside0 (kq ≤ k) ∧ Drawn0 w w')
  case atStart => exact ⟨(0), (by first | rfl | (simp; done) | (simp [*]; done)), H', ⟨Nat.le_refl _⟩, by repeat (first | exact Drawn0.refl _ | apply Drawn0.step)⟩
  case round =>
    clear H'
    obtain ⟨x3_1, rfl, HA, HK1, ⟨m1, rfl⟩⟩ := hrel
    cases gk with
    | zero => exact absurd HA.out (by simp [heliastref05_sign.l0])
    | succ k1 =>
      have H := HA.out
      clear HA
      simp only [heliastref05_sign.l0] at H
      by_cases c2 : x3_1 < 64
      · rw [if_pos c2] at H
        have c2b0 : decide (x3_1 < 64) = true := decide_eq_true c2
        clear c2
        by_cases c3 : 0 ≤ x3_1
        · rw [if_pos c3] at H
          have c3b0 : decide (0 ≤ x3_1) = true := decide_eq_true c3
          clear c3
          by_cases c5 : (bt (⟨#[65, 66, 67, 68, 69, 70, 71, 72, 73, 74, 75, 76, 77, 78, 79, 80, 81, 82, 83, 84, 85, 86, 87, 88, 89, 90, 97, 98, 99, 100, 101, 102, 103, 104, 105, 106, 107, 108, 109, 110, 111, 112, 113, 114, 115, 116, 117, 118, 119, 120, 121, 122, 48, 49, 50, 51, 52, 53, 54, 55, 56, 57, 45, 95]⟩ : ByteArray) x3_1) = a0
          · rw [if_pos c5] at H
            have c5b0 : ((bt (⟨#[65, 66, 67, 68, 69, 70, 71, 72, 73, 74, 75, 76, 77, 78, 79, 80, 81, 82, 83, 84, 85, 86, 87, 88, 89, 90, 97, 98, 99, 100, 101, 102, 103, 104, 105, 106, 107, 108, 109, 110, 111, 112, 113, 114, 115, 116, 117, 118, 119, 120, 121, 122, 48, 49, 50, 51, 52, 53, 54, 55, 56, 57, 45, 95]⟩ : ByteArray) x3_1) == a0) = true := beq_iff_eq.mpr c5
            have c5b1 : ((bt (⟨#[65, 66, 67, 68, 69, 70, 71, 72, 73, 74, 75, 76, 77, 78, 79, 80, 81, 82, 83, 84, 85, 86, 87, 88, 89, 90, 97, 98, 99, 100, 101, 102, 103, 104, 105, 106, 107, 108, 109, 110, 111, 112, 113, 114, 115, 116, 117, 118, 119, 120, 121, 122, 48, 49, 50, 51, 52, 53, 54, 55, 56, 57, 45, 95]⟩ : ByteArray) x3_1) != a0) = false := bne_eq_false_iff_eq.mpr c5
            clear c5
            obtain rfl := Option.some.inj H
            have p4 : 0 ≤ (x3_1 : Int) := of_decide_eq_true (by first | (with_reducible assumption) | assumption)
            have q4 : x3_1 < (64 : Int) := of_decide_eq_true (by first | (with_reducible assumption) | assumption)
            have hx4 := bt_at (⟨#[65, 66, 67, 68, 69, 70, 71, 72, 73, 74, 75, 76, 77, 78, 79, 80, 81, 82, 83, 84, 85, 86, 87, 88, 89, 90, 97, 98, 99, 100, 101, 102, 103, 104, 105, 106, 107, 108, 109, 110, 111, 112, 113, 114, 115, 116, 117, 118, 119, 120, 121, 122, 48, 49, 50, 51, 52, 53, 54, 55, 56, 57, 45, 95]⟩ : ByteArray) x3_1
            replace p4 := eq_true p4
            replace q4 := eq_true q4
            go_wp2
            go_ret
            exact ⟨by first | rfl | (simp; done) | (simp [*]; done), by repeat (first | exact Drawn0.refl _ | apply Drawn0.step)⟩
          · rw [if_neg c5] at H
            have c5b0 : ((bt (⟨#[65, 66, 67, 68, 69, 70, 71, 72, 73, 74, 75, 76, 77, 78, 79, 80, 81, 82, 83, 84, 85, 86, 87, 88, 89, 90, 97, 98, 99, 100, 101, 102, 103, 104, 105, 106, 107, 108, 109, 110, 111, 112, 113, 114, 115, 116, 117, 118, 119, 120, 121, 122, 48, 49, 50, 51, 52, 53, 54, 55, 56, 57, 45, 95]⟩ : ByteArray) x3_1) == a0) = false := beq_eq_false_iff_ne.mpr c5
            have c5b1 : ((bt (⟨#[65, 66, 67, 68, 69, 70, 71, 72, 73, 74, 75, 76, 77, 78, 79, 80, 81, 82, 83, 84, 85, 86, 87, 88, 89, 90, 97, 98, 99, 100, 101, 102, 103, 104, 105, 106, 107, 108, 109, 110, 111, 112, 113, 114, 115, 116, 117, 118, 119, 120, 121, 122, 48, 49, 50, 51, 52, 53, 54, 55, 56, 57, 45, 95]⟩ : ByteArray) x3_1) != a0) = true := bne_iff_ne.mpr c5
            have H' := Aside0.mk H
            clear H
            have p4 : 0 ≤ (x3_1 : Int) := of_decide_eq_true (by first | (with_reducible assumption) | assumption)
            have q4 : x3_1 < (64 : Int) := of_decide_eq_true (by first | (with_reducible assumption) | assumption)
            have hx4 := bt_at (⟨#[65, 66, 67, 68, 69, 70, 71, 72, 73, 74, 75, 76, 77, 78, 79, 80, 81, 82, 83, 84, 85, 86, 87, 88, 89, 90, 97, 98, 99, 100, 101, 102, 103, 104, 105, 106, 107, 108, 109, 110, 111, 112, 113, 114, 115, 116, 117, 118, 119, 120, 121, 122, 48, 49, 50, 51, 52, 53, 54, 55, 56, 57, 45, 95]⟩ : ByteArray) x3_1
            replace p4 := eq_true p4
            replace q4 := eq_true q4
            go_wp2
            go_roundg k1
            case measure => have := HK1.out; omega
            case rel => exact ⟨(wrap64 (x3_1 + 1)), (by first | rfl | (simp; done) | (simp [*]; done)), H', ⟨by have := HK1.out; omega⟩, by repeat (first | exact Drawn0.refl _ | apply Drawn0.step)⟩
        · rw [if_neg c3] at H
          exact absurd H (by simp)
      · rw [if_neg c2] at H
        have c2b0 : decide (x3_1 < 64) = false := decide_eq_false c2
        clear c2
        obtain rfl := Option.some.inj H
        go_wp2
        go_ret
        exact ⟨by first | rfl | (simp; done) | (simp [*]; done), by repeat (first | exact Drawn0.refl _ | apply Drawn0.step)⟩

end Go.Proofs.Ytnhljemnebgekaa.Rt

/-
  What the functions of these laws compute, as plain Lean functions, and that the machine's calls compute it: written by this session's own hook over the kit's print.
-/
namespace Go.Proofs.Ytnhljemnebgekaa.Rt
open Go.RowKit Go.Proofs.YtnhljemnebgekaaW.PrintWords Go.Proofs.YtnhljemnebgekaaW.PrintLast Go.Proofs.YtnhljemnebgekaaW.PrintMore
attribute [local go_sem] u32_sg u32_mx u64_sg u64_mx
attribute [local go_sem] max2_int min2_int max_two min_two max_three min_three max_four min_four   -- for this text's walks alone
set_option linter.unusedVariables false
set_option linter.unusedSimpArgs false

/-! ### heliastref05_Bytes: function 30 -/
mutual
def heliastref05_Bytes.l0 : Nat → ByteArray → List Int → Int → Option (List Int × Bool)
  | 0, _, _, _ => none
  | k + 1, x0, x4, x5 => if x5 < (x0.size : Int) then (heliastref05_Bytes.l1 k x0 x4 x5 (mn (wrap64 ((x0.size : Int) - x5)) 4) 0 0) else ((heliastref05_Text.f k x4).bind fun t102 => (if t102.toList = x0.toList then (some (x4, true)) else (some (([] : List Int), false))))
def heliastref05_Bytes.l1 : Nat → ByteArray → List Int → Int → Int → Int → Int → Option (List Int × Bool)
  | 0, _, _, _, _, _, _ => none
  | k + 1, x0, x4, x5, x6, x7, x8 => if x8 < 4 then (if x8 < x6 then (if 0 ≤ (wrap64 (x5 + x8)) then (if (wrap64 (x5 + x8)) < (x0.size : Int) then ((heliastref05_sign.f k (bt x0 (wrap64 (x5 + x8)))).bind fun t103 => (if t103 < 0 then (some (([] : List Int), false)) else (heliastref05_Bytes.l1 k x0 x4 x5 x6 (wrap64 ((wrap64 (64 * x7)) + t103)) (wrap64 (x8 + 1))))) else (none)) else (none)) else (if 0 < 0 then (some (([] : List Int), false)) else (heliastref05_Bytes.l1 k x0 x4 x5 x6 (wrap64 ((wrap64 (64 * x7)) + 0)) (wrap64 (x8 + 1))))) else (heliastref05_Bytes.l2 k x0 x4 x5 x6 x7 0)
def heliastref05_Bytes.l2 : Nat → ByteArray → List Int → Int → Int → Int → Int → Option (List Int × Bool)
  | 0, _, _, _, _, _, _ => none
  | k + 1, x0, x4, x5, x6, x7, x10 => if x10 < (wrap64 (x6 - 1)) then (if 0 ≤ (IntKind.u64.wrap (wrap64 (16 - (wrap64 (8 * x10))))) then (if x4.length < 140737488355328 then (heliastref05_Bytes.l2 k x0 (x4 ++ [(shr .i64 x7 (IntKind.u64.wrap (wrap64 (16 - (wrap64 (8 * x10)))))) % 256]) x5 x6 x7 (wrap64 (x10 + 1))) else (none)) else (none)) else (heliastref05_Bytes.l0 k x0 x4 (wrap64 (x5 + 4)))
end
def heliastref05_Bytes.f (k : Nat) (a0 : ByteArray) : Option (List Int × Bool) := heliastref05_Bytes.l0 k a0 ([] : List Int) 0
theorem heliastref05_Bytes.mono_l : ∀ k, (∀ y0 y1 y2, LeO (heliastref05_Bytes.l0 k y0 y1 y2) (heliastref05_Bytes.l0 (k + 1) y0 y1 y2)) ∧ (∀ y0 y1 y2 y3 y4 y5, LeO (heliastref05_Bytes.l1 k y0 y1 y2 y3 y4 y5) (heliastref05_Bytes.l1 (k + 1) y0 y1 y2 y3 y4 y5)) ∧ (∀ y0 y1 y2 y3 y4 y5, LeO (heliastref05_Bytes.l2 k y0 y1 y2 y3 y4 y5) (heliastref05_Bytes.l2 (k + 1) y0 y1 y2 y3 y4 y5))
  | 0 => ⟨fun _ _ _ r h => by simp [heliastref05_Bytes.l0] at h, fun _ _ _ _ _ _ r h => by simp [heliastref05_Bytes.l1] at h, fun _ _ _ _ _ _ r h => by simp [heliastref05_Bytes.l2] at h⟩
  | k + 1 => by
    obtain ⟨ih0, ih1, ih2⟩ := heliastref05_Bytes.mono_l k
    refine ⟨?_, ?_, ?_⟩
    · intro y0 y1 y2
      unfold heliastref05_Bytes.l0
      repeat' first
      | (with_reducible exact ih0 _ _ _)
      | (with_reducible exact ih1 _ _ _ _ _ _)
      | (with_reducible exact ih2 _ _ _ _ _ _)
      | (with_reducible exact heliastref05_Text.mono _ _)
      | (with_reducible exact heliastref05_sign.mono _ _)
      | (with_reducible exact LeO.refl _)
      | (with_reducible exact LeO.none _)
      | (with_reducible refine LeO.ite ?_ ?_)
      | (with_reducible refine LeO.bind ?_ (fun _ => ?_))
      | exact ih0 _ _ _
      | exact ih1 _ _ _ _ _ _
      | exact ih2 _ _ _ _ _ _
      | exact heliastref05_Text.mono _ _
      | exact heliastref05_sign.mono _ _
      | exact LeO.none _
      | refine LeO.ite ?_ ?_
      | refine LeO.bind ?_ (fun _ => ?_)
    · intro y0 y1 y2 y3 y4 y5
      unfold heliastref05_Bytes.l1
      repeat' first
      | (with_reducible exact ih0 _ _ _)
      | (with_reducible exact ih1 _ _ _ _ _ _)
      | (with_reducible exact ih2 _ _ _ _ _ _)
      | (with_reducible exact heliastref05_Text.mono _ _)
      | (with_reducible exact heliastref05_sign.mono _ _)
      | (with_reducible exact LeO.refl _)
      | (with_reducible exact LeO.none _)
      | (with_reducible refine LeO.ite ?_ ?_)
      | (with_reducible refine LeO.bind ?_ (fun _ => ?_))
      | exact ih0 _ _ _
      | exact ih1 _ _ _ _ _ _
      | exact ih2 _ _ _ _ _ _
      | exact heliastref05_Text.mono _ _
      | exact heliastref05_sign.mono _ _
      | exact LeO.none _
      | refine LeO.ite ?_ ?_
      | refine LeO.bind ?_ (fun _ => ?_)
    · intro y0 y1 y2 y3 y4 y5
      unfold heliastref05_Bytes.l2
      repeat' first
      | (with_reducible exact ih0 _ _ _)
      | (with_reducible exact ih1 _ _ _ _ _ _)
      | (with_reducible exact ih2 _ _ _ _ _ _)
      | (with_reducible exact heliastref05_Text.mono _ _)
      | (with_reducible exact heliastref05_sign.mono _ _)
      | (with_reducible exact LeO.refl _)
      | (with_reducible exact LeO.none _)
      | (with_reducible refine LeO.ite ?_ ?_)
      | (with_reducible refine LeO.bind ?_ (fun _ => ?_))
      | exact ih0 _ _ _
      | exact ih1 _ _ _ _ _ _
      | exact ih2 _ _ _ _ _ _
      | exact heliastref05_Text.mono _ _
      | exact heliastref05_sign.mono _ _
      | exact LeO.none _
      | refine LeO.ite ?_ ?_
      | refine LeO.bind ?_ (fun _ => ?_)
theorem heliastref05_Bytes.mono : ∀ a0 k, LeO (heliastref05_Bytes.f k a0) (heliastref05_Bytes.f (k + 1) a0) := by
  intro a0 k
  obtain ⟨ih0, ih1, ih2⟩ := heliastref05_Bytes.mono_l k
  unfold heliastref05_Bytes.f
  repeat' first
      | (with_reducible exact ih0 _ _ _)
      | (with_reducible exact ih1 _ _ _ _ _ _)
      | (with_reducible exact ih2 _ _ _ _ _ _)
      | (with_reducible exact heliastref05_Text.mono _ _)
      | (with_reducible exact heliastref05_sign.mono _ _)
      | (with_reducible exact LeO.refl _)
      | (with_reducible exact LeO.none _)
      | (with_reducible refine LeO.ite ?_ ?_)
      | (with_reducible refine LeO.bind ?_ (fun _ => ?_))
      | exact ih0 _ _ _
      | exact ih1 _ _ _ _ _ _
      | exact ih2 _ _ _ _ _ _
      | exact heliastref05_Text.mono _ _
      | exact heliastref05_sign.mono _ _
      | exact LeO.none _
      | refine LeO.ite ?_ ?_
      | refine LeO.bind ?_ (fun _ => ?_)
set_option maxHeartbeats 8000000 in
set_option maxRecDepth 100000 in
theorem heliastref05_Bytes.calls (k : Nat) (a0 : ByteArray) (r1 : List Int) (r2 : Bool) (w : World) (h : heliastref05_Bytes.f k a0 = some (r1, r2)) :
    Calls Try.prog 30 #[.string a0] w fun e w' => ∃ v0_ : Value, e = .returned (.tuple #[v0_, .bool r2]) ∧ Kd.R (Kd.int .u8) 5 w' w.heap.size (fun _ => True) v0_ r1 ∧ Below w.heap.size w w' := by
  have HB := Aside0.mk (Below.refl w.heap.size w)
  have H : (heliastref05_Bytes.l0 k a0 ([] : List Int) 0) = some (r1, r2) := h
  clear h
  have H' := Aside0.mk H
  clear H
  go_enter Try.func30, Try.ntmps30
  go_wp2
  go_loopg [4, 5] k (fun kq v4 v5 w' => ∃ (x4_1 : List Int) (x5_1 : Int), v5 = .int .i64 x5_1 ∧ Aside0 (heliastref05_Bytes.l0 kq a0 x4_1 x5_1 = some (r1, r2)) ∧ Aside0 (kq ≤ k) ∧ Aside0 (Kd.R (Kd.int .u8) 5 w' w.heap.size (fun _ => True) v4 x4_1) ∧ Aside0 (Below w.heap.size w w'))
  case atStart => exact ⟨(([] : List Int)), (0), (by first | rfl | (simp; done) | (simp [*]; done)), H', ⟨Nat.le_refl _⟩, ⟨by first | exact Kd.R_nil _ _ _ _ _ | exact Kd.N_nil _ _ _ _ _ | exact Kd.V_nil _ _ _ _ _ | exact Kd.Q_nil _ _ _ _ _ | exact Kd.S_nil _ _ _ _ _⟩, ⟨by repeat (first | (with_reducible first | exact HB.out | apply below_alloc | apply pw_below_drewN | apply below_drew1) | exact HB.out)⟩⟩
  case round =>
    clear H'
    obtain ⟨x4_1, x5_1, rfl, HA, HK1, HO_4, HB⟩ := hrel
    cases gk with
    | zero => exact absurd HA.out (by simp [heliastref05_Bytes.l0])
    | succ k1 =>
      have H := HA.out
      clear HA
      simp only [heliastref05_Bytes.l0] at H
      by_cases c2 : x5_1 < (a0.size : Int)
      · rw [if_pos c2] at H
        have c2b0 : decide (x5_1 < (a0.size : Int)) = true := decide_eq_true c2
        clear c2
        obtain ⟨ji3, hji3⟩ : ∃ j_ : Int, (mn (wrap64 ((a0.size : Int) - x5_1)) 4) = j_ := ⟨_, rfl⟩
        replace H : (heliastref05_Bytes.l1 k1 a0 x4_1 x5_1 ji3 0 0) = some (r1, r2) := by first | (rw [hji3] at H; exact H) | (simp only [hji3] at H ⊢; exact H)
        have hji3_ : (if 4 < (wrap64 ((a0.size : Int) - x5_1)) then 4 else (wrap64 ((a0.size : Int) - x5_1))) = ji3 := hji3
        have H' := Aside0.mk H
        clear H
        go_wp2
        go_loopg [7, 8] k1 (fun kq v7 v8 w' => ∃ (x7_2 : Int) (x8_2 : Int), v7 = .int .i64 x7_2 ∧ v8 = .int .i64 x8_2 ∧ Aside0 (heliastref05_Bytes.l1 kq a0 x4_1 x5_1 ji3 x7_2 x8_2 = some (r1, r2)) ∧ Aside0 (kq ≤ k1) ∧ Aside0 (Kd.R (Kd.int .u8) 5 w' w.heap.size (fun _ => True) u4 x4_1) ∧ Aside0 (Below w.heap.size w w'))
        case atStart => exact ⟨(0), (0), (by first | rfl | (simp; done) | (simp [*]; done)), (by first | rfl | (simp; done) | (simp [*]; done)), H', ⟨Nat.le_refl _⟩, ⟨by (with_reducible repeat (first | apply Kd.R_alloc | apply Kd.R_drewN | apply Kd.R_drew)); exact HO_4.out⟩, ⟨by repeat (first | (with_reducible first | exact HB.out | apply below_alloc | apply pw_below_drewN | apply below_drew1) | exact HB.out)⟩⟩
        case round =>
          clear H'
          try clear c2
          try clear c2b0
          try clear p2
          try clear c3
          obtain ⟨x7_2, x8_2, rfl, rfl, HA, HK2, HO_4, HB⟩ := hrel
          cases gk with
          | zero => exact absurd HA.out (by simp [heliastref05_Bytes.l1])
          | succ k2 =>
            have H := HA.out
            clear HA
            simp only [heliastref05_Bytes.l1] at H
            by_cases c4 : x8_2 < 4
            · rw [if_pos c4] at H
              have c4b0 : decide (x8_2 < 4) = true := decide_eq_true c4
              clear c4
              by_cases c5 : x8_2 < ji3
              · rw [if_pos c5] at H
                have c5b0 : decide (x8_2 < ji3) = true := decide_eq_true c5
                clear c5
                obtain ⟨ji6, hji6⟩ : ∃ j_ : Int, (wrap64 (x5_1 + x8_2)) = j_ := ⟨_, rfl⟩
                replace H : (if 0 ≤ (ji6) then (if (ji6) < (a0.size : Int) then ((heliastref05_sign.f k2 (bt a0 (ji6))).bind fun t103 => (if t103 < 0 then (some (([] : List Int), false)) else (heliastref05_Bytes.l1 k2 a0 x4_1 x5_1 ji3 (wrap64 ((wrap64 (64 * x7_2)) + t103)) (wrap64 (x8_2 + 1))))) else (none)) else (none)) = some (r1, r2) := by first | (rw [hji6] at H; exact H) | (simp only [hji6] at H ⊢; exact H)
                have hji6w : (IntKind.i64.wrap (x5_1 + x8_2)) = ji6 := (i64_w _).trans hji6
                by_cases c7 : 0 ≤ (ji6)
                · rw [if_pos c7] at H
                  have c7b0 : decide (0 ≤ (ji6)) = true := decide_eq_true c7
                  clear c7
                  by_cases c8 : (ji6) < (a0.size : Int)
                  · rw [if_pos c8] at H
                    have c8b0 : decide ((ji6) < (a0.size : Int)) = true := decide_eq_true c8
                    clear c8
                    replace H := Option.bind_eq_some_iff.mp H
                    obtain ⟨t103, A100, H⟩ := H
                    replace H : (if t103 < 0 then (some (([] : List Int), false)) else (heliastref05_Bytes.l1 k2 a0 x4_1 x5_1 ji3 (wrap64 ((wrap64 (64 * x7_2)) + t103)) (wrap64 (x8_2 + 1)))) = some (r1, r2) := H
                    have A10 := Aside0.mk A100
                    clear A100
                    by_cases c11 : t103 < 0
                    · rw [if_pos c11] at H
                      have c11b0 : decide (t103 < 0) = true := decide_eq_true c11
                      clear c11
                      simp only [Option.some.injEq, Prod.mk.injEq] at H
                      obtain ⟨rfl, rfl⟩ := H
                      have p9 : 0 ≤ ((ji6) : Int) := of_decide_eq_true (by first | (with_reducible assumption) | assumption)
                      have q9 : (ji6) < (a0.size : Int) := of_decide_eq_true (by first | (with_reducible assumption) | assumption)
                      have hx9 := bt_at a0 (ji6)
                      replace p9 := eq_true p9
                      replace q9 := eq_true q9
                      go_wp2_with (first | ((with_reducible refine gate_callee (f := 42) rfl ?_); refine goesL_ (some 34) rfl rfl Try.func42 (by kernel_rfl) rfl #[.int .u8 (bt a0 (ji6))] rfl (by (try simp only [List.map_toArray, List.map_cons, List.map_nil]); first | done | (simp only [hji6]; rfl) | rfl | (simp only [List.length_drop, List.length_take]; rfl)) ?_; (with_reducible refine (heliastref05_sign.calls k2 (bt a0 (ji6)) t103 _ A10.out).mono ?_); rintro e w' ⟨rfl, ⟨nd, rfl⟩⟩; refine ⟨_, rfl, ?_⟩))
                      go_ret2
                      exact ⟨_, by first | rfl | (simp [errW_none, errW_some] <;> rfl) | (simp only [← hji3, ← hji6]; first | rfl | (simp [errW_none, errW_some] <;> rfl)) | (simp [*, errW_none, errW_some] <;> rfl), by first | exact Kd.R_nil _ _ _ _ _ | exact Kd.N_nil _ _ _ _ _ | exact Kd.V_nil _ _ _ _ _ | exact Kd.Q_nil _ _ _ _ _ | exact Kd.S_nil _ _ _ _ _, by repeat (first | (with_reducible first | exact HB.out | apply below_alloc | apply pw_below_drewN | apply below_drew1) | exact HB.out)⟩
                    · rw [if_neg c11] at H
                      have c11b0 : decide (t103 < 0) = false := decide_eq_false c11
                      clear c11
                      have H' := Aside0.mk H
                      clear H
                      have p9 : 0 ≤ ((ji6) : Int) := of_decide_eq_true (by first | (with_reducible assumption) | assumption)
                      have q9 : (ji6) < (a0.size : Int) := of_decide_eq_true (by first | (with_reducible assumption) | assumption)
                      have hx9 := bt_at a0 (ji6)
                      replace p9 := eq_true p9
                      replace q9 := eq_true q9
                      go_wp2_with (first | ((with_reducible refine gate_callee (f := 42) rfl ?_); refine goesL_ (some 34) rfl rfl Try.func42 (by kernel_rfl) rfl #[.int .u8 (bt a0 (ji6))] rfl (by (try simp only [List.map_toArray, List.map_cons, List.map_nil]); first | done | (simp only [hji6]; rfl) | rfl | (simp only [List.length_drop, List.length_take]; rfl)) ?_; (with_reducible refine (heliastref05_sign.calls k2 (bt a0 (ji6)) t103 _ A10.out).mono ?_); rintro e w' ⟨rfl, ⟨nd, rfl⟩⟩; refine ⟨_, rfl, ?_⟩))
                      go_roundg k2
                      case measure => have := HK1.out; have := HK2.out; omega
                      case rel => exact ⟨(wrap64 ((wrap64 (64 * x7_2)) + t103)), (wrap64 (x8_2 + 1)), (by first | rfl | (simp; done) | (simp [*]; done)), (by first | rfl | (simp; done) | (simp [*]; done)), H', ⟨by have := HK1.out; have := HK2.out; omega⟩, ⟨by (with_reducible repeat (first | apply Kd.R_alloc | apply Kd.R_drewN | apply Kd.R_drew)); exact HO_4.out⟩, ⟨by repeat (first | (with_reducible first | exact HB.out | apply below_alloc | apply pw_below_drewN | apply below_drew1) | exact HB.out)⟩⟩
                  · rw [if_neg c8] at H
                    exact absurd H (by simp)
                · rw [if_neg c7] at H
                  exact absurd H (by simp)
              · rw [if_neg c5] at H
                have c5b0 : decide (x8_2 < ji3) = false := decide_eq_false c5
                clear c5
                by_cases c12 : 0 < 0
                · exact absurd c12 (by omega)
                · rw [if_neg c12] at H
                  have c12b0 : decide (0 < 0) = false := decide_eq_false c12
                  clear c12
                  have H' := Aside0.mk H
                  clear H
                  go_wp2
                  go_roundg k2
                  case measure => have := HK1.out; have := HK2.out; omega
                  case rel => exact ⟨(wrap64 ((wrap64 (64 * x7_2)) + 0)), (wrap64 (x8_2 + 1)), (by first | rfl | (simp; done) | (simp [*]; done)), (by first | rfl | (simp; done) | (simp [*]; done)), H', ⟨by have := HK1.out; have := HK2.out; omega⟩, ⟨by (with_reducible repeat (first | apply Kd.R_alloc | apply Kd.R_drewN | apply Kd.R_drew)); exact HO_4.out⟩, ⟨by repeat (first | (with_reducible first | exact HB.out | apply below_alloc | apply pw_below_drewN | apply below_drew1) | exact HB.out)⟩⟩
            · rw [if_neg c4] at H
              have c4b0 : decide (x8_2 < 4) = false := decide_eq_false c4
              clear c4
              have H' := Aside0.mk H
              clear H
              go_wp2
              go_loopg [4, 10] k2 (fun kq v4 v10 w' => ∃ (x4_3 : List Int) (x10_3 : Int), v10 = .int .i64 x10_3 ∧ Aside0 (heliastref05_Bytes.l2 kq a0 x4_3 x5_1 ji3 x7_2 x10_3 = some (r1, r2)) ∧ Aside0 (kq ≤ k2) ∧ Aside0 (Kd.R (Kd.int .u8) 5 w' w.heap.size (fun _ => True) v4 x4_3) ∧ Aside0 (Below w.heap.size w w'))
              case atStart => exact ⟨(x4_1), (0), (by first | rfl | (simp; done) | (simp [*]; done)), H', ⟨Nat.le_refl _⟩, ⟨by (with_reducible repeat (first | apply Kd.R_alloc | apply Kd.R_drewN | apply Kd.R_drew)); exact HO_4.out⟩, ⟨by repeat (first | (with_reducible first | exact HB.out | apply below_alloc | apply pw_below_drewN | apply below_drew1) | exact HB.out)⟩⟩
              case round =>
                clear H'
                try clear c1
                try clear c2
                try clear c2b0
                try clear p2
                try clear c3
                try clear c4
                try clear c4b0
                try clear c5
                try clear c5b0
                try clear p6
                try clear c7
                try clear c7b0
                try clear c8
                try clear c8b0
                try clear p9
                try clear q9
                try clear hx9
                try clear c11
                try clear c11b0
                try clear c12
                try clear c12b0
                try clear p2
                try clear p9
                try clear q9
                obtain ⟨x4_3, x10_3, rfl, HA, HK3, HO_4, HB⟩ := hrel
                cases gk with
                | zero => exact absurd HA.out (by simp [heliastref05_Bytes.l2])
                | succ k3 =>
                  have H := HA.out
                  clear HA
                  simp only [heliastref05_Bytes.l2] at H
                  by_cases c13 : x10_3 < (wrap64 (ji3 - 1))
                  · rw [if_pos c13] at H
                    have c13b0 : decide (x10_3 < (wrap64 (ji3 - 1))) = true := decide_eq_true c13
                    clear c13
                    obtain ⟨ji14, hji14⟩ : ∃ j_ : Int, (IntKind.u64.wrap (wrap64 (16 - (wrap64 (8 * x10_3))))) = j_ := ⟨_, rfl⟩
                    replace H : (if 0 ≤ (ji14) then (if x4_3.length < 140737488355328 then (heliastref05_Bytes.l2 k3 a0 (x4_3 ++ [(shr .i64 x7_2 (ji14)) % 256]) x5_1 ji3 x7_2 (wrap64 (x10_3 + 1))) else (none)) else (none)) = some (r1, r2) := by first | (rw [hji14] at H; exact H) | (simp only [hji14] at H ⊢; exact H)
                    by_cases c15 : 0 ≤ (ji14)
                    · rw [if_pos c15] at H
                      have c15b0 := eq_true c15
                      have c15b1 : decide (0 ≤ (ji14)) = true := decide_eq_true c15
                      clear c15
                      obtain ⟨ji16, hji16⟩ : ∃ j_ : Int, (shr .i64 x7_2 (ji14)) = j_ := ⟨_, rfl⟩
                      replace H : (if x4_3.length < 140737488355328 then (heliastref05_Bytes.l2 k3 a0 (x4_3 ++ [(ji16) % 256]) x5_1 ji3 x7_2 (wrap64 (x10_3 + 1))) else (none)) = some (r1, r2) := by first | (rw [hji16] at H; exact H) | (simp only [hji16] at H ⊢; exact H)
                      have hji16_ : (x7_2 / 2 ^ min (ji14).toNat 64) = ji16 := hji16
                      have hji16z : (ji14) ≤ 64 → (x7_2 / 2 ^ (ji14).toNat) = ji16 := shr_small hji16
                      by_cases c17 : x4_3.length < 140737488355328
                      · rw [if_pos c17] at H
                        have LMc17 := Aside0.mk c17
                        clear c17
                        obtain ⟨y104, hy104⟩ : ∃ y_ : List Int, y_ = (x4_3 ++ [(ji16) % 256]) := ⟨_, rfl⟩
                        replace H : (heliastref05_Bytes.l2 k3 a0 y104 x5_1 ji3 x7_2 (wrap64 (x10_3 + 1))) = some (r1, r2) := by first | (rw [hy104]; with_reducible exact H) | (have H2_ := (Option.bind_some _ _).symm.trans H; rw [hy104]; with_reducible exact H2_) | (have H2_ := (Option.bind_some _ _).symm.trans H; with_reducible exact H2_) | with_reducible exact H | (rw [hy104]; exact H) | exact H
                        have Ny104 := Aside0.mk hy104
                        clear hy104
                        have H' := Aside0.mk H
                        clear H
                        go_wp2_with (first | ((with_reducible refine gate_builtin (b := .append) (xs := #[.tmp 47, .tmp 55]) rfl ?_); at_builtin; refine Kd.R_append (Kd.int .u8) (w0 := w) w.heap.size rfl (.tmp 47) (.tmp 55) 22 5 (.int .u8 0) 1 rfl Try.underlying22 info5 rfl (by decide) (by omega) u4 x4_3 ((ji16) % 256) [.int .u8 ((ji16) % 256)] (fun _ => True) (fun _ => False) rfl rfl ?aP (fun _ hk => hk.elim) ?aF ?aO ?aB ?aS ?aL ?_; (case aP => exact rfl); (case aB => exact (by repeat (first | (with_reducible first | exact HB.out | apply below_alloc | apply pw_below_drewN | apply below_drew1) | exact HB.out))); (case aF => exact (fun _ _ => trivial)); (case aO => exact (by (with_reducible repeat (first | apply Kd.R_alloc | apply Kd.R_drewN | apply Kd.R_drew)); exact HO_4.out)); (case aS => exact (below_size (by repeat (first | (with_reducible first | exact HB.out | apply below_alloc | apply pw_below_drewN | apply below_drew1) | exact HB.out)))); (case aL => have := LMc17.out; omega); intro v105 w18 ho hb hg hat; rw [← Ny104.out] at ho; have n0_ := Aside0.mk (hb); have n1_ := Aside0.mk (ho); clear HB; clear HO_4; have HB := n0_; have HO106 := n1_; clear n0_ n1_; clear ho hb hg hat))
                        go_roundg k3
                        case measure => have := HK1.out; have := HK2.out; have := HK3.out; omega
                        case rel => exact ⟨(y104), (wrap64 (x10_3 + 1)), (by first | rfl | (simp; done) | (simp [*]; done)), H', ⟨by have := HK1.out; have := HK2.out; have := HK3.out; omega⟩, ⟨by (with_reducible repeat (first | apply Kd.R_alloc | apply Kd.R_drewN | apply Kd.R_drew)); exact HO106.out⟩, ⟨by repeat (first | (with_reducible first | exact HB.out | apply below_alloc | apply pw_below_drewN | apply below_drew1) | exact HB.out)⟩⟩
                      · rw [if_neg c17] at H
                        exact absurd H (by simp)
                    · rw [if_neg c15] at H
                      exact absurd H (by simp)
                  · rw [if_neg c13] at H
                    have c13b0 : decide (x10_3 < (wrap64 (ji3 - 1))) = false := decide_eq_false c13
                    clear c13
                    have H' := Aside0.mk H
                    clear H
                    go_wp2
                    go_roundg k3
                    case measure => have := HK1.out; have := HK2.out; have := HK3.out; omega
                    case rel => exact ⟨(x4_3), (wrap64 (x5_1 + 4)), (by first | rfl | (simp; done) | (simp [*]; done)), H', ⟨by have := HK1.out; have := HK2.out; have := HK3.out; omega⟩, ⟨by (with_reducible repeat (first | apply Kd.R_alloc | apply Kd.R_drewN | apply Kd.R_drew)); exact HO_4.out⟩, ⟨by repeat (first | (with_reducible first | exact HB.out | apply below_alloc | apply pw_below_drewN | apply below_drew1) | exact HB.out)⟩⟩
      · rw [if_neg c2] at H
        have c2b0 : decide (x5_1 < (a0.size : Int)) = false := decide_eq_false c2
        clear c2
        replace H := Option.bind_eq_some_iff.mp H
        obtain ⟨t102, A190, H⟩ := H
        replace H : (if t102.toList = a0.toList then (some (x4_1, true)) else (some (([] : List Int), false))) = some (r1, r2) := H
        have A19 := Aside0.mk A190
        clear A190
        by_cases c20 : t102.toList = a0.toList
        · rw [if_pos c20] at H
          have c20b0 : (t102.toList == a0.toList) = true := beq_iff_eq.mpr c20
          have c20b1 : (t102.toList != a0.toList) = false := bne_eq_false_iff_eq.mpr c20
          clear c20
          simp only [Option.some.injEq, Prod.mk.injEq] at H
          obtain ⟨rfl, rfl⟩ := H
          obtain ⟨Ao21, co21, eo21⟩ := Kd.R_slice HO_4.out
          subst eo21
          go_wp2_with (first | ((with_reducible refine gate_callee (f := 12) rfl ?_); refine goesL_ (some 58) rfl rfl Try.func12 (by kernel_rfl) rfl #[.slice Ao21 x4_1.length co21] rfl (by (try simp only [List.map_toArray, List.map_cons, List.map_nil]); first | done | rfl | (simp only [List.length_drop, List.length_take]; rfl)) ?_; (with_reducible refine (heliastref05_Text.calls k1 _ _ x4_1 t102 _ ?side1 ?side2 A19.out).mono ?_); (case side1 => repeat (first | exact (Kd.R_reads' HO_4.out).2.2 | (with_reducible refine Kd.C_alloc ?_ _) | (with_reducible refine Kd.C_drewN ?_ _) | (with_reducible refine Kd.C_drew ?_))); (case side2 => exact (Kd.R_reads' HO_4.out).2.1); rintro e w22 ⟨rfl, hb⟩; refine ⟨_, rfl, ?_⟩; have n0_ := Aside0.mk (Kd.R_below (by (with_reducible repeat (first | apply Kd.R_alloc | apply Kd.R_drewN | apply Kd.R_drew)); exact HO_4.out) hb); have n1_ := Aside0.mk (below_step (by repeat (first | (with_reducible first | exact HB.out | apply below_alloc | apply pw_below_drewN | apply below_drew1) | exact HB.out)) hb); clear HO_4; clear HB; have HO_4 := n0_; have HB := n1_; clear n0_ n1_; (try clear hb); (try clear hb2); (try clear hk); (try clear hi)))
          go_ret2
          exact ⟨_, by first | rfl | (simp [errW_none, errW_some] <;> rfl) | (simp [*, errW_none, errW_some] <;> rfl), by (with_reducible repeat (first | apply Kd.R_alloc | apply Kd.R_drewN | apply Kd.R_drew)); exact HO_4.out, by repeat (first | (with_reducible first | exact HB.out | apply below_alloc | apply pw_below_drewN | apply below_drew1) | exact HB.out)⟩
        · rw [if_neg c20] at H
          have c20b0 : (t102.toList == a0.toList) = false := beq_eq_false_iff_ne.mpr c20
          have c20b1 : (t102.toList != a0.toList) = true := bne_iff_ne.mpr c20
          simp only [Option.some.injEq, Prod.mk.injEq] at H
          obtain ⟨rfl, rfl⟩ := H
          obtain ⟨Ao23, co23, eo23⟩ := Kd.R_slice HO_4.out
          subst eo23
          go_wp2_with (first | ((with_reducible refine gate_callee (f := 12) rfl ?_); refine goesL_ (some 58) rfl rfl Try.func12 (by kernel_rfl) rfl #[.slice Ao23 x4_1.length co23] rfl (by (try simp only [List.map_toArray, List.map_cons, List.map_nil]); first | done | rfl | (simp only [List.length_drop, List.length_take]; rfl)) ?_; (with_reducible refine (heliastref05_Text.calls k1 _ _ x4_1 t102 _ ?side1 ?side2 A19.out).mono ?_); (case side1 => repeat (first | exact (Kd.R_reads' HO_4.out).2.2 | (with_reducible refine Kd.C_alloc ?_ _) | (with_reducible refine Kd.C_drewN ?_ _) | (with_reducible refine Kd.C_drew ?_))); (case side2 => exact (Kd.R_reads' HO_4.out).2.1); rintro e w24 ⟨rfl, hb⟩; refine ⟨_, rfl, ?_⟩; have n0_ := Aside0.mk (Kd.R_below (by (with_reducible repeat (first | apply Kd.R_alloc | apply Kd.R_drewN | apply Kd.R_drew)); exact HO_4.out) hb); have n1_ := Aside0.mk (below_step (by repeat (first | (with_reducible first | exact HB.out | apply below_alloc | apply pw_below_drewN | apply below_drew1) | exact HB.out)) hb); clear HO_4; clear HB; have HO_4 := n0_; have HB := n1_; clear n0_ n1_; (try clear hb); (try clear hb2); (try clear hk); (try clear hi)))
          go_ret2
          exact ⟨_, by first | rfl | (simp [errW_none, errW_some] <;> rfl) | (simp [*, errW_none, errW_some] <;> rfl), by first | exact Kd.R_nil _ _ _ _ _ | exact Kd.N_nil _ _ _ _ _ | exact Kd.V_nil _ _ _ _ _ | exact Kd.Q_nil _ _ _ _ _ | exact Kd.S_nil _ _ _ _ _, by repeat (first | (with_reducible first | exact HB.out | apply below_alloc | apply pw_below_drewN | apply below_drew1) | exact HB.out)⟩

end Go.Proofs.Ytnhljemnebgekaa.Rt

/-
  What the functions of these laws compute, as plain Lean functions, and that the machine's calls compute it: written by this session's own hook over the kit's print.
-/
namespace Go.Proofs.Ytnhljemnebgekaa.Rt
open Go.RowKit Go.Proofs.YtnhljemnebgekaaW.PrintWords Go.Proofs.YtnhljemnebgekaaW.PrintLast Go.Proofs.YtnhljemnebgekaaW.PrintMore
attribute [local go_sem] u32_sg u32_mx u64_sg u64_mx
attribute [local go_sem] max2_int min2_int max_two min_two max_three min_three max_four min_four   -- for this text's walks alone
set_option linter.unusedVariables false
set_option linter.unusedSimpArgs false

end Go.Proofs.Ytnhljemnebgekaa.Rt

/-
  The reference's Text, sign and Bytes, in plain words: they are the text of the signs, and the way back.
-/
namespace Go.Proofs.Ytnhljemnebgekaa
open Go.RowKit Sha Go.Proofs.YtnhljemnebgekaaW.PrintWords Go.Proofs.YtnhljemnebgekaaW.PrintLast Go.Proofs.YtnhljemnebgekaaW.PrintMore Rt
set_option linter.unusedSimpArgs false
theorem sh_q (q : Nat) (h : q ≤ 3) : IntKind.u64.wrap (wrap64 (18 - wrap64 (6 * (q : Int)))) = ((18 - 6 * q : Nat) : Int) := by
  have : q = 0 ∨ q = 1 ∨ q = 2 ∨ q = 3 := by omega
  rcases this with rfl | rfl | rfl | rfl <;> rw [IntKind.wrap_u64] <;> unfold wrap64 <;> omega
theorem shrN (N e : Nat) (h : e ≤ 64) : shr .i64 (N : Int) (e : Int) = ((N / 2 ^ e : Nat) : Int) := by
  unfold shr
  rw [Int.toNat_natCast, show IntKind.i64.bits = 64 from rfl, Nat.min_eq_left h]
  push_cast
  rfl
theorem rt_l1 (d : List UInt8) (hd : d.length ≤ 1099511000000) (j : Nat) (s : ByteArray) (i k : Nat) (hj : 3 * j < d.length) (hi : i < 3) :
    heliastref05_Text.l1 (k + 1) (intsB d) s ((3 * j : Nat) : Int) ((grp (piece d j) i : Nat) : Int) (((piece d j).length : Nat) : Int) (i : Int) = heliastref05_Text.l1 k (intsB d) s ((3 * j : Nat) : Int) ((grp (piece d j) (i + 1) : Nat) : Int) (((piece d j).length : Nat) : Int) ((i + 1 : Nat) : Int) := by
  have hg := grp_lt (piece d j) i
  have hg2 : grp (piece d j) i < 65536 := Nat.lt_of_lt_of_le hg (by
    have : i = 0 ∨ i = 1 ∨ i = 2 := by omega
    rcases this with rfl | rfl | rfl <;> simp)
  have hl := piece_length d j
  have hx := ((piece d j).getD i 0).toNat_lt
  have hgs : grp (piece d j) (i + 1) = grp (piece d j) i * 256 + ((piece d j).getD i 0).toNat := rfl
  simp only [heliastref05_Text.l1]
  rw [if_pos (by omega), show wrap64 ((i : Int) + 1) = ((i + 1 : Nat) : Int) from by unfold wrap64; omega, show wrap64 (256 * ((grp (piece d j) i : Nat) : Int)) = ((grp (piece d j) i * 256 : Nat) : Int) from by unfold wrap64; omega, show wrap64 (((3 * j : Nat) : Int) + (i : Int)) = ((3 * j + i : Nat) : Int) from by unfold wrap64; omega]
  by_cases hin : i < (piece d j).length
  · rw [if_pos (by omega), if_pos (by omega), if_pos (by rw [intsB_length]; omega), show rd (intsB d) ((3 * j + i : Nat) : Int) = (((piece d j).getD i 0).toNat : Int) from by rw [rd_intsB, piece_getD d j i hi], wrap_nat _ (by omega), hgs,
      show wrap64 (((grp (piece d j) i * 256 : Nat) : Int) + (((piece d j).getD i 0).toNat : Int)) = ((grp (piece d j) i * 256 + ((piece d j).getD i 0).toNat : Nat) : Int) from by unfold wrap64; omega]
  · have h0 : ((piece d j).getD i 0).toNat = 0 := by rw [List.getD_eq_getElem?_getD, List.getElem?_eq_none (by omega)]; rfl
    have h1 : grp (piece d j) i * 256 + 0 = grp (piece d j) i * 256 := Nat.add_zero _
    rw [if_neg (by omega), hgs, h0, h1]
theorem rt_l2 (d : List UInt8) (j : Nat) (s : ByteArray) (q k N m : Nat) (hm : m ≤ 3) (hq : q ≤ m) (hs : s.size ≤ 4611686018427387904) :
    heliastref05_Text.l2 (k + 1) (intsB d) s ((3 * j : Nat) : Int) (N : Int) (m : Int) (q : Int) = heliastref05_Text.l2 k (intsB d) (s ++ bs [signAt N q]) ((3 * j : Nat) : Int) (N : Int) (m : Int) ((q + 1 : Nat) : Int) := by
  simp only [heliastref05_Text.l2]
  rw [if_pos (by omega), sh_q q (by omega), if_pos (by omega), shrN _ _ (by omega)]
  have e1 : Int.tmod ((N / 2 ^ (18 - 6 * q) : Nat) : Int) 64 = ((N / 2 ^ (18 - 6 * q) % 64 : Nat) : Int) := rfl
  have hv : N / 2 ^ (18 - 6 * q) % 64 < 64 := Nat.mod_lt _ (by omega)
  have hsa : signAt N q = signs.getD (N / 2 ^ (18 - 6 * q) % 64) 0 := rfl
  rw [e1, hsa]
  generalize N / 2 ^ (18 - 6 * q) % 64 = v at *
  rw [if_pos (by omega), show wrap64 ((v : Int) + 1) = ((v + 1 : Nat) : Int) from by unfold wrap64; omega, if_pos (by omega), if_pos (by omega), show wrap64 ((q : Int) + 1) = ((q + 1 : Nat) : Int) from by unfold wrap64; omega, Int.toNat_natCast, Int.toNat_natCast]
  have e4 := signs_piece v hv
  unfold SG at e4
  rw [e4, if_pos (by rw [bs_size]; simp; omega)]
theorem rt_l2s (d : List UInt8) (hd : d.length ≤ 1099511000000) (j N m : Nat) (hj : j ≤ 1099511000000) (hN : N < 16777216) (hm : m ≤ 3) (r : ByteArray) : ∀ (p q : Nat) (s : List UInt8), p + q = m + 1 → s.length + p ≤ 4611686018427387904 →
    Ev (fun k => heliastref05_Text.l0 k (intsB d) (bs (s ++ (List.range' q p).map (signAt N))) ((3 * j + 3 : Nat) : Int)) r → Ev (fun k => heliastref05_Text.l2 k (intsB d) (bs s) ((3 * j : Nat) : Int) (N : Int) (m : Int) (q : Int)) r
  | 0, q, s, hp, hs, h => by
    refine Ev.step (fun k => ?_) h
    simp only [heliastref05_Text.l2]
    have e3 : wrap64 (((3 * j : Nat) : Int) + 3) = ((3 * j + 3 : Nat) : Int) := by
      unfold wrap64; omega
    rw [if_neg (by omega), e3]
    simp
  | p + 1, q, s, hp, hs, h => by
    refine Ev.step (fun k => rt_l2 d j (bs s) q k N m hm (by omega) (by rw [bs_size]; omega)) ?_
    rw [bs_snoc]
    refine rt_l2s d hd j N m hj hN hm r p (q + 1) (s ++ [signAt N q]) (by omega) (by simp; omega) ?_
    simpa [List.range'_succ] using h
theorem rt_l0 (d : List UInt8) (hd : d.length ≤ 1099511000000) : ∀ (p j : Nat) (s : List UInt8), d.length ≤ 3 * j + p → s.length + 4 * p ≤ 4611686018427387900 → j ≤ 1099511000000 →
    Ev (fun k => heliastref05_Text.l0 k (intsB d) (bs s) ((3 * j : Nat) : Int)) (bs (s ++ tx (d.drop (3 * j))))
  | p, j, s, hp, hs, hj => by
    by_cases hlt : 3 * j < d.length
    · obtain ⟨q, rfl⟩ : ∃ q, p = q + 1 := ⟨p - 1, by omega⟩
      have hpl := piece_length d j
      have hg3 : grp (piece d j) 3 < 16777216 := grp_lt (piece d j) 3
      refine Ev.step (f := fun k => heliastref05_Text.l1 k (intsB d) (bs s) ((3 * j : Nat) : Int) ((grp (piece d j) 0 : Nat) : Int) (((piece d j).length : Nat) : Int) ((0 : Nat) : Int)) (fun k => ?_) ?_
      · simp only [heliastref05_Text.l0]
        rw [if_pos (by rw [intsB_length]; omega), intsB_length, show wrap64 ((d.length : Int) - ((3 * j : Nat) : Int)) = ((d.length - 3 * j : Nat) : Int) from by unfold wrap64; omega]
        have e : mn ((d.length - 3 * j : Nat) : Int) 3 = (((piece d j).length : Nat) : Int) := by unfold mn; split <;> omega
        rw [e]
        rfl
      refine Ev.step (fun k => rt_l1 d hd j (bs s) 0 k hlt (by omega)) ?_
      refine Ev.step (fun k => rt_l1 d hd j (bs s) 1 k hlt (by omega)) ?_
      refine Ev.step (fun k => rt_l1 d hd j (bs s) 2 k hlt (by omega)) ?_
      refine Ev.step (f := fun k => heliastref05_Text.l2 k (intsB d) (bs s) ((3 * j : Nat) : Int) ((grp (piece d j) 3 : Nat) : Int) (((piece d j).length : Nat) : Int) ((0 : Nat) : Int)) (fun k => ?_) ?_
      · simp only [heliastref05_Text.l1]
        rw [if_neg (by omega)]
        rfl
      refine rt_l2s d hd j _ _ hj hg3 (by omega) _ ((piece d j).length + 1) 0 s (by omega) (by omega) ?_
      have ih := rt_l0 d hd q (j + 1) (s ++ (List.range' 0 ((piece d j).length + 1)).map (signAt (grp (piece d j) 3))) (by omega) (by simp; omega) (by omega)
      rw [tx_step _ (show 0 < (d.drop (3 * j)).length from by rw [List.length_drop]; omega), List.drop_drop]
      have e2 : (List.range' 0 ((piece d j).length + 1)).map (signAt (grp (piece d j) 3)) = grpText ((d.drop (3 * j)).take 3) (((d.drop (3 * j)).take 3).length + 1) := by
        unfold grpText
        rw [List.range_eq_range']
        rfl
      rw [e2, List.append_assoc] at ih
      rw [e2]
      exact ih
    · refine Ev.step (f := fun _ => some (bs s)) (fun k => ?_) ?_
      · simp only [heliastref05_Text.l0]
        rw [if_neg (by rw [intsB_length]; omega)]
      · rw [List.drop_of_length_le (by omega)]
        simp only [tx, List.append_nil]
        exact Ev.now _
theorem rt_text (d : List UInt8) (hd : d.length ≤ 1099511000000) : Ev (fun k => heliastref05_Text.f k (intsB d)) (bs (text d)) := by
  have := rt_l0 d hd d.length 0 [] (by omega) (by simp; omega) (by omega)
  rw [text_tx]
  exact (by simpa using this : Ev (fun k => heliastref05_Text.l0 k (intsB d) (bs []) 0) (bs (tx d)))
end Go.Proofs.Ytnhljemnebgekaa

/-
  The reference's sign and Bytes, in plain words.
-/
namespace Go.Proofs.Ytnhljemnebgekaa
open Go.RowKit Sha Go.Proofs.YtnhljemnebgekaaW.PrintWords Go.Proofs.YtnhljemnebgekaaW.PrintLast Go.Proofs.YtnhljemnebgekaaW.PrintMore Rt
set_option linter.unusedSimpArgs false
theorem sign_l0 (c : UInt8) : ∀ (p i : Nat), i + p = 64 → Ev (fun k => heliastref05_sign.l0 k (c.toNat : Int) (i : Int)) (if Lib.indexByte (signs.drop i) c < 0 then -1 else (i : Int) + Lib.indexByte (signs.drop i) c)
  | 0, i, h => by
    obtain rfl : i = 64 := by omega
    refine Ev.step (f := fun _ => some (-1)) (fun k => ?_) (Ev.now _)
    simp only [heliastref05_sign.l0]
    rw [if_neg (by omega)]
  | p + 1, i, h => by
    have hl : i < signs.length := by show i < 64; omega
    have hb := bt_bs signs i hl
    have hd : signs.drop i = signs.getD i 0 :: signs.drop (i + 1) := by
      rw [List.drop_eq_getElem_cons hl]; simp [List.getD_eq_getElem?_getD, List.getElem?_eq_getElem hl]
    have hge := Lib.indexByte_ge (signs.drop (i + 1)) c
    rw [hd]
    by_cases hc : signs.getD i 0 = c
    · refine Ev.step (f := fun _ => some (i : Int)) (fun k => ?_) ?_
      · simp only [heliastref05_sign.l0]
        rw [← SG_bs] at hb
        unfold SG at hb
        rw [if_pos (by omega), if_pos (by omega), hb, hc, if_pos rfl]
      · simp only [Lib.indexByte, hc, beq_self_eq_true, if_true]
        exact Ev.now _
    · refine Ev.step (f := fun k => heliastref05_sign.l0 k (c.toNat : Int) ((i + 1 : Nat) : Int)) (fun k => ?_) ?_
      · simp only [heliastref05_sign.l0]
        rw [← SG_bs] at hb
        unfold SG at hb
        rw [if_pos (by omega), if_pos (by omega), hb, if_neg (fun e => hc (UInt8.toNat_inj.1 (by omega))), show wrap64 ((i : Int) + 1) = ((i + 1 : Nat) : Int) from by unfold wrap64; omega]
      · have ih := sign_l0 c p (i + 1) (by omega)
        simp only [Lib.indexByte, beq_iff_eq, hc, if_false]
        generalize Lib.indexByte (signs.drop (i + 1)) c = z at *
        by_cases hz : z = -1
        · subst hz
          exact ih
        · rw [if_neg (by omega)] at ih
          rw [if_neg hz, if_neg (by omega), show (i : Int) + (z + 1) = ((i + 1 : Nat) : Int) + z from by omega]
          exact ih
theorem rt_sign (c : UInt8) : Ev (fun k => heliastref05_sign.f k (c.toNat : Int)) (sgn c) := by
  have h := sign_l0 c 64 0 (by omega)
  have e : (if Lib.indexByte (signs.drop 0) c < 0 then -1 else ((0 : Nat) : Int) + Lib.indexByte (signs.drop 0) c) = sgn c := by
    have := Lib.indexByte_ge signs c
    show (if Lib.indexByte signs c < 0 then -1 else ((0 : Nat) : Int) + Lib.indexByte signs c) = Lib.indexByte signs c
    split <;> omega
  rw [e] at h
  exact h
/-- The bytes of a text of signs, whatever its last bits are. -/
def raw4 : List UInt8 → Option (List UInt8)
  | [] => some []
  | [a] => (dg a).bind fun _ => some []
  | [a, b] => (dg a).bind fun x => (dg b).bind fun y => some [UInt8.ofNat (x * 4 + y / 16)]
  | [a, b, c] => (dg a).bind fun x => (dg b).bind fun y => (dg c).bind fun z => some [UInt8.ofNat (x * 4 + y / 16), UInt8.ofNat (y % 16 * 16 + z / 4)]
  | a :: b :: c :: d :: l => (dg a).bind fun x => (dg b).bind fun y => (dg c).bind fun z => (dg d).bind fun u => (raw4 l).bind fun r => some (UInt8.ofNat (x * 4 + y / 16) :: UInt8.ofNat (y % 16 * 16 + z / 4) :: UInt8.ofNat (z % 4 * 64 + u) :: r)
theorem raw_un4 : ∀ (l y : List UInt8), un4 l = some y → raw4 l = some y
  | [], y, h => h
  | [_], y, h => by simp [un4] at h
  | [a, b], y, h => by
    simp only [un4, Option.bind_eq_some_iff] at h
    obtain ⟨x, hx, v, hv, h⟩ := h
    split at h
    · simp only [raw4, hx, hv, Option.bind_some, h]
    · cases h
  | [a, b, c], y, h => by
    simp only [un4, Option.bind_eq_some_iff] at h
    obtain ⟨x, hx, v, hv, z, hz, h⟩ := h
    split at h
    · simp only [raw4, hx, hv, hz, Option.bind_some, h]
    · cases h
  | a :: b :: c :: d :: l, y, h => by
    simp only [un4, Option.bind_eq_some_iff] at h
    obtain ⟨x, hx, v, hv, z, hz, u, hu, r, hr, h⟩ := h
    simp only [raw4, hx, hv, hz, hu, raw_un4 l r hr, Option.bind_some, h]
/-- The reference's test: the text of the bytes is the text. -/
theorem raw_test (l : List UInt8) : (match raw4 l with | none => none | some r => if tx r = l then some r else none) = un4 l := by
  cases hu : un4 l with
  | some y => rw [raw_un4 l y hu]; simp only; rw [if_pos (tx_un4 l y hu)]
  | none =>
    cases hr : raw4 l with
    | none => rfl
    | some r =>
      simp only
      rw [if_neg (fun e => ?_)]
      rw [← e, un4_tx] at hu
      cases hu
theorem sh16 (q : Nat) (h : q ≤ 2) : IntKind.u64.wrap (wrap64 (16 - wrap64 (8 * (q : Int)))) = ((16 - 8 * q : Nat) : Int) := by
  have : q = 0 ∨ q = 1 ∨ q = 2 := by omega
  rcases this with rfl | rfl | rfl <;> rw [IntKind.wrap_u64] <;> unfold wrap64 <;> omega
theorem rb_in (s : List UInt8) (hs : s.length ≤ 1099511000000) (out : List UInt8) (j : Nat) (hj : 4 * j < s.length) (r : List Int × Bool) (i v d : Nat) (hi : i < 4) (hij : 4 * j + i < s.length) (hv : v < 262144) (hd : dg (s.getD (4 * j + i) 0) = some d)
    (h : Ev (fun k => heliastref05_Bytes.l1 k (bs s) (intsB out) ((4 * j : Nat) : Int) ((min (s.length - 4 * j) 4 : Nat) : Int) ((64 * v + d : Nat) : Int) ((i + 1 : Nat) : Int)) r) :
    Ev (fun k => heliastref05_Bytes.l1 k (bs s) (intsB out) ((4 * j : Nat) : Int) ((min (s.length - 4 * j) 4 : Nat) : Int) (v : Int) (i : Int)) r := by
  obtain ⟨h1, h2, h3⟩ := dg_some hd
  refine Ev.step (f := fun k => (heliastref05_sign.f k ((s.getD (4 * j + i) 0).toNat : Int)).bind fun t => if t < 0 then some (([] : List Int), false) else heliastref05_Bytes.l1 k (bs s) (intsB out) ((4 * j : Nat) : Int) ((min (s.length - 4 * j) 4 : Nat) : Int) (wrap64 ((wrap64 (64 * (v : Int))) + t)) (wrap64 ((i : Int) + 1))) (fun k => ?_) ?_
  · simp only [heliastref05_Bytes.l1]
    rw [if_pos (by omega), if_pos (by omega), show wrap64 (((4 * j : Nat) : Int) + (i : Int)) = ((4 * j + i : Nat) : Int) from by unfold wrap64; omega, if_pos (by omega), if_pos (by rw [bs_size]; omega), bt_bs s _ hij]
  · refine Ev.bind (rt_sign _) ?_
    rw [h3]
    refine Ev.congr (fun k => ?_) h
    rw [if_neg (by omega), show wrap64 ((wrap64 (64 * (v : Int))) + (d : Int)) = ((64 * v + d : Nat) : Int) from by unfold wrap64; omega, show wrap64 ((i : Int) + 1) = ((i + 1 : Nat) : Int) from by unfold wrap64; omega]
theorem rb_bad (s : List UInt8) (hs : s.length ≤ 1099511000000) (out : List UInt8) (j : Nat) (hj : 4 * j < s.length) (i v : Nat) (hi : i < 4) (hij : 4 * j + i < s.length) (hd : dg (s.getD (4 * j + i) 0) = none) :
    Ev (fun k => heliastref05_Bytes.l1 k (bs s) (intsB out) ((4 * j : Nat) : Int) ((min (s.length - 4 * j) 4 : Nat) : Int) (v : Int) (i : Int)) (([] : List Int), false) := by
  have h3 := dg_none hd
  refine Ev.step (f := fun k => (heliastref05_sign.f k ((s.getD (4 * j + i) 0).toNat : Int)).bind fun t => if t < 0 then some (([] : List Int), false) else heliastref05_Bytes.l1 k (bs s) (intsB out) ((4 * j : Nat) : Int) ((min (s.length - 4 * j) 4 : Nat) : Int) (wrap64 ((wrap64 (64 * (v : Int))) + t)) (wrap64 ((i : Int) + 1))) (fun k => ?_) ?_
  · simp only [heliastref05_Bytes.l1]
    rw [if_pos (by omega), if_pos (by omega), show wrap64 (((4 * j : Nat) : Int) + (i : Int)) = ((4 * j + i : Nat) : Int) from by unfold wrap64; omega, if_pos (by omega), if_pos (by rw [bs_size]; omega), bt_bs s _ hij]
  · refine Ev.bind (rt_sign _) ?_
    refine Ev.congr (fun k => ?_) (Ev.now _)
    rw [if_pos h3]
theorem rb_out (s : List UInt8) (hs : s.length ≤ 1099511000000) (out : List UInt8) (j : Nat) (hj : 4 * j < s.length) (r : List Int × Bool) (i v : Nat) (hi : i < 4) (hij : s.length ≤ 4 * j + i) (hv : v < 262144)
    (h : Ev (fun k => heliastref05_Bytes.l1 k (bs s) (intsB out) ((4 * j : Nat) : Int) ((min (s.length - 4 * j) 4 : Nat) : Int) ((64 * v : Nat) : Int) ((i + 1 : Nat) : Int)) r) :
    Ev (fun k => heliastref05_Bytes.l1 k (bs s) (intsB out) ((4 * j : Nat) : Int) ((min (s.length - 4 * j) 4 : Nat) : Int) (v : Int) (i : Int)) r := by
  refine Ev.step (fun k => ?_) h
  simp only [heliastref05_Bytes.l1]
  rw [if_pos (by omega), if_neg (by omega), if_neg (by omega), show wrap64 ((wrap64 (64 * (v : Int))) + 0) = ((64 * v : Nat) : Int) from by unfold wrap64; omega, show wrap64 ((i : Int) + 1) = ((i + 1 : Nat) : Int) from by unfold wrap64; omega]
theorem rb_end (s : List UInt8) (hs : s.length ≤ 1099511000000) (out : List UInt8) (j : Nat) (hj : 4 * j < s.length) (r : List Int × Bool) (v : Nat) (h : Ev (fun k => heliastref05_Bytes.l2 k (bs s) (intsB out) ((4 * j : Nat) : Int) ((min (s.length - 4 * j) 4 : Nat) : Int) (v : Int) ((0 : Nat) : Int)) r) :
    Ev (fun k => heliastref05_Bytes.l1 k (bs s) (intsB out) ((4 * j : Nat) : Int) ((min (s.length - 4 * j) 4 : Nat) : Int) (v : Int) ((4 : Nat) : Int)) r := by
  refine Ev.step (fun k => ?_) h
  simp only [heliastref05_Bytes.l1]
  rw [if_neg (by omega)]
  rfl
theorem rb_put (s : List UInt8) (hs : s.length ≤ 1099511000000) (out : List UInt8) (j : Nat) (hj : 4 * j < s.length) (r : List Int × Bool) (q v : Nat) (hq : q < min (s.length - 4 * j) 4 - 1) (ho : out.length < 140737488355328)
    (h : Ev (fun k => heliastref05_Bytes.l2 k (bs s) (intsB (out ++ [UInt8.ofNat (v / 2 ^ (16 - 8 * q))])) ((4 * j : Nat) : Int) ((min (s.length - 4 * j) 4 : Nat) : Int) (v : Int) ((q + 1 : Nat) : Int)) r) :
    Ev (fun k => heliastref05_Bytes.l2 k (bs s) (intsB out) ((4 * j : Nat) : Int) ((min (s.length - 4 * j) 4 : Nat) : Int) (v : Int) (q : Int)) r := by
  refine Ev.step (fun k => ?_) h
  simp only [heliastref05_Bytes.l2]
  rw [show wrap64 (((min (s.length - 4 * j) 4 : Nat) : Int) - 1) = ((min (s.length - 4 * j) 4 - 1 : Nat) : Int) from by unfold wrap64; omega, if_pos (by omega), sh16 q (by omega), if_pos (by omega), if_pos (by rw [intsB_length]; exact ho), shrN _ _ (by omega),
    show wrap64 ((q : Int) + 1) = ((q + 1 : Nat) : Int) from by unfold wrap64; omega]
  have e : intsB out ++ [((v / 2 ^ (16 - 8 * q) : Nat) : Int) % 256] = intsB (out ++ [UInt8.ofNat (v / 2 ^ (16 - 8 * q))]) := by
    rw [intsB_append]
    refine congrArg (intsB out ++ [·]) ?_
    show _ = (((UInt8.ofNat (v / 2 ^ (16 - 8 * q))).toNat : Nat) : Int)
    rw [UInt8.toNat_ofNat']
    omega
  rw [e]
theorem rb_next (s : List UInt8) (hs : s.length ≤ 1099511000000) (out : List UInt8) (j : Nat) (hj : 4 * j < s.length) (r : List Int × Bool) (q v : Nat) (hq : min (s.length - 4 * j) 4 - 1 ≤ q)
    (h : Ev (fun k => heliastref05_Bytes.l0 k (bs s) (intsB out) ((4 * (j + 1) : Nat) : Int)) r) :
    Ev (fun k => heliastref05_Bytes.l2 k (bs s) (intsB out) ((4 * j : Nat) : Int) ((min (s.length - 4 * j) 4 : Nat) : Int) (v : Int) (q : Int)) r := by
  refine Ev.step (fun k => ?_) h
  simp only [heliastref05_Bytes.l2]
  rw [show wrap64 (((min (s.length - 4 * j) 4 : Nat) : Int) - 1) = ((min (s.length - 4 * j) 4 - 1 : Nat) : Int) from by unfold wrap64; omega, if_neg (by omega), show wrap64 (((4 * j : Nat) : Int) + 4) = ((4 * (j + 1) : Nat) : Int) from by unfold wrap64; omega]
def fin4 (s out : List UInt8) : Option (List UInt8) → List Int × Bool
  | none => ([], false)
  | some r => if tx (out ++ r) = s then (intsB (out ++ r), true) else ([], false)
theorem fin4_cons (s out x : List UInt8) (o : Option (List UInt8)) : fin4 s out (o.bind fun r => some (x ++ r)) = fin4 s (out ++ x) o := by
  cases o with
  | none => rfl
  | some r => simp [fin4]
theorem getD_drop (s l : List UInt8) (n i : Nat) (h : s.drop n = l) : s.getD (n + i) 0 = l.getD i 0 := by
  rw [← h]; simp [List.getD_eq_getElem?_getD]
theorem rb_first (s : List UInt8) (hs : s.length ≤ 1000000000000) (out : List UInt8) (j : Nat) (hj : 4 * j < s.length) (r : List Int × Bool)
    (h : Ev (fun k => heliastref05_Bytes.l1 k (bs s) (intsB out) ((4 * j : Nat) : Int) ((min (s.length - 4 * j) 4 : Nat) : Int) ((0 : Nat) : Int) ((0 : Nat) : Int)) r) :
    Ev (fun k => heliastref05_Bytes.l0 k (bs s) (intsB out) ((4 * j : Nat) : Int)) r := by
  refine Ev.step (fun k => ?_) h
  simp only [heliastref05_Bytes.l0]
  rw [if_pos (by rw [bs_size]; omega), bs_size, show wrap64 ((s.length : Int) - ((4 * j : Nat) : Int)) = ((s.length - 4 * j : Nat) : Int) from by unfold wrap64; omega,
    show mn ((s.length - 4 * j : Nat) : Int) 4 = ((min (s.length - 4 * j) 4 : Nat) : Int) from by unfold mn; split <;> omega]
  rfl
theorem rb_last (s : List UInt8) (out : List UInt8) (j : Nat) (hj : s.length ≤ 4 * j) (ho : out.length ≤ 1099511000000) :
    Ev (fun k => heliastref05_Bytes.l0 k (bs s) (intsB out) ((4 * j : Nat) : Int)) (fin4 s out (some [])) := by
  refine Ev.step (f := fun k => (heliastref05_Text.f k (intsB out)).bind fun t => if t.toList = (bs s).toList then some (intsB out, true) else some (([] : List Int), false)) (fun k => ?_) ?_
  · simp only [heliastref05_Bytes.l0]
    rw [if_neg (by rw [bs_size]; omega)]
  · refine Ev.bind (rt_text out ho) ?_
    refine Ev.congr (fun k => ?_) (Ev.now _)
    rw [bs_toList, bs_toList, text_tx]
    simp only [fin4, List.append_nil]
    split <;> rfl
theorem rb_fin (s out r : List UInt8) (j : Nat) (hj : s.length ≤ 4 * j) (ho : (out ++ r).length ≤ 1099511000000) :
    Ev (fun k => heliastref05_Bytes.l0 k (bs s) (intsB (out ++ r)) ((4 * j : Nat) : Int)) (fin4 s out (some r)) := by
  have h := rb_last s (out ++ r) j hj ho
  have e : fin4 s (out ++ r) (some []) = fin4 s out (some r) := by simp [fin4]
  rwa [e] at h
theorem fin4_none (s out : List UInt8) : fin4 s out none = ([], false) := rfl
theorem rb_l0 (s : List UInt8) (hs : s.length ≤ 1000000000000) : ∀ (l : List UInt8) (j : Nat) (out : List UInt8), s.drop (4 * j) = l → out.length ≤ 3 * j → 3 * j ≤ s.length + 3 →
    Ev (fun k => heliastref05_Bytes.l0 k (bs s) (intsB out) ((4 * j : Nat) : Int)) (fin4 s out (raw4 l))
  | [], j, out, hl, ho, hj3 => rb_last s out j (by have := congrArg List.length hl; simp at this; omega) (by omega)
  | [a], j, out, hl, ho, hj3 => by
    have hn : s.length = 4 * j + 1 := by have := congrArg List.length hl; simp at this; omega
    have g0 := getD_drop s _ _ 0 hl
    refine rb_first s hs out j (by omega) _ ?_
    cases h0 : dg a with
    | none =>
      simp only [raw4, h0, Option.bind_none, fin4_none]
      exact rb_bad s (by omega) out j (by omega) 0 0 (by omega) (by omega) (by rw [g0]; exact h0)
    | some x =>
      simp only [raw4, h0, Option.bind_some]
      have x1 := (dg_some h0).1
      refine rb_in s (by omega) out j (by omega) _ 0 0 x (by omega) (by omega) (by omega) (by rw [g0]; exact h0) ?_
      refine rb_out s (by omega) out j (by omega) _ 1 _ (by omega) (by omega) (by omega) ?_
      refine rb_out s (by omega) out j (by omega) _ 2 _ (by omega) (by omega) (by omega) ?_
      refine rb_out s (by omega) out j (by omega) _ 3 _ (by omega) (by omega) (by omega) ?_
      refine rb_end s (by omega) out j (by omega) _ _ ?_
      refine rb_next s (by omega) out j (by omega) _ 0 _ (by omega) ?_
      exact rb_last s out (j + 1) (by omega) (by omega)
  | [a, b], j, out, hl, ho, hj3 => by
    have hn : s.length = 4 * j + 2 := by have := congrArg List.length hl; simp at this; omega
    have g0 := getD_drop s _ _ 0 hl
    have g1 := getD_drop s _ _ 1 hl
    refine rb_first s hs out j (by omega) _ ?_
    cases h0 : dg a with
    | none =>
      simp only [raw4, h0, Option.bind_none, fin4_none]
      exact rb_bad s (by omega) out j (by omega) 0 0 (by omega) (by omega) (by rw [g0]; exact h0)
    | some x =>
      have x1 := (dg_some h0).1
      refine rb_in s (by omega) out j (by omega) _ 0 0 x (by omega) (by omega) (by omega) (by rw [g0]; exact h0) ?_
      cases h1 : dg b with
      | none =>
        simp only [raw4, h0, h1, Option.bind_none, Option.bind_some, fin4_none]
        exact rb_bad s (by omega) out j (by omega) 1 _ (by omega) (by omega) (by rw [g1]; exact h1)
      | some y =>
        have y1 := (dg_some h1).1
        simp only [raw4, h0, h1, Option.bind_some]
        refine rb_in s (by omega) out j (by omega) _ 1 _ y (by omega) (by omega) (by omega) (by rw [g1]; exact h1) ?_
        refine rb_out s (by omega) out j (by omega) _ 2 _ (by omega) (by omega) (by omega) ?_
        refine rb_out s (by omega) out j (by omega) _ 3 _ (by omega) (by omega) (by omega) ?_
        refine rb_end s (by omega) out j (by omega) _ _ ?_
        refine rb_put s (by omega) out j (by omega) _ 0 _ (by omega) (by omega) ?_
        refine rb_next s (by omega) _ j (by omega) _ _ _ (by omega) ?_
        rw [show UInt8.ofNat (64 * (64 * (64 * (64 * 0 + x) + y)) / 2 ^ (16 - 8 * 0)) = UInt8.ofNat (x * 4 + y / 16) from ofNat_eq (by simp; omega)]
        exact rb_fin s out _ (j + 1) (by omega) (by rw [List.length_append]; simp; omega)
  | [a, b, c], j, out, hl, ho, hj3 => by
    have hn : s.length = 4 * j + 3 := by have := congrArg List.length hl; simp at this; omega
    have g0 := getD_drop s _ _ 0 hl
    have g1 := getD_drop s _ _ 1 hl
    have g2 := getD_drop s _ _ 2 hl
    refine rb_first s hs out j (by omega) _ ?_
    cases h0 : dg a with
    | none =>
      simp only [raw4, h0, Option.bind_none, fin4_none]
      exact rb_bad s (by omega) out j (by omega) 0 0 (by omega) (by omega) (by rw [g0]; exact h0)
    | some x =>
      have x1 := (dg_some h0).1
      refine rb_in s (by omega) out j (by omega) _ 0 0 x (by omega) (by omega) (by omega) (by rw [g0]; exact h0) ?_
      cases h1 : dg b with
      | none =>
        simp only [raw4, h0, h1, Option.bind_none, Option.bind_some, fin4_none]
        exact rb_bad s (by omega) out j (by omega) 1 _ (by omega) (by omega) (by rw [g1]; exact h1)
      | some y =>
        have y1 := (dg_some h1).1
        refine rb_in s (by omega) out j (by omega) _ 1 _ y (by omega) (by omega) (by omega) (by rw [g1]; exact h1) ?_
        cases h2 : dg c with
        | none =>
          simp only [raw4, h0, h1, h2, Option.bind_none, Option.bind_some, fin4_none]
          exact rb_bad s (by omega) out j (by omega) 2 _ (by omega) (by omega) (by rw [g2]; exact h2)
        | some z =>
          have z1 := (dg_some h2).1
          simp only [raw4, h0, h1, h2, Option.bind_some]
          refine rb_in s (by omega) out j (by omega) _ 2 _ z (by omega) (by omega) (by omega) (by rw [g2]; exact h2) ?_
          refine rb_out s (by omega) out j (by omega) _ 3 _ (by omega) (by omega) (by omega) ?_
          refine rb_end s (by omega) out j (by omega) _ _ ?_
          refine rb_put s (by omega) out j (by omega) _ 0 _ (by omega) (by omega) ?_
          refine rb_put s (by omega) _ j (by omega) _ 1 _ (by omega) (by simp; omega) ?_
          refine rb_next s (by omega) _ j (by omega) _ _ _ (by omega) ?_
          rw [show UInt8.ofNat (64 * (64 * (64 * (64 * 0 + x) + y) + z) / 2 ^ (16 - 8 * 0)) = UInt8.ofNat (x * 4 + y / 16) from ofNat_eq (by simp; omega),
            show UInt8.ofNat (64 * (64 * (64 * (64 * 0 + x) + y) + z) / 2 ^ (16 - 8 * 1)) = UInt8.ofNat (y % 16 * 16 + z / 4) from ofNat_eq (by simp; omega), List.append_assoc]
          exact rb_fin s out _ (j + 1) (by omega) (by rw [List.length_append]; simp; omega)
  | a :: b :: c :: d :: t, j, out, hl, ho, hj3 => by
    have hn : s.length = 4 * j + 4 + t.length := by have := congrArg List.length hl; simp at this; omega
    have g0 := getD_drop s _ _ 0 hl
    have g1 := getD_drop s _ _ 1 hl
    have g2 := getD_drop s _ _ 2 hl
    have g3 := getD_drop s _ _ 3 hl
    refine rb_first s hs out j (by omega) _ ?_
    cases h0 : dg a with
    | none =>
      simp only [raw4, h0, Option.bind_none, fin4_none]
      exact rb_bad s (by omega) out j (by omega) 0 0 (by omega) (by omega) (by rw [g0]; exact h0)
    | some x =>
      have x1 := (dg_some h0).1
      refine rb_in s (by omega) out j (by omega) _ 0 0 x (by omega) (by omega) (by omega) (by rw [g0]; exact h0) ?_
      cases h1 : dg b with
      | none =>
        simp only [raw4, h0, h1, Option.bind_none, Option.bind_some, fin4_none]
        exact rb_bad s (by omega) out j (by omega) 1 _ (by omega) (by omega) (by rw [g1]; exact h1)
      | some y =>
        have y1 := (dg_some h1).1
        refine rb_in s (by omega) out j (by omega) _ 1 _ y (by omega) (by omega) (by omega) (by rw [g1]; exact h1) ?_
        cases h2 : dg c with
        | none =>
          simp only [raw4, h0, h1, h2, Option.bind_none, Option.bind_some, fin4_none]
          exact rb_bad s (by omega) out j (by omega) 2 _ (by omega) (by omega) (by rw [g2]; exact h2)
        | some z =>
          have z1 := (dg_some h2).1
          refine rb_in s (by omega) out j (by omega) _ 2 _ z (by omega) (by omega) (by omega) (by rw [g2]; exact h2) ?_
          cases h3 : dg d with
          | none =>
            simp only [raw4, h0, h1, h2, h3, Option.bind_none, Option.bind_some, fin4_none]
            exact rb_bad s (by omega) out j (by omega) 3 _ (by omega) (by omega) (by rw [g3]; exact h3)
          | some u =>
            have u1 := (dg_some h3).1
            simp only [raw4, h0, h1, h2, h3, Option.bind_some]
            refine rb_in s (by omega) out j (by omega) _ 3 _ u (by omega) (by omega) (by omega) (by rw [g3]; exact h3) ?_
            refine rb_end s (by omega) out j (by omega) _ _ ?_
            refine rb_put s (by omega) out j (by omega) _ 0 _ (by omega) (by omega) ?_
            refine rb_put s (by omega) _ j (by omega) _ 1 _ (by omega) (by simp; omega) ?_
            refine rb_put s (by omega) _ j (by omega) _ 2 _ (by omega) (by simp; omega) ?_
            refine rb_next s (by omega) _ j (by omega) _ _ _ (by omega) ?_
            rw [show UInt8.ofNat ((64 * (64 * (64 * (64 * 0 + x) + y) + z) + u) / 2 ^ (16 - 8 * 0)) = UInt8.ofNat (x * 4 + y / 16) from ofNat_eq (by simp; omega),
              show UInt8.ofNat ((64 * (64 * (64 * (64 * 0 + x) + y) + z) + u) / 2 ^ (16 - 8 * 1)) = UInt8.ofNat (y % 16 * 16 + z / 4) from ofNat_eq (by simp; omega),
              show UInt8.ofNat ((64 * (64 * (64 * (64 * 0 + x) + y) + z) + u) / 2 ^ (16 - 8 * 2)) = UInt8.ofNat (z % 4 * 64 + u) from ofNat_eq (by simp; omega), List.append_assoc, List.append_assoc]
            have ih := rb_l0 s hs t (j + 1) (out ++ [UInt8.ofNat (x * 4 + y / 16), UInt8.ofNat (y % 16 * 16 + z / 4), UInt8.ofNat (z % 4 * 64 + u)]) (by rw [show 4 * (j + 1) = 4 * j + 4 from by omega, ← List.drop_drop, hl]; rfl) (by simp; omega) (by omega)
            rw [← fin4_cons] at ih
            exact ih
theorem rt_bytes (s : List UInt8) (hs : s.length ≤ 1000000000000) : Ev (fun k => heliastref05_Bytes.f k (bs s)) (match un4 s with | none => (([] : List Int), false) | some r => (intsB r, true)) := by
  have h := rb_l0 s hs s 0 [] rfl (by simp) (by omega)
  have e : fin4 s [] (raw4 s) = (match un4 s with | none => (([] : List Int), false) | some r => (intsB r, true)) := by
    rw [← raw_test]
    cases raw4 s with
    | none => rfl
    | some r =>
      simp only [fin4, List.nil_append]
      split <;> rfl
  rw [e] at h
  exact h
end Go.Proofs.Ytnhljemnebgekaa

/-
  The functions Text and Bytes of the reference, as contracts over plain lists.
-/
namespace Go.Proofs.Ytnhljemnebgekaa
open Go.RowKit Sha Go.Proofs.YtnhljemnebgekaaW.PrintWords Go.Proofs.YtnhljemnebgekaaW.PrintLast Go.Proofs.YtnhljemnebgekaaW.PrintMore Rt
set_option linter.unusedSimpArgs false
theorem rt_text_any (a : Option Addr) (c : Nat) (d : List UInt8) (w : World) (h : Rd w a d) (hc : d.length ≤ c) (hl : d.length ≤ 1099511000000) :
    Calls Try.prog 12 #[.slice a d.length c] w fun e w' => e = .returned (.string (bs (text d))) ∧ Below w.heap.size w w' := by
  obtain ⟨k, hk⟩ := (rt_text d hl).rounds
  have h := heliastref05_Text.calls k a c (intsB d) _ w (by rw [intsB_length]; exact h) (by rw [intsB_length]; exact hc) hk
  rwa [intsB_length] at h
def Ext.ref_Text.f (l0 : List Int) : Option ByteArray := if bytesOk l0 = true then some (bs (tx (bytesI l0))) else none
theorem Ext.ref_Text.f_eq (l : List UInt8) (h : l.length ≤ 1099511000000) : Ext.ref_Text.f (intsB l) = some (bs (tx l)) := by
  unfold Ext.ref_Text.f; rw [if_pos (bytesOk_intsB l h), bytesI_intsB]
theorem Ext.ref_Text.calls (A0 : Option Addr) (c0 : Nat) (l0 : List Int) (r : ByteArray) (w : World) (hr0 : Kd.C (Kd.int .u8) w A0 l0.length l0) (hc0 : l0.length ≤ c0) (h : Ext.ref_Text.f l0 = some r) :
    Calls Try.prog 12 #[.slice A0 l0.length c0] w fun e w' => e = .returned (.string r) ∧ Below w.heap.size w w' := by
  unfold Ext.ref_Text.f at h
  split at h
  · rename_i hok
    cases h
    obtain ⟨e, n, b⟩ := bytesOk_rd hok
    have := rt_text_any A0 c0 (bytesI l0) w (by unfold Rd; rw [n, e]; exact hr0) (by omega) (by omega)
    rw [n, text_tx] at this
    exact this
  · cases h
def Ext.ref_Bytes.f (s : ByteArray) : Option (List Int × Bool) := if bytesOkS s = true then some (backOf s) else none
theorem Ext.ref_Bytes.f_eq (s : ByteArray) (h : s.size ≤ 1000000000000) : Ext.ref_Bytes.f s = some (backOf s) := by
  unfold Ext.ref_Bytes.f bytesOkS; rw [if_pos (decide_eq_true h)]
theorem Ext.ref_Bytes.calls (a0 : ByteArray) (r1 : List Int) (r2 : Bool) (w : World) (h : Ext.ref_Bytes.f a0 = some (r1, r2)) :
    Calls Try.prog 30 #[.string a0] w fun e w' => ∃ v0_ : Value, e = .returned (.tuple #[v0_, .bool r2]) ∧ Kd.R (Kd.int .u8) 5 w' w.heap.size (fun _ => True) v0_ r1 ∧ Below w.heap.size w w' := by
  unfold Ext.ref_Bytes.f at h
  split at h
  · rename_i hok
    have hsz : a0.size ≤ 1000000000000 := of_decide_eq_true hok
    obtain ⟨k, hk⟩ := (rt_bytes a0.data.toList hsz).rounds
    rw [bs_list] at hk
    exact heliastref05_Bytes.calls k a0 r1 r2 w (hk.trans h)
  · cases h
end Go.Proofs.Ytnhljemnebgekaa

/-
  What the functions of these laws compute, as plain Lean functions, and that the machine's calls compute it: written by this session's own hook over the kit's print.
-/
namespace Go.Proofs.Ytnhljemnebgekaa.Ps
open Go.RowKit Go.Proofs.YtnhljemnebgekaaW.PrintWords Go.Proofs.YtnhljemnebgekaaW.PrintLast Go.Proofs.YtnhljemnebgekaaW.PrintMore
attribute [local go_sem] u32_sg u32_mx u64_sg u64_mx
attribute [local go_sem] max2_int min2_int max_two min_two max_three min_three max_four min_four   -- for this text's walks alone
set_option linter.unusedVariables false
set_option linter.unusedSimpArgs false

/-! ### heliastlaw05_Fake: function 24 -/
def heliastlaw05_Fake.f (a0 : Int) (a1 : Int) : Option (ByteArray) := if 32 ≤ 281474976710656 then ((some (List.replicate 32 0 : List Int)).bind fun y146 => (if 0 < (y146.length : Int) then (if 31 < (y146.length : Int) then ((Ext.ref_Text.f ((y146.set (0 : Int).toNat a0).set (31 : Int).toNat a1)).bind fun t151 => (if 1 + t151.size ≤ 9223372036854775807 then (some ((⟨#[36]⟩ : ByteArray) ++ t151)) else (none))) else (none)) else (none))) else (none)
set_option maxHeartbeats 8000000 in
set_option maxRecDepth 100000 in
theorem heliastlaw05_Fake.calls (a0 : Int) (a1 : Int) (r : ByteArray) (w : World) (h : heliastlaw05_Fake.f a0 a1 = some r) :
    Calls Try.prog 24 #[.int .u8 a0, .int .u8 a1] w fun e w' => e = .returned (.string r) ∧ Below w.heap.size w w' := by
  have HB := Aside0.mk (Below.refl w.heap.size w)
  have H : (if 32 ≤ 281474976710656 then ((some (List.replicate 32 0 : List Int)).bind fun y146 => (if 0 < (y146.length : Int) then (if 31 < (y146.length : Int) then ((Ext.ref_Text.f ((y146.set (0 : Int).toNat a0).set (31 : Int).toNat a1)).bind fun t151 => (if 1 + t151.size ≤ 9223372036854775807 then (some ((⟨#[36]⟩ : ByteArray) ++ t151)) else (none))) else (none)) else (none))) else (none)) = some r := h
  clear h
  by_cases c3 : 32 ≤ 281474976710656
  · rw [if_pos c3] at H
    have c3b0 := eq_true c3
    have c3b1 : decide (32 ≤ 281474976710656) = true := decide_eq_true c3
    clear c3
    obtain ⟨y146, hy146⟩ : ∃ y_ : List Int, y_ = (List.replicate 32 0) := ⟨_, rfl⟩
    replace H : (if 0 < (y146.length : Int) then (if 31 < (y146.length : Int) then ((Ext.ref_Text.f ((y146.set (0 : Int).toNat a0).set (31 : Int).toNat a1)).bind fun t151 => (if 1 + t151.size ≤ 9223372036854775807 then (some ((⟨#[36]⟩ : ByteArray) ++ t151)) else (none))) else (none)) else (none)) = some r := by first | (rw [hy146]; with_reducible exact H) | (have H2_ := (Option.bind_some _ _).symm.trans H; rw [hy146]; with_reducible exact H2_) | (have H2_ := (Option.bind_some _ _).symm.trans H; with_reducible exact H2_) | with_reducible exact H | (rw [hy146]; exact H) | exact H
    have Ny146 := Aside0.mk hy146
    clear hy146
    by_cases c4 : 0 < (y146.length : Int)
    · rw [if_pos c4] at H
      have c4b0 : decide (0 < (y146.length : Int)) = true := decide_eq_true c4
      have c4b1 : decide (0 < y146.length) = true := decide_eq_true (by omega)
      clear c4
      obtain ⟨y149, hy149⟩ : ∃ y_ : List Int, y_ = (y146.set (0 : Int).toNat a0) := ⟨_, rfl⟩
      replace H : (if 31 < (y146.length : Int) then ((Ext.ref_Text.f (y149.set (31 : Int).toNat a1)).bind fun t151 => (if 1 + t151.size ≤ 9223372036854775807 then (some ((⟨#[36]⟩ : ByteArray) ++ t151)) else (none))) else (none)) = some r := by first | (rw [hy149]; with_reducible exact H) | (have H2_ := (Option.bind_some _ _).symm.trans H; rw [hy149]; with_reducible exact H2_) | (have H2_ := (Option.bind_some _ _).symm.trans H; with_reducible exact H2_) | with_reducible exact H | (rw [hy149]; exact H) | exact H
      have Ny149 := Aside0.mk hy149
      clear hy149
      by_cases c6 : 31 < (y146.length : Int)
      · rw [if_pos c6] at H
        have c6b0 : decide (31 < (y146.length : Int)) = true := decide_eq_true c6
        have c6b1 : decide (31 < y146.length) = true := decide_eq_true (by omega)
        clear c6
        obtain ⟨y150, hy150⟩ : ∃ y_ : List Int, y_ = (y149.set (31 : Int).toNat a1) := ⟨_, rfl⟩
        replace H : ((Ext.ref_Text.f y150).bind fun t151 => (if 1 + t151.size ≤ 9223372036854775807 then (some ((⟨#[36]⟩ : ByteArray) ++ t151)) else (none))) = some r := by first | (rw [hy150]; with_reducible exact H) | (have H2_ := (Option.bind_some _ _).symm.trans H; rw [hy150]; with_reducible exact H2_) | (have H2_ := (Option.bind_some _ _).symm.trans H; with_reducible exact H2_) | with_reducible exact H | (rw [hy150]; exact H) | exact H
        have Ny150 := Aside0.mk hy150
        clear hy150
        replace H := Option.bind_eq_some_iff.mp H
        obtain ⟨t151, A80, H⟩ := H
        replace H : (if 1 + t151.size ≤ 9223372036854775807 then (some ((⟨#[36]⟩ : ByteArray) ++ t151)) else (none)) = some r := H
        have A8 := Aside0.mk A80
        clear A80
        by_cases c9 : 1 + t151.size ≤ 9223372036854775807
        · rw [if_pos c9] at H
          have c9b0 := eq_true c9
          have c9b1 : decide (1 + t151.size ≤ 9223372036854775807) = true := decide_eq_true c9
          try have c9b2 : (9223372036854775807 < 1 + t151.size) = False := eq_false (Nat.not_lt.2 c9)
          obtain rfl := Option.some.inj H
          go_enter Try.func24, Try.ntmps24
          go_wp2_with (first | ((with_reducible refine gate_dst (N := 6) rfl ?_); refine Kd.R_make (Kd.int .u8) _ 5 rfl (N := 6) rfl 22 _ _ rfl 32 rfl rfl Try.underlying22 (.int .u8 0) 1 info5 rfl (by decide) (by omega) 0 (ok := fun _ => True) (okp := fun _ => True) rfl (fun _ hk => hk) trivial (by omega) (by omega) (Below.refl _ _) (Nat.le_refl _) ?_; intro v147 w10 ho11 hb hg_ hnew_; clear hg_ hnew_; (first | rw [← Ny146.out] at ho11 | (simp only [Int.reduceToNat] at ho11; rw [← Ny146.out] at ho11)); have n0_ := Aside0.mk (Kd.R_lower ho11 (below_size (by repeat (first | (with_reducible first | exact HB.out | apply below_alloc | apply pw_below_drewN | apply below_drew1) | exact HB.out)))); have n1_ := Aside0.mk (below_step (by repeat (first | (with_reducible first | exact HB.out | apply below_alloc | apply pw_below_drewN | apply below_drew1) | exact HB.out)) hb); clear HB; have HO148 := n0_; have HB := n1_; clear n0_ n1_; clear hb ho11; have p5 : 0 ≤ (0 : Int) := (by omega); have q5 : (0 : Int) < ((y146.length : Int) : Int) := of_decide_eq_true (by first | (with_reducible assumption) | assumption); have qi5 : (0 < y146.length) = True := eq_true (by omega); obtain ⟨go5, co5, eo5, gb5, gl5, cl5, HG5⟩ := Kd.R_form HO148.out (by omega); (first | cases eo5 | (injection eo5 with ea_ en_ ec_; (first | subst ea_ | (injection ea_ with ea_; subst ea_)); subst ec_; clear en_)); have GB5 := Aside0.mk gb5; have GG5 := Aside0.mk HG5; clear gb5 gl5 HG5; obtain ⟨hx5_0, hf5_0⟩ := Kd.R_celln 0 HO148.out (0 : Int) p5 q5; (try rw [show ((0 : Int)).toNat = 0 from rfl] at hx5_0); (try simp only [Nat.reduceMul, Nat.zero_mul, Nat.zero_add, Nat.reduceAdd] at hx5_0); (try rw [show ((0 : Int)).toNat = 0 from rfl] at hf5_0); (try simp only [Nat.reduceMul, Nat.zero_mul, Nat.zero_add, Nat.reduceAdd] at hf5_0); replace p5 := eq_true p5; replace q5 := eq_true q5; obtain ⟨hy12_, hz12_⟩ := Kd.R_celln 0 HO148.out (0 : Int) (by omega) (of_decide_eq_true (by first | (with_reducible assumption) | assumption)); (try simp only [Int.reduceToNat, Int.toNat_zero, Int.toNat_ofNat, Nat.reduceMul, Nat.zero_mul, Nat.zero_add] at hy12_ hz12_); (try rw [show ((0 : Int)).toNat = 0 from rfl] at hy12_); (try rw [show ((0 : Int)).toNat = 0 from rfl] at hz12_); have HP12 := Kd.R_putg HO148.out (0 : Int) a0) | ((with_reducible refine gate_store (t := 5) (p := 9) rfl ?_); refine store_event (t := 5) (p := 9) (v := ?vo_w13) (w1 := (w10.setCell ⟨go5, (0 : Int).toNat, none⟩ (.int .u8 a0))) ?hg ?ho ?hn ?hr ?_; (case ho => rfl); (case hg => rfl); (case hn => rfl); (case hr => first | (go_simp; done) | (go_simp; rfl)); intro w13 hw; have hg : w10.grownBy w13 (some go5) := (by rw [hw]; exact HP12.2); have hp_ : Kd.R (Kd.int .u8) 5 w13 w.heap.size (fun _ => True) (.slice (some ⟨go5, 0, none⟩) y146.length co5) y149 := (by rw [hw, Ny149.out]; exact HP12.1); clear HP12; have n0_ := Aside0.mk (hp_); have n1_ := Aside0.mk ((by rw [hw]; exact below_set (HB.out) GB5.out : Below w.heap.size w w13)); clear HO148; clear HB; have HO148 := n0_; have HB := n1_; clear n0_ n1_; clear hg hw hp_; have p7 : 0 ≤ (31 : Int) := (by omega); have q7 : (31 : Int) < ((y146.length : Int) : Int) := of_decide_eq_true (by first | (with_reducible assumption) | assumption); have qi7 : (31 < y146.length) = True := eq_true (by omega); obtain ⟨hx7_0, hf7_0⟩ := Kd.R_celln 0 HO148.out (31 : Int) p7 q7; (try rw [show ((31 : Int)).toNat = 31 from rfl] at hx7_0); (try simp only [Nat.reduceMul, Nat.zero_mul, Nat.zero_add, Nat.reduceAdd] at hx7_0); (try rw [show ((31 : Int)).toNat = 31 from rfl] at hf7_0); (try simp only [Nat.reduceMul, Nat.zero_mul, Nat.zero_add, Nat.reduceAdd] at hf7_0); replace p7 := eq_true p7; replace q7 := eq_true q7; obtain ⟨hy14_, hz14_⟩ := Kd.R_celln 0 HO148.out (31 : Int) (by omega) (of_decide_eq_true (by first | (with_reducible assumption) | assumption)); (try simp only [Int.reduceToNat, Int.toNat_zero, Int.toNat_ofNat, Nat.reduceMul, Nat.zero_mul, Nat.zero_add] at hy14_ hz14_); (try rw [show ((31 : Int)).toNat = 31 from rfl] at hy14_); (try rw [show ((31 : Int)).toNat = 31 from rfl] at hz14_); have HP14 := Kd.R_putg HO148.out (31 : Int) a1) | ((with_reducible refine gate_store (t := 5) (p := 12) rfl ?_); refine store_event (t := 5) (p := 12) (v := ?vo_w15) (w1 := (w13.setCell ⟨go5, (31 : Int).toNat, none⟩ (.int .u8 a1))) ?hg ?ho ?hn ?hr ?_; (case ho => rfl); (case hg => rfl); (case hn => rfl); (case hr => first | (go_simp; done) | (go_simp; rfl)); intro w15 hw; have hg : w13.grownBy w15 (some go5) := (by rw [hw]; exact HP14.2); have hp_ : Kd.R (Kd.int .u8) 5 w15 w.heap.size (fun _ => True) (.slice (some ⟨go5, 0, none⟩) y146.length co5) y150 := (by rw [hw, Ny150.out]; exact HP14.1); clear HP14; have n0_ := Aside0.mk (hp_); have n1_ := Aside0.mk ((by rw [hw]; exact below_set (HB.out) GB5.out : Below w.heap.size w w15)); clear HO148; clear HB; have HO148 := n0_; have HB := n1_; clear n0_ n1_; clear hg hw hp_) | ((with_reducible refine gate_callee (f := 12) rfl ?_); refine goesL_ (some 14) rfl rfl Try.func12 (by kernel_rfl) rfl #[.slice (some ⟨go5, 0, none⟩) y150.length co5] rfl (by (try simp only [List.map_toArray, List.map_cons, List.map_nil]); first | done | (rw [show y150.length = y146.length from (Kd.R_reads' HO148.out).1.symm] <;> rfl) | rfl | (simp only [List.length_drop, List.length_take]; rfl)) ?_; (with_reducible refine (Ext.ref_Text.calls _ _ y150 t151 _ ?side1 ?side2 A8.out).mono ?_); (case side1 => repeat (first | exact (Kd.R_reads' HO148.out).2.2 | (with_reducible refine Kd.C_alloc ?_ _) | (with_reducible refine Kd.C_drewN ?_ _) | (with_reducible refine Kd.C_drew ?_))); (case side2 => rw [show y150.length = y146.length from (Kd.R_reads' HO148.out).1.symm]; exact (Kd.R_reads' HO148.out).2.1); rintro e w16 ⟨rfl, hb⟩; refine ⟨_, rfl, ?_⟩; have n0_ := Aside0.mk (Kd.R_below (by (with_reducible repeat (first | apply Kd.R_alloc | apply Kd.R_drewN | apply Kd.R_drew)); exact HO148.out) hb); have n1_ := Aside0.mk (below_step (by repeat (first | (with_reducible first | exact HB.out | apply below_alloc | apply pw_below_drewN | apply below_drew1) | exact HB.out)) hb); clear HO148; clear HB; have HO148 := n0_; have HB := n1_; clear n0_ n1_; (try clear hb); (try clear hb2); (try clear hk); (try clear hi)))
          go_ret
          exact ⟨by first | rfl | (simp [errW_none, errW_some] <;> rfl) | (simp [*, errW_none, errW_some] <;> rfl), by repeat (first | (with_reducible first | exact HB.out | apply below_alloc | apply pw_below_drewN | apply below_drew1) | exact HB.out)⟩
        · rw [if_neg c9] at H
          exact absurd H (by simp)
      · rw [if_neg c6] at H
        exact absurd H (by simp)
    · rw [if_neg c4] at H
      exact absurd H (by simp)
  · rw [if_neg c3] at H
    exact absurd H (by simp)

end Go.Proofs.Ytnhljemnebgekaa.Ps

/-
  A slice of bytes that came in, as a list.
-/
namespace Go.Proofs.Ytnhljemnebgekaa
open Go.RowKit Sha Go.Proofs.YtnhljemnebgekaaW.PrintWords Go.Proofs.YtnhljemnebgekaaW.PrintLast
theorem rd_of_row {W : World} {a : Option Addr} {zs : List Int} (h : RowAt W a (zs.map (.int .u8))) (hw : ∀ z ∈ zs, (Lit.int .u8 z).wf = true) (hm : zs.length ≤ 9223372036854775807) : ∃ l : List UInt8, l.length = zs.length ∧ Rd W a l := by
  obtain ⟨l, rfl⟩ := bytes_wf hw
  refine ⟨l, by simp, ?_⟩
  have hl : (l.map fun c : UInt8 => (c.toNat : Int)).length = l.length := by simp
  rw [hl] at hm
  refine Kd.C_of_reads (d := (0 : Int)) ⟨intsB_length l, hm, fun hp => ?_⟩
  obtain ⟨b, off, e, _, hc⟩ := h (by simpa using hp)
  refine ⟨_, e, fun j hj => ?_⟩
  rw [Addr.add_mid, hc j (by simpa using hj)]
  simp [intsB, List.getD_eq_getElem?_getD, List.getElem?_eq_getElem hj]
theorem rd_at {w : World} {a : Option Addr} {l : List UInt8} (h : Rd w a l) (hp : 0 < l.length) : ∃ b off, a = some ⟨b, off, none⟩ ∧ b < w.heap.size ∧ ∀ w', Below w.heap.size w w' → ∀ j, j < l.length → w'.cell? ⟨b, off + j, none⟩ = some (.int .u8 ((l.getD j 0).toNat : Int)) := by
  obtain ⟨b, off, e, hb, hc⟩ := h.bytesAt hp
  refine ⟨b, off, e, hb, fun w' hbl j hj => ?_⟩
  rw [hbl.cell (p := ⟨b, off + j, none⟩) hb, hc j hj, List.getD_eq_getElem?_getD, List.getElem?_eq_getElem hj]
  rfl
theorem drewN_below (W : World) (n : Nat) : Below W.heap.size W (W.drewN n) := ⟨rfl, rfl, rfl, Nat.le_refl _, fun _ _ => rfl⟩
end Go.Proofs.Ytnhljemnebgekaa

/-
  The law SealNamed, walked: a name is a dollar and 43 signs, of which the last one ends in two bits 0; of no other length.
-/
namespace Go.Proofs.Ytnhljemnebgekaa
open Go.RowKit Sha Go.Proofs.YtnhljemnebgekaaW.PrintWords Go.Proofs.YtnhljemnebgekaaW.PrintLast Go.Proofs.YtnhljemnebgekaaW.PrintMore Ps
set_option linter.unusedSimpArgs false
set_option linter.unusedVariables false
theorem known_any (w : World) : Calls Try.prog 10 #[] w fun e w' => e = .returned (.bool true) ∧ Below w.heap.size w w' := by
  obtain ⟨k, hk⟩ := ps_known.rounds
  exact heliastlaw05_known.calls k true w hk
theorem named_any (s : ByteArray) (hs : s.size ≤ 1000000000000) (w : World) : Calls Try.prog 20 #[.string s] w fun e w' => e = .returned (.bool (namedOf s.data.toList)) ∧ Below w.heap.size w w' := by
  have h := ps_named s.data.toList hs
  rw [bs_list] at h
  exact seal_Named.calls s _ w h
theorem named_tx (b : List UInt8) : namedOf (36 :: tx b) = (b.length == 32) := by
  rw [namedOf_cons, un4_tx]
  rfl
theorem fake_any (x : UInt8) (w : World) : Calls Try.prog 24 #[.int .u8 x.toNat, .int .u8 1] w fun e w' => (∃ t : ByteArray, e = .returned (.string t) ∧ t.size ≤ 1000 ∧ namedOf t.data.toList = true) ∧ Below w.heap.size w w' := by
  obtain ⟨L, hL⟩ : ∃ L : List UInt8, ((List.replicate 32 (0 : UInt8)).set 0 x).set 31 1 = L := ⟨_, rfl⟩
  have hl : L.length = 32 := by rw [← hL]; simp
  have hi : ((List.replicate 32 (0 : Int)).set (0 : Int).toNat (x.toNat : Int)).set (31 : Int).toNat 1 = intsB L := by
    rw [← hL]
    rfl
  have hf : heliastlaw05_Fake.f (x.toNat : Int) 1 = some ((⟨#[36]⟩ : ByteArray) ++ bs (tx L)) := by
    unfold heliastlaw05_Fake.f
    rw [if_pos (by omega), Option.bind_some, if_pos (by simp), if_pos (by simp), hi, Ext.ref_Text.f_eq L (by omega), Option.bind_some, if_pos (by rw [bs_size, tx_length]; omega)]
  refine (heliastlaw05_Fake.calls _ _ _ w hf).mono fun e w' ⟨h1, h2⟩ => ⟨⟨_, h1, ?_, ?_⟩, h2⟩
  · rw [show (⟨#[36]⟩ : ByteArray) = bs [36] from rfl, bs_snoc, bs_size, List.length_append, tx_length]
    simp; omega
  · rw [show (⟨#[36]⟩ : ByteArray) = bs [36] from rfl, bs_snoc]
    show namedOf (36 :: tx L) = true
    rw [named_tx, hl]
    rfl
/-- The choices' numbers. -/
def vAt (c : List UInt8) (i : Nat) : Nat := if i < c.length then (c.getD i 0).toNat % 64 else 0
theorem vAt_lt (c : List UInt8) (i : Nat) : vAt c i < 64 := by
  unfold vAt
  split
  · exact Nat.mod_lt _ (by omega)
  · omega
def vList (c : List UInt8) (k : Nat) : List Nat := (List.range k).map (vAt c)
theorem vList_succ (c : List UInt8) (k : Nat) : vList c (k + 1) = vList c k ++ [vAt c k] := by simp [vList, List.range_succ]
theorem vList_length (c : List UInt8) (k : Nat) : (vList c k).length = k := by simp [vList]
theorem vList_lt (c : List UInt8) (k : Nat) : ∀ v ∈ vList c k, v < 64 := by
  intro v hv
  obtain ⟨i, _, rfl⟩ := List.mem_map.1 hv
  exact vAt_lt c i
def sTo (c : List UInt8) (k : Nat) : ByteArray := bs (36 :: (vList c k).map sg)
theorem sTo_size (c : List UInt8) (k : Nat) : (sTo c k).size = k + 1 := by unfold sTo; rw [bs_size]; simp [vList_length]
theorem sTo_succ (c : List UInt8) (k : Nat) : sTo c (k + 1) = sTo c k ++ SG.extract (vAt c k) (vAt c k + 1) := by
  unfold sTo
  rw [signs_piece _ (vAt_lt c k), bs_snoc, vList_succ, List.map_append]
  rfl
theorem sTo_zero (c : List UInt8) : sTo c 0 = ⟨#[36]⟩ := rfl
theorem named_signs (vs : List Nat) (h : ∀ v ∈ vs, v < 64) : namedOf (36 :: vs.map sg) = (wantOf vs.length (vs.getD (vs.length - 1) 0) && vs.length * 3 / 4 == 32) := by
  rw [namedOf_cons, named1_signs vs h]
  rfl
theorem sg_dollar : ∀ v, v < 64 → (sg v == 36) = false := by decide
theorem wantOf43 (u : Nat) : wantOf 43 u = (u % 4 == 0) := rfl
set_option maxRecDepth 100000 in
set_option maxHeartbeats 2000000 in
theorem sealNamed_walk (a0 : Option Addr) (len0 cap0 : Nat) (z0 : List Int) (a1 : Option Addr) (len1 cap1 : Nat) (z1 : List Int) (a2 : Int) (W : World)
    (x0 : z0.length = len0) (y0 : RowAt W a0 (z0.map (.int .u8))) (u0 : ∀ z ∈ z0, (Lit.int .u8 z).wf = true) (b0 : len0 * 1 ≤ 140737488351232) (c0 : len0 ≤ cap0) (m0 : cap0 ≤ maxLen)
    (x1 : z1.length = len1) (y1 : RowAt W a1 (z1.map (.int .u8))) (u1 : ∀ z ∈ z1, (Lit.int .u8 z).wf = true) (b1 : len1 * 1 ≤ 140737488351232) (c1 : len1 ≤ cap1) (m1 : cap1 ≤ maxLen) (w2 : (Lit.int .u8 a2).wf = true) :
    Calls Try.prog 8 #[.slice a0 len0 cap0, .slice a1 len1 cap1, .int .u8 a2] W fun e w' => e = .returned (.bool true) ∧ Below W.heap.size W w' := by
  unfold maxLen at m0 m1
  obtain ⟨b, hbl, hrb⟩ := rd_of_row y0 u0 (by omega)
  obtain ⟨c, hcl, hrc⟩ := rd_of_row y1 u1 (by omega)
  obtain ⟨x, rfl⟩ := wf_byte a2 w2
  rw [x0] at hbl
  rw [x1] at hcl
  clear x0 y0 u0 x1 y1 u1 w2
  have HBL := Lib.hid hbl; have HCL := Lib.hid hcl; have HRB := Lib.hid hrb; have HRC := Lib.hid hrc
  clear hbl hcl hrb hrc
  by_cases hbig : 50 < len0
  · go_enter Try.func8, Try.ntmps8
    go_wp2_with fail
    refine (known_any _).mono ?_
    rintro e w1 ⟨rfl, hb1⟩
    go_wp2_with fail
    go_ret
    exact ⟨rfl, hb1⟩
  · have hcell : ∀ j, j < len1 → ∃ g o, a1 = some ⟨g, o, none⟩ ∧ W.cell? ⟨g, o + j, none⟩ = some (.int .u8 ((c.getD j 0).toNat : Int)) := fun j hj => by
      obtain ⟨g, o, e, _, h⟩ := rd_at HRC.out (by rw [HCL.out]; omega)
      exact ⟨g, o, e, h W (Below.refl _ _) j (by rw [HCL.out]; exact hj)⟩
    have HC := Lib.hid hcell
    clear hcell
    have hxl := x.toNat_lt
    go_enter Try.func8, Try.ntmps8
    go_wp2_with fail
    go_loopw [7, 8, 9] (fun s i _ wr => ∃ k q : Nat, k ≤ 42 ∧ i = .int .i64 k ∧ s = .string (sTo c k) ∧ wr = W.drewN q) (fun _ i _ _ => 42 - (intOf i).toNat)
    case atStart => exact ⟨0, 0, by omega, rfl, rfl, rfl⟩
    case round =>
      obtain ⟨k, q, hk, rfl, rfl, rfl⟩ := hrel
      obtain ⟨S, hS⟩ : ∃ S, sTo c k = S := ⟨_, rfl⟩
      have hSs : S.size = k + 1 := by rw [← hS, sTo_size]
      have hSz : S.size ≤ 100 := by omega
      have HSS := Lib.hid hSs
      clear hSs
      by_cases hlt : k < 42
      · have hsu := sTo_succ c k
        rw [hS] at hsu ⊢
        by_cases hin : k < len1
        · obtain ⟨g, o, rfl, hcj⟩ := HC.out k hin
          have hva : vAt c k = (c.getD k 0).toNat % 64 := by unfold vAt; rw [if_pos (by rw [HCL.out]; exact hin)]
          obtain ⟨y, hy⟩ : ∃ y, c.getD k 0 = y := ⟨_, rfl⟩
          rw [hy] at hcj hva
          have hyl := y.toNat_lt
          obtain ⟨v, hv⟩ : ∃ v, y.toNat % 64 = v := ⟨_, rfl⟩
          have hv64 : v < 64 := by rw [← hv]; exact Nat.mod_lt _ (by omega)
          have e1 : (y.toNat : Int) % 64 = (v : Int) := by omega
          have hvi : (v : Int) < 64 := by omega
          have hvj : (v : Int) + 1 ≤ 64 := by omega
          rw [hva, hv] at hsu
          have HSU := Lib.hid hsu; have HS := Lib.hid hS
          clear hsu hS hy hva hv
          go_wp2_with fail
          go_roundw
          case rel => exact ⟨k + 1, _, by omega, by go_num, by rw [HSU.out]; rfl, rfl⟩
          case measure => simp [intOf]; omega
        · have hva : vAt c k = 0 := by unfold vAt; rw [if_neg (by rw [HCL.out]; exact hin)]
          rw [hva] at hsu
          have HSU := Lib.hid hsu; have HS := Lib.hid hS
          clear hsu hS hva
          go_wp2_with fail
          go_roundw
          case rel => exact ⟨k + 1, _, by omega, by go_num, by rw [HSU.out]; rfl, rfl⟩
          case measure => simp [intOf]; omega
      · obtain rfl : k = 42 := by omega
        rw [hS]
        obtain ⟨u, hu⟩ : ∃ u, x.toNat % 64 = u := ⟨_, rfl⟩
        have hu64 : u < 64 := by rw [← hu]; exact Nat.mod_lt _ (by omega)
        have e1 : (x.toNat : Int) % 64 = (u : Int) := by omega
        have e2 : IntKind.u8.wrap ((u : Int) + 1) = ((u + 1 : Nat) : Int) := by rw [IntKind.wrap_u8]; omega
        have e3 : (x.toNat : Int) % 4 = ((x.toNat % 4 : Nat) : Int) := by omega
        have hui : (u : Int) < 64 := by omega
        have hs1 : S = bs (36 :: (vList c 42).map sg) := by rw [← hS]; rfl
        obtain ⟨t, ht⟩ : ∃ t, S ++ SG.extract u (u + 1) = t := ⟨_, rfl⟩
        have ht1 : t = bs (36 :: (vList c 42 ++ [u]).map sg) := by
          rw [← ht, hs1, signs_piece u hu64, bs_snoc, List.map_append]
          rfl
        have htv : ∀ v ∈ vList c 42 ++ [u], v < 64 := fun v hv => by
          rcases List.mem_append.1 hv with h | h
          · exact vList_lt c 42 v h
          · rw [List.mem_singleton] at h; omega
        have htl : (vList c 42 ++ [u]).length = 43 := by rw [List.length_append, vList_length]; rfl
        have htz : t.size ≤ 200 := by rw [ht1, bs_size, List.length_cons, List.length_map, htl]; omega
        have n1 : namedOf S.data.toList = false := by
          rw [hs1]
          show namedOf (36 :: (vList c 42).map sg) = false
          rw [named_signs _ (vList_lt c 42), vList_length]
          simp
        have n2 : namedOf t.data.toList = (u % 4 == 0) := by
          rw [ht1]
          show namedOf (36 :: (vList c 42 ++ [u]).map sg) = _
          rw [named_signs _ htv, htl, wantOf43]
          have hg : (vList c 42 ++ [u]).getD (43 - 1) 0 = u := by
            rw [List.getD_eq_getElem?_getD, List.getElem?_append_right (by rw [vList_length]; omega), vList_length]
            rfl
          rw [hg]
          simp
        have n3 : namedOf (t ++ ⟨#[65]⟩).data.toList = false := by
          have e : t ++ (⟨#[65]⟩ : ByteArray) = bs (36 :: (vList c 42 ++ [u] ++ [0]).map sg) := by
            rw [ht1, show (⟨#[65]⟩ : ByteArray) = bs [65] from rfl, bs_snoc, List.map_append (l₂ := [0])]
            rfl
          rw [e]
          show namedOf (36 :: (vList c 42 ++ [u] ++ [0]).map sg) = false
          rw [named_signs _ (fun v hv => by
            rcases List.mem_append.1 hv with h | h
            · exact htv v h
            · rw [List.mem_singleton] at h; omega), List.length_append, htl]
          simp
        have n4 : namedOf (t.extract 1 t.size).data.toList = false := by
          rw [ht1, bs_extract, bs_size, List.take_length]
          show namedOf ((vList c 42 ++ [u]).map sg) = false
          have hne : vList c 42 ++ [u] = vAt c 0 :: ((List.range' 1 41).map (vAt c) ++ [u]) := rfl
          rw [hne, List.map_cons, namedOf_cons, sg_dollar _ (vAt_lt c 0)]
          rfl
        have n5 : namedOf (bs (idOf t.data.toList)).data.toList = true := by
          show namedOf (idOf t.data.toList) = true
          unfold idOf
          rw [text_tx, named_tx, Sha.sum_length]
          rfl
        have e4 : (u % 4 == 0) = ((x.toNat % 4 : Nat) == 0) := by rw [← hu]; congr 1; omega
        have n6 : namedOf (⟨#[36]⟩ ++ bs (text b)).data.toList = (len0 == 32) := by
          rw [show (⟨#[36]⟩ : ByteArray) = bs [36] from rfl, bs_snoc, text_tx]
          show namedOf (36 :: tx b) = _
          rw [named_tx, HBL.out]
        have HT := Lib.hid (show S ++ (⟨#[65, 66, 67, 68, 69, 70, 71, 72, 73, 74, 75, 76, 77, 78, 79, 80, 81, 82, 83, 84, 85, 86, 87, 88, 89, 90, 97, 98, 99, 100, 101, 102, 103, 104, 105, 106, 107, 108, 109, 110, 111, 112, 113, 114, 115, 116, 117, 118, 119, 120, 121, 122, 48, 49, 50, 51, 52, 53, 54, 55, 56, 57, 45, 95]⟩ : ByteArray).extract u (u + 1) = t from ht)
        have N1 := Lib.hid n1; have N2 := Lib.hid n2; have N3 := Lib.hid n3; have N4 := Lib.hid n4; have N6 := Lib.hid n6; have E4 := Lib.hid e4
        have htx := fun w1 (hb : Below W.heap.size W w1) => text_bs a0 cap0 b w1 (HRB.out.below hb) (by rw [HBL.out]; exact c0) (by rw [HBL.out]; omega)
        rw [HBL.out] at htx
        obtain ⟨T, hT⟩ : ∃ T, bs (text b) = T := ⟨_, rfl⟩
        have hTz : T.size ≤ 200 := by rw [← hT, bs_size, text_tx, tx_length, HBL.out]; omega
        rw [hT] at htx
        rw [hT] at N6
        obtain ⟨I, hI⟩ : ∃ I, bs (idOf t.data.toList) = I := ⟨_, rfl⟩
        have hIz : I.size ≤ 200 := by rw [← hI]; unfold idOf; rw [bs_size, List.length_cons, text_tx, tx_length, Sha.sum_length]; omega
        have htp : 1 ≤ t.size := by rw [ht1, bs_size, List.length_cons]; omega
        rw [hI] at n5
        have N5 := Lib.hid n5
        have HTP := Lib.hid htp; have HI := Lib.hid hI
        have HTX := Lib.hid htx; have HTT := Lib.hid hT
        clear hI htp
        clear n1 n2 n3 n4 n5 n6 e4 ht ht1 hs1 htv htl hu htx hT hS
        go_wp2_with fail
        rw [HT.out]
        refine (known_any _).mono ?_
        rintro e w1 ⟨rfl, hb1⟩
        have HB1 := Lib.hid (below_trans (drewN_below W q) hb1)
        clear hb1
        go_wp2_with fail
        refine (HTX.out _ HB1.out).mono ?_
        rintro e w2 ⟨rfl, hb2⟩
        have HB2 := Lib.hid (below_trans HB1.out hb2)
        clear hb2
        go_wp2_with fail
        refine (named_any _ (by rw [ByteArray.size_append]; have : (⟨#[36]⟩ : ByteArray).size = 1 := rfl; omega) _).mono ?_
        rintro e w3 ⟨rfl, hb3⟩
        obtain ⟨r, hr⟩ : ∃ r, (len0 == 32) = r := ⟨_, rfl⟩
        have hr2 : ((len0 : Int) == 32) = r := by
          rw [← hr, Bool.eq_iff_iff]
          simp only [beq_iff_eq]
          omega
        obtain ⟨r2, hr3⟩ : ∃ r2, (u % 4 == 0) = r2 := ⟨_, rfl⟩
        have hr4 : ((x.toNat : Int) % 4 == 0) = r2 := by
          rw [← hr3, E4.out, Bool.eq_iff_iff]
          simp only [beq_iff_eq]
          omega
        rw [N6.out, hr]
        have HB3 := Lib.hid (below_trans HB2.out hb3); have HR3 := Lib.hid hr3
        clear hb3 hr hr3 e3
        go_wp2_with fail
        refine (named_any t (by omega) _).mono ?_
        rintro e w4 ⟨rfl, hb4⟩
        rw [N2.out, HR3.out]
        have HB4 := Lib.hid (below_trans HB3.out hb4)
        clear hb4
        go_wp2_with fail
        refine (named_any S (by omega) _).mono ?_
        rintro e w5 ⟨rfl, hb5⟩
        rw [N1.out]
        have HB5 := Lib.hid (below_trans HB4.out hb5)
        clear hb5
        go_wp2_with fail
        refine (named_any _ (by rw [ByteArray.size_append]; have : (⟨#[65]⟩ : ByteArray).size = 1 := rfl; omega) _).mono ?_
        rintro e w6 ⟨rfl, hb6⟩
        rw [N3.out]
        have HB6 := Lib.hid (below_trans HB5.out hb6)
        clear hb6
        have htp : (1 : Int) ≤ (t.size : Int) := by have := HTP.out; omega
        go_wp2_with fail
        refine (named_any _ (by rw [ByteArray.size_extract]; omega) _).mono ?_
        rintro e w7 ⟨rfl, hb7⟩
        rw [N4.out]
        have HB7 := Lib.hid (below_trans HB6.out hb7)
        clear hb7
        go_wp2_with fail
        refine (sid_any t (by omega) _).mono ?_
        rintro e w8 ⟨rfl, hb8⟩
        have HB8 := Lib.hid (below_trans HB7.out hb8)
        clear hb8
        rw [HI.out]
        go_wp2_with fail
        refine (named_any I (by omega) _).mono ?_
        rintro e w9 ⟨rfl, hb9⟩
        rw [N5.out]
        have HB9 := Lib.hid (below_trans HB8.out hb9)
        clear hb9
        go_wp2_with fail
        refine (fake_any x _).mono ?_
        rintro e w10 ⟨⟨F, rfl, hFz, hFn⟩, hb10⟩
        have HB10 := Lib.hid (below_trans HB9.out hb10); have HFN := Lib.hid hFn
        clear hb10 hFn
        go_wp2_with fail
        refine (named_any F (by omega) _).mono ?_
        rintro e w11 ⟨rfl, hb11⟩
        rw [HFN.out]
        have HB11 := Lib.hid (below_trans HB10.out hb11)
        clear hb11
        go_wp2_with fail
        go_ret
        exact ⟨rfl, HB11.out⟩
end Go.Proofs.Ytnhljemnebgekaa

/-
  What the functions of these laws compute, as plain Lean functions, and that the machine's calls compute it: written by this session's own hook over the kit's print.
-/
namespace Go.Proofs.Ytnhljemnebgekaa.Rs
open Go.RowKit Go.Proofs.YtnhljemnebgekaaW.PrintWords Go.Proofs.YtnhljemnebgekaaW.PrintLast Go.Proofs.YtnhljemnebgekaaW.PrintMore
attribute [local go_sem] u32_sg u32_mx u64_sg u64_mx
attribute [local go_sem] max2_int min2_int max_two min_two max_three min_three max_four min_four   -- for this text's walks alone
set_option linter.unusedVariables false
set_option linter.unusedSimpArgs false



def errW : Option Int → Value
  | none => .nilIface
  | some c => .iface 0 (.int .i64 c)
theorem errW_none : errW none = .nilIface := rfl
theorem errW_some (c : Int) : errW (some c) = .iface 0 (.int .i64 c) := rfl

-- the values' own types

end Go.Proofs.Ytnhljemnebgekaa.Rs

/-
  What the functions of these laws compute, as plain Lean functions, and that the machine's calls compute it: written by this session's own hook over the kit's print.
-/
namespace Go.Proofs.Ytnhljemnebgekaa.Rs
open Go.RowKit Go.Proofs.YtnhljemnebgekaaW.PrintWords Go.Proofs.YtnhljemnebgekaaW.PrintLast Go.Proofs.YtnhljemnebgekaaW.PrintMore
attribute [local go_sem] u32_sg u32_mx u64_sg u64_mx
attribute [local go_sem] max2_int min2_int max_two min_two max_three min_three max_four min_four   -- for this text's walks alone
set_option linter.unusedVariables false
set_option linter.unusedSimpArgs false

/-! ### heliastref04_Same: function 13 -/
def heliastref04_Same.l0 : Nat → List Int → List Int → Int → Option (Bool)
  | 0, _, _, _ => none
  | k + 1, x0, x1, x5 => if x5 < (x0.length : Int) then (if 0 ≤ x5 then (if x5 < (x1.length : Int) then (if (rd x0 x5) = (rd x1 x5) then (heliastref04_Same.l0 k x0 x1 (wrap64 (x5 + 1))) else (some false)) else (none)) else (none)) else (some true)
def heliastref04_Same.f (k : Nat) (l0 : List Int) (l1 : List Int) : Option (Bool) := if (l0.length : Int) = (l1.length : Int) then (heliastref04_Same.l0 k l0 l1 0) else (some false)
theorem heliastref04_Same.mono_l : ∀ k, (∀ y0 y1 y2, LeO (heliastref04_Same.l0 k y0 y1 y2) (heliastref04_Same.l0 (k + 1) y0 y1 y2))
  | 0 => fun _ _ _ r h => by simp [heliastref04_Same.l0] at h
  | k + 1 => by
    have ih0 := heliastref04_Same.mono_l k
    · intro y0 y1 y2
      unfold heliastref04_Same.l0
      repeat' first
      | (with_reducible exact ih0 _ _ _)
      | (with_reducible exact LeO.refl _)
      | (with_reducible exact LeO.none _)
      | (with_reducible refine LeO.ite ?_ ?_)
      | (with_reducible refine LeO.bind ?_ (fun _ => ?_))
      | exact ih0 _ _ _
      | exact LeO.none _
      | refine LeO.ite ?_ ?_
      | refine LeO.bind ?_ (fun _ => ?_)
theorem heliastref04_Same.mono : ∀ a0 a1 k, LeO (heliastref04_Same.f k a0 a1) (heliastref04_Same.f (k + 1) a0 a1) := by
  intro a0 a1 k
  have ih0 := heliastref04_Same.mono_l k
  unfold heliastref04_Same.f
  repeat' first
      | (with_reducible exact ih0 _ _ _)
      | (with_reducible exact LeO.refl _)
      | (with_reducible exact LeO.none _)
      | (with_reducible refine LeO.ite ?_ ?_)
      | (with_reducible refine LeO.bind ?_ (fun _ => ?_))
      | exact ih0 _ _ _
      | exact LeO.none _
      | refine LeO.ite ?_ ?_
      | refine LeO.bind ?_ (fun _ => ?_)
set_option maxHeartbeats 8000000 in
set_option maxRecDepth 100000 in
theorem heliastref04_Same.calls (k : Nat) (A0 : Option Addr) (c0 : Nat) (l0 : List Int) (A1 : Option Addr) (c1 : Nat) (l1 : List Int) (r : Bool) (w : World) (hr0 : Kd.C (Kd.int .u8) w A0 l0.length l0) (hc0 : l0.length ≤ c0) (hr1 : Kd.C (Kd.int .u8) w A1 l1.length l1) (hc1 : l1.length ≤ c1) (h : heliastref04_Same.f k l0 l1 = some r) :
    Calls Try.prog 13 #[.slice A0 l0.length c0, .slice A1 l1.length c1] w fun e w' => e = .returned (.bool r) ∧ Drawn0 w w' := by
  have HR0 := Aside0.mk hr0
  have HC0 := Aside0.mk hc0
  clear hr0 hc0
  have HR1 := Aside0.mk hr1
  have HC1 := Aside0.mk hc1
  clear hr1 hc1
  have H : (if (l0.length : Int) = (l1.length : Int) then (heliastref04_Same.l0 k l0 l1 0) else (some false)) = some r := h
  clear h
  by_cases c3 : (l0.length : Int) = (l1.length : Int)
  · rw [if_pos c3] at H
    have c3b0 : ((l0.length : Int) == (l1.length : Int)) = true := beq_iff_eq.mpr c3
    have c3b1 : ((l0.length : Int) != (l1.length : Int)) = false := bne_eq_false_iff_eq.mpr c3
    have c3b2 : (l0.length == l1.length) = true := by first | simpa using c3 | (simp at c3 ⊢; omega)
    clear c3
    have H' := Aside0.mk H
    clear H
    go_enter Try.func13, Try.ntmps13
    go_wp2
    repeat (go_quiet (fail); try go_wp2)
    go_loopg [5] k (fun kq v5 w' => ∃ (x5_1 : Int), v5 = .int .i64 x5_1 ∧ Aside0 (heliastref04_Same.l0 kq l0 l1 x5_1 = some r) ∧ Aside0 (kq ≤ k) ∧ Drawn0 w w')
    case atStart => exact ⟨(0), (by first | rfl | (simp; done) | (simp [*]; done)), H', ⟨Nat.le_refl _⟩, by repeat (first | exact Drawn0.refl _ | apply Drawn0.step)⟩
    case round =>
      clear H'
      try clear c1
      try clear p2
      try clear c3
      try clear c3b0
      try clear c3b1
      try clear c3b2
      obtain ⟨x5_1, rfl, HA, HK1, ⟨m1, rfl⟩⟩ := hrel
      cases gk with
      | zero => exact absurd HA.out (by simp [heliastref04_Same.l0])
      | succ k1 =>
        have H := HA.out
        clear HA
        simp only [heliastref04_Same.l0] at H
        by_cases c4 : x5_1 < (l0.length : Int)
        · rw [if_pos c4] at H
          have c4b0 : decide (x5_1 < (l0.length : Int)) = true := decide_eq_true c4
          clear c4
          by_cases c5 : 0 ≤ x5_1
          · rw [if_pos c5] at H
            have c5b0 : decide (0 ≤ x5_1) = true := decide_eq_true c5
            clear c5
            by_cases c6 : x5_1 < (l1.length : Int)
            · rw [if_pos c6] at H
              have c6b0 : decide (x5_1 < (l1.length : Int)) = true := decide_eq_true c6
              clear c6
              by_cases c7 : (rd l0 x5_1) = (rd l1 x5_1)
              · rw [if_pos c7] at H
                have c7b0 : ((rd l0 x5_1) == (rd l1 x5_1)) = true := beq_iff_eq.mpr c7
                have c7b1 : ((rd l0 x5_1) != (rd l1 x5_1)) = false := bne_eq_false_iff_eq.mpr c7
                clear c7
                have H' := Aside0.mk H
                clear H
                have p101 : 0 ≤ (x5_1 : Int) := of_decide_eq_true (by first | (with_reducible assumption) | assumption)
                have q101 : x5_1 < (l0.length : Int) := of_decide_eq_true (by first | (with_reducible assumption) | assumption)
                obtain ⟨ad101, e101, hx101_0⟩ := Kd.at_int HR0.out x5_1 p101 q101
                cases e101
                replace p101 := eq_true p101
                replace q101 := eq_true q101
                have p102 : 0 ≤ (x5_1 : Int) := of_decide_eq_true (by first | (with_reducible assumption) | assumption)
                have q102 : x5_1 < (l1.length : Int) := of_decide_eq_true (by first | (with_reducible assumption) | assumption)
                obtain ⟨ad102, e102, hx102_0⟩ := Kd.at_int HR1.out x5_1 p102 q102
                cases e102
                replace p102 := eq_true p102
                replace q102 := eq_true q102
                go_wp2
                repeat (go_quiet (fail); try go_wp2)
                go_roundg k1
                case measure => have := HK1.out; omega
                case rel => exact ⟨(wrap64 (x5_1 + 1)), (by first | rfl | (simp; done) | (simp [*]; done)), H', ⟨by have := HK1.out; omega⟩, by repeat (first | exact Drawn0.refl _ | apply Drawn0.step)⟩
              · rw [if_neg c7] at H
                have c7b0 : ((rd l0 x5_1) == (rd l1 x5_1)) = false := beq_eq_false_iff_ne.mpr c7
                have c7b1 : ((rd l0 x5_1) != (rd l1 x5_1)) = true := bne_iff_ne.mpr c7
                obtain rfl := Option.some.inj H
                have p101 : 0 ≤ (x5_1 : Int) := of_decide_eq_true (by first | (with_reducible assumption) | assumption)
                have q101 : x5_1 < (l0.length : Int) := of_decide_eq_true (by first | (with_reducible assumption) | assumption)
                obtain ⟨ad101, e101, hx101_0⟩ := Kd.at_int HR0.out x5_1 p101 q101
                cases e101
                replace p101 := eq_true p101
                replace q101 := eq_true q101
                have p102 : 0 ≤ (x5_1 : Int) := of_decide_eq_true (by first | (with_reducible assumption) | assumption)
                have q102 : x5_1 < (l1.length : Int) := of_decide_eq_true (by first | (with_reducible assumption) | assumption)
                obtain ⟨ad102, e102, hx102_0⟩ := Kd.at_int HR1.out x5_1 p102 q102
                cases e102
                replace p102 := eq_true p102
                replace q102 := eq_true q102
                go_wp2
                repeat (go_quiet (fail); try go_wp2)
                go_ret
                exact ⟨by first | rfl | (simp; done) | (simp [*]; done), by repeat (first | exact Drawn0.refl _ | apply Drawn0.step)⟩
            · rw [if_neg c6] at H
              exact absurd H (by simp)
          · rw [if_neg c5] at H
            exact absurd H (by simp)
        · rw [if_neg c4] at H
          have c4b0 : decide (x5_1 < (l0.length : Int)) = false := decide_eq_false c4
          clear c4
          obtain rfl := Option.some.inj H
          go_wp2
          repeat (go_quiet (fail); try go_wp2)
          go_ret
          exact ⟨by first | rfl | (simp; done) | (simp [*]; done), by repeat (first | exact Drawn0.refl _ | apply Drawn0.step)⟩
  · rw [if_neg c3] at H
    have c3b0 : ((l0.length : Int) == (l1.length : Int)) = false := beq_eq_false_iff_ne.mpr c3
    have c3b1 : ((l0.length : Int) != (l1.length : Int)) = true := bne_iff_ne.mpr c3
    have c3b2 : (l0.length == l1.length) = false := by first | simpa using c3 | (simp at c3 ⊢; omega)
    obtain rfl := Option.some.inj H
    go_enter Try.func13, Try.ntmps13
    go_wp2
    repeat (go_quiet (fail); try go_wp2)
    go_ret
    exact ⟨by first | rfl | (simp; done) | (simp [*]; done), by repeat (first | exact Drawn0.refl _ | apply Drawn0.step)⟩

/-- THE ONE PURE STATEMENT of heliastref04_Same: yours. -/
def heliastref04_Same.Pure : Prop := ∀ (l0 : List Int) (l1 : List Int), l0.length ≤ maxLen → l0.length * 1 ≤ 140737488351232 → (∀ x ∈ l0, (Lit.int .u8 x).wf = true) → l1.length ≤ maxLen → l1.length * 1 ≤ 140737488351232 → (∀ x ∈ l1, (Lit.int .u8 x).wf = true) → ∃ k, heliastref04_Same.f k l0 l1 = some true
theorem heliastref04_Same.walk (P : heliastref04_Same.Pure) (a0 : Option Addr) (len0 cap0 : Nat) (z0 : List Int) (a1 : Option Addr) (len1 cap1 : Nat) (z1 : List Int) (w : World) (w0 : (a0 = none ∧ len0 = 0 ∧ cap0 = 0 ∧ z0 = []) ∨ ∃ x, a0 = some x ∧ len0 ≤ cap0 ∧ cap0 ≤ maxLen ∧ z0.length = cap0 ∧ (∀ i, i < z0.length → w.cell? (x.add i) = some (.int .u8 (z0.getD i 0))) ∧ ∀ n ∈ z0, (Lit.int .u8 n).wf = true) (y0 : len0 * 1 ≤ 140737488351232) (w1 : (a1 = none ∧ len1 = 0 ∧ cap1 = 0 ∧ z1 = []) ∨ ∃ x, a1 = some x ∧ len1 ≤ cap1 ∧ cap1 ≤ maxLen ∧ z1.length = cap1 ∧ (∀ i, i < z1.length → w.cell? (x.add i) = some (.int .u8 (z1.getD i 0))) ∧ ∀ n ∈ z1, (Lit.int .u8 n).wf = true) (y1 : len1 * 1 ≤ 140737488351232) :
    Calls Try.prog 13 #[.slice a0 len0 cap0, .slice a1 len1 cap1] w fun e w' => e = .returned (.bool true) ∧ Below w.heap.size w w' := by
  obtain ⟨l0, rfl, hr0, hm0, hw0, hc0⟩ := ReadsInt.ofRowC w0
  obtain ⟨l1, rfl, hr1, hm1, hw1, hc1⟩ := ReadsInt.ofRowC w1
  obtain ⟨k, h⟩ := P l0 l1 hm0 y0 hw0 hm1 y1 hw1
  refine (heliastref04_Same.calls k _ _ l0 _ _ l1 true w (Kd.C_of_reads (d := (0 : Int)) (h1 := fun _ => rfl) hr0) hc0 (Kd.C_of_reads (d := (0 : Int)) (h1 := fun _ => rfl) hr1) hc1 h).mono ?_
  rintro e w' ⟨rfl, hd⟩
  exact ⟨rfl, hd.below⟩

end Go.Proofs.Ytnhljemnebgekaa.Rs

/-
  What the functions of these laws compute, as plain Lean functions, and that the machine's calls compute it: written by this session's own hook over the kit's print.
-/
namespace Go.Proofs.Ytnhljemnebgekaa.Rs
open Go.RowKit Go.Proofs.YtnhljemnebgekaaW.PrintWords Go.Proofs.YtnhljemnebgekaaW.PrintLast Go.Proofs.YtnhljemnebgekaaW.PrintMore
attribute [local go_sem] u32_sg u32_mx u64_sg u64_mx
attribute [local go_sem] max2_int min2_int max_two min_two max_three min_three max_four min_four   -- for this text's walks alone
set_option linter.unusedVariables false
set_option linter.unusedSimpArgs false

end Go.Proofs.Ytnhljemnebgekaa.Rs

/-
  The reference's Same, as a contract over plain lists.
-/
namespace Go.Proofs.Ytnhljemnebgekaa
open Go.RowKit Sha Go.Proofs.YtnhljemnebgekaaW.PrintWords Go.Proofs.YtnhljemnebgekaaW.PrintLast Rs
namespace S
theorem ref_same_l0 (a b : List UInt8) (hab : a.length = b.length) : ∀ d j k : Nat, j + d = a.length → d < k → a.length ≤ 9223372036854775806 → heliastref04_Same.l0 k (intsB a) (intsB b) (j : Int) = some (decide (a.drop j = b.drop j)) := by
  intro d
  induction d with
  | zero =>
    intro j k hj hk hm
    obtain ⟨k, rfl⟩ : ∃ m, k = m + 1 := ⟨k - 1, by omega⟩
    simp only [heliastref04_Same.l0]
    rw [if_neg (by rw [intsB_length]; omega), List.drop_of_length_le (by omega), List.drop_of_length_le (by omega)]
    simp
  | succ d ih =>
    intro j k hj hk hm
    obtain ⟨k, rfl⟩ : ∃ m, k = m + 1 := ⟨k - 1, by omega⟩
    have e1 : wrap64 ((j : Int) + 1) = ((j + 1 : Nat) : Int) := by rw [wrap64_small (by omega) (by omega)]; omega
    simp only [heliastref04_Same.l0]
    rw [e1, rd_intsB, rd_intsB]
    clear e1
    have ha : a.drop j = a.getD j 0 :: a.drop (j + 1) := by
      rw [List.drop_eq_getElem_cons (by omega)]; simp [List.getD_eq_getElem?_getD, List.getElem?_eq_getElem (show j < a.length by omega)]
    have hb : b.drop j = b.getD j 0 :: b.drop (j + 1) := by
      rw [List.drop_eq_getElem_cons (by omega)]; simp [List.getD_eq_getElem?_getD, List.getElem?_eq_getElem (show j < b.length by omega)]
    rw [if_pos (by rw [intsB_length]; omega), if_pos (by omega), if_pos (by rw [intsB_length]; omega)]
    have hc : (((a.getD j 0).toNat : Int) = ((b.getD j 0).toNat : Int)) ↔ a.getD j 0 = b.getD j 0 := by
      rw [← UInt8.toNat_inj]; omega
    by_cases h : a.getD j 0 = b.getD j 0
    · rw [if_pos (hc.2 h), ih (j + 1) k (by omega) (by omega) hm, ha, hb, h]
      simp
    · rw [if_neg (fun e => h (hc.1 e)), ha, hb]
      exact congrArg some (decide_eq_false (fun e => h (List.cons.inj e).1)).symm
theorem ref_same (a b : List UInt8) (ha : a.length ≤ 9223372036854775806) (k : Nat) (hk : a.length < k) : heliastref04_Same.f k (intsB a) (intsB b) = some (decide (a = b)) := by
  unfold heliastref04_Same.f
  rw [intsB_length, intsB_length]
  by_cases h : a.length = b.length
  · rw [if_pos (by omega), show (0 : Int) = ((0 : Nat) : Int) from rfl, ref_same_l0 a b h a.length 0 k (by omega) hk ha]
    rfl
  · rw [if_neg (by omega)]
    have : a ≠ b := fun e => h (by rw [e])
    simp [this]
theorem same_any (a1 a2 : Option Addr) (c1 c2 : Nat) (l1 l2 : List UInt8) (w : World) (h1 : Rd w a1 l1) (hc1 : l1.length ≤ c1) (h2 : Rd w a2 l2) (hc2 : l2.length ≤ c2) (hl : l1.length ≤ 9223372036854775806) :
    Calls Try.prog 13 #[.slice a1 l1.length c1, .slice a2 l2.length c2] w fun e w' => e = .returned (.bool (decide (l1 = l2))) ∧ ∃ n, w' = w.drewN n := by
  have h := heliastref04_Same.calls (l1.length + 1) a1 c1 (intsB l1) a2 c2 (intsB l2) _ w (by rw [intsB_length]; exact h1) (by rw [intsB_length]; exact hc1) (by rw [intsB_length]; exact h2) (by rw [intsB_length]; exact hc2) (ref_same l1 l2 hl _ (by omega))
  rw [intsB_length, intsB_length] at h
  exact h.mono fun e w' ⟨h1, h2⟩ => ⟨h1, h2.out⟩
theorem same_yes (a1 a2 : Option Addr) (c1 c2 : Nat) (l : List UInt8) (w : World) (h1 : Rd w a1 l) (hc1 : l.length ≤ c1) (h2 : Rd w a2 l) (hc2 : l.length ≤ c2) (hl : l.length ≤ 9223372036854775806) :
    Calls Try.prog 13 #[.slice a1 l.length c1, .slice a2 l.length c2] w fun e w' => e = .returned (.bool true) ∧ ∃ n, w' = w.drewN n := by
  have h := same_any a1 a2 c1 c2 l l w h1 hc1 h2 hc2 hl
  simpa using h
end S
def Ext.ref_Same.f (l0 l1 : List Int) : Option Bool := if bytesOk l0 = true ∧ bytesOk l1 = true then some (decide (bytesI l0 = bytesI l1)) else none
theorem Ext.ref_Same.f_eq (a b : List UInt8) (h : a.length ≤ 1099511000000) (h2 : b.length ≤ 1099511000000) : Ext.ref_Same.f (intsB a) (intsB b) = some (decide (a = b)) := by
  unfold Ext.ref_Same.f
  rw [if_pos ⟨bytesOk_intsB a h, bytesOk_intsB b h2⟩, bytesI_intsB, bytesI_intsB]
theorem Ext.ref_Same.calls (A0 : Option Addr) (c0 : Nat) (l0 : List Int) (A1 : Option Addr) (c1 : Nat) (l1 : List Int) (r : Bool) (w : World) (hr0 : Kd.C (Kd.int .u8) w A0 l0.length l0) (hc0 : l0.length ≤ c0) (hr1 : Kd.C (Kd.int .u8) w A1 l1.length l1) (hc1 : l1.length ≤ c1) (h : Ext.ref_Same.f l0 l1 = some r) :
    Calls Try.prog 13 #[.slice A0 l0.length c0, .slice A1 l1.length c1] w fun e w' => e = .returned (.bool r) ∧ Below w.heap.size w w' := by
  unfold Ext.ref_Same.f at h
  split at h
  · rename_i hok
    cases h
    obtain ⟨e, n, b⟩ := bytesOk_rd hok.1
    obtain ⟨e1, n1, b1⟩ := bytesOk_rd hok.2
    have := S.same_any A0 A1 c0 c1 (bytesI l0) (bytesI l1) w (by unfold Rd; rw [n, e]; exact hr0) (by omega) (by unfold Rd; rw [n1, e1]; exact hr1) (by omega) (by omega)
    rw [n, n1] at this
    refine this.mono fun e w' ⟨h1, m, h2⟩ => ⟨h1, ?_⟩
    subst h2
    exact ⟨rfl, rfl, rfl, Nat.le_refl _, fun _ _ => rfl⟩
  · cases h
end Go.Proofs.Ytnhljemnebgekaa

/-
  The law SealBack, walked: there and back; of two texts no two tell the same bytes.
-/
namespace Go.Proofs.Ytnhljemnebgekaa
open Go.RowKit Sha Go.Proofs.YtnhljemnebgekaaW.PrintWords Go.Proofs.YtnhljemnebgekaaW.PrintLast Go.Proofs.YtnhljemnebgekaaW.PrintMore Ps
set_option linter.unusedSimpArgs false
set_option linter.unusedVariables false
theorem ba_beq (s t : ByteArray) : (s == t) = decide (s = t) := by
  have h : (s == t) = (s.data == t.data) := rfl
  rw [h]
  by_cases hst : s = t
  · subst hst
    simp
  · have h2 : s.data ≠ t.data := fun h => hst (ByteArray.ext h)
    simp [hst, h2]
theorem convB_bytes {P : Program} (w : World) (src dst e : TypeId) (hs : P.underlying src = some (.slice e)) (he : P.underlying e = some (.int .u8)) (hd : P.underlying dst = some .string) (b o n cap : Nat) (l : List UInt8) (hl : l.length = n)
    (hc : ∀ j (hj : j < l.length), w.cell? ⟨b, o + j, none⟩ = some (.int .u8 (l[j].toNat : Int))) :
    (convert src dst (.slice (some ⟨b, o, none⟩) n cap)).run P w = .ok (.string (bs l)) w := by
  subst hl
  refine run_convert_bytes_back w src dst e _ cap l hs he hd fun j hj => ?_
  rw [← hc j hj]
  congr 1
  unfold Addr.add
  split <;> simp_all
theorem bytes_yes (s : ByteArray) (hs : s.size ≤ 140737488351232) (out : List UInt8) (h : un4 s.data.toList = some out) (w : World) :
    Calls Try.prog 22 #[.string s] w fun e w' => ∃ v, e = .returned (.tuple #[v, .bool true]) ∧ OwnB w' w.heap.size v out ∧ Below w.heap.size w w' := by
  refine (bytes_any s hs w).mono fun e w' ht => ?_
  rcases ht with ⟨out', v, h1, h2, h3, h4⟩ | ⟨h1, _⟩
  · rw [unText_un4, h] at h1
    cases h1
    exact ⟨v, h2, h3, h4⟩
  · rw [unText_un4, h] at h1
    cases h1
theorem bytes_no (s : ByteArray) (hs : s.size ≤ 140737488351232) (h : un4 s.data.toList = none) (w : World) :
    Calls Try.prog 22 #[.string s] w fun e w' => e = .returned (.tuple #[.slice none 0 0, .bool false]) ∧ Below w.heap.size w w' := by
  refine (bytes_any s hs w).mono fun e w' ht => ?_
  rcases ht with ⟨out', v, h1, h2, h3, h4⟩ | ⟨h1, h2, h3⟩
  · rw [unText_un4, h] at h1
    cases h1
  · exact ⟨h2, h3⟩
theorem text_tx_any (a : Option Addr) (c : Nat) (d : List UInt8) (w : World) (h : Rd w a d) (hdc : d.length ≤ c) (hl : d.length ≤ 1099511000000) :
    Calls Try.prog 16 #[.slice a d.length c] w fun e w' => e = .returned (.string (bs (tx d))) ∧ Below w.heap.size w w' := by
  have := text_bs a c d w h hdc hl
  rwa [text_tx] at this
set_option maxRecDepth 100000 in
set_option maxHeartbeats 2000000 in
theorem sealBack_walk (a0 : Option Addr) (len0 cap0 : Nat) (z0 : List Int) (a1 : Int) (a2 : Int) (W : World)
    (x0 : z0.length = len0) (y0 : RowAt W a0 (z0.map (.int .u8))) (u0 : ∀ z ∈ z0, (Lit.int .u8 z).wf = true) (b0 : len0 * 1 ≤ 140737488351232) (c0 : len0 ≤ cap0) (m0 : cap0 ≤ maxLen) (w1 : (Lit.int .u8 a1).wf = true) (w2 : (Lit.int .u8 a2).wf = true) :
    Calls Try.prog 4 #[.slice a0 len0 cap0, .int .u8 a1, .int .u8 a2] W fun e w' => e = .returned (.bool true) ∧ Below W.heap.size W w' := by
  unfold maxLen at m0
  obtain ⟨b, hbl, hrb⟩ := rd_of_row y0 u0 (by omega)
  obtain ⟨p, rfl⟩ := wf_byte a1 w1
  obtain ⟨x, rfl⟩ := wf_byte a2 w2
  rw [x0] at hbl
  clear x0 y0 u0 w1 w2
  have HBL := Lib.hid hbl; have HRB := Lib.hid hrb
  clear hbl hrb
  by_cases hbig : 200 < len0
  · go_enter Try.func4, Try.ntmps4
    go_wp2_with fail
    refine (known_any _).mono ?_
    rintro e w1 ⟨rfl, hb1⟩
    go_wp2_with fail
    go_ret
    exact ⟨rfl, hb1⟩
  · obtain ⟨s, hs⟩ : ∃ s, bs (tx b) = s := ⟨_, rfl⟩
    obtain ⟨n, hn⟩ : ∃ n, (4 * len0 + 2) / 3 = n := ⟨_, rfl⟩
    have hsz : s.size = n := by rw [← hs, bs_size, tx_length, HBL.out, hn]
    have hsz2 : s.size ≤ 300 := by omega
    have htx := text_tx_any a0 cap0 b W HRB.out (by rw [HBL.out]; exact c0) (by rw [HBL.out]; omega)
    rw [HBL.out, hs] at htx
    have hun : un4 s.data.toList = some b := by rw [← hs]; exact un4_tx b
    have HTX := Lib.hid htx; have HSZ := Lib.hid hsz; have HUN := Lib.hid hun; have HS := Lib.hid hs; have HN := Lib.hid hn
    clear htx hsz hun hs hn
    go_enter Try.func4, Try.ntmps4
    go_wp2_with fail
    refine HTX.out.mono ?_
    rintro e w1 ⟨rfl, hb1⟩
    have HB1 := Lib.hid hb1
    clear hb1 HTX
    go_wp2_with fail
    refine (bytes_yes s (by omega) b HUN.out _).mono ?_
    rintro e w2 ⟨v2, rfl, ho2, hb2⟩
    obtain ⟨a3, c3, hv2, hc3, hr3⟩ := ho2.reads
    rw [HBL.out] at hv2 hc3
    subst hv2
    have HB2 := Lib.hid (below_trans HB1.out hb2); have HR3 := Lib.hid hr3
    clear ho2 hb2 hr3
    go_wp2_with fail
    have hsame := S.same_yes a3 a0 c3 cap0 b w2 HR3.out (by rw [HBL.out]; exact hc3) (HRB.out.below HB2.out) (by rw [HBL.out]; exact c0) (by rw [HBL.out]; omega)
    rw [HBL.out] at hsame
    have HSAME := Lib.hid hsame
    clear hsame
    refine HSAME.out.mono ?_
    rintro e _ ⟨rfl, q3, rfl⟩
    have HB3 := Lib.hid (below_trans HB2.out (drewN_below w2 q3))
    clear HSAME
    by_cases h0 : n = 0
    · have h00 : s.size = 0 := by rw [HSZ.out, h0]
      go_wp2_with fail
      refine (known_any _).mono ?_
      rintro e w4 ⟨rfl, hb4⟩
      go_wp2_with fail
      go_ret
      exact ⟨rfl, below_trans HB3.out hb4⟩
    · have hpl := p.toNat_lt
      have hss : (s.size : Int) = (n : Int) := by rw [HSZ.out]
      obtain ⟨i, hi⟩ : ∃ i, p.toNat % n = i := ⟨_, rfl⟩
      have hin : i < n := by rw [← hi]; exact Nat.mod_lt _ (by omega)
      have e1 : (p.toNat : Int) % (n : Int) = (i : Int) := by rw [← hi]; rfl
      have hne : ((n : Int) == 0) = false := by simp; omega
      have HI := Lib.hid hi
      clear hi
      go_wp2_with fail
      rw [e1]
      have hi1 : (i : Int) ≤ (s.size : Int) := by have := HSZ.out; omega
      have hi2 : (i : Int) + 1 ≤ (s.size : Int) := by have := HSZ.out; omega
      have hi3 : i + 1 ≤ s.size := by have := HSZ.out; omega
      have hi4 : i ≤ s.size := by omega
      have hw : IntKind.i64.wrap ((i : Int) + 1) = (i : Int) + 1 := by rw [IntKind.wrap_i64]; omega
      clear e1 hss hne
      generalize w2.drewN q3 = w3 at *
      have hcv : (convert 22 9 (.slice (some ⟨w3.heap.size, 0, none⟩) 1 1)).run Try.prog (w3.alloc (.cells #[.int .u8 (x.toNat : Int)] 5)).drew = .ok (.string (bs [x])) (w3.alloc (.cells #[.int .u8 (x.toNat : Int)] 5)).drew := by
        refine convB_bytes _ 22 9 5 Try.underlying22 Try.underlying5 Try.underlying9 w3.heap.size 0 1 1 [x] rfl ?_
        intro j hj
        obtain rfl : j = 0 := by simpa using hj
        exact cell_one_new w3 _ _ 0 _ rfl
      have zP : (s.extract 0 i).size = i := by rw [ByteArray.size_extract]; omega
      have zD : (bs [x]).size = 1 := bs_size _
      have zT : (s.extract (i + 1) s.size).size = s.size - 1 - i := by rw [ByteArray.size_extract]; omega
      have hx1 : (0 : Int) ≤ (i : Int) + 1 := by omega
      have hx2 : ¬ 9223372036854775807 < i + 1 := by omega
      have hx3 : ¬ 9223372036854775807 < i + 1 + (s.size - 1 - i) := by omega
      go_region_held (fun _ => True) (trivial) (fail)
      have hB4 : Below w3.heap.size w3 (w3.alloc (.cells #[.int .u8 (x.toNat : Int)] 5)).drew := by go_grown
      obtain ⟨w4, hw4⟩ : ∃ w4, (w3.alloc (.cells #[.int .u8 (x.toNat : Int)] 5)).drew = w4 := ⟨_, rfl⟩
      rw [hw4] at hB4 ⊢
      clear hcv hw4
      have HB4 := Lib.hid (below_trans HB3.out hB4); clear hB4
      obtain ⟨G, hG⟩ : ∃ G, s.extract 0 i ++ bs [x] ++ s.extract (i + 1) s.size = G := ⟨_, rfl⟩
      have zG : G.size = s.size := by rw [← hG]; simp only [ByteArray.size_append, zP, zD, zT]; omega
      rw [hG]
      clear hG zP zD zT hx1 hx2 hx3 hi1 hi2 hi3 hi4 hw
      have hnl : IntKind.i64.wrap ((len0 : Int) * 4) = (len0 : Int) * 4 := by rw [IntKind.wrap_i64]; omega
      have hnl2 : IntKind.i64.wrap ((len0 : Int) * 4 + 2) = (len0 : Int) * 4 + 2 := by rw [IntKind.wrap_i64]; omega
      have hsn : (s.size : Int) = (n : Int) := by rw [HSZ.out]
      have hnt : ((len0 : Int) * 4 + 2).tdiv 3 = (n : Int) := by rw [← HN.out, Int.tdiv_eq_ediv_of_nonneg (by omega)]; omega
      cases hy : un4 G.data.toList with
      | none =>
        go_wp2_with fail
        refine (bytes_no G (by omega) hy _).mono ?_
        rintro e w5 ⟨rfl, hb5⟩
        have HB5 := Lib.hid (below_trans HB4.out hb5); clear hb5
        go_wp2_with fail
        refine (known_any _).mono ?_
        rintro e w6 ⟨rfl, hb6⟩
        have HB6 := Lib.hid (below_trans HB5.out hb6); clear hb6
        go_wp2_with fail
        go_ret
        exact ⟨rfl, HB6.out⟩
      | some y =>
        have htg := tx_un4 _ _ hy
        have hyl : (4 * y.length + 2) / 3 = n := by
          have h1 := tx_length y
          have h2 : G.data.toList.length = n := by rw [Array.length_toList]; exact zG.trans HSZ.out
          rw [htg, h2] at h1
          omega
        have hgs : (G == s) = decide (y = b) := by
          by_cases hyb : y = b
          · have h1 : G = s := by
              rw [← HS.out, ← hyb]
              apply ByteArray.ext
              apply Array.toList_inj.mp
              rw [← htg]
              rfl
            rw [h1, ba_beq]
            simp [hyb]
          · have h1 : G ≠ s := fun h => hyb (by
              have h2 := hy
              rw [h, HUN.out] at h2
              injection h2 with h2
              exact h2.symm)
            rw [ba_beq]
            simp [hyb, h1]
        go_wp2_with fail
        refine (bytes_yes G (by omega) y hy _).mono ?_
        rintro e w5 ⟨v5, rfl, ho5, hb5⟩
        obtain ⟨a5, c5, hv5, hc5, hr5⟩ := ho5.reads
        subst hv5
        have HB5 := Lib.hid (below_trans HB4.out hb5); have HR5 := Lib.hid hr5
        clear ho5 hb5 hr5
        go_wp2_with fail
        refine (known_any _).mono ?_
        rintro e w6 ⟨rfl, hb6⟩
        have HR6 := Lib.hid (HR5.out.below hb6)
        have HB6 := Lib.hid (below_trans HB5.out hb6); clear hb6
        have hsame := S.same_any a5 a0 c5 cap0 y b w6 HR6.out hc5 (HRB.out.below HB6.out) (by rw [HBL.out]; exact c0) (by omega)
        rw [HBL.out, ← hgs] at hsame
        clear hgs
        have htext := fun w (h : Rd w a5 y) => text_tx_any a5 c5 y w h hc5 (by omega)
        have hgb : bs (tx y) = G := by
          apply ByteArray.ext
          apply Array.toList_inj.mp
          rw [← htg]
          rfl
        rw [hgb] at htext
        clear hgb htg hy
        have HSAME := Lib.hid hsame; have HTEXT := Lib.hid htext
        clear hsame htext
        obtain ⟨gs, hgs⟩ : ∃ gs, (G == s) = gs := ⟨_, rfl⟩
        rw [hgs] at HSAME
        go_wp2_with fail
        refine HSAME.out.mono ?_
        rintro e _ ⟨rfl, q6, rfl⟩
        have HB7 := Lib.hid (below_trans HB6.out (drewN_below w6 q6))
        have HR7 := Lib.hid (HR6.out.below (drewN_below w6 q6))
        generalize w6.drewN q6 = w7 at *
        clear HSAME
        have hgl : decide (G.toList = s.toList) = gs := by
          rw [← hgs, ba_beq]
          have h1 : G.toList = s.toList ↔ G = s := ⟨fun h => by
            rw [ByteArray.toList_eq, ByteArray.toList_eq] at h
            exact ByteArray.ext (Array.toList_inj.mp h), fun h => by rw [h]⟩
          simp only [h1]
        cases gs <;> simp only [decide_eq_true_eq, decide_eq_false_iff_not] at hgl <;>
        · go_wp2_with fail
          refine (HTEXT.out _ HR7.out).mono ?_
          rintro e w8 ⟨rfl, hb8⟩
          have HB8 := Lib.hid (below_trans HB7.out hb8); clear hb8
          go_wp2_with fail
          go_ret
          first
            | exact ⟨rfl, HB8.out⟩
            | exact ⟨by show Ending.returned (.bool (!(G.toList == s.toList))) = _; simp [hgl], HB8.out⟩
end Go.Proofs.Ytnhljemnebgekaa

/-
  The row of the law SealBack: whatever the input, it answers true and leaves its arguments as they were; out of its walk.
-/
namespace Go.Proofs.Ytnhljemnebgekaa.sealBack
open Go.ChangeShapes Go.WideShapes Go.ChangeAt Go.RowKit
open Go.ChangeMaps (open_string shut_string)
theorem own : ownKnob Try.prog.godebug = none := by kernel_rfl
theorem laidOut : laidOutB Try.prog = true := by kernel_rfl
set_option maxRecDepth 100000 in
theorem lifted (os : Os) (started : os.Started) (H : Type) (enc : TypeId × Value → H) :
    ReturnsInHanded {} Try.checked os 4 .any (Rows.sealBackSpec.pre6 enc Try.prog Try.f4 Rows.sealBackRow.domain false) (Rows.sealBackSpec.post enc Try.prog Try.f4 false true false false) := by
  refine returnsInHanded_of_change_sized (C := Try.checked) own started (by kernel_rfl) Try.func4
    (ChangeSpec.witness6 (enc := enc) (C := Try.checked) false ⟨#[], #[.slice none 0 0, .int .u8 0, .int .u8 0], []⟩ 8 (by kernel_rfl) (by kernel_rfl) (by kernel_rfl) (by kernel_rfl)) ?_
  intro W base args ds gs before hval0 hW _ hsz0 _
  have hsz : (DataW.weightsEach Try.prog (Try.f4.params.toList ++ Rows.sealBackSpec.plain.varTypes Try.prog) (ds ++ gs)).all (· ≤ reachBytes) = true := hsz0
  have hval : ∀ (j : Nat) t v, Try.f4.params[j]? = some t → args[j]? = some v → Value.okWide Try.prog W .any base t v := hval0
  have hW' := hW
  obtain ⟨p, q, hA0, hV, rfl, hfz, hnd⟩ := hW
  have hA : DataW.TrodAll enc Try.prog W 0 (fun _ => true) true Try.f4.params.toList args.toList ds p := hA0
  rw [Try.params4] at hA hval hsz
  obtain ⟨v0, vs0, d0, ds0, p0, q0, hargs, rfl, rfl, h0, r0⟩ := trodAll_cons hA
  obtain ⟨v1, vs1, d1, ds1, p1, q1, rfl, rfl, rfl, h1, r1⟩ := trodAll_cons r0
  obtain ⟨v2, vs2, d2, ds2, p2, q2, rfl, rfl, rfl, h2, r2⟩ := trodAll_cons r1
  obtain ⟨rfl, rfl, rfl⟩ := trodAll_nil r2
  obtain rfl : args = #[v0, v1, v2] := by cases args; simp_all
  obtain ⟨rfl, rfl⟩ := trodVars_none hV
  obtain ⟨a0, len0, cap0, rfl⟩ := okWide_slice Try.underlying22 (hval 0 22 v0 rfl rfl)
  have k0 := h0
  have lt0 : ∀ x ∈ p0, x.block < W.heap.size := by obtain ⟨m, hm⟩ := k0; exact DataW.trod_lt m _ _ _ hm
  obtain ⟨z0, x0, y0, u0, b0, c0, m0⟩ := open_nums hsz (j := 0) (t := 22) rfl rfl Try.underlying22 Try.underlying5 (by kernel_rfl) (B := 1) (by kernel_rfl) h0
  obtain ⟨a1, rfl, rfl, rfl, w1⟩ := open_int Try.underlying5 (hval 1 5 v1 rfl rfl) h1
  obtain ⟨a2, rfl, rfl, rfl, w2⟩ := open_int Try.underlying5 (hval 2 5 v2 rfl rfl) h2
  refine (sealBack_walk a0 len0 cap0 z0 a1 a2 W x0 y0 u0 b0 c0 m0 w1 w2).mono fun e W' ⟨he, bel⟩ => ?_
  subst he
  exact ⟨_, rfl, _, _, _, [], _, [], hW', trodAll_mk1 (shut_bool Try.underlying4 _), (trodAll_cons_mk (Below.trod laidOut (by kernel_rfl) (of_decide_eq_true (by kernel_rfl)) k0 bel lt0) (trodAll_cons_mk (shut_int Try.underlying5 w1) (trodAll_cons_mk (shut_int Try.underlying5 w2) trodAll_mk0))), rfl, bel.frame _, fun h => by cases h⟩
theorem over : Rows.sealBackRow.holds Try.pinned (OpenSpec.ofChange Rows.sealBackSpec) :=
  OpenClaim.holds_of_wide 4 Try.f4 rfl rfl rfl rfl rfl rfl rfl ⟨rfl, rfl, rfl, rfl, rfl⟩ rfl rfl rfl rfl rfl (by kernel_rfl) Try.func4 (by kernel_rfl)
    (of_decide_eq_true (by kernel_rfl)) (by unfold Func.isWrapper; first | (rw [if_pos (by decide +kernel)]; kernel_rfl) | (rw [if_neg (by decide +kernel)]; exact ⟨rfl, rfl⟩))
    (fun os started H enc _ => lifted os started H enc)
end Go.Proofs.Ytnhljemnebgekaa.sealBack
namespace Go.Proofs.Ytnhljemnebgekaa
/-- The row, under a short name. -/
theorem sealBack_holds : Rows.SealBackSaid := sealBack.over
#print axioms sealBack_holds
end Go.Proofs.Ytnhljemnebgekaa

