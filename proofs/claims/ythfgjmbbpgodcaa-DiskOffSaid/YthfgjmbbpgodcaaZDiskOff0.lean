/-
  Texts of this session, merged in build order: Open, DFront, DLOff, RDiskOff.
-/
import Derived.WalkKit
import Derived.ProofKit
import Derived.OpenShut
import Derived.ShutString
import Derived.ChangeOld
import Derived.Below
import Derived.SizedLaws
import Derived.SliceStrings
import Derived.Test.YthfgjmbbpgodcaaZC0
import Derived.Test.YthfgjmbbpgodcaaRows
set_option linter.unusedVariables false
set_option linter.unusedSimpArgs false
/-
  What a law's arguments read as, in one form: a slice of bytes or of texts is a row of cells ('RowAt'), each no longer than the form's reach.
-/
namespace Go.Proofs.Ythfgjmbbpgodcaa
open Go.ChangeShapes Go.WideShapes Go.ChangeAt Go.RowKit

/-- The values lie in a row from a on. -/
def RowAt (W : World) (a : Option Addr) (vs : List Value) : Prop :=
  0 < vs.length → ∃ b off, a = some ⟨b, off, none⟩ ∧ b < W.heap.size ∧ ∀ i (h : i < vs.length), W.cell? ⟨b, off + i, none⟩ = some vs[i]
theorem RowAt.below {W W' : World} {a : Option Addr} {vs : List Value} (h : RowAt W a vs) (hb : Below W.heap.size W W') : RowAt W' a vs := fun hp => by
  obtain ⟨b, off, e, hlt, hc⟩ := h hp
  exact ⟨b, off, e, Nat.lt_of_lt_of_le hlt hb.size, fun i hi => (hb.cell (p := ⟨b, off + i, none⟩) hlt).trans (hc i hi)⟩

section
variable {H : Type} {enc : TypeId × Value → H} {P : Program} {W : World} {base : Nat} {spare : Nat → Bool} {held : Bool}
theorem weights_all_mem {e : TypeId} : ∀ {l : List (DataW H)} {d : DataW H}, d ∈ l → ∀ n ∈ d.weights P e, n ∈ DataW.weightsAll P e l
  | d0 :: l, d, hd, n, hn => by
    simp only [DataW.weightsAll, List.mem_append]
    rcases List.mem_cons.1 hd with rfl | hd
    · exact .inl hn
    · exact .inr (weights_all_mem hd n hn)
theorem row_of_cells {a : Addr} {vs : List Value} (hc : ∀ i (h : i < vs.length), W.cell? (a.add i) = some vs[i]) : RowAt W (some a) vs := fun hp => by
  have h0 := hc 0 hp
  obtain ⟨b, off, spot⟩ := a
  have hs : spot = none := by simpa [Addr.add] using World.cell?_spot h0
  subst hs
  refine ⟨b, off, rfl, ?_, fun i hi => ?_⟩
  · have := World.block_lt_of_cell? W _ h0
    simpa [Addr.add] using this
  · rw [← hc i hi]
    congr 1
    unfold Addr.add
    split <;> simp_all
/-- A slice of texts. -/
theorem open_strs {ts : List TypeId} {ds : List (DataW H)} {j : Nat} {t e : TypeId} {a : Option Addr} {len cap : Nat} {d : DataW H} {ps : List MemPlace}
    (hsz : (DataW.weightsEach P ts ds).all (· ≤ reachBytes) = true) (ht : ts[j]? = some t) (hd : ds[j]? = some d) (hu : P.underlying t = some (.slice e)) (he : P.underlying e = some .string) (hc : P.cellsOf e = 1) (hB : P.bytesOf e = 16)
    (h : DataW.Trod enc P W base spare held t (.slice a len cap) d ps) :
    ∃ ss : List ByteArray, ss.length = len ∧ RowAt W a (ss.map .string) ∧ (∀ s ∈ ss, s.size ≤ 140737488351232) ∧ len * 16 ≤ 140737488351232 := by
  obtain ⟨fuel, hf⟩ := h
  rcases open_strings hu he hc hf with ⟨hcs, _⟩ | ⟨x, l, c, zs, hcs, _, hl, _, hz, hx, hcell, _⟩
  · simp [Value.cells] at hcs
    obtain ⟨rfl, rfl, rfl⟩ := hcs
    exact ⟨[], rfl, (fun hp => absurd hp (by simp)), (by simp), by simp⟩
  · simp [Value.cells] at hcs
    obtain ⟨rfl, rfl, rfl⟩ := hcs
    obtain ⟨hx, _⟩ := Prod.mk.inj hx
    subst hx
    have hl2 : len ≤ zs.length := by
      rw [hz]
      split
      · exact hl
      · exact Nat.le_refl _
    have z := sized_slice hsz ht hd hu
    rw [hB] at z
    have h1 : (strs (H := H) (zs.take len)).length + (strs (H := H) (zs.drop len)).length = zs.length := by
      simp [strs]
      omega
    rw [h1] at z
    refine ⟨zs.take len, by simp; omega, row_of_cells fun i hi => ?_, fun s hs => ?_, Nat.le_trans (Nat.mul_le_mul_right _ hl2) z⟩
    · have hi' : i < zs.length := by simp at hi; omega
      rw [hcell i hi']
      simp [List.getD_eq_getElem?_getD, List.getElem?_eq_getElem hi']
    · have hm : (DataW.lit (.string s.data.toList) : DataW H) ∈ strs (H := H) (zs.take len) := List.mem_map.2 ⟨s, hs, rfl⟩
      have hn := weights_all_mem (P := P) (e := e) hm s.data.toList.length (by simp [DataW.weights])
      have hn2 : s.data.toList.length ∈ DataW.weights P t (.slice (strs (H := H) (zs.take len)) (strs (zs.drop len))) := by
        simp only [DataW.weights, hu, List.mem_cons, List.mem_append]
        exact .inr (.inl hn)
      have := List.all_eq_true.1 hsz _ (DataW.weights_mem_each ht hd _ hn2)
      rw [Array.length_toList] at this
      exact of_decide_eq_true this
/-- A slice of whole numbers. -/
theorem open_nums {ts : List TypeId} {ds : List (DataW H)} {j : Nat} {t e : TypeId} {k : IntKind} {a : Option Addr} {len cap : Nat} {d : DataW H} {ps : List MemPlace}
    (hsz : (DataW.weightsEach P ts ds).all (· ≤ reachBytes) = true) (ht : ts[j]? = some t) (hd : ds[j]? = some d) (hu : P.underlying t = some (.slice e)) (he : P.underlying e = some (.int k)) (hc : P.cellsOf e = 1) {B : Nat} (hB : P.bytesOf e = B)
    (h : DataW.Trod enc P W base spare held t (.slice a len cap) d ps) :
    ∃ zs : List Int, zs.length = len ∧ RowAt W a (zs.map (.int k)) ∧ (∀ z ∈ zs, (Lit.int k z).wf = true) ∧ len * B ≤ 140737488351232 ∧ len ≤ cap ∧ cap ≤ maxLen := by
  obtain ⟨fuel, hf⟩ := h
  rcases open_ints hu he hc hf with ⟨hcs, _⟩ | ⟨x, l, c, zs, hcs, _, hl, hm, hz, hx, hcell, hwf⟩
  · simp [Value.cells] at hcs
    obtain ⟨rfl, rfl, rfl⟩ := hcs
    exact ⟨[], rfl, (fun hp => absurd hp (by simp)), (by simp), by simp, by simp, by simp [maxLen]⟩
  · simp [Value.cells] at hcs
    obtain ⟨rfl, rfl, rfl⟩ := hcs
    obtain ⟨hx, _⟩ := Prod.mk.inj hx
    subst hx
    have hl2 : len ≤ zs.length := by
      rw [hz]
      split
      · exact hl
      · exact Nat.le_refl _
    have z := sized_slice hsz ht hd hu
    rw [hB] at z
    have h1 : (lits (H := H) k (zs.take len)).length + (lits (H := H) k (zs.drop len)).length = zs.length := by
      simp [lits]
      omega
    rw [h1] at z
    refine ⟨zs.take len, by simp; omega, row_of_cells fun i hi => ?_, fun s hs => hwf s (List.mem_of_mem_take hs), Nat.le_trans (Nat.mul_le_mul_right _ hl2) z, hl, hm⟩
    have hi' : i < zs.length := by simp at hi; omega
    rw [hcell i hi']
    simp [List.getD_eq_getElem?_getD, List.getElem?_eq_getElem hi']
end
theorem byte_wf {z : Int} (h : (Lit.int .u8 z).wf = true) : ∃ c : UInt8, z = (c.toNat : Int) := by
  have := bounds_u8 h
  refine ⟨UInt8.ofNat z.toNat, ?_⟩
  rw [UInt8.toNat_ofNat']
  omega
theorem bytes_wf : ∀ {zs : List Int}, (∀ z ∈ zs, (Lit.int .u8 z).wf = true) → ∃ l : List UInt8, zs = l.map fun c => (c.toNat : Int)
  | [], _ => ⟨[], rfl⟩
  | z :: zs, h => by
    obtain ⟨c, hc⟩ := byte_wf (h z (by simp))
    obtain ⟨l, hl⟩ := bytes_wf (zs := zs) (fun x hx => h x (by simp [hx]))
    exact ⟨c :: l, by rw [hc, hl]; rfl⟩
end Go.Proofs.Ythfgjmbbpgodcaa

/-
  Small laws of texts, for the walks of the disk's laws.
-/
namespace Go.Proofs.Ythfgjmbbpgodcaa
open Go.RowKit Go.Maps Go.Lib
set_option linter.unusedSimpArgs false
set_option linter.unusedVariables false
theorem u8_int {z : Int} (h : (Lit.int .u8 z).wf = true) : ∃ n : Nat, z = n ∧ n ≤ 255 := by
  have : 0 ≤ z ∧ z ≤ 255 := by simpa [Lit.wf, IntKind.min, IntKind.max, IntKind.signed, IntKind.bits] using h
  exact ⟨z.toNat, by omega, by omega⟩
/-- A text that is all of one and a front of another. -/
theorem front_of (a b : ByteArray) (q : Nat) (hq : q ≤ b.size) (Z : ByteArray) (hZ : bsL (a.data.toList ++ b.data.toList.take q) = Z) : Z.size = a.size + q ∧ (Z.extract 0 a.size).toList = a.toList ∧ ((a ++ b).extract 0 Z.size).toList = Z.toList := by
  have hl : (a.data.toList ++ b.data.toList.take q).length = a.size + q := by rw [List.length_append, dl, List.length_take, dl]; omega
  have hs : Z.size = a.size + q := by rw [← hZ, bsL_size, hl]
  have hd : Z.data.toList = a.data.toList ++ b.data.toList.take q := by rw [← hZ, bsL_toList]
  refine ⟨hs, ?_, ?_⟩
  · rw [extract_bs, bsL_tl, hd, List.drop_zero, List.take_append_of_le_length (by rw [dl]; exact Nat.le_refl _), List.take_of_length_le (by rw [dl]; exact Nat.le_refl _), ByteArray.toList_eq]
  · rw [extract_bs, bsL_tl, app_dl, hs, List.drop_zero, ByteArray.toList_eq, hd]
    have : a.size + q = a.data.toList.length + q := by rw [dl]
    rw [this, List.take_length_add_append]
theorem new_1000 : newS 1000 = ⟨1000, [], false, 0, false⟩ := by rfl
theorem nm_f : ([102] : Nm) ≠ [] := by simp
end Go.Proofs.Ythfgjmbbpgodcaa

/-
  The law DiskOff, walked: a disk that is dead does nothing; a crash brings it back.
-/
namespace Go.Proofs.Ythfgjmbbpgodcaa
open Go.RowKit Go.Maps Go.Lib
set_option linter.unusedSimpArgs false
set_option linter.unusedVariables false
theorem i64_range {z : Int} (h : (Lit.int .i64 z).wf = true) : -9223372036854775808 ≤ z ∧ z ≤ 9223372036854775807 := by
  simpa [Lit.wf, IntKind.min, IntKind.max, IntKind.signed, IntKind.bits] using h
set_option maxRecDepth 100000 in
set_option maxHeartbeats 4000000 in
theorem diskOff_walk (a0 a1 : ByteArray) (a2 : Int) (W : World) (s0 : a0.size ≤ 140737488351232) (s1 : a1.size ≤ 140737488351232) (i2 : (Lit.int .i64 a2).wf = true) :
    Calls Try.prog 8 #[.string a0, .string a1, .int .i64 a2] W fun e w' => e = .returned (.bool true) ∧ Below W.heap.size W w' := by
  have R2 := Lib.hid (i64_range i2)
  clear i2
  have H0 := Lib.hid (Nat.le_refl W.heap.size)
  have HK := Lib.hid known_any
  by_cases hbig : 200 < a0.size + a1.size
  · have hb : (200 : Int) < (a0.size : Int) + (a1.size : Int) := by omega
    clear hbig
    go_enter Try.func8, Try.ntmps8
    go_wp2_with fail
    refine (HK.out _).mono ?_
    rintro e w1 ⟨rfl, hb1⟩
    have B1 := Lib.hid hb1; clear hb1
    go_wp2_with fail
    go_ret
    exact ⟨rfl, B1.out⟩
  have hb : (a0.size : Int) + (a1.size : Int) ≤ 200 := by omega
  by_cases hz : a0.size = 0
  · have hz0 : (((a0.size : Nat) : Int) == 0) = true := by rw [beq_iff_eq]; omega
    clear hz hbig
    go_enter Try.func8, Try.ntmps8
    go_wp2_with fail
    refine (HK.out _).mono ?_
    rintro e w1 ⟨rfl, hb1⟩
    have B1 := Lib.hid hb1; clear hb1
    go_wp2_with fail
    go_ret
    exact ⟨rfl, B1.out⟩
  have hz0 : (((a0.size : Nat) : Int) == 0) = false := beq_eq_false_iff_ne.2 (by omega)
  have hz1 : a0.toList.isEmpty = false := by
    rw [ByteArray.toList_eq]
    cases h : a0.data.toList with
    | nil => have := dl a0; rw [h] at this; simp at this; omega
    | cons x t => rfl
  have HN := Lib.hid (Mine.new (Below.refl W.heap.size W) (Nat.le_refl _) 1000 new_1000)
  have hA := dl a0
  have hB := dl a1
  have t1 : appendS ⟨1000, [], false, 0, false⟩ [102] a0.data.toList = (S1 [102] 1000 a0.data.toList 0 false 0 false, 0) := by
    rw [append_new _ nm_f _ _ _ _ (by omega), bytes_free]; rfl
  have t2 := sync_one [102] 1000 0 0 a0.data.toList
  rw [hA] at t2
  have t3 : fuseS (S1 [102] 1000 a0.data.toList a0.size false 0 false) 0 = S1 [102] 1000 a0.data.toList a0.size true 0 false := rfl
  have t4 := append_old [102] nm_f 1000 a0.size 0 true a0.data.toList a0.data.toList (by omega)
  rw [bytes_fuse, if_neg (by omega), List.take_zero, List.append_nil] at t4
  have t5 : readS (S1 [102] 1000 a0.data.toList a0.size true 0 true) [102] = [] := rfl
  have t6 := last_one [102] 1000 a0.size 0 true true a0.data.toList
  rw [← hA, List.take_length, hA] at t6
  have t7 := append_off [102] 1000 a0.size 0 true a0.data.toList a1.data.toList [102]
  have t8 := sync_off [102] 1000 a0.size 0 true a0.data.toList [102]
  have t9 := cut_off [102] 1000 a0.size 0 true a0.data.toList [102] a2
  have t10 := append_off [102] 1000 a0.size 0 true a0.data.toList [] []
  have t11 : crashS (S1 [102] 1000 a0.data.toList a0.size true 0 true) a2 = S1 [102] 1000 a0.data.toList a0.size false 0 false := by
    have := crash_one [102] 1000 a0.size 0 (max a2 0).toNat true true a0.data.toList
    rw [hA, Nat.sub_self, Nat.min_zero, Nat.add_zero] at this
    have e : crashS (S1 [102] 1000 a0.data.toList a0.size true 0 true) a2 = crashS (S1 [102] 1000 a0.data.toList a0.size true 0 true) ((max a2 0).toNat : Int) := by
      unfold crashS
      rw [show (max (((max a2 0).toNat : Nat) : Int) 0).toNat = (max a2 0).toNat from by omega]
    rw [e, this, List.take_of_length_le (by omega)]
  have t12 := read_one [102] 1000 a0.size 0 false a0.data.toList
  have t13 := append_old [102] nm_f 1000 a0.size 0 false a0.data.toList a1.data.toList (by omega)
  rw [bytes_free] at t13
  have t14 := sync_one [102] 1000 a0.size 0 (a0.data.toList ++ a1.data.toList)
  obtain ⟨u, hu⟩ : ∃ u, a0.size + a1.size = u := ⟨_, rfl⟩
  have t15 : usedL (S1 [102] 1000 (a0.data.toList ++ a1.data.toList) (a0.data.toList ++ a1.data.toList).length false 0 false).L = u := by
    rw [show (S1 [102] 1000 (a0.data.toList ++ a1.data.toList) (a0.data.toList ++ a1.data.toList).length false 0 false).L = [⟨[102], a0.data.toList ++ a1.data.toList, _⟩] from rfl, used_one, List.length_append, hA, hB, hu]
  have hE : bsL [] = ⟨#[]⟩ := rfl
  have z1 : ((u : Int) == (a0.size : Int) + (a1.size : Int)) = true := by rw [beq_iff_eq]; omega
  have HA := Lib.hid (bsL_data a0); have HE := Lib.hid hE
  have T1 := Lib.hid t1; have T2 := Lib.hid t2; have T3 := Lib.hid t3; have T4 := Lib.hid t4; have T5 := Lib.hid t5; have T6 := Lib.hid t6; have T7 := Lib.hid t7; have T8 := Lib.hid t8; have T9 := Lib.hid t9; have T10 := Lib.hid t10; have T11 := Lib.hid t11; have T12 := Lib.hid t12; have T13 := Lib.hid t13; have T14 := Lib.hid t14; have T15 := Lib.hid t15
  clear t1 t2 t3 t4 t5 t6 t7 t8 t9 t10 t11 t12 t13 t14 t15 hA hB hu hE hbig hz
  go_enter Try.func8, Try.ntmps8
  go_wp2_with fail
  refine HN.out.mono ?_
  rintro e w1 ⟨p, rfl, hm⟩
  have M1 := Lib.hid hm; clear hm
  go_wp2_with fail
  refine (M1.out.append H0.out ⟨#[102]⟩ a0 (by decide) s0 rfl rfl T1.out).mono ?_
  rintro e w2 ⟨rfl, hm⟩
  have M2 := Lib.hid hm; clear hm M1
  go_wp2_with fail
  refine (M2.out.sync H0.out ⟨#[102]⟩ (by decide) rfl T2.out).mono ?_
  rintro e w3 ⟨rfl, hm⟩
  have M3 := Lib.hid hm; clear hm M2
  go_wp2_with fail
  refine (M3.out.fuse H0.out 0 (by omega) (by omega) T3.out).mono ?_
  rintro e w4 ⟨rfl, hm⟩
  have M4 := Lib.hid hm; clear hm M3
  go_wp2_with fail
  refine (M4.out.append H0.out ⟨#[102]⟩ a0 (by decide) s0 rfl rfl T4.out).mono ?_
  rintro e w5 ⟨rfl, hm⟩
  have M5 := Lib.hid hm; clear hm M4
  go_wp2_with fail
  refine (M5.out.dead (d := true) rfl).mono ?_
  rintro e w6 ⟨rfl, hm⟩
  have M6 := Lib.hid hm; clear hm M5
  go_wp2_with fail
  refine (M6.out.read ⟨#[102]⟩ (by decide) rfl T5.out).mono ?_
  rintro e w7 ⟨rfl, hm⟩
  have M7 := Lib.hid hm; clear hm M6
  rw [HE.out]
  go_wp2_with fail
  refine (M7.out.last H0.out ⟨#[102]⟩ (by decide) rfl T6.out).mono ?_
  rintro e w8 ⟨rfl, hm⟩
  have M8 := Lib.hid hm; clear hm M7
  rw [HA.out]
  go_wp2_with fail
  refine (M8.out.append H0.out ⟨#[102]⟩ a1 (by decide) s1 rfl rfl T7.out).mono ?_
  rintro e w9 ⟨rfl, hm⟩
  have M9 := Lib.hid hm; clear hm M8
  go_wp2_with fail
  refine (M9.out.sync H0.out ⟨#[102]⟩ (by decide) rfl T8.out).mono ?_
  rintro e w10 ⟨rfl, hm⟩
  have M10 := Lib.hid hm; clear hm M9
  go_wp2_with fail
  refine (M10.out.cut H0.out ⟨#[102]⟩ (by decide) a2 R2.out.1 R2.out.2 rfl T9.out).mono ?_
  rintro e w11 ⟨rfl, hm⟩
  have M11 := Lib.hid hm; clear hm M10
  go_wp2_with fail
  refine (M11.out.append H0.out ⟨#[]⟩ ⟨#[]⟩ (by decide) (by decide) rfl rfl T10.out).mono ?_
  rintro e w12 ⟨rfl, hm⟩
  have M12 := Lib.hid hm; clear hm M11
  go_wp2_with fail
  refine (M12.out.crash H0.out a2 R2.out.1 R2.out.2 T11.out).mono ?_
  rintro e w13 ⟨rfl, hm⟩
  have M13 := Lib.hid hm; clear hm M12
  go_wp2_with fail
  refine (HK.out _).mono ?_
  rintro e w14 ⟨rfl, hb1⟩
  have M14 := Lib.hid (M13.out.keep (M13.out.size H0.out) hb1); clear hb1 M13
  go_wp2_with fail
  refine (M14.out.dead (d := false) rfl).mono ?_
  rintro e w15 ⟨rfl, hm⟩
  have M15 := Lib.hid hm; clear hm M14
  go_wp2_with fail
  refine (M15.out.read ⟨#[102]⟩ (by decide) rfl T12.out).mono ?_
  rintro e w16 ⟨rfl, hm⟩
  have M16 := Lib.hid hm; clear hm M15
  rw [HA.out]
  go_wp2_with fail
  refine (M16.out.append H0.out ⟨#[102]⟩ a1 (by decide) s1 rfl rfl T13.out).mono ?_
  rintro e w17 ⟨rfl, hm⟩
  have M17 := Lib.hid hm; clear hm M16
  go_wp2_with fail
  refine (M17.out.sync H0.out ⟨#[102]⟩ (by decide) rfl T14.out).mono ?_
  rintro e w18 ⟨rfl, hm⟩
  have M18 := Lib.hid hm; clear hm M17
  go_wp2_with fail
  refine (M18.out.used H0.out T15.out).mono ?_
  rintro e w19 ⟨rfl, hm⟩
  have M19 := Lib.hid hm; clear hm M18
  go_wp2_with fail
  go_ret
  exact ⟨rfl, M19.out.below⟩
end Go.Proofs.Ythfgjmbbpgodcaa

/-
  The row of the law DiskOff: whatever the input, it answers true and leaves its arguments as they were; out of its walk.
-/
namespace Go.Proofs.Ythfgjmbbpgodcaa.diskOff
open Go.ChangeShapes Go.WideShapes Go.ChangeAt Go.RowKit
open Go.ChangeMaps (open_string shut_string)
theorem own : ownKnob Try.prog.godebug = none := by kernel_rfl
set_option maxRecDepth 100000 in
theorem lifted (os : Os) (started : os.Started) (H : Type) (enc : TypeId × Value → H) :
    ReturnsInHanded {} Try.checked os 8 .any (Rows.diskOffSpec.pre6 enc Try.prog Try.f8 Rows.diskOffRow.domain false) (Rows.diskOffSpec.post enc Try.prog Try.f8 false true false false) := by
  refine returnsInHanded_of_change_sized (C := Try.checked) own started (by kernel_rfl) Try.func8
    (ChangeSpec.witness6 (enc := enc) (C := Try.checked) false ⟨#[], #[.string ByteArray.empty, .string ByteArray.empty, .int .i64 0], []⟩ 8 (by kernel_rfl) (by kernel_rfl) (by kernel_rfl) (by kernel_rfl)) ?_
  intro W base args ds gs before hval0 hW _ hsz0 _
  have hsz : (DataW.weightsEach Try.prog (Try.f8.params.toList ++ Rows.diskOffSpec.plain.varTypes Try.prog) (ds ++ gs)).all (· ≤ reachBytes) = true := hsz0
  have hval : ∀ (j : Nat) t v, Try.f8.params[j]? = some t → args[j]? = some v → Value.okWide Try.prog W .any base t v := hval0
  have hW' := hW
  obtain ⟨p, q, hA0, hV, rfl, hfz, hnd⟩ := hW
  have hA : DataW.TrodAll enc Try.prog W 0 (fun _ => true) true Try.f8.params.toList args.toList ds p := hA0
  rw [Try.params8] at hA hval hsz
  obtain ⟨v0, vs0, d0, ds0, p0, q0, hargs, rfl, rfl, h0, r0⟩ := trodAll_cons hA
  obtain ⟨v1, vs1, d1, ds1, p1, q1, rfl, rfl, rfl, h1, r1⟩ := trodAll_cons r0
  obtain ⟨v2, vs2, d2, ds2, p2, q2, rfl, rfl, rfl, h2, r2⟩ := trodAll_cons r1
  obtain ⟨rfl, rfl, rfl⟩ := trodAll_nil r2
  obtain rfl : args = #[v0, v1, v2] := by cases args; simp_all
  obtain ⟨rfl, rfl⟩ := trodVars_none hV
  obtain ⟨a0, rfl, rfl, rfl, y0⟩ := open_string Try.underlying9 (hval 0 9 v0 rfl rfl) h0
  have w0 : a0.size ≤ 140737488351232 := by
    have z := sized_string hsz (j := 0) (t := 9) rfl rfl
    rw [Array.length_toList] at z
    exact z
  obtain ⟨a1, rfl, rfl, rfl, y1⟩ := open_string Try.underlying9 (hval 1 9 v1 rfl rfl) h1
  have w1 : a1.size ≤ 140737488351232 := by
    have z := sized_string hsz (j := 1) (t := 9) rfl rfl
    rw [Array.length_toList] at z
    exact z
  obtain ⟨a2, rfl, rfl, rfl, w2⟩ := open_int Try.underlying3 (hval 2 3 v2 rfl rfl) h2
  refine (diskOff_walk a0 a1 a2 W w0 w1 w2).mono fun e W' ⟨he, bel⟩ => ?_
  subst he
  exact ⟨_, rfl, _, _, _, [], _, [], hW', trodAll_mk1 (shut_bool Try.underlying4 _), (trodAll_cons_mk (shut_string Try.underlying9 y0) (trodAll_cons_mk (shut_string Try.underlying9 y1) (trodAll_cons_mk (shut_int Try.underlying3 w2) trodAll_mk0))), rfl, bel.frame _, fun h => by cases h⟩
theorem over : Rows.diskOffRow.holds Try.pinned (OpenSpec.ofChange Rows.diskOffSpec) :=
  OpenClaim.holds_of_wide 8 Try.f8 rfl rfl rfl rfl rfl rfl rfl ⟨rfl, rfl, rfl, rfl, rfl⟩ rfl rfl rfl rfl rfl (by kernel_rfl) Try.func8 (by kernel_rfl)
    (of_decide_eq_true (by kernel_rfl)) (by unfold Func.isWrapper; first | (rw [if_pos (by decide +kernel)]; kernel_rfl) | (rw [if_neg (by decide +kernel)]; exact ⟨rfl, rfl⟩))
    (fun os started H enc _ => lifted os started H enc)
end Go.Proofs.Ythfgjmbbpgodcaa.diskOff
namespace Go.Proofs.Ythfgjmbbpgodcaa
/-- The row, under a short name. -/
theorem diskOff_holds : Rows.DiskOffSaid := diskOff.over
#print axioms diskOff_holds
end Go.Proofs.Ythfgjmbbpgodcaa

