/-
  Texts of this session, merged in build order: Open, DFront, DLCut, RDiskCut.
-/
import Derived.WalkKit
import Derived.ProofKit
import Derived.OpenShut
import Derived.ShutString
import Derived.ChangeOld
import Derived.Below
import Derived.SizedLaws
import Derived.SliceStrings
import Derived.Test.YthfgjmbbpgodcaaZC0
import Derived.Test.YthfgjmbbpgodcaaRows
set_option linter.unusedVariables false
set_option linter.unusedSimpArgs false
/-
  What a law's arguments read as, in one form: a slice of bytes or of texts is a row of cells ('RowAt'), each no longer than the form's reach.
-/
namespace Go.Proofs.Ythfgjmbbpgodcaa
open Go.ChangeShapes Go.WideShapes Go.ChangeAt Go.RowKit

/-- The values lie in a row from a on. -/
def RowAt (W : World) (a : Option Addr) (vs : List Value) : Prop :=
  0 < vs.length → ∃ b off, a = some ⟨b, off, none⟩ ∧ b < W.heap.size ∧ ∀ i (h : i < vs.length), W.cell? ⟨b, off + i, none⟩ = some vs[i]
theorem RowAt.below {W W' : World} {a : Option Addr} {vs : List Value} (h : RowAt W a vs) (hb : Below W.heap.size W W') : RowAt W' a vs := fun hp => by
  obtain ⟨b, off, e, hlt, hc⟩ := h hp
  exact ⟨b, off, e, Nat.lt_of_lt_of_le hlt hb.size, fun i hi => (hb.cell (p := ⟨b, off + i, none⟩) hlt).trans (hc i hi)⟩

section
variable {H : Type} {enc : TypeId × Value → H} {P : Program} {W : World} {base : Nat} {spare : Nat → Bool} {held : Bool}
theorem weights_all_mem {e : TypeId} : ∀ {l : List (DataW H)} {d : DataW H}, d ∈ l → ∀ n ∈ d.weights P e, n ∈ DataW.weightsAll P e l
  | d0 :: l, d, hd, n, hn => by
    simp only [DataW.weightsAll, List.mem_append]
    rcases List.mem_cons.1 hd with rfl | hd
    · exact .inl hn
    · exact .inr (weights_all_mem hd n hn)
theorem row_of_cells {a : Addr} {vs : List Value} (hc : ∀ i (h : i < vs.length), W.cell? (a.add i) = some vs[i]) : RowAt W (some a) vs := fun hp => by
  have h0 := hc 0 hp
  obtain ⟨b, off, spot⟩ := a
  have hs : spot = none := by simpa [Addr.add] using World.cell?_spot h0
  subst hs
  refine ⟨b, off, rfl, ?_, fun i hi => ?_⟩
  · have := World.block_lt_of_cell? W _ h0
    simpa [Addr.add] using this
  · rw [← hc i hi]
    congr 1
    unfold Addr.add
    split <;> simp_all
/-- A slice of texts. -/
theorem open_strs {ts : List TypeId} {ds : List (DataW H)} {j : Nat} {t e : TypeId} {a : Option Addr} {len cap : Nat} {d : DataW H} {ps : List MemPlace}
    (hsz : (DataW.weightsEach P ts ds).all (· ≤ reachBytes) = true) (ht : ts[j]? = some t) (hd : ds[j]? = some d) (hu : P.underlying t = some (.slice e)) (he : P.underlying e = some .string) (hc : P.cellsOf e = 1) (hB : P.bytesOf e = 16)
    (h : DataW.Trod enc P W base spare held t (.slice a len cap) d ps) :
    ∃ ss : List ByteArray, ss.length = len ∧ RowAt W a (ss.map .string) ∧ (∀ s ∈ ss, s.size ≤ 140737488351232) ∧ len * 16 ≤ 140737488351232 := by
  obtain ⟨fuel, hf⟩ := h
  rcases open_strings hu he hc hf with ⟨hcs, _⟩ | ⟨x, l, c, zs, hcs, _, hl, _, hz, hx, hcell, _⟩
  · simp [Value.cells] at hcs
    obtain ⟨rfl, rfl, rfl⟩ := hcs
    exact ⟨[], rfl, (fun hp => absurd hp (by simp)), (by simp), by simp⟩
  · simp [Value.cells] at hcs
    obtain ⟨rfl, rfl, rfl⟩ := hcs
    obtain ⟨hx, _⟩ := Prod.mk.inj hx
    subst hx
    have hl2 : len ≤ zs.length := by
      rw [hz]
      split
      · exact hl
      · exact Nat.le_refl _
    have z := sized_slice hsz ht hd hu
    rw [hB] at z
    have h1 : (strs (H := H) (zs.take len)).length + (strs (H := H) (zs.drop len)).length = zs.length := by
      simp [strs]
      omega
    rw [h1] at z
    refine ⟨zs.take len, by simp; omega, row_of_cells fun i hi => ?_, fun s hs => ?_, Nat.le_trans (Nat.mul_le_mul_right _ hl2) z⟩
    · have hi' : i < zs.length := by simp at hi; omega
      rw [hcell i hi']
      simp [List.getD_eq_getElem?_getD, List.getElem?_eq_getElem hi']
    · have hm : (DataW.lit (.string s.data.toList) : DataW H) ∈ strs (H := H) (zs.take len) := List.mem_map.2 ⟨s, hs, rfl⟩
      have hn := weights_all_mem (P := P) (e := e) hm s.data.toList.length (by simp [DataW.weights])
      have hn2 : s.data.toList.length ∈ DataW.weights P t (.slice (strs (H := H) (zs.take len)) (strs (zs.drop len))) := by
        simp only [DataW.weights, hu, List.mem_cons, List.mem_append]
        exact .inr (.inl hn)
      have := List.all_eq_true.1 hsz _ (DataW.weights_mem_each ht hd _ hn2)
      rw [Array.length_toList] at this
      exact of_decide_eq_true this
/-- A slice of whole numbers. -/
theorem open_nums {ts : List TypeId} {ds : List (DataW H)} {j : Nat} {t e : TypeId} {k : IntKind} {a : Option Addr} {len cap : Nat} {d : DataW H} {ps : List MemPlace}
    (hsz : (DataW.weightsEach P ts ds).all (· ≤ reachBytes) = true) (ht : ts[j]? = some t) (hd : ds[j]? = some d) (hu : P.underlying t = some (.slice e)) (he : P.underlying e = some (.int k)) (hc : P.cellsOf e = 1) {B : Nat} (hB : P.bytesOf e = B)
    (h : DataW.Trod enc P W base spare held t (.slice a len cap) d ps) :
    ∃ zs : List Int, zs.length = len ∧ RowAt W a (zs.map (.int k)) ∧ (∀ z ∈ zs, (Lit.int k z).wf = true) ∧ len * B ≤ 140737488351232 ∧ len ≤ cap ∧ cap ≤ maxLen := by
  obtain ⟨fuel, hf⟩ := h
  rcases open_ints hu he hc hf with ⟨hcs, _⟩ | ⟨x, l, c, zs, hcs, _, hl, hm, hz, hx, hcell, hwf⟩
  · simp [Value.cells] at hcs
    obtain ⟨rfl, rfl, rfl⟩ := hcs
    exact ⟨[], rfl, (fun hp => absurd hp (by simp)), (by simp), by simp, by simp, by simp [maxLen]⟩
  · simp [Value.cells] at hcs
    obtain ⟨rfl, rfl, rfl⟩ := hcs
    obtain ⟨hx, _⟩ := Prod.mk.inj hx
    subst hx
    have hl2 : len ≤ zs.length := by
      rw [hz]
      split
      · exact hl
      · exact Nat.le_refl _
    have z := sized_slice hsz ht hd hu
    rw [hB] at z
    have h1 : (lits (H := H) k (zs.take len)).length + (lits (H := H) k (zs.drop len)).length = zs.length := by
      simp [lits]
      omega
    rw [h1] at z
    refine ⟨zs.take len, by simp; omega, row_of_cells fun i hi => ?_, fun s hs => hwf s (List.mem_of_mem_take hs), Nat.le_trans (Nat.mul_le_mul_right _ hl2) z, hl, hm⟩
    have hi' : i < zs.length := by simp at hi; omega
    rw [hcell i hi']
    simp [List.getD_eq_getElem?_getD, List.getElem?_eq_getElem hi']
end
theorem byte_wf {z : Int} (h : (Lit.int .u8 z).wf = true) : ∃ c : UInt8, z = (c.toNat : Int) := by
  have := bounds_u8 h
  refine ⟨UInt8.ofNat z.toNat, ?_⟩
  rw [UInt8.toNat_ofNat']
  omega
theorem bytes_wf : ∀ {zs : List Int}, (∀ z ∈ zs, (Lit.int .u8 z).wf = true) → ∃ l : List UInt8, zs = l.map fun c => (c.toNat : Int)
  | [], _ => ⟨[], rfl⟩
  | z :: zs, h => by
    obtain ⟨c, hc⟩ := byte_wf (h z (by simp))
    obtain ⟨l, hl⟩ := bytes_wf (zs := zs) (fun x hx => h x (by simp [hx]))
    exact ⟨c :: l, by rw [hc, hl]; rfl⟩
end Go.Proofs.Ythfgjmbbpgodcaa

/-
  Small laws of texts, for the walks of the disk's laws.
-/
namespace Go.Proofs.Ythfgjmbbpgodcaa
open Go.RowKit Go.Maps Go.Lib
set_option linter.unusedSimpArgs false
set_option linter.unusedVariables false
theorem u8_int {z : Int} (h : (Lit.int .u8 z).wf = true) : ∃ n : Nat, z = n ∧ n ≤ 255 := by
  have : 0 ≤ z ∧ z ≤ 255 := by simpa [Lit.wf, IntKind.min, IntKind.max, IntKind.signed, IntKind.bits] using h
  exact ⟨z.toNat, by omega, by omega⟩
/-- A text that is all of one and a front of another. -/
theorem front_of (a b : ByteArray) (q : Nat) (hq : q ≤ b.size) (Z : ByteArray) (hZ : bsL (a.data.toList ++ b.data.toList.take q) = Z) : Z.size = a.size + q ∧ (Z.extract 0 a.size).toList = a.toList ∧ ((a ++ b).extract 0 Z.size).toList = Z.toList := by
  have hl : (a.data.toList ++ b.data.toList.take q).length = a.size + q := by rw [List.length_append, dl, List.length_take, dl]; omega
  have hs : Z.size = a.size + q := by rw [← hZ, bsL_size, hl]
  have hd : Z.data.toList = a.data.toList ++ b.data.toList.take q := by rw [← hZ, bsL_toList]
  refine ⟨hs, ?_, ?_⟩
  · rw [extract_bs, bsL_tl, hd, List.drop_zero, List.take_append_of_le_length (by rw [dl]; exact Nat.le_refl _), List.take_of_length_le (by rw [dl]; exact Nat.le_refl _), ByteArray.toList_eq]
  · rw [extract_bs, bsL_tl, app_dl, hs, List.drop_zero, ByteArray.toList_eq, hd]
    have : a.size + q = a.data.toList.length + q := by rw [dl]
    rw [this, List.take_length_add_append]
theorem new_1000 : newS 1000 = ⟨1000, [], false, 0, false⟩ := by rfl
theorem nm_f : ([102] : Nm) ≠ [] := by simp
end Go.Proofs.Ythfgjmbbpgodcaa

/-
  The law DiskCut, walked: what is cut away is gone; what is left lasts as far as it did.
-/
namespace Go.Proofs.Ythfgjmbbpgodcaa
open Go.RowKit Go.Maps Go.Lib
set_option linter.unusedSimpArgs false
set_option linter.unusedVariables false
theorem cut_over (nm : Nm) (R n l : Nat) (fu : Bool) (x : List UInt8) (k : Int) (hk : (x.length : Int) < k) : cutS (S1 nm R x n fu l false) nm k = (S1 nm R x n fu l false, 1) := by
  have h1 : findF (S1 nm R x n fu l false).L nm = some ⟨nm, x, n⟩ := find_one nm x n
  unfold cutS
  rw [h1, if_neg (by show ¬ false = true; simp)]
  show (if k < 0 ∨ (x.length : Int) < k then _ else _) = _
  rw [if_pos (.inr hk)]
theorem cut_gone (nm nm' : Nm) (hne : nm ≠ nm') (R n l : Nat) (fu : Bool) (x : List UInt8) (k : Int) : cutS (S1 nm R x n fu l false) nm' k = (S1 nm R x n fu l false, 31) := by
  have h1 : findF (S1 nm R x n fu l false).L nm' = none := by
    unfold findF S1
    simp [hne]
  unfold cutS
  rw [h1, if_neg (by show ¬ false = true; simp)]
theorem new_200 : newS 200 = ⟨200, [], false, 0, false⟩ := by rfl
theorem take_ex (s : ByteArray) (L : List UInt8) (hL : s.data.toList = L) (k : Nat) (Z : ByteArray) (hZ : bsL (L.take k) = Z) : (s.extract 0 k).toList = Z.toList := by
  rw [extract_bs, List.drop_zero, hL, hZ]
set_option maxRecDepth 100000 in
set_option maxHeartbeats 4000000 in
theorem diskCut_walk (a0 a1 : ByteArray) (a2 a3 : Int) (W : World) (s0 : a0.size ≤ 140737488351232) (s1 : a1.size ≤ 140737488351232) (i2 : (Lit.int .u8 a2).wf = true) (i3 : (Lit.int .u8 a3).wf = true) :
    Calls Try.prog 6 #[.string a0, .string a1, .int .u8 a2, .int .u8 a3] W fun e w' => e = .returned (.bool true) ∧ Below W.heap.size W w' := by
  obtain ⟨n, rfl, hn⟩ := u8_int i2
  obtain ⟨c, rfl, hc⟩ := u8_int i3
  clear i2 i3
  have H0 := Lib.hid (Nat.le_refl W.heap.size)
  have HK := Lib.hid known_any
  by_cases hbig : 100 < a0.size + a1.size
  · have hb : (100 : Int) < (a0.size : Int) + (a1.size : Int) := by omega
    clear hbig
    go_enter Try.func6, Try.ntmps6
    go_wp2_with fail
    refine (HK.out _).mono ?_
    rintro e w1 ⟨rfl, hb1⟩
    have B1 := Lib.hid hb1; clear hb1
    go_wp2_with fail
    go_ret
    exact ⟨rfl, B1.out⟩
  have hb : (a0.size : Int) + (a1.size : Int) ≤ 100 := by omega
  have HN := Lib.hid (Mine.new (Below.refl W.heap.size W) (Nat.le_refl _) 200 new_200)
  have hA := dl a0
  have hB := dl a1
  have hAB := app_dl a0 a1
  have t1 : appendS ⟨200, [], false, 0, false⟩ [102] a0.data.toList = (S1 [102] 200 a0.data.toList 0 false 0 false, 0) := by
    rw [append_new _ nm_f _ _ _ _ (by omega), bytes_free]; rfl
  have t2 := sync_one [102] 200 0 0 a0.data.toList
  have t3 := append_old [102] nm_f 200 a0.size 0 false a0.data.toList a1.data.toList (by omega)
  rw [bytes_free] at t3
  rw [hA] at t2
  obtain ⟨k, hk⟩ : ∃ k, n % (a0.size + a1.size + 1) = k := ⟨_, rfl⟩
  have hkl : k ≤ a0.size + a1.size := by have := Nat.mod_lt n (show 0 < a0.size + a1.size + 1 by omega); omega
  have hmod : (n : Int) % ((a0.size : Int) + (a1.size : Int) + 1) = (k : Int) := by rw [← hk]; exact (Int.natCast_emod n (a0.size + a1.size + 1)).symm
  have hlen : (a0.data.toList ++ a1.data.toList).length = a0.size + a1.size := by rw [List.length_append, hA, hB]
  have t4 := cut_one [102] 200 a0.size 0 k (a0.data.toList ++ a1.data.toList) (by omega)
  obtain ⟨low, hlow⟩ : ∃ low, min a0.size k = low := ⟨_, rfl⟩
  rw [hlow] at t4
  have t5 := read_one [102] 200 low 0 false ((a0.data.toList ++ a1.data.toList).take k)
  have t6 := last_one [102] 200 low 0 false false ((a0.data.toList ++ a1.data.toList).take k)
  have t7 := crash_one [102] 200 low 0 c false false ((a0.data.toList ++ a1.data.toList).take k)
  have hlk : ((a0.data.toList ++ a1.data.toList).take k).length = k := by rw [List.length_take, hlen]; omega
  obtain ⟨m, hm⟩ : ∃ m, min k (low + c) = m := ⟨_, rfl⟩
  rw [hlk, show low + min c (k - low) = m from by omega, List.take_take, show min m k = m from by omega] at t7
  have t8 := read_one [102] 200 m 0 false ((a0.data.toList ++ a1.data.toList).take m)
  have hlm : ((a0.data.toList ++ a1.data.toList).take m).length = m := by rw [List.length_take, hlen]; omega
  obtain ⟨X, hX⟩ : ∃ X, bsL ((a0.data.toList ++ a1.data.toList).take k) = X := ⟨_, rfl⟩
  obtain ⟨Y, hY⟩ : ∃ Y, bsL (((a0.data.toList ++ a1.data.toList).take k).take low) = Y := ⟨_, rfl⟩
  obtain ⟨Z, hZ⟩ : ∃ Z, bsL ((a0.data.toList ++ a1.data.toList).take m) = Z := ⟨_, rfl⟩
  have hZs : Z.size = m := by rw [← hZ, bsL_size, hlm]
  have t9 := cut_over [102] 200 m 0 false ((a0.data.toList ++ a1.data.toList).take m) ((Z.size : Int) + 1) (by omega)
  have t10 := cut_gone [102] [103] (by decide) 200 m 0 false ((a0.data.toList ++ a1.data.toList).take m) 0
  have x1 := take_ex (a0 ++ a1) _ hAB k X hX
  have x2 := take_ex a0 _ rfl low Y (by rw [← hY, List.take_take, show min low k = low from by omega, List.take_append_of_le_length (by omega)])
  have x3 := take_ex (a0 ++ a1) _ hAB m Z hZ
  have T1 := Lib.hid t1; have T2 := Lib.hid t2; have T3 := Lib.hid t3; have T4 := Lib.hid t4; have T5 := Lib.hid t5; have T6 := Lib.hid t6; have T7 := Lib.hid t7; have T8 := Lib.hid t8; have T9 := Lib.hid t9; have T10 := Lib.hid t10
  have HX := Lib.hid hX; have HY := Lib.hid hY; have HZ := Lib.hid hZ
  have z1 : (k : Int) ≤ (a0.size : Int) + (a1.size : Int) := by omega
  have z2 : (low : Int) ≤ (a0.size : Int) := by omega
  have z3 : (m : Int) ≤ (a0.size : Int) + (a1.size : Int) := by omega
  have z4 : min (k : Int) (a0.size : Int) = (low : Int) := by omega
  have z5 : min (k : Int) ((low : Int) + (c : Int)) = (m : Int) := by omega
  have z6 : (Z.size : Int) ≤ 100 := by omega
  have z7 : (c : Int) ≤ 255 := by omega
  have z8 : (n : Int) ≤ 255 := by omega
  clear t1 t2 t3 t4 t5 t6 t7 t8 t9 t10 hX hY hZ hZs hlm hlk hm hlow hlen hk hkl hA hB hAB hbig hc hn
  go_enter Try.func6, Try.ntmps6
  go_wp2_with fail
  refine HN.out.mono ?_
  rintro e w1 ⟨p, rfl, hm⟩
  have M1 := Lib.hid hm; clear hm
  go_wp2_with fail
  refine (M1.out.append H0.out ⟨#[102]⟩ a0 (by decide) s0 rfl rfl T1.out).mono ?_
  rintro e w2 ⟨rfl, hm⟩
  have M2 := Lib.hid hm; clear hm M1
  go_wp2_with fail
  refine (M2.out.sync H0.out ⟨#[102]⟩ (by decide) rfl T2.out).mono ?_
  rintro e w3 ⟨rfl, hm⟩
  have M3 := Lib.hid hm; clear hm M2
  go_wp2_with fail
  refine (M3.out.append H0.out ⟨#[102]⟩ a1 (by decide) s1 rfl rfl T3.out).mono ?_
  rintro e w4 ⟨rfl, hm⟩
  have M4 := Lib.hid hm; clear hm M3
  go_wp2_with fail
  refine (M4.out.cut H0.out ⟨#[102]⟩ (by decide) (k : Int) (by omega) (by omega) rfl T4.out).mono ?_
  rintro e w5 ⟨rfl, hm⟩
  have M5 := Lib.hid hm; clear hm M4
  go_wp2_with fail
  refine (M5.out.read ⟨#[102]⟩ (by decide) rfl T5.out).mono ?_
  rintro e w6 ⟨rfl, hm⟩
  have M6 := Lib.hid hm; clear hm M5
  rw [HX.out]
  go_wp2_with fail
  refine (M6.out.last H0.out ⟨#[102]⟩ (by decide) rfl T6.out).mono ?_
  rintro e w7 ⟨rfl, hm⟩
  have M7 := Lib.hid hm; clear hm M6
  rw [HY.out]
  go_wp2_with fail
  refine (M7.out.crash H0.out (c : Int) (by omega) (by omega) T7.out).mono ?_
  rintro e w8 ⟨rfl, hm⟩
  have M8 := Lib.hid hm; clear hm M7
  go_wp2_with fail
  refine (M8.out.read ⟨#[102]⟩ (by decide) rfl T8.out).mono ?_
  rintro e w9 ⟨rfl, hm⟩
  have M9 := Lib.hid hm; clear hm M8
  rw [HZ.out]
  go_wp2_with fail
  refine (HK.out _).mono ?_
  rintro e w10 ⟨rfl, hb1⟩
  have M10 := Lib.hid (M9.out.keep (M9.out.size H0.out) hb1); clear hb1 M9
  go_wp2_with fail
  refine (M10.out.cut H0.out ⟨#[102]⟩ (by decide) ((Z.size : Int) + 1) (by omega) (by omega) rfl T9.out).mono ?_
  rintro e w11 ⟨rfl, hm⟩
  have M11 := Lib.hid hm; clear hm M10
  go_wp2_with fail
  refine (M11.out.cut H0.out ⟨#[103]⟩ (by decide) 0 (by omega) (by omega) rfl T10.out).mono ?_
  rintro e w12 ⟨rfl, hm⟩
  have M12 := Lib.hid hm; clear hm M11
  go_wp2_with fail
  go_ret
  exact ⟨rfl, M12.out.below⟩
end Go.Proofs.Ythfgjmbbpgodcaa

/-
  The row of the law DiskCut: whatever the input, it answers true and leaves its arguments as they were; out of its walk.
-/
namespace Go.Proofs.Ythfgjmbbpgodcaa.diskCut
open Go.ChangeShapes Go.WideShapes Go.ChangeAt Go.RowKit
open Go.ChangeMaps (open_string shut_string)
theorem own : ownKnob Try.prog.godebug = none := by kernel_rfl
set_option maxRecDepth 100000 in
theorem lifted (os : Os) (started : os.Started) (H : Type) (enc : TypeId × Value → H) :
    ReturnsInHanded {} Try.checked os 6 .any (Rows.diskCutSpec.pre6 enc Try.prog Try.f6 Rows.diskCutRow.domain false) (Rows.diskCutSpec.post enc Try.prog Try.f6 false true false false) := by
  refine returnsInHanded_of_change_sized (C := Try.checked) own started (by kernel_rfl) Try.func6
    (ChangeSpec.witness6 (enc := enc) (C := Try.checked) false ⟨#[], #[.string ByteArray.empty, .string ByteArray.empty, .int .u8 0, .int .u8 0], []⟩ 8 (by kernel_rfl) (by kernel_rfl) (by kernel_rfl) (by kernel_rfl)) ?_
  intro W base args ds gs before hval0 hW _ hsz0 _
  have hsz : (DataW.weightsEach Try.prog (Try.f6.params.toList ++ Rows.diskCutSpec.plain.varTypes Try.prog) (ds ++ gs)).all (· ≤ reachBytes) = true := hsz0
  have hval : ∀ (j : Nat) t v, Try.f6.params[j]? = some t → args[j]? = some v → Value.okWide Try.prog W .any base t v := hval0
  have hW' := hW
  obtain ⟨p, q, hA0, hV, rfl, hfz, hnd⟩ := hW
  have hA : DataW.TrodAll enc Try.prog W 0 (fun _ => true) true Try.f6.params.toList args.toList ds p := hA0
  rw [Try.params6] at hA hval hsz
  obtain ⟨v0, vs0, d0, ds0, p0, q0, hargs, rfl, rfl, h0, r0⟩ := trodAll_cons hA
  obtain ⟨v1, vs1, d1, ds1, p1, q1, rfl, rfl, rfl, h1, r1⟩ := trodAll_cons r0
  obtain ⟨v2, vs2, d2, ds2, p2, q2, rfl, rfl, rfl, h2, r2⟩ := trodAll_cons r1
  obtain ⟨v3, vs3, d3, ds3, p3, q3, rfl, rfl, rfl, h3, r3⟩ := trodAll_cons r2
  obtain ⟨rfl, rfl, rfl⟩ := trodAll_nil r3
  obtain rfl : args = #[v0, v1, v2, v3] := by cases args; simp_all
  obtain ⟨rfl, rfl⟩ := trodVars_none hV
  obtain ⟨a0, rfl, rfl, rfl, y0⟩ := open_string Try.underlying9 (hval 0 9 v0 rfl rfl) h0
  have w0 : a0.size ≤ 140737488351232 := by
    have z := sized_string hsz (j := 0) (t := 9) rfl rfl
    rw [Array.length_toList] at z
    exact z
  obtain ⟨a1, rfl, rfl, rfl, y1⟩ := open_string Try.underlying9 (hval 1 9 v1 rfl rfl) h1
  have w1 : a1.size ≤ 140737488351232 := by
    have z := sized_string hsz (j := 1) (t := 9) rfl rfl
    rw [Array.length_toList] at z
    exact z
  obtain ⟨a2, rfl, rfl, rfl, w2⟩ := open_int Try.underlying5 (hval 2 5 v2 rfl rfl) h2
  obtain ⟨a3, rfl, rfl, rfl, w3⟩ := open_int Try.underlying5 (hval 3 5 v3 rfl rfl) h3
  refine (diskCut_walk a0 a1 a2 a3 W w0 w1 w2 w3).mono fun e W' ⟨he, bel⟩ => ?_
  subst he
  exact ⟨_, rfl, _, _, _, [], _, [], hW', trodAll_mk1 (shut_bool Try.underlying4 _), (trodAll_cons_mk (shut_string Try.underlying9 y0) (trodAll_cons_mk (shut_string Try.underlying9 y1) (trodAll_cons_mk (shut_int Try.underlying5 w2) (trodAll_cons_mk (shut_int Try.underlying5 w3) trodAll_mk0)))), rfl, bel.frame _, fun h => by cases h⟩
theorem over : Rows.diskCutRow.holds Try.pinned (OpenSpec.ofChange Rows.diskCutSpec) :=
  OpenClaim.holds_of_wide 6 Try.f6 rfl rfl rfl rfl rfl rfl rfl ⟨rfl, rfl, rfl, rfl, rfl⟩ rfl rfl rfl rfl rfl (by kernel_rfl) Try.func6 (by kernel_rfl)
    (of_decide_eq_true (by kernel_rfl)) (by unfold Func.isWrapper; first | (rw [if_pos (by decide +kernel)]; kernel_rfl) | (rw [if_neg (by decide +kernel)]; exact ⟨rfl, rfl⟩))
    (fun os started H enc _ => lifted os started H enc)
end Go.Proofs.Ythfgjmbbpgodcaa.diskCut
namespace Go.Proofs.Ythfgjmbbpgodcaa
/-- The row, under a short name. -/
theorem diskCut_holds : Rows.DiskCutSaid := diskCut.over
#print axioms diskCut_holds
end Go.Proofs.Ythfgjmbbpgodcaa

