/-
  Texts of this session, merged in build order: Open, DFront, DLRoom, RDiskRoom.
-/
import Derived.WalkKit
import Derived.ProofKit
import Derived.OpenShut
import Derived.ShutString
import Derived.ChangeOld
import Derived.Below
import Derived.SizedLaws
import Derived.SliceStrings
import Derived.Test.YthfgjmbbpgodcaaZC0
import Derived.LoopTactic
import Derived.Laws.MakeOwn
import Derived.Test.YthfgjmbbpgodcaaRows
set_option linter.unusedVariables false
set_option linter.unusedSimpArgs false
/-
  What a law's arguments read as, in one form: a slice of bytes or of texts is a row of cells ('RowAt'), each no longer than the form's reach.
-/
namespace Go.Proofs.Ythfgjmbbpgodcaa
open Go.ChangeShapes Go.WideShapes Go.ChangeAt Go.RowKit

/-- The values lie in a row from a on. -/
def RowAt (W : World) (a : Option Addr) (vs : List Value) : Prop :=
  0 < vs.length → ∃ b off, a = some ⟨b, off, none⟩ ∧ b < W.heap.size ∧ ∀ i (h : i < vs.length), W.cell? ⟨b, off + i, none⟩ = some vs[i]
theorem RowAt.below {W W' : World} {a : Option Addr} {vs : List Value} (h : RowAt W a vs) (hb : Below W.heap.size W W') : RowAt W' a vs := fun hp => by
  obtain ⟨b, off, e, hlt, hc⟩ := h hp
  exact ⟨b, off, e, Nat.lt_of_lt_of_le hlt hb.size, fun i hi => (hb.cell (p := ⟨b, off + i, none⟩) hlt).trans (hc i hi)⟩

section
variable {H : Type} {enc : TypeId × Value → H} {P : Program} {W : World} {base : Nat} {spare : Nat → Bool} {held : Bool}
theorem weights_all_mem {e : TypeId} : ∀ {l : List (DataW H)} {d : DataW H}, d ∈ l → ∀ n ∈ d.weights P e, n ∈ DataW.weightsAll P e l
  | d0 :: l, d, hd, n, hn => by
    simp only [DataW.weightsAll, List.mem_append]
    rcases List.mem_cons.1 hd with rfl | hd
    · exact .inl hn
    · exact .inr (weights_all_mem hd n hn)
theorem row_of_cells {a : Addr} {vs : List Value} (hc : ∀ i (h : i < vs.length), W.cell? (a.add i) = some vs[i]) : RowAt W (some a) vs := fun hp => by
  have h0 := hc 0 hp
  obtain ⟨b, off, spot⟩ := a
  have hs : spot = none := by simpa [Addr.add] using World.cell?_spot h0
  subst hs
  refine ⟨b, off, rfl, ?_, fun i hi => ?_⟩
  · have := World.block_lt_of_cell? W _ h0
    simpa [Addr.add] using this
  · rw [← hc i hi]
    congr 1
    unfold Addr.add
    split <;> simp_all
/-- A slice of texts. -/
theorem open_strs {ts : List TypeId} {ds : List (DataW H)} {j : Nat} {t e : TypeId} {a : Option Addr} {len cap : Nat} {d : DataW H} {ps : List MemPlace}
    (hsz : (DataW.weightsEach P ts ds).all (· ≤ reachBytes) = true) (ht : ts[j]? = some t) (hd : ds[j]? = some d) (hu : P.underlying t = some (.slice e)) (he : P.underlying e = some .string) (hc : P.cellsOf e = 1) (hB : P.bytesOf e = 16)
    (h : DataW.Trod enc P W base spare held t (.slice a len cap) d ps) :
    ∃ ss : List ByteArray, ss.length = len ∧ RowAt W a (ss.map .string) ∧ (∀ s ∈ ss, s.size ≤ 140737488351232) ∧ len * 16 ≤ 140737488351232 := by
  obtain ⟨fuel, hf⟩ := h
  rcases open_strings hu he hc hf with ⟨hcs, _⟩ | ⟨x, l, c, zs, hcs, _, hl, _, hz, hx, hcell, _⟩
  · simp [Value.cells] at hcs
    obtain ⟨rfl, rfl, rfl⟩ := hcs
    exact ⟨[], rfl, (fun hp => absurd hp (by simp)), (by simp), by simp⟩
  · simp [Value.cells] at hcs
    obtain ⟨rfl, rfl, rfl⟩ := hcs
    obtain ⟨hx, _⟩ := Prod.mk.inj hx
    subst hx
    have hl2 : len ≤ zs.length := by
      rw [hz]
      split
      · exact hl
      · exact Nat.le_refl _
    have z := sized_slice hsz ht hd hu
    rw [hB] at z
    have h1 : (strs (H := H) (zs.take len)).length + (strs (H := H) (zs.drop len)).length = zs.length := by
      simp [strs]
      omega
    rw [h1] at z
    refine ⟨zs.take len, by simp; omega, row_of_cells fun i hi => ?_, fun s hs => ?_, Nat.le_trans (Nat.mul_le_mul_right _ hl2) z⟩
    · have hi' : i < zs.length := by simp at hi; omega
      rw [hcell i hi']
      simp [List.getD_eq_getElem?_getD, List.getElem?_eq_getElem hi']
    · have hm : (DataW.lit (.string s.data.toList) : DataW H) ∈ strs (H := H) (zs.take len) := List.mem_map.2 ⟨s, hs, rfl⟩
      have hn := weights_all_mem (P := P) (e := e) hm s.data.toList.length (by simp [DataW.weights])
      have hn2 : s.data.toList.length ∈ DataW.weights P t (.slice (strs (H := H) (zs.take len)) (strs (zs.drop len))) := by
        simp only [DataW.weights, hu, List.mem_cons, List.mem_append]
        exact .inr (.inl hn)
      have := List.all_eq_true.1 hsz _ (DataW.weights_mem_each ht hd _ hn2)
      rw [Array.length_toList] at this
      exact of_decide_eq_true this
/-- A slice of whole numbers. -/
theorem open_nums {ts : List TypeId} {ds : List (DataW H)} {j : Nat} {t e : TypeId} {k : IntKind} {a : Option Addr} {len cap : Nat} {d : DataW H} {ps : List MemPlace}
    (hsz : (DataW.weightsEach P ts ds).all (· ≤ reachBytes) = true) (ht : ts[j]? = some t) (hd : ds[j]? = some d) (hu : P.underlying t = some (.slice e)) (he : P.underlying e = some (.int k)) (hc : P.cellsOf e = 1) {B : Nat} (hB : P.bytesOf e = B)
    (h : DataW.Trod enc P W base spare held t (.slice a len cap) d ps) :
    ∃ zs : List Int, zs.length = len ∧ RowAt W a (zs.map (.int k)) ∧ (∀ z ∈ zs, (Lit.int k z).wf = true) ∧ len * B ≤ 140737488351232 ∧ len ≤ cap ∧ cap ≤ maxLen := by
  obtain ⟨fuel, hf⟩ := h
  rcases open_ints hu he hc hf with ⟨hcs, _⟩ | ⟨x, l, c, zs, hcs, _, hl, hm, hz, hx, hcell, hwf⟩
  · simp [Value.cells] at hcs
    obtain ⟨rfl, rfl, rfl⟩ := hcs
    exact ⟨[], rfl, (fun hp => absurd hp (by simp)), (by simp), by simp, by simp, by simp [maxLen]⟩
  · simp [Value.cells] at hcs
    obtain ⟨rfl, rfl, rfl⟩ := hcs
    obtain ⟨hx, _⟩ := Prod.mk.inj hx
    subst hx
    have hl2 : len ≤ zs.length := by
      rw [hz]
      split
      · exact hl
      · exact Nat.le_refl _
    have z := sized_slice hsz ht hd hu
    rw [hB] at z
    have h1 : (lits (H := H) k (zs.take len)).length + (lits (H := H) k (zs.drop len)).length = zs.length := by
      simp [lits]
      omega
    rw [h1] at z
    refine ⟨zs.take len, by simp; omega, row_of_cells fun i hi => ?_, fun s hs => hwf s (List.mem_of_mem_take hs), Nat.le_trans (Nat.mul_le_mul_right _ hl2) z, hl, hm⟩
    have hi' : i < zs.length := by simp at hi; omega
    rw [hcell i hi']
    simp [List.getD_eq_getElem?_getD, List.getElem?_eq_getElem hi']
end
theorem byte_wf {z : Int} (h : (Lit.int .u8 z).wf = true) : ∃ c : UInt8, z = (c.toNat : Int) := by
  have := bounds_u8 h
  refine ⟨UInt8.ofNat z.toNat, ?_⟩
  rw [UInt8.toNat_ofNat']
  omega
theorem bytes_wf : ∀ {zs : List Int}, (∀ z ∈ zs, (Lit.int .u8 z).wf = true) → ∃ l : List UInt8, zs = l.map fun c => (c.toNat : Int)
  | [], _ => ⟨[], rfl⟩
  | z :: zs, h => by
    obtain ⟨c, hc⟩ := byte_wf (h z (by simp))
    obtain ⟨l, hl⟩ := bytes_wf (zs := zs) (fun x hx => h x (by simp [hx]))
    exact ⟨c :: l, by rw [hc, hl]; rfl⟩
end Go.Proofs.Ythfgjmbbpgodcaa

/-
  Small laws of texts, for the walks of the disk's laws.
-/
namespace Go.Proofs.Ythfgjmbbpgodcaa
open Go.RowKit Go.Maps Go.Lib
set_option linter.unusedSimpArgs false
set_option linter.unusedVariables false
theorem u8_int {z : Int} (h : (Lit.int .u8 z).wf = true) : ∃ n : Nat, z = n ∧ n ≤ 255 := by
  have : 0 ≤ z ∧ z ≤ 255 := by simpa [Lit.wf, IntKind.min, IntKind.max, IntKind.signed, IntKind.bits] using h
  exact ⟨z.toNat, by omega, by omega⟩
/-- A text that is all of one and a front of another. -/
theorem front_of (a b : ByteArray) (q : Nat) (hq : q ≤ b.size) (Z : ByteArray) (hZ : bsL (a.data.toList ++ b.data.toList.take q) = Z) : Z.size = a.size + q ∧ (Z.extract 0 a.size).toList = a.toList ∧ ((a ++ b).extract 0 Z.size).toList = Z.toList := by
  have hl : (a.data.toList ++ b.data.toList.take q).length = a.size + q := by rw [List.length_append, dl, List.length_take, dl]; omega
  have hs : Z.size = a.size + q := by rw [← hZ, bsL_size, hl]
  have hd : Z.data.toList = a.data.toList ++ b.data.toList.take q := by rw [← hZ, bsL_toList]
  refine ⟨hs, ?_, ?_⟩
  · rw [extract_bs, bsL_tl, hd, List.drop_zero, List.take_append_of_le_length (by rw [dl]; exact Nat.le_refl _), List.take_of_length_le (by rw [dl]; exact Nat.le_refl _), ByteArray.toList_eq]
  · rw [extract_bs, bsL_tl, app_dl, hs, List.drop_zero, ByteArray.toList_eq, hd]
    have : a.size + q = a.data.toList.length + q := by rw [dl]
    rw [this, List.take_length_add_append]
theorem new_1000 : newS 1000 = ⟨1000, [], false, 0, false⟩ := by rfl
theorem nm_f : ([102] : Nm) ≠ [] := by simp
end Go.Proofs.Ythfgjmbbpgodcaa

/-
  The law DiskRoom, walked: no more is there than there is room for; four files may be.
-/
namespace Go.Proofs.Ythfgjmbbpgodcaa
open Go.RowKit Go.Maps Go.Lib
set_option linter.unusedSimpArgs false
set_option linter.unusedVariables false
def fName (i : Nat) : Nm := [102, UInt8.ofNat (48 + i)]
/-- The disk, when i more files were asked for. -/
structure RoomAt (R u first i : Nat) (st : Ds) : Prop where
  room : st.room = R
  fused : st.fused = false
  dead : st.dead = false
  len : st.L.length = min 4 (first + i)
  used : usedL st.L = u
  none : ∀ j, i ≤ j → j < 8 → findF st.L (fName j) = none
theorem fName_inj {i j : Nat} (hi : i < 8) (hj : j < 8) (h : fName i = fName j) : i = j := by
  have : UInt8.ofNat (48 + i) = UInt8.ofNat (48 + j) := by unfold fName at h; injection h with _ h; injection h
  have h2 := congrArg UInt8.toNat this
  rw [UInt8.toNat_ofNat', UInt8.toNat_ofNat'] at h2
  omega
theorem room_next {R u first i : Nat} {st : Ds} (h : RoomAt R u first i st) (hu : u ≤ R) (hi : i < 8) :
    ∃ st' e, appendS st (fName i) [] = (st', e) ∧ RoomAt R u first (i + 1) st' ∧ ((first + i < 4 ∧ e = 0) ∨ (4 ≤ first + i ∧ e = 1)) := by
  have hn := h.none i (Nat.le_refl _) hi
  have hne : fName i ≠ [] := by unfold fName; simp
  by_cases h4 : 4 ≤ first + i
  · refine ⟨st, 1, ?_, ⟨h.room, h.fused, h.dead, by rw [h.len]; omega, h.used, fun j h1 h2 => h.none j (by omega) h2⟩, .inr ⟨h4, rfl⟩⟩
    unfold appendS
    rw [if_neg (by rw [h.dead]; simp), if_pos (.inr ⟨by rw [hn]; rfl, by rw [h.len]; omega⟩)]
  · refine ⟨{ st with L := putF st.L (fName i) }, 0, ?_, ⟨h.room, h.fused, h.dead, ?_, ?_, ?_⟩, .inl ⟨by omega, rfl⟩⟩
    · unfold appendS
      rw [if_neg (by rw [h.dead]; simp), if_neg (by
        rintro (h1 | ⟨_, h1⟩)
        · exact hne h1
        · rw [h.len] at h1; omega), if_neg (by rw [h.used, h.room]; simp; omega)]
      unfold withF
      rw [hn]
      rfl
    · show (putF st.L (fName i)).length = _
      rw [(put_perm _ _).length_eq, List.length_cons, h.len]
      omega
    · show usedL (putF st.L (fName i)) = u
      rw [usedL_perm (put_perm _ _), usedL_cons, h.used]
      simp
    · intro j h1 h2
      show findF (putF st.L (fName i)) (fName j) = none
      refine List.find?_eq_none.2 fun f hf => ?_
      rcases (put_mem _ _ _).1 hf with rfl | hf
      · have : fName i ≠ fName j := fun e => by have := fName_inj hi h2 e; omega
        simpa using this
      · have := find_none (h.none j (by omega) h2) f hf
        simpa using this
theorem room_first (R n : Nat) (Z : List UInt8) (hZ : Z.length = n) : ∃ st e u first, appendS ⟨R, [], false, 0, false⟩ [97] Z = (st, e) ∧ u ≤ R ∧ RoomAt R u first 0 st ∧ ((n ≤ R ∧ e = 0 ∧ first = 1) ∨ (R < n ∧ e = 20 ∧ first = 0)) := by
  by_cases h : n ≤ R
  · refine ⟨S1 [97] R Z 0 false 0 false, 0, n, 1, by rw [append_new _ (by simp) _ _ _ _ (by omega), bytes_free]; rfl, h, ⟨rfl, rfl, rfl, rfl, ?_, ?_⟩, .inl ⟨h, rfl, rfl⟩⟩
    · rw [show (S1 [97] R Z 0 false 0 false).L = [⟨[97], Z, 0⟩] from rfl, used_one, hZ]
    · intro j _ hj
      show findF [(⟨[97], Z, 0⟩ : Fl)] (fName j) = none
      unfold findF fName
      simp
  · refine ⟨⟨R, [], false, 0, false⟩, 20, 0, 0, ?_, Nat.zero_le _, ⟨rfl, rfl, rfl, rfl, rfl, fun _ _ _ => rfl⟩, .inr ⟨by omega, rfl, rfl⟩⟩
    have h1 : findF ([] : List Fl) [97] = none := rfl
    have h2 : usedL ([] : List Fl) = 0 := rfl
    unfold appendS
    rw [if_neg (by simp), if_neg (by simp), if_pos (by show R < usedL [] + Z.length; rw [h2]; omega)]
/-- string([]byte{k}). -/
theorem one_conv (w : World) (b : Nat) (hb : b < 256) (v : Int) (hv : v = (b : Int)) : (convert 24 9 (.slice (some ⟨w.heap.size, 0, none⟩) 1 1)).run Try.prog (w.alloc (.cells #[.int .u8 v] 5)) = .ok (.string (bsL [UInt8.ofNat b])) (w.alloc (.cells #[.int .u8 v] 5)) := by
  have hS : (bsL [UInt8.ofNat b]).size = 1 := rfl
  have h := Lib.run_convert_whole (P := Try.prog) (w.alloc (.cells #[.int .u8 v] 5)) 24 5 9 Try.underlying24 Try.underlying5 Try.underlying9 w.heap.size 0 (bsL [UInt8.ofNat b]) (by
    subst hv
    intro i hi
    have e : i = 0 := by omega
    subst e
    have h2 : (((bsL [UInt8.ofNat b])[0]'hi).toNat : Int) = (b : Int) := by
      show ((UInt8.ofNat b).toNat : Int) = _
      rw [UInt8.toNat_ofNat']
      omega
    rw [h2]
    exact (World.cell?_alloc_mark w #[.int .u8 (b : Int)] 5 (0, 0) 0).trans rfl) 1
  rw [hS] at h
  exact h
/-- string(make([]byte, n)). -/
theorem zero_conv {w w' : World} {base g n : Nat} (h : w.ownsRow base 5 1 (.slice (some ⟨g, 0, none⟩) n n) n (List.replicate n (.int .u8 0))) (hw : w'.heap = w.heap) : (convert 24 9 (.slice (some ⟨g, 0, none⟩) n n)).run Try.prog w' = .ok (.string (bsL (List.replicate n 0))) w' := by
  have hS : (bsL (List.replicate n 0)).size = n := by rw [bsL_size, List.length_replicate]
  have hc := Lib.run_convert_whole (P := Try.prog) w' 24 5 9 Try.underlying24 Try.underlying5 Try.underlying9 g 0 (bsL (List.replicate n 0)) (by
    intro i hi
    rw [hS] at hi
    have h2 : (((bsL (List.replicate n 0))[i]'(by rw [hS]; exact hi)).toNat : Int) = 0 := by
      have : (bsL (List.replicate n 0))[i]'(by rw [hS]; exact hi) = (List.replicate n (0 : UInt8))[i]'(by simpa using hi) := rfl
      rw [this, List.getElem_replicate]
      rfl
    rw [h2, Nat.zero_add]
    have h3 := h.cells (g := g) rfl i (.int .u8 0) (by rw [List.getElem?_replicate, if_pos hi])
    have hadd : (⟨g, 0, none⟩ : Addr).add i = ⟨g, i, none⟩ := by unfold Addr.add; split <;> simp_all
    rw [hadd] at h3
    rw [World.cell?, hw]
    exact h3) n
  rw [hS] at hc
  exact hc
set_option maxRecDepth 100000 in
set_option maxHeartbeats 4000000 in
theorem diskRoom_walk (a0 a1 a2 : Int) (W : World) (i0 : (Lit.int .u8 a0).wf = true) (i1 : (Lit.int .u8 a1).wf = true) (i2 : (Lit.int .u8 a2).wf = true) :
    Calls Try.prog 3 #[.int .u8 a0, .int .u8 a1, .int .u8 a2] W fun e w' => e = .returned (.bool true) ∧ Below W.heap.size W w' := by
  obtain ⟨R, rfl, hR⟩ := u8_int i0
  obtain ⟨n, rfl, hn⟩ := u8_int i1
  obtain ⟨c, rfl, hc⟩ := u8_int i2
  clear i0 i1 i2
  have H0 := Lib.hid (Nat.le_refl W.heap.size)
  have HK := Lib.hid known_any
  have hnew : newS (R : Int) = ⟨R, [], false, 0, false⟩ := by
    unfold newS
    rw [show (max 0 (min (R : Int) 4194304)).toNat = R from by omega]
  have HN := Lib.hid (Mine.new (Below.refl W.heap.size W) (Nat.le_refl _) (R : Int) hnew)
  have hRI : (R : Int) ≤ 255 := by omega
  have hnI : (n : Int) ≤ 255 := by omega
  have hcI : (c : Int) ≤ 255 := by omega
  clear hnew
  go_enter Try.func3, Try.ntmps3
  go_wp2_with fail
  refine HN.out.mono ?_
  rintro e w1 ⟨p, rfl, hm⟩
  have M1 := Lib.hid hm; clear hm
  obtain ⟨i5, hi, hz, hs, hby⟩ := info_parts info5
  go_wp2_with (at_make; refine wpList_make_full _ rfl _ _ 24 rfl W.heap.size 5 i5 (.int .u8 0) 1 Try.underlying24 hi hz hs .i64 .i64 (n : Int) (n : Int) n rfl rfl rfl rfl (by rw [hby]; omega) (by unfold maxLen; omega) (M1.out.size H0.out) ?_; intro w2 hown2 hgr2)
  rw [Nat.mul_one, show (Value.int .u8 0).cells = #[.int .u8 0] from rfl, toList_madeCells_one] at hown2
  have hcv := zero_conv hown2 rfl
  have M2 := Lib.hid (M1.out.keep (M1.out.size H0.out) ((Below.refl _ _).grown hgr2 (Nat.le_refl _) (fun k h => by cases h)))
  obtain ⟨Z, hZ⟩ : ∃ Z, bsL (List.replicate n 0) = Z := ⟨_, rfl⟩
  have hZd : Z.data.toList = List.replicate n 0 := by rw [← hZ, bsL_toList]
  have hZs : Z.size = n := by rw [← hZ, bsL_size, List.length_replicate]
  rw [hZ] at hcv
  obtain ⟨st, e, u, first, t1, hu, hat, hcase⟩ := room_first R n (List.replicate n 0) List.length_replicate
  rw [← hZd] at t1
  have T1 := Lib.hid t1; have HAT := Lib.hid hat
  have HZS := Lib.hid (show Z.size ≤ 140737488351232 by omega)
  clear hown2 hgr2 hZ hZd hZs t1 hat M1
  rw [hcv]
  simp only [Result.andThen]
  rw [Oper.upon_value]
  go_wp2_with fail
  refine (M2.out.append H0.out ⟨#[97]⟩ Z (by decide) HZS.out rfl rfl T1.out).mono ?_
  rintro e1 w3 ⟨rfl, hm⟩
  have M3 := Lib.hid hm; clear hm M2 T1 HZS
  have HU := Lib.hid hu
  clear hu hcv
  obtain ⟨f, hf⟩ : ∃ f, c % 8 = f := ⟨_, rfl⟩
  have hmod : (c : Int) % 8 = (f : Int) := by omega
  have hmod2 : Int.tmod (c : Int) 8 = (f : Int) := by rw [← hf]; rfl
  have hf8 : (f : Int) ≤ 7 := by omega
  clear hf
  rcases hcase with ⟨h1, rfl, rfl⟩ | ⟨h1, rfl, rfl⟩
  · have h2 : (n : Int) ≤ (R : Int) := by omega
    go_wp2_with fail
    go_loopw [11, 12] (fun k i wr => ∃ (j : Nat) (st : Ds) (q : Nat), j ≤ f ∧ q = min 4 (1 + j) ∧ k = .int .i64 ((q : Nat) : Int) ∧ i = .int .i64 ((j : Nat) : Int) ∧ RoomAt R u 1 j st ∧ Mine W.heap.size W p st wr) (fun _ i _ => f - (intOf i).toNat)
    case atStart => exact ⟨0, st, 1, Nat.zero_le _, by omega, rfl, rfl, HAT.out, M3.out⟩
    case round =>
      obtain ⟨j, st1, q, hj, hq, rfl, rfl, hra, hm⟩ := hrel
      have RA := Lib.hid hra; have MR := Lib.hid hm; have HQ := Lib.hid hq
      clear hra hm M3 HAT hq
      by_cases hlt : j < f
      · have hlt' : (j : Int) < (f : Int) := by omega
        have hj0 : (0 : Int) ≤ (j : Int) := by omega
        have hq0 : (q : Int) ≤ 4 := by have := HQ.out; omega
        have hq1 : (0 : Int) ≤ (q : Int) := by omega
        obtain ⟨st2, e2, t2, hra2, hcase2⟩ := room_next RA.out HU.out (by omega : j < 8)
        have hnm : ((⟨#[102]⟩ : ByteArray) ++ bsL [UInt8.ofNat (48 + j)]).data.toList = fName j := by rw [app_dl, bsL_toList]; rfl
        have hcv := one_conv wr (48 + j) (by omega) (48 + (j : Int)) (by omega)
        have hbs : (bsL [UInt8.ofNat (48 + j)]).size = 1 := rfl
        obtain ⟨B, hB⟩ : ∃ B, bsL [UInt8.ofNat (48 + j)] = B := ⟨_, rfl⟩
        rw [hB] at hnm hcv hbs
        have hbz : (B.size : Int) ≤ 10 := by omega
        have T2 := Lib.hid t2; have RA2 := Lib.hid hra2; have HNM := Lib.hid hnm
        have MR2 := Lib.hid (MR.out.keep (MR.out.size H0.out) ((Below.refl _ _).alloc (Nat.le_refl _) (.cells #[.int .u8 (48 + (j : Int))] 5)))
        have hns : ((⟨#[102]⟩ : ByteArray) ++ B).size ≤ 140737488351232 := by rw [ByteArray.size_append, hbs, show (⟨#[102]⟩ : ByteArray).size = 1 from rfl]; omega
        have HNS := Lib.hid hns
        clear t2 hra2 hnm hns MR RA hbs hB
        rcases hcase2 with ⟨h4, rfl⟩ | ⟨h4, rfl⟩
        · go_wp2_with fail
          refine (MR2.out.append H0.out _ ⟨#[]⟩ HNS.out (by decide) HNM.out rfl T2.out).mono ?_
          rintro e4 w4 ⟨rfl, hm4⟩
          have M4 := Lib.hid hm4; clear hm4 hcv
          go_wp2_with fail
          go_roundw
          case rel => exact ⟨j + 1, st2, q + 1, hlt, by have := HQ.out; omega, by first | rfl | (congr 1; omega), by first | rfl | (congr 1; omega), RA2.out, M4.out⟩
          case measure =>
            show f - ((j : Int) + 1).toNat < f - (j : Int).toNat
            omega
        · go_wp2_with fail
          refine (MR2.out.append H0.out _ ⟨#[]⟩ HNS.out (by decide) HNM.out rfl T2.out).mono ?_
          rintro e4 w4 ⟨rfl, hm4⟩
          have M4 := Lib.hid hm4; clear hm4 hcv
          go_wp2_with fail
          go_roundw
          case rel => exact ⟨j + 1, st2, q, hlt, by have := HQ.out; omega, by first | rfl | (congr 1; omega), by first | rfl | (congr 1; omega), RA2.out, M4.out⟩
          case measure =>
            show f - ((j : Int) + 1).toNat < f - (j : Int).toNat
            omega
      · have hge : ¬ (j : Int) < (f : Int) := by omega
        have hge' : (f : Int) ≤ (j : Int) := by omega
        obtain rfl : j = f := by omega
        have hq2 : min 4 (1 + (j : Int)) = (q : Int) := by have := HQ.out; omega
        have hu2 : (u : Int) ≤ (R : Int) := by have := HU.out; omega
        have hu3 : u ≤ R := HU.out
        have hus := RA.out.used
        have HUS := Lib.hid hus
        clear hus
        go_wp2_with fail
        refine (HK.out _).mono ?_
        rintro e9 w9 ⟨rfl, hb9⟩
        have M9 := Lib.hid (MR.out.keep (MR.out.size H0.out) hb9); clear hb9
        go_wp2_with fail
        refine (M9.out.used H0.out HUS.out).mono ?_
        rintro e10 w10 ⟨rfl, hm10⟩
        have M10 := Lib.hid hm10; clear hm10
        go_wp2_with fail
        go_ret
        exact ⟨rfl, M10.out.below⟩
  · have h2 : (R : Int) < (n : Int) := by omega
    have h3 : ¬ n ≤ R := by omega
    go_wp2_with fail
    go_loopw [11, 12] (fun k i wr => ∃ (j : Nat) (st : Ds) (q : Nat), j ≤ f ∧ q = min 4 (0 + j) ∧ k = .int .i64 ((q : Nat) : Int) ∧ i = .int .i64 ((j : Nat) : Int) ∧ RoomAt R u 0 j st ∧ Mine W.heap.size W p st wr) (fun _ i _ => f - (intOf i).toNat)
    case atStart => exact ⟨0, st, 0, Nat.zero_le _, by omega, rfl, rfl, HAT.out, M3.out⟩
    case round =>
      obtain ⟨j, st1, q, hj, hq, rfl, rfl, hra, hm⟩ := hrel
      have RA := Lib.hid hra; have MR := Lib.hid hm; have HQ := Lib.hid hq
      clear hra hm M3 HAT hq
      by_cases hlt : j < f
      · have hlt' : (j : Int) < (f : Int) := by omega
        have hj0 : (0 : Int) ≤ (j : Int) := by omega
        have hq0 : (q : Int) ≤ 4 := by have := HQ.out; omega
        have hq1 : (0 : Int) ≤ (q : Int) := by omega
        obtain ⟨st2, e2, t2, hra2, hcase2⟩ := room_next RA.out HU.out (by omega : j < 8)
        have hnm : ((⟨#[102]⟩ : ByteArray) ++ bsL [UInt8.ofNat (48 + j)]).data.toList = fName j := by rw [app_dl, bsL_toList]; rfl
        have hcv := one_conv wr (48 + j) (by omega) (48 + (j : Int)) (by omega)
        have hbs : (bsL [UInt8.ofNat (48 + j)]).size = 1 := rfl
        obtain ⟨B, hB⟩ : ∃ B, bsL [UInt8.ofNat (48 + j)] = B := ⟨_, rfl⟩
        rw [hB] at hnm hcv hbs
        have hbz : (B.size : Int) ≤ 10 := by omega
        have T2 := Lib.hid t2; have RA2 := Lib.hid hra2; have HNM := Lib.hid hnm
        have MR2 := Lib.hid (MR.out.keep (MR.out.size H0.out) ((Below.refl _ _).alloc (Nat.le_refl _) (.cells #[.int .u8 (48 + (j : Int))] 5)))
        have hns : ((⟨#[102]⟩ : ByteArray) ++ B).size ≤ 140737488351232 := by rw [ByteArray.size_append, hbs, show (⟨#[102]⟩ : ByteArray).size = 1 from rfl]; omega
        have HNS := Lib.hid hns
        clear t2 hra2 hnm hns MR RA hbs hB
        rcases hcase2 with ⟨h4, rfl⟩ | ⟨h4, rfl⟩
        · go_wp2_with fail
          refine (MR2.out.append H0.out _ ⟨#[]⟩ HNS.out (by decide) HNM.out rfl T2.out).mono ?_
          rintro e4 w4 ⟨rfl, hm4⟩
          have M4 := Lib.hid hm4; clear hm4 hcv
          go_wp2_with fail
          go_roundw
          case rel => exact ⟨j + 1, st2, q + 1, hlt, by have := HQ.out; omega, by first | rfl | (congr 1; omega), by first | rfl | (congr 1; omega), RA2.out, M4.out⟩
          case measure =>
            show f - ((j : Int) + 1).toNat < f - (j : Int).toNat
            omega
        · go_wp2_with fail
          refine (MR2.out.append H0.out _ ⟨#[]⟩ HNS.out (by decide) HNM.out rfl T2.out).mono ?_
          rintro e4 w4 ⟨rfl, hm4⟩
          have M4 := Lib.hid hm4; clear hm4 hcv
          go_wp2_with fail
          go_roundw
          case rel => exact ⟨j + 1, st2, q, hlt, by have := HQ.out; omega, by first | rfl | (congr 1; omega), by first | rfl | (congr 1; omega), RA2.out, M4.out⟩
          case measure =>
            show f - ((j : Int) + 1).toNat < f - (j : Int).toNat
            omega
      · have hge : ¬ (j : Int) < (f : Int) := by omega
        have hge' : (f : Int) ≤ (j : Int) := by omega
        obtain rfl : j = f := by omega
        have hq2 : min 4 (j : Int) = (q : Int) := by have := HQ.out; omega
        have hu2 : (u : Int) ≤ (R : Int) := by have := HU.out; omega
        have hu3 : u ≤ R := HU.out
        have hus := RA.out.used
        have HUS := Lib.hid hus
        clear hus
        go_wp2_with fail
        refine (HK.out _).mono ?_
        rintro e9 w9 ⟨rfl, hb9⟩
        have M9 := Lib.hid (MR.out.keep (MR.out.size H0.out) hb9); clear hb9
        go_wp2_with fail
        refine (M9.out.used H0.out HUS.out).mono ?_
        rintro e10 w10 ⟨rfl, hm10⟩
        have M10 := Lib.hid hm10; clear hm10
        go_wp2_with fail
        go_ret
        exact ⟨rfl, M10.out.below⟩
end Go.Proofs.Ythfgjmbbpgodcaa

/-
  The row of the law DiskRoom: whatever the input, it answers true and leaves its arguments as they were; out of its walk.
-/
namespace Go.Proofs.Ythfgjmbbpgodcaa.diskRoom
open Go.ChangeShapes Go.WideShapes Go.ChangeAt Go.RowKit
open Go.ChangeMaps (open_string shut_string)
theorem own : ownKnob Try.prog.godebug = none := by kernel_rfl
set_option maxRecDepth 100000 in
theorem lifted (os : Os) (started : os.Started) (H : Type) (enc : TypeId × Value → H) :
    ReturnsInHanded {} Try.checked os 3 .any (Rows.diskRoomSpec.pre6 enc Try.prog Try.f3 Rows.diskRoomRow.domain false) (Rows.diskRoomSpec.post enc Try.prog Try.f3 false true false false) := by
  refine returnsInHanded_of_change_sized (C := Try.checked) own started (by kernel_rfl) Try.func3
    (ChangeSpec.witness6 (enc := enc) (C := Try.checked) false ⟨#[], #[.int .u8 0, .int .u8 0, .int .u8 0], []⟩ 8 (by kernel_rfl) (by kernel_rfl) (by kernel_rfl) (by kernel_rfl)) ?_
  intro W base args ds gs before hval0 hW _ _ _
  have hval : ∀ (j : Nat) t v, Try.f3.params[j]? = some t → args[j]? = some v → Value.okWide Try.prog W .any base t v := hval0
  have hW' := hW
  obtain ⟨p, q, hA0, hV, rfl, hfz, hnd⟩ := hW
  have hA : DataW.TrodAll enc Try.prog W 0 (fun _ => true) true Try.f3.params.toList args.toList ds p := hA0
  rw [Try.params3] at hA hval
  obtain ⟨v0, vs0, d0, ds0, p0, q0, hargs, rfl, rfl, h0, r0⟩ := trodAll_cons hA
  obtain ⟨v1, vs1, d1, ds1, p1, q1, rfl, rfl, rfl, h1, r1⟩ := trodAll_cons r0
  obtain ⟨v2, vs2, d2, ds2, p2, q2, rfl, rfl, rfl, h2, r2⟩ := trodAll_cons r1
  obtain ⟨rfl, rfl, rfl⟩ := trodAll_nil r2
  obtain rfl : args = #[v0, v1, v2] := by cases args; simp_all
  obtain ⟨rfl, rfl⟩ := trodVars_none hV
  obtain ⟨a0, rfl, rfl, rfl, w0⟩ := open_int Try.underlying5 (hval 0 5 v0 rfl rfl) h0
  obtain ⟨a1, rfl, rfl, rfl, w1⟩ := open_int Try.underlying5 (hval 1 5 v1 rfl rfl) h1
  obtain ⟨a2, rfl, rfl, rfl, w2⟩ := open_int Try.underlying5 (hval 2 5 v2 rfl rfl) h2
  refine (diskRoom_walk a0 a1 a2 W w0 w1 w2).mono fun e W' ⟨he, bel⟩ => ?_
  subst he
  exact ⟨_, rfl, _, _, _, [], _, [], hW', trodAll_mk1 (shut_bool Try.underlying4 _), (trodAll_cons_mk (shut_int Try.underlying5 w0) (trodAll_cons_mk (shut_int Try.underlying5 w1) (trodAll_cons_mk (shut_int Try.underlying5 w2) trodAll_mk0))), rfl, bel.frame _, fun h => by cases h⟩
theorem over : Rows.diskRoomRow.holds Try.pinned (OpenSpec.ofChange Rows.diskRoomSpec) :=
  OpenClaim.holds_of_wide 3 Try.f3 rfl rfl rfl rfl rfl rfl rfl ⟨rfl, rfl, rfl, rfl, rfl⟩ rfl rfl rfl rfl rfl (by kernel_rfl) Try.func3 (by kernel_rfl)
    (of_decide_eq_true (by kernel_rfl)) (by unfold Func.isWrapper; first | (rw [if_pos (by decide +kernel)]; kernel_rfl) | (rw [if_neg (by decide +kernel)]; exact ⟨rfl, rfl⟩))
    (fun os started H enc _ => lifted os started H enc)
end Go.Proofs.Ythfgjmbbpgodcaa.diskRoom
namespace Go.Proofs.Ythfgjmbbpgodcaa
/-- The row, under a short name. -/
theorem diskRoom_holds : Rows.DiskRoomSaid := diskRoom.over
#print axioms diskRoom_holds
end Go.Proofs.Ythfgjmbbpgodcaa

