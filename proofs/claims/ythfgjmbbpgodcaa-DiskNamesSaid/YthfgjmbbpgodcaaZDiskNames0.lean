/-
  Texts of this session, merged in build order: Open, DFront, DTwoF, DLNames, RDiskNames.
-/
import Derived.WalkKit
import Derived.ProofKit
import Derived.OpenShut
import Derived.ShutString
import Derived.ChangeOld
import Derived.Below
import Derived.SizedLaws
import Derived.SliceStrings
import Derived.Test.YthfgjmbbpgodcaaZC0
import Derived.Deep.RegionHeld3
import Derived.Test.YthfgjmbbpgodcaaRows
set_option linter.unusedVariables false
set_option linter.unusedSimpArgs false
/-
  What a law's arguments read as, in one form: a slice of bytes or of texts is a row of cells ('RowAt'), each no longer than the form's reach.
-/
namespace Go.Proofs.Ythfgjmbbpgodcaa
open Go.ChangeShapes Go.WideShapes Go.ChangeAt Go.RowKit

/-- The values lie in a row from a on. -/
def RowAt (W : World) (a : Option Addr) (vs : List Value) : Prop :=
  0 < vs.length → ∃ b off, a = some ⟨b, off, none⟩ ∧ b < W.heap.size ∧ ∀ i (h : i < vs.length), W.cell? ⟨b, off + i, none⟩ = some vs[i]
theorem RowAt.below {W W' : World} {a : Option Addr} {vs : List Value} (h : RowAt W a vs) (hb : Below W.heap.size W W') : RowAt W' a vs := fun hp => by
  obtain ⟨b, off, e, hlt, hc⟩ := h hp
  exact ⟨b, off, e, Nat.lt_of_lt_of_le hlt hb.size, fun i hi => (hb.cell (p := ⟨b, off + i, none⟩) hlt).trans (hc i hi)⟩

section
variable {H : Type} {enc : TypeId × Value → H} {P : Program} {W : World} {base : Nat} {spare : Nat → Bool} {held : Bool}
theorem weights_all_mem {e : TypeId} : ∀ {l : List (DataW H)} {d : DataW H}, d ∈ l → ∀ n ∈ d.weights P e, n ∈ DataW.weightsAll P e l
  | d0 :: l, d, hd, n, hn => by
    simp only [DataW.weightsAll, List.mem_append]
    rcases List.mem_cons.1 hd with rfl | hd
    · exact .inl hn
    · exact .inr (weights_all_mem hd n hn)
theorem row_of_cells {a : Addr} {vs : List Value} (hc : ∀ i (h : i < vs.length), W.cell? (a.add i) = some vs[i]) : RowAt W (some a) vs := fun hp => by
  have h0 := hc 0 hp
  obtain ⟨b, off, spot⟩ := a
  have hs : spot = none := by simpa [Addr.add] using World.cell?_spot h0
  subst hs
  refine ⟨b, off, rfl, ?_, fun i hi => ?_⟩
  · have := World.block_lt_of_cell? W _ h0
    simpa [Addr.add] using this
  · rw [← hc i hi]
    congr 1
    unfold Addr.add
    split <;> simp_all
/-- A slice of texts. -/
theorem open_strs {ts : List TypeId} {ds : List (DataW H)} {j : Nat} {t e : TypeId} {a : Option Addr} {len cap : Nat} {d : DataW H} {ps : List MemPlace}
    (hsz : (DataW.weightsEach P ts ds).all (· ≤ reachBytes) = true) (ht : ts[j]? = some t) (hd : ds[j]? = some d) (hu : P.underlying t = some (.slice e)) (he : P.underlying e = some .string) (hc : P.cellsOf e = 1) (hB : P.bytesOf e = 16)
    (h : DataW.Trod enc P W base spare held t (.slice a len cap) d ps) :
    ∃ ss : List ByteArray, ss.length = len ∧ RowAt W a (ss.map .string) ∧ (∀ s ∈ ss, s.size ≤ 140737488351232) ∧ len * 16 ≤ 140737488351232 := by
  obtain ⟨fuel, hf⟩ := h
  rcases open_strings hu he hc hf with ⟨hcs, _⟩ | ⟨x, l, c, zs, hcs, _, hl, _, hz, hx, hcell, _⟩
  · simp [Value.cells] at hcs
    obtain ⟨rfl, rfl, rfl⟩ := hcs
    exact ⟨[], rfl, (fun hp => absurd hp (by simp)), (by simp), by simp⟩
  · simp [Value.cells] at hcs
    obtain ⟨rfl, rfl, rfl⟩ := hcs
    obtain ⟨hx, _⟩ := Prod.mk.inj hx
    subst hx
    have hl2 : len ≤ zs.length := by
      rw [hz]
      split
      · exact hl
      · exact Nat.le_refl _
    have z := sized_slice hsz ht hd hu
    rw [hB] at z
    have h1 : (strs (H := H) (zs.take len)).length + (strs (H := H) (zs.drop len)).length = zs.length := by
      simp [strs]
      omega
    rw [h1] at z
    refine ⟨zs.take len, by simp; omega, row_of_cells fun i hi => ?_, fun s hs => ?_, Nat.le_trans (Nat.mul_le_mul_right _ hl2) z⟩
    · have hi' : i < zs.length := by simp at hi; omega
      rw [hcell i hi']
      simp [List.getD_eq_getElem?_getD, List.getElem?_eq_getElem hi']
    · have hm : (DataW.lit (.string s.data.toList) : DataW H) ∈ strs (H := H) (zs.take len) := List.mem_map.2 ⟨s, hs, rfl⟩
      have hn := weights_all_mem (P := P) (e := e) hm s.data.toList.length (by simp [DataW.weights])
      have hn2 : s.data.toList.length ∈ DataW.weights P t (.slice (strs (H := H) (zs.take len)) (strs (zs.drop len))) := by
        simp only [DataW.weights, hu, List.mem_cons, List.mem_append]
        exact .inr (.inl hn)
      have := List.all_eq_true.1 hsz _ (DataW.weights_mem_each ht hd _ hn2)
      rw [Array.length_toList] at this
      exact of_decide_eq_true this
/-- A slice of whole numbers. -/
theorem open_nums {ts : List TypeId} {ds : List (DataW H)} {j : Nat} {t e : TypeId} {k : IntKind} {a : Option Addr} {len cap : Nat} {d : DataW H} {ps : List MemPlace}
    (hsz : (DataW.weightsEach P ts ds).all (· ≤ reachBytes) = true) (ht : ts[j]? = some t) (hd : ds[j]? = some d) (hu : P.underlying t = some (.slice e)) (he : P.underlying e = some (.int k)) (hc : P.cellsOf e = 1) {B : Nat} (hB : P.bytesOf e = B)
    (h : DataW.Trod enc P W base spare held t (.slice a len cap) d ps) :
    ∃ zs : List Int, zs.length = len ∧ RowAt W a (zs.map (.int k)) ∧ (∀ z ∈ zs, (Lit.int k z).wf = true) ∧ len * B ≤ 140737488351232 ∧ len ≤ cap ∧ cap ≤ maxLen := by
  obtain ⟨fuel, hf⟩ := h
  rcases open_ints hu he hc hf with ⟨hcs, _⟩ | ⟨x, l, c, zs, hcs, _, hl, hm, hz, hx, hcell, hwf⟩
  · simp [Value.cells] at hcs
    obtain ⟨rfl, rfl, rfl⟩ := hcs
    exact ⟨[], rfl, (fun hp => absurd hp (by simp)), (by simp), by simp, by simp, by simp [maxLen]⟩
  · simp [Value.cells] at hcs
    obtain ⟨rfl, rfl, rfl⟩ := hcs
    obtain ⟨hx, _⟩ := Prod.mk.inj hx
    subst hx
    have hl2 : len ≤ zs.length := by
      rw [hz]
      split
      · exact hl
      · exact Nat.le_refl _
    have z := sized_slice hsz ht hd hu
    rw [hB] at z
    have h1 : (lits (H := H) k (zs.take len)).length + (lits (H := H) k (zs.drop len)).length = zs.length := by
      simp [lits]
      omega
    rw [h1] at z
    refine ⟨zs.take len, by simp; omega, row_of_cells fun i hi => ?_, fun s hs => hwf s (List.mem_of_mem_take hs), Nat.le_trans (Nat.mul_le_mul_right _ hl2) z, hl, hm⟩
    have hi' : i < zs.length := by simp at hi; omega
    rw [hcell i hi']
    simp [List.getD_eq_getElem?_getD, List.getElem?_eq_getElem hi']
end
theorem byte_wf {z : Int} (h : (Lit.int .u8 z).wf = true) : ∃ c : UInt8, z = (c.toNat : Int) := by
  have := bounds_u8 h
  refine ⟨UInt8.ofNat z.toNat, ?_⟩
  rw [UInt8.toNat_ofNat']
  omega
theorem bytes_wf : ∀ {zs : List Int}, (∀ z ∈ zs, (Lit.int .u8 z).wf = true) → ∃ l : List UInt8, zs = l.map fun c => (c.toNat : Int)
  | [], _ => ⟨[], rfl⟩
  | z :: zs, h => by
    obtain ⟨c, hc⟩ := byte_wf (h z (by simp))
    obtain ⟨l, hl⟩ := bytes_wf (zs := zs) (fun x hx => h x (by simp [hx]))
    exact ⟨c :: l, by rw [hc, hl]; rfl⟩
end Go.Proofs.Ythfgjmbbpgodcaa

/-
  Small laws of texts, for the walks of the disk's laws.
-/
namespace Go.Proofs.Ythfgjmbbpgodcaa
open Go.RowKit Go.Maps Go.Lib
set_option linter.unusedSimpArgs false
set_option linter.unusedVariables false
theorem u8_int {z : Int} (h : (Lit.int .u8 z).wf = true) : ∃ n : Nat, z = n ∧ n ≤ 255 := by
  have : 0 ≤ z ∧ z ≤ 255 := by simpa [Lit.wf, IntKind.min, IntKind.max, IntKind.signed, IntKind.bits] using h
  exact ⟨z.toNat, by omega, by omega⟩
/-- A text that is all of one and a front of another. -/
theorem front_of (a b : ByteArray) (q : Nat) (hq : q ≤ b.size) (Z : ByteArray) (hZ : bsL (a.data.toList ++ b.data.toList.take q) = Z) : Z.size = a.size + q ∧ (Z.extract 0 a.size).toList = a.toList ∧ ((a ++ b).extract 0 Z.size).toList = Z.toList := by
  have hl : (a.data.toList ++ b.data.toList.take q).length = a.size + q := by rw [List.length_append, dl, List.length_take, dl]; omega
  have hs : Z.size = a.size + q := by rw [← hZ, bsL_size, hl]
  have hd : Z.data.toList = a.data.toList ++ b.data.toList.take q := by rw [← hZ, bsL_toList]
  refine ⟨hs, ?_, ?_⟩
  · rw [extract_bs, bsL_tl, hd, List.drop_zero, List.take_append_of_le_length (by rw [dl]; exact Nat.le_refl _), List.take_of_length_le (by rw [dl]; exact Nat.le_refl _), ByteArray.toList_eq]
  · rw [extract_bs, bsL_tl, app_dl, hs, List.drop_zero, ByteArray.toList_eq, hd]
    have : a.size + q = a.data.toList.length + q := by rw [dl]
    rw [this, List.take_length_add_append]
theorem new_1000 : newS 1000 = ⟨1000, [], false, 0, false⟩ := by rfl
theorem nm_f : ([102] : Nm) ≠ [] := by simp
end Go.Proofs.Ythfgjmbbpgodcaa

/-
  A disk of two files, in plain words.
-/
namespace Go.Proofs.Ythfgjmbbpgodcaa
set_option linter.unusedSimpArgs false
set_option linter.unusedVariables false
/-- Files "a" and "b". -/
def S2 (R : Nat) (x y : List UInt8) (n m : Nat) : Ds := ⟨R, [⟨[97], x, n⟩, ⟨[98], y, m⟩], false, 0, false⟩
theorem find_a (x y : List UInt8) (n m : Nat) : findF [⟨[97], x, n⟩, ⟨[98], y, m⟩] [97] = some ⟨[97], x, n⟩ := by unfold findF; simp
theorem find_b (x y : List UInt8) (n m : Nat) : findF [⟨[97], x, n⟩, ⟨[98], y, m⟩] [98] = some ⟨[98], y, m⟩ := by unfold findF; simp
theorem bytes_a (R n m : Nat) (y : List UInt8) : ∀ (b x : List UInt8), bytesS (S2 R x y n m) [97] b = (S2 R (x ++ b) y n m, 0)
  | [], x => by rw [List.append_nil]; rfl
  | c :: t, x => by
    have h : bytesS (S2 R x y n m) [97] (c :: t) = bytesS (turnS (stepS (S2 R x y n m)) [97] (addC c)) [97] t := rfl
    have h2 : turnS (stepS (S2 R x y n m)) [97] (addC c) = S2 R (x ++ [c]) y n m := by
      unfold turnS stepS S2 setF addC
      simp
    rw [h, h2, bytes_a R n m y t, List.append_assoc]
    rfl
theorem bytes_b (R n m : Nat) (x : List UInt8) : ∀ (b y : List UInt8), bytesS (S2 R x y n m) [98] b = (S2 R x (y ++ b) n m, 0)
  | [], y => by rw [List.append_nil]; rfl
  | c :: t, y => by
    have h : bytesS (S2 R x y n m) [98] (c :: t) = bytesS (turnS (stepS (S2 R x y n m)) [98] (addC c)) [98] t := rfl
    have h2 : turnS (stepS (S2 R x y n m)) [98] (addC c) = S2 R x (y ++ [c]) n m := by
      unfold turnS stepS S2 setF addC
      simp
    rw [h, h2, bytes_b R n m x t, List.append_assoc]
    rfl
theorem used_two (x y : List UInt8) (n m : Nat) : usedL [⟨[97], x, n⟩, ⟨[98], y, m⟩] = x.length + y.length := by unfold usedL; simp
theorem append_a (R n m : Nat) (x y b : List UInt8) (hb : x.length + y.length + b.length ≤ R) : appendS (S2 R x y n m) [97] b = (S2 R (x ++ b) y n m, 0) := by
  have h1 : findF (S2 R x y n m).L [97] = some ⟨[97], x, n⟩ := find_a x y n m
  have h2 : usedL (S2 R x y n m).L = x.length + y.length := used_two x y n m
  have h3 : withF (S2 R x y n m) [97] = S2 R x y n m := by
    unfold withF
    rw [h1]
    rfl
  unfold appendS
  rw [if_neg (by show ¬ false = true; simp), if_neg (by
    rintro (h | ⟨h, _⟩)
    · simp at h
    · rw [h1] at h
      cases h), if_neg (by rw [h2]; show ¬ R < _; omega), h3, bytes_a]
/-- "a" put, as a new file, ahead of "b". -/
theorem append_ab (R m : Nat) (y b : List UInt8) (hb : y.length + b.length ≤ R) : appendS ⟨R, [⟨[98], y, m⟩], false, 0, false⟩ [97] b = (S2 R b y 0 m, 0) := by
  have h1 : findF [(⟨[98], y, m⟩ : Fl)] [97] = none := by unfold findF; simp
  have h2 : usedL [(⟨[98], y, m⟩ : Fl)] = y.length := by unfold usedL; simp
  have h3 : withF ⟨R, [⟨[98], y, m⟩], false, 0, false⟩ [97] = S2 R [] y 0 m := by
    unfold withF
    rw [h1]
    have : putF [(⟨[98], y, m⟩ : Fl)] [97] = [⟨[97], [], 0⟩, ⟨[98], y, m⟩] := by
      unfold putF
      rw [if_neg (show ¬ ([98] : Nm) < [97] by decide)]
    show (⟨R, putF [(⟨[98], y, m⟩ : Fl)] [97], false, 0, false⟩ : Ds) = _
    rw [this]
    rfl
  unfold appendS
  rw [if_neg (by show ¬ false = true; simp), if_neg (by
    rintro (h | ⟨_, h⟩)
    · simp at h
    · have : [(⟨[98], y, m⟩ : Fl)].length = 1 := rfl
      rw [this] at h
      omega), if_neg (by rw [h2]; show ¬ R < _; omega), h3, bytes_a, List.nil_append]
/-- "b" put, as a new file, behind "a". -/
theorem append_ba (R n : Nat) (x b : List UInt8) (hb : x.length + b.length ≤ R) : appendS ⟨R, [⟨[97], x, n⟩], false, 0, false⟩ [98] b = (S2 R x b n 0, 0) := by
  have h1 : findF [(⟨[97], x, n⟩ : Fl)] [98] = none := by unfold findF; simp
  have h2 : usedL [(⟨[97], x, n⟩ : Fl)] = x.length := by unfold usedL; simp
  have h3 : withF ⟨R, [⟨[97], x, n⟩], false, 0, false⟩ [98] = S2 R x [] n 0 := by
    unfold withF
    rw [h1]
    have : putF [(⟨[97], x, n⟩ : Fl)] [98] = [⟨[97], x, n⟩, ⟨[98], [], 0⟩] := by
      unfold putF
      rw [if_pos (show ([97] : Nm) < [98] by decide)]
      rfl
    show (⟨R, putF [(⟨[97], x, n⟩ : Fl)] [98], false, 0, false⟩ : Ds) = _
    rw [this]
    rfl
  unfold appendS
  rw [if_neg (by show ¬ false = true; simp), if_neg (by
    rintro (h | ⟨_, h⟩)
    · simp at h
    · have : [(⟨[97], x, n⟩ : Fl)].length = 1 := rfl
      rw [this] at h
      omega), if_neg (by rw [h2]; show ¬ R < _; omega), h3, bytes_b, List.nil_append]
theorem crash_two (R k : Nat) (x y : List UInt8) : crashS (S2 R x y 0 0) (k : Int) = S2 R (x.take (min k x.length)) (y.take (min (k - min k x.length) y.length)) (min k x.length) (min (k - min k x.length) y.length) := by
  unfold crashS S2
  rw [show (max (k : Int) 0).toNat = k from by omega]
  show (⟨R, [keepF (min k (x.length - 0)) ⟨[97], x, 0⟩, keepF (min (k - min k (x.length - 0)) (y.length - 0)) ⟨[98], y, 0⟩], false, 0, false⟩ : Ds) = _
  unfold keepF
  simp only [Nat.sub_zero, Nat.zero_add]
theorem read_a (R n m : Nat) (x y : List UInt8) : readS (S2 R x y n m) [97] = x := by
  have h1 : findF (S2 R x y n m).L [97] = some ⟨[97], x, n⟩ := find_a x y n m
  unfold readS
  rw [h1]
  rfl
theorem read_b (R n m : Nat) (x y : List UInt8) : readS (S2 R x y n m) [98] = y := by
  have h1 : findF (S2 R x y n m).L [98] = some ⟨[98], y, m⟩ := find_b x y n m
  unfold readS
  rw [h1]
  rfl
theorem last_b (R n m : Nat) (x y : List UInt8) : lastS (S2 R x y n m) [98] = y.take m := by
  have h1 : findF (S2 R x y n m).L [98] = some ⟨[98], y, m⟩ := find_b x y n m
  unfold lastS
  rw [h1]
end Go.Proofs.Ythfgjmbbpgodcaa

/-
  The law DiskNames, walked: what a crash keeps is counted over the files as their names rise.
-/
namespace Go.Proofs.Ythfgjmbbpgodcaa
open Go.RowKit Go.Maps Go.Lib
set_option linter.unusedSimpArgs false
set_option linter.unusedVariables false
theorem Mine.look {B : Nat} {w0 w : World} {p : Nat} {s : Ds} (h : Mine B w0 p s w) (nm : ByteArray) (hs : nm.size ≤ maxLen) {N C : List UInt8} (hN : nm.data.toList = N) (he : readS s N = C) :
    Calls Try.prog 17 #[.pointer (some ⟨p, 0, none⟩), .string nm] w fun e w' => e = .returned (.string (bsL C)) ∧ w = w' := by
  obtain ⟨S, h1, h2, h3⟩ := h
  exact read_is h1 nm hs hN he
theorem take_of (s : ByteArray) (k : Nat) (Z : ByteArray) (hZ : bsL (s.data.toList.take k) = Z) : (s.extract 0 k).toList = Z.toList := by
  rw [extract_bs, List.drop_zero, hZ]
set_option maxRecDepth 100000 in
set_option maxHeartbeats 4000000 in
theorem diskNames_walk (a0 a1 : ByteArray) (a2 : Int) (a3 : Bool) (W : World) (s0 : a0.size ≤ 140737488351232) (s1 : a1.size ≤ 140737488351232) (i2 : (Lit.int .u8 a2).wf = true) :
    Calls Try.prog 4 #[.string a0, .string a1, .int .u8 a2, .bool a3] W fun e w' => e = .returned (.bool true) ∧ Below W.heap.size W w' := by
  obtain ⟨c, rfl, hc⟩ := u8_int i2
  clear i2
  have H0 := Lib.hid (Nat.le_refl W.heap.size)
  have HK := Lib.hid known_any
  by_cases hbig : 200 < a0.size + a1.size
  · have hb : (200 : Int) < (a0.size : Int) + (a1.size : Int) := by omega
    clear hbig
    go_enter Try.func4, Try.ntmps4
    go_wp2_with fail
    refine (HK.out _).mono ?_
    rintro e w1 ⟨rfl, hb1⟩
    have B1 := Lib.hid hb1; clear hb1
    go_wp2_with fail
    go_ret
    exact ⟨rfl, B1.out⟩
  have hb : (a0.size : Int) + (a1.size : Int) ≤ 200 := by omega
  have HN := Lib.hid (Mine.new (Below.refl W.heap.size W) (Nat.le_refl _) 1000 new_1000)
  have hA := dl a0
  have hB := dl a1
  obtain ⟨k, hk⟩ : ∃ k, c % 40 = k := ⟨_, rfl⟩
  have hk40 : k < 40 := by omega
  have hmod : (c : Int) % 40 = (k : Int) := by omega
  have hmod2 : Int.tmod (c : Int) 40 = (k : Int) := by rw [← hk]; rfl
  obtain ⟨n, hn⟩ : ∃ n, min k a0.size = n := ⟨_, rfl⟩
  obtain ⟨m, hm⟩ : ∃ m, min (k - n) a1.size = m := ⟨_, rfl⟩
  have t2 : appendS ⟨1000, [⟨[98], a1.data.toList, 0⟩], false, 0, false⟩ [97] a0.data.toList = (S2 1000 a0.data.toList a1.data.toList 0 0, 0) := append_ab 1000 0 _ _ (by omega)
  have t1 : appendS ⟨1000, [], false, 0, false⟩ [98] a1.data.toList = (⟨1000, [⟨[98], a1.data.toList, 0⟩], false, 0, false⟩, 0) := by
    rw [append_new _ (by simp) _ _ _ _ (by omega), bytes_free]; rfl
  have f0 : appendS ⟨1000, [], false, 0, false⟩ [97] [] = (⟨1000, [⟨[97], [], 0⟩], false, 0, false⟩, 0) := rfl
  have f1 : appendS ⟨1000, [⟨[97], [], 0⟩], false, 0, false⟩ [98] a1.data.toList = (S2 1000 [] a1.data.toList 0 0, 0) := append_ba 1000 0 _ _ (by simp; omega)
  have f2 : appendS (S2 1000 [] a1.data.toList 0 0) [97] a0.data.toList = (S2 1000 a0.data.toList a1.data.toList 0 0, 0) := append_a 1000 0 0 [] _ _ (by simp; omega)
  have t3 := crash_two 1000 k a0.data.toList a1.data.toList
  rw [hA, hB, hn, hm] at t3
  have t4 := read_a 1000 n m (a0.data.toList.take n) (a1.data.toList.take m)
  have t5 := read_b 1000 n m (a0.data.toList.take n) (a1.data.toList.take m)
  have t7 := last_b 1000 n m (a0.data.toList.take n) (a1.data.toList.take m)
  rw [List.take_take, Nat.min_self] at t7
  have t6 : usedL (S2 1000 (a0.data.toList.take n) (a1.data.toList.take m) n m).L = n + m := by
    rw [show (S2 1000 (a0.data.toList.take n) (a1.data.toList.take m) n m).L = [⟨[97], a0.data.toList.take n, n⟩, ⟨[98], a1.data.toList.take m, m⟩] from rfl, used_two, List.length_take, List.length_take, hA, hB]
    omega
  obtain ⟨X, hX⟩ : ∃ X, bsL (a0.data.toList.take n) = X := ⟨_, rfl⟩
  obtain ⟨Y, hY⟩ : ∃ Y, bsL (a1.data.toList.take m) = Y := ⟨_, rfl⟩
  obtain ⟨u, hu⟩ : ∃ u, n + m = u := ⟨_, rfl⟩
  rw [hu] at t6
  have x1 := take_of a0 n X hX
  have x2 := take_of a1 m Y hY
  have z1 : ((u : Int) == (n : Int) + (m : Int)) = true := by rw [beq_iff_eq]; omega
  have z2 : min (k : Int) (a0.size : Int) = (n : Int) := by omega
  have z3 : min ((k : Int) - (n : Int)) (a1.size : Int) = (m : Int) := by omega
  have z4 : (n : Int) ≤ (a0.size : Int) := by omega
  have z5 : (m : Int) ≤ (a1.size : Int) := by omega
  have z6 : (n : Int) ≤ (k : Int) := by omega
  have z7 : (k : Int) ≤ 39 := by omega
  have z8 : (c : Int) ≤ 255 := by omega
  have z9 : IntKind.i64.wrap ((n : Int) + (m : Int)) = (n : Int) + (m : Int) := IntWalk.i64_in _ (by omega)
  have T0 := Lib.hid f0; have T3 := Lib.hid t3; have T4 := Lib.hid t4; have T5 := Lib.hid t5; have T6 := Lib.hid t6; have T7 := Lib.hid t7; have HX := Lib.hid hX; have HY := Lib.hid hY
  have U1 := Lib.hid t1; have U2 := Lib.hid t2; have V1 := Lib.hid f1; have V2 := Lib.hid f2
  clear t1 t2 t3 t4 t5 t6 t7 f0 f1 f2 hX hY hu hn hm hk hk40 hA hB hbig hc
  cases a3 with
  | true =>
    have T1 := V1; have T2 := V2
    clear U1 U2 V1 V2
    go_enter Try.func4, Try.ntmps4
    go_wp2_with fail
    refine HN.out.mono ?_
    rintro e w1 ⟨p, rfl, hm⟩
    have M1 := Lib.hid hm; clear hm
    go_wp2_with fail
    refine (M1.out.append H0.out ⟨#[97]⟩ ⟨#[]⟩ (by decide) (by decide) rfl rfl T0.out).mono ?_
    rintro e w2 ⟨rfl, hm⟩
    have M2 := Lib.hid hm; clear hm M1
    go_wp2_with fail
    refine (M2.out.append H0.out ⟨#[98]⟩ a1 (by decide) s1 rfl rfl T1.out).mono ?_
    rintro e w3 ⟨rfl, hm⟩
    have M3 := Lib.hid hm; clear hm M2
    go_wp2_with fail
    refine (M3.out.append H0.out ⟨#[97]⟩ a0 (by decide) s0 rfl rfl T2.out).mono ?_
    rintro e w4 ⟨rfl, hm⟩
    have M4 := Lib.hid hm; clear hm M3
    go_wp2_with fail
    refine (M4.out.crash H0.out (k : Int) (by omega) (by omega) T3.out).mono ?_
    rintro e w5 ⟨rfl, hm⟩
    have M5 := Lib.hid hm; clear hm M4
    go_wp2_with fail
    go_region_held3 (fun _ => True) (trivial) ((first
      | (go_at_call 14; refine (HK.out _).mono ?_; rintro e v1 ⟨rfl, hb1⟩; have N1 := Lib.hid (M5.out.keep (M5.out.size H0.out) ((Below.refl _ _).drew.trans hb1)); clear hb1)
      | (go_at_call 17; first | ((with_reducible refine (N1.out.look ⟨#[97]⟩ (by decide) rfl T4.out).mono ?_); rintro e v2 ⟨rfl, rfl⟩; rw [HX.out]) | ((with_reducible refine (N1.out.look ⟨#[98]⟩ (by decide) rfl T5.out).mono ?_); rintro e v2 ⟨rfl, rfl⟩; rw [HY.out]))
      | (go_at_call 15; refine (N1.out.used H0.out T6.out).mono ?_; rintro e v3 ⟨rfl, hm3⟩; have N3 := Lib.hid hm3; clear hm3)
      | (go_at_call 18; refine (N3.out.last H0.out ⟨#[98]⟩ (by decide) rfl T7.out).mono ?_; rintro e v4 ⟨rfl, hm4⟩; rw [HY.out]; have N4 := Lib.hid hm4; clear hm4)))
    all_goals
      go_wp2_with fail
      go_ret
      exact ⟨rfl, N4.out.below⟩
  | false =>
    have T1 := U1; have T2 := U2
    clear U1 U2 V1 V2
    go_enter Try.func4, Try.ntmps4
    go_wp2_with fail
    refine HN.out.mono ?_
    rintro e w1 ⟨p, rfl, hm⟩
    have M1 := Lib.hid hm; clear hm
    go_wp2_with fail
    refine (M1.out.append H0.out ⟨#[98]⟩ a1 (by decide) s1 rfl rfl T1.out).mono ?_
    rintro e w2 ⟨rfl, hm⟩
    have M2 := Lib.hid hm; clear hm M1
    go_wp2_with fail
    refine (M2.out.append H0.out ⟨#[97]⟩ a0 (by decide) s0 rfl rfl T2.out).mono ?_
    rintro e w3 ⟨rfl, hm⟩
    have M3 := Lib.hid hm; clear hm M2
    go_wp2_with fail
    refine (M3.out.crash H0.out (k : Int) (by omega) (by omega) T3.out).mono ?_
    rintro e w4 ⟨rfl, hm⟩
    have M4 := Lib.hid hm; clear hm M3
    go_wp2_with fail
    go_region_held3 (fun _ => True) (trivial) ((first
      | (go_at_call 14; refine (HK.out _).mono ?_; rintro e v1 ⟨rfl, hb1⟩; have N1 := Lib.hid (M4.out.keep (M4.out.size H0.out) ((Below.refl _ _).drew.trans hb1)); clear hb1)
      | (go_at_call 17; first | ((with_reducible refine (N1.out.look ⟨#[97]⟩ (by decide) rfl T4.out).mono ?_); rintro e v2 ⟨rfl, rfl⟩; rw [HX.out]) | ((with_reducible refine (N1.out.look ⟨#[98]⟩ (by decide) rfl T5.out).mono ?_); rintro e v2 ⟨rfl, rfl⟩; rw [HY.out]))
      | (go_at_call 15; refine (N1.out.used H0.out T6.out).mono ?_; rintro e v3 ⟨rfl, hm3⟩; have N3 := Lib.hid hm3; clear hm3)
      | (go_at_call 18; refine (N3.out.last H0.out ⟨#[98]⟩ (by decide) rfl T7.out).mono ?_; rintro e v4 ⟨rfl, hm4⟩; rw [HY.out]; have N4 := Lib.hid hm4; clear hm4)))
    all_goals
      go_wp2_with fail
      go_ret
      exact ⟨rfl, N4.out.below⟩
end Go.Proofs.Ythfgjmbbpgodcaa

/-
  The row of the law DiskNames: whatever the input, it answers true and leaves its arguments as they were; out of its walk.
-/
namespace Go.Proofs.Ythfgjmbbpgodcaa.diskNames
open Go.ChangeShapes Go.WideShapes Go.ChangeAt Go.RowKit
open Go.ChangeMaps (open_string shut_string)
theorem own : ownKnob Try.prog.godebug = none := by kernel_rfl
set_option maxRecDepth 100000 in
theorem lifted (os : Os) (started : os.Started) (H : Type) (enc : TypeId × Value → H) :
    ReturnsInHanded {} Try.checked os 4 .any (Rows.diskNamesSpec.pre6 enc Try.prog Try.f4 Rows.diskNamesRow.domain false) (Rows.diskNamesSpec.post enc Try.prog Try.f4 false true false false) := by
  refine returnsInHanded_of_change_sized (C := Try.checked) own started (by kernel_rfl) Try.func4
    (ChangeSpec.witness6 (enc := enc) (C := Try.checked) false ⟨#[], #[.string ByteArray.empty, .string ByteArray.empty, .int .u8 0, .bool false], []⟩ 8 (by kernel_rfl) (by kernel_rfl) (by kernel_rfl) (by kernel_rfl)) ?_
  intro W base args ds gs before hval0 hW _ hsz0 _
  have hsz : (DataW.weightsEach Try.prog (Try.f4.params.toList ++ Rows.diskNamesSpec.plain.varTypes Try.prog) (ds ++ gs)).all (· ≤ reachBytes) = true := hsz0
  have hval : ∀ (j : Nat) t v, Try.f4.params[j]? = some t → args[j]? = some v → Value.okWide Try.prog W .any base t v := hval0
  have hW' := hW
  obtain ⟨p, q, hA0, hV, rfl, hfz, hnd⟩ := hW
  have hA : DataW.TrodAll enc Try.prog W 0 (fun _ => true) true Try.f4.params.toList args.toList ds p := hA0
  rw [Try.params4] at hA hval hsz
  obtain ⟨v0, vs0, d0, ds0, p0, q0, hargs, rfl, rfl, h0, r0⟩ := trodAll_cons hA
  obtain ⟨v1, vs1, d1, ds1, p1, q1, rfl, rfl, rfl, h1, r1⟩ := trodAll_cons r0
  obtain ⟨v2, vs2, d2, ds2, p2, q2, rfl, rfl, rfl, h2, r2⟩ := trodAll_cons r1
  obtain ⟨v3, vs3, d3, ds3, p3, q3, rfl, rfl, rfl, h3, r3⟩ := trodAll_cons r2
  obtain ⟨rfl, rfl, rfl⟩ := trodAll_nil r3
  obtain rfl : args = #[v0, v1, v2, v3] := by cases args; simp_all
  obtain ⟨rfl, rfl⟩ := trodVars_none hV
  obtain ⟨a0, rfl, rfl, rfl, y0⟩ := open_string Try.underlying9 (hval 0 9 v0 rfl rfl) h0
  have w0 : a0.size ≤ 140737488351232 := by
    have z := sized_string hsz (j := 0) (t := 9) rfl rfl
    rw [Array.length_toList] at z
    exact z
  obtain ⟨a1, rfl, rfl, rfl, y1⟩ := open_string Try.underlying9 (hval 1 9 v1 rfl rfl) h1
  have w1 : a1.size ≤ 140737488351232 := by
    have z := sized_string hsz (j := 1) (t := 9) rfl rfl
    rw [Array.length_toList] at z
    exact z
  obtain ⟨a2, rfl, rfl, rfl, w2⟩ := open_int Try.underlying5 (hval 2 5 v2 rfl rfl) h2
  obtain ⟨a3, rfl, rfl, rfl⟩ := open_bool Try.underlying4 (hval 3 4 v3 rfl rfl) h3
  refine (diskNames_walk a0 a1 a2 a3 W w0 w1 w2).mono fun e W' ⟨he, bel⟩ => ?_
  subst he
  exact ⟨_, rfl, _, _, _, [], _, [], hW', trodAll_mk1 (shut_bool Try.underlying4 _), (trodAll_cons_mk (shut_string Try.underlying9 y0) (trodAll_cons_mk (shut_string Try.underlying9 y1) (trodAll_cons_mk (shut_int Try.underlying5 w2) (trodAll_cons_mk (shut_bool Try.underlying4 _) trodAll_mk0)))), rfl, bel.frame _, fun h => by cases h⟩
theorem over : Rows.diskNamesRow.holds Try.pinned (OpenSpec.ofChange Rows.diskNamesSpec) :=
  OpenClaim.holds_of_wide 4 Try.f4 rfl rfl rfl rfl rfl rfl rfl ⟨rfl, rfl, rfl, rfl, rfl⟩ rfl rfl rfl rfl rfl (by kernel_rfl) Try.func4 (by kernel_rfl)
    (of_decide_eq_true (by kernel_rfl)) (by unfold Func.isWrapper; first | (rw [if_pos (by decide +kernel)]; kernel_rfl) | (rw [if_neg (by decide +kernel)]; exact ⟨rfl, rfl⟩))
    (fun os started H enc _ => lifted os started H enc)
end Go.Proofs.Ythfgjmbbpgodcaa.diskNames
namespace Go.Proofs.Ythfgjmbbpgodcaa
/-- The row, under a short name. -/
theorem diskNames_holds : Rows.DiskNamesSaid := diskNames.over
#print axioms diskNames_holds
end Go.Proofs.Ythfgjmbbpgodcaa

