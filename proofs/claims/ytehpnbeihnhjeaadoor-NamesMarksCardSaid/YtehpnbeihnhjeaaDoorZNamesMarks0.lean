/-
  Texts of this session, merged in build order: Open, NMarks, RNamesMarks.
-/
import Derived.WalkKit
import Derived.ProofKit
import Derived.OpenShut
import Derived.ShutString
import Derived.ChangeOld
import Derived.Below
import Derived.SizedLaws
import Derived.SliceStrings
import Derived.Test.YtehpnbeihnhjeaaDoorZC0
import Derived.Deep.RegionHeld3
import Derived.Test.YtehpnbeihnhjeaaDoorRows
import Derived.Test.YtehpnbeihnhjeaaDoorCards
import Derived.Test.YtehpnbeihnhjeaaDoorTie
import Derived.LaidMore
import Derived.Lay
import Derived.SevenTiedAt
import Derived.Stop.Joined
set_option linter.unusedVariables false
set_option linter.unusedSimpArgs false
/-
  What a law's arguments read as, in one form: a slice of bytes or of texts is a row of cells ('RowAt'), each no longer than the form's reach.
-/
namespace Go.Proofs.YtehpnbeihnhjeaaDoor
open Go.ChangeShapes Go.WideShapes Go.ChangeAt Go.RowKit

/-- The values lie in a row from a on. -/
def RowAt (W : World) (a : Option Addr) (vs : List Value) : Prop :=
  0 < vs.length → ∃ b off, a = some ⟨b, off, none⟩ ∧ b < W.heap.size ∧ ∀ i (h : i < vs.length), W.cell? ⟨b, off + i, none⟩ = some vs[i]
theorem RowAt.below {W W' : World} {a : Option Addr} {vs : List Value} (h : RowAt W a vs) (hb : Below W.heap.size W W') : RowAt W' a vs := fun hp => by
  obtain ⟨b, off, e, hlt, hc⟩ := h hp
  exact ⟨b, off, e, Nat.lt_of_lt_of_le hlt hb.size, fun i hi => (hb.cell (p := ⟨b, off + i, none⟩) hlt).trans (hc i hi)⟩

section
variable {H : Type} {enc : TypeId × Value → H} {P : Program} {W : World} {base : Nat} {spare : Nat → Bool} {held : Bool}
theorem weights_all_mem {e : TypeId} : ∀ {l : List (DataW H)} {d : DataW H}, d ∈ l → ∀ n ∈ d.weights P e, n ∈ DataW.weightsAll P e l
  | d0 :: l, d, hd, n, hn => by
    simp only [DataW.weightsAll, List.mem_append]
    rcases List.mem_cons.1 hd with rfl | hd
    · exact .inl hn
    · exact .inr (weights_all_mem hd n hn)
theorem row_of_cells {a : Addr} {vs : List Value} (hc : ∀ i (h : i < vs.length), W.cell? (a.add i) = some vs[i]) : RowAt W (some a) vs := fun hp => by
  have h0 := hc 0 hp
  obtain ⟨b, off, spot⟩ := a
  have hs : spot = none := by simpa [Addr.add] using World.cell?_spot h0
  subst hs
  refine ⟨b, off, rfl, ?_, fun i hi => ?_⟩
  · have := World.block_lt_of_cell? W _ h0
    simpa [Addr.add] using this
  · rw [← hc i hi]
    congr 1
    unfold Addr.add
    split <;> simp_all
/-- A slice of texts. -/
theorem open_strs {ts : List TypeId} {ds : List (DataW H)} {j : Nat} {t e : TypeId} {a : Option Addr} {len cap : Nat} {d : DataW H} {ps : List MemPlace}
    (hsz : (DataW.weightsEach P ts ds).all (· ≤ reachBytes) = true) (ht : ts[j]? = some t) (hd : ds[j]? = some d) (hu : P.underlying t = some (.slice e)) (he : P.underlying e = some .string) (hc : P.cellsOf e = 1) (hB : P.bytesOf e = 16)
    (h : DataW.Trod enc P W base spare held t (.slice a len cap) d ps) :
    ∃ ss : List ByteArray, ss.length = len ∧ RowAt W a (ss.map .string) ∧ (∀ s ∈ ss, s.size ≤ 140737488351232) ∧ len * 16 ≤ 140737488351232 := by
  obtain ⟨fuel, hf⟩ := h
  rcases open_strings hu he hc hf with ⟨hcs, _⟩ | ⟨x, l, c, zs, hcs, _, hl, _, hz, hx, hcell, _⟩
  · simp [Value.cells] at hcs
    obtain ⟨rfl, rfl, rfl⟩ := hcs
    exact ⟨[], rfl, (fun hp => absurd hp (by simp)), (by simp), by simp⟩
  · simp [Value.cells] at hcs
    obtain ⟨rfl, rfl, rfl⟩ := hcs
    obtain ⟨hx, _⟩ := Prod.mk.inj hx
    subst hx
    have hl2 : len ≤ zs.length := by
      rw [hz]
      split
      · exact hl
      · exact Nat.le_refl _
    have z := sized_slice hsz ht hd hu
    rw [hB] at z
    have h1 : (strs (H := H) (zs.take len)).length + (strs (H := H) (zs.drop len)).length = zs.length := by
      simp [strs]
      omega
    rw [h1] at z
    refine ⟨zs.take len, by simp; omega, row_of_cells fun i hi => ?_, fun s hs => ?_, Nat.le_trans (Nat.mul_le_mul_right _ hl2) z⟩
    · have hi' : i < zs.length := by simp at hi; omega
      rw [hcell i hi']
      simp [List.getD_eq_getElem?_getD, List.getElem?_eq_getElem hi']
    · have hm : (DataW.lit (.string s.data.toList) : DataW H) ∈ strs (H := H) (zs.take len) := List.mem_map.2 ⟨s, hs, rfl⟩
      have hn := weights_all_mem (P := P) (e := e) hm s.data.toList.length (by simp [DataW.weights])
      have hn2 : s.data.toList.length ∈ DataW.weights P t (.slice (strs (H := H) (zs.take len)) (strs (zs.drop len))) := by
        simp only [DataW.weights, hu, List.mem_cons, List.mem_append]
        exact .inr (.inl hn)
      have := List.all_eq_true.1 hsz _ (DataW.weights_mem_each ht hd _ hn2)
      rw [Array.length_toList] at this
      exact of_decide_eq_true this
/-- A slice of whole numbers. -/
theorem open_nums {ts : List TypeId} {ds : List (DataW H)} {j : Nat} {t e : TypeId} {k : IntKind} {a : Option Addr} {len cap : Nat} {d : DataW H} {ps : List MemPlace}
    (hsz : (DataW.weightsEach P ts ds).all (· ≤ reachBytes) = true) (ht : ts[j]? = some t) (hd : ds[j]? = some d) (hu : P.underlying t = some (.slice e)) (he : P.underlying e = some (.int k)) (hc : P.cellsOf e = 1) {B : Nat} (hB : P.bytesOf e = B)
    (h : DataW.Trod enc P W base spare held t (.slice a len cap) d ps) :
    ∃ zs : List Int, zs.length = len ∧ RowAt W a (zs.map (.int k)) ∧ (∀ z ∈ zs, (Lit.int k z).wf = true) ∧ len * B ≤ 140737488351232 ∧ len ≤ cap ∧ cap ≤ maxLen := by
  obtain ⟨fuel, hf⟩ := h
  rcases open_ints hu he hc hf with ⟨hcs, _⟩ | ⟨x, l, c, zs, hcs, _, hl, hm, hz, hx, hcell, hwf⟩
  · simp [Value.cells] at hcs
    obtain ⟨rfl, rfl, rfl⟩ := hcs
    exact ⟨[], rfl, (fun hp => absurd hp (by simp)), (by simp), by simp, by simp, by simp [maxLen]⟩
  · simp [Value.cells] at hcs
    obtain ⟨rfl, rfl, rfl⟩ := hcs
    obtain ⟨hx, _⟩ := Prod.mk.inj hx
    subst hx
    have hl2 : len ≤ zs.length := by
      rw [hz]
      split
      · exact hl
      · exact Nat.le_refl _
    have z := sized_slice hsz ht hd hu
    rw [hB] at z
    have h1 : (lits (H := H) k (zs.take len)).length + (lits (H := H) k (zs.drop len)).length = zs.length := by
      simp [lits]
      omega
    rw [h1] at z
    refine ⟨zs.take len, by simp; omega, row_of_cells fun i hi => ?_, fun s hs => hwf s (List.mem_of_mem_take hs), Nat.le_trans (Nat.mul_le_mul_right _ hl2) z, hl, hm⟩
    have hi' : i < zs.length := by simp at hi; omega
    rw [hcell i hi']
    simp [List.getD_eq_getElem?_getD, List.getElem?_eq_getElem hi']
end
theorem byte_wf {z : Int} (h : (Lit.int .u8 z).wf = true) : ∃ c : UInt8, z = (c.toNat : Int) := by
  have := bounds_u8 h
  refine ⟨UInt8.ofNat z.toNat, ?_⟩
  rw [UInt8.toNat_ofNat']
  omega
theorem bytes_wf : ∀ {zs : List Int}, (∀ z ∈ zs, (Lit.int .u8 z).wf = true) → ∃ l : List UInt8, zs = l.map fun c => (c.toNat : Int)
  | [], _ => ⟨[], rfl⟩
  | z :: zs, h => by
    obtain ⟨c, hc⟩ := byte_wf (h z (by simp))
    obtain ⟨l, hl⟩ := bytes_wf (zs := zs) (fun x hx => h x (by simp [hx]))
    exact ⟨c :: l, by rw [hc, hl]; rfl⟩
end Go.Proofs.YtehpnbeihnhjeaaDoor

/-
  The law NamesMarks, walked: so many marks are so many bytes; with a star among them as many, or more.
-/
namespace Go.Proofs.YtehpnbeihnhjeaaDoor
open Go.RowKit
set_option linter.unusedSimpArgs false
set_option linter.unusedVariables false
theorem gm_marks : ∀ (n : Nat) (s : List UInt8), gm (List.replicate n 63) s = (s.length == n)
  | 0, [] => by rw [List.replicate_zero, gm]; rfl
  | 0, c :: s => by rw [List.replicate_zero, gm]; rfl
  | n + 1, [] => by rw [List.replicate_succ, gm]; rfl
  | n + 1, c :: s => by
    rw [List.replicate_succ, gm, if_neg (by decide), gm_marks n s]
    simp
theorem gm_star_marks (n : Nat) (s : List UInt8) : gm (42 :: List.replicate n 63) s = decide (n ≤ s.length) := by
  rw [Bool.eq_iff_iff, gm_star, decide_eq_true_eq]
  constructor
  · rintro ⟨k, h⟩
    rw [gm_marks, beq_iff_eq, List.length_drop] at h
    omega
  · intro h
    refine ⟨s.length - n, ?_⟩
    rw [gm_marks, beq_iff_eq, List.length_drop]
    omega
theorem gm_among : ∀ (k m : Nat) (s : List UInt8), gm (List.replicate k 63 ++ 42 :: List.replicate m 63) s = decide (k + m ≤ s.length)
  | 0, m, s => by rw [List.replicate_zero, List.nil_append, gm_star_marks, Nat.zero_add]
  | k + 1, m, [] => by
    rw [List.replicate_succ, List.cons_append, gm]
    simp
  | k + 1, m, c :: s => by
    rw [List.replicate_succ, List.cons_append, gm, if_neg (by decide), gm_among k m s]
    simp only [beq_self_eq_true, Bool.true_or, Bool.true_and, List.length_cons]
    exact decide_eq_decide.2 (by omega)
theorem gm_star_end (s : List UInt8) : ∀ t : List UInt8, gm [42] t = true := fun t => (gm_star _ _).2 ⟨t.length, by rw [List.drop_length, gm]; rfl⟩
theorem gm_self_star : ∀ s : List UInt8, gm (s ++ [42]) s = true
  | [] => by rw [List.nil_append]; exact gm_star_end [] []
  | c :: s => by
    rw [List.cons_append, gm]
    by_cases h : c = 42
    · rw [if_pos h, Bool.or_eq_true]
      refine .inr ?_
      subst h
      exact (gm_star _ _).2 ⟨0, gm_self_star s⟩
    · rw [if_neg h, gm_self_star s]
      simp
def mk (n : Nat) : ByteArray := bsL (List.replicate n 63)
theorem mk_size (n : Nat) : (mk n).size = n := by unfold mk; rw [bsL_size, List.length_replicate]
theorem bsL_app (a b : List UInt8) : bsL a ++ bsL b = bsL (a ++ b) := by
  apply ByteArray.ext
  simp [bsL]
theorem mk_succ (n : Nat) : mk n ++ ⟨#[63]⟩ = mk (n + 1) := by
  unfold mk
  rw [show (⟨#[63]⟩ : ByteArray) = bsL [63] from rfl, bsL_app, List.replicate_succ']
theorem mk_extract (n i j : Nat) (hj : j ≤ n) : (mk n).extract i j = mk (j - i) := by
  unfold mk
  rw [extract_bsL, bsL_toList, List.take_replicate, List.drop_replicate, Nat.min_eq_left hj]
theorem len_data (s : ByteArray) : s.data.toList.length = s.size := Array.length_toList
theorem glob_marks (n : Nat) (s : ByteArray) (hn : n ≤ 1000) (hs : s.size ≤ 1000) (w : World) : Calls Tryd.prog 19 #[.string (mk n), .string s] w fun e w' => e = .returned (.bool (s.size == n)) ∧ Below w.heap.size w w' := by
  have h := glob_any (mk n) s (by rw [mk_size]; omega) (by omega) w
  rw [show (mk n).data.toList = List.replicate n 63 from bsL_toList _, gm_marks, len_data] at h
  exact h
theorem glob_among (k m : Nat) (s : ByteArray) (hn : k + m ≤ 1000) (hs : s.size ≤ 1000) (w : World) : Calls Tryd.prog 19 #[.string (mk k ++ ⟨#[42]⟩ ++ mk m), .string s] w fun e w' => e = .returned (.bool (decide (k + m ≤ s.size))) ∧ Below w.heap.size w w' := by
  have e : mk k ++ ⟨#[42]⟩ ++ mk m = bsL (List.replicate k 63 ++ 42 :: List.replicate m 63) := by
    unfold mk
    rw [show (⟨#[42]⟩ : ByteArray) = bsL [42] from rfl, bsL_app, bsL_app, List.append_assoc]
    rfl
  rw [e]
  have h := glob_any (bsL (List.replicate k 63 ++ 42 :: List.replicate m 63)) s (by rw [bsL_size]; simp; omega) (by omega) w
  rw [bsL_toList, gm_among, len_data] at h
  exact h
theorem glob_star_marks (n : Nat) (s : ByteArray) (hn : n ≤ 1000) (hs : s.size ≤ 1000) (w : World) : Calls Tryd.prog 19 #[.string (⟨#[42]⟩ ++ mk n), .string s] w fun e w' => e = .returned (.bool (decide (n ≤ s.size))) ∧ Below w.heap.size w w' := by
  have e : (⟨#[42]⟩ : ByteArray) ++ mk n = bsL (42 :: List.replicate n 63) := by
    unfold mk
    rw [show (⟨#[42]⟩ : ByteArray) = bsL [42] from rfl, bsL_app]
    rfl
  rw [e]
  have h := glob_any (bsL (42 :: List.replicate n 63)) s (by rw [bsL_size]; simp; omega) (by omega) w
  rw [bsL_toList, gm_star_marks, len_data] at h
  exact h
theorem glob_self_star (s : ByteArray) (hs : s.size ≤ 1000) (w : World) : Calls Tryd.prog 19 #[.string (s ++ ⟨#[42]⟩), .string s] w fun e w' => e = .returned (.bool true) ∧ Below w.heap.size w w' := by
  have e : s ++ ⟨#[42]⟩ = bsL (s.data.toList ++ [42]) := by
    rw [show (⟨#[42]⟩ : ByteArray) = bsL [42] from rfl, ← bsL_app, bsL_data]
  rw [e]
  have h := glob_any (bsL (s.data.toList ++ [42])) s (by rw [bsL_size, List.length_append, len_data]; simp; omega) (by omega) w
  rw [bsL_toList, gm_self_star] at h
  exact h
set_option maxRecDepth 100000 in
set_option maxHeartbeats 2000000 in
theorem namesMarks_walk (a0 : Int) (a1 : ByteArray) (a2 : Int) (W : World) (w0 : (Lit.int .u8 a0).wf = true) (s1 : a1.size ≤ 140737488351232) (w2 : (Lit.int .u8 a2).wf = true) :
    Calls Tryd.prog 7 #[.int .u8 a0, .string a1, .int .u8 a2] W fun e w' => e = .returned (.bool true) ∧ Below W.heap.size W w' := by
  have hw0 : 0 ≤ a0 ∧ a0 ≤ 255 := by simpa [Lit.wf, IntKind.min, IntKind.max, IntKind.signed, IntKind.bits] using w0
  have hw2 : 0 ≤ a2 ∧ a2 ≤ 255 := by simpa [Lit.wf, IntKind.min, IntKind.max, IntKind.signed, IntKind.bits] using w2
  obtain ⟨n0, rfl⟩ : ∃ n : Nat, a0 = n := ⟨a0.toNat, by omega⟩
  obtain ⟨t, rfl⟩ : ∃ n : Nat, a2 = n := ⟨a2.toNat, by omega⟩
  clear w0 w2
  obtain ⟨z, hz⟩ : ∃ z, a1.size = z := ⟨_, rfl⟩
  by_cases hbig : 60 < z
  · go_enter Tryd.func7, Tryd.ntmps7
    go_wp2_with fail
    refine (known_any _).mono ?_
    rintro e w1 ⟨rfl, hb1⟩
    go_wp2_with fail
    go_ret
    exact ⟨rfl, hb1⟩
  · go_enter Tryd.func7, Tryd.ntmps7
    go_wp2_with fail
    go_loopw [7, 8] (fun pv iv wr => ∃ i q : Nat, i ≤ n0 % 40 ∧ iv = .int .i64 i ∧ pv = .string (mk i) ∧ wr = W.drewN q) (fun _ iv _ => 40 - (intOf iv).toNat)
    case atStart => exact ⟨0, 0, by omega, rfl, rfl, rfl⟩
    case round =>
      obtain ⟨i, q, hi, rfl, rfl, rfl⟩ := hrel
      have hms := mk_succ i
      have hmz := mk_size i
      obtain ⟨n, hn⟩ : ∃ n, n0 % 40 = n := ⟨_, rfl⟩
      have hn40 : n < 40 := by omega
      have e1 : (n0 : Int) % 40 = (n : Int) := by omega
      rw [hn] at hi
      obtain ⟨M, hM⟩ : ∃ M, mk i = M := ⟨_, rfl⟩
      rw [hM] at hms hmz ⊢
      by_cases hlt : i < n
      · have HMS := Lib.hid hms
        clear hms
        go_wp2_with fail
        go_roundw
        case rel => exact ⟨i + 1, q, by omega, by go_num, by rw [HMS.out], rfl⟩
        case measure => simp [intOf]; omega
      · obtain rfl : i = n := by omega
        clear hms
        obtain ⟨k, hk⟩ : ∃ k, t % (i + 1) = k := ⟨_, rfl⟩
        have hki : k ≤ i := by have := Nat.mod_lt t (show 0 < i + 1 by omega); omega
        have e2 : (t : Int) % ((i : Int) + 1) = (k : Int) := by rw [← hk]; rfl
        have r1 : gm M.data.toList a1.data.toList = (z == i) := by
          rw [← hM, show (mk i).data.toList = List.replicate i 63 from bsL_toList _, gm_marks, len_data, hz]
        have r2 : gm (M.extract 0 k ++ ⟨#[42]⟩ ++ M.extract k i).data.toList a1.data.toList = decide (i ≤ z) := by
          rw [← hM, mk_extract i 0 k hki, mk_extract i k i (Nat.le_refl _), Nat.sub_zero]
          have e : mk k ++ ⟨#[42]⟩ ++ mk (i - k) = bsL (List.replicate k 63 ++ 42 :: List.replicate (i - k) 63) := by
            unfold mk
            rw [show (⟨#[42]⟩ : ByteArray) = bsL [42] from rfl, bsL_app, bsL_app, List.append_assoc]
            rfl
          rw [e, bsL_toList, gm_among, len_data, hz, show k + (i - k) = i from by omega]
        have r3 : gm (a1 ++ ⟨#[42]⟩).data.toList a1.data.toList = true := by
          have e : a1 ++ ⟨#[42]⟩ = bsL (a1.data.toList ++ [42]) := by
            rw [show (⟨#[42]⟩ : ByteArray) = bsL [42] from rfl, ← bsL_app, bsL_data]
          rw [e, bsL_toList, gm_self_star]
        have r4 : gm ((⟨#[42]⟩ : ByteArray) ++ M).data.toList a1.data.toList = decide (i ≤ z) := by
          rw [← hM]
          have e : (⟨#[42]⟩ : ByteArray) ++ mk i = bsL (42 :: List.replicate i 63) := by
            unfold mk
            rw [show (⟨#[42]⟩ : ByteArray) = bsL [42] from rfl, bsL_app]
            rfl
          rw [e, bsL_toList, gm_star_marks, len_data, hz]
        have x1 : (M.extract 0 k).size = k := by rw [← hM, mk_extract i 0 k hki, mk_size]; rfl
        have x2 : (M.extract k i).size = i - k := by rw [← hM, mk_extract i k i (Nat.le_refl _), mk_size]
        have x3 : (⟨#[42]⟩ : ByteArray).size = 1 := rfl
        have x4 : (k : Int) ≤ (i : Int) := by omega
        have hHB := below_drewN W q
        obtain ⟨W0, hW0⟩ : ∃ W0, W.drewN q = W0 := ⟨_, rfl⟩
        rw [hW0] at hHB ⊢
        have HB := Lib.hid hHB
        obtain ⟨c1, hc1, hd1⟩ : ∃ c, (z == i) = c ∧ ((z : Int) == (i : Int)) = c := ⟨_, rfl, by
          by_cases h : z = i
          · simp [h]
          · have h2 : (z == i) = false := by simpa using h
            rw [h2]
            simp
            omega⟩
        obtain ⟨c2, hc2, hd2⟩ : ∃ c, decide (i ≤ z) = c ∧ decide ((i : Int) ≤ (z : Int)) = c := ⟨_, rfl, decide_eq_decide.2 (by omega)⟩
        rw [hc1] at r1
        rw [hc2] at r2 r4
        clear hc1 hc2
        have R1 := Lib.hid r1; have R2 := Lib.hid r2; have R3 := Lib.hid r3; have R4 := Lib.hid r4
        clear r1 r2 r3 r4 hHB hW0 hM hk hn hlt
        have hza : a1.size ≤ 100000 := by omega
        have hzm : M.size ≤ 100000 := by omega
        have hz2 : (M.extract 0 k ++ ⟨#[42]⟩ ++ M.extract k i).size ≤ 100000 := by simp only [ByteArray.size_append, x1, x2, x3]; omega
        have hz3 : (a1 ++ ⟨#[42]⟩).size ≤ 100000 := by simp only [ByteArray.size_append, x3]; omega
        have hz4 : ((⟨#[42]⟩ : ByteArray) ++ M).size ≤ 100000 := by simp only [ByteArray.size_append, x3]; omega
        have HZ2 := Lib.hid hz2; have HZ3 := Lib.hid hz3; have HZ4 := Lib.hid hz4
        clear hz2 hz3 hz4
        have s1 : ¬ 9223372036854775807 < k + 1 := by omega
        have s2 : ¬ 9223372036854775807 < k + 1 + (i - k) := by omega
        have s3 : ¬ 9223372036854775807 < z + 1 := by omega
        have s4 : ¬ 9223372036854775807 < 1 + i := by omega
        cases c1 <;> cases c2
        case true.false =>
          simp only [beq_iff_eq, decide_eq_false_iff_not] at hd1 hd2
          exact absurd hd1 (by omega)
        case false.false =>
          simp only [decide_eq_false_iff_not] at hd2
          have q1 : ((i : Int) ≤ (z : Int)) = False := eq_false hd2
          have q2 : decide ((i : Int) ≤ (z : Int)) = false := decide_eq_false hd2
          clear hd2
          go_wp2_with fail
          try rw [e2]
          go_region_held3 (fun _ => True) (trivial) (first
            | (go_at_call 11; refine (known_any _).mono ?_; rintro e w2 ⟨rfl, hB2⟩; have HBn := Lib.hid (show Below W.heap.size W w2 from by first | exact below_trs HB.out hB2 | exact below_trs HB.out.drew hB2); clear HB hB2; have HB := HBn; clear HBn)
            | (go_at_call 19; refine (glob_any _ _ (by first | exact hzm | exact HZ2.out | exact HZ3.out | exact HZ4.out) hza _).mono ?_; rintro e w2 ⟨rfl, hB2⟩; have HBn := Lib.hid (show Below W.heap.size W w2 from by first | exact below_trs HB.out hB2 | exact below_trs HB.out.drew hB2); clear HB hB2; have HB := HBn; clear HBn; first | rw [R1.out] | rw [R2.out] | rw [R3.out] | rw [R4.out]))
          go_wp2_with fail
          go_ret
          exact ⟨rfl, by first | exact HB.out | exact HB.out.drew⟩
        case false.true =>
          simp only [decide_eq_true_eq] at hd2
          go_wp2_with fail
          try rw [e2]
          go_region_held3 (fun _ => True) (trivial) (first
            | (go_at_call 11; refine (known_any _).mono ?_; rintro e w2 ⟨rfl, hB2⟩; have HBn := Lib.hid (show Below W.heap.size W w2 from by first | exact below_trs HB.out hB2 | exact below_trs HB.out.drew hB2); clear HB hB2; have HB := HBn; clear HBn)
            | (go_at_call 19; refine (glob_any _ _ (by first | exact hzm | exact HZ2.out | exact HZ3.out | exact HZ4.out) hza _).mono ?_; rintro e w2 ⟨rfl, hB2⟩; have HBn := Lib.hid (show Below W.heap.size W w2 from by first | exact below_trs HB.out hB2 | exact below_trs HB.out.drew hB2); clear HB hB2; have HB := HBn; clear HBn; first | rw [R1.out] | rw [R2.out] | rw [R3.out] | rw [R4.out]))
          go_wp2_with fail
          go_ret
          exact ⟨rfl, by first | exact HB.out | exact HB.out.drew⟩
        case true.true =>
          simp only [decide_eq_true_eq] at hd2
          go_wp2_with fail
          try rw [e2]
          go_region_held3 (fun _ => True) (trivial) (first
            | (go_at_call 11; refine (known_any _).mono ?_; rintro e w2 ⟨rfl, hB2⟩; have HBn := Lib.hid (show Below W.heap.size W w2 from by first | exact below_trs HB.out hB2 | exact below_trs HB.out.drew hB2); clear HB hB2; have HB := HBn; clear HBn)
            | (go_at_call 19; refine (glob_any _ _ (by first | exact hzm | exact HZ2.out | exact HZ3.out | exact HZ4.out) hza _).mono ?_; rintro e w2 ⟨rfl, hB2⟩; have HBn := Lib.hid (show Below W.heap.size W w2 from by first | exact below_trs HB.out hB2 | exact below_trs HB.out.drew hB2); clear HB hB2; have HB := HBn; clear HBn; first | rw [R1.out] | rw [R2.out] | rw [R3.out] | rw [R4.out]))
          go_wp2_with fail
          go_ret
          exact ⟨rfl, by first | exact HB.out | exact HB.out.drew⟩
end Go.Proofs.YtehpnbeihnhjeaaDoor

/-
  The row of the law NamesMarks: whatever the input, it answers true and leaves its arguments as they were; out of its walk.
-/
namespace Go.Proofs.YtehpnbeihnhjeaaDoor.namesMarks
open Go.ChangeShapes Go.WideShapes Go.ChangeAt Go.RowKit
open Go.ChangeMaps (open_string shut_string)
theorem own : ownKnob Tryd.prog.godebug = none := by kernel_rfl
set_option maxRecDepth 100000 in
theorem lifted (os : Os) (started : os.Started) (H : Type) (enc : TypeId × Value → H) :
    ReturnsInHanded {} Tryd.checked os 7 .any (fun w args => (Rows.namesMarksSpec.pre enc Tryd.prog Tryd.f7 Rows.namesMarksRow.domain false w args ∧ laidMetH Tryd.prog Rows.namesMarksRow.laid w) ∧ sizedMet enc Tryd.prog Tryd.f7 (OpenSpec.ofChange Rows.namesMarksSpec) false w args)
      (Rows.namesMarksSpec.post enc Tryd.prog Tryd.f7 false true false false) := by
  refine returnsInHanded_of_change_and (C := Tryd.checked) (X := fun w _ => laidMetH Tryd.prog Rows.namesMarksRow.laid w) (fun _ _ _ hh h => h.of_heap hh) own started (by kernel_rfl) Tryd.func7
    (ChangeSpec.witness_shaped (enc := enc) (C := Tryd.checked) (os := os) (X := fun w _ => laidMetH Tryd.prog Rows.namesMarksRow.laid w) false (World.laidAll Tryd.prog os Rows.namesMarksRow.laid) #[.int .u8 0, .string ByteArray.empty, .int .u8 0] 8 (World.laidAll_os _ _ _)
      (World.shaped_of_ZipB (by kernel_rfl) (by kernel_rfl)) (by kernel_rfl) (by kernel_rfl) (by kernel_rfl)
      (by rw [MakeChecks.laidMetH_plain _ _ _ (by kernel_rfl)]; exact laidMet_laidAll _ (by kernel_rfl) (by kernel_rfl))) ?_
  intro W base args ds gs before hval0 hW _ hsz0 hL _
  have hsz : (DataW.weightsEach Tryd.prog (Tryd.f7.params.toList ++ Rows.namesMarksSpec.plain.varTypes Tryd.prog) (ds ++ gs)).all (· ≤ reachBytes) = true := hsz0
  have hval : ∀ (j : Nat) t v, Tryd.f7.params[j]? = some t → args[j]? = some v → Value.okWide Tryd.prog W .any base t v := hval0
  have hW' := hW
  obtain ⟨p, q, hA0, hV, rfl, hfz, hnd⟩ := hW
  have hA : DataW.TrodAll enc Tryd.prog W 0 (fun _ => true) true Tryd.f7.params.toList args.toList ds p := hA0
  rw [Tryd.params7] at hA hval hsz
  obtain ⟨v0, vs0, d0, ds0, p0, q0, hargs, rfl, rfl, h0, r0⟩ := trodAll_cons hA
  obtain ⟨v1, vs1, d1, ds1, p1, q1, rfl, rfl, rfl, h1, r1⟩ := trodAll_cons r0
  obtain ⟨v2, vs2, d2, ds2, p2, q2, rfl, rfl, rfl, h2, r2⟩ := trodAll_cons r1
  obtain ⟨rfl, rfl, rfl⟩ := trodAll_nil r2
  obtain rfl : args = #[v0, v1, v2] := by cases args; simp_all
  obtain ⟨rfl, rfl⟩ := trodVars_none hV
  obtain ⟨a0, rfl, rfl, rfl, w0⟩ := open_int Tryd.underlying5 (hval 0 5 v0 rfl rfl) h0
  obtain ⟨a1, rfl, rfl, rfl, y1⟩ := open_string Tryd.underlying9 (hval 1 9 v1 rfl rfl) h1
  have w1 : a1.size ≤ 140737488351232 := by
    have z := sized_string hsz (j := 1) (t := 9) rfl rfl
    rw [Array.length_toList] at z
    exact z
  obtain ⟨a2, rfl, rfl, rfl, w2⟩ := open_int Tryd.underlying5 (hval 2 5 v2 rfl rfl) h2
  refine (namesMarks_walk a0 a1 a2 W w0 w1 w2).mono fun e W' ⟨he, bel⟩ => ?_
  subst he
  exact ⟨_, rfl, _, _, _, [], _, [], hW', trodAll_mk1 (shut_bool Tryd.underlying4 _), (trodAll_cons_mk (shut_int Tryd.underlying5 w0) (trodAll_cons_mk (shut_string Tryd.underlying9 y1) (trodAll_cons_mk (shut_int Tryd.underlying5 w2) trodAll_mk0))), rfl, bel.frame _, fun h => by cases h⟩
theorem over : Rows.namesMarksRow.holds Tryd.pinned (OpenSpec.ofChange Rows.namesMarksSpec) :=
  OpenClaim.holds_of_wide 7 Tryd.f7 rfl rfl rfl rfl rfl rfl rfl ⟨rfl, rfl, rfl, rfl, rfl⟩ rfl rfl rfl rfl rfl (by kernel_rfl) Tryd.func7 (by kernel_rfl)
    (of_decide_eq_true (by kernel_rfl)) (by unfold Func.isWrapper; first | (rw [if_pos (by decide +kernel)]; kernel_rfl) | (rw [if_neg (by decide +kernel)]; exact ⟨rfl, rfl⟩))
    (fun os started H enc _ => lifted os started H enc)
theorem card : Rows.NamesMarksCardSaid :=
  Claim7.holds_tied_plain_at .later [] [.data, .pinned] true (true, "f9907188933ece87b77b1618cb57b030d9a50f3daf99862c9f01d8c3d7d29cbc") false over (fun _ h => by cases h) (by kernel_rfl) (fun _ h => by cases h) namesMarks_row_tie rfl ⟨rfl, rfl⟩ (by kernel_rfl) rfl
    (fun f fn hf hfn => by
      obtain rfl : f = 7 := Option.some.inj ((show Tryd.prog.funcNamed "heliast/heliastlaw06.NamesMarks" = some 7 by kernel_rfl).symm.trans hf) |>.symm
      obtain rfl : fn = Tryd.f7 := (Option.some.inj (Tryd.func7.symm.trans hfn)).symm
      exact ⟨by kernel_rfl, fun j t ht => by
        rw [Tryd.params7] at ht
        have hm : t ∈ [5, 9, 5] := by simpa using Array.mem_of_getElem? ht
        have hall : ([5, 9, 5].all fun u => !Tryd.prog.wantsStandIn u) = true := by kernel_rfl
        exact (show Tryd.prog.wantsStandIn t = false by simpa using List.all_eq_true.1 hall t hm)⟩)
    (by kernel_rfl)
end Go.Proofs.YtehpnbeihnhjeaaDoor.namesMarks
namespace Go.Proofs.YtehpnbeihnhjeaaDoor
/-- The row, under a short name. -/
theorem namesMarks_holds : Rows.NamesMarksCardSaid := namesMarks.card
#print axioms namesMarks_holds
end Go.Proofs.YtehpnbeihnhjeaaDoor

