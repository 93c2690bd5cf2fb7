/-
  The function Sum of the package digest, called on any row of bytes that is no longer than the bound, returns the plain sum of 256 bits in a new row.
-/
import Derived.Test.YtdbdikgjelhfbaaSummed
namespace Go.Proofs.Ytdbdikgjelhfbaa
open Go.RowKit Sha Go.Proofs.YtdbdikgjelhfbaaW.PrintWords Go.Proofs.YtdbdikgjelhfbaaW.PrintLast
set_option maxRecDepth 100000 in
theorem digest_sum_any (a : Option Addr) (c : Nat) (l : List UInt8) (w : World) (h : Rd w a l) (hl : l.length ≤ 1099511000000) :
    Calls Try.prog 14 #[.slice a l.length c] w fun e w' => ∃ v, e = .returned v ∧ OwnB w' w.heap.size v (Sha.sum l) ∧ Below w.heap.size w w' := by
  obtain ⟨n, hn⟩ : ∃ n, l.length = n := ⟨_, rfl⟩
  have HN := Lib.hid hn
  rw [hn]
  have H := Lib.hid h
  clear hn h
  go_enter Try.func14, Try.ntmps14
  go_wp2_with fail
  refine (new_any w).mono ?_
  rintro e w1 ⟨p, rfl, hh, hp, hb⟩
  have hal : ∀ ad, a = some ad → 0 < n → ad.block < w.heap.size := fun ad e hp => by
    obtain ⟨b, off, e2, hlt, _⟩ := H.out.bytesAt (by rw [HN.out]; exact hp)
    rw [e] at e2; cases e2; exact hlt
  have HAL := Lib.hid hal
  have HH := Lib.hid hh
  have HB := Lib.hid hb
  clear hal hh hb
  go_wp2_with fail
  have hwr : Calls Try.prog 11 #[.pointer (some ⟨p, 0, none⟩), .slice a n c] w1 fun e w' => e = .returned (.int .i64 n) ∧ Holds w' p l ∧ w1.grownBy w' (some p) := by
    have := write_any p [] l a c w1 HH.out (H.out.below HB.out) (fun ad e hz => by have := HAL.out ad e (by rw [← HN.out]; exact hz); omega) (by simp; omega)
    rwa [HN.out, List.nil_append] at this
  refine hwr.mono ?_
  rintro e w2 ⟨rfl, hh2, hg2⟩
  have HH2 := Lib.hid hh2
  have HG2 := Lib.hid hg2
  clear hwr hh2 hg2
  go_wp2_with fail
  refine (hsum_any p l w2 HH2.out hl).mono ?_
  rintro e w3 ⟨v, rfl, ho, hb3⟩
  have hb2 : Below w.heap.size w w2 := ⟨HG2.out.os.trans HB.out.os, HG2.out.tape.trans HB.out.tape, HG2.out.output.trans HB.out.output, Nat.le_trans HB.out.size HG2.out.size, fun k hk => (HG2.out.block k (Nat.lt_of_lt_of_le hk HB.out.size) (by simp; omega)).trans (HB.out.block k hk)⟩
  obtain ⟨av, cv, rfl, _, _⟩ := ho.reads
  go_wp2_with fail
  go_ret
  exact ⟨_, rfl, ho.lower hb2.size, hb2.trans (hb3.mono hb2.size)⟩
set_option maxRecDepth 100000 in
theorem hsum_nil (w : World) : Calls Try.prog 12 #[.pointer none] w fun e w' => ∃ v, e = .returned v ∧ OwnB w' w.heap.size v (Sha.sum []) ∧ Below w.heap.size w w' := by
  go_enter Try.func12, Try.ntmps12
  go_wp2_with fail
  refine (digest_sum_any none 0 [] w (Rd.nil w) (by simp)).mono ?_
  rintro e w1 ⟨v, rfl, ho, hb⟩
  obtain ⟨av, cv, rfl, _, _⟩ := ho.reads
  go_wp2_with fail
  go_ret
  exact ⟨_, rfl, ho, hb⟩
/-- Are they bytes, and not too many? -/
def bytesOk (l : List Int) : Bool := decide (intsB (bytesI l) = l) && decide (l.length ≤ 1099511000000)
def Ext.digest_Sum.f (l0 : List Int) : Option (List Int) := if bytesOk l0 = true then some (intsB (Sha.sum (bytesI l0))) else none
theorem bytesOk_intsB (l : List UInt8) (h : l.length ≤ 1099511000000) : bytesOk (intsB l) = true := by
  unfold bytesOk
  rw [bytesI_intsB, intsB_length]
  simp [h]
theorem Ext.digest_Sum.f_eq (l : List UInt8) (h : l.length ≤ 1099511000000) : Ext.digest_Sum.f (intsB l) = some (intsB (Sha.sum l)) := by
  unfold Ext.digest_Sum.f
  rw [if_pos (bytesOk_intsB l h), bytesI_intsB]
theorem Ext.digest_Sum.calls (A0 : Option Addr) (c0 : Nat) (l0 : List Int) (r : List Int) (w : World) (hr0 : Kd.C (Kd.int .u8) w A0 l0.length l0) (_hc0 : l0.length ≤ c0) (h : Ext.digest_Sum.f l0 = some r) :
    Calls Try.prog 14 #[.slice A0 l0.length c0] w fun e w' => ∃ v0_ : Value, e = .returned (v0_) ∧ Kd.R (Kd.int .u8) 5 w' w.heap.size (fun _ => True) v0_ r ∧ Below w.heap.size w w' := by
  unfold Ext.digest_Sum.f at h
  split at h
  · rename_i hok
    cases h
    unfold bytesOk at hok
    simp only [Bool.and_eq_true, decide_eq_true_eq] at hok
    have hl : (bytesI l0).length = l0.length := by simp [bytesI]
    have hr : Rd w A0 (bytesI l0) := by unfold Rd; rw [hl, hok.1]; exact hr0
    have := digest_sum_any A0 c0 (bytesI l0) w hr (by rw [hl]; exact hok.2)
    rw [hl] at this
    exact this
  · cases h
end Go.Proofs.Ytdbdikgjelhfbaa
