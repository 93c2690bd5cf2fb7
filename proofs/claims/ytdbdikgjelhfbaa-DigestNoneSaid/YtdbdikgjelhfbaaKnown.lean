/-
  The laws' helpers hex and known: the chapter's example holds.
-/
import Derived.Test.YtdbdikgjelhfbaaDig
import Derived.Lib.SlBytesConst
namespace Go.Proofs.Ytdbdikgjelhfbaa
open Go.RowKit Sha Go.Proofs.YtdbdikgjelhfbaaW.PrintWords Go.Proofs.YtdbdikgjelhfbaaW.PrintLast
set_option linter.unusedSimpArgs false
def digitsA : ByteArray := ⟨#[48, 49, 50, 51, 52, 53, 54, 55, 56, 57, 97, 98, 99, 100, 101, 102]⟩
def hexOne (s : ByteArray) (c : UInt8) : ByteArray := s ++ digitsA.extract (c.toNat / 16) (c.toNat / 16 + 1) ++ digitsA.extract (c.toNat % 16) (c.toNat % 16 + 1)
def hexA (l : List UInt8) : ByteArray := l.foldl hexOne ⟨#[]⟩
theorem hexA_snoc (l : List UInt8) (c : UInt8) : hexA (l ++ [c]) = hexOne (hexA l) c := by simp [hexA]
theorem hexOne_size (s : ByteArray) (c : UInt8) : (hexOne s c).size ≤ s.size + 2 := by
  unfold hexOne
  simp only [ByteArray.size_append, ByteArray.size_extract]
  omega
theorem hexA_size (l : List UInt8) : (hexA l).size ≤ 2 * l.length := by
  unfold hexA
  suffices ∀ s : ByteArray, (l.foldl hexOne s).size ≤ s.size + 2 * l.length by have := this ⟨#[]⟩; rwa [show (⟨#[]⟩ : ByteArray).size = 0 from rfl, Nat.zero_add] at this
  induction l with
  | nil => intro s; simp
  | cons c l ih =>
    intro s
    have h1 := ih (hexOne s c)
    have h2 := hexOne_size s c
    simp only [List.foldl_cons, List.length_cons]
    omega
set_option maxRecDepth 100000 in
set_option maxHeartbeats 1000000 in
theorem hex_any (a : Option Addr) (c : Nat) (l : List UInt8) (w : World) (h : Rd w a l) (hl : l.length ≤ 100000) :
    Calls Try.prog 19 #[.slice a l.length c] w fun e w' => e = .returned (.string (hexA l)) ∧ ∃ n, w' = w.drewN n := by
  obtain ⟨n, hn⟩ : ∃ n, l.length = n := ⟨_, rfl⟩
  rw [hn] at hl ⊢
  have HN := Lib.hid hn
  have H := Lib.hid h
  clear hn h
  go_enter Try.func19, Try.ntmps19
  go_wp2_with fail
  go_loopw [3, 4] (fun s i wr => ∃ k m : Nat, k ≤ n ∧ i = .int .i64 k ∧ s = .string (hexA (l.take k)) ∧ wr = w.drewN m) (fun _ i _ => n - (intOf i).toNat)
  case atStart => exact ⟨0, 0, by omega, rfl, rfl, rfl⟩
  case round =>
    obtain ⟨k, m, hk, rfl, rfl, rfl⟩ := hrel
    by_cases hlt : k < n
    · obtain ⟨b, off, rfl, hbl, hcell⟩ := H.out.bytesAt (by rw [HN.out]; omega)
      have hkl : k < l.length := by rw [HN.out]; exact hlt
      have hc0 := hcell k hkl
      obtain ⟨x, hx⟩ : ∃ x, l[k] = x := ⟨_, rfl⟩
      have hsn : hexA (l.take (k + 1)) = hexOne (hexA (l.take k)) x := by
        rw [List.take_succ_eq_append_getElem hkl, hexA_snoc, hx]
      rw [hx] at hc0
      obtain ⟨s, hs⟩ : ∃ s, hexA (l.take k) = s := ⟨_, rfl⟩
      have hsz : s.size ≤ 200000 := by
        rw [← hs]
        have := hexA_size (l.take k)
        have := List.length_take_le k l
        omega
      rw [hs] at hsn ⊢
      obtain ⟨hi, hhi⟩ : ∃ hi, x.toNat / 16 = hi := ⟨_, rfl⟩
      obtain ⟨lo, hlo⟩ : ∃ lo, x.toNat % 16 = lo := ⟨_, rfl⟩
      have hxl := x.toNat_lt
      have h16 : hi < 16 := by omega
      have l16 : lo < 16 := by omega
      have HSN := Lib.hid hsn; have HS := Lib.hid hs; have HHI := Lib.hid hhi; have HLO := Lib.hid hlo
      have e1 : (x.toNat : Int) / 16 = (hi : Int) := by omega
      have e2 : IntKind.u8.wrap ((hi : Int) + 1) = ((hi + 1 : Nat) : Int) := by rw [IntKind.wrap_u8]; omega
      have e3 : (x.toNat : Int) % 16 = (lo : Int) := by omega
      have e4 : IntKind.u8.wrap ((lo : Int) + 1) = ((lo + 1 : Nat) : Int) := by rw [IntKind.wrap_u8]; omega
      have h16i : (hi : Int) < 16 := by omega
      have l16i : (lo : Int) < 16 := by omega
      clear hsn hs hhi hlo hx hcell
      go_wp2_with fail
      go_quiet (fail)
      go_wp2_with fail
      go_roundw
      case rel => exact ⟨k + 1, _, by omega, by go_num, by rw [HSN.out, ← HHI.out, ← HLO.out]; rfl, rfl⟩
      case measure => simp [intOf]; omega
    · obtain rfl : k = n := by omega
      go_wp2_with fail
      go_ret
      exact ⟨by rw [List.take_of_length_le (by rw [HN.out]; exact Nat.le_refl _)]; rfl, m, rfl⟩
theorem ByteArray_toList (s : ByteArray) : s.toList = s.data.toList := by
  obtain ⟨⟨l⟩⟩ := s
  exact ByteArray.toList_mk l
theorem abc_hex : (hexA (Sha.sum [97, 98, 99])).data.toList = [98, 97, 55, 56, 49, 54, 98, 102, 56, 102, 48, 49, 99, 102, 101, 97, 52, 49, 52, 49, 52, 48, 100, 101, 53, 100, 97, 101, 50, 50, 50, 51, 98, 48, 48, 51, 54, 49, 97, 51, 57, 54, 49, 55, 55, 97, 57, 99, 98, 52, 49, 48, 102, 102, 54, 49, 102, 50, 48, 48, 49, 53, 97, 100] := by
  rw [show ([97, 98, 99] : List UInt8) = [0x61, 0x62, 0x63] from rfl, Sha.sum_abc]; decide +kernel
theorem abc_read (w : World) : Rd (w.alloc (.cells #[.int .u8 97, .int .u8 98, .int .u8 99] 5 (3, 4))) (some ⟨w.heap.size, 0, none⟩) [97, 98, 99] := by
  refine Kd.C_of_reads (d := (0 : Int)) ⟨rfl, by simp, fun _ => ⟨_, rfl, fun j hj => ?_⟩⟩
  rw [Addr.add_mid, Nat.zero_add, cell_of_row _ _ j _ 5 (3, 4) (heap_alloc_new w _)]
  have : j = 0 ∨ j = 1 ∨ j = 2 := by have : j < 3 := hj; omega
  rcases this with rfl | rfl | rfl <;> rfl
set_option maxRecDepth 100000 in
set_option maxHeartbeats 400000 in
theorem known_any (w : World) : Calls Try.prog 9 #[] w fun e w' => e = .returned (.bool true) ∧ Below w.heap.size w w' := by
  have kc := fun (w : World) (C : Array Value) (n c : Nat) => Lib.run_convert_bytes_const (P := Try.prog) w 22 5 C n c Try.underlying22 Try.underlying5
  go_enter Try.func9, Try.ntmps9
  go_wp2_with fail
  obtain ⟨W1, hW1⟩ : ∃ W1, w.alloc (.cells #[.int .u8 97, .int .u8 98, .int .u8 99] 5 (3, 4)) = W1 := ⟨_, rfl⟩
  rw [hW1]
  have hr : Rd W1 (some ⟨w.heap.size, 0, none⟩) [97, 98, 99] := by rw [← hW1]; exact abc_read w
  have hb1 : Below w.heap.size w W1 := by rw [← hW1]; exact (Below.refl _ w).alloc (Nat.le_refl _) _
  clear hW1 kc
  obtain ⟨S, hS⟩ : ∃ S, Sha.sum [97, 98, 99] = S := ⟨_, rfl⟩
  have hds := digest_sum_any (some ⟨w.heap.size, 0, none⟩) 3 [97, 98, 99] W1 hr (by simp)
  rw [hS] at hds
  simp only [List.length_cons, List.length_nil, Nat.zero_add, Nat.reduceAdd] at hds
  have HDS := Lib.hid hds
  clear hds
  refine HDS.out.mono ?_
  rintro e W2 ⟨v, rfl, ho, hb2⟩
  have hSl : S.length ≤ 100000 := by rw [← hS, Sha.sum_length]; omega
  obtain ⟨av, cv, rfl, _, hr2⟩ := ho.reads
  have HS := Lib.hid hS
  clear hS hr ho
  go_wp2_with fail
  refine (hex_any av cv S W2 hr2 (by omega)).mono ?_
  rintro e _ ⟨rfl, nn, rfl⟩
  have hx : (hexA S).toList = [98, 97, 55, 56, 49, 54, 98, 102, 56, 102, 48, 49, 99, 102, 101, 97, 52, 49, 52, 49, 52, 48, 100, 101, 53, 100, 97, 101, 50, 50, 50, 51, 98, 48, 48, 51, 54, 49, 97, 51, 57, 54, 49, 55, 55, 97, 57, 99, 98, 52, 49, 48, 102, 102, 54, 49, 102, 50, 48, 48, 49, 53, 97, 100] := by
    rw [← HS.out, ByteArray_toList]
    exact abc_hex
  have hxb : ((hexA S).toList == [98, 97, 55, 56, 49, 54, 98, 102, 56, 102, 48, 49, 99, 102, 101, 97, 52, 49, 52, 49, 52, 48, 100, 101, 53, 100, 97, 101, 50, 50, 50, 51, 98, 48, 48, 51, 54, 49, 97, 51, 57, 54, 49, 55, 55, 97, 57, 99, 98, 52, 49, 48, 102, 102, 54, 49, 102, 50, 48, 48, 49, 53, 97, 100]) = true := by rw [hx]; rfl
  clear hx hr2
  go_wp2_with fail
  refine (tail_any 3 (by omega) _).mono ?_
  rintro e W3 ⟨v, rfl, ho, hb3⟩
  have hl : (tail 3).length = 61 := by decide
  obtain ⟨a3, c3, rfl, _, _⟩ := ho.reads
  rw [hl]
  clear hl ho
  go_wp2_with fail
  go_ret
  have hb3' : Below W2.heap.size W2 W3 := (⟨rfl, rfl, rfl, Nat.le_refl _, fun _ _ => rfl⟩ : Below W2.heap.size W2 (W2.drewN nn)).trans hb3
  exact ⟨rfl, (hb1.trans (hb2.mono hb1.size)).trans (hb3'.mono (Nat.le_trans hb1.size hb2.size))⟩
def Ext.known.f : Option Bool := some true
theorem Ext.known.calls (r : Bool) (w : World) (h : Ext.known.f = some r) : Calls Try.prog 9 #[] w fun e w' => e = .returned (.bool r) ∧ Below w.heap.size w w' := by
  cases h
  exact known_any w
end Go.Proofs.Ytdbdikgjelhfbaa
