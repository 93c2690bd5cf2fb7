/-
  Four bytes and a number: the functions put and get, called on any number and any text.
-/
import Derived.Test.YtfjighamaamkcaaSummed
import Derived.LoopN
import Derived.Laws.IdiomStrings
import Derived.Lib.ConvBytes
import Derived.Lib.Strings
namespace Go.Proofs.Ytfjighamaamkcaa
open Go.RowKit

/-- A text of some bytes. -/
def bs (l : List UInt8) : ByteArray := ⟨l.toArray⟩
theorem bs_data (s : ByteArray) : bs s.data.toList = s := rfl
theorem bs_toList (l : List UInt8) : (bs l).data.toList = l := rfl
theorem bs_size (l : List UInt8) : (bs l).size = l.length := by simp [bs, ByteArray.size]
theorem bs_append (l m : List UInt8) : bs l ++ bs m = bs (l ++ m) := by
  apply ByteArray.ext
  simp [bs]
theorem conv_bytes {P : Program} (w : World) (src dst e : TypeId) (hs : P.underlying src = some (.slice e)) (he : P.underlying e = some (.int .u8)) (hd : P.underlying dst = some .string) (b o n cap : Nat) (l : List UInt8) (hl : l.length = n)
    (hc : ∀ j (hj : j < l.length), w.cell? ⟨b, o + j, none⟩ = some (.int .u8 (l[j].toNat : Int))) :
    (convert src dst (.slice (some ⟨b, o, none⟩) n cap)).run P w = .ok (.string (bs l)) w := by
  subst hl
  refine run_convert_bytes_back w src dst e _ cap l hs he hd fun j hj => ?_
  rw [← hc j hj]
  congr 1
  unfold Addr.add
  split <;> simp_all
/-- A number's four bytes. -/
def fourB (n : Nat) : List UInt8 := [UInt8.ofNat (n / 16777216), UInt8.ofNat (n / 65536), UInt8.ofNat (n / 256), UInt8.ofNat n]
theorem byte_of (n : Nat) (m : Int) (h : m = ((n % 256 : Nat) : Int)) : (Value.int .u8 m) = .int .u8 ((UInt8.ofNat n).toNat : Int) := by
  rw [h, UInt8.toNat_ofNat']
set_option maxRecDepth 100000 in
set_option maxHeartbeats 400000 in
theorem put_any (N : BitVec 32) (w : World) :
    Calls Try.prog 20 #[.int .u32 N.toNat] w fun e w' => e = .returned (.string (bs (fourB N.toNat))) ∧ Below w.heap.size w w' := by
  have hN := N.isLt
  have hz : ∀ w, (zeroValue 51).run Try.prog w = .ok (.agg #[.int .u8 0, .int .u8 0, .int .u8 0, .int .u8 0]) w := fun w => by kernel_rfl
  go_enter Try.func20, Try.ntmps20
  go_wp2
  refine wp_loop_rounds 5 ?_
  iterate 5 (rw [rounds_succ]; go_wp2)
  rw [conv_bytes _ 22 9 5 Try.underlying22 Try.underlying5 Try.underlying9 w.heap.size 0 4 4 (fourB N.toNat) rfl ?hc]
  case hc =>
    intro j hj
    have hj4 : j < 4 := hj
    rw [World.cell?_alloc_at _ _ _ _ rfl, Nat.zero_add]
    match j, hj4 with
    | 0, _ => exact congrArg some (byte_of _ _ (by omega))
    | 1, _ => exact congrArg some (byte_of _ _ (by omega))
    | 2, _ => exact congrArg some (byte_of _ _ (by omega))
    | 3, _ => exact congrArg some (byte_of _ _ (by omega))
  go_wp2
  go_ret
  refine ⟨rfl, ?_⟩
  go_grown

/-- The number of four bytes. -/
def numB (l : List UInt8) : Nat := (l.take 4).foldl (fun n c => n * 256 + c.toNat) 0
theorem shl_or (n c : Nat) (hn : n < 281474976710656) (hc : c < 256) : bits .or .i64 (wrap64 ((n : Int) * 256)) (c : Int) = ((n * 256 + c : Nat) : Int) := by
  have e : wrap64 ((n : Int) * 256) = ((n * 256 : Nat) : Int) := by unfold wrap64; omega
  rw [e, bits_join .i64 62 (by decide) (fun m h0 h1 => by rw [IntKind.wrap_i64]; omega) 8 _ _ (by omega) (by omega) (by omega) (by omega) (by omega) (by omega)]
  omega
theorem or_zero (c : Nat) (hc : c < 256) : bits .or .i64 0 (c : Int) = (c : Int) := by
  have := shl_or 0 c (by omega) hc
  simpa [wrap64] using this
theorem take_four (s : ByteArray) (hs : 4 ≤ s.size) : s.data.toList.take 4 = [s[0]'(by omega), s[1]'(by omega), s[2]'(by omega), s[3]'(by omega)] := by
  rw [take_snoc s 3 (by omega), take_snoc s 2 (by omega), take_snoc s 1 (by omega), take_snoc s 0 (by omega)]
  rfl
set_option maxRecDepth 100000 in
set_option maxHeartbeats 400000 in
theorem get_any (s : ByteArray) (w : World) (hs : 4 ≤ s.size) (hm : s.size ≤ 9223372036854775807) :
    Calls Try.prog 21 #[.string s] w fun e w' => e = .returned (.int .i64 (numB s.data.toList)) ∧ w = w' := by
  have b0 := (s[0]'(by omega)).toNat_lt
  have b1 := (s[1]'(by omega)).toNat_lt
  have b2 := (s[2]'(by omega)).toNat_lt
  have b3 := (s[3]'(by omega)).toNat_lt
  go_enter Try.func21, Try.ntmps21
  go_wp2
  refine wp_loop_rounds 5 ?_
  iterate 5 (rw [rounds_succ]; go_wp2)
  go_ret
  refine ⟨?_, rfl⟩
  show Ending.returned (Value.int .i64 (bits .or .i64 (wrap64 (bits .or .i64 (wrap64 (bits .or .i64 (wrap64 (bits .or .i64 0 ↑(s[0]'(by omega)).toNat * 256)) ↑(s[1]'(by omega)).toNat * 256)) ↑(s[2]'(by omega)).toNat * 256)) ↑(s[3]'(by omega)).toNat)) = _
  rw [or_zero _ b0, shl_or _ _ (by omega) b1, shl_or _ _ (by omega) b2, shl_or _ _ (by omega) b3, numB, take_four s hs]
  simp
