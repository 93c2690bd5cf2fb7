/-
  The table of the sum: after its loop the cells hold the eight-fold step of each byte.
-/
import Derived.Test.YtfjighamaamkcaaProg
import Derived.Test.YtfjighamaamkcaaCrc
import Derived.WalkKit
import Derived.WalkSpells
import Derived.WalkLawsBesides
import Derived.Handy
import Derived.Lib.Hide
namespace Go.Proofs.Ytfjighamaamkcaa
open Go.RowKit

def zeros (n : Nat) (v : Value) : Array Value := Array.replicate n v
theorem zero50 (w : World) : (zeroValue 50).run Try.prog w = .ok (.agg (zeros 256 (.int .u32 0))) w := by kernel_rfl
def u32 (S : BitVec 32) : Value := .int .u32 (S.toNat : Int)
/-- The table lies in block b, as far as k. -/
def TabTo (w : World) (b k : Nat) : Prop := (∀ j, j < 256 → w.cell? ⟨b, j, none⟩ = some (.int .u32 (if j < k then ((Crc.tab j).toNat : Int) else 0))) ∧ ∀ j, w.frozen? ⟨b, j, none⟩ = false

set_option maxRecDepth 100000 in
set_option maxHeartbeats 400000 in
theorem table_any (w : World) : Calls Try.prog 19 #[] w fun e w' => e = .returned (.func (.func 27) #[] #[.pointer (some ⟨w.heap.size, 0, none⟩)]) ∧ Below w.heap.size w w' ∧ TabTo w' w.heap.size 256 := by
  have hmf : ∀ (fn : Fn) (first cap : Array Value) (w : World), (Instr.makeFunc fn first cap).run Try.prog w = .ok (.func fn first cap) w := fun _ _ _ _ => rfl
  have hz := zero50
  go_enter Try.func19, Try.ntmps19
  go_wp2
  go_loopw [5] (fun i wr => ∃ k : Nat, k ≤ 256 ∧ i = .int .i64 k ∧ Below w.heap.size w wr ∧ TabTo wr w.heap.size k) (fun i _ => 256 - (intOf i).toNat)
  case atStart => 
    refine ⟨0, by omega, rfl, ?_, ?_, ?_⟩
    · go_grown
    · intro j hj
      rw [World.cell?_alloc_at _ _ _ _ rfl]
      simp [zeros, hj]
    · intro j
      rw [World.frozen?_alloc_at _ _ _ _ rfl]
  case round =>
    obtain ⟨k, hk, rfl, hB, hT⟩ := hrel
    have HB := Lib.hid hB; clear hB
    have HT := Lib.hid hT; clear hT
    by_cases hlt : k < 256
    · have hc : wr.cell? ⟨w.heap.size, k, none⟩ = some (.int .u32 0) := by have := HT.out.1 k hlt; simpa using this
      have hf := HT.out.2 k
      go_wp2
      go_loop [3, 10] (fun s i => ∃ j : Nat, j ≤ 8 ∧ i = .int .i64 j ∧ s = .int .u32 (Crc.ones j (BitVec.ofNat 32 k)).toNat) (fun _ i => 8 - (intOf i).toNat)
      case atStart => exact ⟨0, by omega, rfl, by simp [Crc.ones]; omega⟩
      case round =>
        obtain ⟨j, hj, rfl, rfl⟩ := hrel
        obtain ⟨S, hS⟩ : ∃ S, Crc.ones j (BitVec.ofNat 32 k) = S := ⟨_, rfl⟩
        have hSr : 0 ≤ (S.toNat : Int) ∧ (S.toNat : Int) ≤ 4294967295 := by have := S.isLt; omega
        have HS := Lib.hid hS
        rw [hS]; clear hS
        by_cases hlj : j < 8
        · have h1 := Crc.bits_and1 S
          have h2 := Crc.half S
          cases hb : S.getLsbD 0 with
          | true =>
            rw [hb] at h1
            have h3 := Crc.bits_xor32 (S >>> 1) 0x82f63b78#32
            have H4 : Hid (Crc.one S = (S >>> 1) ^^^ 0x82f63b78#32) := Lib.hid (Crc.one_odd hb)
            have H3 := Lib.hid h3; have H2 := Lib.hid h2
            clear hb h2 h3
            go_wp2
            refine ⟨⟨j + 1, by omega, by go_num, ?_⟩, by simp [intOf]; omega⟩
            rw [H2.out]
            have e3 := H3.out
            rw [show ((0x82f63b78#32).toNat : Int) = 2197175160 from rfl] at e3
            rw [e3, ← H4.out, Crc.ones, HS.out]
          | false =>
            rw [hb] at h1
            have H4 : Hid (Crc.one S = S >>> 1) := Lib.hid (Crc.one_even hb)
            have H2 := Lib.hid h2
            clear hb h2
            go_wp2
            refine ⟨⟨j + 1, by omega, by go_num, ?_⟩, by simp [intOf]; omega⟩
            rw [H2.out, ← H4.out, Crc.ones, HS.out]
        · obtain rfl : j = 8 := by omega
          go_wp2
          refine ⟨⟨k + 1, by omega, by go_num, HB.out.setCell (p := ⟨w.heap.size, k, none⟩) (Nat.le_refl _) _, ?_, ?_⟩, by simp [intOf]; omega⟩
          · intro i hi
            by_cases e : i = k
            · subst e
              rw [World.cell?_setCell_same' _ _ _ (by rw [HT.out.1 i hi]; rfl)]
              have := HS.out
              rw [Crc.ones_eight] at this
              simp [Crc.tab, this]
            · rw [World.cell?_setCell_other _ _ _ _ (by simp), HT.out.1 i hi]
              have : (i < k + 1) = (i < k) := by apply propext; omega
              simp [this]
          · intro i
            rw [World.frozen?_setCell]; exact HT.out.2 i
    · obtain rfl : k = 256 := by omega
      go_wp2
      go_ret
      exact ⟨rfl, HB.out, HT.out⟩
