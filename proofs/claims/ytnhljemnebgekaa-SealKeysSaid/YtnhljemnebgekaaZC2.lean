/-
  Texts of this session, merged in build order: Layer, Psx1, Shelf, IdxRune, ChunkS, SealShelf, SText, SBytes, Rtx0, Rtx1, Rtx2, Rtx3, Rtx, RefT, Tx, RefB, RefE, RefCode, SealE, Psx2.
-/
import Derived.Test.YtnhljemnebgekaaZC1
import Derived.Laws.CopyOwn
import Derived.Test.YtnhljemnebgekaaZC0
import Derived.Shelf.Strings.Builder1
import Derived.Shelf.Small.Utf8
import Derived.Shelf.Small.Strs
import Derived.Shelf.Small.Wraps
import Derived.Shelf.Strings.BuilderF
import Derived.Shelf.Strings.BuilderK
import Derived.Shelf.Strings.Search1
import Derived.Shelf.Strings.Prefix
import Derived.Shelf.Strings.Runes
import Derived.Shelf.Strings.BuilderCap
import Derived.Test.YtnhljemnebgekaaProg
import Derived.WalkKit
import Derived.BigCall
import Derived.BigQuiet
import Derived.Deep.QuietTactic
import Derived.Lib.Hide
import Derived.Lib.OthersKept
import Derived.Laws.Runes
import Derived.Lib.MapLaws
import Derived.Below
import Derived.Deep.Draws
import Derived.Deep.AppendLies
import Derived.Maps.AppendAt
import Derived.OwnWalk
import Derived.Laws.BytesArg
import Derived.Laws.MakeOwn
import Derived.Laws.OwnMore
import Derived.Deep.OwnRows
import Derived.Tactics
import Derived.Lib.ConvBytes
import Derived.Laws.Slices
import Derived.KernelRfl
import Derived.RowKit3
import Derived.Deep.LoopGhost
import Derived.WideLaws
import Derived.Deep.DeepCutAuto
import Derived.Deep.CutBlock
import Derived.Deep.RegionHeld3
import Derived.Laws.Rows
import Derived.Lib.AppendStr
import Derived.ArgAppend
import Derived.Laws.IdiomCopy
import Derived.OrdersHeld
import Derived.Laws.BitsLemmas
import Derived.RowKit
import Derived.Test.YtnhljemnebgekaaWWords
import Derived.Test.YtnhljemnebgekaaWLast
import Derived.Test.YtnhljemnebgekaaWTab
import Derived.Test.YtnhljemnebgekaaWFour
import Derived.Test.YtnhljemnebgekaaWQPut
import Derived.Test.YtnhljemnebgekaaWApart
import Derived.Test.YtnhljemnebgekaaWArr
import Derived.Test.YtnhljemnebgekaaWZeros
import Derived.Test.YtnhljemnebgekaaWFoot
import Derived.Test.YtnhljemnebgekaaWKept
import Derived.Test.YtnhljemnebgekaaWShare
import Derived.Test.YtnhljemnebgekaaWN
import Derived.Test.YtnhljemnebgekaaWFootNe
import Derived.Test.YtnhljemnebgekaaWAt
import Derived.Test.YtnhljemnebgekaaWEqStruct
import Derived.Test.YtnhljemnebgekaaWRepsOne
import Derived.Test.YtnhljemnebgekaaWInv
import Derived.Test.YtnhljemnebgekaaWInvWords
import Derived.Test.YtnhljemnebgekaaWGuard
import Derived.Test.YtnhljemnebgekaaWNEv
import Derived.Test.YtnhljemnebgekaaWMore
set_option linter.unusedVariables false
set_option linter.unusedSimpArgs false
/-
  The functions masked and layer of the package seal, called on any rows of bytes, return the masked key and the plain sum behind it.
-/
namespace Go.Proofs.Ytnhljemnebgekaa
open Go.RowKit Sha Go.Proofs.YtnhljemnebgekaaW.PrintWords Go.Proofs.YtnhljemnebgekaaW.PrintLast
set_option linter.unusedSimpArgs false
/-- A key of a block, each byte turned. -/
def keyOf (l : List UInt8) : List UInt8 := if 64 < l.length then Sha.sum l else l
def padOf (l : List UInt8) : List UInt8 := l ++ List.replicate (64 - l.length) 0
def mask64 (l : List UInt8) (m : UInt8) : List UInt8 := (padOf (keyOf l)).map (· ^^^ m)
def layerOf (l : List UInt8) (m : UInt8) (msg : List UInt8) : List UInt8 := Sha.sum (mask64 l m ++ msg)
theorem keyOf_length (l : List UInt8) : (keyOf l).length ≤ 64 := by
  unfold keyOf
  split
  · rw [Sha.sum_length]; omega
  · omega
theorem padOf_length (l : List UInt8) (h : l.length ≤ 64) : (padOf l).length = 64 := by simp [padOf]; omega
theorem mask64_length (l : List UInt8) (m : UInt8) : (mask64 l m).length = 64 := by
  unfold mask64; rw [List.length_map, padOf_length _ (keyOf_length l)]
theorem xor8 (x y : UInt8) : bits .xor .u8 (x.toNat : Int) (y.toNat : Int) = ((x ^^^ y).toNat : Int) := by
  rw [u8_xor_nat _ _ x.toNat_lt y.toNat_lt, UInt8.toNat_xor]
theorem OwnB.cellAt {w : World} {base g n c : Nat} {l : List UInt8} (h : OwnB w base (.slice (some ⟨g, 0, none⟩) n c) l) (i : Nat) (hi : i < l.length) : w.cell? ⟨g, i, none⟩ = some (.int .u8 ((l.getD i 0).toNat : Int)) ∧ w.frozen? ⟨g, i, none⟩ = false := by
  have hn : n = l.length := by have := (Kd.R_reads' h).1; rwa [intsB_length] at this
  have := Kd.R_celln (0 : Int) h (i : Int) (by omega) (by omega)
  rw [Int.toNat_natCast] at this
  refine ⟨?_, this.2⟩
  rw [this.1]
  have e : rdOf 0 (intsB l) (i : Int) = rd (intsB l) (i : Int) := rfl
  rw [e, rd_intsB]
theorem OwnB.put {w : World} {base g n c : Nat} {l : List UInt8} (h : OwnB w base (.slice (some ⟨g, 0, none⟩) n c) l) (i : Nat) (x : UInt8) : OwnB (w.setCell ⟨g, i, none⟩ (.int .u8 (x.toNat : Int))) base (.slice (some ⟨g, 0, none⟩) n c) (l.set i x) := by
  have := Kd.R_putn h (i : Int) (x.toNat : Int)
  rw [Int.toNat_natCast] at this
  unfold OwnB
  have e : intsB (l.set i x) = (intsB l).set i (x.toNat : Int) := by simp [intsB, List.map_set]
  rw [e]; exact this
/-- A block of bytes, known whole, is a row of the call's own. -/
theorem own_of_heap {w : World} {base g : Nat} {l : List UInt8} (hb : base ≤ g) (h : w.heap[g]? = some (.cells (u8s l).toArray 5 (0, 0))) (hl : l.length ≤ 9223372036854775807) : OwnB w base (.slice (some ⟨g, 0, none⟩) l.length l.length) l := by
  refine Kd.R_of_own ?_ (fun _ _ => trivial)
  rw [intsB_length]
  exact ⟨by simp [encs, intsB], .inr ⟨g, l.length, _, rfl, hb, h, Nat.le_refl _, by simpa [maxLen] using hl, by simp [u8s], by rw [Nat.mul_one, List.take_of_length_le (by simp [u8s])]; simp [u8s, encs, intsB]⟩⟩
def turnedTo (p : List UInt8) (m : UInt8) (j : Nat) : List UInt8 := (p.take j).map (· ^^^ m) ++ p.drop j
theorem turnedTo_succ (p : List UInt8) (m : UInt8) (j : Nat) (h : j < p.length) : (turnedTo p m j).set j ((turnedTo p m j).getD j 0 ^^^ m) = turnedTo p m (j + 1) := by
  have hl : ((p.take j).map (· ^^^ m)).length = j := by simp; omega
  have hd : p.drop j = p[j] :: p.drop (j + 1) := List.drop_eq_getElem_cons h
  have hg : (turnedTo p m j).getD j 0 = p[j] := by
    unfold turnedTo
    rw [List.getD_eq_getElem?_getD, List.getElem?_append_right (by omega), hl, Nat.sub_self, hd]; rfl
  rw [hg]
  unfold turnedTo
  rw [List.set_append_right _ _ (by omega), hl, Nat.sub_self, hd, List.set_cons_zero, List.take_succ_eq_append_getElem h, List.map_append]
  simp
theorem turnedTo_length (p : List UInt8) (m : UInt8) (j : Nat) : (turnedTo p m j).length = p.length := by
  simp [turnedTo]; omega
def zeroL : List Value := List.replicate 64 (.int .u8 0)
def zero8 : Array Value := zeroL.toArray
theorem make64 (w : World) : (Instr.makeSlice 22 (.int .i64 64) (.int .i64 64)).run Try.prog w = .ok (.slice (some ⟨w.heap.size, 0, none⟩) 64 64) (w.alloc (.cells zero8 5)) := by kernel_rfl
theorem zeroL_length : zeroL.length = 64 := List.length_replicate
theorem splice_at (N : Nat) (z : Value) (cs : List Value) : splice (List.replicate N z) 0 cs = cs ++ List.replicate (N - cs.length) z := by
  simp [splice, List.drop_replicate]
theorem pad_splice (l : List UInt8) : splice zeroL 0 (u8s l) = u8s (padOf l) := by
  unfold zeroL
  rw [splice_at]
  unfold padOf u8s
  rw [List.map_append, List.map_replicate, List.length_map]
  rfl

set_option maxRecDepth 100000 in
set_option maxHeartbeats 1000000 in
theorem masked_any (a : Option Addr) (c : Nat) (l : List UInt8) (m : UInt8) (w : World) (h : Rd w a l) (hl : l.length ≤ 1099511000000) :
    Calls Try.prog 38 #[.slice a l.length c, .int .u8 m.toNat] w fun e w' => ∃ v, e = .returned v ∧ OwnB w' w.heap.size v (mask64 l m) ∧ Below w.heap.size w w' := by
  have hmk := make64
  have hsz5 : (Try.prog.info? 5).map (·.size) = some 1 := by kernel_rfl
  have hml := m.toNat_lt
  obtain ⟨n, hn⟩ : ∃ n, l.length = n := ⟨_, rfl⟩
  rw [hn] at hl ⊢
  have H := Lib.hid h; have HN := Lib.hid hn
  clear h hn
  by_cases hb : 64 < n
  · obtain ⟨S, hS⟩ : ∃ S, Sha.sum l = S := ⟨_, rfl⟩
    have hn64 : S.length ≤ 64 := by rw [← hS, Sha.sum_length]; omega
    have hkey : keyOf l = S := by unfold keyOf; rw [if_pos (by rw [HN.out]; exact hb), hS]
    have hds := digest_sum_any a c l w H.out (by rw [HN.out]; exact hl)
    rw [HN.out, hS] at hds
    have HDS := Lib.hid hds; have HK := Lib.hid hkey
    clear hkey hS hds
    go_enter Try.func38, Try.ntmps38
    go_wp2_with fail
    refine HDS.out.mono ?_
    rintro e W1 ⟨v1, rfl, ho1, hb1⟩
    obtain ⟨a1, c1, rfl, hc1, hr1⟩ := ho1.reads
    have HR1 := Lib.hid hr1; have HB1 := Lib.hid hb1
    clear hr1 hb1 ho1 HDS
    have hcs : (u8s S).length = Nat.min S.length 64 := by
      rw [u8s, List.length_map]
      exact (Nat.min_eq_left hn64).symm
    have hsrc : 0 < (u8s S).length → ∃ ad, a1 = some ad ∧ ∀ j v, (u8s S)[j]? = some v → (W1.alloc (.cells zero8 5)).cell? (ad.add j) = some v := fun hp => by
      obtain ⟨b, off, rfl, hlt, hc⟩ := (HR1.out.below (below_alloc (Below.refl _ _) (.cells zero8 5))).bytesAt (by simpa [u8s] using hp)
      refine ⟨_, rfl, fun j v hv => ?_⟩
      have hj : j < S.length := by have := (List.getElem?_eq_some_iff.1 hv).1; simpa [u8s] using this
      rw [Addr.add_mid, hc j hj, ← hv]
      simp [u8s, List.getElem?_eq_getElem hj]
    have hz1 : (W1.alloc (.cells zero8 5)).heap[W1.heap.size]? = some (.cells zeroL.toArray 5 (0, 0)) := heap_alloc_new W1 _
    have hfit : 0 + (u8s S).length ≤ zeroL.length := by rw [hcs, zeroL_length, Nat.zero_add]; exact Nat.min_le_right _ _
    have HZ1 := Lib.hid hz1; have HFIT := Lib.hid hfit
    clear hz1 hfit
    have HCS := Lib.hid hcs; have HSRC := Lib.hid hsrc
    clear hcs hsrc
    go_wp2_with (with_reducible refine wpList_copy_splice rfl (.tmp 13) (.tmp 14) 22 22 rfl 5 Try.underlying22 hsz5 (some ⟨W1.heap.size, 0, none⟩) a1 64 64 S.length c1 rfl rfl W1.heap.size 0 zeroL 5 HZ1.out (u8s S) HCS.out (fun hp => ⟨rfl, HSRC.out hp⟩) HFIT.out ?k3 w.heap.size w ?k4 (HB1.out.size) ?_)
    case k3 =>
      intro v hv
      obtain ⟨x, _, rfl⟩ := List.mem_map.1 hv
      rfl
    case k4 => exact HB1.out.alloc HB1.out.size _
    intro w2 hheap hb2
    have hheap := hheap.out
    rw [pad_splice] at hheap
    have hpl : (padOf S).length = 64 := padOf_length S hn64
    have hown : OwnB w2 w.heap.size (.slice (some ⟨W1.heap.size, 0, none⟩) 64 64) (padOf S) := by
      have := own_of_heap HB1.out.size hheap (by rw [hpl]; omega)
      rwa [hpl] at this
    have HOW := Lib.hid hown; have HB2 := Lib.hid hb2; have HPL := Lib.hid hpl
    clear hown hb2 hheap hpl
    go_wp2_with fail
    go_loopw [18] (fun i wr => ∃ j : Nat, j ≤ 64 ∧ i = .int .i64 j ∧ OwnB wr w.heap.size (.slice (some ⟨W1.heap.size, 0, none⟩) 64 64) (turnedTo (padOf S) m j) ∧ Below w.heap.size w wr) (fun i _ => 64 - (intOf i).toNat)
    case atStart => exact ⟨0, by omega, rfl, HOW.out, HB2.out⟩
    case round =>
      obtain ⟨j, hj, rfl, hs1, hb4⟩ := hrel
      have HS1 := Lib.hid hs1; have HB4 := Lib.hid hb4
      clear hs1 hb4
      by_cases hlt : j < 64
      · obtain ⟨x, hx⟩ : ∃ x, (turnedTo (padOf S) m j).getD j 0 = x := ⟨_, rfl⟩
        have hcf := HS1.out.cellAt j (by rw [turnedTo_length, HPL.out]; exact hlt)
        rw [hx] at hcf
        obtain ⟨hc, hf⟩ := hcf
        have hxr := xor8 x m
        have hsu := turnedTo_succ (padOf S) m j (by rw [HPL.out]; exact hlt)
        rw [hx] at hsu
        have HSU := Lib.hid hsu
        clear hx hsu
        go_wp2_with fail
        go_roundw
        case rel =>
          refine ⟨j + 1, by omega, by go_num, ?_, HB4.out.setCell (p := ⟨W1.heap.size, j, none⟩) HB1.out.size _⟩
          rw [← HSU.out]
          exact HS1.out.put j (x ^^^ m)
        case measure => simp [intOf]; omega
      · obtain rfl : j = 64 := by omega
        go_wp2_with fail
        go_ret
        have hfin : turnedTo (padOf S) m 64 = mask64 l m := by
          unfold turnedTo mask64
          rw [HK.out, List.take_of_length_le (by rw [HPL.out]; omega), List.drop_of_length_le (by rw [HPL.out]; omega), List.append_nil]
        exact ⟨_, rfl, by rw [← hfin]; exact HS1.out, HB4.out⟩
  · have hkey : keyOf l = l := by unfold keyOf; rw [if_neg (by rw [HN.out]; exact hb)]
    have HK := Lib.hid hkey
    clear hkey
    have hn64 : n ≤ 64 := by omega
    go_enter Try.func38, Try.ntmps38
    have hcs : (u8s l).length = Nat.min n 64 := by
      rw [u8s, List.length_map, HN.out]
      exact (Nat.min_eq_left hn64).symm
    have hsrc : 0 < (u8s l).length → ∃ ad, a = some ad ∧ ∀ j v, (u8s l)[j]? = some v → (w.alloc (.cells zero8 5)).cell? (ad.add j) = some v := fun hp => by
      obtain ⟨b, off, rfl, hlt, hc⟩ := (H.out.below (below_alloc (Below.refl _ _) (.cells zero8 5))).bytesAt (by simpa [u8s] using hp)
      refine ⟨_, rfl, fun j v hv => ?_⟩
      have hj : j < l.length := by have := (List.getElem?_eq_some_iff.1 hv).1; simpa [u8s] using this
      rw [Addr.add_mid, hc j hj, ← hv]
      simp [u8s, List.getElem?_eq_getElem hj]
    have hz1 : (w.alloc (.cells zero8 5)).heap[w.heap.size]? = some (.cells zeroL.toArray 5 (0, 0)) := heap_alloc_new w _
    have hfit : 0 + (u8s l).length ≤ zeroL.length := by rw [hcs, zeroL_length, Nat.zero_add]; exact Nat.min_le_right _ _
    have HZ1 := Lib.hid hz1; have HFIT := Lib.hid hfit
    clear hz1 hfit
    have HCS := Lib.hid hcs; have HSRC := Lib.hid hsrc
    clear hcs hsrc
    go_wp2_with (with_reducible refine wpList_copy_splice rfl (.tmp 13) (.tmp 14) 22 22 rfl 5 Try.underlying22 hsz5 (some ⟨w.heap.size, 0, none⟩) a 64 64 n c rfl rfl w.heap.size 0 zeroL 5 HZ1.out (u8s l) HCS.out (fun hp => ⟨rfl, HSRC.out hp⟩) HFIT.out ?k3 w.heap.size w ?k4 (Nat.le_refl _) ?_)
    case k3 =>
      intro v hv
      obtain ⟨x, _, rfl⟩ := List.mem_map.1 hv
      rfl
    case k4 => exact below_alloc (Below.refl _ _) _
    intro w2 hheap hb2
    have hheap := hheap.out
    rw [pad_splice] at hheap
    have hpl : (padOf l).length = 64 := padOf_length l (by rw [HN.out]; exact hn64)
    have hown : OwnB w2 w.heap.size (.slice (some ⟨w.heap.size, 0, none⟩) 64 64) (padOf l) := by
      have := own_of_heap (Nat.le_refl w.heap.size) hheap (by rw [hpl]; omega)
      rwa [hpl] at this
    have HOW := Lib.hid hown; have HB2 := Lib.hid hb2; have HPL := Lib.hid hpl
    clear hown hb2 hheap hpl
    go_wp2_with fail
    go_loopw [18] (fun i wr => ∃ j : Nat, j ≤ 64 ∧ i = .int .i64 j ∧ OwnB wr w.heap.size (.slice (some ⟨w.heap.size, 0, none⟩) 64 64) (turnedTo (padOf l) m j) ∧ Below w.heap.size w wr) (fun i _ => 64 - (intOf i).toNat)
    case atStart => exact ⟨0, by omega, rfl, HOW.out, HB2.out⟩
    case round =>
      obtain ⟨j, hj, rfl, hs1, hb4⟩ := hrel
      have HS1 := Lib.hid hs1; have HB4 := Lib.hid hb4
      clear hs1 hb4
      by_cases hlt : j < 64
      · obtain ⟨x, hx⟩ : ∃ x, (turnedTo (padOf l) m j).getD j 0 = x := ⟨_, rfl⟩
        have hcf := HS1.out.cellAt j (by rw [turnedTo_length, HPL.out]; exact hlt)
        rw [hx] at hcf
        obtain ⟨hc, hf⟩ := hcf
        have hxr := xor8 x m
        have hsu := turnedTo_succ (padOf l) m j (by rw [HPL.out]; exact hlt)
        rw [hx] at hsu
        have HSU := Lib.hid hsu
        clear hx hsu
        go_wp2_with fail
        go_roundw
        case rel =>
          refine ⟨j + 1, by omega, by go_num, ?_, HB4.out.setCell (p := ⟨w.heap.size, j, none⟩) (Nat.le_refl _) _⟩
          rw [← HSU.out]
          exact HS1.out.put j (x ^^^ m)
        case measure => simp [intOf]; omega
      · obtain rfl : j = 64 := by omega
        go_wp2_with fail
        go_ret
        have hfin : turnedTo (padOf l) m 64 = mask64 l m := by
          unfold turnedTo mask64
          rw [HK.out, List.take_of_length_le (by rw [HPL.out]; omega), List.drop_of_length_le (by rw [HPL.out]; omega), List.append_nil]
        exact ⟨_, rfl, by rw [← hfin]; exact HS1.out, HB4.out⟩
theorem Rd.blk {w : World} {a : Option Addr} {l : List UInt8} (h : Rd w a l) : ∀ ad, a = some ad → 0 < l.length → ad.block < w.heap.size := fun ad e hp => by
  obtain ⟨b, off, e2, hlt, _⟩ := h.bytesAt hp
  rw [e] at e2; cases e2; exact hlt
theorem below_grown {w W W' : World} {p : Nat} (h : Below w.heap.size w W) (hg : W.grownBy W' (some p)) (hp : w.heap.size ≤ p) : Below w.heap.size w W' :=
  ⟨hg.os.trans h.os, hg.tape.trans h.tape, hg.output.trans h.output, Nat.le_trans h.size hg.size, fun k hk => (hg.block k (Nat.lt_of_lt_of_le hk h.size) (by simp; omega)).trans (h.block k hk)⟩
theorem below_trans {w W W' : World} (h : Below w.heap.size w W) (h2 : Below W.heap.size W W') : Below w.heap.size w W' := h.trans (h2.mono h.size)
theorem Holds.below {W W' : World} {p : Nat} {d : List UInt8} (h : Holds W p d) (hb : Below W.heap.size W W') : Holds W' p d := by
  obtain ⟨al, cl, h1, h2, h3⟩ := h
  exact ⟨al, cl, h1.below hb, h2.below hb, fun a e => ⟨(h3 a e).1, Nat.lt_of_lt_of_le (h3 a e).2 hb.size⟩⟩
set_option maxRecDepth 100000 in
set_option maxHeartbeats 1000000 in
theorem layer_any (a : Option Addr) (c : Nat) (l : List UInt8) (m : UInt8) (a2 : Option Addr) (c2 : Nat) (msg : List UInt8) (w : World) (h : Rd w a l) (hl : l.length ≤ 1099511000000) (h2 : Rd w a2 msg) (hm : msg.length ≤ 1000000000000) :
    Calls Try.prog 26 #[.slice a l.length c, .int .u8 m.toNat, .slice a2 msg.length c2] w fun e w' => ∃ v, e = .returned v ∧ OwnB w' w.heap.size v (layerOf l m msg) ∧ Below w.heap.size w w' := by
  obtain ⟨n, hn⟩ : ∃ n, l.length = n := ⟨_, rfl⟩
  obtain ⟨n2, hn2⟩ : ∃ n, msg.length = n := ⟨_, rfl⟩
  rw [hn] at hl ⊢
  rw [hn2] at hm ⊢
  have H := Lib.hid h; have HN := Lib.hid hn; have H2 := Lib.hid h2; have HN2 := Lib.hid hn2
  clear h hn h2 hn2
  go_enter Try.func26, Try.ntmps26
  go_wp2_with fail
  refine (new_any w).mono ?_
  rintro e w1 ⟨p, rfl, hh, hp, hb1⟩
  have HH := Lib.hid hh; have HB1 := Lib.hid hb1
  have hpl := hh.lt
  clear hh hb1
  go_wp2_with fail
  have hmk := masked_any a c l m w1 (H.out.below HB1.out) (by rw [HN.out]; exact hl)
  rw [HN.out] at hmk
  have HMK := Lib.hid hmk
  clear hmk
  refine HMK.out.mono ?_
  rintro e w2 ⟨v2, rfl, ho2, hb2⟩
  have hl64 : (mask64 l m).length = 64 := mask64_length l m
  obtain ⟨av, cv, rfl, hcv, hrv⟩ := ho2.reads
  rw [hl64] at ho2 hcv ⊢
  have hwr := write_any p [] (mask64 l m) av cv w2 (HH.out.below hb2) hrv (fun ad e _ => by have := (ho2.form.2.2 ad e).1; omega) (by rw [hl64]; simp)
  rw [hl64, List.nil_append] at hwr
  have HWR := Lib.hid hwr; have HB2 := Lib.hid (below_trans HB1.out hb2); have HL64 := Lib.hid hl64
  clear hwr hb2 hl64 ho2 hcv hrv HMK
  go_wp2_with fail
  refine HWR.out.mono ?_
  rintro e w3 ⟨rfl, hh3, hg3⟩
  have hb3 := below_grown HB2.out hg3 hp
  have hwr := write_any p (mask64 l m) msg a2 c2 w3 hh3 (H2.out.below hb3) (fun ad e hz => by have := H2.out.blk ad e hz; omega) (by rw [HL64.out, HN2.out]; omega)
  rw [HN2.out] at hwr
  have HWR2 := Lib.hid hwr; have HB3 := Lib.hid hb3
  clear hwr hb3 hh3 hg3 HWR
  go_wp2_with fail
  refine HWR2.out.mono ?_
  rintro e w4 ⟨rfl, hh4, hg4⟩
  have HH4 := Lib.hid hh4; have HB4 := Lib.hid (below_grown HB3.out hg4 hp)
  clear hh4 hg4 HWR2
  go_wp2_with fail
  refine (hsum_any p (mask64 l m ++ msg) w4 HH4.out (by rw [List.length_append, HL64.out, HN2.out]; omega)).mono ?_
  rintro e w5 ⟨v5, rfl, ho5, hb5⟩
  obtain ⟨a5, c5, rfl, _, _⟩ := ho5.reads
  go_wp2_with fail
  go_ret
  exact ⟨_, rfl, ho5.lower HB4.out.size, below_trans HB4.out hb5⟩
/-- Are they bytes, and not too many for a message? -/
def bytesMsg (l : List Int) : Bool := decide (intsB (bytesI l) = l) && decide (l.length ≤ 1000000000000)
def Ext.seal_layer.f (l0 : List Int) (a1 : Int) (l2 : List Int) : Option (List Int) :=
  if bytesMsg l0 = true ∧ (0 ≤ a1 ∧ a1 < 256) ∧ bytesMsg l2 = true then some (intsB (layerOf (bytesI l0) (UInt8.ofNat a1.toNat) (bytesI l2))) else none
theorem bytesMsg_intsB (l : List UInt8) (h : l.length ≤ 1000000000000) : bytesMsg (intsB l) = true := by
  unfold bytesMsg
  rw [bytesI_intsB, intsB_length]
  simp [h]
theorem bytesMsg_rd {l : List Int} (h : bytesMsg l = true) : intsB (bytesI l) = l ∧ (bytesI l).length = l.length ∧ l.length ≤ 1000000000000 := by
  unfold bytesMsg at h
  simp only [Bool.and_eq_true, decide_eq_true_eq] at h
  exact ⟨h.1, by simp [bytesI], h.2⟩
theorem Ext.seal_layer.f_eq (key : List UInt8) (m : UInt8) (msg : List UInt8) (h : key.length ≤ 1000000000000) (h2 : msg.length ≤ 1000000000000) : Ext.seal_layer.f (intsB key) (m.toNat : Int) (intsB msg) = some (intsB (layerOf key m msg)) := by
  have := m.toNat_lt
  unfold Ext.seal_layer.f
  rw [if_pos ⟨bytesMsg_intsB key h, by omega, bytesMsg_intsB msg h2⟩, bytesI_intsB, bytesI_intsB, Int.toNat_natCast, UInt8.ofNat_toNat]
theorem Ext.seal_layer.calls (A0 : Option Addr) (c0 : Nat) (l0 : List Int) (a1 : Int) (A2 : Option Addr) (c2 : Nat) (l2 : List Int) (r : List Int) (w : World) (hr0 : Kd.C (Kd.int .u8) w A0 l0.length l0) (_hc0 : l0.length ≤ c0) (hr2 : Kd.C (Kd.int .u8) w A2 l2.length l2) (_hc2 : l2.length ≤ c2) (h : Ext.seal_layer.f l0 a1 l2 = some r) :
    Calls Try.prog 26 #[.slice A0 l0.length c0, .int .u8 a1, .slice A2 l2.length c2] w fun e w' => ∃ v0_ : Value, e = .returned (v0_) ∧ Kd.R (Kd.int .u8) 5 w' w.heap.size (fun _ => True) v0_ r ∧ Below w.heap.size w w' := by
  unfold Ext.seal_layer.f at h
  split at h
  · rename_i hok
    obtain ⟨h0, h1, h2⟩ := hok
    cases h
    obtain ⟨e0, n0, b0⟩ := bytesMsg_rd h0
    obtain ⟨e2, n2, b2⟩ := bytesMsg_rd h2
    have hm : (((UInt8.ofNat a1.toNat).toNat : Nat) : Int) = a1 := by rw [UInt8.toNat_ofNat']; omega
    have := layer_any A0 c0 (bytesI l0) (UInt8.ofNat a1.toNat) A2 c2 (bytesI l2) w (by unfold Rd; rw [n0, e0]; exact hr0) (by omega) (by unfold Rd; rw [n2, e2]; exact hr2) (by omega)
    rw [hm, n0, n2] at this
    exact this
  · cases h
end Go.Proofs.Ytnhljemnebgekaa

/-
  What the functions of these laws compute, as plain Lean functions, and that the machine's calls compute it: written by this session's own hook over the kit's print.
-/
namespace Go.Proofs.Ytnhljemnebgekaa.Ps
open Go.RowKit Go.Proofs.YtnhljemnebgekaaW.PrintWords Go.Proofs.YtnhljemnebgekaaW.PrintLast Go.Proofs.YtnhljemnebgekaaW.PrintMore
attribute [local go_sem] u32_sg u32_mx u64_sg u64_mx
attribute [local go_sem] max2_int min2_int max_two min_two max_three min_three max_four min_four   -- for this text's walks alone
set_option linter.unusedVariables false
set_option linter.unusedSimpArgs false

-- BY ITS OWN WALK: function 26 (seal_layer)

/-! ### seal_Code: function 14 -/
def seal_Code.f (l0 : List Int) (l1 : List Int) : Option (List Int) := (Ext.seal_layer.f l0 54 l1).bind fun t101 => ((Ext.seal_layer.f l0 92 t101).bind fun t104 => (some t104))
set_option maxHeartbeats 8000000 in
set_option maxRecDepth 100000 in
theorem seal_Code.calls (A0 : Option Addr) (c0 : Nat) (l0 : List Int) (A1 : Option Addr) (c1 : Nat) (l1 : List Int) (r : List Int) (w : World) (hr0 : Kd.C (Kd.int .u8) w A0 l0.length l0) (hc0 : l0.length ≤ c0) (hr1 : Kd.C (Kd.int .u8) w A1 l1.length l1) (hc1 : l1.length ≤ c1) (h : seal_Code.f l0 l1 = some r) :
    Calls Try.prog 14 #[.slice A0 l0.length c0, .slice A1 l1.length c1] w fun e w' => ∃ v0_ : Value, e = .returned (v0_) ∧ Kd.R (Kd.int .u8) 5 w' w.heap.size (fun _ => True) v0_ r ∧ Below w.heap.size w w' := by
  have HR0 := Aside0.mk hr0
  have HC0 := Aside0.mk hc0
  clear hr0 hc0
  have HR1 := Aside0.mk hr1
  have HC1 := Aside0.mk hc1
  clear hr1 hc1
  have HB := Aside0.mk (Below.refl w.heap.size w)
  have H : ((Ext.seal_layer.f l0 54 l1).bind fun t101 => ((Ext.seal_layer.f l0 92 t101).bind fun t104 => (some t104))) = some r := h
  clear h
  replace H := Option.bind_eq_some_iff.mp H
  obtain ⟨t101, A30, H⟩ := H
  replace H : ((Ext.seal_layer.f l0 92 t101).bind fun t104 => (some t104)) = some r := H
  have A3 := Aside0.mk A30
  clear A30
  replace H := Option.bind_eq_some_iff.mp H
  obtain ⟨t104, A40, H⟩ := H
  replace H : (some t104) = some r := H
  have A4 := Aside0.mk A40
  clear A40
  obtain rfl := Option.some.inj H
  go_enter Try.func14, Try.ntmps14
  go_wp2_with (first | ((with_reducible refine gate_callee (f := 26) rfl ?_); refine goesL_ (some 8) rfl rfl Try.func26 (by kernel_rfl) rfl #[.slice A0 l0.length c0, .int .u8 54, .slice A1 l1.length c1] rfl (by (try simp only [List.map_toArray, List.map_cons, List.map_nil]); first | done | rfl | (simp only [List.length_drop, List.length_take]; rfl)) ?_; (with_reducible refine (Ext.seal_layer.calls _ _ l0 54 _ _ l1 t101 _ ?side1 ?side2 ?side3 ?side4 A3.out).mono ?_); (case side1 => repeat (first | exact HR0.out | (with_reducible refine Kd.C_alloc ?_ _) | (with_reducible refine Kd.C_drewN ?_ _) | (with_reducible refine Kd.C_drew ?_))); (case side2 => exact HC0.out); (case side3 => repeat (first | exact HR1.out | (with_reducible refine Kd.C_alloc ?_ _) | (with_reducible refine Kd.C_drewN ?_ _) | (with_reducible refine Kd.C_drew ?_))); (case side4 => exact HC1.out); rintro e w5 ⟨v102, rfl, ho0, hb⟩; refine ⟨_, rfl, ?_⟩; have n0_ := Aside0.mk (Kd.R_lower ho0 (below_size (by repeat (first | (with_reducible first | exact HB.out | apply below_alloc | apply pw_below_drewN | apply below_drew1) | exact HB.out)))); have n1_ := Aside0.mk (below_step (by repeat (first | (with_reducible first | exact HB.out | apply below_alloc | apply pw_below_drewN | apply below_drew1) | exact HB.out)) hb); clear HB; have HO103 := n0_; have HB := n1_; clear n0_ n1_; (try clear hb); (try clear hb2); (try clear hk); (try clear hi); (try clear ho0); obtain ⟨Ao6, co6, eo6⟩ := Kd.R_slice HO103.out; subst eo6) | ((with_reducible refine gate_callee (f := 26) rfl ?_); refine goesL_ (some 9) rfl rfl Try.func26 (by kernel_rfl) rfl #[.slice A0 l0.length c0, .int .u8 92, .slice Ao6 t101.length co6] rfl (by (try simp only [List.map_toArray, List.map_cons, List.map_nil]); first | done | rfl | (simp only [List.length_drop, List.length_take]; rfl)) ?_; (with_reducible refine (Ext.seal_layer.calls _ _ l0 92 _ _ t101 t104 _ ?side1 ?side2 ?side3 ?side4 A4.out).mono ?_); (case side1 => repeat (first | exact (Kd.C_below HR0.out HB.out) | (with_reducible refine Kd.C_alloc ?_ _) | (with_reducible refine Kd.C_drewN ?_ _) | (with_reducible refine Kd.C_drew ?_))); (case side2 => exact HC0.out); (case side3 => repeat (first | exact (Kd.R_reads' HO103.out).2.2 | (with_reducible refine Kd.C_alloc ?_ _) | (with_reducible refine Kd.C_drewN ?_ _) | (with_reducible refine Kd.C_drew ?_))); (case side4 => exact (Kd.R_reads' HO103.out).2.1); rintro e w7 ⟨v105, rfl, ho0, hb⟩; refine ⟨_, rfl, ?_⟩; have n0_ := Aside0.mk (Kd.R_elder' (by (with_reducible repeat (first | apply Kd.R_alloc | apply Kd.R_drewN | apply Kd.R_drew)); exact HO103.out) (Kd.R_base ho0) hb); have n1_ := Aside0.mk (Kd.R_lower (Kd.R_new' ho0 (Kd.R_lt (by (with_reducible repeat (first | apply Kd.R_alloc | apply Kd.R_drewN | apply Kd.R_drew)); exact HO103.out))) (below_size (by repeat (first | (with_reducible first | exact HB.out | apply below_alloc | apply pw_below_drewN | apply below_drew1) | exact HB.out)))); have n2_ := Aside0.mk (below_step (by repeat (first | (with_reducible first | exact HB.out | apply below_alloc | apply pw_below_drewN | apply below_drew1) | exact HB.out)) hb); clear HO103; clear HB; have HO103 := n0_; have HO106 := n1_; have HB := n2_; clear n0_ n1_ n2_; (try clear hb); (try clear hb2); (try clear hk); (try clear hi); (try clear ho0)))
  go_ret
  exact ⟨_, by first | rfl | (simp [errW_none, errW_some] <;> rfl) | (simp [*, errW_none, errW_some] <;> rfl), by (with_reducible repeat (first | apply Kd.R_alloc | apply Kd.R_drewN | apply Kd.R_drew)); exact Kd.R_mono HO106.out (fun _ hk => trivial), by repeat (first | (with_reducible first | exact HB.out | apply below_alloc | apply pw_below_drewN | apply below_drew1) | exact HB.out)⟩

/-! ### seal_Equal: function 15 -/
def seal_Equal.l0 : Nat → List Int → List Int → Int → Int → Int → Option (Bool)
  | 0, _, _, _, _, _ => none
  | k + 1, x0, x1, x5, x13, x14 => if x14 < x13 then (if 0 ≤ x14 then (if x14 < (x0.length : Int) then (if x14 < (x1.length : Int) then (seal_Equal.l0 k x0 x1 (Go.bits .or .u8 x5 (Go.bits .xor .u8 (rd x0 x14) (rd x1 x14))) x13 (wrap64 (x14 + 1))) else (none)) else (none)) else (none)) else (some (x5 == 0))
def seal_Equal.f (k : Nat) (l0 : List Int) (l1 : List Int) : Option (Bool) := if (l0.length : Int) = (l1.length : Int) then (seal_Equal.l0 k l0 l1 0 (l0.length : Int) 0) else (some false)
theorem seal_Equal.mono_l : ∀ k, (∀ y0 y1 y2 y3 y4, LeO (seal_Equal.l0 k y0 y1 y2 y3 y4) (seal_Equal.l0 (k + 1) y0 y1 y2 y3 y4))
  | 0 => fun _ _ _ _ _ r h => by simp [seal_Equal.l0] at h
  | k + 1 => by
    have ih0 := seal_Equal.mono_l k
    · intro y0 y1 y2 y3 y4
      unfold seal_Equal.l0
      repeat' first
      | (with_reducible exact ih0 _ _ _ _ _)
      | (with_reducible exact LeO.refl _)
      | (with_reducible exact LeO.none _)
      | (with_reducible refine LeO.ite ?_ ?_)
      | (with_reducible refine LeO.bind ?_ (fun _ => ?_))
      | exact ih0 _ _ _ _ _
      | exact LeO.none _
      | refine LeO.ite ?_ ?_
      | refine LeO.bind ?_ (fun _ => ?_)
theorem seal_Equal.mono : ∀ a0 a1 k, LeO (seal_Equal.f k a0 a1) (seal_Equal.f (k + 1) a0 a1) := by
  intro a0 a1 k
  have ih0 := seal_Equal.mono_l k
  unfold seal_Equal.f
  repeat' first
      | (with_reducible exact ih0 _ _ _ _ _)
      | (with_reducible exact LeO.refl _)
      | (with_reducible exact LeO.none _)
      | (with_reducible refine LeO.ite ?_ ?_)
      | (with_reducible refine LeO.bind ?_ (fun _ => ?_))
      | exact ih0 _ _ _ _ _
      | exact LeO.none _
      | refine LeO.ite ?_ ?_
      | refine LeO.bind ?_ (fun _ => ?_)
set_option maxHeartbeats 8000000 in
set_option maxRecDepth 100000 in
theorem seal_Equal.calls (k : Nat) (A0 : Option Addr) (c0 : Nat) (l0 : List Int) (A1 : Option Addr) (c1 : Nat) (l1 : List Int) (r : Bool) (w : World) (hr0 : Kd.C (Kd.int .u8) w A0 l0.length l0) (hc0 : l0.length ≤ c0) (hr1 : Kd.C (Kd.int .u8) w A1 l1.length l1) (hc1 : l1.length ≤ c1) (h : seal_Equal.f k l0 l1 = some r) :
    Calls Try.prog 15 #[.slice A0 l0.length c0, .slice A1 l1.length c1] w fun e w' => e = .returned (.bool r) ∧ Drawn0 w w' := by
  have HR0 := Aside0.mk hr0
  have HC0 := Aside0.mk hc0
  clear hr0 hc0
  have HR1 := Aside0.mk hr1
  have HC1 := Aside0.mk hc1
  clear hr1 hc1
  have H : (if (l0.length : Int) = (l1.length : Int) then (seal_Equal.l0 k l0 l1 0 (l0.length : Int) 0) else (some false)) = some r := h
  clear h
  by_cases c3 : (l0.length : Int) = (l1.length : Int)
  · rw [if_pos c3] at H
    have c3b0 : ((l0.length : Int) == (l1.length : Int)) = true := beq_iff_eq.mpr c3
    have c3b1 : ((l0.length : Int) != (l1.length : Int)) = false := bne_eq_false_iff_eq.mpr c3
    have c3b2 : (l0.length == l1.length) = true := by first | simpa using c3 | (simp at c3 ⊢; omega)
    clear c3
    have H' := Aside0.mk H
    clear H
    go_enter Try.func15, Try.ntmps15
    go_wp2
    repeat (go_quiet (fail); try go_wp2)
    go_loopg [5, 14] k (fun kq v5 v14 w' => ∃ (x5_1 : Int) (x14_1 : Int), v5 = .int .u8 x5_1 ∧ v14 = .int .i64 x14_1 ∧ Aside0 (seal_Equal.l0 kq l0 l1 x5_1 (l0.length : Int) x14_1 = some r) ∧ Aside0 (kq ≤ k) ∧ Drawn0 w w')
    case atStart => exact ⟨(0), (0), (by first | rfl | (simp; done) | (simp [*]; done)), (by first | rfl | (simp; done) | (simp [*]; done)), H', ⟨Nat.le_refl _⟩, by repeat (first | exact Drawn0.refl _ | apply Drawn0.step)⟩
    case round =>
      clear H'
      try clear c1
      try clear p2
      try clear c3
      try clear c3b0
      try clear c3b1
      try clear c3b2
      obtain ⟨x5_1, x14_1, rfl, rfl, HA, HK1, ⟨m1, rfl⟩⟩ := hrel
      cases gk with
      | zero => exact absurd HA.out (by simp [seal_Equal.l0])
      | succ k1 =>
        have H := HA.out
        clear HA
        simp only [seal_Equal.l0] at H
        by_cases c4 : x14_1 < (l0.length : Int)
        · rw [if_pos c4] at H
          have c4b0 : decide (x14_1 < (l0.length : Int)) = true := decide_eq_true c4
          clear c4
          by_cases c5 : 0 ≤ x14_1
          · rw [if_pos c5] at H
            have c5b0 : decide (0 ≤ x14_1) = true := decide_eq_true c5
            clear c5
            by_cases c6 : x14_1 < (l0.length : Int)
            · rw [if_pos c6] at H
              have c6b0 : decide (x14_1 < (l0.length : Int)) = true := decide_eq_true c6
              clear c6
              by_cases c7 : x14_1 < (l1.length : Int)
              · rw [if_pos c7] at H
                have c7b0 : decide (x14_1 < (l1.length : Int)) = true := decide_eq_true c7
                clear c7
                have H' := Aside0.mk H
                clear H
                have p107 : 0 ≤ (x14_1 : Int) := of_decide_eq_true (by first | (with_reducible assumption) | assumption)
                have q107 : x14_1 < (l0.length : Int) := of_decide_eq_true (by first | (with_reducible assumption) | assumption)
                obtain ⟨ad107, e107, hx107_0⟩ := Kd.at_int HR0.out x14_1 p107 q107
                cases e107
                replace p107 := eq_true p107
                replace q107 := eq_true q107
                have p108 : 0 ≤ (x14_1 : Int) := of_decide_eq_true (by first | (with_reducible assumption) | assumption)
                have q108 : x14_1 < (l1.length : Int) := of_decide_eq_true (by first | (with_reducible assumption) | assumption)
                obtain ⟨ad108, e108, hx108_0⟩ := Kd.at_int HR1.out x14_1 p108 q108
                cases e108
                replace p108 := eq_true p108
                replace q108 := eq_true q108
                go_wp2
                repeat (go_quiet (fail); try go_wp2)
                go_roundg k1
                case measure => have := HK1.out; omega
                case rel => exact ⟨(Go.bits .or .u8 x5_1 (Go.bits .xor .u8 (rd l0 x14_1) (rd l1 x14_1))), (wrap64 (x14_1 + 1)), (by first | rfl | (simp; done) | (simp [*]; done)), (by first | rfl | (simp; done) | (simp [*]; done)), H', ⟨by have := HK1.out; omega⟩, by repeat (first | exact Drawn0.refl _ | apply Drawn0.step)⟩
              · rw [if_neg c7] at H
                exact absurd H (by simp)
            · rw [if_neg c6] at H
              exact absurd H (by simp)
          · rw [if_neg c5] at H
            exact absurd H (by simp)
        · rw [if_neg c4] at H
          have c4b0 : decide (x14_1 < (l0.length : Int)) = false := decide_eq_false c4
          clear c4
          obtain rfl := Option.some.inj H
          go_wp2
          repeat (go_quiet (fail); try go_wp2)
          go_ret
          exact ⟨by first | rfl | (simp; done) | (simp [*]; done), by repeat (first | exact Drawn0.refl _ | apply Drawn0.step)⟩
  · rw [if_neg c3] at H
    have c3b0 : ((l0.length : Int) == (l1.length : Int)) = false := beq_eq_false_iff_ne.mpr c3
    have c3b1 : ((l0.length : Int) != (l1.length : Int)) = true := bne_iff_ne.mpr c3
    have c3b2 : (l0.length == l1.length) = false := by first | simpa using c3 | (simp at c3 ⊢; omega)
    obtain rfl := Option.some.inj H
    go_enter Try.func15, Try.ntmps15
    go_wp2
    repeat (go_quiet (fail); try go_wp2)
    go_ret
    exact ⟨by first | rfl | (simp; done) | (simp [*]; done), by repeat (first | exact Drawn0.refl _ | apply Drawn0.step)⟩

-- BY ITS OWN WALK: function 16 (seal_Text)

-- BY ITS OWN WALK: function 18 (seal_ID)

-- BY ITS OWN WALK: function 22 (seal_Bytes)

end Go.Proofs.Ytnhljemnebgekaa.Ps

/-
  DERIVED: THE SHELF's CONTRACTS AT THIS DUMP, IN PLAIN WORDS (tools/lay-plain.mjs out of 'TryShelf.lean', which tools/lay-shelf.mjs wrote): THE SAME DECLARATIONS UNDER THE SAME NAMES: 'import', 'namespace', 'open', 'def', 'theorem' AND NOTHING ELSE: no command of the shelf's: FOR A HAND-IN. Each laying: the table of numbers ('.._ren') and one theorem, a field a fact of the dump's own or the kernel's comparison; each contract: ONE APPLICATION.
-/
namespace Go.Proofs
open Go.Shelf
def Try.lays169_ren : Go.Shelf.Ren := ⟨fun | 169 => 29 | n => n, fun | 70 => 40 | 9 => 9 | 0 => 0 | 72 => 42 | 37 => 22 | 127 => 62 | 3 => 3 | 5 => 5 | n => n, fun | n => n⟩
theorem Try.lays169 : Go.Proofs.Lays.n169 Try.prog Try.lays169_ren := {
  mixed := by kernel_rfl
  f169 := Try.func29.trans (congrArg some (by kernel_rfl))
  t0 := Try.underlying0
  a0 := Try.isAgg0
  z0 := Try.sizeOf0
  v0 := Try.zeroValue0
  t3 := Try.underlying3
  a3 := Try.isAgg3
  z3 := Try.sizeOf3
  v3 := Try.zeroValue3
  t9 := Try.underlying9
  a9 := Try.isAgg9
  z9 := Try.sizeOf9
  v9 := Try.zeroValue9
  t37 := Try.underlying22
  a37 := Try.isAgg22
  z37 := Try.sizeOf22
  v37 := Try.zeroValue22
  t70 := Try.underlying40
  a70 := Try.isAgg40
  z70 := Try.sizeOf40
  v70 := Try.zeroValue40
  t72 := Try.underlying42
  a72 := Try.isAgg42
  z72 := Try.sizeOf42
  v72 := Try.zeroValue42
  t127 := Try.underlying62
  a127 := Try.isAgg62
  z127 := Try.sizeOf62
  v127 := Try.zeroValue62 }
theorem Try.Builder_Extra_169 : Builder.Extra Try.prog Try.lays169_ren := {
  sizeBuilder := by kernel_rfl
  liesBuilder := by kernel_rfl
  t5 := Try.underlying5
  a5 := Try.isAgg5
  z5 := Try.sizeOf5
  v5 := Try.zeroValue5
  infoByte := by kernel_rfl
  cellsByte := by kernel_rfl
  sizeByte := by kernel_rfl
  neB5 := by decide }
open Go.RowKit in
/-- (*strings.Builder).String: "String returns the accumulated string.": OF A BUILDER THAT HOLDS AT LEAST ONE BYTE. ✋ THE MODEL FREEZES THOSE BYTES IN THE BUFFER (unsafe.String): a later write INTO them ends the model's run without an answer; a later append BEHIND them goes on. The statement's order of evaluation is drawn: one draw. (LAID: no walk: one application.) -/
theorem Try.Builder_String (B b : Nat) (l : List UInt8) (w : World) (h : Lib.IsBuilder 42 5 B b (Lib.byteCells l) w) (h0 : l ≠ []) :
    Calls Try.prog 29 #[.pointer (some ⟨b, 0, none⟩)] w fun e w' => e = .returned (.string ⟨l.toArray⟩) ∧ Below B w w' := Any.Builder_String Try.lays169 Try.Builder_Extra_169 B b l w h h0
open Go.RowKit in
/-- (*strings.Builder).String OF A BUILDER THAT HOLDS NO BYTE: the empty string. (Its buffer is nil, or a row of which it has taken nothing yet; where that row has NO capacity the model lays one new block for unsafe.SliceData's 'some address'.) One draw. (LAID: no walk: one application.) -/
theorem Try.Builder_String_empty (B b : Nat) (w : World) (h : Lib.IsBuilder 42 5 B b [] w) (hBw : B ≤ w.heap.size) :
    Calls Try.prog 29 #[.pointer (some ⟨b, 0, none⟩)] w fun e w' => e = .returned (.string ⟨#[]⟩) ∧ Below B w w' := Any.Builder_String_empty Try.lays169 Try.Builder_Extra_169 B b w h hBw
open Go.RowKit in
/-- (*strings.Builder).String: "String returns the accumulated string.": WHATEVER THE BUILDER HOLDS. (LAID: no walk: one application.) -/
theorem Try.Builder_String_any (B b : Nat) (l : List UInt8) (w : World) (h : Lib.IsBuilder 42 5 B b (Lib.byteCells l) w) (hBw : B ≤ w.heap.size) :
    Calls Try.prog 29 #[.pointer (some ⟨b, 0, none⟩)] w fun e w' => e = .returned (.string ⟨l.toArray⟩) ∧ Below B w w' := Any.Builder_String_any Try.lays169 Try.Builder_Extra_169 B b l w h hBw
def Try.lays119_ren : Go.Shelf.Ren := ⟨fun | 119 => 45 | n => n, fun | 21 => 21 | 4 => 4 | n => n, fun | n => n⟩
theorem Try.lays119 : Go.Proofs.Lays.n119 Try.prog Try.lays119_ren := {
  mixed := by kernel_rfl
  f119 := Try.func45.trans (congrArg some (by kernel_rfl))
  t4 := Try.underlying4
  a4 := Try.isAgg4
  z4 := Try.sizeOf4
  v4 := Try.zeroValue4
  t21 := Try.underlying21
  a21 := Try.isAgg21
  z21 := Try.sizeOf21
  v21 := Try.zeroValue21 }
/-- utf8.ValidRune: "ValidRune reports whether r can be legally encoded as UTF-8. Code points that are out of range or a surrogate half are illegal.": IT RETURNS 'Lib.validRune r'; the world is as it was. (LAID: no walk: one application.) -/
theorem Try.utf8_ValidRune (r : Int) (w : World) :
    Calls Try.prog 45 #[.int .i32 r] w fun e w' => e = .returned (.bool (Lib.validRune r)) ∧ w' = w := Any.utf8_ValidRune Try.lays119 r w
def Try.lays137_ren : Go.Shelf.Ren := ⟨fun | 137 => 44 | 217 => 57 | 266 => 62 | n => n, fun | 9 => 9 | 5 => 5 | 3 => 3 | n => n, fun | n => n⟩
theorem Try.lays137 : Go.Proofs.Lays.n137 Try.prog Try.lays137_ren := {
  mixed := by kernel_rfl
  f137 := Try.func44.trans (congrArg some (by kernel_rfl))
  f217 := Try.func57.trans (congrArg some (by kernel_rfl))
  f266 := Try.func62.trans (congrArg some (by kernel_rfl))
  t3 := Try.underlying3
  a3 := Try.isAgg3
  z3 := Try.sizeOf3
  v3 := Try.zeroValue3
  t5 := Try.underlying5
  a5 := Try.isAgg5
  z5 := Try.sizeOf5
  v5 := Try.zeroValue5
  t9 := Try.underlying9
  a9 := Try.isAgg9
  z9 := Try.sizeOf9
  v9 := Try.zeroValue9 }
open Go.RowKit in
/-- strings.IndexByte: "IndexByte returns the index of the first instance of c in s, or -1 if c is not present in s.": IT RETURNS 'Lib.indexByte s c'; the world is as it was. (LAID: no walk: one application.) -/
theorem Try.strings_IndexByte (s : ByteArray) (c : Int) (w : World) :
    Calls Try.prog 44 #[.string s, .int .u8 c] w fun e w' => e = .returned (.int .i64 (Lib.indexByte s.data.toList c.toNat.toUInt8)) ∧ w' = w := Any.strings_IndexByte Try.lays137 s c w
def Try.lays210_ren : Go.Shelf.Ren := ⟨fun | 210 => 43 | 206 => 56 | n => n, fun | 9 => 9 | 4 => 4 | 3 => 3 | n => n, fun | n => n⟩
theorem Try.lays210 : Go.Proofs.Lays.n210 Try.prog Try.lays210_ren := {
  mixed := by kernel_rfl
  f206 := Try.func56.trans (congrArg some (by kernel_rfl))
  f210 := Try.func43.trans (congrArg some (by kernel_rfl))
  t3 := Try.underlying3
  a3 := Try.isAgg3
  z3 := Try.sizeOf3
  v3 := Try.zeroValue3
  t4 := Try.underlying4
  a4 := Try.isAgg4
  z4 := Try.sizeOf4
  v4 := Try.zeroValue4
  t9 := Try.underlying9
  a9 := Try.isAgg9
  z9 := Try.sizeOf9
  v9 := Try.zeroValue9 }
open Go.RowKit in
/-- internal/stringslite.CutPrefix (what strings.CutPrefix calls). (LAID: no walk: one application.) -/
theorem Try.stringslite_CutPrefix (s p : ByteArray) (w : World) :
    Calls Try.prog 43 #[.string s, .string p] w fun e w' => e = .returned (.tuple #[.string ⟨(Lib.trimPrefix s.data.toList p.data.toList).toArray⟩, .bool (Lib.hasPrefix s.data.toList p.data.toList)]) ∧ w' = w := Any.stringslite_CutPrefix Try.lays210 s p w
def Try.lays103_ren : Go.Shelf.Ren := ⟨fun | 103 => 32 | 210 => 43 | 206 => 56 | n => n, fun | 9 => 9 | 4 => 4 | 24 => 50 | 3 => 3 | n => n, fun | n => n⟩
theorem Try.lays103 : Go.Proofs.Lays.n103 Try.prog Try.lays103_ren := {
  mixed := by kernel_rfl
  f103 := Try.func32.trans (congrArg some (by kernel_rfl))
  f206 := Try.func56.trans (congrArg some (by kernel_rfl))
  f210 := Try.func43.trans (congrArg some (by kernel_rfl))
  t3 := Try.underlying3
  a3 := Try.isAgg3
  z3 := Try.sizeOf3
  v3 := Try.zeroValue3
  t4 := Try.underlying4
  a4 := Try.isAgg4
  z4 := Try.sizeOf4
  v4 := Try.zeroValue4
  t9 := Try.underlying9
  a9 := Try.isAgg9
  z9 := Try.sizeOf9
  v9 := Try.zeroValue9
  t24 := Try.underlying50
  a24 := Try.isAgg50
  z24 := Try.sizeOf50
  v24 := Try.zeroValue50 }
open Go.RowKit in
/-- strings.CutPrefix: "CutPrefix returns s without the provided leading prefix string and reports whether it found the prefix. If s doesn't start with prefix, CutPrefix returns s, false. If prefix is the empty string, CutPrefix returns s, true.": IT RETURNS '(Lib.trimPrefix s p, Lib.hasPrefix s p)'; the world is as it was. (LAID: no walk: one application.) -/
theorem Try.strings_CutPrefix (s p : ByteArray) (w : World) :
    Calls Try.prog 32 #[.string s, .string p] w fun e w' => e = .returned (.tuple #[.string ⟨(Lib.trimPrefix s.data.toList p.data.toList).toArray⟩, .bool (Lib.hasPrefix s.data.toList p.data.toList)]) ∧ w' = w := Any.strings_CutPrefix Try.lays103 s p w
open Go.RowKit in
/-- (*strings.Builder).String: "String returns the accumulated string.": OF A BUILDER THAT HOLDS AT LEAST ONE BYTE. ✋ THE MODEL FREEZES THOSE BYTES IN THE BUFFER (unsafe.String): a later write INTO them ends the model's run without an answer; a later append BEHIND them goes on. The statement's order of evaluation is drawn: one draw. THE FORM '_f': IT SAYS BESIDES THAT THE BUILDER IS A BUILDER STILL ('Lib.IsBuilderF', the same bytes): SO IT CAN BE WRITTEN ON: 'b.WriteString(b.String()[:k])'. (LAID: no walk: one application.) -/
theorem Try.Builder_String_f (B b : Nat) (l : List UInt8) (w : World) (h : Lib.IsBuilderF 42 5 B b (Lib.byteCells l) w) (h0 : l ≠ []) :
    Calls Try.prog 29 #[.pointer (some ⟨b, 0, none⟩)] w fun e w' => e = .returned (.string ⟨l.toArray⟩) ∧ (Lib.IsBuilderF 42 5 B b (Lib.byteCells l) w' ∧ Below B w w') := Any.Builder_String_f Try.lays169 Try.Builder_Extra_169 B b l w h h0
open Go.RowKit in
/-- (*strings.Builder).String OF A BUILDER THAT HOLDS NO BYTE: the empty string; THE FORM '_f': a builder still. (LAID: no walk: one application.) -/
theorem Try.Builder_String_empty_f (B b : Nat) (w : World) (h : Lib.IsBuilderF 42 5 B b [] w) (hBw : B ≤ w.heap.size) :
    Calls Try.prog 29 #[.pointer (some ⟨b, 0, none⟩)] w fun e w' => e = .returned (.string ⟨#[]⟩) ∧ (Lib.IsBuilderF 42 5 B b [] w' ∧ Below B w w') := Any.Builder_String_empty_f Try.lays169 Try.Builder_Extra_169 B b w h hBw
open Go.RowKit in
/-- (*strings.Builder).String: "String returns the accumulated string.": WHATEVER THE BUILDER HOLDS; THE FORM '_f': OF A BUILDER THAT MAY HAVE BEEN READ BEFORE; AND IT IS A BUILDER STILL, holding the same bytes: it can be written on. (LAID: no walk: one application.) -/
theorem Try.Builder_String_any_f (B b : Nat) (l : List UInt8) (w : World) (h : Lib.IsBuilderF 42 5 B b (Lib.byteCells l) w) (hBw : B ≤ w.heap.size) :
    Calls Try.prog 29 #[.pointer (some ⟨b, 0, none⟩)] w fun e w' => e = .returned (.string ⟨l.toArray⟩) ∧ (Lib.IsBuilderF 42 5 B b (Lib.byteCells l) w' ∧ Below B w w') := Any.Builder_String_any_f Try.lays169 Try.Builder_Extra_169 B b l w h hBw
open Go.RowKit in
/-- (*strings.Builder).String: "String returns the accumulated string.": OF A BUILDER THAT HOLDS AT LEAST ONE BYTE. ✋ THE MODEL FREEZES THOSE BYTES IN THE BUFFER (unsafe.String): a later write INTO them ends the model's run without an answer; a later append BEHIND them goes on. The statement's order of evaluation is drawn: one draw. THE FORM '_k': OVER 'Lib.IsBuilderF' (a builder that 'String()' may have read), AND WITH THE FRAME THAT REACHES ABOVE THE BUILDER: 'Lib.OthersKept': every block that is not b and is no row of uint8's stands as it stood: the iterator of a range among them. (LAID: no walk: one application.) -/
theorem Try.Builder_String_k (B b : Nat) (l : List UInt8) (w : World) (h : Lib.IsBuilderF 42 5 B b (Lib.byteCells l) w) (h0 : l ≠ []) :
    Calls Try.prog 29 #[.pointer (some ⟨b, 0, none⟩)] w fun e w' => e = .returned (.string ⟨l.toArray⟩) ∧ (Lib.IsBuilderF 42 5 B b (Lib.byteCells l) w' ∧ Below B w w' ∧ Lib.OthersKept 5 (some b) w w') := Any.Builder_String_k Try.lays169 Try.Builder_Extra_169 B b l w h h0
open Go.RowKit in
/-- (*strings.Builder).String OF A BUILDER THAT HOLDS NO BYTE: the empty string; THE FORM '_k': OVER 'Lib.IsBuilderF' (a builder that 'String()' may have read), AND WITH THE FRAME THAT REACHES ABOVE THE BUILDER: 'Lib.OthersKept': every block that is not b and is no row of uint8's stands as it stood: the iterator of a range among them. (LAID: no walk: one application.) -/
theorem Try.Builder_String_empty_k (B b : Nat) (w : World) (h : Lib.IsBuilderF 42 5 B b [] w) (hBw : B ≤ w.heap.size) :
    Calls Try.prog 29 #[.pointer (some ⟨b, 0, none⟩)] w fun e w' => e = .returned (.string ⟨#[]⟩) ∧ (Lib.IsBuilderF 42 5 B b [] w' ∧ Below B w w' ∧ Lib.OthersKept 5 (some b) w w') := Any.Builder_String_empty_k Try.lays169 Try.Builder_Extra_169 B b w h hBw
open Go.RowKit in
/-- (*strings.Builder).String: "String returns the accumulated string.": WHATEVER THE BUILDER HOLDS; THE FORM '_k': OVER 'Lib.IsBuilderF' (a builder that 'String()' may have read), AND WITH THE FRAME THAT REACHES ABOVE THE BUILDER: 'Lib.OthersKept': every block that is not b and is no row of uint8's stands as it stood: the iterator of a range among them. (LAID: no walk: one application.) -/
theorem Try.Builder_String_any_k (B b : Nat) (l : List UInt8) (w : World) (h : Lib.IsBuilderF 42 5 B b (Lib.byteCells l) w) (hBw : B ≤ w.heap.size) :
    Calls Try.prog 29 #[.pointer (some ⟨b, 0, none⟩)] w fun e w' => e = .returned (.string ⟨l.toArray⟩) ∧ (Lib.IsBuilderF 42 5 B b (Lib.byteCells l) w' ∧ Below B w w' ∧ Lib.OthersKept 5 (some b) w w') := Any.Builder_String_any_k Try.lays169 Try.Builder_Extra_169 B b l w h hBw
def Try.lays217_ren : Go.Shelf.Ren := ⟨fun | 217 => 57 | 266 => 62 | n => n, fun | 9 => 9 | 5 => 5 | 3 => 3 | n => n, fun | n => n⟩
theorem Try.lays217 : Go.Proofs.Lays.n217 Try.prog Try.lays217_ren := {
  mixed := by kernel_rfl
  f217 := Try.func57.trans (congrArg some (by kernel_rfl))
  f266 := Try.func62.trans (congrArg some (by kernel_rfl))
  t3 := Try.underlying3
  a3 := Try.isAgg3
  z3 := Try.sizeOf3
  v3 := Try.zeroValue3
  t5 := Try.underlying5
  a5 := Try.isAgg5
  z5 := Try.sizeOf5
  v5 := Try.zeroValue5
  t9 := Try.underlying9
  a9 := Try.isAgg9
  z9 := Try.sizeOf9
  v9 := Try.zeroValue9 }
open Go.RowKit Go.Lib in
/-- internal/stringslite.IndexByte (what strings.IndexByte calls): IT RETURNS 'Lib.indexByte s c'; the world is as it was. (LAID: no walk: one application.) -/
theorem Try.stringslite_IndexByte (s : ByteArray) (c : Int) (w : World) :
    Calls Try.prog 57 #[.string s, .int .u8 c] w fun e w' => e = .returned (.int .i64 (Lib.indexByte s.data.toList c.toNat.toUInt8)) ∧ w' = w := Any.stringslite_IndexByte Try.lays217 s c w
def Try.lays224_ren : Go.Shelf.Ren := ⟨fun | 224 => 46 | n => n, fun | 3 => 3 | n => n, fun | n => n⟩
theorem Try.lays224 : Go.Proofs.Lays.n224 Try.prog Try.lays224_ren := {
  mixed := by kernel_rfl
  f224 := Try.func46.trans (congrArg some (by kernel_rfl))
  t3 := Try.underlying3
  a3 := Try.isAgg3
  z3 := Try.sizeOf3
  v3 := Try.zeroValue3 }
open Go.RowKit Go.Lib in
/-- internal/bytealg.Cutover: "Cutover reports the number of failures of IndexByte we should tolerate before switching over to Index. n is the number of bytes processed so far.": on amd64: (n + 16) / 8. (LAID: no walk: one application.) -/
theorem Try.bytealg_Cutover (n : Int) (h0 : 0 ≤ n) (h1 : n < 4611686018427387904) (w : World) :
    Calls Try.prog 46 #[.int .i64 n] w fun e w' => e = .returned (.int .i64 ((n + 16) / 8)) ∧ w' = w := Any.bytealg_Cutover Try.lays224 n h0 h1 w
def Try.lays206_ren : Go.Shelf.Ren := ⟨fun | 206 => 56 | n => n, fun | 9 => 9 | 4 => 4 | 3 => 3 | n => n, fun | n => n⟩
theorem Try.lays206 : Go.Proofs.Lays.n206 Try.prog Try.lays206_ren := {
  mixed := by kernel_rfl
  f206 := Try.func56.trans (congrArg some (by kernel_rfl))
  t3 := Try.underlying3
  a3 := Try.isAgg3
  z3 := Try.sizeOf3
  v3 := Try.zeroValue3
  t4 := Try.underlying4
  a4 := Try.isAgg4
  z4 := Try.sizeOf4
  v4 := Try.zeroValue4
  t9 := Try.underlying9
  a9 := Try.isAgg9
  z9 := Try.sizeOf9
  v9 := Try.zeroValue9 }
open Go.RowKit Go.Lib in
/-- internal/stringslite.HasPrefix (what strings.HasPrefix calls). (LAID: no walk: one application.) -/
theorem Try.stringslite_HasPrefix (s p : ByteArray) (w : World) :
    Calls Try.prog 56 #[.string s, .string p] w fun e w' => e = .returned (.bool (Lib.hasPrefix s.data.toList p.data.toList)) ∧ w' = w := Any.stringslite_HasPrefix Try.lays206 s p w
def Try.lays152_ren : Go.Shelf.Ren := ⟨fun | 152 => 33 | 137 => 44 | 119 => 45 | 224 => 46 | 225 => 47 | 217 => 57 | 266 => 62 | n => n, fun | 9 => 9 | 21 => 21 | 3 => 3 | 4 => 4 | 5 => 5 | 0 => 0 | 46 => 38 | n => n, fun | n => n⟩
theorem Try.lays152 : Go.Proofs.Lays.n152 Try.prog Try.lays152_ren := {
  mixed := by kernel_rfl
  f119 := Try.func45.trans (congrArg some (by kernel_rfl))
  f137 := Try.func44.trans (congrArg some (by kernel_rfl))
  f152 := Try.func33.trans (congrArg some (by kernel_rfl))
  f217 := Try.func57.trans (congrArg some (by kernel_rfl))
  f224 := Try.func46.trans (congrArg some (by kernel_rfl))
  f225 := Try.func47.trans (congrArg some (by kernel_rfl))
  f266 := Try.func62.trans (congrArg some (by kernel_rfl))
  t0 := Try.underlying0
  a0 := Try.isAgg0
  z0 := Try.sizeOf0
  v0 := Try.zeroValue0
  t3 := Try.underlying3
  a3 := Try.isAgg3
  z3 := Try.sizeOf3
  v3 := Try.zeroValue3
  t4 := Try.underlying4
  a4 := Try.isAgg4
  z4 := Try.sizeOf4
  v4 := Try.zeroValue4
  t5 := Try.underlying5
  a5 := Try.isAgg5
  z5 := Try.sizeOf5
  v5 := Try.zeroValue5
  t9 := Try.underlying9
  a9 := Try.isAgg9
  z9 := Try.sizeOf9
  v9 := Try.zeroValue9
  t21 := Try.underlying21
  a21 := Try.isAgg21
  z21 := Try.sizeOf21
  v21 := Try.zeroValue21
  t46 := Try.underlying38
  a46 := Try.isAgg38
  z46 := Try.sizeOf38
  v46 := Try.zeroValue38 }
open Go.RowKit Go.Lib in
theorem Try.strings_IndexRune_ascii (s : ByteArray) (r : Int) (w : World) (h0 : 0 ≤ r) (h1 : r < 128) :
    Calls Try.prog 33 #[.string s, .int .i32 r] w fun e w' => e = .returned (.int .i64 (Lib.indexByte s.data.toList r.toNat.toUInt8)) ∧ w' = w := Any.strings_IndexRune_ascii Try.lays152 s r w h0 h1
end Go.Proofs

/-
  The library's strings.IndexRune at a text of ASCII alone: a rune beyond ASCII is not in it.
-/
namespace Go.Proofs.Ytnhljemnebgekaa
open Go.RowKit
set_option linter.unusedSimpArgs false
def AsciiAll (s : ByteArray) : Prop := ∀ b ∈ s.data.toList, b.toNat < 128
theorem AsciiAll.at {s : ByteArray} (h : AsciiAll s) (i : Nat) (hi : i < s.size) : (s[i]'hi).toNat < 128 := h _ (Array.getElem_mem_toList (xs := s.data) hi)
theorem below_drewN (w : World) (n : Nat) : Below w.heap.size w (w.drewN n) := ⟨rfl, rfl, rfl, Nat.le_refl _, fun _ _ => rfl⟩
theorem Below.draws {B : Nat} {w W : World} (h : Below B w W) (n : Nat) : Below B w (W.drewN n) := ⟨h.os, h.tape, h.output, h.size, h.block⟩
theorem indexByte_none : ∀ (l : List UInt8) (c : UInt8), (∀ b ∈ l, b ≠ c) → Lib.indexByte l c = -1 := by
  intro l c h
  induction l with
  | nil => rfl
  | cons b l ih =>
    have h1 := h b (by simp)
    have h2 := ih (fun x hx => h x (by simp [hx]))
    simp [Lib.indexByte, h1, h2]
theorem indexByte_far {s : ByteArray} (h : AsciiAll s) (a e : Nat) (c : UInt8) (hc : 128 ≤ c.toNat) : Lib.indexByte (s.extract a e).data.toList c = -1 :=
  indexByte_none _ _ fun b hb e => by have := h b (mem_extract hb); rw [e] at this; omega
theorem encode_shape (r : Int) (h1 : 128 ≤ r) (h2 : r ≤ 1114111) (hs : ¬ (55296 ≤ r ∧ r ≤ 57343)) :
    (∃ a b, Utf8.encode r = ⟨#[a, b]⟩ ∧ 128 ≤ b.toNat) ∨ (∃ a b c, Utf8.encode r = ⟨#[a, b, c]⟩ ∧ 128 ≤ c.toNat) ∨ (∃ a b c d, Utf8.encode r = ⟨#[a, b, c, d]⟩ ∧ 128 ≤ d.toNat) := by
  have hv : Utf8.valid r = true := by rw [validRune_eq, validRune, decide_eq_true_eq]; omega
  have hc : ¬ r.toNat < 128 := by omega
  have hb : 128 ≤ (UInt8.ofNat (128 + r.toNat % 64)).toNat := by simp; omega
  unfold Utf8.encode
  simp only [hv, if_true, hc, if_false]
  split
  · exact .inl ⟨_, _, rfl, hb⟩
  · split
    · exact .inr (.inl ⟨_, _, _, rfl, hb⟩)
    · exact .inr (.inr ⟨_, _, _, _, rfl, hb⟩)
theorem indexByte_no (s : ByteArray) (hs : AsciiAll s) (a e : Nat) (c : UInt8) (hc : 128 ≤ c.toNat) (w : World) :
    Calls Try.prog 44 #[.string (s.extract a e), .int .u8 c.toNat] w fun x w' => x = .returned (.int .i64 (-1)) ∧ w' = w := by
  have h := Try.strings_IndexByte (s.extract a e) (c.toNat : Int) w
  have e1 : ((c.toNat : Int).toNat.toUInt8) = c := by simp
  rw [e1, indexByte_far hs a e c hc] at h
  exact h
set_option maxRecDepth 100000 in
set_option maxHeartbeats 1000000 in
theorem indexRune_bad (s : ByteArray) (hs : AsciiAll s) (hm : s.size ≤ 1000) (w : World) :
    Calls Try.prog 33 #[.string s, .int .i32 65533] w fun e w' => e = .returned (.int .i64 (-1)) ∧ Below w.heap.size w w' := by
  have HS := Lib.hid hs
  clear hs
  go_enter Try.func33, Try.ntmps33
  go_wp2_with fail
  go_loopw [] (fun wr => ∃ pos : Nat, wr.heap[w.heap.size]? = some (.stringIter s pos) ∧ Below w.heap.size w wr) (fun wr => s.size - wr.iterPos w.heap.size)
  case atStart => exact ⟨0, World.iter_heap w s 0, (Below.refl _ w).alloc (Nat.le_refl _) _⟩
  case round =>
    obtain ⟨pos, hit, hbw⟩ := hrel
    by_cases hp : pos < s.size
    · obtain ⟨x, hx⟩ : ∃ x, s[pos]'hp = x := ⟨_, rfl⟩
      have hxa : x.toNat < 128 := by rw [← hx]; exact HS.out.at pos hp
      have hnx : ∀ ty, (Instr.next (.pointer (some ⟨w.heap.size, 0, none⟩)) true ty).run Try.prog wr = .ok (.tuple #[.bool true, .int .i64 pos, .int .i32 x.toNat]) (wr.iterAt w.heap.size s (pos + 1)) := fun ty => by
        rw [Lib.run_next_ascii_at wr w.heap.size s pos ty hit hp (by rw [hx]; exact hxa), hx]
      have hne : ((x.toNat : Int) == 65533) = false := by simp; omega
      have HIT := Lib.hid (Lib.iterAt_heap wr w.heap.size s pos (pos + 1) hit)
      have HB := Lib.hid (Lib.below_iterAt hbw (k := w.heap.size) (Nat.le_refl _) s (pos + 1))
      have HI0 := Lib.hid hit
      clear hit hbw hx
      go_wp2_with fail
      go_roundw
      case rel => exact ⟨pos + 1, HIT.out, HB.out⟩
      case measure => simp only [World.iterPos, HIT.out, HI0.out]; omega
    · have hnx : ∀ ty, (Instr.next (.pointer (some ⟨w.heap.size, 0, none⟩)) true ty).run Try.prog wr = _ := fun ty => Lib.run_next_end_at wr w.heap.size s pos ty hit hp
      go_wp2_with fail
      go_ret
      exact ⟨rfl, hbw⟩
set_option maxRecDepth 100000 in
set_option maxHeartbeats 1000000 in
theorem indexRune_far (s : ByteArray) (hs : AsciiAll s) (hn : 4 ≤ s.size) (hm : s.size ≤ 1000) (r : Int) (h1 : 128 ≤ r) (h2 : r ≤ 1114111) (h3 : ¬ (55296 ≤ r ∧ r ≤ 57343)) (h4 : r ≠ 65533) (w : World) :
    Calls Try.prog 33 #[.string s, .int .i32 r] w fun e w' => e = .returned (.int .i64 (-1)) ∧ Below w.heap.size w w' := by
  have hv : Lib.validRune r = true := by rw [Lib.validRune, decide_eq_true_eq]; omega
  have HV := Lib.hid hv
  have hb1 : (r == 65533) = false := by simp [h4]
  have hb2 : ¬ r < 128 := by omega
  have hb3 : decide (r < 128) = false := by simpa using hb2
  have HE := Lib.hid (encode_shape r h1 h2 h3)
  have e1 := AsciiAll.at hs 1 (by omega)
  have e2 := AsciiAll.at hs 2 (by omega)
  have e3 := AsciiAll.at hs 3 (by omega)
  have HS := Lib.hid hs
  clear hv h3 h4 hs
  go_enter Try.func33, Try.ntmps33
  go_wp2_with fail
  refine (Try.utf8_ValidRune r _).mono ?_
  rintro e w1 ⟨rfl, rfl⟩
  rw [HV.out]
  go_wp2_with fail
  rcases HE.out with ⟨a, b, he, hb⟩ | ⟨a, b, c, he, hb⟩ | ⟨a, b, c, d, he, hb⟩
  · have hlt : 1 < s.size := by omega
    obtain ⟨x, hxx⟩ : ∃ x, s[1]'hlt = x := ⟨_, rfl⟩
    have hc : ((x.toNat : Int) != (((⟨#[a, b]⟩ : ByteArray)[1]'(by show 1 < 2; omega)).toNat : Int)) = true := by
      rw [hxx] at e1
      show ((x.toNat : Int) != (b.toNat : Int)) = true
      simp; omega
    have HIB := Lib.hid (show ∀ w : World, Calls Try.prog 44 #[.string (s.extract 2 s.size), .int .u8 ((⟨#[a, b]⟩ : ByteArray)[1]'(by show 1 < 2; omega)).toNat] w fun x w' => x = .returned (.int .i64 (-1)) ∧ w' = w from indexByte_no s HS.out 2 s.size b hb)
    have wn : IntKind.i64.wrap 2 = 2 := rfl
    have hI : (2 : Int) ≤ (s.size : Int) := by omega
    clear e1 e2 e3 hb HE
    go_step3
    go_wp2_with fail
    refine wp_loop_rounds 1 ?_
    rw [rounds_succ]
    go_wp2_with fail
    go_step3
    go_wp2_with fail
    go_quiet (fail)
    go_wp2_with fail
    obtain ⟨w2, hw2⟩ : ∃ w2, w1.drewN nq = w2 := ⟨_, rfl⟩
    rw [hw2]
    have hb2 : Below w1.heap.size w1 w2 := by rw [← hw2]; exact below_drewN _ _
    clear hw2
    go_quiet ((go_at_call 44; exact Calls.quiet_of_same (HIB.out _)))
    go_wp2_with fail
    simp only [Exit.inBlock, Exit.then, Exit.noGoto_ret]
    trace_state
    go_ret
    exact ⟨rfl, Below.draws hb2 _⟩
  · have hlt : 2 < s.size := by omega
    obtain ⟨x, hxx⟩ : ∃ x, s[2]'hlt = x := ⟨_, rfl⟩
    have hc : ((x.toNat : Int) != (((⟨#[a, b, c]⟩ : ByteArray)[2]'(by show 2 < 3; omega)).toNat : Int)) = true := by
      rw [hxx] at e2
      show ((x.toNat : Int) != (c.toNat : Int)) = true
      simp; omega
    have HIB := Lib.hid (show ∀ w : World, Calls Try.prog 44 #[.string (s.extract 3 s.size), .int .u8 ((⟨#[a, b, c]⟩ : ByteArray)[2]'(by show 2 < 3; omega)).toNat] w fun x w' => x = .returned (.int .i64 (-1)) ∧ w' = w from indexByte_no s HS.out 3 s.size c hb)
    have wn : IntKind.i64.wrap 3 = 3 := rfl
    have hI : (3 : Int) ≤ (s.size : Int) := by omega
    clear e1 e2 e3 hb HE
    go_step3
    go_wp2_with fail
    refine wp_loop_rounds 1 ?_
    rw [rounds_succ]
    go_wp2_with fail
    go_step3
    go_wp2_with fail
    go_quiet (fail)
    go_wp2_with fail
    obtain ⟨w2, hw2⟩ : ∃ w2, w1.drewN nq = w2 := ⟨_, rfl⟩
    rw [hw2]
    have hb2 : Below w1.heap.size w1 w2 := by rw [← hw2]; exact below_drewN _ _
    clear hw2
    go_quiet ((go_at_call 44; exact Calls.quiet_of_same (HIB.out _)))
    go_wp2_with fail
    simp only [Exit.inBlock, Exit.then, Exit.noGoto_ret]
    trace_state
    go_ret
    exact ⟨rfl, Below.draws hb2 _⟩
  · have hlt : 3 < s.size := by omega
    obtain ⟨x, hxx⟩ : ∃ x, s[3]'hlt = x := ⟨_, rfl⟩
    have hc : ((x.toNat : Int) != (((⟨#[a, b, c, d]⟩ : ByteArray)[3]'(by show 3 < 4; omega)).toNat : Int)) = true := by
      rw [hxx] at e3
      show ((x.toNat : Int) != (d.toNat : Int)) = true
      simp; omega
    have HIB := Lib.hid (show ∀ w : World, Calls Try.prog 44 #[.string (s.extract 4 s.size), .int .u8 ((⟨#[a, b, c, d]⟩ : ByteArray)[3]'(by show 3 < 4; omega)).toNat] w fun x w' => x = .returned (.int .i64 (-1)) ∧ w' = w from indexByte_no s HS.out 4 s.size d hb)
    have wn : IntKind.i64.wrap 4 = 4 := rfl
    have hI : (4 : Int) ≤ (s.size : Int) := by omega
    clear e1 e2 e3 hb HE
    go_step3
    go_wp2_with fail
    refine wp_loop_rounds 1 ?_
    rw [rounds_succ]
    go_wp2_with fail
    go_step3
    go_wp2_with fail
    go_quiet (fail)
    go_wp2_with fail
    obtain ⟨w2, hw2⟩ : ∃ w2, w1.drewN nq = w2 := ⟨_, rfl⟩
    rw [hw2]
    have hb2 : Below w1.heap.size w1 w2 := by rw [← hw2]; exact below_drewN _ _
    clear hw2
    go_quiet ((go_at_call 44; exact Calls.quiet_of_same (HIB.out _)))
    go_wp2_with fail
    simp only [Exit.inBlock, Exit.then, Exit.noGoto_ret]
    trace_state
    go_ret
    exact ⟨rfl, Below.draws hb2 _⟩
end Go.Proofs.Ytnhljemnebgekaa

/-
  The iterator Chunk of the package slices at bytes, over any row in memory, yields the row's pieces of 3 bytes, one after another, the last one shorter.
-/
namespace Go.Proofs.Ytnhljemnebgekaa
open Go.RowKit Go.Shelf Sha
attribute [local go_sem] Oper.semAt_some
set_option linter.unusedSimpArgs false

/-- A piece's number: it begins within the row. -/
abbrev Ck3 (L : Nat) := { k : Nat // 3 * k < L }
def ckLen3 (L k : Nat) : Nat := min 3 (L - 3 * k)
def encK3 (g o L : Nat) (x : Ck3 L) : Array Value := #[.slice (some ⟨g, o + 3 * x.1, none⟩) (ckLen3 L x.1) (ckLen3 L x.1)]
def many3 (L : Nat) : Nat := (L + 2) / 3
def AllK3 (L : Nat) (ys : List (Ck3 L)) : Prop := ys.map (·.1) = List.range (many3 L)
def FrontK3 (L : Nat) (pre : List (Ck3 L)) : Prop := pre.map (·.1) = List.range pre.length

set_option maxRecDepth 100000 in
set_option maxHeartbeats 1000000 in
theorem chunk1_in3 (n : Nat) (hn : 1 ≤ n) (l Bs Bn g o : Nat) (L c : Nat) (a : Option Addr) (ha : 0 < L → a = some ⟨g, o, none⟩) (hL : L ≤ 140737488351232) (hLc : L ≤ c) (J Jx : List (Ck3 L) → World → Prop)
    (hY : ∀ pre x W, J pre W → pre.length < L + 1 → YieldAt Fence.wide (n - 1) Try.prog l (encK3 g o L x) W fun e W' =>
      (e = .returned (.bool true) ∧ J (pre ++ [x]) W' ∧ Keep2 Bs Bn W W') ∨ (e = .returned (.bool false) ∧ Jx (pre ++ [x]) W'))
    (hJ : ∀ p W, J p W → J p W.drew)
    (W : World) (hBs : W.cell? ⟨Bs, 0, none⟩ = some (.slice a L c)) (hBn : W.cell? ⟨Bn, 0, none⟩ = some (.int .i64 3)) (h0 : J [] W) :
    CallsIn Fence.wide n Try.prog 40 #[.func (.yield l) #[] #[], .pointer (some ⟨Bs, 0, none⟩), .pointer (some ⟨Bn, 0, none⟩)] W fun e W' => (∃ v, e = .returned v) ∧
      ((∃ ys, AllK3 L ys ∧ J ys W') ∨ (∃ pre, FrontK3 L pre ∧ Jx pre W')) := by
  refine callsIn_of_wp Try.func40 rfl trivial ?_ rfl
  simp only [Try.ntmps40, List.size_toArray, List.length_cons, List.length_nil, Nat.reduceAdd, Nat.reduceSub, Array.replicate_succ, Array.replicate_zero, List.push_toArray, List.append_toArray, List.nil_append, List.cons_append]
  gi_wp2_with fail
  gi_loopw [4] (fun p wr => ∃ (pre : List (Ck3 L)), FrontK3 L pre ∧ 3 * pre.length < L + 3 ∧ p = .int .i64 (3 * pre.length : Nat) ∧ J pre wr ∧ wr.cell? ⟨Bs, 0, none⟩ = some (.slice a L c) ∧ wr.cell? ⟨Bn, 0, none⟩ = some (.int .i64 3))
    (fun p wr => L + 3 - (intOf p).toNat)
  case atStart => exact ⟨[], rfl, by simp, rfl, h0, hBs, hBn⟩
  case round =>
    obtain ⟨pre, hF, hlt, rfl, hJp, hcs, hcn⟩ := hrel
    obtain ⟨k, hk⟩ : ∃ k, pre.length = k := ⟨_, rfl⟩
    rw [hk] at hlt ⊢
    have HF := Lib.hid hF; have HJ := Lib.hid hJp; have HK := Lib.hid hk; have HY := Lib.hid hY; have HJD := Lib.hid hJ
    clear hF hJp hk h0 hY hJ hBs hBn
    obtain ⟨i, hi⟩ : ∃ i, 3 * k = i := ⟨_, rfl⟩
    rw [hi] at hlt ⊢
    have HI := Lib.hid hi
    clear hi
    by_cases hend : i < L
    · obtain rfl := ha (by omega)
      obtain ⟨m, hmk⟩ : ∃ m, ckLen3 L k = m := ⟨_, rfl⟩
      have hmm : min (3 : Int) ((L - i : Nat) : Int) = (m : Int) := by
        have := HI.out
        rw [← hmk]; unfold ckLen3; omega
      have hm1 : 1 ≤ m := by have := HI.out; rw [← hmk]; unfold ckLen3; omega
      have hm3 : m ≤ 3 := by rw [← hmk]; unfold ckLen3; omega
      have hmL : i + m ≤ L := by have := HI.out; rw [← hmk]; unfold ckLen3; omega
      have HMM := Lib.hid hmm; have HMK := Lib.hid hmk
      clear hmm hmk
      gi_wp2_with fail
      gi_region
      rw [HMM.out]
      have hcs2 : wr.drew.cell? ⟨Bs, 0, none⟩ = some (.slice (some ⟨g, o, none⟩) L c) := hcs
      have hcn2 : wr.drew.cell? ⟨Bn, 0, none⟩ = some (.int .i64 3) := hcn
      obtain ⟨fn, tmps, assign, body, hy, hR⟩ := HY.out pre ⟨k, by have := HI.out; omega⟩ wr.drew (HJD.out _ _ HJ.out) (by have := HI.out; have := HK.out; omega)
      simp only [encK3, HI.out, HMK.out] at hy
      have HRR := Lib.hid hR; clear hR
      gi_wp2_with fail
      refine HRR.out.mono ?_
      rintro e W3 (⟨rfl, hJ3, hk3⟩ | ⟨rfl, hJx3⟩)
      · have hcs3 := (cell_of_heap (o := 0) hk3.2.1).trans hcs2
        have hcn3 := (cell_of_heap (o := 0) hk3.2.2).trans hcn2
        have HJ3 := Lib.hid hJ3; clear hJ3 hk3 hcs hcn hcs2 hcn2
        gi_wp2_with fail
        go_roundw
        case rel =>
          have hki := HI.out
          have hkk := HK.out
          refine ⟨pre ++ [⟨k, by omega⟩], ?_, ?_, ?_, HJ3.out, hcs3, hcn3⟩
          · unfold FrontK3
            rw [List.map_append, HF.out, List.length_append, hkk]
            simp [List.range_succ]
          · simp; omega
          · have e : ∀ y : Ck3 L, (pre ++ [y]).length = k + 1 := fun y => by rw [List.length_append, hkk]; rfl
            rw [e]
            exact congrArg (Value.int .i64) (by omega)
        case measure => simp [intOf]; omega
      · have HJ3 := Lib.hid hJx3; clear hJx3
        gi_wp2_with fail
        refine bodyPost_ret (results_none rfl _ _ _) rfl ?_
        refine ⟨⟨_, rfl⟩, .inr ⟨pre ++ [⟨k, by have := HI.out; omega⟩], ?_, HJ3.out⟩⟩
        unfold FrontK3
        rw [List.map_append, HF.out, List.length_append, HK.out]
        simp [List.range_succ]
    · gi_wp2_with fail
      go_end0
      refine ⟨⟨_, rfl⟩, .inl ⟨pre, ?_, HJ.out⟩⟩
      unfold AllK3
      rw [HF.out, HK.out]
      have hm : many3 L = k := by
        unfold many3
        have := HI.out
        omega
      rw [hm]
end Go.Proofs.Ytnhljemnebgekaa

/-
  A strings.Builder at this program: copyCheck, WriteByte, String; each keeps every block that is neither the builder's nor a row of bytes.
-/
namespace Go.Proofs
open Go.Shelf Go.RowKit
set_option maxHeartbeats 1000000 in
set_option maxRecDepth 100000 in
theorem Try.copyCheck_used (b : Nat) (w : World) (h0 : w.cell? ⟨b, 0, none⟩ = some (.pointer (some ⟨b, 0, none⟩))) :
    Calls Try.prog 41 #[.pointer (some ⟨b, 0, none⟩)] w fun e w' => e = .returned (.tuple #[]) ∧ w' = w := by
  obtain ⟨j, hj, _⟩ := Option.map_eq_some_iff.1 (show (Try.prog.info? 42).map (·.size) = some 2 by kernel_rfl)
  go_enter Try.func41, Try.ntmps41
  go_wp2
  rw [Lib.run_neq_ptr_same w _ Try.underlying40 hj]
  go_wp2
  go_end0
  exact ⟨rfl, rfl⟩
set_option maxHeartbeats 1000000 in
set_option maxRecDepth 100000 in
theorem Try.copyCheck_fresh (b : Nat) (w : World) (h0 : w.cell? ⟨b, 0, none⟩ = some (.pointer none)) (hsh : w.shape? b = some (42, 2)) (hfz : w.frozen? ⟨b, 0, none⟩ = false) :
    Calls Try.prog 41 #[.pointer (some ⟨b, 0, none⟩)] w fun e w' => e = .returned (.tuple #[]) ∧ w' = w.setCell ⟨b, 0, none⟩ (.pointer (some ⟨b, 0, none⟩)) := by
  obtain ⟨j, hj, hjs⟩ := Option.map_eq_some_iff.1 (show (Try.prog.info? 42).map (·.size) = some 2 by kernel_rfl)
  go_enter Try.func41, Try.ntmps41
  go_wp2
  rw [Lib.run_to_unsafe w ⟨b, 0, none⟩ Try.underlying40 Try.underlying78 hj (by rw [hjs]; decide) hsh (Nat.zero_lt_succ 1)]
  simp only [Result.andThen]
  rw [Oper.upon_value]
  go_wp2
  rw [run_callFunc_extern Try.func55 (by kernel_rfl) (by kernel_rfl) (by kernel_rfl) (e := Extern.AbiNoEscape.same) (by kernel_rfl)]
  rw [Lib.run_noEscape]
  simp only [Result.andThen]
  rw [Oper.upon_value]
  go_wp2
  rw [Lib.run_from_unsafe w ⟨b, 0, none⟩ Try.underlying78 Try.underlying40 hj hsh Try.Builder_Extra_169.liesBuilder]
  simp only [Result.andThen]
  rw [Oper.upon_value]
  go_wp2
  go_end0
  exact ⟨rfl, rfl⟩
theorem Try.copyCheck_k (B b : Nat) (bs : List Value) (w : World) (h : Lib.IsBuilderF 42 5 B b bs w) :
    Calls Try.prog 41 #[.pointer (some ⟨b, 0, none⟩)] w fun e w' => e = .returned (.tuple #[]) ∧ (Lib.BuilderAtF 42 5 B b (.pointer (some ⟨b, 0, none⟩)) bs w' ∧ Below B w w' ∧ Lib.OthersKept 5 (some b) w w') := by
  rcases h with h | h
  · refine (Try.copyCheck_fresh b w h.cell0 h.shape h.frozen0).mono ?_
    rintro e w' ⟨rfl, rfl⟩
    exact ⟨rfl, h.used _, (Below.refl B w).setCell (p := ⟨b, 0, none⟩) h.1 _, (Lib.OthersKept.refl _ _ w).setCell ⟨b, 0, none⟩ rfl _⟩
  · refine (Try.copyCheck_used b w h.cell0).mono ?_
    rintro e w' ⟨rfl, rfl⟩
    exact ⟨rfl, h, Below.refl B _, Lib.OthersKept.refl _ _ _⟩
set_option maxHeartbeats 2000000 in
set_option maxRecDepth 100000 in
theorem Try.WriteByte_k (B b : Nat) (bs : List Value) (c : Int) (w : World) (h : Lib.IsBuilderF 42 5 B b bs w) (hlen : bs.length + 1 ≤ 140737488355328) (hBw : B ≤ w.heap.size) :
    Calls Try.prog 28 #[.pointer (some ⟨b, 0, none⟩), .int .u8 c] w fun e w' => e = .returned .nilIface ∧ (Lib.BuilderAtF 42 5 B b (.pointer (some ⟨b, 0, none⟩)) (bs ++ [.int .u8 c]) w' ∧ Below B w w' ∧ Lib.OthersKept 5 (some b) w w') := by
  obtain ⟨i0, hi, hz0, hz1, hz2⟩ := info_parts Try.Builder_Extra_169.infoByte
  go_enter Try.func28, Try.ntmps28
  go_wp2_with fail
  refine (Try.copyCheck_k B b bs _ h).mono ?_
  rintro e w1 ⟨rfl, h1, hb1, hk1⟩
  obtain ⟨hB, v, hbk, hown, hne⟩ := h1
  have c0 : w1.cell? ⟨b, 0, none⟩ = some (.pointer (some ⟨b, 0, none⟩)) := by rw [Lib.cell_of_heap hbk]; rfl
  have c1 : w1.cell? ⟨b, 1, none⟩ = some v := by rw [Lib.cell_of_heap hbk]; rfl
  go_wp2_with (at_builtin; refine wpList_append_ownF _ rfl _ _ 22 rfl B 5 i0 (.int .u8 0) 1 1 Try.underlying22 hi hz0 hz1 hz2 rfl (by decide) _ _ _ rfl (hown.alloc _) ⟨w1.heap.size, 0, none⟩ 1 1 [.int .u8 c] rfl rfl ?c1 ?c2 ?c3 ?c4 ?c5 ?_)
  case c1 =>
    intro j u hj
    match j, hj with
    | 0, hj => simp at hj; subst hj; simp [Addr.add]
  case c2 => intro u hu; simp at hu; subst hu; rfl
  case c3 => unfold maxLen; omega
  case c4 => omega
  case c5 => have := hb1.size; simp; omega
  intro v' w2 hown' hgrow _
  have hlt : b < w1.heap.size := by
    rcases Nat.lt_or_ge b w1.heap.size with h' | h'
    · exact h'
    · simp [Array.getElem?_eq_none h'] at hbk
  have hb2 : w2.heap[b]? = some (.cells #[.pointer (some ⟨b, 0, none⟩), v] 42 (0, 0)) := by
    rw [hgrow.block b (by simp; omega) (fun e => hne e.symm), Lib.alloc_old w1 _ b hlt]
    exact hbk
  have d0 : w2.cell? ⟨b, 0, none⟩ = some (.pointer (some ⟨b, 0, none⟩)) := by rw [Lib.cell_of_heap hb2]; rfl
  have d1 : w2.cell? ⟨b, 1, none⟩ = some v := by rw [Lib.cell_of_heap hb2]; rfl
  have f1 : w2.frozen? ⟨b, 1, none⟩ = false := Lib.frozen_of_heap hb2 1
  obtain ⟨g, cap, rfl⟩ : ∃ g cap, v' = .slice (some ⟨g, 0, none⟩) (bs.length + 1) cap := by
    rcases hown'.2 with ⟨_, h0⟩ | ⟨g, cap, cur, fz, hv, _⟩
    · omega
    · exact ⟨g, cap, hv⟩
  go_wp2
  go_ret
  refine ⟨rfl, ?_, ?_, ((hk1.alloc _).grown hgrow (Lib.ownsRowF_kind (hown.alloc _))).setCell ⟨b, 1, none⟩ rfl _⟩
  · exact Lib.BuilderAtF.put (T := 42) (e := 5) hB hb2 (bs' := bs ++ [.int .u8 c]) (by simpa using hown') (by decide)
  · exact ((hb1.alloc (by have := hb1.size; omega) _).grown hgrow (by have := hb1.size; simp; omega) (fun k hk => (hown.lt k hk).1)).setCell (p := ⟨b, 1, none⟩) hB _
theorem Try.String_any_k (B b : Nat) (l : List UInt8) (w : World) (h : Lib.IsBuilderF 42 5 B b (Lib.byteCells l) w) (hBw : B ≤ w.heap.size) :
    Calls Try.prog 29 #[.pointer (some ⟨b, 0, none⟩)] w fun e w' => e = .returned (.string ⟨l.toArray⟩) ∧ (Lib.IsBuilderF 42 5 B b (Lib.byteCells l) w' ∧ Below B w w' ∧ Lib.OthersKept 5 (some b) w w') := Any.Builder_String_any_k Try.lays169 Try.Builder_Extra_169 B b l w h hBw
end Go.Proofs

/-
  The function Text of the package seal, called on any row of bytes, returns the bytes as signs of 64.
-/
namespace Go.Proofs.Ytnhljemnebgekaa
open Go.RowKit Go.Shelf Sha Go.Proofs.YtnhljemnebgekaaW.PrintWords
attribute [local go_sem] Oper.semAt_some
set_option linter.unusedSimpArgs false
set_option maxRecDepth 100000 in
theorem chunkS_any (a : Option Addr) (n c : Nat) (w : World) : Calls Try.prog 27 #[.slice a n c, .int .i64 3] w fun e w' => e = .returned (.func (.func 40) #[] #[.pointer (some ⟨w.heap.size, 0, none⟩), .pointer (some ⟨w.heap.size + 1, 0, none⟩)]) ∧ (w.alloc (.cells #[.slice a n c] 22)).alloc (.cells #[.int .i64 3] 3) = w' := by
  have hmf : ∀ (fn : Fn) (first cap : Array Value) (w : World), (Instr.makeFunc fn first cap).run Try.prog w = .ok (.func fn first cap) w := fun _ _ _ _ => rfl
  go_enter Try.func27, Try.ntmps27
  go_wp2_with fail
  go_ret
  exact ⟨rfl, rfl⟩
theorem chunkS_stops (n : Nat) (hn : 1 ≤ n) (Bs Bn g o L c : Nat) (a : Option Addr) (ha : 0 < L → a = some ⟨g, o, none⟩) (hL : L ≤ 140737488351232) (hLc : L ≤ c) (w : World)
    (hs : w.heap[Bs]? = some (.cells #[.slice a L c] 22 (0, 0))) (hn2 : w.heap[Bn]? = some (.cells #[.int .i64 3] 3 (0, 0))) :
    SeqStopsK Fence.wide n Try.prog 40 #[.pointer (some ⟨Bs, 0, none⟩), .pointer (some ⟨Bn, 0, none⟩)] (encK3 g o L) (Keep2 Bs Bn) (AllK3 L) (FrontK3 L) (L + 1) w := fun l J Jx W hW hJ _ hY h0 =>
  chunk1_in3 n hn l Bs Bn g o L c a ha hL hLc J Jx hY (fun p W1 h => hJ p W1 W1.drew none h (drew_grown _ _) (fun r e => by cases e)) W
    (by rw [cell_of_row W _ 0 _ 22 (0, 0) ((hW.block _ (Array.getElem?_eq_some_iff.1 hs).1).trans hs)]; rfl) (by rw [cell_of_row W _ 0 _ 3 (0, 0) ((hW.block _ (Array.getElem?_eq_some_iff.1 hn2).1).trans hn2)]; rfl) h0
theorem BuilderAtF_walk {T e : TypeId} {B b : Nat} {p : Value} {bs : List Value} {W W' : World} {row : Option Nat} (h : Lib.BuilderAtF T e B b p bs W) (hg : W.grownBy W' row) (hr : ∀ r, row = some r → ∃ o : Obj, W.heap[r]? = some o ∧ o.isCells = false) : Lib.BuilderAtF T e B b p bs W' := by
  obtain ⟨hB, v, hb, hown, hne⟩ := h
  refine ⟨hB, v, (kept_cells hg hr hb).trans hb, hown.kept hg ?_, hne⟩
  cases hv : v.ownBlock with
  | none => exact .inl rfl
  | some k =>
    refine .inr fun e => ?_
    obtain ⟨c, fz, hc⟩ := Lib.ownsRowF_kind hown k hv
    obtain ⟨o, ho, hi⟩ := hr k e.symm
    rw [hc] at ho; cases ho
    simp [Obj.isCells] at hi
theorem IsBuilderF_walk {T e : TypeId} {B b : Nat} {bs : List Value} {W W' : World} {row : Option Nat} (h : Lib.IsBuilderF T e B b bs W) (hg : W.grownBy W' row) (hr : ∀ r, row = some r → ∃ o : Obj, W.heap[r]? = some o ∧ o.isCells = false) : Lib.IsBuilderF T e B b bs W' :=
  h.elim (fun x => .inl (BuilderAtF_walk x hg hr)) (fun x => .inr (BuilderAtF_walk x hg hr))
theorem i64_or_nat (a b : Nat) (ha : a < 9223372036854775808) (hb : b < 9223372036854775808) : bits .or .i64 (a : Int) (b : Int) = ((a ||| b : Nat) : Int) := by
  have hx : a ||| b < 2 ^ 63 := Nat.or_lt_two_pow (by omega) (by omega)
  show IntKind.i64.wrap ((BitVec.ofInt 64 (a : Int) ||| BitVec.ofInt 64 (b : Int)).toNat : Int) = _
  rw [BitVec.toNat_or, ofInt_u64 a (by omega), ofInt_u64 b (by omega), IntKind.wrap_i64]
  omega
theorem i64_and_nat (a b : Nat) (ha : a < 9223372036854775808) (hb : b < 9223372036854775808) : bits .and .i64 (a : Int) (b : Int) = ((a &&& b : Nat) : Int) := by
  have hx : a &&& b < 2 ^ 63 := Nat.and_lt_two_pow _ (by omega)
  show IntKind.i64.wrap ((BitVec.ofInt 64 (a : Int) &&& BitVec.ofInt 64 (b : Int)).toNat : Int) = _
  rw [BitVec.toNat_and, ofInt_u64 a (by omega), ofInt_u64 b (by omega), IntKind.wrap_i64]
  omega
theorem i64_low (n k : Nat) (hn : n < 9223372036854775808) (hk : k < 63) : bits .and .i64 (n : Int) ((2 ^ k - 1 : Nat) : Int) = ((n % 2 ^ k : Nat) : Int) := by
  have h1 : 2 ^ k < 2 ^ 63 := Nat.pow_lt_pow_right (by omega) hk
  rw [i64_and_nat _ _ hn (by omega), Nat.and_two_pow_sub_one_eq_mod]
theorem i64_put (a b k : Nat) (hb : b < 2 ^ k) (hk : a * 2 ^ k + b < 9223372036854775808) : bits .or .i64 ((a * 2 ^ k : Nat) : Int) (b : Int) = ((a * 2 ^ k + b : Nat) : Int) := by
  have h := Nat.two_pow_add_eq_or_of_lt hb a
  rw [i64_or_nat _ _ (by omega) (by omega), Nat.mul_comm a, ← h]
/-- The signs, and a group's number. -/
def signs : List UInt8 := [65, 66, 67, 68, 69, 70, 71, 72, 73, 74, 75, 76, 77, 78, 79, 80, 81, 82, 83, 84, 85, 86, 87, 88, 89, 90, 97, 98, 99, 100, 101, 102, 103, 104, 105, 106, 107, 108, 109, 110, 111, 112, 113, 114, 115, 116, 117, 118, 119, 120, 121, 122, 48, 49, 50, 51, 52, 53, 54, 55, 56, 57, 45, 95]
def signsB : ByteArray := ⟨signs.toArray⟩
def grp (c : List UInt8) : Nat → Nat
  | 0 => 0
  | j + 1 => grp c j * 256 + (c.getD j 0).toNat
theorem grp_put (c : List UInt8) (j : Nat) (h : grp c j < 65536) : bits .or .i64 (((grp c j : Nat) : Int) * 256) (wrap64 (((c[j]?.getD 0).toNat : Nat) : Int)) = ((grp c (j + 1) : Nat) : Int) := by
  have h2 := (c[j]?.getD 0).toNat_lt
  have e1 : wrap64 (((c[j]?.getD 0).toNat : Nat) : Int) = (((c[j]?.getD 0).toNat : Nat) : Int) := by unfold wrap64; omega
  have := i64_put (grp c j) (c[j]?.getD 0).toNat 8 (by omega) (by omega)
  rw [e1]
  have e2 : grp c (j + 1) = grp c j * 2 ^ 8 + (c[j]?.getD 0).toNat := by
    rw [← List.getD_eq_getElem?_getD]; rfl
  rw [e2, ← this]
  rfl
theorem grp_lt (c : List UInt8) : ∀ j, grp c j < 256 ^ j
  | 0 => by simp [grp]
  | j + 1 => by
    have h1 := grp_lt c j
    have h2 := (c.getD j 0).toNat_lt
    unfold grp
    rw [Nat.pow_succ]
    omega
def signAt (n i : Nat) : UInt8 := signs.getD (n / 2 ^ (18 - 6 * i) % 64) 0
def grpText (c : List UInt8) (m : Nat) : List UInt8 := (List.range m).map (signAt (grp c 3))
theorem grpText_succ (c : List UInt8) (m : Nat) : grpText c (m + 1) = grpText c m ++ [signAt (grp c 3) m] := by simp [grpText, List.range_succ]
def piece (d : List UInt8) (k : Nat) : List UInt8 := (d.drop (3 * k)).take 3
def textTo (d : List UInt8) (pre : List (Ck3 d.length)) : List UInt8 := pre.flatMap fun y => grpText (piece d y.1) ((piece d y.1).length + 1)
theorem textTo_snoc (d : List UInt8) (pre : List (Ck3 d.length)) (y : Ck3 d.length) : textTo d (pre ++ [y]) = textTo d pre ++ grpText (piece d y.1) ((piece d y.1).length + 1) := by simp [textTo]
/-- A text of the bytes. -/
def text (d : List UInt8) : List UInt8 := (List.range (many3 d.length)).flatMap fun k => grpText (piece d k) ((piece d k).length + 1)
theorem textTo_all (d : List UInt8) (pre : List (Ck3 d.length)) (h : AllK3 d.length pre) : textTo d pre = text d := by
  unfold text textTo
  rw [← h, List.flatMap_map]
theorem signs_at (v : Nat) (h : v < 64) : (⟨#[65, 66, 67, 68, 69, 70, 71, 72, 73, 74, 75, 76, 77, 78, 79, 80, 81, 82, 83, 84, 85, 86, 87, 88, 89, 90, 97, 98, 99, 100, 101, 102, 103, 104, 105, 106, 107, 108, 109, 110, 111, 112, 113, 114, 115, 116, 117, 118, 119, 120, 121, 122, 48, 49, 50, 51, 52, 53, 54, 55, 56, 57, 45, 95]⟩ : ByteArray)[v]'h = signs.getD v 0 := by
  rw [List.getD_eq_getElem?_getD, List.getElem?_eq_getElem (show v < signs.length from h)]
  rfl
theorem idx_of (N k : Nat) (hN : N < 16777216) : bits .and .i64 (((N / k : Nat) : Int)) 63 = ((N / k % 64 : Nat) : Int) := by
  have h : N / k ≤ N := Nat.div_le_self _ _
  exact i64_low (N / k) 6 (by omega) (by omega)
theorem idx0 (N : Nat) (hN : N < 16777216) : bits .and .i64 ((N : Int) / 262144) 63 = ((N / 2 ^ (18 - 6 * 0) % 64 : Nat) : Int) := idx_of N 262144 hN
theorem idx1 (N : Nat) (hN : N < 16777216) : bits .and .i64 ((N : Int) / 4096) 63 = ((N / 2 ^ (18 - 6 * 1) % 64 : Nat) : Int) := idx_of N 4096 hN
theorem idx2 (N : Nat) (hN : N < 16777216) : bits .and .i64 ((N : Int) / 64) 63 = ((N / 2 ^ (18 - 6 * 2) % 64 : Nat) : Int) := idx_of N 64 hN
theorem idx3 (N : Nat) (hN : N < 16777216) : bits .and .i64 (N : Int) 63 = ((N / 2 ^ (18 - 6 * 3) % 64 : Nat) : Int) := by
  have := idx_of N 1 hN
  rw [Nat.div_one] at this
  simpa using this
def TInv (w : World) (z : Nat) (d : List UInt8) (v1 v2 : Value) (pre : List (Ck3 d.length)) (W : World) : Prop :=
  Lib.IsBuilderF 42 5 w.heap.size w.heap.size (Lib.byteCells (textTo d pre)) W ∧ (textTo d pre).length ≤ 4 * pre.length ∧ Below w.heap.size w W ∧ z ≤ W.heap.size ∧ W.heap[w.heap.size + 1]? = some (.cells #[v1] 22 (0, 0)) ∧ W.heap[w.heap.size + 1 + 1]? = some (.cells #[v2] 3 (0, 0))
theorem below_walk {w W W' : World} {row : Option Nat} (h : Below w.heap.size w W) (hg : W.grownBy W' row) (hr : ∀ r, row = some r → w.heap.size ≤ r) : Below w.heap.size w W' :=
  ⟨hg.os.trans h.os, hg.tape.trans h.tape, hg.output.trans h.output, Nat.le_trans h.size hg.size, fun k hk => (hg.block k (Nat.lt_of_lt_of_le hk h.size) (fun e => by have := hr k e.symm; omega)).trans (h.block k hk)⟩
theorem TInv.own {w : World} {z : Nat} {d : List UInt8} {v1 v2 : Value} {B : Nat} (hB : w.heap.size ≤ B) : OwnFrom B (TInv w z d v1 v2) := fun _ A _ _ hs hg hr => by
  obtain ⟨h1, h2, h3, h4, h5, h6⟩ := hs
  have hr2 := fun r e => (hr r e).2
  exact ⟨IsBuilderF_walk h1 hg hr2, h2, below_walk h3 hg (fun r e => Nat.le_trans hB (hr r e).1), Nat.le_trans h4 hg.size, (kept_cells hg hr2 h5).trans h5, (kept_cells hg hr2 h6).trans h6⟩
/-- Between the writes of one round. -/
def Mid (w W : World) (bs : List UInt8) (wr : World) : Prop :=
  Lib.IsBuilderF 42 5 w.heap.size w.heap.size (Lib.byteCells bs) wr ∧ Below w.heap.size w wr ∧ Lib.OthersKept 5 (some w.heap.size) W wr ∧ W.heap.size ≤ wr.heap.size
theorem Mid.drew {w W : World} {bs : List UInt8} {wr : World} (h : Mid w W bs wr) : Mid w W bs wr.drew := ⟨h.1, h.2.1.drew, h.2.2.1.drew, h.2.2.2⟩
theorem Mid.keeps {w W : World} {bs : List UInt8} {wr : World} (h : Mid w W bs wr) {B : Nat} (hB : w.heap.size < B) : KeepsFrom B W wr :=
  ⟨h.2.2.2, fun k o hk ho hc => h.2.2.1 k o ho (fun e => by cases e; omega) (fun c fz e => by subst e; simp [Obj.isCells] at hc)⟩
theorem Mid.put {w W : World} {bs : List UInt8} {wr w6 : World} {x : UInt8} (h : Mid w W bs wr) (hI : Lib.BuilderAtF 42 5 w.heap.size w.heap.size (.pointer (some ⟨w.heap.size, 0, none⟩)) (Lib.byteCells bs ++ [.int .u8 (x.toNat : Int)]) w6) (hb : Below w.heap.size wr w6) (hk : Lib.OthersKept 5 (some w.heap.size) wr w6) : Mid w W (bs ++ [x]) w6 :=
  ⟨.inr (by rw [Lib.byteCells_append]; exact hI), h.2.1.trans hb, h.2.2.1.trans hk, Nat.le_trans h.2.2.2 hb.size⟩
theorem Mid.keep2 {w W : World} {bs : List UInt8} {wr : World} {b1 b2 : Nat} {v1 v2 : Value} (h : Mid w W bs wr) (h1 : W.heap[b1]? = some (.cells #[v1] 22 (0, 0))) (h2 : W.heap[b2]? = some (.cells #[v2] 3 (0, 0))) (n1 : b1 ≠ w.heap.size) (n2 : b2 ≠ w.heap.size) : Keep2 b1 b2 W wr :=
  ⟨h.2.2.2, (h.2.2.1 b1 _ h1 (fun e => by cases e; exact n1 rfl) (fun c fz e => by cases e)).trans h1.symm, (h.2.2.1 b2 _ h2 (fun e => by cases e; exact n2 rfl) (fun c fz e => by cases e)).trans h2.symm⟩
set_option maxRecDepth 100000 in
set_option maxHeartbeats 1000000 in
theorem text_in (a : Option Addr) (c : Nat) (d : List UInt8) (w : World) (h : Rd w a d) (hdc : d.length ≤ c) (hl : d.length ≤ 1099511000000) :
    CallsIn Fence.wide 3 Try.prog 16 #[.slice a d.length c] w fun e w' => e = .returned (.string ⟨(text d).toArray⟩) ∧ Below w.heap.size w w' := by
  have hga : ∃ g o, 0 < d.length → a = some ⟨g, o, none⟩ ∧ g < w.heap.size := by
    by_cases hp : 0 < d.length
    · obtain ⟨b, off, e, hb, _⟩ := h.bytesAt hp
      exact ⟨b, off, fun _ => ⟨e, hb⟩⟩
    · exact ⟨0, 0, fun h2 => absurd h2 hp⟩
  obtain ⟨g, o, hga⟩ := hga
  have H := Lib.hid h
  have HGA := Lib.hid hga
  clear h hga
  refine callsIn_of_wp_marks Try.func16 rfl trivial ?_ rfl
  simp only [Try.ntmps16, List.size_toArray, List.length_cons, List.length_nil, Nat.reduceAdd, Nat.reduceSub, Array.replicate_succ, Array.replicate_zero, List.push_toArray, List.append_toArray, List.nil_append, List.cons_append]
  gi_wp2_with fail
  refine ⟨trivial, (callsIn_wide.2 (chunkS_any _ _ _ _)).mono ?_⟩
  rintro e w1 ⟨rfl, rfl⟩
  gi_wp2_with fail
  obtain ⟨W0, hW0⟩ : ∃ W0, w.alloc (.cells #[.pointer none, .slice none 0 0] 42) = W0 := ⟨_, rfl⟩
  have hI0 : Lib.IsBuilderF 42 5 w.heap.size w.heap.size [] W0 := by rw [← hW0]; exact Lib.IsBuilderF.of (Lib.fresh_isBuilder 42 5 w)
  have hb0 : Below w.heap.size w W0 := by rw [← hW0]; exact (Below.refl _ w).alloc (Nat.le_refl _) _
  have hs0 : W0.heap.size = w.heap.size + 1 := by rw [← hW0]; simp
  rw [hW0]
  obtain ⟨W5, hW5⟩ : ∃ W5, (W0.alloc (.cells #[.slice a d.length c] 22)).alloc (.cells #[.int .i64 3] 3) = W5 := ⟨_, rfl⟩
  have hb5 : Below W0.heap.size W0 W5 := by rw [← hW5]; exact ((Below.refl _ _).alloc (Nat.le_refl _) _).alloc (by simp) _
  have hs5 : W5.heap.size = W0.heap.size + 2 := by rw [← hW5]; simp
  have hI5 : Lib.IsBuilderF 42 5 w.heap.size w.heap.size [] W5 := by rw [← hW5]; exact (hI0.alloc _).alloc _
  have hq0 : W5.heap[W0.heap.size]? = some (.cells #[.slice a d.length c] 22 (0, 0)) := by
    rw [← hW5, heap_alloc_old _ _ (by simp), heap_alloc_new]
  have hq1 : W5.heap[W0.heap.size + 1]? = some (.cells #[.int .i64 3] 3 (0, 0)) := by
    rw [← hW5]
    have := heap_alloc_new (W0.alloc (.cells #[.slice a d.length c] 22)) (.cells #[.int .i64 3] 3)
    simpa using this
  have hbw : Below w.heap.size w W5 := hb0.trans (hb5.mono (by omega))
  rw [hW5]
  rw [hs0] at hq0 hq1
  refine wpIn_rangeFunc_ownG rfl (by omega) (gf := 40) (lb := #[.pointer (some ⟨w.heap.size + 1, 0, none⟩), .pointer (some ⟨w.heap.size + 1 + 1, 0, none⟩)]) rfl trivial (enters_of Try.func40 (by kernel_rfl) rfl)
    (chunkS_stops 2 (by omega) (w.heap.size + 1) (w.heap.size + 1 + 1) g o d.length c a (fun hp => (HGA.out hp).1) (by omega) hdc W5 hq0 hq1) Keep2.trans (Keep2.putObj (B := W5.heap.size) (by omega) (by omega)) (Below.refl _ _) (fun _ => rfl)
    (TInv w W5.heap.size d (.slice a d.length c) (.int .i64 3)) (fun _ _ _ => False) (TInv.own (by omega)) (fun _ _ _ _ _ hs _ _ => hs)
    ⟨hI5, by simp [textTo], hbw, Nat.le_refl _, hq0, hq1⟩
    (fun (y : Ck3 d.length) => { tmps := #[.slice a d.length c, undef, .string ⟨#[]⟩, .pointer (some ⟨w.heap.size, 0, none⟩), .slice (some ⟨g, o + 3 * y.1, none⟩) (ckLen3 d.length y.1) (ckLen3 d.length y.1), undef, undef, undef,
          .slice a d.length c, .func (.func 40) #[] #[.pointer (some ⟨w.heap.size + 1, 0, none⟩), .pointer (some ⟨w.heap.size + 1 + 1, 0, none⟩)], .slice (some ⟨g, o + 3 * y.1, none⟩) (ckLen3 d.length y.1) (ckLen3 d.length y.1),
          undef, undef, undef, undef, undef, undef, undef, undef, undef, undef, undef, undef, undef, undef, undef, undef, undef, undef, undef, undef, undef, undef, undef, undef, undef, undef, undef, undef, undef, undef, undef, undef, undef], defers := [] }) ?assign ?body ?done ?stop
  case assign =>
    intro l y W K hK
    simp only [encK3]
    gi_wp2
    exact hK
  case body =>
    rintro l pre y W ⟨h1, h2, h3, h4, h5, h6⟩ hlt
    obtain ⟨m, hm⟩ : ∃ m, ckLen3 d.length y.1 = m := ⟨_, rfl⟩
    obtain ⟨k, hky⟩ : ∃ k, 3 * y.1 = k := ⟨_, rfl⟩
    have hy2 := y.2
    have hmk : m = min 3 (d.length - k) := by rw [← hm, ← hky]; rfl
    rw [hky] at hy2
    have hm1 : 1 ≤ m := by omega
    have hm3 : m ≤ 3 := by omega
    have hkm : k + m ≤ d.length := by omega
    obtain ⟨rfl, hgw⟩ := HGA.out (by omega)
    obtain ⟨ch, hch⟩ : ∃ ch, piece d y.1 = ch := ⟨_, rfl⟩
    have hchl : ch.length = m := by rw [← hch]; unfold piece; rw [hky, List.length_take, List.length_drop]; omega
    have hM : Mid w W (textTo d pre) W := ⟨h1, h3, Lib.OthersKept.refl _ _ _, Nat.le_refl _⟩
    have hcell : ∀ wr, Below w.heap.size w wr → ∀ j, j < m → wr.cell? ⟨g, o + k + j, none⟩ = some (.int .u8 ((ch.getD j 0).toNat : Int)) := by
      intro wr hb j hj
      obtain ⟨b, off, e, hblt, hcs⟩ := (H.out.below hb).cells (by omega)
      cases e
      have hkj : k + j < d.length := by clear hchl; omega
      have := hcs (k + j) hkj
      rw [← Nat.add_assoc] at this
      rw [this]
      have e : ch.getD j 0 = d[k + j]'hkj := by
        have e2 : ch = (d.drop k).take 3 := by rw [← hch]; unfold piece; rw [hky]
        rw [e2, List.getD_eq_getElem?_getD, List.getElem?_take, if_pos (by omega), List.getElem?_drop, List.getElem?_eq_getElem (by omega)]
        rfl
      rw [e]
    have hpl : pre.length ≤ d.length := by omega
    have HM := Lib.hid hM; have H2 := Lib.hid h2; have H5 := Lib.hid h5; have H6 := Lib.hid h6; have HCH := Lib.hid hch; have HCL := Lib.hid hchl; have HC := Lib.hid hcell; have HMK := Lib.hid hm; have HKY := Lib.hid hky; have H4 := Lib.hid h4
    rw [hky, hm]
    have hgrp := grp_lt ch
    have HG := Lib.hid hgrp
    clear h1 h2 h3 h5 h6 hch hchl hcell hmk hm hky hq0 hq1 hI0 hb0 hI5 hW0 hW5 hgrp hM h4 hlt
    gi_wp2_with fail
    gi_loopw [11, 5] (fun i n wr => ∃ j : Nat, j ≤ 3 ∧ i = .int .i64 (j : Int) ∧ n = .int .i64 (grp ch j : Nat) ∧ Mid w W (textTo d pre) wr) (fun i n wr => 3 - (intOf i).toNat)
    case atStart => exact ⟨0, by omega, rfl, rfl, HM.out⟩
    case round =>
      obtain ⟨j, hj, rfl, rfl, hm⟩ := hrel
      have HMM := Lib.hid hm
      clear hm
      by_cases hend : j < 3
      · have hgj := HG.out j
        have hg2 : grp ch j < 65536 := Nat.lt_of_lt_of_le hgj (by
          have : j = 0 ∨ j = 1 ∨ j = 2 := by omega
          rcases this with rfl | rfl | rfl <;> simp)
        clear hgj
        by_cases hin : j < m
        · have hcj := HC.out wr HMM.out.2.1 j hin
          gi_wp2_with fail
          go_roundw
          case rel =>
            refine ⟨j + 1, by omega, by simp, ?_, HMM.out⟩
            refine congrArg (Value.int .i64) ?_
            exact grp_put ch j hg2
          case measure => simp [intOf]; omega
        · have hz : (ch.getD j 0).toNat = 0 := by rw [List.getD_eq_getElem?_getD, List.getElem?_eq_none (by rw [HCL.out]; omega)]; rfl
          have HZ := Lib.hid hz
          clear hz
          gi_wp2_with fail
          go_roundw
          case rel =>
            refine ⟨j + 1, by omega, by simp, ?_, HMM.out⟩
            refine congrArg (Value.int .i64) ?_
            rw [show grp ch (j + 1) = grp ch j * 256 + (ch.getD j 0).toNat from rfl, HZ.out]
            omega
          case measure => simp [intOf]; omega
      · obtain rfl : j = 3 := by omega
        have hg3 : grp ch 3 < 16777216 := HG.out 3
        obtain ⟨N, hN⟩ : ∃ N, grp ch 3 = N := ⟨_, rfl⟩
        have h3c : ((3 : Nat) : Int) = (3 : Int) := rfl
        rw [hN] at hg3
        rw [hN, h3c]
        have HN := Lib.hid hN
        clear hN
        gi_wp2_with fail
        gi_loopw [31] (fun i wr => ∃ q : Nat, q ≤ m + 1 ∧ i = .int .i64 (q : Int) ∧ Mid w W (textTo d pre ++ grpText ch q) wr) (fun i wr => 5 - (intOf i).toNat)
        case atStart => exact ⟨0, by omega, rfl, by simpa [grpText] using HMM.out⟩
        case round =>
          obtain ⟨q, hq, rfl, hm⟩ := hrel
          have HM2 := Lib.hid hm
          clear hm
          by_cases hend2 : q < m + 1
          · have hqq : q = 0 ∨ q = 1 ∨ q = 2 ∨ q = 3 := by omega
            have hlen : (Lib.byteCells (textTo d pre ++ grpText ch q)).length + 1 ≤ 140737488355328 := by
              rw [Lib.byteCells_length, List.length_append]
              have := H2.out
              simp only [grpText, List.length_map, List.length_range]
              omega
            have HLEN := Lib.hid hlen
            clear hlen
            rcases hqq with rfl | rfl | rfl | rfl
            · obtain ⟨v, hv, hb, hsg⟩ : ∃ v : Nat, v < 64 ∧ bits .and .i64 ((N : Int) / 262144) 63 = (v : Int) ∧ signAt N 0 = signs.getD v 0 := ⟨N / 2 ^ (18 - 6 * 0) % 64, by omega, idx0 N hg3, rfl⟩
              have hsv := signs_at v hv
              have HSG := Lib.hid hsg
              have HSV := Lib.hid hsv
              clear hsg hsv
              gi_wp2_with fail
              refine ⟨trivial, ?_⟩
              refine (CallsIn.inRound l (callsIn_wide.2 (Try.WriteByte_k w.heap.size w.heap.size _ _ wr HM2.out.1 HLEN.out (by have := HM2.out.2.1.size; omega)))).mono ?_
              rintro e w6 ⟨rfl, hI6, hb6, hk6⟩
              gi_wp2_with fail
              go_roundw
              case rel =>
                refine ⟨0 + 1, by omega, by simp, ?_⟩
                rw [HSV.out, ← HSG.out, ← HN.out] at hI6
                rw [grpText_succ, ← List.append_assoc]
                exact HM2.out.put hI6 hb6 hk6
              case measure => simp [intOf]
            · obtain ⟨v, hv, hb, hsg⟩ : ∃ v : Nat, v < 64 ∧ bits .and .i64 ((N : Int) / 4096) 63 = (v : Int) ∧ signAt N 1 = signs.getD v 0 := ⟨N / 2 ^ (18 - 6 * 1) % 64, by omega, idx1 N hg3, rfl⟩
              have hsv := signs_at v hv
              have HSG := Lib.hid hsg
              have HSV := Lib.hid hsv
              clear hsg hsv
              gi_wp2_with fail
              refine ⟨trivial, ?_⟩
              refine (CallsIn.inRound l (callsIn_wide.2 (Try.WriteByte_k w.heap.size w.heap.size _ _ wr HM2.out.1 HLEN.out (by have := HM2.out.2.1.size; omega)))).mono ?_
              rintro e w6 ⟨rfl, hI6, hb6, hk6⟩
              gi_wp2_with fail
              go_roundw
              case rel =>
                refine ⟨1 + 1, by omega, by simp, ?_⟩
                rw [HSV.out, ← HSG.out, ← HN.out] at hI6
                rw [grpText_succ, ← List.append_assoc]
                exact HM2.out.put hI6 hb6 hk6
              case measure => simp [intOf]
            · obtain ⟨v, hv, hb, hsg⟩ : ∃ v : Nat, v < 64 ∧ bits .and .i64 ((N : Int) / 64) 63 = (v : Int) ∧ signAt N 2 = signs.getD v 0 := ⟨N / 2 ^ (18 - 6 * 2) % 64, by omega, idx2 N hg3, rfl⟩
              have hsv := signs_at v hv
              have HSG := Lib.hid hsg
              have HSV := Lib.hid hsv
              clear hsg hsv
              gi_wp2_with fail
              refine ⟨trivial, ?_⟩
              refine (CallsIn.inRound l (callsIn_wide.2 (Try.WriteByte_k w.heap.size w.heap.size _ _ wr HM2.out.1 HLEN.out (by have := HM2.out.2.1.size; omega)))).mono ?_
              rintro e w6 ⟨rfl, hI6, hb6, hk6⟩
              gi_wp2_with fail
              go_roundw
              case rel =>
                refine ⟨2 + 1, by omega, by simp, ?_⟩
                rw [HSV.out, ← HSG.out, ← HN.out] at hI6
                rw [grpText_succ, ← List.append_assoc]
                exact HM2.out.put hI6 hb6 hk6
              case measure => simp [intOf]
            · obtain ⟨v, hv, hb, hsg⟩ : ∃ v : Nat, v < 64 ∧ bits .and .i64 (N : Int) 63 = (v : Int) ∧ signAt N 3 = signs.getD v 0 := ⟨N / 2 ^ (18 - 6 * 3) % 64, by omega, idx3 N hg3, rfl⟩
              have hsv := signs_at v hv
              have HSG := Lib.hid hsg
              have HSV := Lib.hid hsv
              clear hsg hsv
              gi_wp2_with fail
              refine ⟨trivial, ?_⟩
              refine (CallsIn.inRound l (callsIn_wide.2 (Try.WriteByte_k w.heap.size w.heap.size _ _ wr HM2.out.1 HLEN.out (by have := HM2.out.2.1.size; omega)))).mono ?_
              rintro e w6 ⟨rfl, hI6, hb6, hk6⟩
              gi_wp2_with fail
              go_roundw
              case rel =>
                refine ⟨3 + 1, by omega, by simp, ?_⟩
                rw [HSV.out, ← HSG.out, ← HN.out] at hI6
                rw [grpText_succ, ← List.append_assoc]
                exact HM2.out.put hI6 hb6 hk6
              case measure => simp [intOf]
          · obtain rfl : q = m + 1 := by omega
            gi_wp2_with fail
            have hM3 := HM2.out
            have hk2 := hM3.keep2 H5.out H6.out (by omega) (by omega)
            have htx : textTo d (pre ++ [y]) = textTo d pre ++ grpText ch (m + 1) := by rw [textTo_snoc, HCH.out, HCL.out]
            refine ⟨hM3.keeps (by omega), hk2, ?_, ?_, hM3.2.1, Nat.le_trans H4.out hM3.2.2.2, hk2.2.1.trans H5.out, hk2.2.2.trans H6.out⟩
            · rw [htx]; exact hM3.1
            · rw [htx, List.length_append, List.length_append]
              have := H2.out
              simp only [grpText, List.length_map, List.length_range, List.length_cons, List.length_nil]
              omega
  case done =>
    rintro D ys W hD hS hinv hK
    obtain ⟨h1, h2, h3, h4, h5, h6⟩ := hinv
    rw [textTo_all d ys hS] at h1
    have H1 := Lib.hid h1; have H3 := Lib.hid h3
    clear h1 h2 h3 h4 h5 h6 hq0 hq1 hI0 hb0 hI5 hW0 hW5 hb5 hbw hS
    gi_wp2_with fail
    refine ⟨trivial, (callsIn_wide.2 (Try.String_any_k w.heap.size w.heap.size (text d) W H1.out (by have := H3.out.size; omega))).mono ?_⟩
    rintro e w7 ⟨rfl, hI7, hb7, hk7⟩
    have hK7 := hk7 D _ hK (by intro e; cases e; omega) (by intro c fz e; cases e)
    have HI7 := Lib.hid hI7; have HB7 := Lib.hid (H3.out.trans hb7)
    clear hI7 hb7 hk7 hK
    gi_wp2_with fail
    refine ⟨by simp, .inl ⟨_, _, rfl, run_takeDeferred hK7, ?_⟩⟩
    exact ⟨_, results_tmp rfl _ _ _, rfl, HB7.out.trans (belowK_b (w := w) (Nat.le_refl _) w7 D _ _ (by omega) hK7 rfl rfl)⟩
  case stop =>
    rintro D c pre W hD hS hout hK
    exact hout.elim
theorem text_any (a : Option Addr) (c : Nat) (d : List UInt8) (w : World) (h : Rd w a d) (hdc : d.length ≤ c) (hl : d.length ≤ 1099511000000) :
    Calls Try.prog 16 #[.slice a d.length c] w fun e w' => e = .returned (.string ⟨(text d).toArray⟩) ∧ Below w.heap.size w w' :=
  callsIn_wide.1 (text_in a c d w h hdc hl)
end Go.Proofs.Ytnhljemnebgekaa

/-
  The function Bytes of the package seal, called on any text, returns the bytes that it stands for, or that it stands for none.
-/
namespace Go.Proofs.Ytnhljemnebgekaa
open Go.RowKit Go.Shelf Sha Go.Proofs.YtnhljemnebgekaaW.PrintWords
set_option linter.unusedSimpArgs false
/-- A sign's number, below 0 where it is none. -/
def sgn (c : UInt8) : Int := Lib.indexByte signs c
/-- What a text of signs stands for, from a state of the reader on. -/
def unGo : List UInt8 → Nat → Nat → List UInt8 → Option (List UInt8)
  | [], b, n, out => if 6 ≤ b ∨ n % 2 ^ b ≠ 0 then none else some out
  | c :: l, b, n, out =>
    if sgn c < 0 then none
    else if 8 ≤ b + 6 then unGo l (b - 2) ((n * 64 + (sgn c).toNat) % 65536) (out ++ [UInt8.ofNat ((n * 64 + (sgn c).toNat) % 65536 / 2 ^ (b - 2))])
    else unGo l (b + 6) ((n * 64 + (sgn c).toNat) % 65536) out
def unText (l : List UInt8) : Option (List UInt8) := unGo l 0 0 []
def SG : ByteArray := ⟨#[65, 66, 67, 68, 69, 70, 71, 72, 73, 74, 75, 76, 77, 78, 79, 80, 81, 82, 83, 84, 85, 86, 87, 88, 89, 90, 97, 98, 99, 100, 101, 102, 103, 104, 105, 106, 107, 108, 109, 110, 111, 112, 113, 114, 115, 116, 117, 118, 119, 120, 121, 122, 48, 49, 50, 51, 52, 53, 54, 55, 56, 57, 45, 95]⟩
theorem SG_list : SG.data.toList = signs := rfl
theorem SG_ascii : AsciiAll SG := by
  have : ∀ b ∈ signs, b.toNat < 128 := by decide
  exact this
theorem SG_size : SG.size = 64 := rfl
theorem indexByte_le : ∀ (l : List UInt8) (c : UInt8), Lib.indexByte l c < l.length
  | [], _ => by simp [Lib.indexByte]
  | b :: l, c => by
    have := indexByte_le l c
    unfold Lib.indexByte
    rw [List.length_cons]
    split
    · omega
    · split <;> omega
theorem sgn_lt (c : UInt8) : sgn c < 64 := indexByte_le signs c
theorem sgn_ge (c : UInt8) : -1 ≤ sgn c := Lib.indexByte_ge signs c
theorem sgn_far (c : UInt8) (h : 128 ≤ c.toNat) : sgn c = -1 := by
  refine indexByte_none signs c fun b hb e => ?_
  have := SG_ascii b hb
  rw [e] at this
  omega
theorem idx_near (c : UInt8) (hc : c.toNat < 128) (w : World) :
    Calls Try.prog 33 #[.string SG, .int .i32 c.toNat] w fun e w' => e = .returned (.int .i64 (sgn c)) ∧ w' = w := by
  have h := Try.strings_IndexRune_ascii SG (c.toNat : Int) w (by omega) (by omega)
  have e1 : ((c.toNat : Int).toNat.toUInt8) = c := by simp
  rw [e1] at h
  exact h
theorem idx_far (r : Nat) (h1 : 128 ≤ r) (h2 : r ≤ 1114111) (h3 : ¬ (55296 ≤ r ∧ r ≤ 57343)) (w : World) :
    Calls Try.prog 33 #[.string SG, .int .i32 r] w fun e w' => e = .returned (.int .i64 (-1)) ∧ Below w.heap.size w w' := by
  by_cases h : r = 65533
  · subst h
    exact indexRune_bad SG SG_ascii (by rw [SG_size]; omega) w
  · exact indexRune_far SG SG_ascii (by rw [SG_size]; omega) (by rw [SG_size]; omega) r (by omega) (by omega) (by omega) (by omega) w
/-- The rune that a byte beyond ASCII begins is beyond ASCII. -/
theorem decode_far (s : ByteArray) (pos : Nat) (h : pos < s.size) (hc : 128 ≤ (s[pos]'h).toNat) : 128 ≤ (Utf8.decode s pos).1 ∧ (Utf8.decode s pos).1 ≤ 1114111 ∧ ¬ (55296 ≤ (Utf8.decode s pos).1 ∧ (Utf8.decode s pos).1 ≤ 57343) := by
  rw [Lib.decode_N]
  have e : (s.data.toList.getD pos 0).toNat = (s[pos]'h).toNat := by
    rw [List.getD_eq_getElem?_getD, List.getElem?_eq_getElem (show pos < s.data.toList.length from h)]
    rfl
  rw [e]
  have k1 := (s.data.toList.getD (pos + 1) 0).toNat_lt
  have k2 := (s.data.toList.getD (pos + 2) 0).toNat_lt
  have k3 := (s.data.toList.getD (pos + 3) 0).toNat_lt
  have k0 := (s[pos]'h).toNat_lt
  generalize (s[pos]'h).toNat = b0 at *
  generalize (s.data.toList.getD (pos + 1) 0).toNat = b1 at *
  generalize (s.data.toList.getD (pos + 2) 0).toNat = b2 at *
  generalize (s.data.toList.getD (pos + 3) 0).toNat = b3 at *
  rcases Lib.decodeN_shape (s.data.toList.length - pos) b0 b1 b2 b3 with ⟨c, e⟩ | ⟨c1, c2, c3, cv, e⟩ | ⟨c1, c2, c3, c4, cv, cs, e⟩ | ⟨c1, c2, c3, c4, c5, cv, cs, e⟩ | e <;> rw [e] <;> dsimp only <;> omega
theorem unGo_end (b n : Nat) (out : List UInt8) : unGo [] b n out = if 6 ≤ b ∨ n % 2 ^ b ≠ 0 then none else some out := by rw [unGo]
theorem unGo_bad (c : UInt8) (l : List UInt8) (b n : Nat) (out : List UInt8) (h : sgn c < 0) : unGo (c :: l) b n out = none := by rw [unGo, if_pos h]
theorem drop_at (s : ByteArray) (pos : Nat) (h : pos < s.size) : s.data.toList.drop pos = (s[pos]'h) :: s.data.toList.drop (pos + 1) := List.drop_eq_getElem_cons (l := s.data.toList) h
theorem one_read (w : World) (y : Int) (T : TypeId) : (Kd.int .u8).C (w.alloc (.cells #[.int .u8 y] T)) (some ⟨w.heap.size, 0, none⟩) 1 [y] := by
  refine Kd.C_of_reads (d := (0 : Int)) ⟨rfl, by omega, fun _ => ⟨_, rfl, fun j hj => ?_⟩⟩
  rw [Addr.add_mid, Nat.zero_add, cell_of_row _ _ j _ T (0, 0) (heap_alloc_new w _)]
  have : j = 0 := by omega
  subst this
  rfl
theorem iterAt_grown {W : World} {k : Nat} {s : ByteArray} {pos : Nat} (hit : W.heap[k]? = some (.stringIter s pos)) (pos' : Nat) : W.grownBy (W.iterAt k s pos') (some k) :=
  ⟨rfl, rfl, rfl, by rw [Lib.iterAt_size]; exact Nat.le_refl _, fun j hj hne => Lib.iterAt_other W k j s pos' (fun e => hne (by rw [e]))⟩
theorem iter_size {W : World} {k : Nat} {s : ByteArray} {pos : Nat} (hit : W.heap[k]? = some (.stringIter s pos)) (pos' : Nat) : k + 1 ≤ (W.iterAt k s pos').heap.size := by
  rw [Lib.iterAt_size]
  exact (Array.getElem?_eq_some_iff.1 hit).1
theorem ownB_iter {W : World} {k base : Nat} {s : ByteArray} {pos : Nat} {v : Value} {l : List UInt8} (hit : W.heap[k]? = some (.stringIter s pos)) (h : OwnB W base v l) (pos' : Nat) : OwnB (W.iterAt k s pos') base v l :=
  h.walk (iterAt_grown hit pos') (fun r e => by cases e; exact ⟨_, hit, rfl⟩)
/-- Between two rounds of the reader. -/
def UnRel (w : World) (s : ByteArray) (v bb nn : Value) (wr : World) : Prop := ∃ pos b n out, wr.heap[w.heap.size]? = some (.stringIter s pos) ∧ OwnB wr (w.heap.size + 1) v out ∧ Below w.heap.size w wr ∧ bb = .int .i64 (b : Nat) ∧ nn = .int .i64 (n : Nat) ∧ n < 65536 ∧ (b = 0 ∨ b = 2 ∨ b = 4 ∨ b = 6) ∧ pos ≤ s.size ∧ unGo (s.data.toList.drop pos) b n out = unText s.data.toList ∧ out.length ≤ pos
theorem un_keep {w W : World} {s : ByteArray} {pos n d m : Nat} {x : UInt8} {v : Value} {out : List UInt8} (hp : pos < s.size) (hx : s[pos]'hp = x) (hd : sgn x = (d : Int)) (hm : (n * 64 + d) % 65536 = m) (hun : unGo (s.data.toList.drop pos) 0 n out = unText s.data.toList) (hol : out.length ≤ pos)
    (hit : W.heap[w.heap.size]? = some (.stringIter s (pos + 1))) (hbw : Below w.heap.size w W) (hown : OwnB W (w.heap.size + 1) v out) : UnRel w s v (.int .i64 6) (.int .i64 (m : Int)) W := by
  refine ⟨pos + 1, 6, m, out, hit, hown, hbw, rfl, rfl, by omega, by omega, by omega, ?_, by omega⟩
  rw [← hun, drop_at s pos hp, hx]
  conv => rhs; unfold unGo
  rw [if_neg (by omega), if_neg (by omega), hd, Int.toNat_natCast, hm]
theorem un_put {w W W1 w2 : World} {s : ByteArray} {pos b n d m : Nat} {x : UInt8} {v1 : Value} {out : List UInt8} {y : Int} {o : Obj} (hp : pos < s.size) (hx : s[pos]'hp = x) (hd : sgn x = (d : Int)) (hm : (n * 64 + d) % 65536 = m) (hun : unGo (s.data.toList.drop pos) b n out = unText s.data.toList) (hol : out.length ≤ pos)
    (hit : W.heap[w.heap.size]? = some (.stringIter s (pos + 1))) (hbw : Below w.heap.size w W) (hW1 : W.alloc o = W1) (hR : Kd.R (Kd.int .u8) 5 w2 (w.heap.size + 1) (fun _ => True) v1 (intsB out ++ [y])) (hB2 : Below (w.heap.size + 1) W1 w2) (hb : b = 2 ∨ b = 4 ∨ b = 6) (hy : y = ((m / 2 ^ (b - 2) : Nat) : Int) % 256) :
    UnRel w s v1 (.int .i64 ((b - 2 : Nat) : Int)) (.int .i64 (m : Int)) w2 ∧ w2.heap[w.heap.size]? = some (.stringIter s (pos + 1)) := by
  have hlt : w.heap.size < W.heap.size := (Array.getElem?_eq_some_iff.1 hit).1
  have hb1 : Below (w.heap.size + 1) W W1 := by rw [← hW1]; exact (Below.refl _ _).alloc (by omega) _
  have hB := hb1.trans hB2
  have hit2 : w2.heap[w.heap.size]? = some (.stringIter s (pos + 1)) := (hB.block w.heap.size (by omega)).trans hit
  refine ⟨⟨pos + 1, b - 2, m, out ++ [UInt8.ofNat (m / 2 ^ (b - 2))], hit2, ?_, hbw.trans (hB.mono (by omega)), rfl, rfl, by omega, by omega, by omega, ?_, by simp; omega⟩, hit2⟩
  · unfold OwnB
    have e : intsB (out ++ [UInt8.ofNat (m / 2 ^ (b - 2))]) = intsB out ++ [y] := by
      rw [intsB_append, hy]
      refine congrArg (intsB out ++ [·]) ?_
      show (((UInt8.ofNat (m / 2 ^ (b - 2))).toNat : Nat) : Int) = _
      rw [UInt8.toNat_ofNat']
      omega
    rw [e]; exact hR
  · rw [← hun, drop_at s pos hp, hx]
    conv => rhs; unfold unGo
    rw [if_neg (by omega), if_pos (by omega), hd, Int.toNat_natCast, hm]
def UnTold (w : World) (l : List UInt8) (e : Ending) (w' : World) : Prop :=
  (∃ out v, unText l = some out ∧ e = .returned (.tuple #[v, .bool true]) ∧ OwnB w' w.heap.size v out ∧ Below w.heap.size w w') ∨ (unText l = none ∧ e = .returned (.tuple #[.slice none 0 0, .bool false]) ∧ Below w.heap.size w w')
set_option maxRecDepth 100000 in
set_option maxHeartbeats 1000000 in
theorem bytes_any (s : ByteArray) (hs : s.size ≤ 140737488351232) (w : World) : Calls Try.prog 22 #[.string s] w (UnTold w s.data.toList) := by
  go_enter Try.func22, Try.ntmps22
  go_wp2_with fail
  go_loopw [4, 5, 6] (fun v bb nn wr => UnRel w s v bb nn wr) (fun v bb nn wr => s.size - wr.iterPos w.heap.size)
  case atStart => exact ⟨0, 0, 0, [], World.iter_heap w s 0, OwnB.nil _ _, (Below.refl _ w).alloc (Nat.le_refl _) _, rfl, rfl, by omega, .inl rfl, Nat.zero_le _, rfl, Nat.le_refl _⟩
  case round =>
    obtain ⟨pos, b, n, out, hit, hown, hbw, rfl, rfl, hn, hb, hps, hun, hol⟩ := hrel
    obtain ⟨av, cv, rfl, hcv, hrv⟩ := hown.reads
    have HO := Lib.hid hown; have HUN := Lib.hid hun
    clear hown hun hrv
    by_cases hp : pos < s.size
    · obtain ⟨x, hx⟩ : ∃ x, s[pos]'hp = x := ⟨_, rfl⟩
      by_cases hxa : x.toNat < 128
      · have hnx : ∀ ty, (Instr.next (.pointer (some ⟨w.heap.size, 0, none⟩)) true ty).run Try.prog wr = .ok (.tuple #[.bool true, .int .i64 pos, .int .i32 x.toNat]) (wr.iterAt w.heap.size s (pos + 1)) := fun ty => by
          rw [Lib.run_next_ascii_at wr w.heap.size s pos ty hit hp (by rw [hx]; exact hxa), hx]
        have HIT := Lib.hid (Lib.iterAt_heap wr w.heap.size s pos (pos + 1) hit)
        have HBW := Lib.hid (Lib.below_iterAt hbw (k := w.heap.size) (Nat.le_refl _) s (pos + 1))
        have HI0 := Lib.hid hit
        have HX := Lib.hid hx
        have HSI := Lib.hid (idx_near x hxa)
        have HOA := Lib.hid (ownB_iter hit HO.out (pos + 1))
        have HSZ := Lib.hid (iter_size hit (pos + 1))
        clear hit hbw hx
        by_cases hsg : sgn x < 0
        · go_wp2_with fail
          refine (HSI.out _).mono ?_
          rintro e w3 ⟨rfl, rfl⟩
          go_wp2_with fail
          go_ret2
          refine .inr ⟨?_, rfl, HBW.out⟩
          rw [← HUN.out, drop_at s pos hp, unGo_bad _ _ _ _ _ (by rw [HX.out]; exact hsg)]
        · obtain ⟨d, hd⟩ : ∃ d : Nat, sgn x = (d : Int) := ⟨(sgn x).toNat, by omega⟩
          have hd64 : d < 64 := by have := sgn_lt x; omega
          have hor : bits .or .i64 ((n : Int) * 64) (d : Int) = (n : Int) * 64 + (d : Int) := by
            have := i64_put n d 6 hd64 (by omega)
            rw [show (2 : Nat) ^ 6 = 64 from rfl] at this
            push_cast at this
            exact this
          obtain ⟨m, hm⟩ : ∃ m, (n * 64 + d) % 65536 = m := ⟨_, rfl⟩
          have hand : bits .and .i64 ((n : Int) * 64 + (d : Int)) 65535 = (m : Int) := by
            have := i64_low (n * 64 + d) 16 (by omega) (by omega)
            rw [show ((2 ^ 16 - 1 : Nat) : Int) = 65535 from rfl, show (2 : Nat) ^ 16 = 65536 from rfl, hm] at this
            push_cast at this
            exact this
          have hm65 : m < 65536 := by rw [← hm]; omega
          have HD := Lib.hid hd; have HM := Lib.hid hm
          have hsi := HSI.out
          rw [hd] at hsi
          have HSI2 := Lib.hid hsi
          clear hsi hd hm HSI hsg
          rcases hb with rfl | rfl | rfl | rfl
          · go_wp2_with fail
            refine (HSI2.out _).mono ?_
            rintro e w3 ⟨rfl, rfl⟩
            go_wp2_with fail
            go_roundw
            case rel => exact un_keep hp HX.out HD.out HM.out HUN.out hol HIT.out HBW.out HOA.out
            case measure => simp only [World.iterPos, HIT.out, HI0.out]; omega
          · go_wp2_with fail
            refine (HSI2.out _).mono ?_
            rintro e w3 ⟨rfl, rfl⟩
            go_wp2_with (at_builtin; refine Kd.R_append_row (Value.int .u8) (0 : Int) (h1 := fun _ => rfl) (w0 := (wr.iterAt w.heap.size s (pos + 1)).alloc (.cells #[.int .u8 ((m : Int) % 256)] 5)) (w.heap.size + 1) rfl _ _ 22 5 (.int .u8 0) 1 rfl Try.underlying22 infoB rfl (by decide) _ (intsB out) [(m : Int) % 256] (some ⟨(wr.iterAt w.heap.size s (pos + 1)).heap.size, 0, none⟩) 1 1 (fun _ => True) rfl rfl (fun _ _ => trivial) ?k1 ?k2 (Below.refl _ _) ?k4 ?k5 ?_)
            case k1 => exact HOA.out.below (below_alloc (Below.refl _ _) _)
            case k2 => exact one_read _ _ 5
            case k4 => have := HSZ.out; simp; omega
            case k5 => rw [intsB_length]; omega
            intro v1 w2 hR hB2 _ _
            have HR2 := Lib.hid (un_put (b := 2) hp HX.out HD.out HM.out HUN.out hol HIT.out HBW.out rfl hR hB2 (by omega) (by first | (show (m : Int) % 256 = ((m / 1 : Nat) : Int) % 256; omega) | (show (m : Int) / 4 % 256 = ((m / 4 : Nat) : Int) % 256; omega) | (show (m : Int) / 16 % 256 = ((m / 16 : Nat) : Int) % 256; omega)))
            clear hR hB2
            go_wp2_with fail
            go_roundw
            case rel => exact HR2.out.1
            case measure => simp only [World.iterPos, HR2.out.2, HI0.out]; omega
          · go_wp2_with fail
            refine (HSI2.out _).mono ?_
            rintro e w3 ⟨rfl, rfl⟩
            go_wp2_with (at_builtin; refine Kd.R_append_row (Value.int .u8) (0 : Int) (h1 := fun _ => rfl) (w0 := (wr.iterAt w.heap.size s (pos + 1)).alloc (.cells #[.int .u8 ((m : Int) / 4 % 256)] 5)) (w.heap.size + 1) rfl _ _ 22 5 (.int .u8 0) 1 rfl Try.underlying22 infoB rfl (by decide) _ (intsB out) [(m : Int) / 4 % 256] (some ⟨(wr.iterAt w.heap.size s (pos + 1)).heap.size, 0, none⟩) 1 1 (fun _ => True) rfl rfl (fun _ _ => trivial) ?k1 ?k2 (Below.refl _ _) ?k4 ?k5 ?_)
            case k1 => exact HOA.out.below (below_alloc (Below.refl _ _) _)
            case k2 => exact one_read _ _ 5
            case k4 => have := HSZ.out; simp; omega
            case k5 => rw [intsB_length]; omega
            intro v1 w2 hR hB2 _ _
            have HR2 := Lib.hid (un_put (b := 4) hp HX.out HD.out HM.out HUN.out hol HIT.out HBW.out rfl hR hB2 (by omega) (by first | (show (m : Int) % 256 = ((m / 1 : Nat) : Int) % 256; omega) | (show (m : Int) / 4 % 256 = ((m / 4 : Nat) : Int) % 256; omega) | (show (m : Int) / 16 % 256 = ((m / 16 : Nat) : Int) % 256; omega)))
            clear hR hB2
            go_wp2_with fail
            go_roundw
            case rel => exact HR2.out.1
            case measure => simp only [World.iterPos, HR2.out.2, HI0.out]; omega
          · go_wp2_with fail
            refine (HSI2.out _).mono ?_
            rintro e w3 ⟨rfl, rfl⟩
            go_wp2_with (at_builtin; refine Kd.R_append_row (Value.int .u8) (0 : Int) (h1 := fun _ => rfl) (w0 := (wr.iterAt w.heap.size s (pos + 1)).alloc (.cells #[.int .u8 ((m : Int) / 16 % 256)] 5)) (w.heap.size + 1) rfl _ _ 22 5 (.int .u8 0) 1 rfl Try.underlying22 infoB rfl (by decide) _ (intsB out) [(m : Int) / 16 % 256] (some ⟨(wr.iterAt w.heap.size s (pos + 1)).heap.size, 0, none⟩) 1 1 (fun _ => True) rfl rfl (fun _ _ => trivial) ?k1 ?k2 (Below.refl _ _) ?k4 ?k5 ?_)
            case k1 => exact HOA.out.below (below_alloc (Below.refl _ _) _)
            case k2 => exact one_read _ _ 5
            case k4 => have := HSZ.out; simp; omega
            case k5 => rw [intsB_length]; omega
            intro v1 w2 hR hB2 _ _
            have HR2 := Lib.hid (un_put (b := 6) hp HX.out HD.out HM.out HUN.out hol HIT.out HBW.out rfl hR hB2 (by omega) (by first | (show (m : Int) % 256 = ((m / 1 : Nat) : Int) % 256; omega) | (show (m : Int) / 4 % 256 = ((m / 4 : Nat) : Int) % 256; omega) | (show (m : Int) / 16 % 256 = ((m / 16 : Nat) : Int) % 256; omega)))
            clear hR hB2
            go_wp2_with fail
            go_roundw
            case rel => exact HR2.out.1
            case measure => simp only [World.iterPos, HR2.out.2, HI0.out]; omega
      · obtain ⟨r, hr⟩ : ∃ r, (Utf8.decode s pos).1 = r := ⟨_, rfl⟩
        have hfar := decode_far s pos hp (by rw [hx]; omega)
        rw [hr] at hfar
        have hnx : ∀ ty, (Instr.next (.pointer (some ⟨w.heap.size, 0, none⟩)) true ty).run Try.prog wr = .ok (.tuple #[.bool true, .int .i64 pos, .int .i32 r]) (wr.iterAt w.heap.size s (pos + (Utf8.decode s pos).2)) := fun ty => by
          rw [Lib.run_next_any_at wr w.heap.size s pos ty hit hp, hr]
        have HBW := Lib.hid (Lib.below_iterAt hbw (k := w.heap.size) (Nat.le_refl _) s (pos + (Utf8.decode s pos).2))
        have HSI := Lib.hid (idx_far r hfar.1 hfar.2.1 hfar.2.2)
        obtain ⟨W1, hW1⟩ : ∃ W1, wr.iterAt w.heap.size s (pos + (Utf8.decode s pos).2) = W1 := ⟨_, rfl⟩
        have HSZ := Lib.hid (iter_size hit (pos + (Utf8.decode s pos).2))
        rw [hW1] at hnx HBW HSZ
        have hno : unText s.data.toList = none := by
          rw [← HUN.out, drop_at s pos hp, unGo_bad _ _ _ _ _ (by rw [hx, sgn_far x (by omega)]; omega)]
        have HNO := Lib.hid hno
        clear hit hbw hx hfar hr hW1 hno
        go_wp2_with fail
        refine (HSI.out _).mono ?_
        rintro e w3 ⟨rfl, hb3⟩
        have HB3 := Lib.hid (HBW.out.trans (hb3.mono (by have := HSZ.out; omega)))
        clear hb3
        go_wp2_with fail
        go_ret2
        exact .inr ⟨HNO.out, rfl, HB3.out⟩
    · have hnx : ∀ ty, (Instr.next (.pointer (some ⟨w.heap.size, 0, none⟩)) true ty).run Try.prog wr = _ := fun ty => Lib.run_next_end_at wr w.heap.size s pos ty hit hp
      have hpe : pos = s.size := by omega
      have hfin : unText s.data.toList = if 6 ≤ b ∨ n % 2 ^ b ≠ 0 then none else some out := by
        rw [← HUN.out, List.drop_of_length_le (by rw [hpe]; exact Nat.le_refl _), unGo_end]
      have HFIN := Lib.hid hfin
      have HBW := Lib.hid hbw
      clear hfin hbw hpe
      rcases hb with rfl | rfl | rfl | rfl
      · have hand : bits .and .i64 (n : Int) 0 = 0 := by
          have := i64_low n 0 (by omega) (by omega)
          rw [show ((2 ^ 0 - 1 : Nat) : Int) = 0 from rfl, show (2 : Nat) ^ 0 = 1 from rfl, Nat.mod_one] at this
          exact this
        go_wp2_with fail
        go_ret2
        exact .inl ⟨out, _, by rw [HFIN.out, if_neg (by simp; omega)], rfl, HO.out.lower (by omega), HBW.out⟩
      · by_cases hq : n % 4 = 0
        · have hand : bits .and .i64 (n : Int) 3 = 0 := by
            have := i64_low n 2 (by omega) (by omega)
            rw [show ((2 ^ 2 - 1 : Nat) : Int) = 3 from rfl, show (2 : Nat) ^ 2 = 4 from rfl, hq] at this
            exact this
          have HQ := Lib.hid hq
          clear hq
          go_wp2_with fail
          go_ret2
          exact .inl ⟨out, _, by rw [HFIN.out, if_neg (by have := HQ.out; simp; omega)], rfl, HO.out.lower (by omega), HBW.out⟩
        · obtain ⟨q, hqq⟩ : ∃ q, n % 4 = q := ⟨_, rfl⟩
          have hand : bits .and .i64 (n : Int) 3 = (q : Int) := by
            have := i64_low n 2 (by omega) (by omega)
            rw [show ((2 ^ 2 - 1 : Nat) : Int) = 3 from rfl, show (2 : Nat) ^ 2 = 4 from rfl, hqq] at this
            exact this
          rw [hqq] at hq
          have hne : ((q : Int) != 0) = true := by simp; omega
          have HQ := Lib.hid hqq; have HQN := Lib.hid hq
          clear hqq hq
          go_wp2_with fail
          go_ret2
          exact .inr ⟨by rw [HFIN.out, if_pos (.inr (by rw [show (2 : Nat) ^ 2 = 4 from rfl, HQ.out]; exact HQN.out))], rfl, HBW.out⟩
      · by_cases hq : n % 16 = 0
        · have hand : bits .and .i64 (n : Int) 15 = 0 := by
            have := i64_low n 4 (by omega) (by omega)
            rw [show ((2 ^ 4 - 1 : Nat) : Int) = 15 from rfl, show (2 : Nat) ^ 4 = 16 from rfl, hq] at this
            exact this
          have HQ := Lib.hid hq
          clear hq
          go_wp2_with fail
          go_ret2
          exact .inl ⟨out, _, by rw [HFIN.out, if_neg (by have := HQ.out; simp; omega)], rfl, HO.out.lower (by omega), HBW.out⟩
        · obtain ⟨q, hqq⟩ : ∃ q, n % 16 = q := ⟨_, rfl⟩
          have hand : bits .and .i64 (n : Int) 15 = (q : Int) := by
            have := i64_low n 4 (by omega) (by omega)
            rw [show ((2 ^ 4 - 1 : Nat) : Int) = 15 from rfl, show (2 : Nat) ^ 4 = 16 from rfl, hqq] at this
            exact this
          rw [hqq] at hq
          have hne : ((q : Int) != 0) = true := by simp; omega
          have HQ := Lib.hid hqq; have HQN := Lib.hid hq
          clear hqq hq
          go_wp2_with fail
          go_ret2
          exact .inr ⟨by rw [HFIN.out, if_pos (.inr (by rw [show (2 : Nat) ^ 4 = 16 from rfl, HQ.out]; exact HQN.out))], rfl, HBW.out⟩
      · go_wp2_with fail
        go_ret2
        exact .inr ⟨by rw [HFIN.out, if_pos (.inl (by omega))], rfl, HBW.out⟩
end Go.Proofs.Ytnhljemnebgekaa

/-
  What the functions of these laws compute, as plain Lean functions, and that the machine's calls compute it: written by this session's own hook over the kit's print.
-/
namespace Go.Proofs.Ytnhljemnebgekaa.Rt
open Go.RowKit Go.Proofs.YtnhljemnebgekaaW.PrintWords Go.Proofs.YtnhljemnebgekaaW.PrintLast Go.Proofs.YtnhljemnebgekaaW.PrintMore
attribute [local go_sem] u32_sg u32_mx u64_sg u64_mx
attribute [local go_sem] max2_int min2_int max_two min_two max_three min_three max_four min_four   -- for this text's walks alone
set_option linter.unusedVariables false
set_option linter.unusedSimpArgs false



def errW : Option Int → Value
  | none => .nilIface
  | some c => .iface 0 (.int .i64 c)
theorem errW_none : errW none = .nilIface := rfl
theorem errW_some (c : Int) : errW (some c) = .iface 0 (.int .i64 c) := rfl

theorem info5 : (Try.prog.info? 5).map (fun i => (i.zero, i.size, i.bytes)) = some (some (.int .u8 0), 1, 1) := by kernel_rfl
-- the values' own types

end Go.Proofs.Ytnhljemnebgekaa.Rt

/-
  What the functions of these laws compute, as plain Lean functions, and that the machine's calls compute it: written by this session's own hook over the kit's print.
-/
namespace Go.Proofs.Ytnhljemnebgekaa.Rt
open Go.RowKit Go.Proofs.YtnhljemnebgekaaW.PrintWords Go.Proofs.YtnhljemnebgekaaW.PrintLast Go.Proofs.YtnhljemnebgekaaW.PrintMore
attribute [local go_sem] u32_sg u32_mx u64_sg u64_mx
attribute [local go_sem] max2_int min2_int max_two min_two max_three min_three max_four min_four   -- for this text's walks alone
set_option linter.unusedVariables false
set_option linter.unusedSimpArgs false

/-! ### heliastref05_Text: function 12 -/
mutual
def heliastref05_Text.l0 : Nat → List Int → ByteArray → Int → Option (ByteArray)
  | 0, _, _, _ => none
  | k + 1, x0, x3, x4 => if x4 < (x0.length : Int) then (heliastref05_Text.l1 k x0 x3 x4 0 (mn (wrap64 ((x0.length : Int) - x4)) 3) 0) else (some x3)
def heliastref05_Text.l1 : Nat → List Int → ByteArray → Int → Int → Int → Int → Option (ByteArray)
  | 0, _, _, _, _, _, _ => none
  | k + 1, x0, x3, x4, x5, x6, x7 => if x7 < 3 then (if x7 < x6 then (if 0 ≤ (wrap64 (x4 + x7)) then (if (wrap64 (x4 + x7)) < (x0.length : Int) then (heliastref05_Text.l1 k x0 x3 x4 (wrap64 ((wrap64 (256 * x5)) + (wrap64 (rd x0 (wrap64 (x4 + x7)))))) x6 (wrap64 (x7 + 1))) else (none)) else (none)) else (heliastref05_Text.l1 k x0 x3 x4 (wrap64 (256 * x5)) x6 (wrap64 (x7 + 1)))) else (heliastref05_Text.l2 k x0 x3 x4 x5 x6 0)
def heliastref05_Text.l2 : Nat → List Int → ByteArray → Int → Int → Int → Int → Option (ByteArray)
  | 0, _, _, _, _, _, _ => none
  | k + 1, x0, x3, x4, x5, x6, x8 => if x8 ≤ x6 then (if 0 ≤ (IntKind.u64.wrap (wrap64 (18 - (wrap64 (6 * x8))))) then (if 0 ≤ (Int.tmod (shr .i64 x5 (IntKind.u64.wrap (wrap64 (18 - (wrap64 (6 * x8)))))) 64) then (if (Int.tmod (shr .i64 x5 (IntKind.u64.wrap (wrap64 (18 - (wrap64 (6 * x8)))))) 64) ≤ (wrap64 ((Int.tmod (shr .i64 x5 (IntKind.u64.wrap (wrap64 (18 - (wrap64 (6 * x8)))))) 64) + 1)) then (if (wrap64 ((Int.tmod (shr .i64 x5 (IntKind.u64.wrap (wrap64 (18 - (wrap64 (6 * x8)))))) 64) + 1)) ≤ 64 then (if x3.size + ((⟨#[65, 66, 67, 68, 69, 70, 71, 72, 73, 74, 75, 76, 77, 78, 79, 80, 81, 82, 83, 84, 85, 86, 87, 88, 89, 90, 97, 98, 99, 100, 101, 102, 103, 104, 105, 106, 107, 108, 109, 110, 111, 112, 113, 114, 115, 116, 117, 118, 119, 120, 121, 122, 48, 49, 50, 51, 52, 53, 54, 55, 56, 57, 45, 95]⟩ : ByteArray).extract ((Int.tmod (shr .i64 x5 (IntKind.u64.wrap (wrap64 (18 - (wrap64 (6 * x8)))))) 64) : Int).toNat ((wrap64 ((Int.tmod (shr .i64 x5 (IntKind.u64.wrap (wrap64 (18 - (wrap64 (6 * x8)))))) 64) + 1)) : Int).toNat).size ≤ 9223372036854775807 then (heliastref05_Text.l2 k x0 (x3 ++ ((⟨#[65, 66, 67, 68, 69, 70, 71, 72, 73, 74, 75, 76, 77, 78, 79, 80, 81, 82, 83, 84, 85, 86, 87, 88, 89, 90, 97, 98, 99, 100, 101, 102, 103, 104, 105, 106, 107, 108, 109, 110, 111, 112, 113, 114, 115, 116, 117, 118, 119, 120, 121, 122, 48, 49, 50, 51, 52, 53, 54, 55, 56, 57, 45, 95]⟩ : ByteArray).extract ((Int.tmod (shr .i64 x5 (IntKind.u64.wrap (wrap64 (18 - (wrap64 (6 * x8)))))) 64) : Int).toNat ((wrap64 ((Int.tmod (shr .i64 x5 (IntKind.u64.wrap (wrap64 (18 - (wrap64 (6 * x8)))))) 64) + 1)) : Int).toNat)) x4 x5 x6 (wrap64 (x8 + 1))) else (none)) else (none)) else (none)) else (none)) else (none)) else (heliastref05_Text.l0 k x0 x3 (wrap64 (x4 + 3)))
end
def heliastref05_Text.f (k : Nat) (l0 : List Int) : Option (ByteArray) := heliastref05_Text.l0 k l0 (⟨#[]⟩ : ByteArray) 0
theorem heliastref05_Text.mono_l : ∀ k, (∀ y0 y1 y2, LeO (heliastref05_Text.l0 k y0 y1 y2) (heliastref05_Text.l0 (k + 1) y0 y1 y2)) ∧ (∀ y0 y1 y2 y3 y4 y5, LeO (heliastref05_Text.l1 k y0 y1 y2 y3 y4 y5) (heliastref05_Text.l1 (k + 1) y0 y1 y2 y3 y4 y5)) ∧ (∀ y0 y1 y2 y3 y4 y5, LeO (heliastref05_Text.l2 k y0 y1 y2 y3 y4 y5) (heliastref05_Text.l2 (k + 1) y0 y1 y2 y3 y4 y5))
  | 0 => ⟨fun _ _ _ r h => by simp [heliastref05_Text.l0] at h, fun _ _ _ _ _ _ r h => by simp [heliastref05_Text.l1] at h, fun _ _ _ _ _ _ r h => by simp [heliastref05_Text.l2] at h⟩
  | k + 1 => by
    obtain ⟨ih0, ih1, ih2⟩ := heliastref05_Text.mono_l k
    refine ⟨?_, ?_, ?_⟩
    · intro y0 y1 y2
      unfold heliastref05_Text.l0
      repeat' first
      | (with_reducible exact ih0 _ _ _)
      | (with_reducible exact ih1 _ _ _ _ _ _)
      | (with_reducible exact ih2 _ _ _ _ _ _)
      | (with_reducible exact LeO.refl _)
      | (with_reducible exact LeO.none _)
      | (with_reducible refine LeO.ite ?_ ?_)
      | (with_reducible refine LeO.bind ?_ (fun _ => ?_))
      | exact ih0 _ _ _
      | exact ih1 _ _ _ _ _ _
      | exact ih2 _ _ _ _ _ _
      | exact LeO.none _
      | refine LeO.ite ?_ ?_
      | refine LeO.bind ?_ (fun _ => ?_)
    · intro y0 y1 y2 y3 y4 y5
      unfold heliastref05_Text.l1
      repeat' first
      | (with_reducible exact ih0 _ _ _)
      | (with_reducible exact ih1 _ _ _ _ _ _)
      | (with_reducible exact ih2 _ _ _ _ _ _)
      | (with_reducible exact LeO.refl _)
      | (with_reducible exact LeO.none _)
      | (with_reducible refine LeO.ite ?_ ?_)
      | (with_reducible refine LeO.bind ?_ (fun _ => ?_))
      | exact ih0 _ _ _
      | exact ih1 _ _ _ _ _ _
      | exact ih2 _ _ _ _ _ _
      | exact LeO.none _
      | refine LeO.ite ?_ ?_
      | refine LeO.bind ?_ (fun _ => ?_)
    · intro y0 y1 y2 y3 y4 y5
      unfold heliastref05_Text.l2
      repeat' first
      | (with_reducible exact ih0 _ _ _)
      | (with_reducible exact ih1 _ _ _ _ _ _)
      | (with_reducible exact ih2 _ _ _ _ _ _)
      | (with_reducible exact LeO.refl _)
      | (with_reducible exact LeO.none _)
      | (with_reducible refine LeO.ite ?_ ?_)
      | (with_reducible refine LeO.bind ?_ (fun _ => ?_))
      | exact ih0 _ _ _
      | exact ih1 _ _ _ _ _ _
      | exact ih2 _ _ _ _ _ _
      | exact LeO.none _
      | refine LeO.ite ?_ ?_
      | refine LeO.bind ?_ (fun _ => ?_)
theorem heliastref05_Text.mono : ∀ a0 k, LeO (heliastref05_Text.f k a0) (heliastref05_Text.f (k + 1) a0) := by
  intro a0 k
  obtain ⟨ih0, ih1, ih2⟩ := heliastref05_Text.mono_l k
  unfold heliastref05_Text.f
  repeat' first
      | (with_reducible exact ih0 _ _ _)
      | (with_reducible exact ih1 _ _ _ _ _ _)
      | (with_reducible exact ih2 _ _ _ _ _ _)
      | (with_reducible exact LeO.refl _)
      | (with_reducible exact LeO.none _)
      | (with_reducible refine LeO.ite ?_ ?_)
      | (with_reducible refine LeO.bind ?_ (fun _ => ?_))
      | exact ih0 _ _ _
      | exact ih1 _ _ _ _ _ _
      | exact ih2 _ _ _ _ _ _
      | exact LeO.none _
      | refine LeO.ite ?_ ?_
      | refine LeO.bind ?_ (fun _ => ?_)
set_option maxHeartbeats 8000000 in
set_option maxRecDepth 100000 in
theorem heliastref05_Text.calls (k : Nat) (A0 : Option Addr) (c0 : Nat) (l0 : List Int) (r : ByteArray) (w : World) (hr0 : Kd.C (Kd.int .u8) w A0 l0.length l0) (hc0 : l0.length ≤ c0) (h : heliastref05_Text.f k l0 = some r) :
    Calls Try.prog 12 #[.slice A0 l0.length c0] w fun e w' => e = .returned (.string r) ∧ Below w.heap.size w w' := by
  have HR0 := Aside0.mk hr0
  have HC0 := Aside0.mk hc0
  clear hr0 hc0
  have HB := Aside0.mk (Below.refl w.heap.size w)
  have H : (heliastref05_Text.l0 k l0 (⟨#[]⟩ : ByteArray) 0) = some r := h
  clear h
  have H' := Aside0.mk H
  clear H
  go_enter Try.func12, Try.ntmps12
  go_wp2
  go_loopg [3, 4] k (fun kq v3 v4 w' => ∃ (x3_1 : ByteArray) (x4_1 : Int), v3 = .string x3_1 ∧ v4 = .int .i64 x4_1 ∧ Aside0 (heliastref05_Text.l0 kq l0 x3_1 x4_1 = some r) ∧ Aside0 (kq ≤ k) ∧ Aside0 (Below w.heap.size w w'))
  case atStart => exact ⟨((⟨#[]⟩ : ByteArray)), (0), (by first | rfl | (simp; done) | (simp [*]; done)), (by first | rfl | (simp; done) | (simp [*]; done)), H', ⟨Nat.le_refl _⟩, ⟨by repeat (first | (with_reducible first | exact HB.out | apply below_alloc | apply pw_below_drewN | apply below_drew1) | exact HB.out)⟩⟩
  case round =>
    clear H'
    try clear c1
    obtain ⟨x3_1, x4_1, rfl, rfl, HA, HK1, HB⟩ := hrel
    cases gk with
    | zero => exact absurd HA.out (by simp [heliastref05_Text.l0])
    | succ k1 =>
      have H := HA.out
      clear HA
      simp only [heliastref05_Text.l0] at H
      by_cases c2 : x4_1 < (l0.length : Int)
      · rw [if_pos c2] at H
        have c2b0 : decide (x4_1 < (l0.length : Int)) = true := decide_eq_true c2
        clear c2
        obtain ⟨ji3, hji3⟩ : ∃ j_ : Int, (mn (wrap64 ((l0.length : Int) - x4_1)) 3) = j_ := ⟨_, rfl⟩
        replace H : (heliastref05_Text.l1 k1 l0 x3_1 x4_1 0 ji3 0) = some r := by first | (rw [hji3] at H; exact H) | (simp only [hji3] at H ⊢; exact H)
        have hji3_ : (if 3 < (wrap64 ((l0.length : Int) - x4_1)) then 3 else (wrap64 ((l0.length : Int) - x4_1))) = ji3 := hji3
        have H' := Aside0.mk H
        clear H
        go_wp2
        go_loopg [5, 7] k1 (fun kq v5 v7 w' => ∃ (x5_2 : Int) (x7_2 : Int), v5 = .int .i64 x5_2 ∧ v7 = .int .i64 x7_2 ∧ Aside0 (heliastref05_Text.l1 kq l0 x3_1 x4_1 x5_2 ji3 x7_2 = some r) ∧ Aside0 (kq ≤ k1) ∧ Aside0 (Below w.heap.size w w'))
        case atStart => exact ⟨(0), (0), (by first | rfl | (simp; done) | (simp [*]; done)), (by first | rfl | (simp; done) | (simp [*]; done)), H', ⟨Nat.le_refl _⟩, ⟨by repeat (first | (with_reducible first | exact HB.out | apply below_alloc | apply pw_below_drewN | apply below_drew1) | exact HB.out)⟩⟩
        case round =>
          clear H'
          try clear c1
          try clear c2
          try clear c2b0
          try clear p2
          obtain ⟨x5_2, x7_2, rfl, rfl, HA, HK2, HB⟩ := hrel
          cases gk with
          | zero => exact absurd HA.out (by simp [heliastref05_Text.l1])
          | succ k2 =>
            have H := HA.out
            clear HA
            simp only [heliastref05_Text.l1] at H
            by_cases c4 : x7_2 < 3
            · rw [if_pos c4] at H
              have c4b0 : decide (x7_2 < 3) = true := decide_eq_true c4
              clear c4
              by_cases c5 : x7_2 < ji3
              · rw [if_pos c5] at H
                have c5b0 : decide (x7_2 < ji3) = true := decide_eq_true c5
                clear c5
                obtain ⟨ji6, hji6⟩ : ∃ j_ : Int, (wrap64 (x4_1 + x7_2)) = j_ := ⟨_, rfl⟩
                replace H : (if 0 ≤ (ji6) then (if (ji6) < (l0.length : Int) then (heliastref05_Text.l1 k2 l0 x3_1 x4_1 (wrap64 ((wrap64 (256 * x5_2)) + (wrap64 (rd l0 (ji6))))) ji3 (wrap64 (x7_2 + 1))) else (none)) else (none)) = some r := by first | (rw [hji6] at H; exact H) | (simp only [hji6] at H ⊢; exact H)
                have hji6w : (IntKind.i64.wrap (x4_1 + x7_2)) = ji6 := (i64_w _).trans hji6
                by_cases c7 : 0 ≤ (ji6)
                · rw [if_pos c7] at H
                  have c7b0 : decide (0 ≤ (ji6)) = true := decide_eq_true c7
                  clear c7
                  by_cases c8 : (ji6) < (l0.length : Int)
                  · rw [if_pos c8] at H
                    have c8b0 : decide ((ji6) < (l0.length : Int)) = true := decide_eq_true c8
                    clear c8
                    have H' := Aside0.mk H
                    clear H
                    have p101 : 0 ≤ ((ji6) : Int) := of_decide_eq_true (by first | (with_reducible assumption) | assumption)
                    have q101 : (ji6) < (l0.length : Int) := of_decide_eq_true (by first | (with_reducible assumption) | assumption)
                    obtain ⟨ad101, e101, hx101_0⟩ := Kd.at_int HR0.out (ji6) p101 q101
                    cases e101
                    replace hx101_0 := (HB.out.cell (World.block_lt_of_cell? w _ hx101_0)).trans hx101_0
                    replace p101 := eq_true p101
                    replace q101 := eq_true q101
                    go_wp2
                    go_roundg k2
                    case measure => have := HK1.out; have := HK2.out; omega
                    case rel => exact ⟨(wrap64 ((wrap64 (256 * x5_2)) + (wrap64 (rd l0 (ji6))))), (wrap64 (x7_2 + 1)), (by first | rfl | (simp; done) | (simp only [← hji6] <;> (first | rfl | simp)) | (simp [*]; done)), (by first | rfl | (simp; done) | (simp [*]; done)), H', ⟨by have := HK1.out; have := HK2.out; omega⟩, ⟨by repeat (first | (with_reducible first | exact HB.out | apply below_alloc | apply pw_below_drewN | apply below_drew1) | exact HB.out)⟩⟩
                  · rw [if_neg c8] at H
                    exact absurd H (by simp)
                · rw [if_neg c7] at H
                  exact absurd H (by simp)
              · rw [if_neg c5] at H
                have c5b0 : decide (x7_2 < ji3) = false := decide_eq_false c5
                clear c5
                have H' := Aside0.mk H
                clear H
                go_wp2
                go_roundg k2
                case measure => have := HK1.out; have := HK2.out; omega
                case rel => exact ⟨(wrap64 (256 * x5_2)), (wrap64 (x7_2 + 1)), (by first | rfl | (simp; done) | (simp [*]; done)), (by first | rfl | (simp; done) | (simp [*]; done)), H', ⟨by have := HK1.out; have := HK2.out; omega⟩, ⟨by repeat (first | (with_reducible first | exact HB.out | apply below_alloc | apply pw_below_drewN | apply below_drew1) | exact HB.out)⟩⟩
            · rw [if_neg c4] at H
              have c4b0 : decide (x7_2 < 3) = false := decide_eq_false c4
              clear c4
              have H' := Aside0.mk H
              clear H
              go_wp2
              go_loopg [3, 8] k2 (fun kq v3 v8 w' => ∃ (x3_3 : ByteArray) (x8_3 : Int), v3 = .string x3_3 ∧ v8 = .int .i64 x8_3 ∧ Aside0 (heliastref05_Text.l2 kq l0 x3_3 x4_1 x5_2 ji3 x8_3 = some r) ∧ Aside0 (kq ≤ k2) ∧ Aside0 (Below w.heap.size w w'))
              case atStart => exact ⟨(x3_1), (0), (by first | rfl | (simp; done) | (simp [*]; done)), (by first | rfl | (simp; done) | (simp [*]; done)), H', ⟨Nat.le_refl _⟩, ⟨by repeat (first | (with_reducible first | exact HB.out | apply below_alloc | apply pw_below_drewN | apply below_drew1) | exact HB.out)⟩⟩
              case round =>
                clear H'
                try clear c1
                try clear p1
                try clear q1
                try clear hx1
                try clear c2
                try clear c2b0
                try clear p2
                try clear c4
                try clear c4b0
                try clear c5
                try clear c5b0
                try clear p6
                try clear c7
                try clear c7b0
                try clear c8
                try clear c8b0
                try clear hx101_0
                try clear p101
                try clear p2
                try clear q101
                obtain ⟨x3_3, x8_3, rfl, rfl, HA, HK3, HB⟩ := hrel
                cases gk with
                | zero => exact absurd HA.out (by simp [heliastref05_Text.l2])
                | succ k3 =>
                  have H := HA.out
                  clear HA
                  simp only [heliastref05_Text.l2] at H
                  by_cases c9 : x8_3 ≤ ji3
                  · rw [if_pos c9] at H
                    have c9b0 : decide (x8_3 ≤ ji3) = true := decide_eq_true c9
                    clear c9
                    obtain ⟨ji10, hji10⟩ : ∃ j_ : Int, (IntKind.u64.wrap (wrap64 (18 - (wrap64 (6 * x8_3))))) = j_ := ⟨_, rfl⟩
                    replace H : (if 0 ≤ (ji10) then (if 0 ≤ (Int.tmod (shr .i64 x5_2 (ji10)) 64) then (if (Int.tmod (shr .i64 x5_2 (ji10)) 64) ≤ (wrap64 ((Int.tmod (shr .i64 x5_2 (ji10)) 64) + 1)) then (if (wrap64 ((Int.tmod (shr .i64 x5_2 (ji10)) 64) + 1)) ≤ 64 then (if x3_3.size + ((⟨#[65, 66, 67, 68, 69, 70, 71, 72, 73, 74, 75, 76, 77, 78, 79, 80, 81, 82, 83, 84, 85, 86, 87, 88, 89, 90, 97, 98, 99, 100, 101, 102, 103, 104, 105, 106, 107, 108, 109, 110, 111, 112, 113, 114, 115, 116, 117, 118, 119, 120, 121, 122, 48, 49, 50, 51, 52, 53, 54, 55, 56, 57, 45, 95]⟩ : ByteArray).extract ((Int.tmod (shr .i64 x5_2 (ji10)) 64) : Int).toNat ((wrap64 ((Int.tmod (shr .i64 x5_2 (ji10)) 64) + 1)) : Int).toNat).size ≤ 9223372036854775807 then (heliastref05_Text.l2 k3 l0 (x3_3 ++ ((⟨#[65, 66, 67, 68, 69, 70, 71, 72, 73, 74, 75, 76, 77, 78, 79, 80, 81, 82, 83, 84, 85, 86, 87, 88, 89, 90, 97, 98, 99, 100, 101, 102, 103, 104, 105, 106, 107, 108, 109, 110, 111, 112, 113, 114, 115, 116, 117, 118, 119, 120, 121, 122, 48, 49, 50, 51, 52, 53, 54, 55, 56, 57, 45, 95]⟩ : ByteArray).extract ((Int.tmod (shr .i64 x5_2 (ji10)) 64) : Int).toNat ((wrap64 ((Int.tmod (shr .i64 x5_2 (ji10)) 64) + 1)) : Int).toNat)) x4_1 x5_2 ji3 (wrap64 (x8_3 + 1))) else (none)) else (none)) else (none)) else (none)) else (none)) = some r := by first | (rw [hji10] at H; exact H) | (simp only [hji10] at H ⊢; exact H)
                    by_cases c11 : 0 ≤ (ji10)
                    · rw [if_pos c11] at H
                      have c11b0 := eq_true c11
                      have c11b1 : decide (0 ≤ (ji10)) = true := decide_eq_true c11
                      clear c11
                      obtain ⟨ji12, hji12⟩ : ∃ j_ : Int, (shr .i64 x5_2 (ji10)) = j_ := ⟨_, rfl⟩
                      replace H : (if 0 ≤ (Int.tmod (ji12) 64) then (if (Int.tmod (ji12) 64) ≤ (wrap64 ((Int.tmod (ji12) 64) + 1)) then (if (wrap64 ((Int.tmod (ji12) 64) + 1)) ≤ 64 then (if x3_3.size + ((⟨#[65, 66, 67, 68, 69, 70, 71, 72, 73, 74, 75, 76, 77, 78, 79, 80, 81, 82, 83, 84, 85, 86, 87, 88, 89, 90, 97, 98, 99, 100, 101, 102, 103, 104, 105, 106, 107, 108, 109, 110, 111, 112, 113, 114, 115, 116, 117, 118, 119, 120, 121, 122, 48, 49, 50, 51, 52, 53, 54, 55, 56, 57, 45, 95]⟩ : ByteArray).extract ((Int.tmod (ji12) 64) : Int).toNat ((wrap64 ((Int.tmod (ji12) 64) + 1)) : Int).toNat).size ≤ 9223372036854775807 then (heliastref05_Text.l2 k3 l0 (x3_3 ++ ((⟨#[65, 66, 67, 68, 69, 70, 71, 72, 73, 74, 75, 76, 77, 78, 79, 80, 81, 82, 83, 84, 85, 86, 87, 88, 89, 90, 97, 98, 99, 100, 101, 102, 103, 104, 105, 106, 107, 108, 109, 110, 111, 112, 113, 114, 115, 116, 117, 118, 119, 120, 121, 122, 48, 49, 50, 51, 52, 53, 54, 55, 56, 57, 45, 95]⟩ : ByteArray).extract ((Int.tmod (ji12) 64) : Int).toNat ((wrap64 ((Int.tmod (ji12) 64) + 1)) : Int).toNat)) x4_1 x5_2 ji3 (wrap64 (x8_3 + 1))) else (none)) else (none)) else (none)) else (none)) = some r := by first | (rw [hji12] at H; exact H) | (simp only [hji12] at H ⊢; exact H)
                      have hji12_ : (x5_2 / 2 ^ min (ji10).toNat 64) = ji12 := hji12
                      have hji12z : (ji10) ≤ 64 → (x5_2 / 2 ^ (ji10).toNat) = ji12 := shr_small hji12
                      obtain ⟨ji13, hji13⟩ : ∃ j_ : Int, (Int.tmod (ji12) 64) = j_ := ⟨_, rfl⟩
                      replace H : (if 0 ≤ (ji13) then (if (ji13) ≤ (wrap64 ((ji13) + 1)) then (if (wrap64 ((ji13) + 1)) ≤ 64 then (if x3_3.size + ((⟨#[65, 66, 67, 68, 69, 70, 71, 72, 73, 74, 75, 76, 77, 78, 79, 80, 81, 82, 83, 84, 85, 86, 87, 88, 89, 90, 97, 98, 99, 100, 101, 102, 103, 104, 105, 106, 107, 108, 109, 110, 111, 112, 113, 114, 115, 116, 117, 118, 119, 120, 121, 122, 48, 49, 50, 51, 52, 53, 54, 55, 56, 57, 45, 95]⟩ : ByteArray).extract ((ji13) : Int).toNat ((wrap64 ((ji13) + 1)) : Int).toNat).size ≤ 9223372036854775807 then (heliastref05_Text.l2 k3 l0 (x3_3 ++ ((⟨#[65, 66, 67, 68, 69, 70, 71, 72, 73, 74, 75, 76, 77, 78, 79, 80, 81, 82, 83, 84, 85, 86, 87, 88, 89, 90, 97, 98, 99, 100, 101, 102, 103, 104, 105, 106, 107, 108, 109, 110, 111, 112, 113, 114, 115, 116, 117, 118, 119, 120, 121, 122, 48, 49, 50, 51, 52, 53, 54, 55, 56, 57, 45, 95]⟩ : ByteArray).extract ((ji13) : Int).toNat ((wrap64 ((ji13) + 1)) : Int).toNat)) x4_1 x5_2 ji3 (wrap64 (x8_3 + 1))) else (none)) else (none)) else (none)) else (none)) = some r := by first | (rw [hji13] at H; exact H) | (simp only [hji13] at H ⊢; exact H)
                      by_cases c14 : 0 ≤ (ji13)
                      · rw [if_pos c14] at H
                        have c14b0 := eq_true c14
                        have c14b1 : decide (0 ≤ (ji13)) = true := decide_eq_true c14
                        clear c14
                        by_cases c15 : (ji13) ≤ (wrap64 ((ji13) + 1))
                        · rw [if_pos c15] at H
                          have c15b0 := eq_true c15
                          have c15b1 : decide ((ji13) ≤ (wrap64 ((ji13) + 1))) = true := decide_eq_true c15
                          by_cases c16 : (wrap64 ((ji13) + 1)) ≤ 64
                          · rw [if_pos c16] at H
                            have c16b0 := eq_true c16
                            have c16b1 : decide ((wrap64 ((ji13) + 1)) ≤ 64) = true := decide_eq_true c16
                            by_cases c17 : x3_3.size + ((⟨#[65, 66, 67, 68, 69, 70, 71, 72, 73, 74, 75, 76, 77, 78, 79, 80, 81, 82, 83, 84, 85, 86, 87, 88, 89, 90, 97, 98, 99, 100, 101, 102, 103, 104, 105, 106, 107, 108, 109, 110, 111, 112, 113, 114, 115, 116, 117, 118, 119, 120, 121, 122, 48, 49, 50, 51, 52, 53, 54, 55, 56, 57, 45, 95]⟩ : ByteArray).extract ((ji13) : Int).toNat ((wrap64 ((ji13) + 1)) : Int).toNat).size ≤ 9223372036854775807
                            · rw [if_pos c17] at H
                              have c17b0 := eq_true c17
                              have c17b1 : decide (x3_3.size + ((⟨#[65, 66, 67, 68, 69, 70, 71, 72, 73, 74, 75, 76, 77, 78, 79, 80, 81, 82, 83, 84, 85, 86, 87, 88, 89, 90, 97, 98, 99, 100, 101, 102, 103, 104, 105, 106, 107, 108, 109, 110, 111, 112, 113, 114, 115, 116, 117, 118, 119, 120, 121, 122, 48, 49, 50, 51, 52, 53, 54, 55, 56, 57, 45, 95]⟩ : ByteArray).extract ((ji13) : Int).toNat ((wrap64 ((ji13) + 1)) : Int).toNat).size ≤ 9223372036854775807) = true := decide_eq_true c17
                              try have c17b2 : (9223372036854775807 < x3_3.size + ((⟨#[65, 66, 67, 68, 69, 70, 71, 72, 73, 74, 75, 76, 77, 78, 79, 80, 81, 82, 83, 84, 85, 86, 87, 88, 89, 90, 97, 98, 99, 100, 101, 102, 103, 104, 105, 106, 107, 108, 109, 110, 111, 112, 113, 114, 115, 116, 117, 118, 119, 120, 121, 122, 48, 49, 50, 51, 52, 53, 54, 55, 56, 57, 45, 95]⟩ : ByteArray).extract ((ji13) : Int).toNat ((wrap64 ((ji13) + 1)) : Int).toNat).size) = False := eq_false (Nat.not_lt.2 c17)
                              try have c17b3 : (9223372036854775807 < x3_3.size + (((wrap64 ((ji13) + 1)) : Int).toNat - ((ji13) : Int).toNat)) = False := eq_false (by have hS_ := c17; have hE_ : ((⟨#[65, 66, 67, 68, 69, 70, 71, 72, 73, 74, 75, 76, 77, 78, 79, 80, 81, 82, 83, 84, 85, 86, 87, 88, 89, 90, 97, 98, 99, 100, 101, 102, 103, 104, 105, 106, 107, 108, 109, 110, 111, 112, 113, 114, 115, 116, 117, 118, 119, 120, 121, 122, 48, 49, 50, 51, 52, 53, 54, 55, 56, 57, 45, 95]⟩ : ByteArray).extract ((ji13) : Int).toNat ((wrap64 ((ji13) + 1)) : Int).toNat).size = min ((wrap64 ((ji13) + 1)) : Int).toNat 64 - ((ji13) : Int).toNat := ByteArray.size_extract; omega)
                              have H' := Aside0.mk H
                              clear H
                              go_wp2
                              go_roundg k3
                              case measure => have := HK1.out; have := HK2.out; have := HK3.out; omega
                              case rel => exact ⟨(x3_3 ++ ((⟨#[65, 66, 67, 68, 69, 70, 71, 72, 73, 74, 75, 76, 77, 78, 79, 80, 81, 82, 83, 84, 85, 86, 87, 88, 89, 90, 97, 98, 99, 100, 101, 102, 103, 104, 105, 106, 107, 108, 109, 110, 111, 112, 113, 114, 115, 116, 117, 118, 119, 120, 121, 122, 48, 49, 50, 51, 52, 53, 54, 55, 56, 57, 45, 95]⟩ : ByteArray).extract ((ji13) : Int).toNat ((wrap64 ((ji13) + 1)) : Int).toNat)), (wrap64 (x8_3 + 1)), (by first | rfl | (simp; done) | (simp only [← hji13] <;> (first | rfl | simp)) | (simp [*]; done)), (by first | rfl | (simp; done) | (simp [*]; done)), H', ⟨by have := HK1.out; have := HK2.out; have := HK3.out; omega⟩, ⟨by repeat (first | (with_reducible first | exact HB.out | apply below_alloc | apply pw_below_drewN | apply below_drew1) | exact HB.out)⟩⟩
                            · rw [if_neg c17] at H
                              exact absurd H (by simp)
                          · rw [if_neg c16] at H
                            exact absurd H (by simp)
                        · rw [if_neg c15] at H
                          exact absurd H (by simp)
                      · rw [if_neg c14] at H
                        exact absurd H (by simp)
                    · rw [if_neg c11] at H
                      exact absurd H (by simp)
                  · rw [if_neg c9] at H
                    have c9b0 : decide (x8_3 ≤ ji3) = false := decide_eq_false c9
                    clear c9
                    have H' := Aside0.mk H
                    clear H
                    go_wp2
                    go_roundg k3
                    case measure => have := HK1.out; have := HK2.out; have := HK3.out; omega
                    case rel => exact ⟨(x3_3), (wrap64 (x4_1 + 3)), (by first | rfl | (simp; done) | (simp [*]; done)), (by first | rfl | (simp; done) | (simp [*]; done)), H', ⟨by have := HK1.out; have := HK2.out; have := HK3.out; omega⟩, ⟨by repeat (first | (with_reducible first | exact HB.out | apply below_alloc | apply pw_below_drewN | apply below_drew1) | exact HB.out)⟩⟩
      · rw [if_neg c2] at H
        have c2b0 : decide (x4_1 < (l0.length : Int)) = false := decide_eq_false c2
        clear c2
        obtain rfl := Option.some.inj H
        go_wp2
        go_ret
        exact ⟨by first | rfl | (simp [errW_none, errW_some] <;> rfl) | (simp [*, errW_none, errW_some] <;> rfl), by repeat (first | (with_reducible first | exact HB.out | apply below_alloc | apply pw_below_drewN | apply below_drew1) | exact HB.out)⟩

end Go.Proofs.Ytnhljemnebgekaa.Rt

/-
  What the functions of these laws compute, as plain Lean functions, and that the machine's calls compute it: written by this session's own hook over the kit's print.
-/
namespace Go.Proofs.Ytnhljemnebgekaa.Rt
open Go.RowKit Go.Proofs.YtnhljemnebgekaaW.PrintWords Go.Proofs.YtnhljemnebgekaaW.PrintLast Go.Proofs.YtnhljemnebgekaaW.PrintMore
attribute [local go_sem] u32_sg u32_mx u64_sg u64_mx
attribute [local go_sem] max2_int min2_int max_two min_two max_three min_three max_four min_four   -- for this text's walks alone
set_option linter.unusedVariables false
set_option linter.unusedSimpArgs false

/-! ### heliastref05_sign: function 42 -/
def heliastref05_sign.l0 : Nat → Int → Int → Option (Int)
  | 0, _, _ => none
  | k + 1, x0, x3 => if x3 < 64 then (if 0 ≤ x3 then (if (bt (⟨#[65, 66, 67, 68, 69, 70, 71, 72, 73, 74, 75, 76, 77, 78, 79, 80, 81, 82, 83, 84, 85, 86, 87, 88, 89, 90, 97, 98, 99, 100, 101, 102, 103, 104, 105, 106, 107, 108, 109, 110, 111, 112, 113, 114, 115, 116, 117, 118, 119, 120, 121, 122, 48, 49, 50, 51, 52, 53, 54, 55, 56, 57, 45, 95]⟩ : ByteArray) x3) = x0 then (some x3) else (heliastref05_sign.l0 k x0 (wrap64 (x3 + 1)))) else (none)) else (some (-1))
def heliastref05_sign.f (k : Nat) (a0 : Int) : Option (Int) := heliastref05_sign.l0 k a0 0
theorem heliastref05_sign.mono_l : ∀ k, (∀ y0 y1, LeO (heliastref05_sign.l0 k y0 y1) (heliastref05_sign.l0 (k + 1) y0 y1))
  | 0 => fun _ _ r h => by simp [heliastref05_sign.l0] at h
  | k + 1 => by
    have ih0 := heliastref05_sign.mono_l k
    · intro y0 y1
      unfold heliastref05_sign.l0
      repeat' first
      | (with_reducible exact ih0 _ _)
      | (with_reducible exact LeO.refl _)
      | (with_reducible exact LeO.none _)
      | (with_reducible refine LeO.ite ?_ ?_)
      | (with_reducible refine LeO.bind ?_ (fun _ => ?_))
      | exact ih0 _ _
      | exact LeO.none _
      | refine LeO.ite ?_ ?_
      | refine LeO.bind ?_ (fun _ => ?_)
theorem heliastref05_sign.mono : ∀ a0 k, LeO (heliastref05_sign.f k a0) (heliastref05_sign.f (k + 1) a0) := by
  intro a0 k
  have ih0 := heliastref05_sign.mono_l k
  unfold heliastref05_sign.f
  repeat' first
      | (with_reducible exact ih0 _ _)
      | (with_reducible exact LeO.refl _)
      | (with_reducible exact LeO.none _)
      | (with_reducible refine LeO.ite ?_ ?_)
      | (with_reducible refine LeO.bind ?_ (fun _ => ?_))
      | exact ih0 _ _
      | exact LeO.none _
      | refine LeO.ite ?_ ?_
      | refine LeO.bind ?_ (fun _ => ?_)
set_option maxHeartbeats 8000000 in
set_option maxRecDepth 100000 in
theorem heliastref05_sign.calls (k : Nat) (a0 : Int) (r : Int) (w : World) (h : heliastref05_sign.f k a0 = some r) :
    Calls Try.prog 42 #[.int .u8 a0] w fun e w' => e = .returned (.int .i64 r) ∧ Drawn0 w w' := by
  have H : (heliastref05_sign.l0 k a0 0) = some r := h
  clear h
  have H' := Aside0.mk H
  clear H
  go_enter Try.func42, Try.ntmps42
  go_wp2
  go_loopg [3] k (fun kq v3 w' => ∃ (x3_1 : Int), v3 = .int .i64 x3_1 ∧ Aside0 (heliastref05_sign.l0 kq a0 x3_1 = some r) ∧ Aside0 (kq ≤ k) ∧ Drawn0 w w')
  case atStart => exact ⟨(0), (by first | rfl | (simp; done) | (simp [*]; done)), H', ⟨Nat.le_refl _⟩, by repeat (first | exact Drawn0.refl _ | apply Drawn0.step)⟩
  case round =>
    clear H'
    obtain ⟨x3_1, rfl, HA, HK1, ⟨m1, rfl⟩⟩ := hrel
    cases gk with
    | zero => exact absurd HA.out (by simp [heliastref05_sign.l0])
    | succ k1 =>
      have H := HA.out
      clear HA
      simp only [heliastref05_sign.l0] at H
      by_cases c2 : x3_1 < 64
      · rw [if_pos c2] at H
        have c2b0 : decide (x3_1 < 64) = true := decide_eq_true c2
        clear c2
        by_cases c3 : 0 ≤ x3_1
        · rw [if_pos c3] at H
          have c3b0 : decide (0 ≤ x3_1) = true := decide_eq_true c3
          clear c3
          by_cases c5 : (bt (⟨#[65, 66, 67, 68, 69, 70, 71, 72, 73, 74, 75, 76, 77, 78, 79, 80, 81, 82, 83, 84, 85, 86, 87, 88, 89, 90, 97, 98, 99, 100, 101, 102, 103, 104, 105, 106, 107, 108, 109, 110, 111, 112, 113, 114, 115, 116, 117, 118, 119, 120, 121, 122, 48, 49, 50, 51, 52, 53, 54, 55, 56, 57, 45, 95]⟩ : ByteArray) x3_1) = a0
          · rw [if_pos c5] at H
            have c5b0 : ((bt (⟨#[65, 66, 67, 68, 69, 70, 71, 72, 73, 74, 75, 76, 77, 78, 79, 80, 81, 82, 83, 84, 85, 86, 87, 88, 89, 90, 97, 98, 99, 100, 101, 102, 103, 104, 105, 106, 107, 108, 109, 110, 111, 112, 113, 114, 115, 116, 117, 118, 119, 120, 121, 122, 48, 49, 50, 51, 52, 53, 54, 55, 56, 57, 45, 95]⟩ : ByteArray) x3_1) == a0) = true := beq_iff_eq.mpr c5
            have c5b1 : ((bt (⟨#[65, 66, 67, 68, 69, 70, 71, 72, 73, 74, 75, 76, 77, 78, 79, 80, 81, 82, 83, 84, 85, 86, 87, 88, 89, 90, 97, 98, 99, 100, 101, 102, 103, 104, 105, 106, 107, 108, 109, 110, 111, 112, 113, 114, 115, 116, 117, 118, 119, 120, 121, 122, 48, 49, 50, 51, 52, 53, 54, 55, 56, 57, 45, 95]⟩ : ByteArray) x3_1) != a0) = false := bne_eq_false_iff_eq.mpr c5
            clear c5
            obtain rfl := Option.some.inj H
            have p4 : 0 ≤ (x3_1 : Int) := of_decide_eq_true (by first | (with_reducible assumption) | assumption)
            have q4 : x3_1 < (64 : Int) := of_decide_eq_true (by first | (with_reducible assumption) | assumption)
            have hx4 := bt_at (⟨#[65, 66, 67, 68, 69, 70, 71, 72, 73, 74, 75, 76, 77, 78, 79, 80, 81, 82, 83, 84, 85, 86, 87, 88, 89, 90, 97, 98, 99, 100, 101, 102, 103, 104, 105, 106, 107, 108, 109, 110, 111, 112, 113, 114, 115, 116, 117, 118, 119, 120, 121, 122, 48, 49, 50, 51, 52, 53, 54, 55, 56, 57, 45, 95]⟩ : ByteArray) x3_1
            replace p4 := eq_true p4
            replace q4 := eq_true q4
            go_wp2
            go_ret
            exact ⟨by first | rfl | (simp; done) | (simp [*]; done), by repeat (first | exact Drawn0.refl _ | apply Drawn0.step)⟩
          · rw [if_neg c5] at H
            have c5b0 : ((bt (⟨#[65, 66, 67, 68, 69, 70, 71, 72, 73, 74, 75, 76, 77, 78, 79, 80, 81, 82, 83, 84, 85, 86, 87, 88, 89, 90, 97, 98, 99, 100, 101, 102, 103, 104, 105, 106, 107, 108, 109, 110, 111, 112, 113, 114, 115, 116, 117, 118, 119, 120, 121, 122, 48, 49, 50, 51, 52, 53, 54, 55, 56, 57, 45, 95]⟩ : ByteArray) x3_1) == a0) = false := beq_eq_false_iff_ne.mpr c5
            have c5b1 : ((bt (⟨#[65, 66, 67, 68, 69, 70, 71, 72, 73, 74, 75, 76, 77, 78, 79, 80, 81, 82, 83, 84, 85, 86, 87, 88, 89, 90, 97, 98, 99, 100, 101, 102, 103, 104, 105, 106, 107, 108, 109, 110, 111, 112, 113, 114, 115, 116, 117, 118, 119, 120, 121, 122, 48, 49, 50, 51, 52, 53, 54, 55, 56, 57, 45, 95]⟩ : ByteArray) x3_1) != a0) = true := bne_iff_ne.mpr c5
            have H' := Aside0.mk H
            clear H
            have p4 : 0 ≤ (x3_1 : Int) := of_decide_eq_true (by first | (with_reducible assumption) | assumption)
            have q4 : x3_1 < (64 : Int) := of_decide_eq_true (by first | (with_reducible assumption) | assumption)
            have hx4 := bt_at (⟨#[65, 66, 67, 68, 69, 70, 71, 72, 73, 74, 75, 76, 77, 78, 79, 80, 81, 82, 83, 84, 85, 86, 87, 88, 89, 90, 97, 98, 99, 100, 101, 102, 103, 104, 105, 106, 107, 108, 109, 110, 111, 112, 113, 114, 115, 116, 117, 118, 119, 120, 121, 122, 48, 49, 50, 51, 52, 53, 54, 55, 56, 57, 45, 95]⟩ : ByteArray) x3_1
            replace p4 := eq_true p4
            replace q4 := eq_true q4
            go_wp2
            go_roundg k1
            case measure => have := HK1.out; omega
            case rel => exact ⟨(wrap64 (x3_1 + 1)), (by first | rfl | (simp; done) | (simp [*]; done)), H', ⟨by have := HK1.out; omega⟩, by repeat (first | exact Drawn0.refl _ | apply Drawn0.step)⟩
        · rw [if_neg c3] at H
          exact absurd H (by simp)
      · rw [if_neg c2] at H
        have c2b0 : decide (x3_1 < 64) = false := decide_eq_false c2
        clear c2
        obtain rfl := Option.some.inj H
        go_wp2
        go_ret
        exact ⟨by first | rfl | (simp; done) | (simp [*]; done), by repeat (first | exact Drawn0.refl _ | apply Drawn0.step)⟩

end Go.Proofs.Ytnhljemnebgekaa.Rt

/-
  What the functions of these laws compute, as plain Lean functions, and that the machine's calls compute it: written by this session's own hook over the kit's print.
-/
namespace Go.Proofs.Ytnhljemnebgekaa.Rt
open Go.RowKit Go.Proofs.YtnhljemnebgekaaW.PrintWords Go.Proofs.YtnhljemnebgekaaW.PrintLast Go.Proofs.YtnhljemnebgekaaW.PrintMore
attribute [local go_sem] u32_sg u32_mx u64_sg u64_mx
attribute [local go_sem] max2_int min2_int max_two min_two max_three min_three max_four min_four   -- for this text's walks alone
set_option linter.unusedVariables false
set_option linter.unusedSimpArgs false

/-! ### heliastref05_Bytes: function 30 -/
mutual
def heliastref05_Bytes.l0 : Nat → ByteArray → List Int → Int → Option (List Int × Bool)
  | 0, _, _, _ => none
  | k + 1, x0, x4, x5 => if x5 < (x0.size : Int) then (heliastref05_Bytes.l1 k x0 x4 x5 (mn (wrap64 ((x0.size : Int) - x5)) 4) 0 0) else ((heliastref05_Text.f k x4).bind fun t102 => (if t102.toList = x0.toList then (some (x4, true)) else (some (([] : List Int), false))))
def heliastref05_Bytes.l1 : Nat → ByteArray → List Int → Int → Int → Int → Int → Option (List Int × Bool)
  | 0, _, _, _, _, _, _ => none
  | k + 1, x0, x4, x5, x6, x7, x8 => if x8 < 4 then (if x8 < x6 then (if 0 ≤ (wrap64 (x5 + x8)) then (if (wrap64 (x5 + x8)) < (x0.size : Int) then ((heliastref05_sign.f k (bt x0 (wrap64 (x5 + x8)))).bind fun t103 => (if t103 < 0 then (some (([] : List Int), false)) else (heliastref05_Bytes.l1 k x0 x4 x5 x6 (wrap64 ((wrap64 (64 * x7)) + t103)) (wrap64 (x8 + 1))))) else (none)) else (none)) else (if 0 < 0 then (some (([] : List Int), false)) else (heliastref05_Bytes.l1 k x0 x4 x5 x6 (wrap64 ((wrap64 (64 * x7)) + 0)) (wrap64 (x8 + 1))))) else (heliastref05_Bytes.l2 k x0 x4 x5 x6 x7 0)
def heliastref05_Bytes.l2 : Nat → ByteArray → List Int → Int → Int → Int → Int → Option (List Int × Bool)
  | 0, _, _, _, _, _, _ => none
  | k + 1, x0, x4, x5, x6, x7, x10 => if x10 < (wrap64 (x6 - 1)) then (if 0 ≤ (IntKind.u64.wrap (wrap64 (16 - (wrap64 (8 * x10))))) then (if x4.length < 140737488355328 then (heliastref05_Bytes.l2 k x0 (x4 ++ [(shr .i64 x7 (IntKind.u64.wrap (wrap64 (16 - (wrap64 (8 * x10)))))) % 256]) x5 x6 x7 (wrap64 (x10 + 1))) else (none)) else (none)) else (heliastref05_Bytes.l0 k x0 x4 (wrap64 (x5 + 4)))
end
def heliastref05_Bytes.f (k : Nat) (a0 : ByteArray) : Option (List Int × Bool) := heliastref05_Bytes.l0 k a0 ([] : List Int) 0
theorem heliastref05_Bytes.mono_l : ∀ k, (∀ y0 y1 y2, LeO (heliastref05_Bytes.l0 k y0 y1 y2) (heliastref05_Bytes.l0 (k + 1) y0 y1 y2)) ∧ (∀ y0 y1 y2 y3 y4 y5, LeO (heliastref05_Bytes.l1 k y0 y1 y2 y3 y4 y5) (heliastref05_Bytes.l1 (k + 1) y0 y1 y2 y3 y4 y5)) ∧ (∀ y0 y1 y2 y3 y4 y5, LeO (heliastref05_Bytes.l2 k y0 y1 y2 y3 y4 y5) (heliastref05_Bytes.l2 (k + 1) y0 y1 y2 y3 y4 y5))
  | 0 => ⟨fun _ _ _ r h => by simp [heliastref05_Bytes.l0] at h, fun _ _ _ _ _ _ r h => by simp [heliastref05_Bytes.l1] at h, fun _ _ _ _ _ _ r h => by simp [heliastref05_Bytes.l2] at h⟩
  | k + 1 => by
    obtain ⟨ih0, ih1, ih2⟩ := heliastref05_Bytes.mono_l k
    refine ⟨?_, ?_, ?_⟩
    · intro y0 y1 y2
      unfold heliastref05_Bytes.l0
      repeat' first
      | (with_reducible exact ih0 _ _ _)
      | (with_reducible exact ih1 _ _ _ _ _ _)
      | (with_reducible exact ih2 _ _ _ _ _ _)
      | (with_reducible exact heliastref05_Text.mono _ _)
      | (with_reducible exact heliastref05_sign.mono _ _)
      | (with_reducible exact LeO.refl _)
      | (with_reducible exact LeO.none _)
      | (with_reducible refine LeO.ite ?_ ?_)
      | (with_reducible refine LeO.bind ?_ (fun _ => ?_))
      | exact ih0 _ _ _
      | exact ih1 _ _ _ _ _ _
      | exact ih2 _ _ _ _ _ _
      | exact heliastref05_Text.mono _ _
      | exact heliastref05_sign.mono _ _
      | exact LeO.none _
      | refine LeO.ite ?_ ?_
      | refine LeO.bind ?_ (fun _ => ?_)
    · intro y0 y1 y2 y3 y4 y5
      unfold heliastref05_Bytes.l1
      repeat' first
      | (with_reducible exact ih0 _ _ _)
      | (with_reducible exact ih1 _ _ _ _ _ _)
      | (with_reducible exact ih2 _ _ _ _ _ _)
      | (with_reducible exact heliastref05_Text.mono _ _)
      | (with_reducible exact heliastref05_sign.mono _ _)
      | (with_reducible exact LeO.refl _)
      | (with_reducible exact LeO.none _)
      | (with_reducible refine LeO.ite ?_ ?_)
      | (with_reducible refine LeO.bind ?_ (fun _ => ?_))
      | exact ih0 _ _ _
      | exact ih1 _ _ _ _ _ _
      | exact ih2 _ _ _ _ _ _
      | exact heliastref05_Text.mono _ _
      | exact heliastref05_sign.mono _ _
      | exact LeO.none _
      | refine LeO.ite ?_ ?_
      | refine LeO.bind ?_ (fun _ => ?_)
    · intro y0 y1 y2 y3 y4 y5
      unfold heliastref05_Bytes.l2
      repeat' first
      | (with_reducible exact ih0 _ _ _)
      | (with_reducible exact ih1 _ _ _ _ _ _)
      | (with_reducible exact ih2 _ _ _ _ _ _)
      | (with_reducible exact heliastref05_Text.mono _ _)
      | (with_reducible exact heliastref05_sign.mono _ _)
      | (with_reducible exact LeO.refl _)
      | (with_reducible exact LeO.none _)
      | (with_reducible refine LeO.ite ?_ ?_)
      | (with_reducible refine LeO.bind ?_ (fun _ => ?_))
      | exact ih0 _ _ _
      | exact ih1 _ _ _ _ _ _
      | exact ih2 _ _ _ _ _ _
      | exact heliastref05_Text.mono _ _
      | exact heliastref05_sign.mono _ _
      | exact LeO.none _
      | refine LeO.ite ?_ ?_
      | refine LeO.bind ?_ (fun _ => ?_)
theorem heliastref05_Bytes.mono : ∀ a0 k, LeO (heliastref05_Bytes.f k a0) (heliastref05_Bytes.f (k + 1) a0) := by
  intro a0 k
  obtain ⟨ih0, ih1, ih2⟩ := heliastref05_Bytes.mono_l k
  unfold heliastref05_Bytes.f
  repeat' first
      | (with_reducible exact ih0 _ _ _)
      | (with_reducible exact ih1 _ _ _ _ _ _)
      | (with_reducible exact ih2 _ _ _ _ _ _)
      | (with_reducible exact heliastref05_Text.mono _ _)
      | (with_reducible exact heliastref05_sign.mono _ _)
      | (with_reducible exact LeO.refl _)
      | (with_reducible exact LeO.none _)
      | (with_reducible refine LeO.ite ?_ ?_)
      | (with_reducible refine LeO.bind ?_ (fun _ => ?_))
      | exact ih0 _ _ _
      | exact ih1 _ _ _ _ _ _
      | exact ih2 _ _ _ _ _ _
      | exact heliastref05_Text.mono _ _
      | exact heliastref05_sign.mono _ _
      | exact LeO.none _
      | refine LeO.ite ?_ ?_
      | refine LeO.bind ?_ (fun _ => ?_)
set_option maxHeartbeats 8000000 in
set_option maxRecDepth 100000 in
theorem heliastref05_Bytes.calls (k : Nat) (a0 : ByteArray) (r1 : List Int) (r2 : Bool) (w : World) (h : heliastref05_Bytes.f k a0 = some (r1, r2)) :
    Calls Try.prog 30 #[.string a0] w fun e w' => ∃ v0_ : Value, e = .returned (.tuple #[v0_, .bool r2]) ∧ Kd.R (Kd.int .u8) 5 w' w.heap.size (fun _ => True) v0_ r1 ∧ Below w.heap.size w w' := by
  have HB := Aside0.mk (Below.refl w.heap.size w)
  have H : (heliastref05_Bytes.l0 k a0 ([] : List Int) 0) = some (r1, r2) := h
  clear h
  have H' := Aside0.mk H
  clear H
  go_enter Try.func30, Try.ntmps30
  go_wp2
  go_loopg [4, 5] k (fun kq v4 v5 w' => ∃ (x4_1 : List Int) (x5_1 : Int), v5 = .int .i64 x5_1 ∧ Aside0 (heliastref05_Bytes.l0 kq a0 x4_1 x5_1 = some (r1, r2)) ∧ Aside0 (kq ≤ k) ∧ Aside0 (Kd.R (Kd.int .u8) 5 w' w.heap.size (fun _ => True) v4 x4_1) ∧ Aside0 (Below w.heap.size w w'))
  case atStart => exact ⟨(([] : List Int)), (0), (by first | rfl | (simp; done) | (simp [*]; done)), H', ⟨Nat.le_refl _⟩, ⟨by first | exact Kd.R_nil _ _ _ _ _ | exact Kd.N_nil _ _ _ _ _ | exact Kd.V_nil _ _ _ _ _ | exact Kd.Q_nil _ _ _ _ _ | exact Kd.S_nil _ _ _ _ _⟩, ⟨by repeat (first | (with_reducible first | exact HB.out | apply below_alloc | apply pw_below_drewN | apply below_drew1) | exact HB.out)⟩⟩
  case round =>
    clear H'
    obtain ⟨x4_1, x5_1, rfl, HA, HK1, HO_4, HB⟩ := hrel
    cases gk with
    | zero => exact absurd HA.out (by simp [heliastref05_Bytes.l0])
    | succ k1 =>
      have H := HA.out
      clear HA
      simp only [heliastref05_Bytes.l0] at H
      by_cases c2 : x5_1 < (a0.size : Int)
      · rw [if_pos c2] at H
        have c2b0 : decide (x5_1 < (a0.size : Int)) = true := decide_eq_true c2
        clear c2
        obtain ⟨ji3, hji3⟩ : ∃ j_ : Int, (mn (wrap64 ((a0.size : Int) - x5_1)) 4) = j_ := ⟨_, rfl⟩
        replace H : (heliastref05_Bytes.l1 k1 a0 x4_1 x5_1 ji3 0 0) = some (r1, r2) := by first | (rw [hji3] at H; exact H) | (simp only [hji3] at H ⊢; exact H)
        have hji3_ : (if 4 < (wrap64 ((a0.size : Int) - x5_1)) then 4 else (wrap64 ((a0.size : Int) - x5_1))) = ji3 := hji3
        have H' := Aside0.mk H
        clear H
        go_wp2
        go_loopg [7, 8] k1 (fun kq v7 v8 w' => ∃ (x7_2 : Int) (x8_2 : Int), v7 = .int .i64 x7_2 ∧ v8 = .int .i64 x8_2 ∧ Aside0 (heliastref05_Bytes.l1 kq a0 x4_1 x5_1 ji3 x7_2 x8_2 = some (r1, r2)) ∧ Aside0 (kq ≤ k1) ∧ Aside0 (Kd.R (Kd.int .u8) 5 w' w.heap.size (fun _ => True) u4 x4_1) ∧ Aside0 (Below w.heap.size w w'))
        case atStart => exact ⟨(0), (0), (by first | rfl | (simp; done) | (simp [*]; done)), (by first | rfl | (simp; done) | (simp [*]; done)), H', ⟨Nat.le_refl _⟩, ⟨by (with_reducible repeat (first | apply Kd.R_alloc | apply Kd.R_drewN | apply Kd.R_drew)); exact HO_4.out⟩, ⟨by repeat (first | (with_reducible first | exact HB.out | apply below_alloc | apply pw_below_drewN | apply below_drew1) | exact HB.out)⟩⟩
        case round =>
          clear H'
          try clear c2
          try clear c2b0
          try clear p2
          try clear c3
          obtain ⟨x7_2, x8_2, rfl, rfl, HA, HK2, HO_4, HB⟩ := hrel
          cases gk with
          | zero => exact absurd HA.out (by simp [heliastref05_Bytes.l1])
          | succ k2 =>
            have H := HA.out
            clear HA
            simp only [heliastref05_Bytes.l1] at H
            by_cases c4 : x8_2 < 4
            · rw [if_pos c4] at H
              have c4b0 : decide (x8_2 < 4) = true := decide_eq_true c4
              clear c4
              by_cases c5 : x8_2 < ji3
              · rw [if_pos c5] at H
                have c5b0 : decide (x8_2 < ji3) = true := decide_eq_true c5
                clear c5
                obtain ⟨ji6, hji6⟩ : ∃ j_ : Int, (wrap64 (x5_1 + x8_2)) = j_ := ⟨_, rfl⟩
                replace H : (if 0 ≤ (ji6) then (if (ji6) < (a0.size : Int) then ((heliastref05_sign.f k2 (bt a0 (ji6))).bind fun t103 => (if t103 < 0 then (some (([] : List Int), false)) else (heliastref05_Bytes.l1 k2 a0 x4_1 x5_1 ji3 (wrap64 ((wrap64 (64 * x7_2)) + t103)) (wrap64 (x8_2 + 1))))) else (none)) else (none)) = some (r1, r2) := by first | (rw [hji6] at H; exact H) | (simp only [hji6] at H ⊢; exact H)
                have hji6w : (IntKind.i64.wrap (x5_1 + x8_2)) = ji6 := (i64_w _).trans hji6
                by_cases c7 : 0 ≤ (ji6)
                · rw [if_pos c7] at H
                  have c7b0 : decide (0 ≤ (ji6)) = true := decide_eq_true c7
                  clear c7
                  by_cases c8 : (ji6) < (a0.size : Int)
                  · rw [if_pos c8] at H
                    have c8b0 : decide ((ji6) < (a0.size : Int)) = true := decide_eq_true c8
                    clear c8
                    replace H := Option.bind_eq_some_iff.mp H
                    obtain ⟨t103, A100, H⟩ := H
                    replace H : (if t103 < 0 then (some (([] : List Int), false)) else (heliastref05_Bytes.l1 k2 a0 x4_1 x5_1 ji3 (wrap64 ((wrap64 (64 * x7_2)) + t103)) (wrap64 (x8_2 + 1)))) = some (r1, r2) := H
                    have A10 := Aside0.mk A100
                    clear A100
                    by_cases c11 : t103 < 0
                    · rw [if_pos c11] at H
                      have c11b0 : decide (t103 < 0) = true := decide_eq_true c11
                      clear c11
                      simp only [Option.some.injEq, Prod.mk.injEq] at H
                      obtain ⟨rfl, rfl⟩ := H
                      have p9 : 0 ≤ ((ji6) : Int) := of_decide_eq_true (by first | (with_reducible assumption) | assumption)
                      have q9 : (ji6) < (a0.size : Int) := of_decide_eq_true (by first | (with_reducible assumption) | assumption)
                      have hx9 := bt_at a0 (ji6)
                      replace p9 := eq_true p9
                      replace q9 := eq_true q9
                      go_wp2_with (first | ((with_reducible refine gate_callee (f := 42) rfl ?_); refine goesL_ (some 34) rfl rfl Try.func42 (by kernel_rfl) rfl #[.int .u8 (bt a0 (ji6))] rfl (by (try simp only [List.map_toArray, List.map_cons, List.map_nil]); first | done | (simp only [hji6]; rfl) | rfl | (simp only [List.length_drop, List.length_take]; rfl)) ?_; (with_reducible refine (heliastref05_sign.calls k2 (bt a0 (ji6)) t103 _ A10.out).mono ?_); rintro e w' ⟨rfl, ⟨nd, rfl⟩⟩; refine ⟨_, rfl, ?_⟩))
                      go_ret2
                      exact ⟨_, by first | rfl | (simp [errW_none, errW_some] <;> rfl) | (simp only [← hji3, ← hji6]; first | rfl | (simp [errW_none, errW_some] <;> rfl)) | (simp [*, errW_none, errW_some] <;> rfl), by first | exact Kd.R_nil _ _ _ _ _ | exact Kd.N_nil _ _ _ _ _ | exact Kd.V_nil _ _ _ _ _ | exact Kd.Q_nil _ _ _ _ _ | exact Kd.S_nil _ _ _ _ _, by repeat (first | (with_reducible first | exact HB.out | apply below_alloc | apply pw_below_drewN | apply below_drew1) | exact HB.out)⟩
                    · rw [if_neg c11] at H
                      have c11b0 : decide (t103 < 0) = false := decide_eq_false c11
                      clear c11
                      have H' := Aside0.mk H
                      clear H
                      have p9 : 0 ≤ ((ji6) : Int) := of_decide_eq_true (by first | (with_reducible assumption) | assumption)
                      have q9 : (ji6) < (a0.size : Int) := of_decide_eq_true (by first | (with_reducible assumption) | assumption)
                      have hx9 := bt_at a0 (ji6)
                      replace p9 := eq_true p9
                      replace q9 := eq_true q9
                      go_wp2_with (first | ((with_reducible refine gate_callee (f := 42) rfl ?_); refine goesL_ (some 34) rfl rfl Try.func42 (by kernel_rfl) rfl #[.int .u8 (bt a0 (ji6))] rfl (by (try simp only [List.map_toArray, List.map_cons, List.map_nil]); first | done | (simp only [hji6]; rfl) | rfl | (simp only [List.length_drop, List.length_take]; rfl)) ?_; (with_reducible refine (heliastref05_sign.calls k2 (bt a0 (ji6)) t103 _ A10.out).mono ?_); rintro e w' ⟨rfl, ⟨nd, rfl⟩⟩; refine ⟨_, rfl, ?_⟩))
                      go_roundg k2
                      case measure => have := HK1.out; have := HK2.out; omega
                      case rel => exact ⟨(wrap64 ((wrap64 (64 * x7_2)) + t103)), (wrap64 (x8_2 + 1)), (by first | rfl | (simp; done) | (simp [*]; done)), (by first | rfl | (simp; done) | (simp [*]; done)), H', ⟨by have := HK1.out; have := HK2.out; omega⟩, ⟨by (with_reducible repeat (first | apply Kd.R_alloc | apply Kd.R_drewN | apply Kd.R_drew)); exact HO_4.out⟩, ⟨by repeat (first | (with_reducible first | exact HB.out | apply below_alloc | apply pw_below_drewN | apply below_drew1) | exact HB.out)⟩⟩
                  · rw [if_neg c8] at H
                    exact absurd H (by simp)
                · rw [if_neg c7] at H
                  exact absurd H (by simp)
              · rw [if_neg c5] at H
                have c5b0 : decide (x8_2 < ji3) = false := decide_eq_false c5
                clear c5
                by_cases c12 : 0 < 0
                · exact absurd c12 (by omega)
                · rw [if_neg c12] at H
                  have c12b0 : decide (0 < 0) = false := decide_eq_false c12
                  clear c12
                  have H' := Aside0.mk H
                  clear H
                  go_wp2
                  go_roundg k2
                  case measure => have := HK1.out; have := HK2.out; omega
                  case rel => exact ⟨(wrap64 ((wrap64 (64 * x7_2)) + 0)), (wrap64 (x8_2 + 1)), (by first | rfl | (simp; done) | (simp [*]; done)), (by first | rfl | (simp; done) | (simp [*]; done)), H', ⟨by have := HK1.out; have := HK2.out; omega⟩, ⟨by (with_reducible repeat (first | apply Kd.R_alloc | apply Kd.R_drewN | apply Kd.R_drew)); exact HO_4.out⟩, ⟨by repeat (first | (with_reducible first | exact HB.out | apply below_alloc | apply pw_below_drewN | apply below_drew1) | exact HB.out)⟩⟩
            · rw [if_neg c4] at H
              have c4b0 : decide (x8_2 < 4) = false := decide_eq_false c4
              clear c4
              have H' := Aside0.mk H
              clear H
              go_wp2
              go_loopg [4, 10] k2 (fun kq v4 v10 w' => ∃ (x4_3 : List Int) (x10_3 : Int), v10 = .int .i64 x10_3 ∧ Aside0 (heliastref05_Bytes.l2 kq a0 x4_3 x5_1 ji3 x7_2 x10_3 = some (r1, r2)) ∧ Aside0 (kq ≤ k2) ∧ Aside0 (Kd.R (Kd.int .u8) 5 w' w.heap.size (fun _ => True) v4 x4_3) ∧ Aside0 (Below w.heap.size w w'))
              case atStart => exact ⟨(x4_1), (0), (by first | rfl | (simp; done) | (simp [*]; done)), H', ⟨Nat.le_refl _⟩, ⟨by (with_reducible repeat (first | apply Kd.R_alloc | apply Kd.R_drewN | apply Kd.R_drew)); exact HO_4.out⟩, ⟨by repeat (first | (with_reducible first | exact HB.out | apply below_alloc | apply pw_below_drewN | apply below_drew1) | exact HB.out)⟩⟩
              case round =>
                clear H'
                try clear c1
                try clear c2
                try clear c2b0
                try clear p2
                try clear c3
                try clear c4
                try clear c4b0
                try clear c5
                try clear c5b0
                try clear p6
                try clear c7
                try clear c7b0
                try clear c8
                try clear c8b0
                try clear p9
                try clear q9
                try clear hx9
                try clear c11
                try clear c11b0
                try clear c12
                try clear c12b0
                try clear p2
                try clear p9
                try clear q9
                obtain ⟨x4_3, x10_3, rfl, HA, HK3, HO_4, HB⟩ := hrel
                cases gk with
                | zero => exact absurd HA.out (by simp [heliastref05_Bytes.l2])
                | succ k3 =>
                  have H := HA.out
                  clear HA
                  simp only [heliastref05_Bytes.l2] at H
                  by_cases c13 : x10_3 < (wrap64 (ji3 - 1))
                  · rw [if_pos c13] at H
                    have c13b0 : decide (x10_3 < (wrap64 (ji3 - 1))) = true := decide_eq_true c13
                    clear c13
                    obtain ⟨ji14, hji14⟩ : ∃ j_ : Int, (IntKind.u64.wrap (wrap64 (16 - (wrap64 (8 * x10_3))))) = j_ := ⟨_, rfl⟩
                    replace H : (if 0 ≤ (ji14) then (if x4_3.length < 140737488355328 then (heliastref05_Bytes.l2 k3 a0 (x4_3 ++ [(shr .i64 x7_2 (ji14)) % 256]) x5_1 ji3 x7_2 (wrap64 (x10_3 + 1))) else (none)) else (none)) = some (r1, r2) := by first | (rw [hji14] at H; exact H) | (simp only [hji14] at H ⊢; exact H)
                    by_cases c15 : 0 ≤ (ji14)
                    · rw [if_pos c15] at H
                      have c15b0 := eq_true c15
                      have c15b1 : decide (0 ≤ (ji14)) = true := decide_eq_true c15
                      clear c15
                      obtain ⟨ji16, hji16⟩ : ∃ j_ : Int, (shr .i64 x7_2 (ji14)) = j_ := ⟨_, rfl⟩
                      replace H : (if x4_3.length < 140737488355328 then (heliastref05_Bytes.l2 k3 a0 (x4_3 ++ [(ji16) % 256]) x5_1 ji3 x7_2 (wrap64 (x10_3 + 1))) else (none)) = some (r1, r2) := by first | (rw [hji16] at H; exact H) | (simp only [hji16] at H ⊢; exact H)
                      have hji16_ : (x7_2 / 2 ^ min (ji14).toNat 64) = ji16 := hji16
                      have hji16z : (ji14) ≤ 64 → (x7_2 / 2 ^ (ji14).toNat) = ji16 := shr_small hji16
                      by_cases c17 : x4_3.length < 140737488355328
                      · rw [if_pos c17] at H
                        have LMc17 := Aside0.mk c17
                        clear c17
                        obtain ⟨y104, hy104⟩ : ∃ y_ : List Int, y_ = (x4_3 ++ [(ji16) % 256]) := ⟨_, rfl⟩
                        replace H : (heliastref05_Bytes.l2 k3 a0 y104 x5_1 ji3 x7_2 (wrap64 (x10_3 + 1))) = some (r1, r2) := by first | (rw [hy104]; with_reducible exact H) | (have H2_ := (Option.bind_some _ _).symm.trans H; rw [hy104]; with_reducible exact H2_) | (have H2_ := (Option.bind_some _ _).symm.trans H; with_reducible exact H2_) | with_reducible exact H | (rw [hy104]; exact H) | exact H
                        have Ny104 := Aside0.mk hy104
                        clear hy104
                        have H' := Aside0.mk H
                        clear H
                        go_wp2_with (first | ((with_reducible refine gate_builtin (b := .append) (xs := #[.tmp 47, .tmp 55]) rfl ?_); at_builtin; refine Kd.R_append (Kd.int .u8) (w0 := w) w.heap.size rfl (.tmp 47) (.tmp 55) 22 5 (.int .u8 0) 1 rfl Try.underlying22 info5 rfl (by decide) (by omega) u4 x4_3 ((ji16) % 256) [.int .u8 ((ji16) % 256)] (fun _ => True) (fun _ => False) rfl rfl ?aP (fun _ hk => hk.elim) ?aF ?aO ?aB ?aS ?aL ?_; (case aP => exact rfl); (case aB => exact (by repeat (first | (with_reducible first | exact HB.out | apply below_alloc | apply pw_below_drewN | apply below_drew1) | exact HB.out))); (case aF => exact (fun _ _ => trivial)); (case aO => exact (by (with_reducible repeat (first | apply Kd.R_alloc | apply Kd.R_drewN | apply Kd.R_drew)); exact HO_4.out)); (case aS => exact (below_size (by repeat (first | (with_reducible first | exact HB.out | apply below_alloc | apply pw_below_drewN | apply below_drew1) | exact HB.out)))); (case aL => have := LMc17.out; omega); intro v105 w18 ho hb hg hat; rw [← Ny104.out] at ho; have n0_ := Aside0.mk (hb); have n1_ := Aside0.mk (ho); clear HB; clear HO_4; have HB := n0_; have HO106 := n1_; clear n0_ n1_; clear ho hb hg hat))
                        go_roundg k3
                        case measure => have := HK1.out; have := HK2.out; have := HK3.out; omega
                        case rel => exact ⟨(y104), (wrap64 (x10_3 + 1)), (by first | rfl | (simp; done) | (simp [*]; done)), H', ⟨by have := HK1.out; have := HK2.out; have := HK3.out; omega⟩, ⟨by (with_reducible repeat (first | apply Kd.R_alloc | apply Kd.R_drewN | apply Kd.R_drew)); exact HO106.out⟩, ⟨by repeat (first | (with_reducible first | exact HB.out | apply below_alloc | apply pw_below_drewN | apply below_drew1) | exact HB.out)⟩⟩
                      · rw [if_neg c17] at H
                        exact absurd H (by simp)
                    · rw [if_neg c15] at H
                      exact absurd H (by simp)
                  · rw [if_neg c13] at H
                    have c13b0 : decide (x10_3 < (wrap64 (ji3 - 1))) = false := decide_eq_false c13
                    clear c13
                    have H' := Aside0.mk H
                    clear H
                    go_wp2
                    go_roundg k3
                    case measure => have := HK1.out; have := HK2.out; have := HK3.out; omega
                    case rel => exact ⟨(x4_3), (wrap64 (x5_1 + 4)), (by first | rfl | (simp; done) | (simp [*]; done)), H', ⟨by have := HK1.out; have := HK2.out; have := HK3.out; omega⟩, ⟨by (with_reducible repeat (first | apply Kd.R_alloc | apply Kd.R_drewN | apply Kd.R_drew)); exact HO_4.out⟩, ⟨by repeat (first | (with_reducible first | exact HB.out | apply below_alloc | apply pw_below_drewN | apply below_drew1) | exact HB.out)⟩⟩
      · rw [if_neg c2] at H
        have c2b0 : decide (x5_1 < (a0.size : Int)) = false := decide_eq_false c2
        clear c2
        replace H := Option.bind_eq_some_iff.mp H
        obtain ⟨t102, A190, H⟩ := H
        replace H : (if t102.toList = a0.toList then (some (x4_1, true)) else (some (([] : List Int), false))) = some (r1, r2) := H
        have A19 := Aside0.mk A190
        clear A190
        by_cases c20 : t102.toList = a0.toList
        · rw [if_pos c20] at H
          have c20b0 : (t102.toList == a0.toList) = true := beq_iff_eq.mpr c20
          have c20b1 : (t102.toList != a0.toList) = false := bne_eq_false_iff_eq.mpr c20
          clear c20
          simp only [Option.some.injEq, Prod.mk.injEq] at H
          obtain ⟨rfl, rfl⟩ := H
          obtain ⟨Ao21, co21, eo21⟩ := Kd.R_slice HO_4.out
          subst eo21
          go_wp2_with (first | ((with_reducible refine gate_callee (f := 12) rfl ?_); refine goesL_ (some 58) rfl rfl Try.func12 (by kernel_rfl) rfl #[.slice Ao21 x4_1.length co21] rfl (by (try simp only [List.map_toArray, List.map_cons, List.map_nil]); first | done | rfl | (simp only [List.length_drop, List.length_take]; rfl)) ?_; (with_reducible refine (heliastref05_Text.calls k1 _ _ x4_1 t102 _ ?side1 ?side2 A19.out).mono ?_); (case side1 => repeat (first | exact (Kd.R_reads' HO_4.out).2.2 | (with_reducible refine Kd.C_alloc ?_ _) | (with_reducible refine Kd.C_drewN ?_ _) | (with_reducible refine Kd.C_drew ?_))); (case side2 => exact (Kd.R_reads' HO_4.out).2.1); rintro e w22 ⟨rfl, hb⟩; refine ⟨_, rfl, ?_⟩; have n0_ := Aside0.mk (Kd.R_below (by (with_reducible repeat (first | apply Kd.R_alloc | apply Kd.R_drewN | apply Kd.R_drew)); exact HO_4.out) hb); have n1_ := Aside0.mk (below_step (by repeat (first | (with_reducible first | exact HB.out | apply below_alloc | apply pw_below_drewN | apply below_drew1) | exact HB.out)) hb); clear HO_4; clear HB; have HO_4 := n0_; have HB := n1_; clear n0_ n1_; (try clear hb); (try clear hb2); (try clear hk); (try clear hi)))
          go_ret2
          exact ⟨_, by first | rfl | (simp [errW_none, errW_some] <;> rfl) | (simp [*, errW_none, errW_some] <;> rfl), by (with_reducible repeat (first | apply Kd.R_alloc | apply Kd.R_drewN | apply Kd.R_drew)); exact HO_4.out, by repeat (first | (with_reducible first | exact HB.out | apply below_alloc | apply pw_below_drewN | apply below_drew1) | exact HB.out)⟩
        · rw [if_neg c20] at H
          have c20b0 : (t102.toList == a0.toList) = false := beq_eq_false_iff_ne.mpr c20
          have c20b1 : (t102.toList != a0.toList) = true := bne_iff_ne.mpr c20
          simp only [Option.some.injEq, Prod.mk.injEq] at H
          obtain ⟨rfl, rfl⟩ := H
          obtain ⟨Ao23, co23, eo23⟩ := Kd.R_slice HO_4.out
          subst eo23
          go_wp2_with (first | ((with_reducible refine gate_callee (f := 12) rfl ?_); refine goesL_ (some 58) rfl rfl Try.func12 (by kernel_rfl) rfl #[.slice Ao23 x4_1.length co23] rfl (by (try simp only [List.map_toArray, List.map_cons, List.map_nil]); first | done | rfl | (simp only [List.length_drop, List.length_take]; rfl)) ?_; (with_reducible refine (heliastref05_Text.calls k1 _ _ x4_1 t102 _ ?side1 ?side2 A19.out).mono ?_); (case side1 => repeat (first | exact (Kd.R_reads' HO_4.out).2.2 | (with_reducible refine Kd.C_alloc ?_ _) | (with_reducible refine Kd.C_drewN ?_ _) | (with_reducible refine Kd.C_drew ?_))); (case side2 => exact (Kd.R_reads' HO_4.out).2.1); rintro e w24 ⟨rfl, hb⟩; refine ⟨_, rfl, ?_⟩; have n0_ := Aside0.mk (Kd.R_below (by (with_reducible repeat (first | apply Kd.R_alloc | apply Kd.R_drewN | apply Kd.R_drew)); exact HO_4.out) hb); have n1_ := Aside0.mk (below_step (by repeat (first | (with_reducible first | exact HB.out | apply below_alloc | apply pw_below_drewN | apply below_drew1) | exact HB.out)) hb); clear HO_4; clear HB; have HO_4 := n0_; have HB := n1_; clear n0_ n1_; (try clear hb); (try clear hb2); (try clear hk); (try clear hi)))
          go_ret2
          exact ⟨_, by first | rfl | (simp [errW_none, errW_some] <;> rfl) | (simp [*, errW_none, errW_some] <;> rfl), by first | exact Kd.R_nil _ _ _ _ _ | exact Kd.N_nil _ _ _ _ _ | exact Kd.V_nil _ _ _ _ _ | exact Kd.Q_nil _ _ _ _ _ | exact Kd.S_nil _ _ _ _ _, by repeat (first | (with_reducible first | exact HB.out | apply below_alloc | apply pw_below_drewN | apply below_drew1) | exact HB.out)⟩

end Go.Proofs.Ytnhljemnebgekaa.Rt

/-
  What the functions of these laws compute, as plain Lean functions, and that the machine's calls compute it: written by this session's own hook over the kit's print.
-/
namespace Go.Proofs.Ytnhljemnebgekaa.Rt
open Go.RowKit Go.Proofs.YtnhljemnebgekaaW.PrintWords Go.Proofs.YtnhljemnebgekaaW.PrintLast Go.Proofs.YtnhljemnebgekaaW.PrintMore
attribute [local go_sem] u32_sg u32_mx u64_sg u64_mx
attribute [local go_sem] max2_int min2_int max_two min_two max_three min_three max_four min_four   -- for this text's walks alone
set_option linter.unusedVariables false
set_option linter.unusedSimpArgs false

end Go.Proofs.Ytnhljemnebgekaa.Rt

/-
  The reference's Text, sign and Bytes, in plain words: they are the text of the signs, and the way back.
-/
namespace Go.Proofs.Ytnhljemnebgekaa
open Go.RowKit Sha Go.Proofs.YtnhljemnebgekaaW.PrintWords Go.Proofs.YtnhljemnebgekaaW.PrintLast Go.Proofs.YtnhljemnebgekaaW.PrintMore Rt
set_option linter.unusedSimpArgs false
def bs (l : List UInt8) : ByteArray := ⟨l.toArray⟩
theorem bs_size (l : List UInt8) : (bs l).size = l.length := by simp [bs, ByteArray.size]
theorem bs_snoc (l m : List UInt8) : bs l ++ bs m = bs (l ++ m) := by
  apply ByteArray.ext
  simp [bs]
theorem wrap_nat (n : Nat) (h : n < 9223372036854775808) : wrap64 (n : Int) = (n : Int) := by unfold wrap64; omega
theorem signs_piece : ∀ v, v < 64 → SG.extract v (v + 1) = bs [signs.getD v 0] := by decide +kernel
theorem sh_q (q : Nat) (h : q ≤ 3) : IntKind.u64.wrap (wrap64 (18 - wrap64 (6 * (q : Int)))) = ((18 - 6 * q : Nat) : Int) := by
  have : q = 0 ∨ q = 1 ∨ q = 2 ∨ q = 3 := by omega
  rcases this with rfl | rfl | rfl | rfl <;> rw [IntKind.wrap_u64] <;> unfold wrap64 <;> omega
theorem shrN (N e : Nat) (h : e ≤ 64) : shr .i64 (N : Int) (e : Int) = ((N / 2 ^ e : Nat) : Int) := by
  unfold shr
  rw [Int.toNat_natCast, show IntKind.i64.bits = 64 from rfl, Nat.min_eq_left h]
  push_cast
  rfl
theorem piece_length (d : List UInt8) (j : Nat) : (piece d j).length = min 3 (d.length - 3 * j) := by simp [piece]
theorem piece_getD (d : List UInt8) (j i : Nat) (h : i < 3) : (piece d j).getD i 0 = d.getD (3 * j + i) 0 := by
  unfold piece
  simp only [List.getD_eq_getElem?_getD, List.getElem?_take, if_pos h, List.getElem?_drop]
theorem rt_l1 (d : List UInt8) (hd : d.length ≤ 1099511000000) (j : Nat) (s : ByteArray) (i k : Nat) (hj : 3 * j < d.length) (hi : i < 3) :
    heliastref05_Text.l1 (k + 1) (intsB d) s ((3 * j : Nat) : Int) ((grp (piece d j) i : Nat) : Int) (((piece d j).length : Nat) : Int) (i : Int) = heliastref05_Text.l1 k (intsB d) s ((3 * j : Nat) : Int) ((grp (piece d j) (i + 1) : Nat) : Int) (((piece d j).length : Nat) : Int) ((i + 1 : Nat) : Int) := by
  have hg := grp_lt (piece d j) i
  have hg2 : grp (piece d j) i < 65536 := Nat.lt_of_lt_of_le hg (by
    have : i = 0 ∨ i = 1 ∨ i = 2 := by omega
    rcases this with rfl | rfl | rfl <;> simp)
  have hl := piece_length d j
  have hx := ((piece d j).getD i 0).toNat_lt
  have hgs : grp (piece d j) (i + 1) = grp (piece d j) i * 256 + ((piece d j).getD i 0).toNat := rfl
  simp only [heliastref05_Text.l1]
  rw [if_pos (by omega), show wrap64 ((i : Int) + 1) = ((i + 1 : Nat) : Int) from by unfold wrap64; omega, show wrap64 (256 * ((grp (piece d j) i : Nat) : Int)) = ((grp (piece d j) i * 256 : Nat) : Int) from by unfold wrap64; omega, show wrap64 (((3 * j : Nat) : Int) + (i : Int)) = ((3 * j + i : Nat) : Int) from by unfold wrap64; omega]
  by_cases hin : i < (piece d j).length
  · rw [if_pos (by omega), if_pos (by omega), if_pos (by rw [intsB_length]; omega), show rd (intsB d) ((3 * j + i : Nat) : Int) = (((piece d j).getD i 0).toNat : Int) from by rw [rd_intsB, piece_getD d j i hi], wrap_nat _ (by omega), hgs,
      show wrap64 (((grp (piece d j) i * 256 : Nat) : Int) + (((piece d j).getD i 0).toNat : Int)) = ((grp (piece d j) i * 256 + ((piece d j).getD i 0).toNat : Nat) : Int) from by unfold wrap64; omega]
  · have h0 : ((piece d j).getD i 0).toNat = 0 := by rw [List.getD_eq_getElem?_getD, List.getElem?_eq_none (by omega)]; rfl
    have h1 : grp (piece d j) i * 256 + 0 = grp (piece d j) i * 256 := Nat.add_zero _
    rw [if_neg (by omega), hgs, h0, h1]
theorem rt_l2 (d : List UInt8) (j : Nat) (s : ByteArray) (q k N m : Nat) (hm : m ≤ 3) (hq : q ≤ m) (hs : s.size ≤ 4611686018427387904) :
    heliastref05_Text.l2 (k + 1) (intsB d) s ((3 * j : Nat) : Int) (N : Int) (m : Int) (q : Int) = heliastref05_Text.l2 k (intsB d) (s ++ bs [signAt N q]) ((3 * j : Nat) : Int) (N : Int) (m : Int) ((q + 1 : Nat) : Int) := by
  simp only [heliastref05_Text.l2]
  rw [if_pos (by omega), sh_q q (by omega), if_pos (by omega), shrN _ _ (by omega)]
  have e1 : Int.tmod ((N / 2 ^ (18 - 6 * q) : Nat) : Int) 64 = ((N / 2 ^ (18 - 6 * q) % 64 : Nat) : Int) := rfl
  have hv : N / 2 ^ (18 - 6 * q) % 64 < 64 := Nat.mod_lt _ (by omega)
  have hsa : signAt N q = signs.getD (N / 2 ^ (18 - 6 * q) % 64) 0 := rfl
  rw [e1, hsa]
  generalize N / 2 ^ (18 - 6 * q) % 64 = v at *
  rw [if_pos (by omega), show wrap64 ((v : Int) + 1) = ((v + 1 : Nat) : Int) from by unfold wrap64; omega, if_pos (by omega), if_pos (by omega), show wrap64 ((q : Int) + 1) = ((q + 1 : Nat) : Int) from by unfold wrap64; omega, Int.toNat_natCast, Int.toNat_natCast]
  have e4 := signs_piece v hv
  unfold SG at e4
  rw [e4, if_pos (by rw [bs_size]; simp; omega)]
theorem rt_l2s (d : List UInt8) (hd : d.length ≤ 1099511000000) (j N m : Nat) (hj : j ≤ 1099511000000) (hN : N < 16777216) (hm : m ≤ 3) (r : ByteArray) : ∀ (p q : Nat) (s : List UInt8), p + q = m + 1 → s.length + p ≤ 4611686018427387904 →
    Ev (fun k => heliastref05_Text.l0 k (intsB d) (bs (s ++ (List.range' q p).map (signAt N))) ((3 * j + 3 : Nat) : Int)) r → Ev (fun k => heliastref05_Text.l2 k (intsB d) (bs s) ((3 * j : Nat) : Int) (N : Int) (m : Int) (q : Int)) r
  | 0, q, s, hp, hs, h => by
    refine Ev.step (fun k => ?_) h
    simp only [heliastref05_Text.l2]
    have e3 : wrap64 (((3 * j : Nat) : Int) + 3) = ((3 * j + 3 : Nat) : Int) := by
      unfold wrap64; omega
    rw [if_neg (by omega), e3]
    simp
  | p + 1, q, s, hp, hs, h => by
    refine Ev.step (fun k => rt_l2 d j (bs s) q k N m hm (by omega) (by rw [bs_size]; omega)) ?_
    rw [bs_snoc]
    refine rt_l2s d hd j N m hj hN hm r p (q + 1) (s ++ [signAt N q]) (by omega) (by simp; omega) ?_
    simpa [List.range'_succ] using h
/-- A text of the bytes, group by group. -/
def tx : List UInt8 → List UInt8
  | [] => []
  | [a] => grpText [a] 2
  | [a, b] => grpText [a, b] 3
  | a :: b :: c :: l => grpText [a, b, c] 4 ++ tx l
theorem tx_step (l : List UInt8) (h : 0 < l.length) : tx l = grpText (l.take 3) ((l.take 3).length + 1) ++ tx (l.drop 3) := by
  match l, h with
  | [a], _ => simp [tx]
  | [a, b], _ => simp [tx]
  | a :: b :: c :: l, _ => simp [tx]
theorem text_from (d : List UInt8) : ∀ (p j : Nat), j + p = many3 d.length → (List.range' j p).flatMap (fun k => grpText (piece d k) ((piece d k).length + 1)) = tx (d.drop (3 * j))
  | 0, j, h => by
    unfold many3 at h
    rw [List.drop_of_length_le (by omega)]
    rfl
  | p + 1, j, h => by
    have hlt : 3 * j < d.length := by unfold many3 at h; omega
    rw [tx_step _ (by rw [List.length_drop]; omega), List.drop_drop, List.range'_succ, List.flatMap_cons, text_from d p (j + 1) (by omega)]
    rfl
theorem text_tx (d : List UInt8) : text d = tx d := by
  unfold text
  rw [List.range_eq_range', text_from d _ 0 (by omega)]
  rfl
theorem rt_l0 (d : List UInt8) (hd : d.length ≤ 1099511000000) : ∀ (p j : Nat) (s : List UInt8), d.length ≤ 3 * j + p → s.length + 4 * p ≤ 4611686018427387900 → j ≤ 1099511000000 →
    Ev (fun k => heliastref05_Text.l0 k (intsB d) (bs s) ((3 * j : Nat) : Int)) (bs (s ++ tx (d.drop (3 * j))))
  | p, j, s, hp, hs, hj => by
    by_cases hlt : 3 * j < d.length
    · obtain ⟨q, rfl⟩ : ∃ q, p = q + 1 := ⟨p - 1, by omega⟩
      have hpl := piece_length d j
      have hg3 : grp (piece d j) 3 < 16777216 := grp_lt (piece d j) 3
      refine Ev.step (f := fun k => heliastref05_Text.l1 k (intsB d) (bs s) ((3 * j : Nat) : Int) ((grp (piece d j) 0 : Nat) : Int) (((piece d j).length : Nat) : Int) ((0 : Nat) : Int)) (fun k => ?_) ?_
      · simp only [heliastref05_Text.l0]
        rw [if_pos (by rw [intsB_length]; omega), intsB_length, show wrap64 ((d.length : Int) - ((3 * j : Nat) : Int)) = ((d.length - 3 * j : Nat) : Int) from by unfold wrap64; omega]
        have e : mn ((d.length - 3 * j : Nat) : Int) 3 = (((piece d j).length : Nat) : Int) := by unfold mn; split <;> omega
        rw [e]
        rfl
      refine Ev.step (fun k => rt_l1 d hd j (bs s) 0 k hlt (by omega)) ?_
      refine Ev.step (fun k => rt_l1 d hd j (bs s) 1 k hlt (by omega)) ?_
      refine Ev.step (fun k => rt_l1 d hd j (bs s) 2 k hlt (by omega)) ?_
      refine Ev.step (f := fun k => heliastref05_Text.l2 k (intsB d) (bs s) ((3 * j : Nat) : Int) ((grp (piece d j) 3 : Nat) : Int) (((piece d j).length : Nat) : Int) ((0 : Nat) : Int)) (fun k => ?_) ?_
      · simp only [heliastref05_Text.l1]
        rw [if_neg (by omega)]
        rfl
      refine rt_l2s d hd j _ _ hj hg3 (by omega) _ ((piece d j).length + 1) 0 s (by omega) (by omega) ?_
      have ih := rt_l0 d hd q (j + 1) (s ++ (List.range' 0 ((piece d j).length + 1)).map (signAt (grp (piece d j) 3))) (by omega) (by simp; omega) (by omega)
      rw [tx_step _ (show 0 < (d.drop (3 * j)).length from by rw [List.length_drop]; omega), List.drop_drop]
      have e2 : (List.range' 0 ((piece d j).length + 1)).map (signAt (grp (piece d j) 3)) = grpText ((d.drop (3 * j)).take 3) (((d.drop (3 * j)).take 3).length + 1) := by
        unfold grpText
        rw [List.range_eq_range']
        rfl
      rw [e2, List.append_assoc] at ih
      rw [e2]
      exact ih
    · refine Ev.step (f := fun _ => some (bs s)) (fun k => ?_) ?_
      · simp only [heliastref05_Text.l0]
        rw [if_neg (by rw [intsB_length]; omega)]
      · rw [List.drop_of_length_le (by omega)]
        simp only [tx, List.append_nil]
        exact Ev.now _
theorem rt_text (d : List UInt8) (hd : d.length ≤ 1099511000000) : Ev (fun k => heliastref05_Text.f k (intsB d)) (bs (text d)) := by
  have := rt_l0 d hd d.length 0 [] (by omega) (by simp; omega) (by omega)
  rw [text_tx]
  exact (by simpa using this : Ev (fun k => heliastref05_Text.l0 k (intsB d) (bs []) 0) (bs (tx d)))
end Go.Proofs.Ytnhljemnebgekaa

/-
  Plain lists: the text of the signs and the way back are each other's.
-/
namespace Go.Proofs.Ytnhljemnebgekaa
open Go.RowKit Sha
set_option linter.unusedSimpArgs false
/-- A sign's number, if it is one. -/
def dg (c : UInt8) : Option Nat := if sgn c < 0 then none else some (sgn c).toNat
def sg (v : Nat) : UInt8 := signs.getD v 0
theorem dg_sg : ∀ v, v < 64 → dg (sg v) = some v := by decide +kernel
theorem sgn_sg : ∀ v, v < 64 → sgn (sg v) = (v : Int) := by decide +kernel
theorem indexByte_get : ∀ (l : List UInt8) (c : UInt8) (d : Nat), Lib.indexByte l c = (d : Int) → l.getD d 0 = c
  | [], c, d, h => by simp [Lib.indexByte] at h
  | b :: l, c, d, h => by
    unfold Lib.indexByte at h
    split at h
    · rename_i hb
      have hd : d = 0 := by omega
      subst hd
      simpa using hb
    · split at h
      · omega
      · rename_i h2
        have h3 : Lib.indexByte l c ≠ -1 := by simpa using h2
        have := Lib.indexByte_ge l c
        obtain ⟨e, rfl⟩ : ∃ e, d = e + 1 := ⟨d - 1, by omega⟩
        rw [List.getD_cons_succ]
        exact indexByte_get l c e (by omega)
theorem dg_some {c : UInt8} {d : Nat} (h : dg c = some d) : d < 64 ∧ sg d = c ∧ sgn c = (d : Int) := by
  unfold dg at h
  split at h
  · cases h
  · cases h
    have h1 := sgn_lt c
    have h2 : sgn c = ((sgn c).toNat : Int) := by omega
    exact ⟨by omega, indexByte_get signs c _ h2, h2⟩
theorem dg_none {c : UInt8} (h : dg c = none) : sgn c < 0 := by
  unfold dg at h
  split at h
  · assumption
  · cases h
/-- What a text of signs stands for, four by four. -/
def un4 : List UInt8 → Option (List UInt8)
  | [] => some []
  | [_] => none
  | [a, b] => (dg a).bind fun x => (dg b).bind fun y => if y % 16 = 0 then some [UInt8.ofNat (x * 4 + y / 16)] else none
  | [a, b, c] => (dg a).bind fun x => (dg b).bind fun y => (dg c).bind fun z => if z % 4 = 0 then some [UInt8.ofNat (x * 4 + y / 16), UInt8.ofNat (y % 16 * 16 + z / 4)] else none
  | a :: b :: c :: d :: l => (dg a).bind fun x => (dg b).bind fun y => (dg c).bind fun z => (dg d).bind fun u => (un4 l).bind fun r => some (UInt8.ofNat (x * 4 + y / 16) :: UInt8.ofNat (y % 16 * 16 + z / 4) :: UInt8.ofNat (z % 4 * 64 + u) :: r)
theorem unGo_none (c : UInt8) (l : List UInt8) (b n : Nat) (out : List UInt8) (h : dg c = none) : unGo (c :: l) b n out = none := unGo_bad c l b n out (dg_none h)
theorem unGo_0 (c : UInt8) (l : List UInt8) (n d : Nat) (out : List UInt8) (h : dg c = some d) : unGo (c :: l) 0 n out = unGo l 6 ((n * 64 + d) % 65536) out := by
  obtain ⟨h1, h2, h3⟩ := dg_some h
  rw [unGo, if_neg (by omega), if_neg (by omega), h3, Int.toNat_natCast]
theorem unGo_p (c : UInt8) (l : List UInt8) (b n d : Nat) (out : List UInt8) (hb : 2 ≤ b) (h : dg c = some d) : unGo (c :: l) b n out = unGo l (b - 2) ((n * 64 + d) % 65536) (out ++ [UInt8.ofNat ((n * 64 + d) % 65536 / 2 ^ (b - 2))]) := by
  obtain ⟨h1, h2, h3⟩ := dg_some h
  rw [unGo, if_neg (by omega), if_pos (by omega), h3, Int.toNat_natCast]
theorem ofNat_eq {a b : Nat} (h : a % 256 = b % 256) : UInt8.ofNat a = UInt8.ofNat b := by
  apply UInt8.toNat_inj.1
  rw [UInt8.toNat_ofNat', UInt8.toNat_ofNat']
  exact h
theorem unGo_un4 : ∀ (l : List UInt8) (n : Nat) (out : List UInt8), unGo l 0 n out = (un4 l).map (out ++ ·)
  | [], n, out => by simp [unGo, un4]; omega
  | [a], n, out => by
    cases ha : dg a with
    | none => rw [unGo_none _ _ _ _ _ ha]; rfl
    | some x => rw [unGo_0 _ _ _ _ _ ha]; simp [unGo, un4]
  | [a, b], n, out => by
    cases ha : dg a with
    | none => rw [unGo_none _ _ _ _ _ ha]; simp [un4, ha]
    | some x =>
      rw [unGo_0 _ _ _ _ _ ha]
      cases hb : dg b with
      | none => rw [unGo_none _ _ _ _ _ hb]; simp [un4, ha, hb]
      | some y =>
        have hx := (dg_some ha).1
        have hy := (dg_some hb).1
        rw [unGo_p _ _ _ _ _ _ (by omega) hb]
        simp only [unGo, un4, ha, hb, Option.bind_some]
        rw [show UInt8.ofNat (((n * 64 + x) % 65536 * 64 + y) % 65536 / 2 ^ (6 - 2)) = UInt8.ofNat (x * 4 + y / 16) from ofNat_eq (by simp; omega)]
        by_cases hz : y % 16 = 0
        · rw [if_pos hz, if_neg (by simp; omega)]; rfl
        · rw [if_neg hz, if_pos (by simp; omega)]; rfl
  | [a, b, c], n, out => by
    cases ha : dg a with
    | none => rw [unGo_none _ _ _ _ _ ha]; simp [un4, ha]
    | some x =>
      rw [unGo_0 _ _ _ _ _ ha]
      cases hb : dg b with
      | none => rw [unGo_none _ _ _ _ _ hb]; simp [un4, ha, hb]
      | some y =>
        rw [unGo_p _ _ _ _ _ _ (by omega) hb]
        cases hc : dg c with
        | none => rw [unGo_none _ _ _ _ _ hc]; simp [un4, ha, hb, hc]
        | some z =>
          have hx := (dg_some ha).1
          have hy := (dg_some hb).1
          have hz' := (dg_some hc).1
          rw [unGo_p _ _ _ _ _ _ (by omega) hc]
          simp only [unGo, un4, ha, hb, hc, Option.bind_some]
          rw [show UInt8.ofNat (((n * 64 + x) % 65536 * 64 + y) % 65536 / 2 ^ (6 - 2)) = UInt8.ofNat (x * 4 + y / 16) from ofNat_eq (by simp; omega),
            show UInt8.ofNat ((((n * 64 + x) % 65536 * 64 + y) % 65536 * 64 + z) % 65536 / 2 ^ (6 - 2 - 2)) = UInt8.ofNat (y % 16 * 16 + z / 4) from ofNat_eq (by simp; omega)]
          by_cases hz : z % 4 = 0
          · rw [if_pos hz, if_neg (by simp; omega)]; simp
          · rw [if_neg hz, if_pos (by simp; omega)]; rfl
  | a :: b :: c :: d :: l, n, out => by
    cases ha : dg a with
    | none => rw [unGo_none _ _ _ _ _ ha]; simp [un4, ha]
    | some x =>
      rw [unGo_0 _ _ _ _ _ ha]
      cases hb : dg b with
      | none => rw [unGo_none _ _ _ _ _ hb]; simp [un4, ha, hb]
      | some y =>
        rw [unGo_p _ _ _ _ _ _ (by omega) hb]
        cases hc : dg c with
        | none => rw [unGo_none _ _ _ _ _ hc]; simp [un4, ha, hb, hc]
        | some z =>
          rw [unGo_p _ _ _ _ _ _ (by omega) hc]
          cases hd : dg d with
          | none => rw [unGo_none _ _ _ _ _ hd]; simp [un4, ha, hb, hc, hd]
          | some u =>
            have hx := (dg_some ha).1
            have hy := (dg_some hb).1
            have hz' := (dg_some hc).1
            have hu := (dg_some hd).1
            rw [unGo_p _ _ _ _ _ _ (by omega) hd]
            rw [show UInt8.ofNat (((n * 64 + x) % 65536 * 64 + y) % 65536 / 2 ^ (6 - 2)) = UInt8.ofNat (x * 4 + y / 16) from ofNat_eq (by simp; omega),
              show UInt8.ofNat ((((n * 64 + x) % 65536 * 64 + y) % 65536 * 64 + z) % 65536 / 2 ^ (6 - 2 - 2)) = UInt8.ofNat (y % 16 * 16 + z / 4) from ofNat_eq (by simp; omega),
              show UInt8.ofNat (((((n * 64 + x) % 65536 * 64 + y) % 65536 * 64 + z) % 65536 * 64 + u) % 65536 / 2 ^ (6 - 2 - 2 - 2)) = UInt8.ofNat (z % 4 * 64 + u) from ofNat_eq (by simp; omega)]
            rw [show 6 - 2 - 2 - 2 = 0 from rfl, unGo_un4 l]
            simp only [un4, ha, hb, hc, hd, Option.bind_some]
            cases un4 l <;> simp
theorem unText_un4 (l : List UInt8) : unText l = un4 l := by
  unfold unText
  rw [unGo_un4]
  cases un4 l <;> simp
theorem grpText4 (a b c : UInt8) : grpText [a, b, c] 4 = [sg (a.toNat / 4), sg (a.toNat % 4 * 16 + b.toNat / 16), sg (b.toNat % 16 * 4 + c.toNat / 64), sg (c.toNat % 64)] := by
  have ha := a.toNat_lt
  have hb := b.toNat_lt
  have hc := c.toNat_lt
  have e : grp [a, b, c] 3 = (a.toNat * 256 + b.toNat) * 256 + c.toNat := by simp [grp]
  simp only [grpText, e, signAt, sg, List.range_succ, List.range_zero, List.nil_append, List.cons_append, List.map_cons, List.map_nil]
  simp only [List.cons.injEq, and_true]
  refine ⟨?_, ?_, ?_, ?_⟩ <;> congr 1 <;> omega
theorem grpText3 (a b : UInt8) : grpText [a, b] 3 = [sg (a.toNat / 4), sg (a.toNat % 4 * 16 + b.toNat / 16), sg (b.toNat % 16 * 4)] := by
  have ha := a.toNat_lt
  have hb := b.toNat_lt
  have e : grp [a, b] 3 = (a.toNat * 256 + b.toNat) * 256 := by simp [grp]
  simp only [grpText, e, signAt, sg, List.range_succ, List.range_zero, List.nil_append, List.cons_append, List.map_cons, List.map_nil]
  simp only [List.cons.injEq, and_true]
  refine ⟨?_, ?_, ?_⟩ <;> congr 1 <;> omega
theorem grpText2 (a : UInt8) : grpText [a] 2 = [sg (a.toNat / 4), sg (a.toNat % 4 * 16)] := by
  have ha := a.toNat_lt
  have e : grp [a] 3 = a.toNat * 256 * 256 := by simp [grp]
  simp only [grpText, e, signAt, sg, List.range_succ, List.range_zero, List.nil_append, List.cons_append, List.map_cons, List.map_nil]
  simp only [List.cons.injEq, and_true]
  refine ⟨?_, ?_⟩ <;> congr 1 <;> omega
theorem ofNat_toNat' {a : UInt8} {n : Nat} (h : n = a.toNat) : UInt8.ofNat n = a := by
  subst h; simp
/-- There and back. -/
theorem un4_tx : ∀ l : List UInt8, un4 (tx l) = some l
  | [] => rfl
  | [a] => by
    have ha := a.toNat_lt
    rw [tx, grpText2]
    simp only [un4, dg_sg _ (show a.toNat / 4 < 64 from by omega), dg_sg _ (show a.toNat % 4 * 16 < 64 from by omega), Option.bind_some]
    rw [if_pos (by omega), ofNat_toNat' (a := a) (by omega)]
  | [a, b] => by
    have ha := a.toNat_lt
    have hb := b.toNat_lt
    rw [tx, grpText3]
    simp only [un4, dg_sg _ (show a.toNat / 4 < 64 from by omega), dg_sg _ (show a.toNat % 4 * 16 + b.toNat / 16 < 64 from by omega), dg_sg _ (show b.toNat % 16 * 4 < 64 from by omega), Option.bind_some]
    rw [if_pos (by omega), ofNat_toNat' (a := a) (by omega), ofNat_toNat' (a := b) (by omega)]
  | a :: b :: c :: l => by
    have ha := a.toNat_lt
    have hb := b.toNat_lt
    have hc := c.toNat_lt
    rw [tx, grpText4]
    simp only [List.cons_append, List.nil_append, un4, dg_sg _ (show a.toNat / 4 < 64 from by omega), dg_sg _ (show a.toNat % 4 * 16 + b.toNat / 16 < 64 from by omega), dg_sg _ (show b.toNat % 16 * 4 + c.toNat / 64 < 64 from by omega), dg_sg _ (show c.toNat % 64 < 64 from by omega), Option.bind_some, un4_tx l]
    rw [ofNat_toNat' (a := a) (by omega), ofNat_toNat' (a := b) (by omega), ofNat_toNat' (a := c) (by omega)]
/-- Back and there. -/
theorem tx_un4 : ∀ (s : List UInt8) (y : List UInt8), un4 s = some y → tx y = s
  | [], y, h => by simp [un4] at h; subst h; rfl
  | [_], y, h => by simp [un4] at h
  | [a, b], y, h => by
    simp only [un4, Option.bind_eq_some_iff] at h
    obtain ⟨x, hx, v, hv, h⟩ := h
    obtain ⟨x1, x2, _⟩ := dg_some hx
    obtain ⟨v1, v2, _⟩ := dg_some hv
    split at h
    · cases h
      rw [tx, grpText2, UInt8.toNat_ofNat', ← x2, ← v2]
      simp only [List.cons.injEq, and_true]
      refine ⟨?_, ?_⟩ <;> congr 1 <;> omega
    · cases h
  | [a, b, c], y, h => by
    simp only [un4, Option.bind_eq_some_iff] at h
    obtain ⟨x, hx, v, hv, z, hz, h⟩ := h
    obtain ⟨x1, x2, _⟩ := dg_some hx
    obtain ⟨v1, v2, _⟩ := dg_some hv
    obtain ⟨z1, z2, _⟩ := dg_some hz
    split at h
    · cases h
      rw [tx, grpText3, UInt8.toNat_ofNat', UInt8.toNat_ofNat', ← x2, ← v2, ← z2]
      simp only [List.cons.injEq, and_true]
      refine ⟨?_, ?_, ?_⟩ <;> congr 1 <;> omega
    · cases h
  | a :: b :: c :: d :: l, y, h => by
    simp only [un4, Option.bind_eq_some_iff] at h
    obtain ⟨x, hx, v, hv, z, hz, u, hu, r, hr, h⟩ := h
    obtain ⟨x1, x2, _⟩ := dg_some hx
    obtain ⟨v1, v2, _⟩ := dg_some hv
    obtain ⟨z1, z2, _⟩ := dg_some hz
    obtain ⟨u1, u2, _⟩ := dg_some hu
    cases h
    rw [tx, grpText4, UInt8.toNat_ofNat', UInt8.toNat_ofNat', UInt8.toNat_ofNat', ← x2, ← v2, ← z2, ← u2, tx_un4 l r hr]
    simp only [List.cons_append, List.nil_append, List.cons.injEq, and_true]
    refine ⟨?_, ?_, ?_, ?_⟩ <;> congr 1 <;> omega
theorem tx_length : ∀ l : List UInt8, (tx l).length = (4 * l.length + 2) / 3
  | [] => rfl
  | [a] => by rw [tx, grpText2]; simp
  | [a, b] => by rw [tx, grpText3]; simp
  | a :: b :: c :: l => by
    rw [tx, grpText4, List.length_append, tx_length l]
    simp only [List.length_cons, List.length_nil]
    omega
theorem un4_length (s y : List UInt8) (h : un4 s = some y) : s.length = (4 * y.length + 2) / 3 := by
  rw [← tx_length, tx_un4 s y h]
theorem tx_append : ∀ (a b : List UInt8), a.length % 3 = 0 → tx (a ++ b) = tx a ++ tx b
  | [], b, _ => rfl
  | [_], b, h => by simp at h
  | [_, _], b, h => by simp at h
  | x :: y :: z :: l, b, h => by
    have e : (x :: y :: z :: l) ++ b = x :: y :: z :: (l ++ b) := rfl
    rw [e, tx, tx, tx_append l b (by simp only [List.length_cons] at h; omega), List.append_assoc]
end Go.Proofs.Ytnhljemnebgekaa

/-
  The reference's sign and Bytes, in plain words.
-/
namespace Go.Proofs.Ytnhljemnebgekaa
open Go.RowKit Sha Go.Proofs.YtnhljemnebgekaaW.PrintWords Go.Proofs.YtnhljemnebgekaaW.PrintLast Go.Proofs.YtnhljemnebgekaaW.PrintMore Rt
set_option linter.unusedSimpArgs false
theorem bt_bs (l : List UInt8) (i : Nat) (h : i < l.length) : bt (bs l) (i : Int) = ((l.getD i 0).toNat : Int) := by
  unfold bt
  rw [Int.toNat_natCast, dif_pos (by rw [bs_size]; exact h)]
  rw [List.getD_eq_getElem?_getD, List.getElem?_eq_getElem h]
  rfl
theorem SG_bs : SG = bs signs := rfl
theorem sign_l0 (c : UInt8) : ∀ (p i : Nat), i + p = 64 → Ev (fun k => heliastref05_sign.l0 k (c.toNat : Int) (i : Int)) (if Lib.indexByte (signs.drop i) c < 0 then -1 else (i : Int) + Lib.indexByte (signs.drop i) c)
  | 0, i, h => by
    obtain rfl : i = 64 := by omega
    refine Ev.step (f := fun _ => some (-1)) (fun k => ?_) (Ev.now _)
    simp only [heliastref05_sign.l0]
    rw [if_neg (by omega)]
  | p + 1, i, h => by
    have hl : i < signs.length := by show i < 64; omega
    have hb := bt_bs signs i hl
    have hd : signs.drop i = signs.getD i 0 :: signs.drop (i + 1) := by
      rw [List.drop_eq_getElem_cons hl]; simp [List.getD_eq_getElem?_getD, List.getElem?_eq_getElem hl]
    have hge := Lib.indexByte_ge (signs.drop (i + 1)) c
    rw [hd]
    by_cases hc : signs.getD i 0 = c
    · refine Ev.step (f := fun _ => some (i : Int)) (fun k => ?_) ?_
      · simp only [heliastref05_sign.l0]
        rw [← SG_bs] at hb
        unfold SG at hb
        rw [if_pos (by omega), if_pos (by omega), hb, hc, if_pos rfl]
      · simp only [Lib.indexByte, hc, beq_self_eq_true, if_true]
        exact Ev.now _
    · refine Ev.step (f := fun k => heliastref05_sign.l0 k (c.toNat : Int) ((i + 1 : Nat) : Int)) (fun k => ?_) ?_
      · simp only [heliastref05_sign.l0]
        rw [← SG_bs] at hb
        unfold SG at hb
        rw [if_pos (by omega), if_pos (by omega), hb, if_neg (fun e => hc (UInt8.toNat_inj.1 (by omega))), show wrap64 ((i : Int) + 1) = ((i + 1 : Nat) : Int) from by unfold wrap64; omega]
      · have ih := sign_l0 c p (i + 1) (by omega)
        simp only [Lib.indexByte, beq_iff_eq, hc, if_false]
        generalize Lib.indexByte (signs.drop (i + 1)) c = z at *
        by_cases hz : z = -1
        · subst hz
          exact ih
        · rw [if_neg (by omega)] at ih
          rw [if_neg hz, if_neg (by omega), show (i : Int) + (z + 1) = ((i + 1 : Nat) : Int) + z from by omega]
          exact ih
theorem rt_sign (c : UInt8) : Ev (fun k => heliastref05_sign.f k (c.toNat : Int)) (sgn c) := by
  have h := sign_l0 c 64 0 (by omega)
  have e : (if Lib.indexByte (signs.drop 0) c < 0 then -1 else ((0 : Nat) : Int) + Lib.indexByte (signs.drop 0) c) = sgn c := by
    have := Lib.indexByte_ge signs c
    show (if Lib.indexByte signs c < 0 then -1 else ((0 : Nat) : Int) + Lib.indexByte signs c) = Lib.indexByte signs c
    split <;> omega
  rw [e] at h
  exact h
/-- The bytes of a text of signs, whatever its last bits are. -/
def raw4 : List UInt8 → Option (List UInt8)
  | [] => some []
  | [a] => (dg a).bind fun _ => some []
  | [a, b] => (dg a).bind fun x => (dg b).bind fun y => some [UInt8.ofNat (x * 4 + y / 16)]
  | [a, b, c] => (dg a).bind fun x => (dg b).bind fun y => (dg c).bind fun z => some [UInt8.ofNat (x * 4 + y / 16), UInt8.ofNat (y % 16 * 16 + z / 4)]
  | a :: b :: c :: d :: l => (dg a).bind fun x => (dg b).bind fun y => (dg c).bind fun z => (dg d).bind fun u => (raw4 l).bind fun r => some (UInt8.ofNat (x * 4 + y / 16) :: UInt8.ofNat (y % 16 * 16 + z / 4) :: UInt8.ofNat (z % 4 * 64 + u) :: r)
theorem raw_un4 : ∀ (l y : List UInt8), un4 l = some y → raw4 l = some y
  | [], y, h => h
  | [_], y, h => by simp [un4] at h
  | [a, b], y, h => by
    simp only [un4, Option.bind_eq_some_iff] at h
    obtain ⟨x, hx, v, hv, h⟩ := h
    split at h
    · simp only [raw4, hx, hv, Option.bind_some, h]
    · cases h
  | [a, b, c], y, h => by
    simp only [un4, Option.bind_eq_some_iff] at h
    obtain ⟨x, hx, v, hv, z, hz, h⟩ := h
    split at h
    · simp only [raw4, hx, hv, hz, Option.bind_some, h]
    · cases h
  | a :: b :: c :: d :: l, y, h => by
    simp only [un4, Option.bind_eq_some_iff] at h
    obtain ⟨x, hx, v, hv, z, hz, u, hu, r, hr, h⟩ := h
    simp only [raw4, hx, hv, hz, hu, raw_un4 l r hr, Option.bind_some, h]
/-- The reference's test: the text of the bytes is the text. -/
theorem raw_test (l : List UInt8) : (match raw4 l with | none => none | some r => if tx r = l then some r else none) = un4 l := by
  cases hu : un4 l with
  | some y => rw [raw_un4 l y hu]; simp only; rw [if_pos (tx_un4 l y hu)]
  | none =>
    cases hr : raw4 l with
    | none => rfl
    | some r =>
      simp only
      rw [if_neg (fun e => ?_)]
      rw [← e, un4_tx] at hu
      cases hu
theorem sh16 (q : Nat) (h : q ≤ 2) : IntKind.u64.wrap (wrap64 (16 - wrap64 (8 * (q : Int)))) = ((16 - 8 * q : Nat) : Int) := by
  have : q = 0 ∨ q = 1 ∨ q = 2 := by omega
  rcases this with rfl | rfl | rfl <;> rw [IntKind.wrap_u64] <;> unfold wrap64 <;> omega
theorem rb_in (s : List UInt8) (hs : s.length ≤ 1099511000000) (out : List UInt8) (j : Nat) (hj : 4 * j < s.length) (r : List Int × Bool) (i v d : Nat) (hi : i < 4) (hij : 4 * j + i < s.length) (hv : v < 262144) (hd : dg (s.getD (4 * j + i) 0) = some d)
    (h : Ev (fun k => heliastref05_Bytes.l1 k (bs s) (intsB out) ((4 * j : Nat) : Int) ((min (s.length - 4 * j) 4 : Nat) : Int) ((64 * v + d : Nat) : Int) ((i + 1 : Nat) : Int)) r) :
    Ev (fun k => heliastref05_Bytes.l1 k (bs s) (intsB out) ((4 * j : Nat) : Int) ((min (s.length - 4 * j) 4 : Nat) : Int) (v : Int) (i : Int)) r := by
  obtain ⟨h1, h2, h3⟩ := dg_some hd
  refine Ev.step (f := fun k => (heliastref05_sign.f k ((s.getD (4 * j + i) 0).toNat : Int)).bind fun t => if t < 0 then some (([] : List Int), false) else heliastref05_Bytes.l1 k (bs s) (intsB out) ((4 * j : Nat) : Int) ((min (s.length - 4 * j) 4 : Nat) : Int) (wrap64 ((wrap64 (64 * (v : Int))) + t)) (wrap64 ((i : Int) + 1))) (fun k => ?_) ?_
  · simp only [heliastref05_Bytes.l1]
    rw [if_pos (by omega), if_pos (by omega), show wrap64 (((4 * j : Nat) : Int) + (i : Int)) = ((4 * j + i : Nat) : Int) from by unfold wrap64; omega, if_pos (by omega), if_pos (by rw [bs_size]; omega), bt_bs s _ hij]
  · refine Ev.bind (rt_sign _) ?_
    rw [h3]
    refine Ev.congr (fun k => ?_) h
    rw [if_neg (by omega), show wrap64 ((wrap64 (64 * (v : Int))) + (d : Int)) = ((64 * v + d : Nat) : Int) from by unfold wrap64; omega, show wrap64 ((i : Int) + 1) = ((i + 1 : Nat) : Int) from by unfold wrap64; omega]
theorem rb_bad (s : List UInt8) (hs : s.length ≤ 1099511000000) (out : List UInt8) (j : Nat) (hj : 4 * j < s.length) (i v : Nat) (hi : i < 4) (hij : 4 * j + i < s.length) (hd : dg (s.getD (4 * j + i) 0) = none) :
    Ev (fun k => heliastref05_Bytes.l1 k (bs s) (intsB out) ((4 * j : Nat) : Int) ((min (s.length - 4 * j) 4 : Nat) : Int) (v : Int) (i : Int)) (([] : List Int), false) := by
  have h3 := dg_none hd
  refine Ev.step (f := fun k => (heliastref05_sign.f k ((s.getD (4 * j + i) 0).toNat : Int)).bind fun t => if t < 0 then some (([] : List Int), false) else heliastref05_Bytes.l1 k (bs s) (intsB out) ((4 * j : Nat) : Int) ((min (s.length - 4 * j) 4 : Nat) : Int) (wrap64 ((wrap64 (64 * (v : Int))) + t)) (wrap64 ((i : Int) + 1))) (fun k => ?_) ?_
  · simp only [heliastref05_Bytes.l1]
    rw [if_pos (by omega), if_pos (by omega), show wrap64 (((4 * j : Nat) : Int) + (i : Int)) = ((4 * j + i : Nat) : Int) from by unfold wrap64; omega, if_pos (by omega), if_pos (by rw [bs_size]; omega), bt_bs s _ hij]
  · refine Ev.bind (rt_sign _) ?_
    refine Ev.congr (fun k => ?_) (Ev.now _)
    rw [if_pos h3]
theorem rb_out (s : List UInt8) (hs : s.length ≤ 1099511000000) (out : List UInt8) (j : Nat) (hj : 4 * j < s.length) (r : List Int × Bool) (i v : Nat) (hi : i < 4) (hij : s.length ≤ 4 * j + i) (hv : v < 262144)
    (h : Ev (fun k => heliastref05_Bytes.l1 k (bs s) (intsB out) ((4 * j : Nat) : Int) ((min (s.length - 4 * j) 4 : Nat) : Int) ((64 * v : Nat) : Int) ((i + 1 : Nat) : Int)) r) :
    Ev (fun k => heliastref05_Bytes.l1 k (bs s) (intsB out) ((4 * j : Nat) : Int) ((min (s.length - 4 * j) 4 : Nat) : Int) (v : Int) (i : Int)) r := by
  refine Ev.step (fun k => ?_) h
  simp only [heliastref05_Bytes.l1]
  rw [if_pos (by omega), if_neg (by omega), if_neg (by omega), show wrap64 ((wrap64 (64 * (v : Int))) + 0) = ((64 * v : Nat) : Int) from by unfold wrap64; omega, show wrap64 ((i : Int) + 1) = ((i + 1 : Nat) : Int) from by unfold wrap64; omega]
theorem rb_end (s : List UInt8) (hs : s.length ≤ 1099511000000) (out : List UInt8) (j : Nat) (hj : 4 * j < s.length) (r : List Int × Bool) (v : Nat) (h : Ev (fun k => heliastref05_Bytes.l2 k (bs s) (intsB out) ((4 * j : Nat) : Int) ((min (s.length - 4 * j) 4 : Nat) : Int) (v : Int) ((0 : Nat) : Int)) r) :
    Ev (fun k => heliastref05_Bytes.l1 k (bs s) (intsB out) ((4 * j : Nat) : Int) ((min (s.length - 4 * j) 4 : Nat) : Int) (v : Int) ((4 : Nat) : Int)) r := by
  refine Ev.step (fun k => ?_) h
  simp only [heliastref05_Bytes.l1]
  rw [if_neg (by omega)]
  rfl
theorem rb_put (s : List UInt8) (hs : s.length ≤ 1099511000000) (out : List UInt8) (j : Nat) (hj : 4 * j < s.length) (r : List Int × Bool) (q v : Nat) (hq : q < min (s.length - 4 * j) 4 - 1) (ho : out.length < 140737488355328)
    (h : Ev (fun k => heliastref05_Bytes.l2 k (bs s) (intsB (out ++ [UInt8.ofNat (v / 2 ^ (16 - 8 * q))])) ((4 * j : Nat) : Int) ((min (s.length - 4 * j) 4 : Nat) : Int) (v : Int) ((q + 1 : Nat) : Int)) r) :
    Ev (fun k => heliastref05_Bytes.l2 k (bs s) (intsB out) ((4 * j : Nat) : Int) ((min (s.length - 4 * j) 4 : Nat) : Int) (v : Int) (q : Int)) r := by
  refine Ev.step (fun k => ?_) h
  simp only [heliastref05_Bytes.l2]
  rw [show wrap64 (((min (s.length - 4 * j) 4 : Nat) : Int) - 1) = ((min (s.length - 4 * j) 4 - 1 : Nat) : Int) from by unfold wrap64; omega, if_pos (by omega), sh16 q (by omega), if_pos (by omega), if_pos (by rw [intsB_length]; exact ho), shrN _ _ (by omega),
    show wrap64 ((q : Int) + 1) = ((q + 1 : Nat) : Int) from by unfold wrap64; omega]
  have e : intsB out ++ [((v / 2 ^ (16 - 8 * q) : Nat) : Int) % 256] = intsB (out ++ [UInt8.ofNat (v / 2 ^ (16 - 8 * q))]) := by
    rw [intsB_append]
    refine congrArg (intsB out ++ [·]) ?_
    show _ = (((UInt8.ofNat (v / 2 ^ (16 - 8 * q))).toNat : Nat) : Int)
    rw [UInt8.toNat_ofNat']
    omega
  rw [e]
theorem rb_next (s : List UInt8) (hs : s.length ≤ 1099511000000) (out : List UInt8) (j : Nat) (hj : 4 * j < s.length) (r : List Int × Bool) (q v : Nat) (hq : min (s.length - 4 * j) 4 - 1 ≤ q)
    (h : Ev (fun k => heliastref05_Bytes.l0 k (bs s) (intsB out) ((4 * (j + 1) : Nat) : Int)) r) :
    Ev (fun k => heliastref05_Bytes.l2 k (bs s) (intsB out) ((4 * j : Nat) : Int) ((min (s.length - 4 * j) 4 : Nat) : Int) (v : Int) (q : Int)) r := by
  refine Ev.step (fun k => ?_) h
  simp only [heliastref05_Bytes.l2]
  rw [show wrap64 (((min (s.length - 4 * j) 4 : Nat) : Int) - 1) = ((min (s.length - 4 * j) 4 - 1 : Nat) : Int) from by unfold wrap64; omega, if_neg (by omega), show wrap64 (((4 * j : Nat) : Int) + 4) = ((4 * (j + 1) : Nat) : Int) from by unfold wrap64; omega]
def fin4 (s out : List UInt8) : Option (List UInt8) → List Int × Bool
  | none => ([], false)
  | some r => if tx (out ++ r) = s then (intsB (out ++ r), true) else ([], false)
theorem bs_toList (l : List UInt8) : (bs l).toList = l := ByteArray.toList_mk l
theorem drop_cons {s : List UInt8} {n : Nat} (h : n < s.length) : s.drop n = s.getD n 0 :: s.drop (n + 1) := by
  rw [List.drop_eq_getElem_cons h]; simp [List.getD_eq_getElem?_getD, List.getElem?_eq_getElem h]
theorem fin4_cons (s out x : List UInt8) (o : Option (List UInt8)) : fin4 s out (o.bind fun r => some (x ++ r)) = fin4 s (out ++ x) o := by
  cases o with
  | none => rfl
  | some r => simp [fin4]
theorem getD_drop (s l : List UInt8) (n i : Nat) (h : s.drop n = l) : s.getD (n + i) 0 = l.getD i 0 := by
  rw [← h]; simp [List.getD_eq_getElem?_getD]
theorem rb_first (s : List UInt8) (hs : s.length ≤ 1000000000000) (out : List UInt8) (j : Nat) (hj : 4 * j < s.length) (r : List Int × Bool)
    (h : Ev (fun k => heliastref05_Bytes.l1 k (bs s) (intsB out) ((4 * j : Nat) : Int) ((min (s.length - 4 * j) 4 : Nat) : Int) ((0 : Nat) : Int) ((0 : Nat) : Int)) r) :
    Ev (fun k => heliastref05_Bytes.l0 k (bs s) (intsB out) ((4 * j : Nat) : Int)) r := by
  refine Ev.step (fun k => ?_) h
  simp only [heliastref05_Bytes.l0]
  rw [if_pos (by rw [bs_size]; omega), bs_size, show wrap64 ((s.length : Int) - ((4 * j : Nat) : Int)) = ((s.length - 4 * j : Nat) : Int) from by unfold wrap64; omega,
    show mn ((s.length - 4 * j : Nat) : Int) 4 = ((min (s.length - 4 * j) 4 : Nat) : Int) from by unfold mn; split <;> omega]
  rfl
theorem rb_last (s : List UInt8) (out : List UInt8) (j : Nat) (hj : s.length ≤ 4 * j) (ho : out.length ≤ 1099511000000) :
    Ev (fun k => heliastref05_Bytes.l0 k (bs s) (intsB out) ((4 * j : Nat) : Int)) (fin4 s out (some [])) := by
  refine Ev.step (f := fun k => (heliastref05_Text.f k (intsB out)).bind fun t => if t.toList = (bs s).toList then some (intsB out, true) else some (([] : List Int), false)) (fun k => ?_) ?_
  · simp only [heliastref05_Bytes.l0]
    rw [if_neg (by rw [bs_size]; omega)]
  · refine Ev.bind (rt_text out ho) ?_
    refine Ev.congr (fun k => ?_) (Ev.now _)
    rw [bs_toList, bs_toList, text_tx]
    simp only [fin4, List.append_nil]
    split <;> rfl
theorem rb_fin (s out r : List UInt8) (j : Nat) (hj : s.length ≤ 4 * j) (ho : (out ++ r).length ≤ 1099511000000) :
    Ev (fun k => heliastref05_Bytes.l0 k (bs s) (intsB (out ++ r)) ((4 * j : Nat) : Int)) (fin4 s out (some r)) := by
  have h := rb_last s (out ++ r) j hj ho
  have e : fin4 s (out ++ r) (some []) = fin4 s out (some r) := by simp [fin4]
  rwa [e] at h
theorem fin4_none (s out : List UInt8) : fin4 s out none = ([], false) := rfl
theorem rb_l0 (s : List UInt8) (hs : s.length ≤ 1000000000000) : ∀ (l : List UInt8) (j : Nat) (out : List UInt8), s.drop (4 * j) = l → out.length ≤ 3 * j → 3 * j ≤ s.length + 3 →
    Ev (fun k => heliastref05_Bytes.l0 k (bs s) (intsB out) ((4 * j : Nat) : Int)) (fin4 s out (raw4 l))
  | [], j, out, hl, ho, hj3 => rb_last s out j (by have := congrArg List.length hl; simp at this; omega) (by omega)
  | [a], j, out, hl, ho, hj3 => by
    have hn : s.length = 4 * j + 1 := by have := congrArg List.length hl; simp at this; omega
    have g0 := getD_drop s _ _ 0 hl
    refine rb_first s hs out j (by omega) _ ?_
    cases h0 : dg a with
    | none =>
      simp only [raw4, h0, Option.bind_none, fin4_none]
      exact rb_bad s (by omega) out j (by omega) 0 0 (by omega) (by omega) (by rw [g0]; exact h0)
    | some x =>
      simp only [raw4, h0, Option.bind_some]
      have x1 := (dg_some h0).1
      refine rb_in s (by omega) out j (by omega) _ 0 0 x (by omega) (by omega) (by omega) (by rw [g0]; exact h0) ?_
      refine rb_out s (by omega) out j (by omega) _ 1 _ (by omega) (by omega) (by omega) ?_
      refine rb_out s (by omega) out j (by omega) _ 2 _ (by omega) (by omega) (by omega) ?_
      refine rb_out s (by omega) out j (by omega) _ 3 _ (by omega) (by omega) (by omega) ?_
      refine rb_end s (by omega) out j (by omega) _ _ ?_
      refine rb_next s (by omega) out j (by omega) _ 0 _ (by omega) ?_
      exact rb_last s out (j + 1) (by omega) (by omega)
  | [a, b], j, out, hl, ho, hj3 => by
    have hn : s.length = 4 * j + 2 := by have := congrArg List.length hl; simp at this; omega
    have g0 := getD_drop s _ _ 0 hl
    have g1 := getD_drop s _ _ 1 hl
    refine rb_first s hs out j (by omega) _ ?_
    cases h0 : dg a with
    | none =>
      simp only [raw4, h0, Option.bind_none, fin4_none]
      exact rb_bad s (by omega) out j (by omega) 0 0 (by omega) (by omega) (by rw [g0]; exact h0)
    | some x =>
      have x1 := (dg_some h0).1
      refine rb_in s (by omega) out j (by omega) _ 0 0 x (by omega) (by omega) (by omega) (by rw [g0]; exact h0) ?_
      cases h1 : dg b with
      | none =>
        simp only [raw4, h0, h1, Option.bind_none, Option.bind_some, fin4_none]
        exact rb_bad s (by omega) out j (by omega) 1 _ (by omega) (by omega) (by rw [g1]; exact h1)
      | some y =>
        have y1 := (dg_some h1).1
        simp only [raw4, h0, h1, Option.bind_some]
        refine rb_in s (by omega) out j (by omega) _ 1 _ y (by omega) (by omega) (by omega) (by rw [g1]; exact h1) ?_
        refine rb_out s (by omega) out j (by omega) _ 2 _ (by omega) (by omega) (by omega) ?_
        refine rb_out s (by omega) out j (by omega) _ 3 _ (by omega) (by omega) (by omega) ?_
        refine rb_end s (by omega) out j (by omega) _ _ ?_
        refine rb_put s (by omega) out j (by omega) _ 0 _ (by omega) (by omega) ?_
        refine rb_next s (by omega) _ j (by omega) _ _ _ (by omega) ?_
        rw [show UInt8.ofNat (64 * (64 * (64 * (64 * 0 + x) + y)) / 2 ^ (16 - 8 * 0)) = UInt8.ofNat (x * 4 + y / 16) from ofNat_eq (by simp; omega)]
        exact rb_fin s out _ (j + 1) (by omega) (by rw [List.length_append]; simp; omega)
  | [a, b, c], j, out, hl, ho, hj3 => by
    have hn : s.length = 4 * j + 3 := by have := congrArg List.length hl; simp at this; omega
    have g0 := getD_drop s _ _ 0 hl
    have g1 := getD_drop s _ _ 1 hl
    have g2 := getD_drop s _ _ 2 hl
    refine rb_first s hs out j (by omega) _ ?_
    cases h0 : dg a with
    | none =>
      simp only [raw4, h0, Option.bind_none, fin4_none]
      exact rb_bad s (by omega) out j (by omega) 0 0 (by omega) (by omega) (by rw [g0]; exact h0)
    | some x =>
      have x1 := (dg_some h0).1
      refine rb_in s (by omega) out j (by omega) _ 0 0 x (by omega) (by omega) (by omega) (by rw [g0]; exact h0) ?_
      cases h1 : dg b with
      | none =>
        simp only [raw4, h0, h1, Option.bind_none, Option.bind_some, fin4_none]
        exact rb_bad s (by omega) out j (by omega) 1 _ (by omega) (by omega) (by rw [g1]; exact h1)
      | some y =>
        have y1 := (dg_some h1).1
        refine rb_in s (by omega) out j (by omega) _ 1 _ y (by omega) (by omega) (by omega) (by rw [g1]; exact h1) ?_
        cases h2 : dg c with
        | none =>
          simp only [raw4, h0, h1, h2, Option.bind_none, Option.bind_some, fin4_none]
          exact rb_bad s (by omega) out j (by omega) 2 _ (by omega) (by omega) (by rw [g2]; exact h2)
        | some z =>
          have z1 := (dg_some h2).1
          simp only [raw4, h0, h1, h2, Option.bind_some]
          refine rb_in s (by omega) out j (by omega) _ 2 _ z (by omega) (by omega) (by omega) (by rw [g2]; exact h2) ?_
          refine rb_out s (by omega) out j (by omega) _ 3 _ (by omega) (by omega) (by omega) ?_
          refine rb_end s (by omega) out j (by omega) _ _ ?_
          refine rb_put s (by omega) out j (by omega) _ 0 _ (by omega) (by omega) ?_
          refine rb_put s (by omega) _ j (by omega) _ 1 _ (by omega) (by simp; omega) ?_
          refine rb_next s (by omega) _ j (by omega) _ _ _ (by omega) ?_
          rw [show UInt8.ofNat (64 * (64 * (64 * (64 * 0 + x) + y) + z) / 2 ^ (16 - 8 * 0)) = UInt8.ofNat (x * 4 + y / 16) from ofNat_eq (by simp; omega),
            show UInt8.ofNat (64 * (64 * (64 * (64 * 0 + x) + y) + z) / 2 ^ (16 - 8 * 1)) = UInt8.ofNat (y % 16 * 16 + z / 4) from ofNat_eq (by simp; omega), List.append_assoc]
          exact rb_fin s out _ (j + 1) (by omega) (by rw [List.length_append]; simp; omega)
  | a :: b :: c :: d :: t, j, out, hl, ho, hj3 => by
    have hn : s.length = 4 * j + 4 + t.length := by have := congrArg List.length hl; simp at this; omega
    have g0 := getD_drop s _ _ 0 hl
    have g1 := getD_drop s _ _ 1 hl
    have g2 := getD_drop s _ _ 2 hl
    have g3 := getD_drop s _ _ 3 hl
    refine rb_first s hs out j (by omega) _ ?_
    cases h0 : dg a with
    | none =>
      simp only [raw4, h0, Option.bind_none, fin4_none]
      exact rb_bad s (by omega) out j (by omega) 0 0 (by omega) (by omega) (by rw [g0]; exact h0)
    | some x =>
      have x1 := (dg_some h0).1
      refine rb_in s (by omega) out j (by omega) _ 0 0 x (by omega) (by omega) (by omega) (by rw [g0]; exact h0) ?_
      cases h1 : dg b with
      | none =>
        simp only [raw4, h0, h1, Option.bind_none, Option.bind_some, fin4_none]
        exact rb_bad s (by omega) out j (by omega) 1 _ (by omega) (by omega) (by rw [g1]; exact h1)
      | some y =>
        have y1 := (dg_some h1).1
        refine rb_in s (by omega) out j (by omega) _ 1 _ y (by omega) (by omega) (by omega) (by rw [g1]; exact h1) ?_
        cases h2 : dg c with
        | none =>
          simp only [raw4, h0, h1, h2, Option.bind_none, Option.bind_some, fin4_none]
          exact rb_bad s (by omega) out j (by omega) 2 _ (by omega) (by omega) (by rw [g2]; exact h2)
        | some z =>
          have z1 := (dg_some h2).1
          refine rb_in s (by omega) out j (by omega) _ 2 _ z (by omega) (by omega) (by omega) (by rw [g2]; exact h2) ?_
          cases h3 : dg d with
          | none =>
            simp only [raw4, h0, h1, h2, h3, Option.bind_none, Option.bind_some, fin4_none]
            exact rb_bad s (by omega) out j (by omega) 3 _ (by omega) (by omega) (by rw [g3]; exact h3)
          | some u =>
            have u1 := (dg_some h3).1
            simp only [raw4, h0, h1, h2, h3, Option.bind_some]
            refine rb_in s (by omega) out j (by omega) _ 3 _ u (by omega) (by omega) (by omega) (by rw [g3]; exact h3) ?_
            refine rb_end s (by omega) out j (by omega) _ _ ?_
            refine rb_put s (by omega) out j (by omega) _ 0 _ (by omega) (by omega) ?_
            refine rb_put s (by omega) _ j (by omega) _ 1 _ (by omega) (by simp; omega) ?_
            refine rb_put s (by omega) _ j (by omega) _ 2 _ (by omega) (by simp; omega) ?_
            refine rb_next s (by omega) _ j (by omega) _ _ _ (by omega) ?_
            rw [show UInt8.ofNat ((64 * (64 * (64 * (64 * 0 + x) + y) + z) + u) / 2 ^ (16 - 8 * 0)) = UInt8.ofNat (x * 4 + y / 16) from ofNat_eq (by simp; omega),
              show UInt8.ofNat ((64 * (64 * (64 * (64 * 0 + x) + y) + z) + u) / 2 ^ (16 - 8 * 1)) = UInt8.ofNat (y % 16 * 16 + z / 4) from ofNat_eq (by simp; omega),
              show UInt8.ofNat ((64 * (64 * (64 * (64 * 0 + x) + y) + z) + u) / 2 ^ (16 - 8 * 2)) = UInt8.ofNat (z % 4 * 64 + u) from ofNat_eq (by simp; omega), List.append_assoc, List.append_assoc]
            have ih := rb_l0 s hs t (j + 1) (out ++ [UInt8.ofNat (x * 4 + y / 16), UInt8.ofNat (y % 16 * 16 + z / 4), UInt8.ofNat (z % 4 * 64 + u)]) (by rw [show 4 * (j + 1) = 4 * j + 4 from by omega, ← List.drop_drop, hl]; rfl) (by simp; omega) (by omega)
            rw [← fin4_cons] at ih
            exact ih
theorem rt_bytes (s : List UInt8) (hs : s.length ≤ 1000000000000) : Ev (fun k => heliastref05_Bytes.f k (bs s)) (match un4 s with | none => (([] : List Int), false) | some r => (intsB r, true)) := by
  have h := rb_l0 s hs s 0 [] rfl (by simp) (by omega)
  have e : fin4 s [] (raw4 s) = (match un4 s with | none => (([] : List Int), false) | some r => (intsB r, true)) := by
    rw [← raw_test]
    cases raw4 s with
    | none => rfl
    | some r =>
      simp only [fin4, List.nil_append]
      split <;> rfl
  rw [e] at h
  exact h
end Go.Proofs.Ytnhljemnebgekaa

/-
  The references' Sum and Same, as contracts over plain lists.
-/
namespace Go.Proofs.Ytnhljemnebgekaa
open Go.RowKit Sha Go.Proofs.YtnhljemnebgekaaW.PrintWords Go.Proofs.YtnhljemnebgekaaW.PrintLast
def Ext.ref_Sum.f (l0 : List Int) : Option (List Int) := if bytesOk l0 = true then some (intsB (Sha.sum (bytesI l0))) else none
theorem Ext.ref_Sum.f_eq (l : List UInt8) (h : l.length ≤ 1099511000000) : Ext.ref_Sum.f (intsB l) = some (intsB (Sha.sum l)) := by
  unfold Ext.ref_Sum.f
  rw [if_pos (bytesOk_intsB l h), bytesI_intsB]
theorem bytesOk_rd {l : List Int} (h : bytesOk l = true) : intsB (bytesI l) = l ∧ (bytesI l).length = l.length ∧ l.length ≤ 1099511000000 := by
  unfold bytesOk at h
  simp only [Bool.and_eq_true, decide_eq_true_eq] at h
  exact ⟨h.1, by simp [bytesI], h.2⟩
theorem Ext.ref_Sum.calls (A0 : Option Addr) (c0 : Nat) (l0 : List Int) (r : List Int) (w : World) (hr0 : Kd.C (Kd.int .u8) w A0 l0.length l0) (hc0 : l0.length ≤ c0) (h : Ext.ref_Sum.f l0 = some r) :
    Calls Try.prog 23 #[.slice A0 l0.length c0] w fun e w' => ∃ v0_ : Value, e = .returned (v0_) ∧ Kd.R (Kd.int .u8) 5 w' w.heap.size (fun _ => True) v0_ r ∧ Below w.heap.size w w' := by
  unfold Ext.ref_Sum.f at h
  split at h
  · rename_i hok
    cases h
    obtain ⟨e, n, b⟩ := bytesOk_rd hok
    have := ref_sum_any A0 c0 (bytesI l0) w (by unfold Rd; rw [n, e]; exact hr0) (by omega) (by omega)
    rw [n] at this
    exact this
  · cases h
def Ext.ref_Same.f (l0 l1 : List Int) : Option Bool := if bytesOk l0 = true ∧ bytesOk l1 = true then some (decide (bytesI l0 = bytesI l1)) else none
theorem Ext.ref_Same.f_eq (a b : List UInt8) (h : a.length ≤ 1099511000000) (h2 : b.length ≤ 1099511000000) : Ext.ref_Same.f (intsB a) (intsB b) = some (decide (a = b)) := by
  unfold Ext.ref_Same.f
  rw [if_pos ⟨bytesOk_intsB a h, bytesOk_intsB b h2⟩, bytesI_intsB, bytesI_intsB]
theorem Ext.ref_Same.calls (A0 : Option Addr) (c0 : Nat) (l0 : List Int) (A1 : Option Addr) (c1 : Nat) (l1 : List Int) (r : Bool) (w : World) (hr0 : Kd.C (Kd.int .u8) w A0 l0.length l0) (hc0 : l0.length ≤ c0) (hr1 : Kd.C (Kd.int .u8) w A1 l1.length l1) (hc1 : l1.length ≤ c1) (h : Ext.ref_Same.f l0 l1 = some r) :
    Calls Try.prog 13 #[.slice A0 l0.length c0, .slice A1 l1.length c1] w fun e w' => e = .returned (.bool r) ∧ Below w.heap.size w w' := by
  unfold Ext.ref_Same.f at h
  split at h
  · rename_i hok
    cases h
    obtain ⟨e, n, b⟩ := bytesOk_rd hok.1
    obtain ⟨e1, n1, b1⟩ := bytesOk_rd hok.2
    have := same_any A0 A1 c0 c1 (bytesI l0) (bytesI l1) w (by unfold Rd; rw [n, e]; exact hr0) (by omega) (by unfold Rd; rw [n1, e1]; exact hr1) (by omega) (by omega)
    rw [n, n1] at this
    refine this.mono fun e w' ⟨h1, m, h2⟩ => ⟨h1, ?_⟩
    subst h2
    exact ⟨rfl, rfl, rfl, Nat.le_refl _, fun _ _ => rfl⟩
  · cases h
end Go.Proofs.Ytnhljemnebgekaa

/-
  The reference's key and Code, walked: a key of a block, each byte turned; the sum over the sum.
-/
namespace Go.Proofs.Ytnhljemnebgekaa
open Go.RowKit Sha Go.Proofs.YtnhljemnebgekaaW.PrintWords Go.Proofs.YtnhljemnebgekaaW.PrintLast
set_option linter.unusedSimpArgs false
def keyTo (p : List UInt8) (m : UInt8) (j : Nat) : List UInt8 := (p.take j).map (· ^^^ m) ++ List.replicate (p.length - j) 0
theorem keyTo_length (p : List UInt8) (m : UInt8) (j : Nat) (h : j ≤ p.length) : (keyTo p m j).length = p.length := by simp [keyTo]; omega
theorem keyTo_succ (p : List UInt8) (m : UInt8) (j : Nat) (h : j < p.length) : (keyTo p m j).set j (p.getD j 0 ^^^ m) = keyTo p m (j + 1) := by
  have hl : ((p.take j).map (· ^^^ m)).length = j := by simp; omega
  have hr : List.replicate (p.length - j) (0 : UInt8) = 0 :: List.replicate (p.length - (j + 1)) 0 := by
    rw [show p.length - j = (p.length - (j + 1)) + 1 from by omega]; rfl
  unfold keyTo
  rw [List.set_append_right _ _ (by omega), hl, Nat.sub_self, hr, List.set_cons_zero, List.take_succ_eq_append_getElem h, List.map_append]
  simp [List.getD_eq_getElem?_getD, List.getElem?_eq_getElem h]
theorem keyTo_all (p : List UInt8) (m : UInt8) : keyTo p m p.length = p.map (· ^^^ m) := by simp [keyTo]
theorem keyTo_none (p : List UInt8) (m : UInt8) : keyTo p m 0 = List.replicate p.length 0 := by simp [keyTo]
theorem padOf_getD (l : List UInt8) (j : Nat) (h : j < l.length) : (padOf l).getD j 0 = l.getD j 0 := by
  unfold padOf
  simp only [List.getD_eq_getElem?_getD, List.getElem?_append_left h]
theorem padOf_getD_far (l : List UInt8) (j : Nat) (h : l.length ≤ j) : (padOf l).getD j 0 = 0 := by
  unfold padOf
  rw [List.getD_eq_getElem?_getD, List.getElem?_append_right h, List.getElem?_replicate]
  split <;> rfl
theorem u8s_zeros : (u8s (List.replicate 64 0)).toArray = zero8 := by
  unfold zero8 zeroL u8s
  rw [List.map_replicate]
  rfl
theorem rd_at {w : World} {a : Option Addr} {l : List UInt8} (h : Rd w a l) (hp : 0 < l.length) : ∃ b off, a = some ⟨b, off, none⟩ ∧ b < w.heap.size ∧ ∀ w', Below w.heap.size w w' → ∀ j, j < l.length → w'.cell? ⟨b, off + j, none⟩ = some (.int .u8 ((l.getD j 0).toNat : Int)) := by
  obtain ⟨b, off, e, hb, hc⟩ := h.bytesAt hp
  refine ⟨b, off, e, hb, fun w' hbl j hj => ?_⟩
  rw [hbl.cell (p := ⟨b, off + j, none⟩) hb, hc j hj, List.getD_eq_getElem?_getD, List.getElem?_eq_getElem hj]
  rfl
set_option maxRecDepth 100000 in
set_option maxHeartbeats 1000000 in
theorem key_any (a : Option Addr) (c : Nat) (l : List UInt8) (m : UInt8) (w : World) (h : Rd w a l) (hc : l.length ≤ c) (hl : l.length ≤ 1099511000000) :
    Calls Try.prog 25 #[.slice a l.length c, .int .u8 m.toNat] w fun e w' => ∃ v, e = .returned v ∧ OwnB w' w.heap.size v (mask64 l m) ∧ Below w.heap.size w w' := by
  have hmk := make64
  have hml := m.toNat_lt
  have hx0 : bits .xor .u8 0 (m.toNat : Int) = (m.toNat : Int) := by
    have := xor8 0 m
    rw [UInt8.zero_xor] at this
    exact this
  obtain ⟨n, hn⟩ : ∃ n, l.length = n := ⟨_, rfl⟩
  have H := Lib.hid h; have HN := Lib.hid hn
  by_cases hb : 64 < n
  · obtain ⟨S, hS⟩ : ∃ S, Sha.sum l = S := ⟨_, rfl⟩
    have hSl : S.length ≤ 64 := by rw [← hS, Sha.sum_length]; omega
    have hkey : keyOf l = S := by unfold keyOf; rw [if_pos (by omega), hS]
    have hds := ref_sum_any a c l w h hc hl
    rw [hn, hS] at hds
    rw [hn] at hl ⊢
    have HDS := Lib.hid hds; have HK := Lib.hid hkey
    clear hkey hS hds h hc hn H
    go_enter Try.func25, Try.ntmps25
    go_wp2_with fail
    refine HDS.out.mono ?_
    rintro e W1 ⟨v1, rfl, ho1, hb1⟩
    obtain ⟨a1, c1, rfl, hc1, hr1⟩ := ho1.reads
    obtain ⟨z, hz⟩ : ∃ z, S.length = z := ⟨_, rfl⟩
    rw [hz] at hc1 hSl ⊢
    have HR1 := Lib.hid hr1; have HB1 := Lib.hid hb1; have HZ := Lib.hid hz
    clear hr1 hb1 ho1 HDS hz
    have hpl : (padOf S).length = 64 := padOf_length S (by rw [HZ.out]; exact hSl)
    have hz1 : (W1.alloc (.cells zero8 5)).heap[W1.heap.size]? = some (.cells (u8s (List.replicate 64 0)).toArray 5 (0, 0)) := by rw [u8s_zeros]; exact heap_alloc_new W1 _
    have hown : OwnB (W1.alloc (.cells zero8 5)) w.heap.size (.slice (some ⟨W1.heap.size, 0, none⟩) 64 64) (keyTo (padOf S) m 0) := by
      rw [keyTo_none, hpl]
      exact own_of_heap (l := List.replicate 64 0) HB1.out.size hz1 (by simp)
    have HPL := Lib.hid hpl; have HOW := Lib.hid hown
    clear hpl hz1 hown
    go_wp2_with fail
    go_loopw [6, 7] (fun i _ wr => ∃ j : Nat, j ≤ 64 ∧ i = .int .i64 j ∧ OwnB wr w.heap.size (.slice (some ⟨W1.heap.size, 0, none⟩) 64 64) (keyTo (padOf S) m j) ∧ Below W1.heap.size W1 wr) (fun i _ _ => 64 - (intOf i).toNat)
    case atStart => exact ⟨0, by omega, rfl, HOW.out, (Below.refl _ _).alloc (Nat.le_refl _) _⟩
    case round =>
      obtain ⟨j, hj, rfl, hs1, hb4⟩ := hrel
      have HS1 := Lib.hid hs1; have HB4 := Lib.hid hb4
      clear hs1 hb4
      by_cases hlt : j < 64
      · have hcf := HS1.out.cellAt j (by rw [keyTo_length _ _ _ (by rw [HPL.out]; exact hj), HPL.out]; exact hlt)
        have hf := hcf.2
        obtain ⟨u0, hc0⟩ : ∃ u0 : Int, wr.cell? ⟨W1.heap.size, j, none⟩ = some (.int .u8 u0) := ⟨_, hcf.1⟩
        have hsu := keyTo_succ (padOf S) m j (by rw [HPL.out]; exact hlt)
        by_cases hin : j < z
        · obtain ⟨b, off, rfl, hbl, hcs⟩ := rd_at HR1.out (by rw [HZ.out]; omega)
          have hcj := hcs wr HB4.out j (by rw [HZ.out]; exact hin)
          rw [padOf_getD S j (by rw [HZ.out]; exact hin)] at hsu
          obtain ⟨x, hx⟩ : ∃ x, S.getD j 0 = x := ⟨_, rfl⟩
          rw [hx] at hcj hsu
          have hxr := xor8 x m
          have HSU := Lib.hid hsu
          clear hx hsu hcs hcf
          go_wp2_with fail
          go_roundw
          case rel =>
            refine ⟨j + 1, by omega, by go_num, ?_, HB4.out.setCell (p := ⟨W1.heap.size, j, none⟩) (Nat.le_refl _) _⟩
            rw [← HSU.out]
            exact HS1.out.put j (x ^^^ m)
          case measure => simp [intOf]; omega
        · rw [padOf_getD_far S j (by rw [HZ.out]; omega), UInt8.zero_xor] at hsu
          have HSU := Lib.hid hsu
          clear hsu hcf
          go_wp2_with fail
          go_roundw
          case rel =>
            refine ⟨j + 1, by omega, by go_num, ?_, HB4.out.setCell (p := ⟨W1.heap.size, j, none⟩) (Nat.le_refl _) _⟩
            rw [← HSU.out]
            exact HS1.out.put j m
          case measure => simp [intOf]; omega
      · obtain rfl : j = 64 := by omega
        go_wp2_with fail
        go_ret
        have hfin : keyTo (padOf S) m 64 = mask64 l m := by
          have := keyTo_all (padOf S) m
          rw [HPL.out] at this
          rw [this]
          unfold mask64
          rw [HK.out]
        exact ⟨_, rfl, by rw [← hfin]; exact HS1.out, HB1.out.trans (HB4.out.mono HB1.out.size)⟩
  · obtain ⟨S, hS⟩ : ∃ S, l = S := ⟨_, rfl⟩
    have hSl : n ≤ 64 := by omega
    have hkey : keyOf l = S := by unfold keyOf; rw [if_neg (by omega), hS]
    have hz : S.length = n := by rw [← hS, hn]
    have hr1 : Rd w a S := by rw [← hS]; exact h
    rw [hn] at hc ⊢
    have HK := Lib.hid hkey
    have HR1 := Lib.hid hr1; have HZ := Lib.hid hz; have HB1 := Lib.hid (Below.refl w.heap.size w)
    clear hkey hS h hn H hr1 hz
    go_enter Try.func25, Try.ntmps25
    have hpl : (padOf S).length = 64 := padOf_length S (by rw [HZ.out]; exact hSl)
    have hz1 : (w.alloc (.cells zero8 5)).heap[w.heap.size]? = some (.cells (u8s (List.replicate 64 0)).toArray 5 (0, 0)) := by rw [u8s_zeros]; exact heap_alloc_new w _
    have hown : OwnB (w.alloc (.cells zero8 5)) w.heap.size (.slice (some ⟨w.heap.size, 0, none⟩) 64 64) (keyTo (padOf S) m 0) := by
      rw [keyTo_none, hpl]
      exact own_of_heap (l := List.replicate 64 0) HB1.out.size hz1 (by simp)
    have HPL := Lib.hid hpl; have HOW := Lib.hid hown
    clear hpl hz1 hown
    go_wp2_with fail
    go_loopw [6, 7] (fun i _ wr => ∃ j : Nat, j ≤ 64 ∧ i = .int .i64 j ∧ OwnB wr w.heap.size (.slice (some ⟨w.heap.size, 0, none⟩) 64 64) (keyTo (padOf S) m j) ∧ Below w.heap.size w wr) (fun i _ _ => 64 - (intOf i).toNat)
    case atStart => exact ⟨0, by omega, rfl, HOW.out, (Below.refl _ _).alloc (Nat.le_refl _) _⟩
    case round =>
      obtain ⟨j, hj, rfl, hs1, hb4⟩ := hrel
      have HS1 := Lib.hid hs1; have HB4 := Lib.hid hb4
      clear hs1 hb4
      by_cases hlt : j < 64
      · have hcf := HS1.out.cellAt j (by rw [keyTo_length _ _ _ (by rw [HPL.out]; exact hj), HPL.out]; exact hlt)
        have hf := hcf.2
        obtain ⟨u0, hc0⟩ : ∃ u0 : Int, wr.cell? ⟨w.heap.size, j, none⟩ = some (.int .u8 u0) := ⟨_, hcf.1⟩
        have hsu := keyTo_succ (padOf S) m j (by rw [HPL.out]; exact hlt)
        by_cases hin : j < n
        · obtain ⟨b, off, rfl, hbl, hcs⟩ := rd_at HR1.out (by rw [HZ.out]; omega)
          have hcj := hcs wr HB4.out j (by rw [HZ.out]; exact hin)
          rw [padOf_getD S j (by rw [HZ.out]; exact hin)] at hsu
          obtain ⟨x, hx⟩ : ∃ x, S.getD j 0 = x := ⟨_, rfl⟩
          rw [hx] at hcj hsu
          have hxr := xor8 x m
          have HSU := Lib.hid hsu
          clear hx hsu hcs hcf
          go_wp2_with fail
          go_roundw
          case rel =>
            refine ⟨j + 1, by omega, by go_num, ?_, HB4.out.setCell (p := ⟨w.heap.size, j, none⟩) (Nat.le_refl _) _⟩
            rw [← HSU.out]
            exact HS1.out.put j (x ^^^ m)
          case measure => simp [intOf]; omega
        · rw [padOf_getD_far S j (by rw [HZ.out]; omega), UInt8.zero_xor] at hsu
          have HSU := Lib.hid hsu
          clear hsu hcf
          go_wp2_with fail
          go_roundw
          case rel =>
            refine ⟨j + 1, by omega, by go_num, ?_, HB4.out.setCell (p := ⟨w.heap.size, j, none⟩) (Nat.le_refl _) _⟩
            rw [← HSU.out]
            exact HS1.out.put j m
          case measure => simp [intOf]; omega
      · obtain rfl : j = 64 := by omega
        go_wp2_with fail
        go_ret
        have hfin : keyTo (padOf S) m 64 = mask64 l m := by
          have := keyTo_all (padOf S) m
          rw [HPL.out] at this
          rw [this]
          unfold mask64
          rw [HK.out]
        exact ⟨_, rfl, by rw [← hfin]; exact HS1.out, HB1.out.trans (HB4.out.mono HB1.out.size)⟩
set_option maxRecDepth 100000 in
set_option maxHeartbeats 1000000 in
theorem rcode_any (a : Option Addr) (c : Nat) (l : List UInt8) (a2 : Option Addr) (c2 : Nat) (msg : List UInt8) (w : World) (h : Rd w a l) (hc : l.length ≤ c) (hl : l.length ≤ 1000000000000) (h2 : Rd w a2 msg) (hc2 : msg.length ≤ c2) (hm : msg.length ≤ 1000000000000) :
    Calls Try.prog 11 #[.slice a l.length c, .slice a2 msg.length c2] w fun e w' => ∃ v, e = .returned v ∧ OwnB w' w.heap.size v (layerOf l 92 (layerOf l 54 msg)) ∧ Below w.heap.size w w' := by
  have hsum64 : ∀ (x : UInt8) (y : List UInt8), (mask64 l x ++ y).length = 64 + y.length := fun x y => by rw [List.length_append, mask64_length]
  have HS64 := Lib.hid hsum64
  obtain ⟨K1, hK1⟩ : ∃ K, mask64 l 54 = K := ⟨_, rfl⟩
  obtain ⟨K2, hK2⟩ : ∃ K, mask64 l 92 = K := ⟨_, rfl⟩
  have hk1 : K1.length = 64 := by rw [← hK1, mask64_length]
  have hk2 : K2.length = 64 := by rw [← hK2, mask64_length]
  obtain ⟨S, hS⟩ : ∃ S, Sha.sum (K1 ++ msg) = S := ⟨_, rfl⟩
  have hs1 : S.length = 32 := by rw [← hS, Sha.sum_length]
  have hres : layerOf l 92 (layerOf l 54 msg) = Sha.sum (K2 ++ S) := by unfold layerOf; rw [hK1, hK2, hS]
  have key1 := key_any a c l 54 w h hc (by omega)
  have hkk : ∀ w1, Below w.heap.size w w1 → Rd w1 a l := fun w1 hb => h.below hb
  have HKK := Lib.hid hkk
  obtain ⟨n, hn⟩ : ∃ n, l.length = n := ⟨_, rfl⟩
  obtain ⟨n2, hn2⟩ : ∃ n, msg.length = n := ⟨_, rfl⟩
  rw [hK1, hn] at key1
  have key2 := fun w1 hb => key_any a c l 92 w1 (HKK.out w1 hb) hc (by omega)
  rw [hK2, hn] at key2
  rw [hn] at hc hl
  rw [hn2] at hc2 hm
  rw [hn, hn2]
  have HKEY1 := Lib.hid key1; have HKEY2 := Lib.hid key2; have HRES := Lib.hid hres; have HS := Lib.hid hS; have HS1 := Lib.hid hs1
  have HL1 := Lib.hid hk1; have HL2 := Lib.hid hk2; have H2 := Lib.hid h2; have HN2 := Lib.hid hn2
  clear key1 key2 hres hS hs1 hk1 hk2 hkk h h2 hn hn2 hsum64 HS64 hK1 hK2
  go_enter Try.func11, Try.ntmps11
  go_wp2_with fail
  refine HKEY1.out.mono ?_
  rintro e W1 ⟨v1, rfl, ho1, hb1⟩
  obtain ⟨a1, c1, hv1, hc1, hr1⟩ := ho1.reads
  rw [HL1.out] at hv1 hc1
  subst hv1
  have HO1 := Lib.hid ho1; have HB1 := Lib.hid hb1
  clear ho1 hb1 hr1
  go_wp2_with (at_builtin; refine Kd.R_append_row (Value.int .u8) (0 : Int) (h1 := fun _ => rfl) (w0 := w) w.heap.size rfl _ _ 22 5 (.int .u8 0) 1 rfl Try.underlying22 infoB rfl (by decide) _ (intsB K1) (intsB msg) a2 n2 c2 (fun _ => True) rfl rfl (fun _ _ => trivial) ?k1 ?k2 ?k3 ?k4 ?k5 ?_)
  case k1 => exact HO1.out
  case k2 => have := H2.out.below HB1.out; unfold Rd at this; rwa [HN2.out] at this
  case k3 => exact HB1.out
  case k4 => exact HB1.out.size
  case k5 => rw [intsB_length, HL1.out]; omega
  intro v2 W2 hR2 hB2 _ _
  have ho2 : OwnB W2 w.heap.size v2 (K1 ++ msg) := by unfold OwnB; rw [intsB_append]; exact hR2
  obtain ⟨a3, c3, hv2, hc3, hr3⟩ := ho2.reads
  have hlen : (K1 ++ msg).length = 64 + n2 := by rw [List.length_append, HL1.out, HN2.out]
  rw [hlen] at hv2 hc3
  subst hv2
  have hsum := fun w1 (hb : Below W2.heap.size W2 w1) => ref_sum_any a3 c3 (K1 ++ msg) w1 (hr3.below hb) (by rw [hlen]; exact hc3) (by rw [hlen]; omega)
  rw [HS.out, hlen] at hsum
  have HSUM := Lib.hid hsum; have HB2 := Lib.hid hB2
  clear hR2 hB2 ho2 hr3 hlen hsum HO1 HB1
  go_wp2_with fail
  refine (HKEY2.out W2 HB2.out).mono ?_
  rintro e W3 ⟨v3, rfl, ho3, hb3⟩
  obtain ⟨a4, c4, hv3, hc4, hr4⟩ := ho3.reads
  rw [HL2.out] at hv3 hc4
  subst hv3
  have HO3 := Lib.hid ho3; have HB3 := Lib.hid hb3
  clear ho3 hb3 hr4
  go_wp2_with fail
  refine (HSUM.out W3 HB3.out).mono ?_
  rintro e W4 ⟨v4, rfl, ho4, hb4⟩
  obtain ⟨a5, c5, hv4, hc5, hr5⟩ := ho4.reads
  rw [HS1.out] at hv4 hc5
  subst hv4
  have HO3b := Lib.hid (HO3.out.below hb4); have HR5 := Lib.hid hr5; have HB4 := Lib.hid ((HB2.out.trans (HB3.out.mono HB2.out.size)).trans (hb4.mono (Nat.le_trans HB2.out.size HB3.out.size)))
  have hsz2 : W2.heap.size ≤ W4.heap.size := Nat.le_trans HB3.out.size hb4.size
  have hsz1 := HB2.out.size
  clear ho4 hb4 hr5 HO3
  go_wp2_with (at_builtin; refine Kd.R_append_row (Value.int .u8) (0 : Int) (h1 := fun _ => rfl) (w0 := W4) W2.heap.size rfl _ _ 22 5 (.int .u8 0) 1 rfl Try.underlying22 infoB rfl (by decide) _ (intsB K2) (intsB S) a5 32 c5 (fun _ => True) rfl rfl (fun _ _ => trivial) ?k1 ?k2 ?k3 ?k4 ?k5 ?_)
  case k1 => exact HO3b.out
  case k2 => have := HR5.out; unfold Rd at this; rwa [HS1.out] at this
  case k3 => exact Below.refl _ _
  case k4 => exact hsz2
  case k5 => rw [intsB_length, HL2.out]; omega
  intro v6 W6 hR6 hB6 _ _
  have ho6 : OwnB W6 W2.heap.size v6 (K2 ++ S) := by unfold OwnB; rw [intsB_append]; exact hR6
  obtain ⟨a7, c7, hv6, hc7, hr7⟩ := ho6.reads
  have hlen6 : (K2 ++ S).length = 96 := by rw [List.length_append, HL2.out, HS1.out]
  rw [hlen6] at hv6 hc7
  subst hv6
  have hsum := ref_sum_any a7 c7 (K2 ++ S) W6 hr7 (by rw [hlen6]; exact hc7) (by rw [hlen6]; omega)
  rw [hlen6] at hsum
  have HSUM2 := Lib.hid hsum; have HB6 := Lib.hid (HB4.out.trans (hB6.mono hsz1))
  clear hR6 hB6 ho6 hr7 hlen6 hsum
  go_wp2_with fail
  refine HSUM2.out.mono ?_
  rintro e W7 ⟨v7, rfl, ho7, hb7⟩
  obtain ⟨a8, c8, hv7, _, _⟩ := ho7.reads
  have HO7 := Lib.hid ho7; have HB7 := Lib.hid (HB6.out.trans (hb7.mono HB6.out.size)); have hs6 := HB6.out.size
  clear ho7 hb7
  subst hv7
  go_wp2_with fail
  go_ret
  exact ⟨_, rfl, by rw [HRES.out]; exact HO7.out.lower hs6, HB7.out⟩
end Go.Proofs.Ytnhljemnebgekaa

/-
  The functions of the package seal and of its reference, as contracts over plain lists.
-/
namespace Go.Proofs.Ytnhljemnebgekaa
open Go.RowKit Sha Go.Proofs.YtnhljemnebgekaaW.PrintWords Go.Proofs.YtnhljemnebgekaaW.PrintLast Go.Proofs.YtnhljemnebgekaaW.PrintMore Rt
set_option linter.unusedSimpArgs false
theorem bytes_read (w : World) (s : ByteArray) (hs : s.size ≤ 1000000000000) : Rd (Lib.bytesWorld w 5 s) (some ⟨w.heap.size, 0, none⟩) s.data.toList := by
  refine Kd.C_of_reads (d := (0 : Int)) ⟨by rw [intsB_length], by show s.size ≤ _; omega, fun _ => ⟨_, rfl, fun j hj => ?_⟩⟩
  rw [Addr.add_mid, Nat.zero_add, Lib.bytesWorld_cell w 5 s j hj]
  rw [← rd_intsB]
  rfl
theorem bytes_below (w : World) (s : ByteArray) : Below w.heap.size w (Lib.bytesWorld w 5 s) :=
  ⟨rfl, rfl, rfl, by rw [Lib.bytesWorld_size]; omega, fun j hj => Lib.bytesWorld_at_old w 5 s j hj⟩
theorem text_bs (a : Option Addr) (c : Nat) (d : List UInt8) (w : World) (h : Rd w a d) (hdc : d.length ≤ c) (hl : d.length ≤ 1099511000000) :
    Calls Try.prog 16 #[.slice a d.length c] w fun e w' => e = .returned (.string (bs (text d))) ∧ Below w.heap.size w w' := text_any a c d w h hdc hl
/-- The name of a row of bytes. -/
def idOf (l : List UInt8) : List UInt8 := 36 :: text (Sha.sum l)
theorem rt_text_any (a : Option Addr) (c : Nat) (d : List UInt8) (w : World) (h : Rd w a d) (hc : d.length ≤ c) (hl : d.length ≤ 1099511000000) :
    Calls Try.prog 12 #[.slice a d.length c] w fun e w' => e = .returned (.string (bs (text d))) ∧ Below w.heap.size w w' := by
  obtain ⟨k, hk⟩ := (rt_text d hl).rounds
  have h := heliastref05_Text.calls k a c (intsB d) _ w (by rw [intsB_length]; exact h) (by rw [intsB_length]; exact hc) hk
  rwa [intsB_length] at h
set_option maxRecDepth 100000 in
set_option maxHeartbeats 1000000 in
theorem sid_any (s : ByteArray) (hs : s.size ≤ 1000000000000) (w : World) : Calls Try.prog 18 #[.string s] w fun e w' => e = .returned (.string (bs (idOf s.data.toList))) ∧ Below w.heap.size w w' := by
  have hcv := fun (w : World) => Lib.run_convert_string_bytes (P := Try.prog) w 9 22 5 s Try.underlying9 Try.underlying22 Try.underlying5
  obtain ⟨W1, hW1⟩ : ∃ W1, Lib.bytesWorld w 5 s = W1 := ⟨_, rfl⟩
  obtain ⟨c1, hc1⟩ : ∃ c, grownCap w s.size 0 5 = c := ⟨_, rfl⟩
  have hle : s.size ≤ c1 := by rw [← hc1]; exact grownCap_ge _ _ _ _
  have hcv1 : ∀ _ : Unit, (convert 9 22 (.string s)).run Try.prog w = .ok (.slice (some ⟨w.heap.size, 0, none⟩) s.size c1) W1 := fun _ => by rw [hcv w, hW1, hc1]
  have HR := Lib.hid (show Rd W1 (some ⟨w.heap.size, 0, none⟩) s.data.toList from by rw [← hW1]; exact bytes_read w s hs)
  have HB1 := Lib.hid (show Below w.heap.size w W1 from by rw [← hW1]; exact bytes_below w s)
  have hcx := hcv1 ()
  obtain ⟨S, hS⟩ : ∃ S, Sha.sum s.data.toList = S := ⟨_, rfl⟩
  have hSl : S.length = 32 := by rw [← hS, Sha.sum_length]
  obtain ⟨t, ht⟩ : ∃ t, bs (text S) = t := ⟨_, rfl⟩
  have hts : t.size ≤ 1000 := by rw [← ht, bs_size, text_tx, tx_length, hSl]; omega
  have hres : bs (idOf s.data.toList) = ⟨#[36]⟩ ++ t := by unfold idOf; rw [hS, ← ht]; exact (bs_snoc [36] _).symm
  have hsum := digest_sum_any (some ⟨w.heap.size, 0, none⟩) c1 s.data.toList W1 HR.out (by show s.size ≤ _; omega)
  rw [hS] at hsum
  have HSUM := Lib.hid hsum; have HSL := Lib.hid hSl; have HT := Lib.hid ht; have HRES := Lib.hid hres; have HSZ := Lib.hid hle
  clear hsum hcv hcv1 hW1 hc1 hS hSl ht hres hle HR
  go_enter Try.func18, Try.ntmps18
  go_wp2_with fail
  refine HSUM.out.mono ?_
  rintro e W2 ⟨v2, rfl, ho2, hb2⟩
  obtain ⟨a2, c2, hv2, hc2, hr2⟩ := ho2.reads
  have htx := text_bs a2 c2 S W2 hr2 hc2 (by rw [HSL.out]; omega)
  rw [HT.out] at htx
  rw [HSL.out] at hv2 hc2 htx
  subst hv2
  have HTX := Lib.hid htx; have HB2 := Lib.hid (HB1.out.trans (hb2.mono HB1.out.size))
  clear ho2 hb2 hr2 htx HSUM HB1
  go_wp2_with fail
  refine HTX.out.mono ?_
  rintro e W3 ⟨rfl, hb3⟩
  have HB3 := Lib.hid (HB2.out.trans (hb3.mono HB2.out.size))
  clear hb3
  go_wp2_with fail
  go_ret
  exact ⟨by rw [HRES.out]; rfl, HB3.out⟩
set_option maxRecDepth 100000 in
set_option maxHeartbeats 1000000 in
theorem rid_any (s : ByteArray) (hs : s.size ≤ 1000000000000) (w : World) : Calls Try.prog 19 #[.string s] w fun e w' => e = .returned (.string (bs (idOf s.data.toList))) ∧ Below w.heap.size w w' := by
  have hcv := fun (w : World) => Lib.run_convert_string_bytes (P := Try.prog) w 9 22 5 s Try.underlying9 Try.underlying22 Try.underlying5
  obtain ⟨W1, hW1⟩ : ∃ W1, Lib.bytesWorld w 5 s = W1 := ⟨_, rfl⟩
  obtain ⟨c1, hc1⟩ : ∃ c, grownCap w s.size 0 5 = c := ⟨_, rfl⟩
  have hle : s.size ≤ c1 := by rw [← hc1]; exact grownCap_ge _ _ _ _
  have hcv1 : ∀ _ : Unit, (convert 9 22 (.string s)).run Try.prog w = .ok (.slice (some ⟨w.heap.size, 0, none⟩) s.size c1) W1 := fun _ => by rw [hcv w, hW1, hc1]
  have HR := Lib.hid (show Rd W1 (some ⟨w.heap.size, 0, none⟩) s.data.toList from by rw [← hW1]; exact bytes_read w s hs)
  have HB1 := Lib.hid (show Below w.heap.size w W1 from by rw [← hW1]; exact bytes_below w s)
  have hcx := hcv1 ()
  obtain ⟨S, hS⟩ : ∃ S, Sha.sum s.data.toList = S := ⟨_, rfl⟩
  have hSl : S.length = 32 := by rw [← hS, Sha.sum_length]
  obtain ⟨t, ht⟩ : ∃ t, bs (text S) = t := ⟨_, rfl⟩
  have hts : t.size ≤ 1000 := by rw [← ht, bs_size, text_tx, tx_length, hSl]; omega
  have hres : bs (idOf s.data.toList) = ⟨#[36]⟩ ++ t := by unfold idOf; rw [hS, ← ht]; exact (bs_snoc [36] _).symm
  have hsum := ref_sum_any (some ⟨w.heap.size, 0, none⟩) c1 s.data.toList W1 HR.out hle (by show s.size ≤ _; omega)
  rw [hS] at hsum
  have HSUM := Lib.hid hsum; have HSL := Lib.hid hSl; have HT := Lib.hid ht; have HRES := Lib.hid hres; have HSZ := Lib.hid hle
  clear hsum hcv hcv1 hW1 hc1 hS hSl ht hres hle HR
  go_enter Try.func19, Try.ntmps19
  go_wp2_with fail
  refine HSUM.out.mono ?_
  rintro e W2 ⟨v2, rfl, ho2, hb2⟩
  obtain ⟨a2, c2, hv2, hc2, hr2⟩ := ho2.reads
  have htx := rt_text_any a2 c2 S W2 hr2 hc2 (by rw [HSL.out]; omega)
  rw [HT.out] at htx
  rw [HSL.out] at hv2 hc2 htx
  subst hv2
  have HTX := Lib.hid htx; have HB2 := Lib.hid (HB1.out.trans (hb2.mono HB1.out.size))
  clear ho2 hb2 hr2 htx HSUM HB1
  go_wp2_with fail
  refine HTX.out.mono ?_
  rintro e W3 ⟨rfl, hb3⟩
  have HB3 := Lib.hid (HB2.out.trans (hb3.mono HB2.out.size))
  clear hb3
  go_wp2_with fail
  go_ret
  exact ⟨by rw [HRES.out]; rfl, HB3.out⟩
def bytesOkS (s : ByteArray) : Bool := decide (s.size ≤ 1000000000000)
theorem bs_list (s : ByteArray) : bs s.data.toList = s := by apply ByteArray.ext; simp [bs]
def Ext.seal_Text.f (l0 : List Int) : Option ByteArray := if bytesOk l0 = true then some (bs (tx (bytesI l0))) else none
theorem Ext.seal_Text.f_eq (l : List UInt8) (h : l.length ≤ 1099511000000) : Ext.seal_Text.f (intsB l) = some (bs (tx l)) := by
  unfold Ext.seal_Text.f; rw [if_pos (bytesOk_intsB l h), bytesI_intsB]
theorem Ext.seal_Text.calls (A0 : Option Addr) (c0 : Nat) (l0 : List Int) (r : ByteArray) (w : World) (hr0 : Kd.C (Kd.int .u8) w A0 l0.length l0) (hc0 : l0.length ≤ c0) (h : Ext.seal_Text.f l0 = some r) :
    Calls Try.prog 16 #[.slice A0 l0.length c0] w fun e w' => e = .returned (.string r) ∧ Below w.heap.size w w' := by
  unfold Ext.seal_Text.f at h
  split at h
  · rename_i hok
    cases h
    obtain ⟨e, n, b⟩ := bytesOk_rd hok
    have := text_any A0 c0 (bytesI l0) w (by unfold Rd; rw [n, e]; exact hr0) (by omega) (by omega)
    rw [n, text_tx] at this
    exact this
  · cases h
def Ext.ref_Text.f (l0 : List Int) : Option ByteArray := if bytesOk l0 = true then some (bs (tx (bytesI l0))) else none
theorem Ext.ref_Text.f_eq (l : List UInt8) (h : l.length ≤ 1099511000000) : Ext.ref_Text.f (intsB l) = some (bs (tx l)) := by
  unfold Ext.ref_Text.f; rw [if_pos (bytesOk_intsB l h), bytesI_intsB]
theorem Ext.ref_Text.calls (A0 : Option Addr) (c0 : Nat) (l0 : List Int) (r : ByteArray) (w : World) (hr0 : Kd.C (Kd.int .u8) w A0 l0.length l0) (hc0 : l0.length ≤ c0) (h : Ext.ref_Text.f l0 = some r) :
    Calls Try.prog 12 #[.slice A0 l0.length c0] w fun e w' => e = .returned (.string r) ∧ Below w.heap.size w w' := by
  unfold Ext.ref_Text.f at h
  split at h
  · rename_i hok
    cases h
    obtain ⟨e, n, b⟩ := bytesOk_rd hok
    have := rt_text_any A0 c0 (bytesI l0) w (by unfold Rd; rw [n, e]; exact hr0) (by omega) (by omega)
    rw [n, text_tx] at this
    exact this
  · cases h
def backOf (s : ByteArray) : List Int × Bool := match un4 s.data.toList with | none => ([], false) | some r => (intsB r, true)
def Ext.seal_Bytes.f (s : ByteArray) : Option (List Int × Bool) := if bytesOkS s = true then some (backOf s) else none
theorem Ext.seal_Bytes.f_eq (s : ByteArray) (h : s.size ≤ 1000000000000) : Ext.seal_Bytes.f s = some (backOf s) := by
  unfold Ext.seal_Bytes.f bytesOkS; rw [if_pos (decide_eq_true h)]
theorem Ext.seal_Bytes.calls (a0 : ByteArray) (r1 : List Int) (r2 : Bool) (w : World) (h : Ext.seal_Bytes.f a0 = some (r1, r2)) :
    Calls Try.prog 22 #[.string a0] w fun e w' => ∃ v0_ : Value, e = .returned (.tuple #[v0_, .bool r2]) ∧ Kd.R (Kd.int .u8) 5 w' w.heap.size (fun _ => True) v0_ r1 ∧ Below w.heap.size w w' := by
  unfold Ext.seal_Bytes.f at h
  split at h
  · rename_i hok
    have hsz : a0.size ≤ 1000000000000 := of_decide_eq_true hok
    refine (bytes_any a0 (by omega) w).mono fun e w' ht => ?_
    unfold backOf at h
    rcases ht with ⟨out, v, h1, h2, h3, h4⟩ | ⟨h1, h2, h4⟩
    · rw [unText_un4] at h1
      rw [h1] at h
      cases h
      exact ⟨v, h2, h3, h4⟩
    · rw [unText_un4] at h1
      rw [h1] at h
      cases h
      exact ⟨_, h2, Kd.R_nil _ _ _ _ _, h4⟩
  · cases h
def Ext.ref_Bytes.f (s : ByteArray) : Option (List Int × Bool) := if bytesOkS s = true then some (backOf s) else none
theorem Ext.ref_Bytes.f_eq (s : ByteArray) (h : s.size ≤ 1000000000000) : Ext.ref_Bytes.f s = some (backOf s) := by
  unfold Ext.ref_Bytes.f bytesOkS; rw [if_pos (decide_eq_true h)]
theorem Ext.ref_Bytes.calls (a0 : ByteArray) (r1 : List Int) (r2 : Bool) (w : World) (h : Ext.ref_Bytes.f a0 = some (r1, r2)) :
    Calls Try.prog 30 #[.string a0] w fun e w' => ∃ v0_ : Value, e = .returned (.tuple #[v0_, .bool r2]) ∧ Kd.R (Kd.int .u8) 5 w' w.heap.size (fun _ => True) v0_ r1 ∧ Below w.heap.size w w' := by
  unfold Ext.ref_Bytes.f at h
  split at h
  · rename_i hok
    have hsz : a0.size ≤ 1000000000000 := of_decide_eq_true hok
    obtain ⟨k, hk⟩ := (rt_bytes a0.data.toList hsz).rounds
    rw [bs_list] at hk
    exact heliastref05_Bytes.calls k a0 r1 r2 w (hk.trans h)
  · cases h
def Ext.seal_ID.f (s : ByteArray) : Option ByteArray := if bytesOkS s = true then some (bs (idOf s.data.toList)) else none
theorem Ext.seal_ID.f_eq (s : ByteArray) (h : s.size ≤ 1000000000000) : Ext.seal_ID.f s = some (bs (idOf s.data.toList)) := by
  unfold Ext.seal_ID.f bytesOkS; rw [if_pos (decide_eq_true h)]
theorem Ext.seal_ID.calls (a0 : ByteArray) (r : ByteArray) (w : World) (h : Ext.seal_ID.f a0 = some r) :
    Calls Try.prog 18 #[.string a0] w fun e w' => e = .returned (.string r) ∧ Below w.heap.size w w' := by
  unfold Ext.seal_ID.f at h
  split at h
  · rename_i hok
    cases h
    exact sid_any a0 (of_decide_eq_true hok) w
  · cases h
def Ext.ref_ID.f (s : ByteArray) : Option ByteArray := if bytesOkS s = true then some (bs (idOf s.data.toList)) else none
theorem Ext.ref_ID.f_eq (s : ByteArray) (h : s.size ≤ 1000000000000) : Ext.ref_ID.f s = some (bs (idOf s.data.toList)) := by
  unfold Ext.ref_ID.f bytesOkS; rw [if_pos (decide_eq_true h)]
theorem Ext.ref_ID.calls (a0 : ByteArray) (r : ByteArray) (w : World) (h : Ext.ref_ID.f a0 = some r) :
    Calls Try.prog 19 #[.string a0] w fun e w' => e = .returned (.string r) ∧ Below w.heap.size w w' := by
  unfold Ext.ref_ID.f at h
  split at h
  · rename_i hok
    cases h
    exact rid_any a0 (of_decide_eq_true hok) w
  · cases h
def Ext.ref_Code.f (l0 l1 : List Int) : Option (List Int) := if bytesMsg l0 = true ∧ bytesMsg l1 = true then some (intsB (layerOf (bytesI l0) 92 (layerOf (bytesI l0) 54 (bytesI l1)))) else none
theorem Ext.ref_Code.f_eq (a b : List UInt8) (h : a.length ≤ 1000000000000) (h2 : b.length ≤ 1000000000000) : Ext.ref_Code.f (intsB a) (intsB b) = some (intsB (layerOf a 92 (layerOf a 54 b))) := by
  unfold Ext.ref_Code.f; rw [if_pos ⟨bytesMsg_intsB a h, bytesMsg_intsB b h2⟩, bytesI_intsB, bytesI_intsB]
theorem Ext.ref_Code.calls (A0 : Option Addr) (c0 : Nat) (l0 : List Int) (A1 : Option Addr) (c1 : Nat) (l1 : List Int) (r : List Int) (w : World) (hr0 : Kd.C (Kd.int .u8) w A0 l0.length l0) (hc0 : l0.length ≤ c0) (hr1 : Kd.C (Kd.int .u8) w A1 l1.length l1) (hc1 : l1.length ≤ c1) (h : Ext.ref_Code.f l0 l1 = some r) :
    Calls Try.prog 11 #[.slice A0 l0.length c0, .slice A1 l1.length c1] w fun e w' => ∃ v0_ : Value, e = .returned (v0_) ∧ Kd.R (Kd.int .u8) 5 w' w.heap.size (fun _ => True) v0_ r ∧ Below w.heap.size w w' := by
  unfold Ext.ref_Code.f at h
  split at h
  · rename_i hok
    cases h
    obtain ⟨e, n, b⟩ := bytesMsg_rd hok.1
    obtain ⟨e1, n1, b1⟩ := bytesMsg_rd hok.2
    have := rcode_any A0 c0 (bytesI l0) A1 c1 (bytesI l1) w (by unfold Rd; rw [n, e]; exact hr0) (by omega) (by omega) (by unfold Rd; rw [n1, e1]; exact hr1) (by omega) (by omega)
    rw [n, n1] at this
    exact this
  · cases h
end Go.Proofs.Ytnhljemnebgekaa

/-
  What the functions of these laws compute, as plain Lean functions, and that the machine's calls compute it: written by this session's own hook over the kit's print.
-/
namespace Go.Proofs.Ytnhljemnebgekaa.Ps
open Go.RowKit Go.Proofs.YtnhljemnebgekaaW.PrintWords Go.Proofs.YtnhljemnebgekaaW.PrintLast Go.Proofs.YtnhljemnebgekaaW.PrintMore
attribute [local go_sem] u32_sg u32_mx u64_sg u64_mx
attribute [local go_sem] max2_int min2_int max_two min_two max_three min_three max_four min_four   -- for this text's walks alone
set_option linter.unusedVariables false
set_option linter.unusedSimpArgs false

/-! ### stringslite_HasPrefix: function 56 -/
def stringslite_HasPrefix.f (a0 : ByteArray) (a1 : ByteArray) : Option (Bool) := if (a0.size : Int) ≥ (a1.size : Int) then (if 0 ≤ (a1.size : Int) then (if (a1.size : Int) ≤ (a0.size : Int) then (some ((a0.extract 0 ((a1.size : Int) : Int).toNat).toList == a1.toList)) else (none)) else (none)) else (some false)
set_option maxHeartbeats 8000000 in
set_option maxRecDepth 100000 in
theorem stringslite_HasPrefix.calls (a0 : ByteArray) (a1 : ByteArray) (r : Bool) (w : World) (h : stringslite_HasPrefix.f a0 a1 = some r) :
    Calls Try.prog 56 #[.string a0, .string a1] w fun e w' => e = .returned (.bool r) ∧ Drawn0 w w' := by
  have H : (if (a0.size : Int) ≥ (a1.size : Int) then (if 0 ≤ (a1.size : Int) then (if (a1.size : Int) ≤ (a0.size : Int) then (some ((a0.extract 0 ((a1.size : Int) : Int).toNat).toList == a1.toList)) else (none)) else (none)) else (some false)) = some r := h
  clear h
  by_cases c3 : (a0.size : Int) ≥ (a1.size : Int)
  · rw [if_pos c3] at H
    have c3b0 : decide ((a1.size : Int) ≤ (a0.size : Int)) = true := decide_eq_true c3
    have c3b1 : decide (a1.size ≤ a0.size) = true := decide_eq_true (Int.ofNat_le.mp c3)
    clear c3
    by_cases c4 : 0 ≤ (a1.size : Int)
    · rw [if_pos c4] at H
      have c4b0 := eq_true c4
      have c4b1 : decide (0 ≤ (a1.size : Int)) = true := decide_eq_true c4
      clear c4
      by_cases c5 : (a1.size : Int) ≤ (a0.size : Int)
      · rw [if_pos c5] at H
        have c5b0 := eq_true c5
        have c5b1 : decide ((a1.size : Int) ≤ (a0.size : Int)) = true := decide_eq_true c5
        clear c5
        obtain rfl := Option.some.inj H
        go_enter Try.func56, Try.ntmps56
        go_wp2
        go_ret
        exact ⟨by first | rfl | (simp; done) | (simp [*]; done), by repeat (first | exact Drawn0.refl _ | apply Drawn0.step)⟩
      · rw [if_neg c5] at H
        exact absurd H (by simp)
    · rw [if_neg c4] at H
      exact absurd H (by simp)
  · rw [if_neg c3] at H
    have c3b0 : decide ((a1.size : Int) ≤ (a0.size : Int)) = false := decide_eq_false c3
    have c3b1 : decide (a1.size ≤ a0.size) = false := decide_eq_false (fun h => c3 (Int.ofNat_le.mpr h))
    clear c3
    obtain rfl := Option.some.inj H
    go_enter Try.func56, Try.ntmps56
    go_wp2
    go_ret
    exact ⟨by first | rfl | (simp; done) | (simp [*]; done), by repeat (first | exact Drawn0.refl _ | apply Drawn0.step)⟩

/-! ### stringslite_CutPrefix: function 43 -/
def stringslite_CutPrefix.f (a0 : ByteArray) (a1 : ByteArray) : Option (ByteArray × Bool) := (stringslite_HasPrefix.f a0 a1).bind fun t109 => (if t109 = true then (if 0 ≤ (a1.size : Int) then (if (a1.size : Int) ≤ (a0.size : Int) then (some (a0.extract ((a1.size : Int) : Int).toNat a0.size, true)) else (none)) else (none)) else (some (a0, false)))
set_option maxHeartbeats 8000000 in
set_option maxRecDepth 100000 in
theorem stringslite_CutPrefix.calls (a0 : ByteArray) (a1 : ByteArray) (r1 : ByteArray) (r2 : Bool) (w : World) (h : stringslite_CutPrefix.f a0 a1 = some (r1, r2)) :
    Calls Try.prog 43 #[.string a0, .string a1] w fun e w' => e = .returned (.tuple #[.string r1, .bool r2]) ∧ Drawn0 w w' := by
  have H : ((stringslite_HasPrefix.f a0 a1).bind fun t109 => (if t109 = true then (if 0 ≤ (a1.size : Int) then (if (a1.size : Int) ≤ (a0.size : Int) then (some (a0.extract ((a1.size : Int) : Int).toNat a0.size, true)) else (none)) else (none)) else (some (a0, false)))) = some (r1, r2) := h
  clear h
  replace H := Option.bind_eq_some_iff.mp H
  obtain ⟨t109, A30, H⟩ := H
  replace H : (if t109 = true then (if 0 ≤ (a1.size : Int) then (if (a1.size : Int) ≤ (a0.size : Int) then (some (a0.extract ((a1.size : Int) : Int).toNat a0.size, true)) else (none)) else (none)) else (some (a0, false))) = some (r1, r2) := H
  have A3 := Aside0.mk A30
  clear A30
  by_cases c4 : t109 = true
  · subst c4
    have H1 : (if 0 ≤ (a1.size : Int) then (if (a1.size : Int) ≤ (a0.size : Int) then (some (a0.extract ((a1.size : Int) : Int).toNat a0.size, true)) else (none)) else (none)) = some (r1, r2) := by rw [if_pos rfl] at H; exact H
    clear H
    have H := H1
    clear H1
    by_cases c5 : 0 ≤ (a1.size : Int)
    · rw [if_pos c5] at H
      have c5b0 := eq_true c5
      have c5b1 : decide (0 ≤ (a1.size : Int)) = true := decide_eq_true c5
      clear c5
      by_cases c6 : (a1.size : Int) ≤ (a0.size : Int)
      · rw [if_pos c6] at H
        have c6b0 := eq_true c6
        have c6b1 : decide ((a1.size : Int) ≤ (a0.size : Int)) = true := decide_eq_true c6
        clear c6
        simp only [Option.some.injEq, Prod.mk.injEq] at H
        obtain ⟨rfl, rfl⟩ := H
        go_enter Try.func43, Try.ntmps43
        go_wp2_with (first | ((with_reducible refine gate_callee (f := 56) rfl ?_); refine goesL_ (some 8) rfl rfl Try.func56 (by kernel_rfl) rfl #[.string a0, .string a1] rfl (by (try simp only [List.map_toArray, List.map_cons, List.map_nil]); first | done | rfl | (simp only [List.length_drop, List.length_take]; rfl)) ?_; (with_reducible refine (stringslite_HasPrefix.calls a0 a1 true _ A3.out).mono ?_); rintro e w' ⟨rfl, ⟨nd, rfl⟩⟩; refine ⟨_, rfl, ?_⟩))
        go_ret2
        exact ⟨by first | rfl | (simp; done) | (simp [*]; done), by repeat (first | exact Drawn0.refl _ | apply Drawn0.step)⟩
      · rw [if_neg c6] at H
        exact absurd H (by simp)
    · rw [if_neg c5] at H
      exact absurd H (by simp)
  · replace c4 := Bool.eq_false_iff.mpr c4
    subst c4
    have H1 : (some (a0, false)) = some (r1, r2) := by rw [if_neg (show ¬ (false = true) by decide)] at H; exact H
    clear H
    have H := H1
    clear H1
    simp only [Option.some.injEq, Prod.mk.injEq] at H
    obtain ⟨rfl, rfl⟩ := H
    go_enter Try.func43, Try.ntmps43
    go_wp2_with (first | ((with_reducible refine gate_callee (f := 56) rfl ?_); refine goesL_ (some 8) rfl rfl Try.func56 (by kernel_rfl) rfl #[.string a0, .string a1] rfl (by (try simp only [List.map_toArray, List.map_cons, List.map_nil]); first | done | rfl | (simp only [List.length_drop, List.length_take]; rfl)) ?_; (with_reducible refine (stringslite_HasPrefix.calls a0 a1 false _ A3.out).mono ?_); rintro e w' ⟨rfl, ⟨nd, rfl⟩⟩; refine ⟨_, rfl, ?_⟩))
    go_ret2
    exact ⟨by first | rfl | (simp; done) | (simp [*]; done), by repeat (first | exact Drawn0.refl _ | apply Drawn0.step)⟩

/-! ### strings_CutPrefix: function 32 -/
def strings_CutPrefix.f (a0 : ByteArray) (a1 : ByteArray) : Option (ByteArray × Bool) := (stringslite_CutPrefix.f a0 a1).bind fun bt110 => (some (bt110.1, bt110.2))
set_option maxHeartbeats 8000000 in
set_option maxRecDepth 100000 in
theorem strings_CutPrefix.calls (a0 : ByteArray) (a1 : ByteArray) (r1 : ByteArray) (r2 : Bool) (w : World) (h : strings_CutPrefix.f a0 a1 = some (r1, r2)) :
    Calls Try.prog 32 #[.string a0, .string a1] w fun e w' => e = .returned (.tuple #[.string r1, .bool r2]) ∧ Drawn0 w w' := by
  have H : ((stringslite_CutPrefix.f a0 a1).bind fun bt110 => (some (bt110.1, bt110.2))) = some (r1, r2) := h
  clear h
  replace H := Option.bind_eq_some_iff.mp H
  obtain ⟨⟨t110, t111⟩, A30, H⟩ := H
  replace H : (some (t110, t111)) = some (r1, r2) := H
  have A3 := Aside0.mk A30
  clear A30
  simp only [Option.some.injEq, Prod.mk.injEq] at H
  obtain ⟨rfl, rfl⟩ := H
  go_enter Try.func32, Try.ntmps32
  go_wp2_with (first | ((with_reducible refine gate_callee (f := 43) rfl ?_); refine goesL_ (some 8) rfl rfl Try.func43 (by kernel_rfl) rfl #[.string a0, .string a1] rfl (by (try simp only [List.map_toArray, List.map_cons, List.map_nil]); first | done | rfl | (simp only [List.length_drop, List.length_take]; rfl)) ?_; (with_reducible refine (stringslite_CutPrefix.calls a0 a1 t110 t111 _ A3.out).mono ?_); rintro e w' ⟨rfl, ⟨nd, rfl⟩⟩; refine ⟨_, rfl, ?_⟩))
  go_ret2
  exact ⟨by first | rfl | (simp; done) | (simp [*]; done), by repeat (first | exact Drawn0.refl _ | apply Drawn0.step)⟩

/-! ### seal_Named: function 20 -/
def seal_Named.f (a0 : ByteArray) : Option (Bool) := (strings_CutPrefix.f a0 (⟨#[36]⟩ : ByteArray)).bind fun bt112 => ((Ext.seal_Bytes.f bt112.1).bind fun bt114 => (if bt112.2 = true then (if bt114.2 = true then (some ((bt114.1.length : Int) == 32)) else (some false)) else (some false)))
set_option maxHeartbeats 8000000 in
set_option maxRecDepth 100000 in
theorem seal_Named.calls (a0 : ByteArray) (r : Bool) (w : World) (h : seal_Named.f a0 = some r) :
    Calls Try.prog 20 #[.string a0] w fun e w' => e = .returned (.bool r) ∧ Below w.heap.size w w' := by
  have HB := Aside0.mk (Below.refl w.heap.size w)
  have H : ((strings_CutPrefix.f a0 (⟨#[36]⟩ : ByteArray)).bind fun bt112 => ((Ext.seal_Bytes.f bt112.1).bind fun bt114 => (if bt112.2 = true then (if bt114.2 = true then (some ((bt114.1.length : Int) == 32)) else (some false)) else (some false)))) = some r := h
  clear h
  replace H := Option.bind_eq_some_iff.mp H
  obtain ⟨⟨t112, t113⟩, A20, H⟩ := H
  replace H : ((Ext.seal_Bytes.f t112).bind fun bt114 => (if t113 = true then (if bt114.2 = true then (some ((bt114.1.length : Int) == 32)) else (some false)) else (some false))) = some r := H
  have A2 := Aside0.mk A20
  clear A20
  replace H := Option.bind_eq_some_iff.mp H
  obtain ⟨⟨t114, t115⟩, A30, H⟩ := H
  replace H : (if t113 = true then (if t115 = true then (some ((t114.length : Int) == 32)) else (some false)) else (some false)) = some r := H
  have A3 := Aside0.mk A30
  clear A30
  by_cases c4 : t113 = true
  · subst c4
    have H1 : (if t115 = true then (some ((t114.length : Int) == 32)) else (some false)) = some r := by rw [if_pos rfl] at H; exact H
    clear H
    have H := H1
    clear H1
    by_cases c5 : t115 = true
    · subst c5
      have H1 : (some ((t114.length : Int) == 32)) = some r := by rw [if_pos rfl] at H; exact H
      clear H
      have H := H1
      clear H1
      obtain rfl := Option.some.inj H
      go_enter Try.func20, Try.ntmps20
      go_wp2_with (first | ((with_reducible refine gate_callee (f := 32) rfl ?_); refine goesL_ (some 9) rfl rfl Try.func32 (by kernel_rfl) rfl #[.string a0, .string (⟨#[36]⟩ : ByteArray)] rfl (by (try simp only [List.map_toArray, List.map_cons, List.map_nil]); first | done | rfl | (simp only [List.length_drop, List.length_take]; rfl)) ?_; (with_reducible refine (strings_CutPrefix.calls a0 (⟨#[36]⟩ : ByteArray) t112 true _ A2.out).mono ?_); rintro e w' ⟨rfl, ⟨nd, rfl⟩⟩; refine ⟨_, rfl, ?_⟩) | ((with_reducible refine gate_callee (f := 22) rfl ?_); refine goesL_ (some 14) rfl rfl Try.func22 (by kernel_rfl) rfl #[.string t112] rfl (by (try simp only [List.map_toArray, List.map_cons, List.map_nil]); first | done | rfl | (simp only [List.length_drop, List.length_take]; rfl)) ?_; (with_reducible refine (Ext.seal_Bytes.calls t112 t114 true _ A3.out).mono ?_); rintro e w6 ⟨v116, rfl, ho0, hb⟩; refine ⟨_, rfl, ?_⟩; have n0_ := Aside0.mk (Kd.R_lower ho0 (below_size (by repeat (first | (with_reducible first | exact HB.out | apply below_alloc | apply pw_below_drewN | apply below_drew1) | exact HB.out)))); have n1_ := Aside0.mk (below_step (by repeat (first | (with_reducible first | exact HB.out | apply below_alloc | apply pw_below_drewN | apply below_drew1) | exact HB.out)) hb); clear HB; have HO117 := n0_; have HB := n1_; clear n0_ n1_; (try clear hb); (try clear hb2); (try clear hk); (try clear hi); (try clear ho0); obtain ⟨Ao7, co7, eo7⟩ := Kd.R_slice HO117.out; subst eo7))
      go_ret
      exact ⟨by first | rfl | (simp [errW_none, errW_some] <;> rfl) | (simp [*, errW_none, errW_some] <;> rfl), by repeat (first | (with_reducible first | exact HB.out | apply below_alloc | apply pw_below_drewN | apply below_drew1) | exact HB.out)⟩
    · replace c5 := Bool.eq_false_iff.mpr c5
      subst c5
      have H1 : (some false) = some r := by rw [if_neg (show ¬ (false = true) by decide)] at H; exact H
      clear H
      have H := H1
      clear H1
      obtain rfl := Option.some.inj H
      go_enter Try.func20, Try.ntmps20
      go_wp2_with (first | ((with_reducible refine gate_callee (f := 32) rfl ?_); refine goesL_ (some 9) rfl rfl Try.func32 (by kernel_rfl) rfl #[.string a0, .string (⟨#[36]⟩ : ByteArray)] rfl (by (try simp only [List.map_toArray, List.map_cons, List.map_nil]); first | done | rfl | (simp only [List.length_drop, List.length_take]; rfl)) ?_; (with_reducible refine (strings_CutPrefix.calls a0 (⟨#[36]⟩ : ByteArray) t112 true _ A2.out).mono ?_); rintro e w' ⟨rfl, ⟨nd, rfl⟩⟩; refine ⟨_, rfl, ?_⟩) | ((with_reducible refine gate_callee (f := 22) rfl ?_); refine goesL_ (some 14) rfl rfl Try.func22 (by kernel_rfl) rfl #[.string t112] rfl (by (try simp only [List.map_toArray, List.map_cons, List.map_nil]); first | done | rfl | (simp only [List.length_drop, List.length_take]; rfl)) ?_; (with_reducible refine (Ext.seal_Bytes.calls t112 t114 false _ A3.out).mono ?_); rintro e w8 ⟨v116, rfl, ho0, hb⟩; refine ⟨_, rfl, ?_⟩; have n0_ := Aside0.mk (Kd.R_lower ho0 (below_size (by repeat (first | (with_reducible first | exact HB.out | apply below_alloc | apply pw_below_drewN | apply below_drew1) | exact HB.out)))); have n1_ := Aside0.mk (below_step (by repeat (first | (with_reducible first | exact HB.out | apply below_alloc | apply pw_below_drewN | apply below_drew1) | exact HB.out)) hb); clear HB; have HO117 := n0_; have HB := n1_; clear n0_ n1_; (try clear hb); (try clear hb2); (try clear hk); (try clear hi); (try clear ho0)))
      go_ret
      exact ⟨by first | rfl | (simp [errW_none, errW_some] <;> rfl) | (simp [*, errW_none, errW_some] <;> rfl), by repeat (first | (with_reducible first | exact HB.out | apply below_alloc | apply pw_below_drewN | apply below_drew1) | exact HB.out)⟩
  · replace c4 := Bool.eq_false_iff.mpr c4
    subst c4
    have H1 : (some false) = some r := by rw [if_neg (show ¬ (false = true) by decide)] at H; exact H
    clear H
    have H := H1
    clear H1
    obtain rfl := Option.some.inj H
    go_enter Try.func20, Try.ntmps20
    go_wp2_with (first | ((with_reducible refine gate_callee (f := 32) rfl ?_); refine goesL_ (some 9) rfl rfl Try.func32 (by kernel_rfl) rfl #[.string a0, .string (⟨#[36]⟩ : ByteArray)] rfl (by (try simp only [List.map_toArray, List.map_cons, List.map_nil]); first | done | rfl | (simp only [List.length_drop, List.length_take]; rfl)) ?_; (with_reducible refine (strings_CutPrefix.calls a0 (⟨#[36]⟩ : ByteArray) t112 false _ A2.out).mono ?_); rintro e w' ⟨rfl, ⟨nd, rfl⟩⟩; refine ⟨_, rfl, ?_⟩) | ((with_reducible refine gate_callee (f := 22) rfl ?_); refine goesL_ (some 14) rfl rfl Try.func22 (by kernel_rfl) rfl #[.string t112] rfl (by (try simp only [List.map_toArray, List.map_cons, List.map_nil]); first | done | rfl | (simp only [List.length_drop, List.length_take]; rfl)) ?_; (with_reducible refine (Ext.seal_Bytes.calls t112 t114 t115 _ A3.out).mono ?_); rintro e w9 ⟨v116, rfl, ho0, hb⟩; refine ⟨_, rfl, ?_⟩; have n0_ := Aside0.mk (Kd.R_lower ho0 (below_size (by repeat (first | (with_reducible first | exact HB.out | apply below_alloc | apply pw_below_drewN | apply below_drew1) | exact HB.out)))); have n1_ := Aside0.mk (below_step (by repeat (first | (with_reducible first | exact HB.out | apply below_alloc | apply pw_below_drewN | apply below_drew1) | exact HB.out)) hb); clear HB; have HO117 := n0_; have HB := n1_; clear n0_ n1_; (try clear hb); (try clear hb2); (try clear hk); (try clear hi); (try clear ho0)))
    go_ret
    exact ⟨by first | rfl | (simp [errW_none, errW_some] <;> rfl) | (simp [*, errW_none, errW_some] <;> rfl), by repeat (first | (with_reducible first | exact HB.out | apply below_alloc | apply pw_below_drewN | apply below_drew1) | exact HB.out)⟩

end Go.Proofs.Ytnhljemnebgekaa.Ps
