/-
  The function words, called on any block of 64 bytes, returns its plain words; the function keys returns the plain keys.
-/
import Derived.Test.YtdbdikgjelhfbaaTurn
import Derived.Deep.QuietTactic
import Derived.BigQuiet
import Derived.WalkSmall
import Derived.Deep.RegionHeld
import Derived.Deep.MidRow
import Derived.Great.BuildSlice
namespace Go.Proofs.Ytdbdikgjelhfbaa
open Go.RowKit Sha

/-- Words, and bytes, as cells. -/
def u32s (l : List W) : List Value := l.map fun x => Value.int .u32 (x.toNat : Int)
def u8s (l : List UInt8) : List Value := l.map fun c => Value.int .u8 (c.toNat : Int)
theorem u32s_one (l : List W) : ∀ v ∈ u32s l, v.oneCell' = true := by
  intro v hv
  obtain ⟨x, _, rfl⟩ := List.mem_map.1 hv
  rfl
/-- The words lie in block b: they are all of it. -/
def Row (w : World) (b : Nat) (T : TypeId) (l : List W) : Prop := w.heap[b]? = some (.cells (u32s l).toArray T (0, 0))
theorem Row.cell {w : World} {b : Nat} {T : TypeId} {l : List W} (h : Row w b T l) {j : Nat} {x : W} (hj : l[j]? = some x) : w.cell? ⟨b, j, none⟩ = some (.int .u32 (x.toNat : Int)) := by
  rw [cell_of_row w b j _ T (0, 0) h]
  simp [u32s, hj]
theorem Row.frozen {w : World} {b : Nat} {T : TypeId} {l : List W} (h : Row w b T l) (j : Nat) : w.frozen? ⟨b, j, none⟩ = false := by
  exact frozen_of_row w b j _ T h
theorem Row.set {w : World} {b : Nat} {T : TypeId} {l : List W} (h : Row w b T l) (k : Nat) (x : W) : Row (w.setCell ⟨b, k, none⟩ (.int .u32 (x.toNat : Int))) b T (l.set k x) := by
  rw [Row, setCell_eq_setRow w b k _ T (0, 0) _ h, setRow_heap _ _ _ _ _ _ h]
  simp [u32s, List.map_set]
theorem Row.drew {w : World} {b : Nat} {T : TypeId} {l : List W} (h : Row w b T l) : Row w.drew b T l := h
theorem Row.lt {w : World} {b : Nat} {T : TypeId} {l : List W} (h : Row w b T l) : b < w.heap.size := (Array.getElem?_eq_some_iff.1 h).1
theorem Row.below {w w' : World} {b : Nat} {T : TypeId} {l : List W} (h : Row w b T l) (hb : Below w.heap.size w w') : Row w' b T l := (hb.block b h.lt).trans h
theorem below_setRow {W w : World} (h : Below W.heap.size W w) (b : Nat) (cs : Array Value) (hb : W.heap.size ≤ b) : Below W.heap.size W (w.setRow b cs) :=
  ⟨h.os, h.tape, h.output, by simpa [World.setRow] using h.size, fun k hk => by rw [setRow_other _ _ _ _ (by omega)]; exact h.block k hk⟩
/-- Words, and noughts behind them, n in all. -/
def padded (l : List W) (n : Nat) : List W := l ++ List.replicate (n - l.length) 0
theorem padded_get (l : List W) (n j : Nat) (hj : j < n) : (padded l n)[j]? = some (l.getD j 0) := by
  unfold padded
  by_cases h : j < l.length
  · rw [List.getElem?_append_left h, List.getElem?_eq_getElem h]; simp [List.getD, List.getElem?_eq_getElem h]
  · rw [List.getElem?_append_right (by omega), List.getElem?_replicate, if_pos (by omega)]
    simp [List.getD, List.getElem?_eq_none (Nat.le_of_not_lt h)]
theorem padded_set (l : List W) (n : Nat) (x : W) (h : l.length < n) : (padded l n).set l.length x = padded (l ++ [x]) n := by
  unfold padded
  rw [show n - l.length = (n - (l.length + 1)) + 1 by omega, List.replicate_succ, List.set_append_right _ _ (Nat.le_refl _)]
  simp
theorem padded_same (l : List W) (n : Nat) (h : l.length < n) : (padded l n).set l.length 0 = padded l n := by
  have h1 := padded_get l n l.length h
  rw [List.getD_eq_getElem?_getD, List.getElem?_eq_none (Nat.le_refl _)] at h1
  obtain ⟨hlt, he⟩ := List.getElem?_eq_some_iff.1 h1
  conv => lhs; rw [show (0 : W) = (padded l n)[l.length] from he.symm]
  exact List.set_getElem_self hlt
theorem padded_full (l : List W) (n : Nat) (h : l.length = n) : padded l n = l := by simp [padded, h]
theorem add_nat (x y : W) : ((x.toNat : Int) + (y.toNat : Int)) % 4294967296 = ((x + y).toNat : Int) := by
  rw [BitVec.toNat_add]; simp
theorem push_nat (x : W) (c : UInt8) : bits .or .u32 ((x.toNat : Int) * 256 % 4294967296) (c.toNat : Int) = ((push x c).toNat : Int) := by
  have h1 : (x.toNat : Int) * 256 % 4294967296 = ((x.toNat * 256 % 4294967296 : Nat) : Int) := by simp
  have hc := c.toNat_lt
  rw [h1, u32_or_nat _ _ (Nat.mod_lt _ (by decide)) (by omega)]
  unfold push
  rw [BitVec.toNat_or, BitVec.toNat_shiftLeft, Nat.shiftLeft_eq, BitVec.toNat_setWidth]
  congr 2
  show _ = c.toNat % 2 ^ 32
  rw [Nat.mod_eq_of_lt (by omega)]

def keysV : Array Value := (u32s keys).toArray
def zeroV (n : Nat) : Array Value := Array.replicate n (.int .u32 0)
def keysI : List Int := [1116352408, 1899447441, 3049323471, 3921009573, 961987163, 1508970993, 2453635748, 2870763221, 3624381080, 310598401, 607225278, 1426881987, 1925078388, 2162078206, 2614888103, 3248222580, 3835390401, 4022224774, 264347078, 604807628, 770255983, 1249150122, 1555081692, 1996064986, 2554220882, 2821834349, 2952996808, 3210313671, 3336571891, 3584528711, 113926993, 338241895, 666307205, 773529912, 1294757372, 1396182291, 1695183700, 1986661051, 2177026350, 2456956037, 2730485921, 2820302411, 3259730800, 3345764771, 3516065817, 3600352804, 4094571909, 275423344, 430227734, 506948616, 659060556, 883997877, 958139571, 1322822218, 1537002063, 1747873779, 1955562222, 2024104815, 2227730452, 2361852424, 2428436474, 2756734187, 3204031479, 3329325298]
theorem keysV_ints : keysV = (keysI.map (Value.int .u32)).toArray := rfl
theorem keysV_one : keysV.all (·.oneCell') = true := all_oneCell_toArray (u32s_one keys)
theorem info57 : (Try.prog.info? 57).map (·.size) = some 64 := by kernel_rfl
theorem info43 : (Try.prog.info? 43).map (·.size) = some 1 := by kernel_rfl
theorem zero57 : ((Try.prog.info? 57).bind (·.zero)).map (·.cells.size) = some keysI.length := by kernel_rfl
set_option maxRecDepth 100000 in
set_option maxHeartbeats 1000000 in
theorem keys_any (w : World) : Calls Try.prog 28 #[] w fun e w' => e = .returned (.agg keysV) ∧ Below w.heap.size w w' := by
  have hz : ∀ w, (zeroValue 57).run Try.prog w = .ok (.agg (zeroV 64)) w := fun w => by kernel_rfl
  go_enter Try.func28, Try.ntmps28
  go_wp2_with (first
    | refine wpList_buildFlatArrTo rfl 57 43 64 _ rfl .u32 keysI (some 1) rfl Try.underlying57 info43 zero57 (by kernel_rfl) ?_
    | refine wpList_store_rowTo rfl 57 _ _ rfl rfl w.heap.size keysV rfl rfl 57 (zeroV 64) (heap_alloc_new _ _) info57 (by decide +kernel) keysV_one ?_)
  refine bodyPost_ret_by (results_cell_row rfl _ _ w.heap.size 57 keysV (0, 0) _ rfl (setRow_heap _ _ _ _ _ _ (heap_alloc_new _ _)) Try.underlying57 rfl info57) rfl ⟨rfl, below_setRow ?_ _ _ (Nat.le_refl _)⟩
  go_grown

/-- The bytes lie in a row from a on. -/
def BytesAt (W : World) (a : Option Addr) (l : List UInt8) : Prop := 0 < l.length → ∃ b off, a = some ⟨b, off, none⟩ ∧ b < W.heap.size ∧ ∀ i (h : i < l.length), W.cell? ⟨b, off + i, none⟩ = some (.int .u8 (l[i].toNat : Int))
theorem BytesAt.below {W W' : World} {a : Option Addr} {l : List UInt8} (h : BytesAt W a l) (hb : Below W.heap.size W W') : BytesAt W' a l := fun hp => by
  obtain ⟨b, off, e, hlt, hc⟩ := h hp
  exact ⟨b, off, e, Nat.lt_of_lt_of_le hlt hb.size, fun i hi => (hb.cell (p := ⟨b, off + i, none⟩) hlt).trans (hc i hi)⟩
theorem four_snoc (l : List UInt8) (c : UInt8) : four (l ++ [c]) = push (four l) c := by simp [four]
theorem drew_below (w : World) : Below w.heap.size w w.drew := by go_grown
theorem small_lit (x : W) (a b c : Int) (h : (a = 17 ∧ b = 19 ∧ c = 10) ∨ (a = 7 ∧ b = 18 ∧ c = 3)) (w : World) :
    Calls Try.prog 33 #[.int .u32 x.toNat, .int .i64 a, .int .i64 b, .int .u64 c] w fun e w' => e = .returned (.int .u32 (small x a.toNat b.toNat c.toNat).toNat) ∧ w = w' := by
  rcases h with ⟨rfl, rfl, rfl⟩ | ⟨rfl, rfl, rfl⟩
  · exact small_17 x w
  · exact small_7 x w

set_option maxRecDepth 100000 in
set_option maxHeartbeats 2000000 in
theorem words_any (a : Option Addr) (n cap : Nat) (b : List UInt8) (w : World) (hn : 64 ≤ b.length) (hb : BytesAt w a b) (hnl : b.length = n) (hc : n ≤ cap) (hc2 : cap ≤ maxLen) :
    Calls Try.prog 27 #[.slice a n cap] w fun e w' => e = .returned (.agg (u32s (words b)).toArray) ∧ Below w.heap.size w w' := by
  obtain ⟨g, o, rfl, hg, hcell⟩ := hb (by omega)
  have hz : ∀ w, (zeroValue 57).run Try.prog w = .ok (.agg (zeroV 64)) w := fun w => by kernel_rfl
  have HC := Lib.hid hcell
  clear hcell
  have hc3 : cap ≤ 9223372036854775807 := hc2
  clear hc2
  go_enter Try.func27, Try.ntmps27
  go_wp2_with fail
  go_loopw [6] (fun i wr => ∃ k : Nat, k ≤ 64 ∧ i = .int .i64 k ∧ Row wr w.heap.size 57 (padded (upto b k) 64) ∧ Below w.heap.size w wr) (fun i _ => 64 - (intOf i).toNat)
  case atStart =>
    refine ⟨0, by omega, rfl, ?_, ?_⟩
    · exact heap_alloc_new w _
    · go_grown
  case round =>
    obtain ⟨k, hk, rfl, hrow, hbel⟩ := hrel
    have HROW := Lib.hid hrow; have HBEL := Lib.hid hbel
    clear hrow hbel
    by_cases hlt : k < 64
    · by_cases h16 : k < 16
      · have h4a : (4 : Int) * (k : Int) + 4 ≤ (cap : Int) := by omega
        go_wp2_with fail
        go_loopw [19] (fun i wq => ∃ j : Nat, j ≤ 4 ∧ i = .int .i64 j ∧ Row wq w.heap.size 57 ((padded (upto b k) 64).set k (four (((b.drop (4 * k)).take 4).take j))) ∧ Below w.heap.size w wq) (fun i _ => 4 - (intOf i).toNat)
        case atStart =>
          refine ⟨0, by omega, rfl, ?_, HBEL.out⟩
          have h := padded_same (upto b k) 64 (by rw [upto_length]; exact hlt)
          rw [upto_length] at h
          rw [List.take_zero, show four [] = 0 from rfl, h]
          exact HROW.out
        case round =>
          obtain ⟨j, hj, rfl, hrow, hbel⟩ := hrel
          obtain ⟨S, hS⟩ : ∃ S, four (((b.drop (4 * k)).take 4).take j) = S := ⟨_, rfl⟩
          rw [hS] at hrow
          have HS := Lib.hid hS
          have HROW2 := Lib.hid hrow; have HBEL2 := Lib.hid hbel
          clear hrow hbel hS
          by_cases hlj : j < 4
          · have hji : (j : Int) < 4 := by omega
            have hkb : 4 * k + j < b.length := by omega
            have fb : wr.cell? ⟨g, o + 4 * k + j, none⟩ = some (.int .u8 (b[4 * k + j].toNat : Int)) := by
              rw [HBEL2.out.cell (p := ⟨g, o + 4 * k + j, none⟩) hg, Nat.add_assoc]
              exact HC.out _ hkb
            have fw : wr.cell? ⟨w.heap.size, k, none⟩ = some (.int .u32 (S.toNat : Int)) :=
              HROW2.out.cell (by rw [List.getElem?_set_self]; simp [padded, upto_length]; omega)
            have ff : wr.frozen? ⟨w.heap.size, k, none⟩ = false := HROW2.out.frozen k
            have ht : ((b.drop (4 * k)).take 4).take (j + 1) = ((b.drop (4 * k)).take 4).take j ++ [b[4 * k + j]] := by
              rw [List.take_succ_eq_append_getElem (by simp; omega)]
              simp
            obtain ⟨c, hc⟩ : ∃ c, b[4 * k + j] = c := ⟨_, rfl⟩
            rw [hc] at fb ht
            have HT := Lib.hid ht
            clear hc ht
            have hcn := c.toNat_lt
            have hpu := push_nat S c
            have hcw : IntKind.u32.wrap (c.toNat : Int) = (c.toNat : Int) := by rw [IntKind.wrap_u32]; omega
            go_wp2_with fail
            go_roundw
            case rel =>
              refine ⟨j + 1, by omega, by go_num, ?_, HBEL2.out.setCell (p := ⟨w.heap.size, k, none⟩) (Nat.le_refl _) _⟩
              rw [HT.out, four_snoc, HS.out]
              have := HROW2.out.set k (push S c)
              rwa [List.set_set] at this
            case measure => simp [intOf]; omega
          · obtain rfl : j = 4 := by omega
            have h4 : S = four ((b.drop (4 * k)).take 4) := by rw [← HS.out, List.take_take, Nat.min_self]
            go_wp2_with fail
            go_roundw
            case rel =>
              refine ⟨k + 1, by omega, by go_num, ?_, HBEL2.out⟩
              have := padded_set (upto b k) 64 S (by rw [upto_length]; exact hlt)
              rw [upto_length] at this
              rw [upto_first b k h16, ← h4, ← this]
              exact HROW2.out
            case measure => simp [intOf]; omega
      · have h64 : (upto b k).length = k := upto_length b k
        obtain ⟨L, hL⟩ : ∃ L, upto b k = L := ⟨_, rfl⟩
        have hnx := upto_more b k (by omega)
        rw [hL] at h64 hnx
        have hrow := HROW.out
        rw [hL] at hrow
        obtain ⟨k2, hk2⟩ : ∃ k2, k - 2 = k2 := ⟨_, rfl⟩
        obtain ⟨k7, hk7⟩ : ∃ k7, k - 7 = k7 := ⟨_, rfl⟩
        obtain ⟨k15, hk15⟩ : ∃ k15, k - 15 = k15 := ⟨_, rfl⟩
        obtain ⟨k16, hk16⟩ : ∃ k16, k - 16 = k16 := ⟨_, rfl⟩
        obtain ⟨x2, hx2⟩ : ∃ x, L.getD k2 0 = x := ⟨_, rfl⟩
        obtain ⟨x7, hx7⟩ : ∃ x, L.getD k7 0 = x := ⟨_, rfl⟩
        obtain ⟨x15, hx15⟩ : ∃ x, L.getD k15 0 = x := ⟨_, rfl⟩
        obtain ⟨x16, hx16⟩ : ∃ x, L.getD k16 0 = x := ⟨_, rfl⟩
        have c2 : wr.cell? ⟨w.heap.size, k2, none⟩ = some (.int .u32 (x2.toNat : Int)) := by rw [← hx2]; exact hrow.cell (padded_get L 64 k2 (by omega))
        have c7 : wr.cell? ⟨w.heap.size, k7, none⟩ = some (.int .u32 (x7.toNat : Int)) := by rw [← hx7]; exact hrow.cell (padded_get L 64 k7 (by omega))
        have c15 : wr.cell? ⟨w.heap.size, k15, none⟩ = some (.int .u32 (x15.toNat : Int)) := by rw [← hx15]; exact hrow.cell (padded_get L 64 k15 (by omega))
        have c16 : wr.cell? ⟨w.heap.size, k16, none⟩ = some (.int .u32 (x16.toNat : Int)) := by rw [← hx16]; exact hrow.cell (padded_get L 64 k16 (by omega))
        have ck : wr.cell? ⟨w.heap.size, k, none⟩ = some (.int .u32 0) := by
          rw [hrow.cell (padded_get L 64 k (by omega)), List.getD_eq_getElem?_getD, List.getElem?_eq_none (by omega)]; rfl
        have ff : wr.frozen? ⟨w.heap.size, k, none⟩ = false := hrow.frozen k
        have hv : next L = small x2 17 19 10 + x7 + small x15 7 18 3 + x16 := by
          unfold next
          rw [h64, hk2, hk7, hk15, hk16, hx2, hx7, hx15, hx16]
        have HV := Lib.hid hv; have HNX := Lib.hid hnx; have HR := Lib.hid hrow; have HL := Lib.hid hL; have H64 := Lib.hid h64
        have e2 : (k : Int) - 2 = (k2 : Int) := by omega
        have e7 : (k : Int) - 7 = (k7 : Int) := by omega
        have e15 : (k : Int) - 15 = (k15 : Int) := by omega
        have e16 : (k : Int) - 16 = (k16 : Int) := by omega
        have w2 : IntKind.i64.wrap (k2 : Int) = (k2 : Int) := by rw [IntKind.wrap_i64]; omega
        have w7 : IntKind.i64.wrap (k7 : Int) = (k7 : Int) := by rw [IntKind.wrap_i64]; omega
        have w15 : IntKind.i64.wrap (k15 : Int) = (k15 : Int) := by rw [IntKind.wrap_i64]; omega
        have w16 : IntKind.i64.wrap (k16 : Int) = (k16 : Int) := by rw [IntKind.wrap_i64]; omega
        have l2 : (k2 : Int) < 64 := by omega
        have l7 : (k7 : Int) < 64 := by omega
        have l15 : (k15 : Int) < 64 := by omega
        have l16 : (k16 : Int) < 64 := by omega
        have lk : (k : Int) < 64 := by omega
        have g2 : (0 : Int) ≤ (k2 : Int) := by omega
        have g7 : (0 : Int) ≤ (k7 : Int) := by omega
        have g15 : (0 : Int) ≤ (k15 : Int) := by omega
        have g16 : (0 : Int) ≤ (k16 : Int) := by omega
        have gk : (0 : Int) ≤ (k : Int) := by omega
        have n2 : Hid (∀ v, (wr.setCell ⟨w.heap.size, k, none⟩ v).cell? ⟨w.heap.size, k2, none⟩ = some (.int .u32 (x2.toNat : Int))) := Lib.hid fun v => by
          rw [World.cell?_setCell_other _ _ _ _ (by intro h; injection h with _ h2 _; omega)]; exact c2
        have n7 : Hid (∀ v, (wr.setCell ⟨w.heap.size, k, none⟩ v).cell? ⟨w.heap.size, k7, none⟩ = some (.int .u32 (x7.toNat : Int))) := Lib.hid fun v => by
          rw [World.cell?_setCell_other _ _ _ _ (by intro h; injection h with _ h2 _; omega)]; exact c7
        have n15 : Hid (∀ v, (wr.setCell ⟨w.heap.size, k, none⟩ v).cell? ⟨w.heap.size, k15, none⟩ = some (.int .u32 (x15.toNat : Int))) := Lib.hid fun v => by
          rw [World.cell?_setCell_other _ _ _ _ (by intro h; injection h with _ h2 _; omega)]; exact c15
        have n16 : Hid (∀ v, (wr.setCell ⟨w.heap.size, k, none⟩ v).cell? ⟨w.heap.size, k16, none⟩ = some (.int .u32 (x16.toNat : Int))) := Lib.hid fun v => by
          rw [World.cell?_setCell_other _ _ _ _ (by intro h; injection h with _ h2 _; omega)]; exact c16
        clear hx2 hx7 hx15 hx16 hv hnx hrow hL h64 hk2 hk7 hk15 hk16
        go_wp2_with fail
        go_region_held (fun w' => w'.cell? ⟨w.heap.size, k2, none⟩ = some (.int .u32 (x2.toNat : Int)) ∧ w'.cell? ⟨w.heap.size, k7, none⟩ = some (.int .u32 (x7.toNat : Int)) ∧ w'.cell? ⟨w.heap.size, k15, none⟩ = some (.int .u32 (x15.toNat : Int)) ∧ w'.cell? ⟨w.heap.size, k16, none⟩ = some (.int .u32 (x16.toNat : Int)))
          (first | exact ⟨n2.out _, n7.out _, n15.out _, n16.out _⟩ | go_keep)
          (first | (go_at_call 33; refine (small_lit _ _ _ _ (by decide) _).mono ?_; rintro e _ ⟨rfl, rfl⟩))
        go_wp2_with fail
        go_roundw
        case rel =>
          have hval : (((((small x2 17 19 10).toNat : Int) + (x7.toNat : Int)) % 4294967296 + ((small x15 7 18 3).toNat : Int)) % 4294967296 + (x16.toNat : Int)) % 4294967296 = ((next L).toNat : Int) := by
            rw [add_nat, add_nat, add_nat, HV.out]
          refine ⟨k + 1, by omega, by go_num, ?_, (HBEL.out.setCell (p := ⟨w.heap.size, k, none⟩) (Nat.le_refl _) _).trans ((drew_below _).mono (by have := HBEL.out.size; simpa using this))⟩
          rw [hval]
          have := HR.out.set k (next L)
          have hp := padded_set L 64 (next L) (by rw [H64.out]; exact hlt)
          rw [H64.out] at hp
          rw [hp, ← HNX.out] at this
          exact this
        case measure => simp [intOf]; omega
    · obtain rfl : k = 64 := by omega
      have hrow := HROW.out
      rw [padded_full _ _ (upto_length b 64)] at hrow
      have hsz : (Try.prog.info? 57).map (·.size) = some (u32s (upto b 64)).toArray.size := by
        rw [info57]; simp [u32s, upto_length]
      have hone : (u32s (upto b 64)).toArray.all (·.oneCell') = true := all_oneCell_toArray (u32s_one _)
      obtain ⟨R, hR⟩ : ∃ R, (u32s (upto b 64)).toArray = R := ⟨_, rfl⟩
      unfold Row at hrow
      rw [hR] at hrow hsz hone
      have HR := Lib.hid hR; have HRW := Lib.hid hrow; have HSZ := Lib.hid hsz; have HON := Lib.hid hone
      clear hR hrow hsz hone
      go_wp2_with (first
        | refine wpList_load_row rfl 57 _ rfl w.heap.size rfl 57 R (0, 0) _ HRW.out Try.underlying57 rfl HSZ.out ?_
        | refine wpList_store_rowTo rfl 57 _ _ rfl rfl w.heap.size R rfl rfl 57 R HRW.out HSZ.out rfl HON.out ?_)
      refine bodyPost_ret_by (results_cell_row rfl _ _ w.heap.size 57 R (0, 0) _ rfl (setRow_heap _ _ _ _ _ _ HRW.out) Try.underlying57 rfl HSZ.out) rfl ⟨?_, below_setRow HBEL.out _ _ (Nat.le_refl _)⟩
      rw [← HR.out]; rfl
end Go.Proofs.Ytdbdikgjelhfbaa
