/-
  Texts of this session, merged in build order: Open, Shelf, GShelf, GPlain, GCheck, Pgx0, Pgx1, GQuote, IdxRune, Pgx3, GUnit, GUnit2, GEsc, GUnq, GKnown, GLaid, Pgx8, Pgx9, GChoice.
-/
import Derived.WalkKit
import Derived.ProofKit
import Derived.OpenShut
import Derived.ShutString
import Derived.ChangeOld
import Derived.Below
import Derived.SizedLaws
import Derived.SliceStrings
import Derived.Shelf.Strings.Builder1
import Derived.Shelf.Strings.Builder2
import Derived.Shelf.Strings.OnBuilder
import Derived.Shelf.Small.Utf8
import Derived.Shelf.Small.Strs
import Derived.Shelf.Small.Wraps
import Derived.Shelf.Strings.BuilderF
import Derived.Shelf.Strings.BuilderK
import Derived.Shelf.Strings.BuilderRune
import Derived.Shelf.Utf8.AppendRune
import Derived.Shelf.Utf8.RuneCount
import Derived.Shelf.Strings.Search1
import Derived.Shelf.Strings.Prefix
import Derived.Shelf.Unicode.Latin
import Derived.Shelf.Strings.Runes
import Derived.Shelf.Strings.RuneCount
import Derived.Shelf.Unicode.DecodeSlow
import Derived.Shelf.Unicode.DecodeAny
import Derived.Shelf.Unicode.CaseLookup
import Derived.Shelf.Unicode.CaseConvert
import Derived.Shelf.Unicode.CaseTo
import Derived.Shelf.Unicode.CaseLaid
import Derived.Shelf.Strings.MapAny
import Derived.Shelf.Strings.CaseAny
import Derived.Test.YtpibbokkdjjgeaaDoorProg
import Derived.Lib.DecodeN
import Derived.Lib.SpaceU
import Derived.Lib.RuneCountTail
import Derived.Lib.RuneBytes
import Derived.BigCall
import Derived.BigQuiet
import Derived.Deep.QuietTactic
import Derived.Lib.Hide
import Derived.Lib.OthersKept
import Derived.Laws.Runes
import Derived.Deep.Draws
import Derived.Deep.AppendLies
import Derived.Maps.AppendAt
import Derived.OwnWalk
import Derived.Laws.BytesArg
import Derived.Laws.MakeOwn
import Derived.Laws.OwnMore
import Derived.Deep.OwnRows
import Derived.Tactics
import Derived.Lib.ConvBytes
import Derived.Laws.Slices
import Derived.KernelRfl
import Derived.RowKit3
import Derived.Deep.LoopGhost
import Derived.WideLaws
import Derived.Deep.DeepCutAuto
import Derived.Deep.CutBlock
import Derived.Deep.RegionHeld3
import Derived.Laws.Rows
import Derived.Lib.AppendStr
import Derived.ArgAppend
import Derived.Laws.IdiomCopy
import Derived.OrdersHeld
import Derived.Laws.BitsLemmas
import Derived.RowKit
import Derived.Test.YtpibbokkdjjgeaaDoorWWords
import Derived.Test.YtpibbokkdjjgeaaDoorWLast
import Derived.Test.YtpibbokkdjjgeaaDoorWTab
import Derived.Test.YtpibbokkdjjgeaaDoorWFour
import Derived.Test.YtpibbokkdjjgeaaDoorWQPut
import Derived.Test.YtpibbokkdjjgeaaDoorWApart
import Derived.Test.YtpibbokkdjjgeaaDoorWArr
import Derived.Test.YtpibbokkdjjgeaaDoorWZeros
import Derived.Test.YtpibbokkdjjgeaaDoorWFoot
import Derived.Test.YtpibbokkdjjgeaaDoorWKept
import Derived.Test.YtpibbokkdjjgeaaDoorWShare
import Derived.Test.YtpibbokkdjjgeaaDoorWN
import Derived.Test.YtpibbokkdjjgeaaDoorWEqStruct
import Derived.Test.YtpibbokkdjjgeaaDoorWRepsOne
import Derived.Test.YtpibbokkdjjgeaaDoorWGuard
import Derived.Test.YtpibbokkdjjgeaaDoorWNEv
import Derived.Test.YtpibbokkdjjgeaaDoorWMore
import Derived.Lib.MapLaws
import Derived.Test.YtpibbokkdjjgeaaDoorRows
import Derived.Lib.LaidCase
import Derived.Lib.LaidU8T
import Derived.PinnedBridge
import Derived.LaidMore
set_option linter.unusedVariables false
set_option linter.unusedSimpArgs false
/-
  What a law's arguments read as, in one form: a slice of bytes or of texts is a row of cells ('RowAt'), each no longer than the form's reach.
-/
namespace Go.Proofs.YtpibbokkdjjgeaaDoor
open Go.ChangeShapes Go.WideShapes Go.ChangeAt Go.RowKit

/-- The values lie in a row from a on. -/
def RowAt (W : World) (a : Option Addr) (vs : List Value) : Prop :=
  0 < vs.length → ∃ b off, a = some ⟨b, off, none⟩ ∧ b < W.heap.size ∧ ∀ i (h : i < vs.length), W.cell? ⟨b, off + i, none⟩ = some vs[i]
theorem RowAt.below {W W' : World} {a : Option Addr} {vs : List Value} (h : RowAt W a vs) (hb : Below W.heap.size W W') : RowAt W' a vs := fun hp => by
  obtain ⟨b, off, e, hlt, hc⟩ := h hp
  exact ⟨b, off, e, Nat.lt_of_lt_of_le hlt hb.size, fun i hi => (hb.cell (p := ⟨b, off + i, none⟩) hlt).trans (hc i hi)⟩

section
variable {H : Type} {enc : TypeId × Value → H} {P : Program} {W : World} {base : Nat} {spare : Nat → Bool} {held : Bool}
theorem weights_all_mem {e : TypeId} : ∀ {l : List (DataW H)} {d : DataW H}, d ∈ l → ∀ n ∈ d.weights P e, n ∈ DataW.weightsAll P e l
  | d0 :: l, d, hd, n, hn => by
    simp only [DataW.weightsAll, List.mem_append]
    rcases List.mem_cons.1 hd with rfl | hd
    · exact .inl hn
    · exact .inr (weights_all_mem hd n hn)
theorem row_of_cells {a : Addr} {vs : List Value} (hc : ∀ i (h : i < vs.length), W.cell? (a.add i) = some vs[i]) : RowAt W (some a) vs := fun hp => by
  have h0 := hc 0 hp
  obtain ⟨b, off, spot⟩ := a
  have hs : spot = none := by simpa [Addr.add] using World.cell?_spot h0
  subst hs
  refine ⟨b, off, rfl, ?_, fun i hi => ?_⟩
  · have := World.block_lt_of_cell? W _ h0
    simpa [Addr.add] using this
  · rw [← hc i hi]
    congr 1
    unfold Addr.add
    split <;> simp_all
/-- A slice of texts. -/
theorem open_strs {ts : List TypeId} {ds : List (DataW H)} {j : Nat} {t e : TypeId} {a : Option Addr} {len cap : Nat} {d : DataW H} {ps : List MemPlace}
    (hsz : (DataW.weightsEach P ts ds).all (· ≤ reachBytes) = true) (ht : ts[j]? = some t) (hd : ds[j]? = some d) (hu : P.underlying t = some (.slice e)) (he : P.underlying e = some .string) (hc : P.cellsOf e = 1) (hB : P.bytesOf e = 16)
    (h : DataW.Trod enc P W base spare held t (.slice a len cap) d ps) :
    ∃ ss : List ByteArray, ss.length = len ∧ RowAt W a (ss.map .string) ∧ (∀ s ∈ ss, s.size ≤ 140737488351232) ∧ len * 16 ≤ 140737488351232 := by
  obtain ⟨fuel, hf⟩ := h
  rcases open_strings hu he hc hf with ⟨hcs, _⟩ | ⟨x, l, c, zs, hcs, _, hl, _, hz, hx, hcell, _⟩
  · simp [Value.cells] at hcs
    obtain ⟨rfl, rfl, rfl⟩ := hcs
    exact ⟨[], rfl, (fun hp => absurd hp (by simp)), (by simp), by simp⟩
  · simp [Value.cells] at hcs
    obtain ⟨rfl, rfl, rfl⟩ := hcs
    obtain ⟨hx, _⟩ := Prod.mk.inj hx
    subst hx
    have hl2 : len ≤ zs.length := by
      rw [hz]
      split
      · exact hl
      · exact Nat.le_refl _
    have z := sized_slice hsz ht hd hu
    rw [hB] at z
    have h1 : (strs (H := H) (zs.take len)).length + (strs (H := H) (zs.drop len)).length = zs.length := by
      simp [strs]
      omega
    rw [h1] at z
    refine ⟨zs.take len, by simp; omega, row_of_cells fun i hi => ?_, fun s hs => ?_, Nat.le_trans (Nat.mul_le_mul_right _ hl2) z⟩
    · have hi' : i < zs.length := by simp at hi; omega
      rw [hcell i hi']
      simp [List.getD_eq_getElem?_getD, List.getElem?_eq_getElem hi']
    · have hm : (DataW.lit (.string s.data.toList) : DataW H) ∈ strs (H := H) (zs.take len) := List.mem_map.2 ⟨s, hs, rfl⟩
      have hn := weights_all_mem (P := P) (e := e) hm s.data.toList.length (by simp [DataW.weights])
      have hn2 : s.data.toList.length ∈ DataW.weights P t (.slice (strs (H := H) (zs.take len)) (strs (zs.drop len))) := by
        simp only [DataW.weights, hu, List.mem_cons, List.mem_append]
        exact .inr (.inl hn)
      have := List.all_eq_true.1 hsz _ (DataW.weights_mem_each ht hd _ hn2)
      rw [Array.length_toList] at this
      exact of_decide_eq_true this
/-- A slice of whole numbers. -/
theorem open_nums {ts : List TypeId} {ds : List (DataW H)} {j : Nat} {t e : TypeId} {k : IntKind} {a : Option Addr} {len cap : Nat} {d : DataW H} {ps : List MemPlace}
    (hsz : (DataW.weightsEach P ts ds).all (· ≤ reachBytes) = true) (ht : ts[j]? = some t) (hd : ds[j]? = some d) (hu : P.underlying t = some (.slice e)) (he : P.underlying e = some (.int k)) (hc : P.cellsOf e = 1) {B : Nat} (hB : P.bytesOf e = B)
    (h : DataW.Trod enc P W base spare held t (.slice a len cap) d ps) :
    ∃ zs : List Int, zs.length = len ∧ RowAt W a (zs.map (.int k)) ∧ (∀ z ∈ zs, (Lit.int k z).wf = true) ∧ len * B ≤ 140737488351232 ∧ len ≤ cap ∧ cap ≤ maxLen := by
  obtain ⟨fuel, hf⟩ := h
  rcases open_ints hu he hc hf with ⟨hcs, _⟩ | ⟨x, l, c, zs, hcs, _, hl, hm, hz, hx, hcell, hwf⟩
  · simp [Value.cells] at hcs
    obtain ⟨rfl, rfl, rfl⟩ := hcs
    exact ⟨[], rfl, (fun hp => absurd hp (by simp)), (by simp), by simp, by simp, by simp [maxLen]⟩
  · simp [Value.cells] at hcs
    obtain ⟨rfl, rfl, rfl⟩ := hcs
    obtain ⟨hx, _⟩ := Prod.mk.inj hx
    subst hx
    have hl2 : len ≤ zs.length := by
      rw [hz]
      split
      · exact hl
      · exact Nat.le_refl _
    have z := sized_slice hsz ht hd hu
    rw [hB] at z
    have h1 : (lits (H := H) k (zs.take len)).length + (lits (H := H) k (zs.drop len)).length = zs.length := by
      simp [lits]
      omega
    rw [h1] at z
    refine ⟨zs.take len, by simp; omega, row_of_cells fun i hi => ?_, fun s hs => hwf s (List.mem_of_mem_take hs), Nat.le_trans (Nat.mul_le_mul_right _ hl2) z, hl, hm⟩
    have hi' : i < zs.length := by simp at hi; omega
    rw [hcell i hi']
    simp [List.getD_eq_getElem?_getD, List.getElem?_eq_getElem hi']
end
theorem byte_wf {z : Int} (h : (Lit.int .u8 z).wf = true) : ∃ c : UInt8, z = (c.toNat : Int) := by
  have := bounds_u8 h
  refine ⟨UInt8.ofNat z.toNat, ?_⟩
  rw [UInt8.toNat_ofNat']
  omega
theorem bytes_wf : ∀ {zs : List Int}, (∀ z ∈ zs, (Lit.int .u8 z).wf = true) → ∃ l : List UInt8, zs = l.map fun c => (c.toNat : Int)
  | [], _ => ⟨[], rfl⟩
  | z :: zs, h => by
    obtain ⟨c, hc⟩ := byte_wf (h z (by simp))
    obtain ⟨l, hl⟩ := bytes_wf (zs := zs) (fun x hx => h x (by simp [hx]))
    exact ⟨c :: l, by rw [hc, hl]; rfl⟩
end Go.Proofs.YtpibbokkdjjgeaaDoor

/-
  DERIVED: THE SHELF's CONTRACTS AT THIS DUMP, IN PLAIN WORDS (tools/lay-plain.mjs out of 'TrydShelf.lean', which tools/lay-shelf.mjs wrote): THE SAME DECLARATIONS UNDER THE SAME NAMES: 'import', 'namespace', 'open', 'def', 'theorem' AND NOTHING ELSE: no command of the shelf's: FOR A HAND-IN. Each laying: the table of numbers ('.._ren') and one theorem, a field a fact of the dump's own or the kernel's comparison; each contract: ONE APPLICATION.
-/
namespace Go.Proofs
open Go.Shelf
def Tryd.lays169_ren : Go.Shelf.Ren := ⟨fun | 169 => 30 | n => n, fun | 70 => 39 | 9 => 9 | 0 => 0 | 72 => 41 | 37 => 22 | 127 => 56 | 3 => 3 | 5 => 5 | n => n, fun | n => n⟩
theorem Tryd.lays169 : Go.Proofs.Lays.n169 Tryd.prog Tryd.lays169_ren := {
  mixed := by kernel_rfl
  f169 := Tryd.func30.trans (congrArg some (by kernel_rfl))
  t0 := Tryd.underlying0
  a0 := Tryd.isAgg0
  z0 := Tryd.sizeOf0
  v0 := Tryd.zeroValue0
  t3 := Tryd.underlying3
  a3 := Tryd.isAgg3
  z3 := Tryd.sizeOf3
  v3 := Tryd.zeroValue3
  t9 := Tryd.underlying9
  a9 := Tryd.isAgg9
  z9 := Tryd.sizeOf9
  v9 := Tryd.zeroValue9
  t37 := Tryd.underlying22
  a37 := Tryd.isAgg22
  z37 := Tryd.sizeOf22
  v37 := Tryd.zeroValue22
  t70 := Tryd.underlying39
  a70 := Tryd.isAgg39
  z70 := Tryd.sizeOf39
  v70 := Tryd.zeroValue39
  t72 := Tryd.underlying41
  a72 := Tryd.isAgg41
  z72 := Tryd.sizeOf41
  v72 := Tryd.zeroValue41
  t127 := Tryd.underlying56
  a127 := Tryd.isAgg56
  z127 := Tryd.sizeOf56
  v127 := Tryd.zeroValue56 }
theorem Tryd.Builder_Extra_169 : Builder.Extra Tryd.prog Tryd.lays169_ren := {
  sizeBuilder := by kernel_rfl
  liesBuilder := by kernel_rfl
  t5 := Tryd.underlying5
  a5 := Tryd.isAgg5
  z5 := Tryd.sizeOf5
  v5 := Tryd.zeroValue5
  infoByte := by kernel_rfl
  cellsByte := by kernel_rfl
  sizeByte := by kernel_rfl
  neB5 := by decide }
open Go.RowKit in
/-- (*strings.Builder).String: "String returns the accumulated string.": OF A BUILDER THAT HOLDS AT LEAST ONE BYTE. ✋ THE MODEL FREEZES THOSE BYTES IN THE BUFFER (unsafe.String): a later write INTO them ends the model's run without an answer; a later append BEHIND them goes on. The statement's order of evaluation is drawn: one draw. (LAID: no walk: one application.) -/
theorem Tryd.Builder_String (B b : Nat) (l : List UInt8) (w : World) (h : Lib.IsBuilder 41 5 B b (Lib.byteCells l) w) (h0 : l ≠ []) :
    Calls Tryd.prog 30 #[.pointer (some ⟨b, 0, none⟩)] w fun e w' => e = .returned (.string ⟨l.toArray⟩) ∧ Below B w w' := Any.Builder_String Tryd.lays169 Tryd.Builder_Extra_169 B b l w h h0
open Go.RowKit in
/-- (*strings.Builder).String OF A BUILDER THAT HOLDS NO BYTE: the empty string. (Its buffer is nil, or a row of which it has taken nothing yet; where that row has NO capacity the model lays one new block for unsafe.SliceData's 'some address'.) One draw. (LAID: no walk: one application.) -/
theorem Tryd.Builder_String_empty (B b : Nat) (w : World) (h : Lib.IsBuilder 41 5 B b [] w) (hBw : B ≤ w.heap.size) :
    Calls Tryd.prog 30 #[.pointer (some ⟨b, 0, none⟩)] w fun e w' => e = .returned (.string ⟨#[]⟩) ∧ Below B w w' := Any.Builder_String_empty Tryd.lays169 Tryd.Builder_Extra_169 B b w h hBw
open Go.RowKit in
/-- (*strings.Builder).String: "String returns the accumulated string.": WHATEVER THE BUILDER HOLDS. (LAID: no walk: one application.) -/
theorem Tryd.Builder_String_any (B b : Nat) (l : List UInt8) (w : World) (h : Lib.IsBuilder 41 5 B b (Lib.byteCells l) w) (hBw : B ≤ w.heap.size) :
    Calls Tryd.prog 30 #[.pointer (some ⟨b, 0, none⟩)] w fun e w' => e = .returned (.string ⟨l.toArray⟩) ∧ Below B w w' := Any.Builder_String_any Tryd.lays169 Tryd.Builder_Extra_169 B b l w h hBw
def Tryd.lays241_ren : Go.Shelf.Ren := ⟨fun | 241 => 63 | 277 => 69 | n => n, fun | 70 => 39 | 3 => 3 | 0 => 0 | 72 => 41 | 37 => 22 | 5 => 5 | n => n, fun | n => n⟩
theorem Tryd.lays241 : Go.Proofs.Lays.n241 Tryd.prog Tryd.lays241_ren := {
  mixed := by kernel_rfl
  f241 := Tryd.func63.trans (congrArg some (by kernel_rfl))
  f277 := Tryd.func69.trans (congrArg some (by kernel_rfl))
  t0 := Tryd.underlying0
  a0 := Tryd.isAgg0
  z0 := Tryd.sizeOf0
  v0 := Tryd.zeroValue0
  t3 := Tryd.underlying3
  a3 := Tryd.isAgg3
  z3 := Tryd.sizeOf3
  v3 := Tryd.zeroValue3
  t37 := Tryd.underlying22
  a37 := Tryd.isAgg22
  z37 := Tryd.sizeOf22
  v37 := Tryd.zeroValue22
  t70 := Tryd.underlying39
  a70 := Tryd.isAgg39
  z70 := Tryd.sizeOf39
  v70 := Tryd.zeroValue39
  t72 := Tryd.underlying41
  a72 := Tryd.isAgg41
  z72 := Tryd.sizeOf41
  v72 := Tryd.zeroValue41 }
theorem Tryd.Builder_Extra_241 : Builder.Extra Tryd.prog Tryd.lays241_ren := {
  sizeBuilder := by kernel_rfl
  liesBuilder := by kernel_rfl
  t5 := Tryd.underlying5
  a5 := Tryd.isAgg5
  z5 := Tryd.sizeOf5
  v5 := Tryd.zeroValue5
  infoByte := by kernel_rfl
  cellsByte := by kernel_rfl
  sizeByte := by kernel_rfl
  neB5 := by decide }
open Go.RowKit in
/-- (*strings.Builder).grow (no doc but "grow copies the buffer to a new, larger buffer so that there are at least n bytes of capacity beyond len(b.buf)."): AT A BUILDER WITHOUT A BUFFER: a new row of whatever bytes for its buffer, none of them its own yet. Three draws. (LAID: no walk: one application.) -/
theorem Tryd.Builder_grow_fresh (B b n : Nat) (w : World) (hB : B ≤ b) (hbk : w.heap[b]? = some (.cells #[.pointer (some ⟨b, 0, none⟩), .slice none 0 0] 41 (0, 0))) (hBw : B ≤ w.heap.size) (hn : n ≤ 281474976710656) :
    Calls Tryd.prog 63 #[.pointer (some ⟨b, 0, none⟩), .int .i64 n] w fun e w' => e = .returned (.tuple #[]) ∧ (Lib.BuilderAt 41 5 B b (.pointer (some ⟨b, 0, none⟩)) [] w' ∧ Below B w w') := Any.Builder_grow_fresh Tryd.lays241 Tryd.Builder_Extra_241 B b n w hB hbk hBw hn
def Tryd.lays165_ren : Go.Shelf.Ren := ⟨fun | 165 => 56 | 240 => 40 | 241 => 63 | 276 => 50 | 277 => 69 | n => n, fun | 70 => 39 | 3 => 3 | 0 => 0 | 4 => 4 | 9 => 9 | 20 => 20 | 72 => 41 | 37 => 22 | 164 => 63 | 5 => 5 | n => n, fun | n => n⟩
theorem Tryd.lays165 : Go.Proofs.Lays.n165 Tryd.prog Tryd.lays165_ren := {
  mixed := by kernel_rfl
  f165 := Tryd.func56.trans (congrArg some (by kernel_rfl))
  f240 := Tryd.func40.trans (congrArg some (by kernel_rfl))
  f241 := Tryd.func63.trans (congrArg some (by kernel_rfl))
  f276 := Tryd.func50.trans (congrArg some (by kernel_rfl))
  f277 := Tryd.func69.trans (congrArg some (by kernel_rfl))
  t0 := Tryd.underlying0
  a0 := Tryd.isAgg0
  z0 := Tryd.sizeOf0
  v0 := Tryd.zeroValue0
  t3 := Tryd.underlying3
  a3 := Tryd.isAgg3
  z3 := Tryd.sizeOf3
  v3 := Tryd.zeroValue3
  t4 := Tryd.underlying4
  a4 := Tryd.isAgg4
  z4 := Tryd.sizeOf4
  v4 := Tryd.zeroValue4
  t9 := Tryd.underlying9
  a9 := Tryd.isAgg9
  z9 := Tryd.sizeOf9
  v9 := Tryd.zeroValue9
  t20 := Tryd.underlying20
  a20 := Tryd.isAgg20
  z20 := Tryd.sizeOf20
  v20 := Tryd.zeroValue20
  t37 := Tryd.underlying22
  a37 := Tryd.isAgg22
  z37 := Tryd.sizeOf22
  v37 := Tryd.zeroValue22
  t70 := Tryd.underlying39
  a70 := Tryd.isAgg39
  z70 := Tryd.sizeOf39
  v70 := Tryd.zeroValue39
  t72 := Tryd.underlying41
  a72 := Tryd.isAgg41
  z72 := Tryd.sizeOf41
  v72 := Tryd.zeroValue41
  t164 := Tryd.underlying63
  a164 := Tryd.isAgg63
  z164 := Tryd.sizeOf63
  v164 := Tryd.zeroValue63 }
theorem Tryd.Builder_Extra_165 : Builder.Extra Tryd.prog Tryd.lays165_ren := {
  sizeBuilder := by kernel_rfl
  liesBuilder := by kernel_rfl
  t5 := Tryd.underlying5
  a5 := Tryd.isAgg5
  z5 := Tryd.sizeOf5
  v5 := Tryd.zeroValue5
  infoByte := by kernel_rfl
  cellsByte := by kernel_rfl
  sizeByte := by kernel_rfl
  neB5 := by decide }
open Go.RowKit in
/-- (*strings.Builder).Grow AT A BUILDER THAT HAS NOT BEEN WRITTEN ('var b strings.Builder; b.Grow(n)'): "Grow grows b's capacity, if necessary, to guarantee space for another n bytes.": it holds no byte behind it as before it. (LAID: no walk: one application.) -/
theorem Tryd.Builder_Grow_fresh (B b n : Nat) (w : World) (hB : B ≤ b) (hbk : w.heap[b]? = some (.cells #[.pointer none, .slice none 0 0] 41 (0, 0))) (hBw : B ≤ w.heap.size) (hn : n ≤ 281474976710656) :
    Calls Tryd.prog 56 #[.pointer (some ⟨b, 0, none⟩), .int .i64 n] w fun e w' => e = .returned (.tuple #[]) ∧ (Lib.BuilderAt 41 5 B b (.pointer (some ⟨b, 0, none⟩)) [] w' ∧ Below B w w') := Any.Builder_Grow_fresh Tryd.lays165 Tryd.Builder_Extra_165 B b n w hB hbk hBw hn
def Tryd.lays159_ren : Go.Shelf.Ren := ⟨fun | 159 => 51 | 165 => 56 | 166 => 29 | 167 => 27 | 169 => 30 | 230 => 57 | 204 => 58 | 240 => 40 | 241 => 63 | 197 => 64 | 118 => 65 | 168 => 33 | 270 => 66 | 262 => 67 | 276 => 50 | 277 => 69 | 260 => 70 | 242 => 44 | 313 => 71 | 278 => 53 | 274 => 73 | 275 => 74 | n => n, fun | 9 => 9 | 4 => 4 | 3 => 3 | 5 => 5 | 72 => 41 | 0 => 0 | 76 => 46 | 75 => 43 | 107 => 69 | 70 => 39 | 20 => 20 | 37 => 22 | 127 => 56 | 21 => 21 | 105 => 52 | 164 => 63 | 162 => 78 | 203 => 57 | 119 => 79 | 46 => 48 | 139 => 82 | 138 => 81 | 51 => 66 | 160 => 83 | 208 => 89 | 206 => 87 | 80 => 49 | n => n, fun | 13 => 1 | 3 => 2 | 4 => 3 | n => n⟩
theorem Tryd.lays159 : Go.Proofs.Lays.n159 Tryd.prog Tryd.lays159_ren := {
  mixed := by kernel_rfl
  f118 := Tryd.func65.trans (congrArg some (by kernel_rfl))
  f159 := Tryd.func51.trans (congrArg some (by kernel_rfl))
  f165 := Tryd.func56.trans (congrArg some (by kernel_rfl))
  f166 := Tryd.func29.trans (congrArg some (by kernel_rfl))
  f167 := Tryd.func27.trans (congrArg some (by kernel_rfl))
  f168 := Tryd.func33.trans (congrArg some (by kernel_rfl))
  f169 := Tryd.func30.trans (congrArg some (by kernel_rfl))
  f197 := Tryd.func64.trans (congrArg some (by kernel_rfl))
  f204 := Tryd.func58.trans (congrArg some (by kernel_rfl))
  f230 := Tryd.func57.trans (congrArg some (by kernel_rfl))
  f240 := Tryd.func40.trans (congrArg some (by kernel_rfl))
  f241 := Tryd.func63.trans (congrArg some (by kernel_rfl))
  f242 := Tryd.func44.trans (congrArg some (by kernel_rfl))
  f260 := Tryd.func70.trans (congrArg some (by kernel_rfl))
  f262 := Tryd.func67.trans (congrArg some (by kernel_rfl))
  f270 := Tryd.func66.trans (congrArg some (by kernel_rfl))
  f274 := Tryd.func73.trans (congrArg some (by kernel_rfl))
  f275 := Tryd.func74.trans (congrArg some (by kernel_rfl))
  f276 := Tryd.func50.trans (congrArg some (by kernel_rfl))
  f277 := Tryd.func69.trans (congrArg some (by kernel_rfl))
  f278 := Tryd.func53.trans (congrArg some (by kernel_rfl))
  f313 := Tryd.func71.trans (congrArg some (by kernel_rfl))
  t0 := Tryd.underlying0
  a0 := Tryd.isAgg0
  z0 := Tryd.sizeOf0
  v0 := Tryd.zeroValue0
  t3 := Tryd.underlying3
  a3 := Tryd.isAgg3
  z3 := Tryd.sizeOf3
  v3 := Tryd.zeroValue3
  t4 := Tryd.underlying4
  a4 := Tryd.isAgg4
  z4 := Tryd.sizeOf4
  v4 := Tryd.zeroValue4
  t5 := Tryd.underlying5
  a5 := Tryd.isAgg5
  z5 := Tryd.sizeOf5
  v5 := Tryd.zeroValue5
  t9 := Tryd.underlying9
  a9 := Tryd.isAgg9
  z9 := Tryd.sizeOf9
  v9 := Tryd.zeroValue9
  t20 := Tryd.underlying20
  a20 := Tryd.isAgg20
  z20 := Tryd.sizeOf20
  v20 := Tryd.zeroValue20
  t21 := Tryd.underlying21
  a21 := Tryd.isAgg21
  z21 := Tryd.sizeOf21
  v21 := Tryd.zeroValue21
  t37 := Tryd.underlying22
  a37 := Tryd.isAgg22
  z37 := Tryd.sizeOf22
  v37 := Tryd.zeroValue22
  t46 := Tryd.underlying48
  a46 := Tryd.isAgg48
  z46 := Tryd.sizeOf48
  v46 := Tryd.zeroValue48
  t51 := Tryd.underlying66
  a51 := Tryd.isAgg66
  z51 := Tryd.sizeOf66
  v51 := Tryd.zeroValue66
  t70 := Tryd.underlying39
  a70 := Tryd.isAgg39
  z70 := Tryd.sizeOf39
  v70 := Tryd.zeroValue39
  t72 := Tryd.underlying41
  a72 := Tryd.isAgg41
  z72 := Tryd.sizeOf41
  v72 := Tryd.zeroValue41
  t75 := Tryd.underlying43
  a75 := Tryd.isAgg43
  z75 := Tryd.sizeOf43
  v75 := Tryd.zeroValue43
  t76 := Tryd.underlying46
  a76 := Tryd.isAgg46
  z76 := Tryd.sizeOf46
  v76 := Tryd.zeroValue46
  t105 := Tryd.underlying52
  a105 := Tryd.isAgg52
  z105 := Tryd.sizeOf52
  v105 := Tryd.zeroValue52
  t107 := Tryd.underlying69
  a107 := Tryd.isAgg69
  z107 := Tryd.sizeOf69
  v107 := Tryd.zeroValue69
  t119 := Tryd.underlying79
  a119 := Tryd.isAgg79
  z119 := Tryd.sizeOf79
  t127 := Tryd.underlying56
  a127 := Tryd.isAgg56
  z127 := Tryd.sizeOf56
  v127 := Tryd.zeroValue56
  t138 := Tryd.underlying81
  a138 := Tryd.isAgg81
  z138 := Tryd.sizeOf81
  v138 := Tryd.zeroValue81
  t139 := Tryd.underlying82
  a139 := Tryd.isAgg82
  z139 := Tryd.sizeOf82
  v139 := Tryd.zeroValue82
  t160 := Tryd.underlying83
  a160 := Tryd.isAgg83
  z160 := Tryd.sizeOf83
  v160 := Tryd.zeroValue83
  t162 := Tryd.underlying78
  a162 := Tryd.isAgg78
  z162 := Tryd.sizeOf78
  v162 := Tryd.zeroValue78
  t164 := Tryd.underlying63
  a164 := Tryd.isAgg63
  z164 := Tryd.sizeOf63
  v164 := Tryd.zeroValue63
  t203 := Tryd.underlying57
  a203 := Tryd.isAgg57
  z203 := Tryd.sizeOf57
  v203 := Tryd.zeroValue57
  t206 := Tryd.underlying87
  a206 := Tryd.isAgg87
  z206 := Tryd.sizeOf87
  v206 := Tryd.zeroValue87
  t208 := Tryd.underlying89
  a208 := Tryd.isAgg89
  z208 := Tryd.sizeOf89
  v208 := Tryd.zeroValue89
  g3 := by kernel_rfl
  g4 := by kernel_rfl
  g13 := by kernel_rfl }
theorem Tryd.Builder_Extra_159 : Builder.Extra Tryd.prog Tryd.lays159_ren := {
  sizeBuilder := by kernel_rfl
  liesBuilder := by kernel_rfl
  t5 := Tryd.underlying5
  a5 := Tryd.isAgg5
  z5 := Tryd.sizeOf5
  v5 := Tryd.zeroValue5
  infoByte := by kernel_rfl
  cellsByte := by kernel_rfl
  sizeByte := by kernel_rfl
  neB5 := by decide }
open Go.RowKit in
/-- strings.ToLower: "ToLower returns s with all Unicode letters mapped to their lower case.": ON ASCII TEXT OF AT MOST 2^47 BYTES. Below the heap's end the world is as it was: where a letter turns, the call makes a builder and its buffer. (LAID: no walk: one application.) -/
theorem Tryd.strings_ToLower_ascii (s : ByteArray) (w : World) (hs : s.size ≤ 140737488355328) (hascii : ∀ (j : Nat) (b : UInt8), s.data.toList[j]? = some b → b.toNat < 128) :
    Calls Tryd.prog 51 #[.string s] w fun e w' => e = .returned (.string ⟨(Lib.toLowerA s.data.toList).toArray⟩) ∧ Below w.heap.size w w' := Any.strings_ToLower_ascii Tryd.lays159 Tryd.Builder_Extra_159 s w hs hascii
def Tryd.lays118_ren : Go.Shelf.Ren := ⟨fun | 118 => 65 | n => n, fun | 21 => 21 | 3 => 3 | 4 => 4 | n => n, fun | n => n⟩
theorem Tryd.lays118 : Go.Proofs.Lays.n118 Tryd.prog Tryd.lays118_ren := {
  mixed := by kernel_rfl
  f118 := Tryd.func65.trans (congrArg some (by kernel_rfl))
  t3 := Tryd.underlying3
  a3 := Tryd.isAgg3
  z3 := Tryd.sizeOf3
  v3 := Tryd.zeroValue3
  t4 := Tryd.underlying4
  a4 := Tryd.isAgg4
  z4 := Tryd.sizeOf4
  v4 := Tryd.zeroValue4
  t21 := Tryd.underlying21
  a21 := Tryd.isAgg21
  z21 := Tryd.sizeOf21
  v21 := Tryd.zeroValue21 }
/-- utf8.RuneLen: "RuneLen returns the number of bytes in the UTF-8 encoding of the rune. It returns -1 if the rune is not a valid value to encode in UTF-8.": IT RETURNS 'Lib.runeLen r'; the world is as it was. (LAID: no walk: one application.) -/
theorem Tryd.utf8_RuneLen (r : Int) (w : World) :
    Calls Tryd.prog 65 #[.int .i32 r] w fun e w' => e = .returned (.int .i64 (Lib.runeLen r)) ∧ w' = w := Any.utf8_RuneLen Tryd.lays118 r w
def Tryd.lays119_ren : Go.Shelf.Ren := ⟨fun | 119 => 60 | n => n, fun | 21 => 21 | 4 => 4 | n => n, fun | n => n⟩
theorem Tryd.lays119 : Go.Proofs.Lays.n119 Tryd.prog Tryd.lays119_ren := {
  mixed := by kernel_rfl
  f119 := Tryd.func60.trans (congrArg some (by kernel_rfl))
  t4 := Tryd.underlying4
  a4 := Tryd.isAgg4
  z4 := Tryd.sizeOf4
  v4 := Tryd.zeroValue4
  t21 := Tryd.underlying21
  a21 := Tryd.isAgg21
  z21 := Tryd.sizeOf21
  v21 := Tryd.zeroValue21 }
/-- utf8.ValidRune: "ValidRune reports whether r can be legally encoded as UTF-8. Code points that are out of range or a surrogate half are illegal.": IT RETURNS 'Lib.validRune r'; the world is as it was. (LAID: no walk: one application.) -/
theorem Tryd.utf8_ValidRune (r : Int) (w : World) :
    Calls Tryd.prog 60 #[.int .i32 r] w fun e w' => e = .returned (.bool (Lib.validRune r)) ∧ w' = w := Any.utf8_ValidRune Tryd.lays119 r w
def Tryd.lays213_ren : Go.Shelf.Ren := ⟨fun | 213 => 46 | 265 => 54 | n => n, fun | 9 => 9 | 3 => 3 | n => n, fun | n => n⟩
theorem Tryd.lays213 : Go.Proofs.Lays.n213 Tryd.prog Tryd.lays213_ren := {
  mixed := by kernel_rfl
  f213 := Tryd.func46.trans (congrArg some (by kernel_rfl))
  f265 := Tryd.func54.trans (congrArg some (by kernel_rfl))
  t3 := Tryd.underlying3
  a3 := Tryd.isAgg3
  z3 := Tryd.sizeOf3
  v3 := Tryd.zeroValue3
  t9 := Tryd.underlying9
  a9 := Tryd.isAgg9
  z9 := Tryd.sizeOf9
  v9 := Tryd.zeroValue9 }
open Go.RowKit in
/-- internal/bytealg.CompareString (what strings.Compare calls): IT RETURNS 'Lib.compareBytes a b'; the world is as it was. (LAID: no walk: one application.) -/
theorem Tryd.bytealg_CompareString (a b : ByteArray) (w : World) :
    Calls Tryd.prog 46 #[.string a, .string b] w fun e w' => e = .returned (.int .i64 (Lib.compareBytes a.data.toList b.data.toList)) ∧ w' = w := Any.bytealg_CompareString Tryd.lays213 a b w
def Tryd.lays106_ren : Go.Shelf.Ren := ⟨fun | 106 => 35 | 213 => 46 | 265 => 54 | n => n, fun | 9 => 9 | 3 => 3 | n => n, fun | n => n⟩
theorem Tryd.lays106 : Go.Proofs.Lays.n106 Tryd.prog Tryd.lays106_ren := {
  mixed := by kernel_rfl
  f106 := Tryd.func35.trans (congrArg some (by kernel_rfl))
  f213 := Tryd.func46.trans (congrArg some (by kernel_rfl))
  f265 := Tryd.func54.trans (congrArg some (by kernel_rfl))
  t3 := Tryd.underlying3
  a3 := Tryd.isAgg3
  z3 := Tryd.sizeOf3
  v3 := Tryd.zeroValue3
  t9 := Tryd.underlying9
  a9 := Tryd.isAgg9
  z9 := Tryd.sizeOf9
  v9 := Tryd.zeroValue9 }
open Go.RowKit in
/-- strings.Compare: "Compare returns an integer comparing two strings lexicographically. The result will be 0 if a == b, -1 if a < b, and +1 if a > b.": IT RETURNS 'Lib.compareBytes a b'; the world is as it was. (LAID: no walk: one application.) -/
theorem Tryd.strings_Compare (a b : ByteArray) (w : World) :
    Calls Tryd.prog 35 #[.string a, .string b] w fun e w' => e = .returned (.int .i64 (Lib.compareBytes a.data.toList b.data.toList)) ∧ w' = w := Any.strings_Compare Tryd.lays106 a b w
def Tryd.lays137_ren : Go.Shelf.Ren := ⟨fun | 137 => 59 | 217 => 68 | 266 => 72 | n => n, fun | 9 => 9 | 5 => 5 | 3 => 3 | n => n, fun | n => n⟩
theorem Tryd.lays137 : Go.Proofs.Lays.n137 Tryd.prog Tryd.lays137_ren := {
  mixed := by kernel_rfl
  f137 := Tryd.func59.trans (congrArg some (by kernel_rfl))
  f217 := Tryd.func68.trans (congrArg some (by kernel_rfl))
  f266 := Tryd.func72.trans (congrArg some (by kernel_rfl))
  t3 := Tryd.underlying3
  a3 := Tryd.isAgg3
  z3 := Tryd.sizeOf3
  v3 := Tryd.zeroValue3
  t5 := Tryd.underlying5
  a5 := Tryd.isAgg5
  z5 := Tryd.sizeOf5
  v5 := Tryd.zeroValue5
  t9 := Tryd.underlying9
  a9 := Tryd.isAgg9
  z9 := Tryd.sizeOf9
  v9 := Tryd.zeroValue9 }
open Go.RowKit in
/-- strings.IndexByte: "IndexByte returns the index of the first instance of c in s, or -1 if c is not present in s.": IT RETURNS 'Lib.indexByte s c'; the world is as it was. (LAID: no walk: one application.) -/
theorem Tryd.strings_IndexByte (s : ByteArray) (c : Int) (w : World) :
    Calls Tryd.prog 59 #[.string s, .int .u8 c] w fun e w' => e = .returned (.int .i64 (Lib.indexByte s.data.toList c.toNat.toUInt8)) ∧ w' = w := Any.strings_IndexByte Tryd.lays137 s c w
def Tryd.lays210_ren : Go.Shelf.Ren := ⟨fun | 210 => 41 | 206 => 45 | n => n, fun | 9 => 9 | 4 => 4 | 3 => 3 | n => n, fun | n => n⟩
theorem Tryd.lays210 : Go.Proofs.Lays.n210 Tryd.prog Tryd.lays210_ren := {
  mixed := by kernel_rfl
  f206 := Tryd.func45.trans (congrArg some (by kernel_rfl))
  f210 := Tryd.func41.trans (congrArg some (by kernel_rfl))
  t3 := Tryd.underlying3
  a3 := Tryd.isAgg3
  z3 := Tryd.sizeOf3
  v3 := Tryd.zeroValue3
  t4 := Tryd.underlying4
  a4 := Tryd.isAgg4
  z4 := Tryd.sizeOf4
  v4 := Tryd.zeroValue4
  t9 := Tryd.underlying9
  a9 := Tryd.isAgg9
  z9 := Tryd.sizeOf9
  v9 := Tryd.zeroValue9 }
open Go.RowKit in
/-- internal/stringslite.CutPrefix (what strings.CutPrefix calls). (LAID: no walk: one application.) -/
theorem Tryd.stringslite_CutPrefix (s p : ByteArray) (w : World) :
    Calls Tryd.prog 41 #[.string s, .string p] w fun e w' => e = .returned (.tuple #[.string ⟨(Lib.trimPrefix s.data.toList p.data.toList).toArray⟩, .bool (Lib.hasPrefix s.data.toList p.data.toList)]) ∧ w' = w := Any.stringslite_CutPrefix Tryd.lays210 s p w
def Tryd.lays103_ren : Go.Shelf.Ren := ⟨fun | 103 => 31 | 210 => 41 | 206 => 45 | n => n, fun | 9 => 9 | 4 => 4 | 24 => 50 | 3 => 3 | n => n, fun | n => n⟩
theorem Tryd.lays103 : Go.Proofs.Lays.n103 Tryd.prog Tryd.lays103_ren := {
  mixed := by kernel_rfl
  f103 := Tryd.func31.trans (congrArg some (by kernel_rfl))
  f206 := Tryd.func45.trans (congrArg some (by kernel_rfl))
  f210 := Tryd.func41.trans (congrArg some (by kernel_rfl))
  t3 := Tryd.underlying3
  a3 := Tryd.isAgg3
  z3 := Tryd.sizeOf3
  v3 := Tryd.zeroValue3
  t4 := Tryd.underlying4
  a4 := Tryd.isAgg4
  z4 := Tryd.sizeOf4
  v4 := Tryd.zeroValue4
  t9 := Tryd.underlying9
  a9 := Tryd.isAgg9
  z9 := Tryd.sizeOf9
  v9 := Tryd.zeroValue9
  t24 := Tryd.underlying50
  a24 := Tryd.isAgg50
  z24 := Tryd.sizeOf50
  v24 := Tryd.zeroValue50 }
open Go.RowKit in
/-- strings.CutPrefix: "CutPrefix returns s without the provided leading prefix string and reports whether it found the prefix. If s doesn't start with prefix, CutPrefix returns s, false. If prefix is the empty string, CutPrefix returns s, true.": IT RETURNS '(Lib.trimPrefix s p, Lib.hasPrefix s p)'; the world is as it was. (LAID: no walk: one application.) -/
theorem Tryd.strings_CutPrefix (s p : ByteArray) (w : World) :
    Calls Tryd.prog 31 #[.string s, .string p] w fun e w' => e = .returned (.tuple #[.string ⟨(Lib.trimPrefix s.data.toList p.data.toList).toArray⟩, .bool (Lib.hasPrefix s.data.toList p.data.toList)]) ∧ w' = w := Any.strings_CutPrefix Tryd.lays103 s p w
open Go.RowKit in
/-- (*strings.Builder).String: "String returns the accumulated string.": OF A BUILDER THAT HOLDS AT LEAST ONE BYTE. ✋ THE MODEL FREEZES THOSE BYTES IN THE BUFFER (unsafe.String): a later write INTO them ends the model's run without an answer; a later append BEHIND them goes on. The statement's order of evaluation is drawn: one draw. THE FORM '_f': IT SAYS BESIDES THAT THE BUILDER IS A BUILDER STILL ('Lib.IsBuilderF', the same bytes): SO IT CAN BE WRITTEN ON: 'b.WriteString(b.String()[:k])'. (LAID: no walk: one application.) -/
theorem Tryd.Builder_String_f (B b : Nat) (l : List UInt8) (w : World) (h : Lib.IsBuilderF 41 5 B b (Lib.byteCells l) w) (h0 : l ≠ []) :
    Calls Tryd.prog 30 #[.pointer (some ⟨b, 0, none⟩)] w fun e w' => e = .returned (.string ⟨l.toArray⟩) ∧ (Lib.IsBuilderF 41 5 B b (Lib.byteCells l) w' ∧ Below B w w') := Any.Builder_String_f Tryd.lays169 Tryd.Builder_Extra_169 B b l w h h0
open Go.RowKit in
/-- (*strings.Builder).String OF A BUILDER THAT HOLDS NO BYTE: the empty string; THE FORM '_f': a builder still. (LAID: no walk: one application.) -/
theorem Tryd.Builder_String_empty_f (B b : Nat) (w : World) (h : Lib.IsBuilderF 41 5 B b [] w) (hBw : B ≤ w.heap.size) :
    Calls Tryd.prog 30 #[.pointer (some ⟨b, 0, none⟩)] w fun e w' => e = .returned (.string ⟨#[]⟩) ∧ (Lib.IsBuilderF 41 5 B b [] w' ∧ Below B w w') := Any.Builder_String_empty_f Tryd.lays169 Tryd.Builder_Extra_169 B b w h hBw
open Go.RowKit in
/-- (*strings.Builder).String: "String returns the accumulated string.": WHATEVER THE BUILDER HOLDS; THE FORM '_f': OF A BUILDER THAT MAY HAVE BEEN READ BEFORE; AND IT IS A BUILDER STILL, holding the same bytes: it can be written on. (LAID: no walk: one application.) -/
theorem Tryd.Builder_String_any_f (B b : Nat) (l : List UInt8) (w : World) (h : Lib.IsBuilderF 41 5 B b (Lib.byteCells l) w) (hBw : B ≤ w.heap.size) :
    Calls Tryd.prog 30 #[.pointer (some ⟨b, 0, none⟩)] w fun e w' => e = .returned (.string ⟨l.toArray⟩) ∧ (Lib.IsBuilderF 41 5 B b (Lib.byteCells l) w' ∧ Below B w w') := Any.Builder_String_any_f Tryd.lays169 Tryd.Builder_Extra_169 B b l w h hBw
open Go.RowKit in
/-- (*strings.Builder).String: "String returns the accumulated string.": OF A BUILDER THAT HOLDS AT LEAST ONE BYTE. ✋ THE MODEL FREEZES THOSE BYTES IN THE BUFFER (unsafe.String): a later write INTO them ends the model's run without an answer; a later append BEHIND them goes on. The statement's order of evaluation is drawn: one draw. THE FORM '_k': OVER 'Lib.IsBuilderF' (a builder that 'String()' may have read), AND WITH THE FRAME THAT REACHES ABOVE THE BUILDER: 'Lib.OthersKept': every block that is not b and is no row of uint8's stands as it stood: the iterator of a range among them. (LAID: no walk: one application.) -/
theorem Tryd.Builder_String_k (B b : Nat) (l : List UInt8) (w : World) (h : Lib.IsBuilderF 41 5 B b (Lib.byteCells l) w) (h0 : l ≠ []) :
    Calls Tryd.prog 30 #[.pointer (some ⟨b, 0, none⟩)] w fun e w' => e = .returned (.string ⟨l.toArray⟩) ∧ (Lib.IsBuilderF 41 5 B b (Lib.byteCells l) w' ∧ Below B w w' ∧ Lib.OthersKept 5 (some b) w w') := Any.Builder_String_k Tryd.lays169 Tryd.Builder_Extra_169 B b l w h h0
open Go.RowKit in
/-- (*strings.Builder).String OF A BUILDER THAT HOLDS NO BYTE: the empty string; THE FORM '_k': OVER 'Lib.IsBuilderF' (a builder that 'String()' may have read), AND WITH THE FRAME THAT REACHES ABOVE THE BUILDER: 'Lib.OthersKept': every block that is not b and is no row of uint8's stands as it stood: the iterator of a range among them. (LAID: no walk: one application.) -/
theorem Tryd.Builder_String_empty_k (B b : Nat) (w : World) (h : Lib.IsBuilderF 41 5 B b [] w) (hBw : B ≤ w.heap.size) :
    Calls Tryd.prog 30 #[.pointer (some ⟨b, 0, none⟩)] w fun e w' => e = .returned (.string ⟨#[]⟩) ∧ (Lib.IsBuilderF 41 5 B b [] w' ∧ Below B w w' ∧ Lib.OthersKept 5 (some b) w w') := Any.Builder_String_empty_k Tryd.lays169 Tryd.Builder_Extra_169 B b w h hBw
open Go.RowKit in
/-- (*strings.Builder).String: "String returns the accumulated string.": WHATEVER THE BUILDER HOLDS; THE FORM '_k': OVER 'Lib.IsBuilderF' (a builder that 'String()' may have read), AND WITH THE FRAME THAT REACHES ABOVE THE BUILDER: 'Lib.OthersKept': every block that is not b and is no row of uint8's stands as it stood: the iterator of a range among them. (LAID: no walk: one application.) -/
theorem Tryd.Builder_String_any_k (B b : Nat) (l : List UInt8) (w : World) (h : Lib.IsBuilderF 41 5 B b (Lib.byteCells l) w) (hBw : B ≤ w.heap.size) :
    Calls Tryd.prog 30 #[.pointer (some ⟨b, 0, none⟩)] w fun e w' => e = .returned (.string ⟨l.toArray⟩) ∧ (Lib.IsBuilderF 41 5 B b (Lib.byteCells l) w' ∧ Below B w w' ∧ Lib.OthersKept 5 (some b) w w') := Any.Builder_String_any_k Tryd.lays169 Tryd.Builder_Extra_169 B b l w h hBw
def Tryd.lays278_ren : Go.Shelf.Ren := ⟨fun | 278 => 53 | n => n, fun | 37 => 22 | 21 => 21 | 51 => 66 | 4 => 4 | 46 => 48 | 5 => 5 | n => n, fun | n => n⟩
theorem Tryd.lays278 : Go.Proofs.Lays.n278 Tryd.prog Tryd.lays278_ren := {
  mixed := by kernel_rfl
  f278 := Tryd.func53.trans (congrArg some (by kernel_rfl))
  t4 := Tryd.underlying4
  a4 := Tryd.isAgg4
  z4 := Tryd.sizeOf4
  v4 := Tryd.zeroValue4
  t5 := Tryd.underlying5
  a5 := Tryd.isAgg5
  z5 := Tryd.sizeOf5
  v5 := Tryd.zeroValue5
  t21 := Tryd.underlying21
  a21 := Tryd.isAgg21
  z21 := Tryd.sizeOf21
  v21 := Tryd.zeroValue21
  t37 := Tryd.underlying22
  a37 := Tryd.isAgg22
  z37 := Tryd.sizeOf22
  v37 := Tryd.zeroValue22
  t46 := Tryd.underlying48
  a46 := Tryd.isAgg48
  z46 := Tryd.sizeOf48
  v46 := Tryd.zeroValue48
  t51 := Tryd.underlying66
  a51 := Tryd.isAgg66
  z51 := Tryd.sizeOf66
  v51 := Tryd.zeroValue66 }
open Go.RowKit in
/-- unicode/utf8.appendRuneNonASCII (what AppendRune calls for all but ASCII), ONTO A ROW OF BYTES THAT THE CALL OWNS: every int32 that is no ASCII rune: 'Lib.runeCells r' goes in behind what the row holds. (LAID: no walk: one application.) -/
theorem Tryd.utf8_appendRuneNonASCII_row (B : Nat) (v : Value) (n : Nat) (xs : List Value) (r : Int) (hr0 : -2147483648 ≤ r) (hr1 : r ≤ 2147483647) (hna : r < 0 ∨ 128 ≤ r) (w : World) (hown : w.ownsRowF B 5 1 v n xs) (hlen : n + 4 ≤ 140737488355328) (hBw : B ≤ w.heap.size) :
    Calls Tryd.prog 53 #[v, .int .i32 r] w fun e w' => ∃ v', e = .returned v' ∧ w'.ownsRowF B 5 1 v' (n + (Lib.runeCells r).length) (xs ++ Lib.runeCells r) ∧ ∃ o, (w.alloc o).grownBy w' v.ownBlock := Any.utf8_appendRuneNonASCII_row Tryd.lays278 (by kernel_rfl) B v n xs r hr0 hr1 hna w hown hlen hBw
def Tryd.lays242_ren : Go.Shelf.Ren := ⟨fun | 242 => 44 | 278 => 53 | n => n, fun | 37 => 22 | 21 => 21 | 51 => 66 | 4 => 4 | 5 => 5 | 46 => 48 | n => n, fun | n => n⟩
theorem Tryd.lays242 : Go.Proofs.Lays.n242 Tryd.prog Tryd.lays242_ren := {
  mixed := by kernel_rfl
  f242 := Tryd.func44.trans (congrArg some (by kernel_rfl))
  f278 := Tryd.func53.trans (congrArg some (by kernel_rfl))
  t4 := Tryd.underlying4
  a4 := Tryd.isAgg4
  z4 := Tryd.sizeOf4
  v4 := Tryd.zeroValue4
  t5 := Tryd.underlying5
  a5 := Tryd.isAgg5
  z5 := Tryd.sizeOf5
  v5 := Tryd.zeroValue5
  t21 := Tryd.underlying21
  a21 := Tryd.isAgg21
  z21 := Tryd.sizeOf21
  v21 := Tryd.zeroValue21
  t37 := Tryd.underlying22
  a37 := Tryd.isAgg22
  z37 := Tryd.sizeOf22
  v37 := Tryd.zeroValue22
  t46 := Tryd.underlying48
  a46 := Tryd.isAgg48
  z46 := Tryd.sizeOf48
  v46 := Tryd.zeroValue48
  t51 := Tryd.underlying66
  a51 := Tryd.isAgg66
  z51 := Tryd.sizeOf66
  v51 := Tryd.zeroValue66 }
open Go.RowKit in
/-- unicode/utf8.AppendRune: "AppendRune appends the UTF-8 encoding of r to the end of p and returns the extended buffer. If the rune is out of range, it appends the encoding of RuneError.": ONTO A ROW OF BYTES THAT THE CALL OWNS (its head frozen or not): EVERY int32: 'Lib.runeCells r' goes in behind what the row holds; the world: one new block (the bytes as the call's variadic argument), then what 'append' does to the row. (LAID: no walk: one application.) -/
theorem Tryd.utf8_AppendRune_row (B : Nat) (v : Value) (n : Nat) (xs : List Value) (r : Int) (hr0 : -2147483648 ≤ r) (hr1 : r ≤ 2147483647) (w : World) (hown : w.ownsRowF B 5 1 v n xs) (hlen : n + 4 ≤ 140737488355328) (hBw : B ≤ w.heap.size) :
    Calls Tryd.prog 44 #[v, .int .i32 r] w fun e w' => ∃ v', e = .returned v' ∧ w'.ownsRowF B 5 1 v' (n + (Lib.runeCells r).length) (xs ++ Lib.runeCells r) ∧ ∃ o, (w.alloc o).grownBy w' v.ownBlock := Any.utf8_AppendRune_row Tryd.lays242 (by kernel_rfl) B v n xs r hr0 hr1 w hown hlen hBw
def Tryd.lays195_ren : Go.Shelf.Ren := ⟨fun | 195 => 36 | n => n, fun | 9 => 9 | 3 => 3 | 0 => 0 | 4 => 4 | n => n, fun | n => n⟩
theorem Tryd.lays195 : Go.Proofs.Lays.n195 Tryd.prog Tryd.lays195_ren := {
  mixed := by kernel_rfl
  f195 := Tryd.func36.trans (congrArg some (by kernel_rfl))
  t0 := Tryd.underlying0
  a0 := Tryd.isAgg0
  z0 := Tryd.sizeOf0
  v0 := Tryd.zeroValue0
  t3 := Tryd.underlying3
  a3 := Tryd.isAgg3
  z3 := Tryd.sizeOf3
  v3 := Tryd.zeroValue3
  t4 := Tryd.underlying4
  a4 := Tryd.isAgg4
  z4 := Tryd.sizeOf4
  v4 := Tryd.zeroValue4
  t9 := Tryd.underlying9
  a9 := Tryd.isAgg9
  z9 := Tryd.sizeOf9
  v9 := Tryd.zeroValue9 }
open Go.RowKit in
/-- unicode/utf8.RuneCountInString: "RuneCountInString is like RuneCount but its input is a string." ("RuneCount returns the number of runes in p. Erroneous and short encodings are treated as single runes of width 1 byte."): EVERY STRING, valid UTF-8 or not: 'Lib.runeCount s' (plain Lean over the model's own 'Utf8.decode'; 'Lib.runeCount_le': at most len(s); 'Lib.runeCount_ascii': on ASCII: len(s)). THE ONE CONDITION: len(s) below 2^63 - 1 (the counter does not wrap): the form's reach pays it. THE WORLD BEHIND THE CALL: ONE BLOCK MORE: the model's iterator over s, at its end: all else as it was. (LAID: no walk: one application.) -/
theorem Tryd.utf8_RuneCountInString (s : ByteArray) (w : World) (hs : s.size < 9223372036854775807) :
    Calls Tryd.prog 36 #[.string s] w fun e w' => e = .returned (.int .i64 (Lib.runeCount s)) ∧ ∃ pos, w' = w.iter s pos := Any.utf8_RuneCountInString Tryd.lays195 s w hs
def Tryd.lays217_ren : Go.Shelf.Ren := ⟨fun | 217 => 68 | 266 => 72 | n => n, fun | 9 => 9 | 5 => 5 | 3 => 3 | n => n, fun | n => n⟩
theorem Tryd.lays217 : Go.Proofs.Lays.n217 Tryd.prog Tryd.lays217_ren := {
  mixed := by kernel_rfl
  f217 := Tryd.func68.trans (congrArg some (by kernel_rfl))
  f266 := Tryd.func72.trans (congrArg some (by kernel_rfl))
  t3 := Tryd.underlying3
  a3 := Tryd.isAgg3
  z3 := Tryd.sizeOf3
  v3 := Tryd.zeroValue3
  t5 := Tryd.underlying5
  a5 := Tryd.isAgg5
  z5 := Tryd.sizeOf5
  v5 := Tryd.zeroValue5
  t9 := Tryd.underlying9
  a9 := Tryd.isAgg9
  z9 := Tryd.sizeOf9
  v9 := Tryd.zeroValue9 }
open Go.RowKit Go.Lib in
/-- internal/stringslite.IndexByte (what strings.IndexByte calls): IT RETURNS 'Lib.indexByte s c'; the world is as it was. (LAID: no walk: one application.) -/
theorem Tryd.stringslite_IndexByte (s : ByteArray) (c : Int) (w : World) :
    Calls Tryd.prog 68 #[.string s, .int .u8 c] w fun e w' => e = .returned (.int .i64 (Lib.indexByte s.data.toList c.toNat.toUInt8)) ∧ w' = w := Any.stringslite_IndexByte Tryd.lays217 s c w
def Tryd.lays224_ren : Go.Shelf.Ren := ⟨fun | 224 => 61 | n => n, fun | 3 => 3 | n => n, fun | n => n⟩
theorem Tryd.lays224 : Go.Proofs.Lays.n224 Tryd.prog Tryd.lays224_ren := {
  mixed := by kernel_rfl
  f224 := Tryd.func61.trans (congrArg some (by kernel_rfl))
  t3 := Tryd.underlying3
  a3 := Tryd.isAgg3
  z3 := Tryd.sizeOf3
  v3 := Tryd.zeroValue3 }
open Go.RowKit Go.Lib in
/-- internal/bytealg.Cutover: "Cutover reports the number of failures of IndexByte we should tolerate before switching over to Index. n is the number of bytes processed so far.": on amd64: (n + 16) / 8. (LAID: no walk: one application.) -/
theorem Tryd.bytealg_Cutover (n : Int) (h0 : 0 ≤ n) (h1 : n < 4611686018427387904) (w : World) :
    Calls Tryd.prog 61 #[.int .i64 n] w fun e w' => e = .returned (.int .i64 ((n + 16) / 8)) ∧ w' = w := Any.bytealg_Cutover Tryd.lays224 n h0 h1 w
def Tryd.lays206_ren : Go.Shelf.Ren := ⟨fun | 206 => 45 | n => n, fun | 9 => 9 | 4 => 4 | 3 => 3 | n => n, fun | n => n⟩
theorem Tryd.lays206 : Go.Proofs.Lays.n206 Tryd.prog Tryd.lays206_ren := {
  mixed := by kernel_rfl
  f206 := Tryd.func45.trans (congrArg some (by kernel_rfl))
  t3 := Tryd.underlying3
  a3 := Tryd.isAgg3
  z3 := Tryd.sizeOf3
  v3 := Tryd.zeroValue3
  t4 := Tryd.underlying4
  a4 := Tryd.isAgg4
  z4 := Tryd.sizeOf4
  v4 := Tryd.zeroValue4
  t9 := Tryd.underlying9
  a9 := Tryd.isAgg9
  z9 := Tryd.sizeOf9
  v9 := Tryd.zeroValue9 }
open Go.RowKit Go.Lib in
/-- internal/stringslite.HasPrefix (what strings.HasPrefix calls). (LAID: no walk: one application.) -/
theorem Tryd.stringslite_HasPrefix (s p : ByteArray) (w : World) :
    Calls Tryd.prog 45 #[.string s, .string p] w fun e w' => e = .returned (.bool (Lib.hasPrefix s.data.toList p.data.toList)) ∧ w' = w := Any.stringslite_HasPrefix Tryd.lays206 s p w
def Tryd.lays99_ren : Go.Shelf.Ren := ⟨fun | 99 => 34 | 206 => 45 | n => n, fun | 9 => 9 | 4 => 4 | 3 => 3 | n => n, fun | n => n⟩
theorem Tryd.lays99 : Go.Proofs.Lays.n99 Tryd.prog Tryd.lays99_ren := {
  mixed := by kernel_rfl
  f99 := Tryd.func34.trans (congrArg some (by kernel_rfl))
  f206 := Tryd.func45.trans (congrArg some (by kernel_rfl))
  t3 := Tryd.underlying3
  a3 := Tryd.isAgg3
  z3 := Tryd.sizeOf3
  v3 := Tryd.zeroValue3
  t4 := Tryd.underlying4
  a4 := Tryd.isAgg4
  z4 := Tryd.sizeOf4
  v4 := Tryd.zeroValue4
  t9 := Tryd.underlying9
  a9 := Tryd.isAgg9
  z9 := Tryd.sizeOf9
  v9 := Tryd.zeroValue9 }
open Go.RowKit Go.Lib in
/-- strings.HasPrefix: "HasPrefix reports whether the string s begins with prefix.": IT RETURNS 'Lib.hasPrefix s prefix'; the world is as it was. (LAID: no walk: one application.) -/
theorem Tryd.strings_HasPrefix (s p : ByteArray) (w : World) :
    Calls Tryd.prog 34 #[.string s, .string p] w fun e w' => e = .returned (.bool (Lib.hasPrefix s.data.toList p.data.toList)) ∧ w' = w := Any.strings_HasPrefix Tryd.lays99 s p w
def Tryd.lays204_ren : Go.Shelf.Ren := ⟨fun | 204 => 58 | 262 => 67 | 313 => 71 | 274 => 73 | 275 => 74 | n => n, fun | 21 => 21 | 4 => 4 | 3 => 3 | 162 => 78 | 203 => 57 | 160 => 83 | 46 => 48 | 0 => 0 | 208 => 89 | 51 => 66 | 206 => 87 | n => n, fun | 13 => 1 | n => n⟩
theorem Tryd.lays204 : Go.Proofs.Lays.n204 Tryd.prog Tryd.lays204_ren := {
  mixed := by kernel_rfl
  f204 := Tryd.func58.trans (congrArg some (by kernel_rfl))
  f262 := Tryd.func67.trans (congrArg some (by kernel_rfl))
  f274 := Tryd.func73.trans (congrArg some (by kernel_rfl))
  f275 := Tryd.func74.trans (congrArg some (by kernel_rfl))
  f313 := Tryd.func71.trans (congrArg some (by kernel_rfl))
  t0 := Tryd.underlying0
  a0 := Tryd.isAgg0
  z0 := Tryd.sizeOf0
  v0 := Tryd.zeroValue0
  t3 := Tryd.underlying3
  a3 := Tryd.isAgg3
  z3 := Tryd.sizeOf3
  v3 := Tryd.zeroValue3
  t4 := Tryd.underlying4
  a4 := Tryd.isAgg4
  z4 := Tryd.sizeOf4
  v4 := Tryd.zeroValue4
  t21 := Tryd.underlying21
  a21 := Tryd.isAgg21
  z21 := Tryd.sizeOf21
  v21 := Tryd.zeroValue21
  t46 := Tryd.underlying48
  a46 := Tryd.isAgg48
  z46 := Tryd.sizeOf48
  v46 := Tryd.zeroValue48
  t51 := Tryd.underlying66
  a51 := Tryd.isAgg66
  z51 := Tryd.sizeOf66
  v51 := Tryd.zeroValue66
  t160 := Tryd.underlying83
  a160 := Tryd.isAgg83
  z160 := Tryd.sizeOf83
  v160 := Tryd.zeroValue83
  t162 := Tryd.underlying78
  a162 := Tryd.isAgg78
  z162 := Tryd.sizeOf78
  v162 := Tryd.zeroValue78
  t203 := Tryd.underlying57
  a203 := Tryd.isAgg57
  z203 := Tryd.sizeOf57
  v203 := Tryd.zeroValue57
  t206 := Tryd.underlying87
  a206 := Tryd.isAgg87
  z206 := Tryd.sizeOf87
  v206 := Tryd.zeroValue87
  t208 := Tryd.underlying89
  a208 := Tryd.isAgg89
  z208 := Tryd.sizeOf89
  v208 := Tryd.zeroValue89
  g13 := by kernel_rfl }
open Go.RowKit Go.Lib in
theorem Tryd.unicode_ToLower (r : Int) (w : World) (h : r ≤ 127) :
    Calls Tryd.prog 58 #[.int .i32 r] w fun e w' => e = .returned (.int .i32 (Lib.toLowerR r)) ∧ w' = w := Any.unicode_ToLower Tryd.lays204 r w h
def Tryd.lays152_ren : Go.Shelf.Ren := ⟨fun | 152 => 52 | 137 => 59 | 119 => 60 | 224 => 61 | 225 => 62 | 217 => 68 | 266 => 72 | n => n, fun | 9 => 9 | 21 => 21 | 3 => 3 | 4 => 4 | 5 => 5 | 0 => 0 | 46 => 48 | n => n, fun | n => n⟩
theorem Tryd.lays152 : Go.Proofs.Lays.n152 Tryd.prog Tryd.lays152_ren := {
  mixed := by kernel_rfl
  f119 := Tryd.func60.trans (congrArg some (by kernel_rfl))
  f137 := Tryd.func59.trans (congrArg some (by kernel_rfl))
  f152 := Tryd.func52.trans (congrArg some (by kernel_rfl))
  f217 := Tryd.func68.trans (congrArg some (by kernel_rfl))
  f224 := Tryd.func61.trans (congrArg some (by kernel_rfl))
  f225 := Tryd.func62.trans (congrArg some (by kernel_rfl))
  f266 := Tryd.func72.trans (congrArg some (by kernel_rfl))
  t0 := Tryd.underlying0
  a0 := Tryd.isAgg0
  z0 := Tryd.sizeOf0
  v0 := Tryd.zeroValue0
  t3 := Tryd.underlying3
  a3 := Tryd.isAgg3
  z3 := Tryd.sizeOf3
  v3 := Tryd.zeroValue3
  t4 := Tryd.underlying4
  a4 := Tryd.isAgg4
  z4 := Tryd.sizeOf4
  v4 := Tryd.zeroValue4
  t5 := Tryd.underlying5
  a5 := Tryd.isAgg5
  z5 := Tryd.sizeOf5
  v5 := Tryd.zeroValue5
  t9 := Tryd.underlying9
  a9 := Tryd.isAgg9
  z9 := Tryd.sizeOf9
  v9 := Tryd.zeroValue9
  t21 := Tryd.underlying21
  a21 := Tryd.isAgg21
  z21 := Tryd.sizeOf21
  v21 := Tryd.zeroValue21
  t46 := Tryd.underlying48
  a46 := Tryd.isAgg48
  z46 := Tryd.sizeOf48
  v46 := Tryd.zeroValue48 }
open Go.RowKit Go.Lib in
theorem Tryd.strings_IndexRune_ascii (s : ByteArray) (r : Int) (w : World) (h0 : 0 ≤ r) (h1 : r < 128) :
    Calls Tryd.prog 52 #[.string s, .int .i32 r] w fun e w' => e = .returned (.int .i64 (Lib.indexByte s.data.toList r.toNat.toUInt8)) ∧ w' = w := Any.strings_IndexRune_ascii Tryd.lays152 s r w h0 h1
open Go.RowKit Go.Lib in
theorem Tryd.utf8_RuneCountInString_ascii (s : ByteArray) (w : World) (hs : s.size < 4294967281) (hascii : ∀ (j : Nat) b, s.data.toList[j]? = some b → b.toNat < 128) :
    Calls Tryd.prog 36 #[.string s] w fun e w' => e = .returned (.int .i64 s.size) ∧ w' = w.iter s s.size := Any.utf8_RuneCountInString_ascii Tryd.lays195 s w hs hascii
def Tryd.lays260_ren : Go.Shelf.Ren := ⟨fun | 260 => 70 | n => n, fun | 9 => 9 | 21 => 21 | 3 => 3 | 4 => 4 | 5 => 5 | 119 => 79 | 0 => 0 | 46 => 48 | 139 => 82 | 138 => 81 | n => n, fun | 3 => 2 | 4 => 3 | n => n⟩
theorem Tryd.lays260 : Go.Proofs.Lays.n260 Tryd.prog Tryd.lays260_ren := {
  mixed := by kernel_rfl
  f260 := Tryd.func70.trans (congrArg some (by kernel_rfl))
  t0 := Tryd.underlying0
  a0 := Tryd.isAgg0
  z0 := Tryd.sizeOf0
  v0 := Tryd.zeroValue0
  t3 := Tryd.underlying3
  a3 := Tryd.isAgg3
  z3 := Tryd.sizeOf3
  v3 := Tryd.zeroValue3
  t4 := Tryd.underlying4
  a4 := Tryd.isAgg4
  z4 := Tryd.sizeOf4
  v4 := Tryd.zeroValue4
  t5 := Tryd.underlying5
  a5 := Tryd.isAgg5
  z5 := Tryd.sizeOf5
  v5 := Tryd.zeroValue5
  t9 := Tryd.underlying9
  a9 := Tryd.isAgg9
  z9 := Tryd.sizeOf9
  v9 := Tryd.zeroValue9
  t21 := Tryd.underlying21
  a21 := Tryd.isAgg21
  z21 := Tryd.sizeOf21
  v21 := Tryd.zeroValue21
  t46 := Tryd.underlying48
  a46 := Tryd.isAgg48
  z46 := Tryd.sizeOf48
  v46 := Tryd.zeroValue48
  t119 := Tryd.underlying79
  a119 := Tryd.isAgg79
  z119 := Tryd.sizeOf79
  t138 := Tryd.underlying81
  a138 := Tryd.isAgg81
  z138 := Tryd.sizeOf81
  v138 := Tryd.zeroValue81
  t139 := Tryd.underlying82
  a139 := Tryd.isAgg82
  z139 := Tryd.sizeOf82
  v139 := Tryd.zeroValue82
  g3 := by kernel_rfl
  g4 := by kernel_rfl }
open Go.RowKit Go.Lib in
theorem Tryd.utf8_decodeRuneInStringSlow (s : ByteArray) (w : World) (hT : Lib.Utf8Tabs 2 3 w) :
    Calls Tryd.prog 70 #[.string s] w fun e w' => e = .returned (.tuple #[.int .i32 (Lib.decodeGo s).1, .int .i64 (Lib.decodeGo s).2]) ∧ Below w.heap.size w w' := Any.utf8_decodeRuneInStringSlow Tryd.lays260 s w hT
def Tryd.lays197_ren : Go.Shelf.Ren := ⟨fun | 197 => 64 | 260 => 70 | n => n, fun | 9 => 9 | 21 => 21 | 3 => 3 | 4 => 4 | 5 => 5 | 105 => 52 | 119 => 79 | 0 => 0 | 46 => 48 | 139 => 82 | 138 => 81 | n => n, fun | 3 => 2 | 4 => 3 | n => n⟩
theorem Tryd.lays197 : Go.Proofs.Lays.n197 Tryd.prog Tryd.lays197_ren := {
  mixed := by kernel_rfl
  f197 := Tryd.func64.trans (congrArg some (by kernel_rfl))
  f260 := Tryd.func70.trans (congrArg some (by kernel_rfl))
  t0 := Tryd.underlying0
  a0 := Tryd.isAgg0
  z0 := Tryd.sizeOf0
  v0 := Tryd.zeroValue0
  t3 := Tryd.underlying3
  a3 := Tryd.isAgg3
  z3 := Tryd.sizeOf3
  v3 := Tryd.zeroValue3
  t4 := Tryd.underlying4
  a4 := Tryd.isAgg4
  z4 := Tryd.sizeOf4
  v4 := Tryd.zeroValue4
  t5 := Tryd.underlying5
  a5 := Tryd.isAgg5
  z5 := Tryd.sizeOf5
  v5 := Tryd.zeroValue5
  t9 := Tryd.underlying9
  a9 := Tryd.isAgg9
  z9 := Tryd.sizeOf9
  v9 := Tryd.zeroValue9
  t21 := Tryd.underlying21
  a21 := Tryd.isAgg21
  z21 := Tryd.sizeOf21
  v21 := Tryd.zeroValue21
  t46 := Tryd.underlying48
  a46 := Tryd.isAgg48
  z46 := Tryd.sizeOf48
  v46 := Tryd.zeroValue48
  t105 := Tryd.underlying52
  a105 := Tryd.isAgg52
  z105 := Tryd.sizeOf52
  v105 := Tryd.zeroValue52
  t119 := Tryd.underlying79
  a119 := Tryd.isAgg79
  z119 := Tryd.sizeOf79
  t138 := Tryd.underlying81
  a138 := Tryd.isAgg81
  z138 := Tryd.sizeOf81
  v138 := Tryd.zeroValue81
  t139 := Tryd.underlying82
  a139 := Tryd.isAgg82
  z139 := Tryd.sizeOf82
  v139 := Tryd.zeroValue82
  g3 := by kernel_rfl
  g4 := by kernel_rfl }
open Go.RowKit Go.Lib in
/-- **unicode/utf8.DecodeRuneInString AT EVERY STRING.** (LAID: no walk: one application.) -/
theorem Tryd.utf8_DecodeRuneInString (s : ByteArray) (w : World) (hT : Lib.Utf8Tabs 2 3 w) :
    Calls Tryd.prog 64 #[.string s] w fun e w' => e = .returned (.tuple #[.int .i32 (Lib.decodeGo s).1, .int .i64 (Lib.decodeGo s).2]) ∧ Below w.heap.size w w' := Any.utf8_DecodeRuneInString Tryd.lays197 s w hT
def Tryd.lays274_ren : Go.Shelf.Ren := ⟨fun | 274 => 73 | n => n, fun | 21 => 21 | 162 => 78 | 160 => 83 | 3 => 3 | 4 => 4 | 46 => 48 | 0 => 0 | 208 => 89 | 51 => 66 | 206 => 87 | n => n, fun | n => n⟩
theorem Tryd.lays274 : Go.Proofs.Lays.n274 Tryd.prog Tryd.lays274_ren := {
  mixed := by kernel_rfl
  f274 := Tryd.func73.trans (congrArg some (by kernel_rfl))
  t0 := Tryd.underlying0
  a0 := Tryd.isAgg0
  z0 := Tryd.sizeOf0
  v0 := Tryd.zeroValue0
  t3 := Tryd.underlying3
  a3 := Tryd.isAgg3
  z3 := Tryd.sizeOf3
  v3 := Tryd.zeroValue3
  t4 := Tryd.underlying4
  a4 := Tryd.isAgg4
  z4 := Tryd.sizeOf4
  v4 := Tryd.zeroValue4
  t21 := Tryd.underlying21
  a21 := Tryd.isAgg21
  z21 := Tryd.sizeOf21
  v21 := Tryd.zeroValue21
  t46 := Tryd.underlying48
  a46 := Tryd.isAgg48
  z46 := Tryd.sizeOf48
  v46 := Tryd.zeroValue48
  t51 := Tryd.underlying66
  a51 := Tryd.isAgg66
  z51 := Tryd.sizeOf66
  v51 := Tryd.zeroValue66
  t160 := Tryd.underlying83
  a160 := Tryd.isAgg83
  z160 := Tryd.sizeOf83
  v160 := Tryd.zeroValue83
  t162 := Tryd.underlying78
  a162 := Tryd.isAgg78
  z162 := Tryd.sizeOf78
  v162 := Tryd.zeroValue78
  t208 := Tryd.underlying89
  a208 := Tryd.isAgg89
  z208 := Tryd.sizeOf89
  v208 := Tryd.zeroValue89 }
open Go.RowKit Go.Lib in
theorem Tryd.unicode_lookupCaseRange (T : Array CaseRow) (R oR cap : Nat) (r : Int) (w : World) (hT : CaseTab R oR T w) (hok : CaseOk T) (hn : T.size ≤ 1000000000) :
    Calls Tryd.prog 73 #[.int .i32 r, .slice (some ⟨R, oR, none⟩) T.size cap] w fun e w' =>
      e = .returned (match lookupIdx T r (T.size + 1) 0 T.size with | some i => .pointer (some ⟨R, oR + i * 5, none⟩) | none => .pointer none) ∧ w' = w := Any.unicode_lookupCaseRange Tryd.lays274 T R oR cap r w hT hok hn
def Tryd.lays275_ren : Go.Shelf.Ren := ⟨fun | 275 => 74 | n => n, fun | 3 => 3 | 21 => 21 | 160 => 83 | 0 => 0 | 208 => 89 | 206 => 87 | 4 => 4 | 51 => 66 | n => n, fun | n => n⟩
theorem Tryd.lays275 : Go.Proofs.Lays.n275 Tryd.prog Tryd.lays275_ren := {
  mixed := by kernel_rfl
  f275 := Tryd.func74.trans (congrArg some (by kernel_rfl))
  t0 := Tryd.underlying0
  a0 := Tryd.isAgg0
  z0 := Tryd.sizeOf0
  v0 := Tryd.zeroValue0
  t3 := Tryd.underlying3
  a3 := Tryd.isAgg3
  z3 := Tryd.sizeOf3
  v3 := Tryd.zeroValue3
  t4 := Tryd.underlying4
  a4 := Tryd.isAgg4
  z4 := Tryd.sizeOf4
  v4 := Tryd.zeroValue4
  t21 := Tryd.underlying21
  a21 := Tryd.isAgg21
  z21 := Tryd.sizeOf21
  v21 := Tryd.zeroValue21
  t51 := Tryd.underlying66
  a51 := Tryd.isAgg66
  z51 := Tryd.sizeOf66
  v51 := Tryd.zeroValue66
  t160 := Tryd.underlying83
  a160 := Tryd.isAgg83
  z160 := Tryd.sizeOf83
  v160 := Tryd.zeroValue83
  t206 := Tryd.underlying87
  a206 := Tryd.isAgg87
  z206 := Tryd.sizeOf87
  v206 := Tryd.zeroValue87
  t208 := Tryd.underlying89
  a208 := Tryd.isAgg89
  z208 := Tryd.sizeOf89
  v208 := Tryd.zeroValue89 }
open Go.RowKit Go.Lib in
theorem Tryd.unicode_convertCase (c : Nat) (hc : c < 3) (r : Int) (A o : Nat) (x : CaseRow) (w : World) (hlo : (x.1 : Int) ≤ r) (hhi : r ≤ (x.2.1 : Int)) (hH : x.2.1 < 2147483647) (c0 : w.cell? ⟨A, o, none⟩ = some (.int .u32 x.1)) (cD : w.cell? ⟨A, o + 2 + c, none⟩ = some (.int .i32 (x.delta c))) :
    Calls Tryd.prog 74 #[.int .i64 c, .int .i32 r, .pointer (some ⟨A, o, none⟩)] w fun e w' => e = .returned (.int .i32 (wrap32 (convertR c r x))) ∧ ∃ q, w' = w.drewN q := Any.unicode_convertCase Tryd.lays275 c hc r A o x w hlo hhi hH c0 cD
def Tryd.lays313_ren : Go.Shelf.Ren := ⟨fun | 313 => 71 | 274 => 73 | 275 => 74 | n => n, fun | 3 => 3 | 21 => 21 | 162 => 78 | 4 => 4 | 160 => 83 | 46 => 48 | 0 => 0 | 208 => 89 | 51 => 66 | 206 => 87 | n => n, fun | n => n⟩
theorem Tryd.lays313 : Go.Proofs.Lays.n313 Tryd.prog Tryd.lays313_ren := {
  mixed := by kernel_rfl
  f274 := Tryd.func73.trans (congrArg some (by kernel_rfl))
  f275 := Tryd.func74.trans (congrArg some (by kernel_rfl))
  f313 := Tryd.func71.trans (congrArg some (by kernel_rfl))
  t0 := Tryd.underlying0
  a0 := Tryd.isAgg0
  z0 := Tryd.sizeOf0
  v0 := Tryd.zeroValue0
  t3 := Tryd.underlying3
  a3 := Tryd.isAgg3
  z3 := Tryd.sizeOf3
  v3 := Tryd.zeroValue3
  t4 := Tryd.underlying4
  a4 := Tryd.isAgg4
  z4 := Tryd.sizeOf4
  v4 := Tryd.zeroValue4
  t21 := Tryd.underlying21
  a21 := Tryd.isAgg21
  z21 := Tryd.sizeOf21
  v21 := Tryd.zeroValue21
  t46 := Tryd.underlying48
  a46 := Tryd.isAgg48
  z46 := Tryd.sizeOf48
  v46 := Tryd.zeroValue48
  t51 := Tryd.underlying66
  a51 := Tryd.isAgg66
  z51 := Tryd.sizeOf66
  v51 := Tryd.zeroValue66
  t160 := Tryd.underlying83
  a160 := Tryd.isAgg83
  z160 := Tryd.sizeOf83
  v160 := Tryd.zeroValue83
  t162 := Tryd.underlying78
  a162 := Tryd.isAgg78
  z162 := Tryd.sizeOf78
  v162 := Tryd.zeroValue78
  t206 := Tryd.underlying87
  a206 := Tryd.isAgg87
  z206 := Tryd.sizeOf87
  v206 := Tryd.zeroValue87
  t208 := Tryd.underlying89
  a208 := Tryd.isAgg89
  z208 := Tryd.sizeOf89
  v208 := Tryd.zeroValue89 }
open Go.RowKit Go.Lib in
theorem Tryd.unicode_to (c : Nat) (hc : c < 3) (r : Int) (T : Array CaseRow) (R oR cap : Nat) (w : World) (hT : CaseTab R oR T w) (hok : CaseOk2 T) (hn : T.size ≤ 1000000000) :
    Calls Tryd.prog 71 #[.int .i64 c, .int .i32 r, .slice (some ⟨R, oR, none⟩) T.size cap] w fun e w' => e = .returned (.tuple #[.int .i32 (toW T c r), .bool (lookupIdx T r (T.size + 1) 0 T.size).isSome]) ∧ ∃ q, w' = w.drewN q := Any.unicode_to Tryd.lays313 c hc r T R oR cap w hT hok hn
def Tryd.lays262_ren : Go.Shelf.Ren := ⟨fun | 262 => 67 | 313 => 71 | 274 => 73 | 275 => 74 | n => n, fun | 3 => 3 | 21 => 21 | 162 => 78 | 203 => 57 | 4 => 4 | 160 => 83 | 46 => 48 | 0 => 0 | 208 => 89 | 51 => 66 | 206 => 87 | n => n, fun | 13 => 1 | n => n⟩
theorem Tryd.lays262 : Go.Proofs.Lays.n262 Tryd.prog Tryd.lays262_ren := {
  mixed := by kernel_rfl
  f262 := Tryd.func67.trans (congrArg some (by kernel_rfl))
  f274 := Tryd.func73.trans (congrArg some (by kernel_rfl))
  f275 := Tryd.func74.trans (congrArg some (by kernel_rfl))
  f313 := Tryd.func71.trans (congrArg some (by kernel_rfl))
  t0 := Tryd.underlying0
  a0 := Tryd.isAgg0
  z0 := Tryd.sizeOf0
  v0 := Tryd.zeroValue0
  t3 := Tryd.underlying3
  a3 := Tryd.isAgg3
  z3 := Tryd.sizeOf3
  v3 := Tryd.zeroValue3
  t4 := Tryd.underlying4
  a4 := Tryd.isAgg4
  z4 := Tryd.sizeOf4
  v4 := Tryd.zeroValue4
  t21 := Tryd.underlying21
  a21 := Tryd.isAgg21
  z21 := Tryd.sizeOf21
  v21 := Tryd.zeroValue21
  t46 := Tryd.underlying48
  a46 := Tryd.isAgg48
  z46 := Tryd.sizeOf48
  v46 := Tryd.zeroValue48
  t51 := Tryd.underlying66
  a51 := Tryd.isAgg66
  z51 := Tryd.sizeOf66
  v51 := Tryd.zeroValue66
  t160 := Tryd.underlying83
  a160 := Tryd.isAgg83
  z160 := Tryd.sizeOf83
  v160 := Tryd.zeroValue83
  t162 := Tryd.underlying78
  a162 := Tryd.isAgg78
  z162 := Tryd.sizeOf78
  v162 := Tryd.zeroValue78
  t203 := Tryd.underlying57
  a203 := Tryd.isAgg57
  z203 := Tryd.sizeOf57
  v203 := Tryd.zeroValue57
  t206 := Tryd.underlying87
  a206 := Tryd.isAgg87
  z206 := Tryd.sizeOf87
  v206 := Tryd.zeroValue87
  t208 := Tryd.underlying89
  a208 := Tryd.isAgg89
  z208 := Tryd.sizeOf89
  v208 := Tryd.zeroValue89
  g13 := by kernel_rfl }
open Go.RowKit Go.Lib in
theorem Tryd.unicode_To (c : Nat) (hc : c < 3) (r : Int) (T : Array CaseRow) (w : World) (hV : CaseVar 1 T w) (hok : CaseOk2 T) (hn : T.size ≤ 1000000000) :
    Calls Tryd.prog 67 #[.int .i64 c, .int .i32 r] w fun e w' => e = .returned (.int .i32 (toW T c r)) ∧ ∃ q, w' = w.drewN q := Any.unicode_To Tryd.lays262 c hc r T w hV hok hn
open Go.RowKit Go.Lib in
theorem Tryd.unicode_ToLower_any (r : Int) (T : Array CaseRow) (w : World) (hV : CaseVar 1 T w) (hok : CaseOk2 T) (hn : T.size ≤ 1000000000) :
    Calls Tryd.prog 58 #[.int .i32 r] w fun e w' => e = .returned (.int .i32 (Lib.toLowerW T r)) ∧ ∃ q, w' = w.drewN q := Any.unicode_ToLower_any Tryd.lays204 r T w hV hok hn
open Go.RowKit Go.Lib in
theorem Tryd.unicode_ToLower_laid (r : Int) (w : World) (hV : CaseVar 1 caseA w) :
    Calls Tryd.prog 58 #[.int .i32 r] w fun e w' => e = .returned (.int .i32 (toLowerU r)) ∧ ∃ q, w' = w.drewN q := Any.unicode_ToLower_laid Tryd.lays204 r w hV
def Tryd.lays270_ren : Go.Shelf.Ren := ⟨fun | 270 => 66 | n => n, fun | 70 => 39 | 3 => 3 | 0 => 0 | 72 => 41 | 37 => 22 | 5 => 5 | n => n, fun | n => n⟩
theorem Tryd.lays270 : Go.Proofs.Lays.n270 Tryd.prog Tryd.lays270_ren := {
  mixed := by kernel_rfl
  f270 := Tryd.func66.trans (congrArg some (by kernel_rfl))
  t0 := Tryd.underlying0
  a0 := Tryd.isAgg0
  z0 := Tryd.sizeOf0
  v0 := Tryd.zeroValue0
  t3 := Tryd.underlying3
  a3 := Tryd.isAgg3
  z3 := Tryd.sizeOf3
  v3 := Tryd.zeroValue3
  t37 := Tryd.underlying22
  a37 := Tryd.isAgg22
  z37 := Tryd.sizeOf22
  v37 := Tryd.zeroValue22
  t70 := Tryd.underlying39
  a70 := Tryd.isAgg39
  z70 := Tryd.sizeOf39
  v70 := Tryd.zeroValue39
  t72 := Tryd.underlying41
  a72 := Tryd.isAgg41
  z72 := Tryd.sizeOf41
  v72 := Tryd.zeroValue41 }
open Go.RowKit Go.Lib in
/-- (*strings.Builder).Cap: "Cap returns the capacity of the builder's underlying byte slice." (LAID: no walk: one application.) -/
theorem Tryd.Builder_Cap_cell (b : Nat) (p : Option Addr) (n cap : Nat) (w : World) (c1 : w.cell? ⟨b, 1, none⟩ = some (.slice p n cap)) :
    Calls Tryd.prog 66 #[.pointer (some ⟨b, 0, none⟩)] w fun e w' => e = .returned (.int .i64 cap) ∧ w' = w := Any.Builder_Cap_cell Tryd.lays270 b p n cap w c1
def Tryd.lays230_ren : Go.Shelf.Ren := ⟨fun | 230 => 57 | 197 => 64 | 118 => 65 | 165 => 56 | 166 => 29 | 168 => 33 | 270 => 66 | 167 => 27 | 169 => 30 | 260 => 70 | 240 => 40 | 241 => 63 | 242 => 44 | 276 => 50 | 277 => 69 | 278 => 53 | n => n, fun | 107 => 69 | 9 => 9 | 72 => 41 | 0 => 0 | 4 => 4 | 3 => 3 | 21 => 21 | 105 => 52 | 76 => 46 | 5 => 5 | 75 => 43 | 70 => 39 | 20 => 20 | 37 => 22 | 127 => 56 | 119 => 79 | 46 => 48 | 139 => 82 | 138 => 81 | 164 => 63 | 51 => 66 | 80 => 49 | n => n, fun | 3 => 2 | 4 => 3 | n => n⟩
theorem Tryd.lays230 : Go.Proofs.Lays.n230 Tryd.prog Tryd.lays230_ren := {
  mixed := by kernel_rfl
  f118 := Tryd.func65.trans (congrArg some (by kernel_rfl))
  f165 := Tryd.func56.trans (congrArg some (by kernel_rfl))
  f166 := Tryd.func29.trans (congrArg some (by kernel_rfl))
  f167 := Tryd.func27.trans (congrArg some (by kernel_rfl))
  f168 := Tryd.func33.trans (congrArg some (by kernel_rfl))
  f169 := Tryd.func30.trans (congrArg some (by kernel_rfl))
  f197 := Tryd.func64.trans (congrArg some (by kernel_rfl))
  f230 := Tryd.func57.trans (congrArg some (by kernel_rfl))
  f240 := Tryd.func40.trans (congrArg some (by kernel_rfl))
  f241 := Tryd.func63.trans (congrArg some (by kernel_rfl))
  f242 := Tryd.func44.trans (congrArg some (by kernel_rfl))
  f260 := Tryd.func70.trans (congrArg some (by kernel_rfl))
  f270 := Tryd.func66.trans (congrArg some (by kernel_rfl))
  f276 := Tryd.func50.trans (congrArg some (by kernel_rfl))
  f277 := Tryd.func69.trans (congrArg some (by kernel_rfl))
  f278 := Tryd.func53.trans (congrArg some (by kernel_rfl))
  t0 := Tryd.underlying0
  a0 := Tryd.isAgg0
  z0 := Tryd.sizeOf0
  v0 := Tryd.zeroValue0
  t3 := Tryd.underlying3
  a3 := Tryd.isAgg3
  z3 := Tryd.sizeOf3
  v3 := Tryd.zeroValue3
  t4 := Tryd.underlying4
  a4 := Tryd.isAgg4
  z4 := Tryd.sizeOf4
  v4 := Tryd.zeroValue4
  t5 := Tryd.underlying5
  a5 := Tryd.isAgg5
  z5 := Tryd.sizeOf5
  v5 := Tryd.zeroValue5
  t9 := Tryd.underlying9
  a9 := Tryd.isAgg9
  z9 := Tryd.sizeOf9
  v9 := Tryd.zeroValue9
  t20 := Tryd.underlying20
  a20 := Tryd.isAgg20
  z20 := Tryd.sizeOf20
  v20 := Tryd.zeroValue20
  t21 := Tryd.underlying21
  a21 := Tryd.isAgg21
  z21 := Tryd.sizeOf21
  v21 := Tryd.zeroValue21
  t37 := Tryd.underlying22
  a37 := Tryd.isAgg22
  z37 := Tryd.sizeOf22
  v37 := Tryd.zeroValue22
  t46 := Tryd.underlying48
  a46 := Tryd.isAgg48
  z46 := Tryd.sizeOf48
  v46 := Tryd.zeroValue48
  t51 := Tryd.underlying66
  a51 := Tryd.isAgg66
  z51 := Tryd.sizeOf66
  v51 := Tryd.zeroValue66
  t70 := Tryd.underlying39
  a70 := Tryd.isAgg39
  z70 := Tryd.sizeOf39
  v70 := Tryd.zeroValue39
  t72 := Tryd.underlying41
  a72 := Tryd.isAgg41
  z72 := Tryd.sizeOf41
  v72 := Tryd.zeroValue41
  t75 := Tryd.underlying43
  a75 := Tryd.isAgg43
  z75 := Tryd.sizeOf43
  v75 := Tryd.zeroValue43
  t76 := Tryd.underlying46
  a76 := Tryd.isAgg46
  z76 := Tryd.sizeOf46
  v76 := Tryd.zeroValue46
  t105 := Tryd.underlying52
  a105 := Tryd.isAgg52
  z105 := Tryd.sizeOf52
  v105 := Tryd.zeroValue52
  t107 := Tryd.underlying69
  a107 := Tryd.isAgg69
  z107 := Tryd.sizeOf69
  v107 := Tryd.zeroValue69
  t119 := Tryd.underlying79
  a119 := Tryd.isAgg79
  z119 := Tryd.sizeOf79
  t127 := Tryd.underlying56
  a127 := Tryd.isAgg56
  z127 := Tryd.sizeOf56
  v127 := Tryd.zeroValue56
  t138 := Tryd.underlying81
  a138 := Tryd.isAgg81
  z138 := Tryd.sizeOf81
  v138 := Tryd.zeroValue81
  t139 := Tryd.underlying82
  a139 := Tryd.isAgg82
  z139 := Tryd.sizeOf82
  v139 := Tryd.zeroValue82
  t164 := Tryd.underlying63
  a164 := Tryd.isAgg63
  z164 := Tryd.sizeOf63
  v164 := Tryd.zeroValue63
  g3 := by kernel_rfl
  g4 := by kernel_rfl }
theorem Tryd.Builder_Extra_230 : Builder.Extra Tryd.prog Tryd.lays230_ren := {
  sizeBuilder := by kernel_rfl
  liesBuilder := by kernel_rfl
  t5 := Tryd.underlying5
  a5 := Tryd.isAgg5
  z5 := Tryd.sizeOf5
  v5 := Tryd.zeroValue5
  infoByte := by kernel_rfl
  cellsByte := by kernel_rfl
  sizeByte := by kernel_rfl
  neB5 := by decide }
open Go.RowKit Go.Lib in
theorem Tryd.strings_Map_runes (g : Nat) (lb : Array Value) (eg : ∀ args w, (callFunc g args).run Tryd.prog w = .ok (.enter g args) w) (f : Int → Int) (s : ByteArray) (w : World) (hs : s.size < 35184372088832) (hf : MapAtRunes Tryd.prog g lb f w) (hnn : ∀ x : Nat, x ≤ 1114111 → 0 ≤ f x ∧ f x ≤ 2147483647) (hT : Lib.Utf8Tabs 2 3 w) :
    Calls Tryd.prog 57 #[.func (.func g) #[] lb, .string s] w fun e w' => e = .returned (.string ⟨(Lib.mapD f s.data.toList).toArray⟩) ∧ Below w.heap.size w w' := Any.strings_Map_runes Tryd.lays230 Tryd.Builder_Extra_230 g lb eg f s w hs hf hnn hT
open Go.RowKit Go.Lib in
theorem Tryd.strings_ToLower_beyond (s : ByteArray) (w : World) (hs : s.size < 35184372088832) (hhigh : ∃ (j : Nat) (b : UInt8), s.data.toList[j]? = some b ∧ 128 ≤ b.toNat) (hV : CaseVar 1 caseA w) (hT : Lib.Utf8Tabs 2 3 w) :
    Calls Tryd.prog 51 #[.string s] w fun e w' => e = .returned (.string ⟨(Lib.toLowerD s.data.toList).toArray⟩) ∧ Below w.heap.size w w' := Any.strings_ToLower_beyond Tryd.lays159 Tryd.Builder_Extra_159 s w hs hhigh hV hT
open Go.RowKit Go.Lib in
/-- **strings.ToLower AT EVERY STRING, VALID UTF-8 OR NOT.** (LAID: no walk: one application.) -/
theorem Tryd.strings_ToLower_any (s : ByteArray) (w : World) (hs : s.size < 35184372088832) (hV : CaseVar 1 caseA w) (hT : Lib.Utf8Tabs 2 3 w) :
    Calls Tryd.prog 51 #[.string s] w fun e w' => e = .returned (.string ⟨(Lib.toLowerD s.data.toList).toArray⟩) ∧ Below w.heap.size w w' := Any.strings_ToLower_any Tryd.lays159 Tryd.Builder_Extra_159 s w hs hV hT
end Go.Proofs

/-
  A strings.Builder at this program: copyCheck, WriteByte, WriteString, WriteRune, String; each keeps every block that is neither the builder's nor a row of bytes.
-/
namespace Go.Proofs
open Go.Shelf Go.RowKit
set_option maxHeartbeats 1000000 in
set_option maxRecDepth 100000 in
theorem Tryd.copyCheck_used (b : Nat) (w : World) (h0 : w.cell? ⟨b, 0, none⟩ = some (.pointer (some ⟨b, 0, none⟩))) :
    Calls Tryd.prog 40 #[.pointer (some ⟨b, 0, none⟩)] w fun e w' => e = .returned (.tuple #[]) ∧ w' = w := by
  obtain ⟨j, hj, _⟩ := Option.map_eq_some_iff.1 (show (Tryd.prog.info? 41).map (·.size) = some 2 by kernel_rfl)
  go_enter Tryd.func40, Tryd.ntmps40
  go_wp2
  rw [Lib.run_neq_ptr_same w _ Tryd.underlying39 hj]
  go_wp2
  go_end0
  exact ⟨rfl, rfl⟩
set_option maxHeartbeats 1000000 in
set_option maxRecDepth 100000 in
theorem Tryd.copyCheck_fresh (b : Nat) (w : World) (h0 : w.cell? ⟨b, 0, none⟩ = some (.pointer none)) (hsh : w.shape? b = some (41, 2)) (hfz : w.frozen? ⟨b, 0, none⟩ = false) :
    Calls Tryd.prog 40 #[.pointer (some ⟨b, 0, none⟩)] w fun e w' => e = .returned (.tuple #[]) ∧ w' = w.setCell ⟨b, 0, none⟩ (.pointer (some ⟨b, 0, none⟩)) := by
  obtain ⟨j, hj, hjs⟩ := Option.map_eq_some_iff.1 (show (Tryd.prog.info? 41).map (·.size) = some 2 by kernel_rfl)
  go_enter Tryd.func40, Tryd.ntmps40
  go_wp2
  rw [Lib.run_to_unsafe w ⟨b, 0, none⟩ Tryd.underlying39 Tryd.underlying63 hj (by rw [hjs]; decide) hsh (Nat.zero_lt_succ 1)]
  simp only [Result.andThen]
  rw [Oper.upon_value]
  go_wp2
  rw [run_callFunc_extern Tryd.func50 (by kernel_rfl) (by kernel_rfl) (by kernel_rfl) (e := Extern.AbiNoEscape.same) (by kernel_rfl)]
  rw [Lib.run_noEscape]
  simp only [Result.andThen]
  rw [Oper.upon_value]
  go_wp2
  rw [Lib.run_from_unsafe w ⟨b, 0, none⟩ Tryd.underlying63 Tryd.underlying39 hj hsh Tryd.Builder_Extra_169.liesBuilder]
  simp only [Result.andThen]
  rw [Oper.upon_value]
  go_wp2
  go_end0
  exact ⟨rfl, rfl⟩
theorem Tryd.copyCheck_k (B b : Nat) (bs : List Value) (w : World) (h : Lib.IsBuilderF 41 5 B b bs w) :
    Calls Tryd.prog 40 #[.pointer (some ⟨b, 0, none⟩)] w fun e w' => e = .returned (.tuple #[]) ∧ (Lib.BuilderAtF 41 5 B b (.pointer (some ⟨b, 0, none⟩)) bs w' ∧ Below B w w' ∧ Lib.OthersKept 5 (some b) w w') := by
  rcases h with h | h
  · refine (Tryd.copyCheck_fresh b w h.cell0 h.shape h.frozen0).mono ?_
    rintro e w' ⟨rfl, rfl⟩
    exact ⟨rfl, h.used _, (Below.refl B w).setCell (p := ⟨b, 0, none⟩) h.1 _, (Lib.OthersKept.refl _ _ w).setCell ⟨b, 0, none⟩ rfl _⟩
  · refine (Tryd.copyCheck_used b w h.cell0).mono ?_
    rintro e w' ⟨rfl, rfl⟩
    exact ⟨rfl, h, Below.refl B _, Lib.OthersKept.refl _ _ _⟩
set_option maxHeartbeats 2000000 in
set_option maxRecDepth 100000 in
theorem Tryd.WriteByte_k (B b : Nat) (bs : List Value) (c : Int) (w : World) (h : Lib.IsBuilderF 41 5 B b bs w) (hlen : bs.length + 1 ≤ 140737488355328) (hBw : B ≤ w.heap.size) :
    Calls Tryd.prog 27 #[.pointer (some ⟨b, 0, none⟩), .int .u8 c] w fun e w' => e = .returned .nilIface ∧ (Lib.BuilderAtF 41 5 B b (.pointer (some ⟨b, 0, none⟩)) (bs ++ [.int .u8 c]) w' ∧ Below B w w' ∧ Lib.OthersKept 5 (some b) w w') := by
  obtain ⟨i0, hi, hz0, hz1, hz2⟩ := info_parts Tryd.Builder_Extra_169.infoByte
  go_enter Tryd.func27, Tryd.ntmps27
  go_wp2_with fail
  refine (Tryd.copyCheck_k B b bs _ h).mono ?_
  rintro e w1 ⟨rfl, h1, hb1, hk1⟩
  obtain ⟨hB, v, hbk, hown, hne⟩ := h1
  have c0 : w1.cell? ⟨b, 0, none⟩ = some (.pointer (some ⟨b, 0, none⟩)) := by rw [Lib.cell_of_heap hbk]; rfl
  have c1 : w1.cell? ⟨b, 1, none⟩ = some v := by rw [Lib.cell_of_heap hbk]; rfl
  go_wp2_with (at_builtin; refine wpList_append_ownF _ rfl _ _ 22 rfl B 5 i0 (.int .u8 0) 1 1 Tryd.underlying22 hi hz0 hz1 hz2 rfl (by decide) _ _ _ rfl (hown.alloc _) ⟨w1.heap.size, 0, none⟩ 1 1 [.int .u8 c] rfl rfl ?c1 ?c2 ?c3 ?c4 ?c5 ?_)
  case c1 =>
    intro j u hj
    match j, hj with
    | 0, hj => simp at hj; subst hj; simp [Addr.add]
  case c2 => intro u hu; simp at hu; subst hu; rfl
  case c3 => unfold maxLen; omega
  case c4 => omega
  case c5 => have := hb1.size; simp; omega
  intro v' w2 hown' hgrow _
  have hlt : b < w1.heap.size := by
    rcases Nat.lt_or_ge b w1.heap.size with h' | h'
    · exact h'
    · simp [Array.getElem?_eq_none h'] at hbk
  have hb2 : w2.heap[b]? = some (.cells #[.pointer (some ⟨b, 0, none⟩), v] 41 (0, 0)) := by
    rw [hgrow.block b (by simp; omega) (fun e => hne e.symm), Lib.alloc_old w1 _ b hlt]
    exact hbk
  have d0 : w2.cell? ⟨b, 0, none⟩ = some (.pointer (some ⟨b, 0, none⟩)) := by rw [Lib.cell_of_heap hb2]; rfl
  have d1 : w2.cell? ⟨b, 1, none⟩ = some v := by rw [Lib.cell_of_heap hb2]; rfl
  have f1 : w2.frozen? ⟨b, 1, none⟩ = false := Lib.frozen_of_heap hb2 1
  obtain ⟨g, cap, rfl⟩ : ∃ g cap, v' = .slice (some ⟨g, 0, none⟩) (bs.length + 1) cap := by
    rcases hown'.2 with ⟨_, h0⟩ | ⟨g, cap, cur, fz, hv, _⟩
    · omega
    · exact ⟨g, cap, hv⟩
  go_wp2
  go_ret
  refine ⟨rfl, ?_, ?_, ((hk1.alloc _).grown hgrow (Lib.ownsRowF_kind (hown.alloc _))).setCell ⟨b, 1, none⟩ rfl _⟩
  · exact Lib.BuilderAtF.put (T := 41) (e := 5) hB hb2 (bs' := bs ++ [.int .u8 c]) (by simpa using hown') (by decide)
  · exact ((hb1.alloc (by have := hb1.size; omega) _).grown hgrow (by have := hb1.size; simp; omega) (fun k hk => (hown.lt k hk).1)).setCell (p := ⟨b, 1, none⟩) hB _
set_option maxHeartbeats 2000000 in
set_option maxRecDepth 100000 in
theorem Tryd.WriteString_k (B b : Nat) (bs : List Value) (s : ByteArray) (w : World) (h : Lib.IsBuilderF 41 5 B b bs w) (hlen : bs.length + s.size ≤ 140737488355328) (hBw : B ≤ w.heap.size) :
    Calls Tryd.prog 29 #[.pointer (some ⟨b, 0, none⟩), .string s] w fun e w' => e = .returned (.tuple #[.int .i64 s.size, .nilIface]) ∧ (Lib.BuilderAtF 41 5 B b (.pointer (some ⟨b, 0, none⟩)) (bs ++ Lib.strCells s) w' ∧ Below B w w' ∧ Lib.OthersKept 5 (some b) w w') := by
  obtain ⟨i0, hi, hz0, hz1, hz2⟩ := info_parts Tryd.Builder_Extra_169.infoByte
  go_enter Tryd.func29, Tryd.ntmps29
  go_wp2_with fail
  refine (Tryd.copyCheck_k B b bs _ h).mono ?_
  rintro e w1 ⟨rfl, h1, hb1, hk1⟩
  obtain ⟨hB, v, hbk, hown, hne⟩ := h1
  have c0 : w1.cell? ⟨b, 0, none⟩ = some (.pointer (some ⟨b, 0, none⟩)) := by rw [Lib.cell_of_heap hbk]; rfl
  have c1 : w1.cell? ⟨b, 1, none⟩ = some v := by rw [Lib.cell_of_heap hbk]; rfl
  go_wp2_with (at_builtin; refine Lib.wpList_append_own_stringF _ rfl _ _ 22 9 rfl B 5 i0 Tryd.underlying22 Tryd.underlying9 hi hz0 hz1 hz2 _ _ _ rfl hown s rfl ?c3 ?c4 ?c5 ?_)
  case c3 => unfold maxLen; omega
  case c4 => omega
  case c5 => have := hb1.size; omega
  intro v' w2 hown' hgrow _
  have hlt : b < w1.heap.size := by
    rcases Nat.lt_or_ge b w1.heap.size with h' | h'
    · exact h'
    · simp [Array.getElem?_eq_none h'] at hbk
  have hb2 : w2.heap[b]? = some (.cells #[.pointer (some ⟨b, 0, none⟩), v] 41 (0, 0)) := by
    rw [hgrow.block b hlt (fun e => hne e.symm)]
    exact hbk
  have d0 : w2.cell? ⟨b, 0, none⟩ = some (.pointer (some ⟨b, 0, none⟩)) := by rw [Lib.cell_of_heap hb2]; rfl
  have d1 : w2.cell? ⟨b, 1, none⟩ = some v := by rw [Lib.cell_of_heap hb2]; rfl
  have f1 : w2.frozen? ⟨b, 1, none⟩ = false := Lib.frozen_of_heap hb2 1
  obtain ⟨ao, n', cap, rfl⟩ : ∃ ao n' cap, v' = .slice ao n' cap := by
    rcases hown'.2 with ⟨hv, _⟩ | ⟨g, cap, cur, fz, hv, _⟩
    · exact ⟨_, _, _, hv⟩
    · exact ⟨_, _, _, hv⟩
  go_wp2
  go_ret2
  refine ⟨rfl, ?_, ?_, (hk1.grown hgrow (Lib.ownsRowF_kind hown)).setCell ⟨b, 1, none⟩ rfl _⟩
  · exact Lib.BuilderAtF.put (T := 41) (e := 5) hB hb2 (bs' := bs ++ Lib.strCells s) (by simpa [Lib.strCells_length] using hown') (by decide)
  · exact (hb1.grown hgrow (by have := hb1.size; omega) (fun k hk => (hown.lt k hk).1)).setCell (p := ⟨b, 1, none⟩) hB _
set_option maxHeartbeats 2000000 in
set_option maxRecDepth 100000 in
theorem Tryd.WriteRune_k (B b : Nat) (bs : List Value) (r : Int) (hr0 : -2147483648 ≤ r) (hr1 : r ≤ 2147483647) (w : World) (h : Lib.IsBuilderF 41 5 B b bs w) (hlen : bs.length + 4 ≤ 140737488355328) (hBw : B ≤ w.heap.size) :
    Calls Tryd.prog 33 #[.pointer (some ⟨b, 0, none⟩), .int .i32 r] w fun e w' => e = .returned (.tuple #[.int .i64 (Lib.runeCells r).length, .nilIface]) ∧ (Lib.BuilderAtF 41 5 B b (.pointer (some ⟨b, 0, none⟩)) (bs ++ Lib.runeCells r) w' ∧ Below B w w' ∧ Lib.OthersKept 5 (some b) w w') := by
  have hk4 := Lib.runeCells_le r
  go_enter Tryd.func33, Tryd.ntmps33
  go_wp2_with fail
  refine (Tryd.copyCheck_k B b bs _ h).mono ?_
  rintro e w1 ⟨rfl, h1, hb1, hk1⟩
  obtain ⟨hB, v, hbk, hown, hne⟩ := h1
  obtain ⟨ao, cap, rfl⟩ : ∃ ao cap, v = .slice ao bs.length cap := by
    rcases hown.2 with ⟨hv, h0⟩ | ⟨g, cap, cur, fz, hv, _⟩
    · exact ⟨none, 0, by rw [hv, h0]⟩
    · exact ⟨_, _, hv⟩
  have c0 : w1.cell? ⟨b, 0, none⟩ = some (.pointer (some ⟨b, 0, none⟩)) := by rw [Lib.cell_of_heap hbk]; rfl
  have c1 : w1.cell? ⟨b, 1, none⟩ = some (.slice ao bs.length cap) := by rw [Lib.cell_of_heap hbk]; rfl
  go_wp2_with fail
  refine (Tryd.utf8_AppendRune_row B _ bs.length bs r hr0 hr1 _ hown hlen (by have := hb1.size; omega)).mono ?_
  rintro e w2 ⟨v', rfl, hown', o, hgrow⟩
  have hlt : b < w1.heap.size := by
    rcases Nat.lt_or_ge b w1.heap.size with h' | h'
    · exact h'
    · simp [Array.getElem?_eq_none h'] at hbk
  have hb2 : w2.heap[b]? = some (.cells #[.pointer (some ⟨b, 0, none⟩), .slice ao bs.length cap] 41 (0, 0)) := by
    rw [hgrow.block b (by simp; omega) (fun e => hne e.symm), Lib.alloc_old w1 _ b hlt]
    exact hbk
  have d0 : w2.cell? ⟨b, 0, none⟩ = some (.pointer (some ⟨b, 0, none⟩)) := by rw [Lib.cell_of_heap hb2]; rfl
  have d1 : w2.cell? ⟨b, 1, none⟩ = some (.slice ao bs.length cap) := by rw [Lib.cell_of_heap hb2]; rfl
  have f1 : w2.frozen? ⟨b, 1, none⟩ = false := Lib.frozen_of_heap hb2 1
  obtain ⟨g, cap', rfl⟩ : ∃ g cap', v' = .slice (some ⟨g, 0, none⟩) (bs.length + (Lib.runeCells r).length) cap' := by
    rcases hown'.2 with ⟨_, h0⟩ | ⟨g, cap', cur, fz, hv, _⟩
    · omega
    · exact ⟨g, cap', hv⟩
  go_wp2
  go_ret2
  refine ⟨?_, ?_, ?_, ((hk1.alloc _).grown hgrow (Lib.ownsRowF_kind (hown.alloc _))).setCell ⟨b, 1, none⟩ rfl _⟩
  · have e : ((bs.length : Int) + ((Lib.runeCells r).length : Int) - (bs.length : Int)) = ((Lib.runeCells r).length : Int) := by omega
    simp [e]
  · exact Lib.BuilderAtF.put (T := 41) (e := 5) hB hb2 (bs' := bs ++ Lib.runeCells r) (by simpa using hown') (by decide)
  · exact ((hb1.alloc (by have := hb1.size; omega) _).grown hgrow (by have := hb1.size; simp; omega) (fun k hk => (hown.lt k hk).1)).setCell (p := ⟨b, 1, none⟩) hB _
theorem Tryd.String_any_k (B b : Nat) (l : List UInt8) (w : World) (h : Lib.IsBuilderF 41 5 B b (Lib.byteCells l) w) (hBw : B ≤ w.heap.size) :
    Calls Tryd.prog 30 #[.pointer (some ⟨b, 0, none⟩)] w fun e w' => e = .returned (.string ⟨l.toArray⟩) ∧ (Lib.IsBuilderF 41 5 B b (Lib.byteCells l) w' ∧ Below B w w' ∧ Lib.OthersKept 5 (some b) w w') := Any.Builder_String_any_k Tryd.lays169 Tryd.Builder_Extra_169 B b l w h hBw
end Go.Proofs

/-
  Texts between quotes, in plain words: UTF-8 by the decoder's own numbers; what Check, Runes, Quote and Unquote come to.
-/
namespace Go.Proofs.YtpibbokkdjjgeaaDoor
open Go.Lib
set_option linter.unusedSimpArgs false
set_option linter.unusedVariables false
def at4 (l : List UInt8) (i : Nat) : Nat := (l.getD i 0).toNat
theorem at4_lt (l : List UInt8) (i : Nat) : at4 l i < 256 := UInt8.toNat_lt _
/-- The rune that a text begins with, and how many bytes it takes: (65533, 1): none. -/
def dec (l : List UInt8) : Nat × Nat := decodeN l.length (at4 l 0) (at4 l 1) (at4 l 2) (at4 l 3)
theorem decodeN_width (n b0 b1 b2 b3 : Nat) (hn : 1 ≤ n) : 1 ≤ (decodeN n b0 b1 b2 b3).2 ∧ (decodeN n b0 b1 b2 b3).2 ≤ n ∧ (decodeN n b0 b1 b2 b3).2 ≤ 4 := by
  unfold decodeN
  repeat' split
  all_goals simp only []
  all_goals omega
theorem dec_width (l : List UInt8) (h : l ≠ []) : 1 ≤ (dec l).2 ∧ (dec l).2 ≤ l.length ∧ (dec l).2 ≤ 4 :=
  decodeN_width _ _ _ _ _ (by cases l with | nil => exact absurd rfl h | cons _ _ => simp)
/-- How many bytes the rune at the front takes; 0: there is none. -/
def vw (l : List UInt8) : Nat := if l = [] ∨ dec l = (65533, 1) then 0 else (dec l).2
theorem vw_le (l : List UInt8) : vw l ≤ l.length ∧ vw l ≤ 4 := by
  unfold vw
  split
  · omega
  · rename_i h
    have := dec_width l (fun e => h (.inl e))
    omega
theorem vw_pos {l : List UInt8} (h : vw l ≠ 0) : l ≠ [] ∧ dec l ≠ (65533, 1) ∧ vw l = (dec l).2 := by
  unfold vw at h ⊢
  split at h
  · exact absurd rfl h
  · rename_i h2
    rw [if_neg h2]
    exact ⟨fun e => h2 (.inl e), fun e => h2 (.inr e), rfl⟩
def checkF (l : List UInt8) (p : Nat) : Option Nat :=
  if h : vw l = 0 then (if l = [] then none else some p) else checkF (l.drop (vw l)) (p + vw l)
termination_by l.length
decreasing_by
  have := vw_le l
  rw [List.length_drop]
  omega
def runesF (l : List UInt8) : Nat := if h : l = [] then 0 else 1 + runesF (l.drop (dec l).2)
termination_by l.length
decreasing_by
  have := dec_width l h
  rw [List.length_drop]
  omega
/-- An escape's sign of a byte; 0: it has none. -/
def signB (c : UInt8) : UInt8 := if c = 34 ∨ c = 92 then c else if c = 8 then 98 else if c = 9 then 116 else if c = 10 then 110 else if c = 12 then 102 else if c = 13 then 114 else 0
def digB (n : Nat) : UInt8 := if n < 10 then UInt8.ofNat (48 + n) else UInt8.ofNat (87 + n)
def quoteB (c : UInt8) : List UInt8 := if signB c ≠ 0 then [92, signB c] else if c < 32 then [92, 117, 48, 48, digB (c.toNat / 16), digB (c.toNat % 16)] else [c]
def quoteL (l : List UInt8) : List UInt8 := 34 :: (l.flatMap quoteB ++ [34])
/-- What an escape's sign means. -/
def meantB (c : UInt8) : Option UInt8 := if c = 34 ∨ c = 92 ∨ c = 47 then some c else if c = 98 then some 8 else if c = 102 then some 12 else if c = 110 then some 10 else if c = 114 then some 13 else if c = 116 then some 9 else none
def hexB (c : UInt8) : Option Nat := if 48 ≤ c.toNat ∧ c.toNat ≤ 57 then some (c.toNat - 48) else if 97 ≤ c.toNat ∧ c.toNat ≤ 102 then some (c.toNat - 87) else if 65 ≤ c.toNat ∧ c.toNat ≤ 70 then some (c.toNat - 55) else none
/-- The number of four digits. -/
def hexL : List UInt8 → Nat → Option Nat
  | [], n => some n
  | c :: t, n => match hexB c with | none => none | some h => hexL t (16 * n + h)
def unitL (l : List UInt8) : Option Nat := match l with
  | 92 :: 117 :: a :: b :: c :: d :: _ => hexL [a, b, c, d] 0
  | _ => none
/-- The rune that an escape at the front means, and how long it is. -/
def escL (l : List UInt8) : Option (Nat × Nat) :=
  match (l[1]?).bind meantB with
  | some c => some (c.toNat, 2)
  | none => match unitL l with
    | none => none
    | some a => if 56320 ≤ a ∧ a ≤ 57343 then none else if a < 55296 ∨ 57343 < a then some (a, 6) else
      match unitL (l.drop 6) with
      | none => none
      | some b => if b < 56320 ∨ 57343 < b then none else some (65536 + (a - 55296) * 1024 + (b - 56320), 12)
theorem escL_len {l : List UInt8} {r n : Nat} (h : escL l = some (r, n)) : (n = 2 ∨ n = 6 ∨ n = 12) ∧ 0 < l.length := by
  unfold escL at h
  split at h
  · rename_i c hc
    cases h
    refine ⟨.inl rfl, ?_⟩
    cases l with
    | nil => simp at hc
    | cons _ _ => simp
  · split at h
    · cases h
    · rename_i a ha
      have hl : 0 < l.length := by
        cases l with
        | nil => simp [unitL] at ha
        | cons _ _ => simp
      split at h
      · cases h
      · split at h
        · cases h; exact ⟨.inr (.inl rfl), hl⟩
        · split at h
          · cases h
          · split at h
            · cases h
            · exact ⟨.inr (.inr (Prod.mk.inj (Option.some.inj h)).2.symm), hl⟩
def unqF (l acc : List UInt8) (p : Nat) : Option (List UInt8 × Nat) :=
  if l.head? = some 34 then some (acc, p + 1)
  else if l.head? = some 92 then
    match h : escL l with
    | none => none
    | some (r, n) => unqF (l.drop n) (acc ++ encodeRune (r : Int)) (p + n)
  else if at4 l 0 < 32 then none
  else if h : vw l = 0 then none
  else unqF (l.drop (vw l)) (acc ++ l.take (vw l)) (p + vw l)
termination_by l.length
decreasing_by
  · have := escL_len h
    rw [List.length_drop]
    omega
  · have := vw_le l
    rw [List.length_drop]
    omega
def unquoteL (l : List UInt8) : List UInt8 × Nat := match l with
  | 34 :: t => (unqF t [] 1).getD ([], 0)
  | _ => ([], 0)
/-! The decoder at a place of a text. -/
theorem get!_at (s : ByteArray) (i : Nat) : (s.get! i).toNat = at4 s.data.toList i := by rw [← getD_get!']; rfl
theorem at4_drop (l : List UInt8) (p i : Nat) : at4 (l.drop p) i = at4 l (p + i) := by
  unfold at4
  rw [List.getD_eq_getElem?_getD, List.getElem?_drop, ← List.getD_eq_getElem?_getD]
theorem decode_drop (s : ByteArray) (p : Nat) : Utf8.decode s p = dec (s.data.toList.drop p) := by
  rw [decode_at, get!_at, get!_at, get!_at, get!_at]
  unfold dec
  rw [at4_drop, at4_drop, at4_drop, at4_drop, List.length_drop, Array.length_toList]
  rfl
theorem decodeL_dec (l : List UInt8) : decodeL l = dec l := by
  unfold decodeL
  rw [decode_drop, List.drop_zero]
/-- What was decoded is what its rune is told by. -/
theorem decodeN_told (n b0 b1 b2 b3 : Nat) (h0 : b0 < 256) (h1 : b1 < 256) (h2 : b2 < 256) (h3 : b3 < 256) (h : decodeN n b0 b1 b2 b3 ≠ (65533, 1)) :
    ((decodeN n b0 b1 b2 b3).2 = 1 ∧ b0 < 128 ∧ (decodeN n b0 b1 b2 b3).1 = b0) ∨
    ((decodeN n b0 b1 b2 b3).2 = 2 ∧ 1 < n ∧ 128 ≤ (decodeN n b0 b1 b2 b3).1 ∧ (decodeN n b0 b1 b2 b3).1 ≤ 2047 ∧ b0 = 192 + (decodeN n b0 b1 b2 b3).1 / 64 ∧ b1 = 128 + (decodeN n b0 b1 b2 b3).1 % 64) ∨
    ((decodeN n b0 b1 b2 b3).2 = 3 ∧ 2 < n ∧ 2048 ≤ (decodeN n b0 b1 b2 b3).1 ∧ ((decodeN n b0 b1 b2 b3).1 < 55296 ∨ 57343 < (decodeN n b0 b1 b2 b3).1) ∧ (decodeN n b0 b1 b2 b3).1 ≤ 65535 ∧ b0 = 224 + (decodeN n b0 b1 b2 b3).1 / 4096 ∧ b1 = 128 + (decodeN n b0 b1 b2 b3).1 / 64 % 64 ∧ b2 = 128 + (decodeN n b0 b1 b2 b3).1 % 64) ∨
    ((decodeN n b0 b1 b2 b3).2 = 4 ∧ 3 < n ∧ 65536 ≤ (decodeN n b0 b1 b2 b3).1 ∧ (decodeN n b0 b1 b2 b3).1 ≤ 1114111 ∧ b0 = 240 + (decodeN n b0 b1 b2 b3).1 / 262144 ∧ b1 = 128 + (decodeN n b0 b1 b2 b3).1 / 4096 % 64 ∧ b2 = 128 + (decodeN n b0 b1 b2 b3).1 / 64 % 64 ∧ b3 = 128 + (decodeN n b0 b1 b2 b3).1 % 64) := by
  unfold decodeN at h ⊢
  split
  · exact .inl ⟨rfl, by assumption, rfl⟩
  · split
    · split
      · refine .inr (.inl ⟨rfl, ?_⟩)
        simp only []
        omega
      · rename_i a b c
        rw [if_neg a, if_pos b, if_neg c] at h
        exact absurd rfl h
    · split
      · split
        · refine .inr (.inr (.inl ⟨rfl, ?_⟩))
          simp only []
          omega
        · rename_i a b c d
          rw [if_neg a, if_neg b, if_pos c, if_neg d] at h
          exact absurd rfl h
      · split
        · split
          · refine .inr (.inr (.inr ⟨rfl, ?_⟩))
            simp only []
            omega
          · rename_i a b c d e
            rw [if_neg a, if_neg b, if_neg c, if_pos d, if_neg e] at h
            exact absurd rfl h
        · rename_i a b c d
          rw [if_neg a, if_neg b, if_neg c, if_neg d] at h
          exact absurd rfl h
theorem at4_eq {l : List UInt8} {i n : Nat} (hi : i < l.length) (h : at4 l i = n) : l[i]? = some (UInt8.ofNat n) := by
  unfold at4 at h
  rw [List.getD_eq_getElem?_getD, List.getElem?_eq_getElem hi] at h
  rw [List.getElem?_eq_getElem hi, ← h]
  simp
theorem take_get4 {l : List UInt8} : ∀ (n : Nat), n ≤ l.length → l.take n = (List.range n).map fun i => UInt8.ofNat (at4 l i)
  | 0, _ => by simp
  | n + 1, h => by
    rw [List.take_succ_eq_append_getElem (by omega), take_get4 n (by omega), List.range_succ, List.map_append]
    congr 1
    have := at4_eq (l := l) (i := n) (by omega) rfl
    rw [List.getElem?_eq_getElem (by omega)] at this
    simp only [List.map_cons, List.map_nil]
    rw [Option.some.inj this]
theorem dec_told (l : List UInt8) (h : vw l ≠ 0) : encodeRune ((dec l).1 : Int) = l.take (vw l) ∧ (dec l).1 ≤ 1114111 ∧ ¬ (55296 ≤ (dec l).1 ∧ (dec l).1 ≤ 57343) ∧ ((dec l).1 < 128 ↔ at4 l 0 < 128) ∧ (at4 l 0 < 128 → (dec l).1 = at4 l 0 ∧ vw l = 1) := by
  obtain ⟨hne, hd, hv⟩ := vw_pos h
  have hlen := (vw_le l).1
  rw [take_get4 _ hlen, hv]
  unfold dec at hd ⊢
  have ht := decodeN_told l.length (at4 l 0) (at4 l 1) (at4 l 2) (at4 l 3) (at4_lt _ _) (at4_lt _ _) (at4_lt _ _) (at4_lt _ _) hd
  obtain ⟨r, hr⟩ : ∃ r, (decodeN l.length (at4 l 0) (at4 l 1) (at4 l 2) (at4 l 3)).1 = r := ⟨_, rfl⟩
  rw [hr] at ht ⊢
  rcases ht with ⟨w, h1, h2⟩ | ⟨w, h1, h2, h3, h4, h5⟩ | ⟨w, h1, h2, h3, h4, h5, h6, h7⟩ | ⟨w, h1, h2, h3, h4, h5, h6, h7⟩
  · rw [w]
    refine ⟨?_, by omega, by omega, by omega, fun _ => ⟨h2, rfl⟩⟩
    unfold encodeRune
    rw [encodeRuneZ_one (by omega) (by omega), h2]
    rfl
  · rw [w]
    refine ⟨?_, by omega, by omega, by omega, by omega⟩
    unfold encodeRune
    rw [encodeRuneZ_two (by omega) (by omega)]
    show [((192 : Int) + (r : Int) / 64).toNat.toUInt8, ((128 : Int) + (r : Int) % 64).toNat.toUInt8] = [UInt8.ofNat (at4 l 0), UInt8.ofNat (at4 l 1)]
    rw [show ((192 : Int) + (r : Int) / 64).toNat = 192 + r / 64 from by omega, show ((128 : Int) + (r : Int) % 64).toNat = 128 + r % 64 from by omega, ← h4, ← h5]
  · rw [w]
    refine ⟨?_, by omega, by omega, by omega, by omega⟩
    unfold encodeRune
    rw [encodeRuneZ_three (by omega)]
    show [((224 : Int) + (r : Int) / 4096).toNat.toUInt8, ((128 : Int) + (r : Int) / 64 % 64).toNat.toUInt8, ((128 : Int) + (r : Int) % 64).toNat.toUInt8] = [UInt8.ofNat (at4 l 0), UInt8.ofNat (at4 l 1), UInt8.ofNat (at4 l 2)]
    rw [show ((224 : Int) + (r : Int) / 4096).toNat = 224 + r / 4096 from by omega, show ((128 : Int) + (r : Int) / 64 % 64).toNat = 128 + r / 64 % 64 from by omega, show ((128 : Int) + (r : Int) % 64).toNat = 128 + r % 64 from by omega, ← h5, ← h6, ← h7]
  · rw [w]
    refine ⟨?_, by omega, by omega, by omega, by omega⟩
    unfold encodeRune
    rw [encodeRuneZ_four (by omega) (by omega)]
    show [((240 : Int) + (r : Int) / 262144).toNat.toUInt8, ((128 : Int) + (r : Int) / 4096 % 64).toNat.toUInt8, ((128 : Int) + (r : Int) / 64 % 64).toNat.toUInt8, ((128 : Int) + (r : Int) % 64).toNat.toUInt8] = [UInt8.ofNat (at4 l 0), UInt8.ofNat (at4 l 1), UInt8.ofNat (at4 l 2), UInt8.ofNat (at4 l 3)]
    rw [show ((240 : Int) + (r : Int) / 262144).toNat = 240 + r / 262144 from by omega, show ((128 : Int) + (r : Int) / 4096 % 64).toNat = 128 + r / 4096 % 64 from by omega, show ((128 : Int) + (r : Int) / 64 % 64).toNat = 128 + r / 64 % 64 from by omega, show ((128 : Int) + (r : Int) % 64).toNat = 128 + r % 64 from by omega, ← h4, ← h5, ← h6, ← h7]
/-- A byte of ASCII is a rune. -/
theorem dec_ascii (l : List UInt8) (hne : l ≠ []) (h : at4 l 0 < 128) : dec l = (at4 l 0, 1) ∧ vw l = 1 := by
  have e : dec l = (at4 l 0, 1) := by unfold dec decodeN; rw [if_pos h]
  refine ⟨e, ?_⟩
  unfold vw
  rw [e, if_neg]
  rintro (h2 | h2)
  · exact hne h2
  · have := (Prod.mk.inj h2).1; omega
end Go.Proofs.YtpibbokkdjjgeaaDoor

/-
  glyph.Check, Runes, Less, walked.
-/
namespace Go.Proofs.YtpibbokkdjjgeaaDoor
open Go.RowKit
set_option linter.unusedSimpArgs false
set_option linter.unusedVariables false
def bsL (l : List UInt8) : ByteArray := ⟨l.toArray⟩
theorem bsL_toList (l : List UInt8) : (bsL l).data.toList = l := by unfold bsL; simp
theorem bsL_size (l : List UInt8) : (bsL l).size = l.length := by unfold bsL; simp [ByteArray.size]
theorem bsL_data (s : ByteArray) : bsL s.data.toList = s := by unfold bsL; simp
theorem extract_bsL (s : ByteArray) (i j : Nat) : s.extract i j = bsL ((s.data.toList.take j).drop i) := by
  apply ByteArray.ext
  apply Array.toList_inj.mp
  rw [ByteArray.data_extract, Array.toList_extract, List.extract_eq_take_drop, bsL_toList, List.drop_take]
theorem tail_data (s : ByteArray) (p : Nat) : (s.extract p s.size).data.toList = s.data.toList.drop p := by
  rw [extract_bsL, bsL_toList, List.take_of_length_le (by rw [Array.length_toList]; exact Nat.le_refl _)]
theorem len_data (s : ByteArray) : s.data.toList.length = s.size := Array.length_toList
/-- Where it is none: a number of Go's. -/
def optI : Option Nat → Int
  | none => -1
  | some n => (n : Int)
theorem checkF_step (l : List UInt8) (p : Nat) : checkF l p = if vw l = 0 then (if l = [] then none else some p) else checkF (l.drop (vw l)) (p + vw l) := by
  rw [checkF]
  split <;> rfl
theorem prefix_three (l : List UInt8) : Lib.hasPrefix l [239, 191, 189] = true ↔ at4 l 0 = 239 ∧ at4 l 1 = 191 ∧ at4 l 2 = 189 ∧ 2 < l.length := by
  unfold Lib.hasPrefix at4
  constructor
  · intro h
    match l with
    | [] => simp [List.isPrefixOf] at h
    | [a] => simp [List.isPrefixOf] at h
    | [a, b] => simp [List.isPrefixOf] at h
    | a :: b :: c :: t =>
      simp [List.isPrefixOf] at h
      obtain ⟨rfl, rfl, rfl⟩ := h
      simp
  · intro h
    match l with
    | [] => simp at h
    | [a] => simp at h
    | [a, b] => simp at h
    | a :: b :: c :: t =>
      simp at h
      obtain ⟨h1, h2, h3⟩ := h
      have e1 : a = 239 := UInt8.toNat_inj.1 h1
      have e2 : b = 191 := UInt8.toNat_inj.1 h2
      have e3 : c = 189 := UInt8.toNat_inj.1 h3
      subst e1 e2 e3
      simp [List.isPrefixOf]
/-- The rune that stands for none: told by its bytes, or for want of any. -/
theorem dec_error (l : List UInt8) (hne : l ≠ []) (h : (dec l).1 = 65533) : (vw l = 0 ∧ Lib.hasPrefix l [239, 191, 189] = false) ∨ (vw l = 3 ∧ Lib.hasPrefix l [239, 191, 189] = true) := by
  by_cases hv : vw l = 0
  · refine .inl ⟨hv, ?_⟩
    have hd : dec l = (65533, 1) := by
      unfold vw at hv
      split at hv
      · rename_i h2
        rcases h2 with h2 | h2
        · exact absurd h2 hne
        · exact h2
      · have := (dec_width l hne).1; omega
    cases hp : Lib.hasPrefix l [239, 191, 189] with
    | false => rfl
    | true =>
      obtain ⟨h1, h2, h3, h4⟩ := (prefix_three l).1 hp
      have e : dec l = (65533, 3) := by
        unfold dec Go.Lib.decodeN
        rw [h1, h2, h3, if_neg (by omega), if_neg (by omega), if_pos (by omega), if_pos (by omega)]
      rw [e] at hd
      exact absurd (Prod.mk.inj hd).2 (by omega)
  · refine .inr ?_
    obtain ⟨h1, h2, h3⟩ := vw_pos hv
    have ht := decodeN_told l.length (at4 l 0) (at4 l 1) (at4 l 2) (at4 l 3) (at4_lt _ _) (at4_lt _ _) (at4_lt _ _) (at4_lt _ _) h2
    have hr : (Go.Lib.decodeN l.length (at4 l 0) (at4 l 1) (at4 l 2) (at4 l 3)).1 = 65533 := h
    have hw : (Go.Lib.decodeN l.length (at4 l 0) (at4 l 1) (at4 l 2) (at4 l 3)).2 = vw l := h3.symm
    rw [hr, hw] at ht
    have hb := at4_lt l 0
    rw [prefix_three]
    omega
set_option maxRecDepth 100000 in
set_option maxHeartbeats 1000000 in
theorem check_any (s : ByteArray) (hs : s.size ≤ 1000000000) (w : World) :
    Calls Tryd.prog 17 #[.string s] w fun e w' => e = .returned (.int .i64 (optI (checkF s.data.toList 0))) ∧ Below w.heap.size w w' := by
  obtain ⟨R, hR⟩ : ∃ R, checkF s.data.toList 0 = R := ⟨_, rfl⟩
  rw [hR]
  have HR := Lib.hid hR
  clear hR
  go_enter Tryd.func17, Tryd.ntmps17
  go_wp2_with fail
  go_loopw [] (fun wr => ∃ pos : Nat, pos ≤ s.size ∧ wr.heap[w.heap.size]? = some (.stringIter s pos) ∧ Hid (checkF (s.data.toList.drop pos) pos = R) ∧ Below w.heap.size w wr) (fun wr => s.size - wr.iterPos w.heap.size)
  case atStart => exact ⟨0, Nat.zero_le _, World.iter_heap w s 0, Lib.hid (by rw [List.drop_zero]; exact HR.out), (Below.refl _ w).alloc (Nat.le_refl _) _⟩
  case round =>
    obtain ⟨pos, hle, hit, hck, hbw⟩ := hrel
    by_cases hp : pos < s.size
    · have hne : s.data.toList.drop pos ≠ [] := by
        intro e
        have := congrArg List.length e
        rw [List.length_drop, len_data, List.length_nil] at this
        omega
      have hstep := hck.out
      rw [checkF_step, if_neg hne, List.drop_drop] at hstep
      have hw1 := dec_width _ hne
      have her := dec_error _ hne
      have hnx0 := fun ty => Lib.run_next_any_at (P := Tryd.prog) wr w.heap.size s pos ty hit hp
      rw [decode_drop] at hnx0
      have hpre := fun wx => Tryd.strings_HasPrefix (s.extract pos s.size) ⟨#[239, 191, 189]⟩ wx
      rw [tail_data] at hpre
      have hlen : (s.data.toList.drop pos).length = s.size - pos := by rw [List.length_drop, len_data]
      obtain ⟨r, hr⟩ : ∃ r, (dec (s.data.toList.drop pos)).1 = r := ⟨_, rfl⟩
      obtain ⟨wd, hwd⟩ : ∃ r, (dec (s.data.toList.drop pos)).2 = r := ⟨_, rfl⟩
      obtain ⟨v, hv⟩ : ∃ v, vw (s.data.toList.drop pos) = v := ⟨_, rfl⟩
      obtain ⟨b, hb⟩ : ∃ b, Lib.hasPrefix (s.data.toList.drop pos) [239, 191, 189] = b := ⟨_, rfl⟩
      have hvr : r ≠ 65533 → v ≠ 0 := fun h e => by
        rw [e] at hv
        unfold vw at hv
        split at hv
        · rename_i h2
          rcases h2 with h2 | h2
          · exact hne h2
          · rw [h2] at hr; exact h hr.symm
        · rename_i h2; omega
      have hvw : v ≠ 0 → v = wd := fun h => by
        rw [← hv] at h
        rw [← hv, (vw_pos h).2.2, hwd]
      change ∀ wx, Calls Tryd.prog 34 #[.string (s.extract pos s.size), .string ⟨#[239, 191, 189]⟩] wx fun e w' => e = .returned (.bool (Lib.hasPrefix (s.data.toList.drop pos) [239, 191, 189])) ∧ w' = wx at hpre
      rw [hb] at hpre her
      rw [hr, hv] at her
      rw [hv] at hstep
      rw [hr, hwd] at hnx0
      rw [hwd, hlen] at hw1
      have HIT := Lib.hid (Lib.iterAt_heap wr w.heap.size s pos (pos + wd) hit)
      have HB := Lib.hid (Lib.below_iterAt hbw (k := w.heap.size) (Nat.le_refl _) s (pos + wd))
      have HI0 := Lib.hid hit
      have HST := Lib.hid hstep; have HPRE := Lib.hid hpre; have HER := Lib.hid her; have HVR := Lib.hid hvr; have HVW := Lib.hid hvw
      have HW1 := Lib.hid hw1
      clear hit hbw hck hr hwd hv hb hstep hne hlen hpre her hvr hvw hw1
      by_cases h5 : r = 65533
      · subst h5
        have hnx := hnx0
        clear hnx0
        go_wp2_with fail
        refine (HPRE.out _).mono ?_
        rintro e w2 ⟨rfl, rfl⟩
        cases b with
        | false =>
          have hR : R = some pos := by
            rcases HER.out (by first | trivial | rfl) with ⟨h1, _⟩ | ⟨_, h2⟩
            · rw [← HST.out, h1]; rfl
            · cases h2
          have HRR := Lib.hid hR
          clear hR
          go_wp2_with fail
          go_ret
          exact ⟨by rw [HRR.out]; rfl, HB.out⟩
        | true =>
          have hv3 : v = 3 := by
            rcases HER.out (by first | trivial | rfl) with ⟨_, h2⟩ | ⟨h1, _⟩
            · cases h2
            · exact h1
          have hwd3 : v = wd := HVW.out (by omega)
          go_wp2_with fail
          go_roundw
          case rel => exact ⟨pos + wd, by have := HW1.out; omega, HIT.out, Lib.hid (by have := HST.out; rw [hv3, if_neg (by omega)] at this; rw [← hwd3, hv3]; exact this), HB.out⟩
          case measure => simp only [World.iterPos, HIT.out, HI0.out]; have := HW1.out; omega
      · have hn5 : ((r : Int) == 65533) = false := by simp; omega
        have hnx := hnx0
        have H5 := Lib.hid h5
        clear hnx0 h5
        go_wp2_with fail
        go_roundw
        case rel =>
          have h0 := HVR.out H5.out
          exact ⟨pos + wd, by have := HW1.out; omega, HIT.out, Lib.hid (by have := HST.out; rw [if_neg h0] at this; rw [← HVW.out h0]; exact this), HB.out⟩
        case measure => simp only [World.iterPos, HIT.out, HI0.out]; have := HW1.out; omega
    · have hnil : s.data.toList.drop pos = [] := List.drop_eq_nil_of_le (by rw [len_data]; omega)
      have hR : R = none := by
        rw [← hck.out, hnil, checkF_step]
        rfl
      have HRR := Lib.hid hR
      have hnx : ∀ ty, (Instr.next (.pointer (some ⟨w.heap.size, 0, none⟩)) true ty).run Tryd.prog wr = _ := fun ty => Lib.run_next_end_at wr w.heap.size s pos ty hit hp
      clear hck hnil hR
      go_wp2_with fail
      go_ret
      exact ⟨by rw [HRR.out]; rfl, hbw⟩
theorem runesF_from (s : ByteArray) : ∀ (f pos : Nat), s.size - pos ≤ f → Lib.runeCountFrom s f pos = runesF (s.data.toList.drop pos)
  | 0, pos, h => by
    rw [List.drop_eq_nil_of_le (by rw [len_data]; omega), runesF]
    rfl
  | f + 1, pos, h => by
    rw [runesF]
    unfold Lib.runeCountFrom
    by_cases hp : pos < s.size
    · have hne : s.data.toList.drop pos ≠ [] := by
        intro e
        have := congrArg List.length e
        rw [List.length_drop, len_data, List.length_nil] at this
        omega
      have hw := dec_width _ hne
      rw [if_pos hp, dif_neg hne, decode_drop, runesF_from s f _ (by omega), List.drop_drop]
    · rw [if_neg hp, dif_pos (List.drop_eq_nil_of_le (by rw [len_data]; omega))]
theorem runes_any (s : ByteArray) (hs : s.size ≤ 1000000000) (w : World) :
    Calls Tryd.prog 21 #[.string s] w fun e w' => e = .returned (.int .i64 (runesF s.data.toList : Int)) ∧ Below w.heap.size w w' := by
  have h := runesF_from s s.size 0 (by omega)
  rw [List.drop_zero] at h
  have hc := fun w => Tryd.utf8_RuneCountInString s w (by omega)
  unfold Lib.runeCount at hc
  rw [h] at hc
  have HC := Lib.hid hc
  clear hc h
  go_enter Tryd.func21, Tryd.ntmps21
  go_wp2_with fail
  refine (HC.out _).mono ?_
  rintro e w' ⟨rfl, pos, rfl⟩
  go_wp2_with fail
  go_ret
  exact ⟨rfl, (Below.refl _ w).alloc (Nat.le_refl _) _⟩
/-- Ahead of it? -/
def lessL (a b : List UInt8) : Bool := decide (Lib.compareBytes a b < 0)
theorem less_any (a b : ByteArray) (w : World) :
    Calls Tryd.prog 20 #[.string a, .string b] w fun e w' => e = .returned (.bool (lessL a.data.toList b.data.toList)) ∧ Below w.heap.size w w' := by
  have hc := fun w => Tryd.strings_Compare a b w
  unfold lessL
  obtain ⟨x, hx⟩ : ∃ x, Lib.compareBytes a.data.toList b.data.toList = x := ⟨_, rfl⟩
  rw [hx] at hc ⊢
  have HC := Lib.hid hc
  clear hc hx
  go_enter Tryd.func20, Tryd.ntmps20
  go_wp2_with fail
  refine (HC.out _).mono ?_
  rintro e w' ⟨rfl, rfl⟩
  go_wp2_with fail
  go_ret
  exact ⟨rfl, Below.refl _ _⟩
end Go.Proofs.YtpibbokkdjjgeaaDoor

/-
  What the functions of these laws compute, as plain Lean functions, and that the machine's calls compute it: written by this session's own hook over the kit's print.
-/
namespace Go.Proofs.YtpibbokkdjjgeaaDoor.Pg
open Go.RowKit Go.Proofs.YtpibbokkdjjgeaaDoorW.PrintWords Go.Proofs.YtpibbokkdjjgeaaDoorW.PrintLast Go.Proofs.YtpibbokkdjjgeaaDoorW.PrintMore
attribute [local go_sem] max2_int min2_int max_two min_two max_three min_three max_four min_four   -- for this text's walks alone
set_option linter.unusedVariables false
set_option linter.unusedSimpArgs false



def errW : Option Int → Value
  | none => .nilIface
  | some c => .iface 0 (.int .i64 c)
theorem errW_none : errW none = .nilIface := rfl
theorem errW_some (c : Int) : errW (some c) = .iface 0 (.int .i64 c) := rfl

theorem info3 : (Tryd.prog.info? 3).map (fun i => (i.zero, i.size, i.bytes)) = some (some (.int .i64 0), 1, 8) := by kernel_rfl
theorem info5 : (Tryd.prog.info? 5).map (fun i => (i.zero, i.size, i.bytes)) = some (some (.int .u8 0), 1, 1) := by kernel_rfl
theorem info9 : (Tryd.prog.info? 9).map (fun i => (i.zero, i.size, i.bytes)) = some (some (.string ⟨#[]⟩), 1, 16) := by kernel_rfl
-- the values' own types

end Go.Proofs.YtpibbokkdjjgeaaDoor.Pg

/-
  What the functions of these laws compute, as plain Lean functions, and that the machine's calls compute it: written by this session's own hook over the kit's print.
-/
namespace Go.Proofs.YtpibbokkdjjgeaaDoor.Pg
open Go.RowKit Go.Proofs.YtpibbokkdjjgeaaDoorW.PrintWords Go.Proofs.YtpibbokkdjjgeaaDoorW.PrintLast Go.Proofs.YtpibbokkdjjgeaaDoorW.PrintMore
attribute [local go_sem] max2_int min2_int max_two min_two max_three min_three max_four min_four   -- for this text's walks alone
set_option linter.unusedVariables false
set_option linter.unusedSimpArgs false

-- NOT PRINTED: function 50 (abi_NoEscape)

-- NOT PRINTED: function 40 (strings_Builder_copyCheck)

-- NOT PRINTED: function 27 (strings_Builder_WriteByte)

/-! ### glyph_sign: function 28 -/
def glyph_sign.j0 : Nat → Int → Int → Bool → Option (Int)
  | 0, _, _, _ => none
  | k + 1, x0, x3, x4 => if x4 = true then (some x0) else (if x3 = 8 then (some 98) else (if x3 = 9 then (some 116) else (if x3 = 10 then (some 110) else (if x3 = 12 then (some 102) else (if x3 = 13 then (some 114) else (some 0))))))
def glyph_sign.f (k : Nat) (a0 : Int) : Option (Int) := if a0 = 34 then (glyph_sign.j0 k a0 a0 (a0 == 34)) else (glyph_sign.j0 k a0 a0 (a0 == 92))
theorem glyph_sign.mono_l : ∀ k, (∀ y0 y1 y2, LeO (glyph_sign.j0 k y0 y1 y2) (glyph_sign.j0 (k + 1) y0 y1 y2))
  | 0 => fun _ _ _ r h => by simp [glyph_sign.j0] at h
  | k + 1 => by
    have ih0 := glyph_sign.mono_l k
    · intro y0 y1 y2
      unfold glyph_sign.j0
      repeat' first
      | (with_reducible exact ih0 _ _ _)
      | (with_reducible exact LeO.refl _)
      | (with_reducible exact LeO.none _)
      | (with_reducible refine LeO.ite ?_ ?_)
      | (with_reducible refine LeO.bind ?_ (fun _ => ?_))
      | exact ih0 _ _ _
      | exact LeO.none _
      | refine LeO.ite ?_ ?_
      | refine LeO.bind ?_ (fun _ => ?_)
theorem glyph_sign.mono : ∀ a0 k, LeO (glyph_sign.f k a0) (glyph_sign.f (k + 1) a0) := by
  intro a0 k
  have ih0 := glyph_sign.mono_l k
  unfold glyph_sign.f
  repeat' first
      | (with_reducible exact ih0 _ _ _)
      | (with_reducible exact LeO.refl _)
      | (with_reducible exact LeO.none _)
      | (with_reducible refine LeO.ite ?_ ?_)
      | (with_reducible refine LeO.bind ?_ (fun _ => ?_))
      | exact ih0 _ _ _
      | exact LeO.none _
      | refine LeO.ite ?_ ?_
      | refine LeO.bind ?_ (fun _ => ?_)
set_option maxHeartbeats 8000000 in
set_option maxRecDepth 100000 in
theorem glyph_sign.calls (k : Nat) (a0 : Int) (r : Int) (w : World) (h : glyph_sign.f k a0 = some r) :
    Calls Tryd.prog 28 #[.int .u8 a0] w fun e w' => e = .returned (.int .u8 r) ∧ Drawn0 w w' := by
  have H : (if a0 = 34 then (glyph_sign.j0 k a0 a0 (a0 == 34)) else (glyph_sign.j0 k a0 a0 (a0 == 92))) = some r := h
  clear h
  have HC2 := Aside0.mk H
  clear H
  go_enter Tryd.func28, Tryd.ntmps28
  go_upto_if 4 with (fail)
  go_cut [4] (fun v4 wc => ∃ (kq : Nat) (x4_1 : Bool), v4 = .bool x4_1 ∧ Aside0 (glyph_sign.j0 kq a0 a0 x4_1 = some r) ∧ Aside0 (kq ≤ k) ∧ Drawn0 w wc)
  case first =>
    have H := HC2.out
    clear HC2
    by_cases c3 : a0 = 34
    · rw [if_pos c3] at H
      have c3b0 : (a0 == 34) = true := beq_iff_eq.mpr c3
      have c3b1 : (a0 != 34) = false := bne_eq_false_iff_eq.mpr c3
      clear c3
      (first | rw [c3b0] | rw [c3b1] | (simp only [i64_w, i32_w]; rw [c3b0]) | skip)
      have H' := Aside0.mk H
      clear H
      go_wp2
      go_meet
      case rel => exact ⟨_, ((a0 == 34)), (by first | rfl | (simp; done) | (simp [*]; done)), H', ⟨by first | omega | exact Nat.le_refl _⟩, by repeat (first | exact Drawn0.refl _ | apply Drawn0.step)⟩
    · rw [if_neg c3] at H
      have c3b0 : (a0 == 34) = false := beq_eq_false_iff_ne.mpr c3
      have c3b1 : (a0 != 34) = true := bne_iff_ne.mpr c3
      (first | rw [c3b0] | rw [c3b1] | (simp only [i64_w, i32_w]; rw [c3b0]) | skip)
      have H' := Aside0.mk H
      clear H
      go_wp2
      go_meet
      case rel => exact ⟨_, ((a0 == 92)), (by first | rfl | (simp; done) | (simp [*]; done)), H', ⟨by first | omega | exact Nat.le_refl _⟩, by repeat (first | exact Drawn0.refl _ | apply Drawn0.step)⟩
  case rest =>
    clear HC2
    try clear c2
    try clear p2
    try clear c3
    try clear c3b0
    try clear c3b1
    obtain ⟨kq, x4_1, rfl, HA, HJ1, ⟨mc1, rfl⟩⟩ := hcut
    cases kq with
    | zero => exact absurd HA.out (by simp [glyph_sign.j0])
    | succ kj1 =>
      have H := HA.out
      clear HA
      simp only [glyph_sign.j0] at H
      by_cases c4 : x4_1 = true
      · subst c4
        have H1 : (some a0) = some r := by rw [if_pos rfl] at H; exact H
        clear H
        have H := H1
        clear H1
        obtain rfl := Option.some.inj H
        go_wp2
        go_ret
        exact ⟨by first | rfl | (simp; done) | (simp [*]; done), by repeat (first | exact Drawn0.refl _ | apply Drawn0.step)⟩
      · replace c4 := Bool.eq_false_iff.mpr c4
        subst c4
        have H1 : (if a0 = 8 then (some 98) else (if a0 = 9 then (some 116) else (if a0 = 10 then (some 110) else (if a0 = 12 then (some 102) else (if a0 = 13 then (some 114) else (some 0)))))) = some r := by rw [if_neg (show ¬ (false = true) by decide)] at H; exact H
        clear H
        have H := H1
        clear H1
        by_cases c5 : a0 = 8
        · rw [if_pos c5] at H
          have c5b0 : (a0 == 8) = true := beq_iff_eq.mpr c5
          have c5b1 : (a0 != 8) = false := bne_eq_false_iff_eq.mpr c5
          clear c5
          obtain rfl := Option.some.inj H
          go_wp2
          go_ret
          exact ⟨by first | rfl | (simp; done) | (simp [*]; done), by repeat (first | exact Drawn0.refl _ | apply Drawn0.step)⟩
        · rw [if_neg c5] at H
          have c5b0 : (a0 == 8) = false := beq_eq_false_iff_ne.mpr c5
          have c5b1 : (a0 != 8) = true := bne_iff_ne.mpr c5
          by_cases c6 : a0 = 9
          · rw [if_pos c6] at H
            have c6b0 : (a0 == 9) = true := beq_iff_eq.mpr c6
            have c6b1 : (a0 != 9) = false := bne_eq_false_iff_eq.mpr c6
            clear c6
            obtain rfl := Option.some.inj H
            go_wp2
            go_ret
            exact ⟨by first | rfl | (simp; done) | (simp [*]; done), by repeat (first | exact Drawn0.refl _ | apply Drawn0.step)⟩
          · rw [if_neg c6] at H
            have c6b0 : (a0 == 9) = false := beq_eq_false_iff_ne.mpr c6
            have c6b1 : (a0 != 9) = true := bne_iff_ne.mpr c6
            by_cases c7 : a0 = 10
            · rw [if_pos c7] at H
              have c7b0 : (a0 == 10) = true := beq_iff_eq.mpr c7
              have c7b1 : (a0 != 10) = false := bne_eq_false_iff_eq.mpr c7
              clear c7
              obtain rfl := Option.some.inj H
              go_wp2
              go_ret
              exact ⟨by first | rfl | (simp; done) | (simp [*]; done), by repeat (first | exact Drawn0.refl _ | apply Drawn0.step)⟩
            · rw [if_neg c7] at H
              have c7b0 : (a0 == 10) = false := beq_eq_false_iff_ne.mpr c7
              have c7b1 : (a0 != 10) = true := bne_iff_ne.mpr c7
              by_cases c8 : a0 = 12
              · rw [if_pos c8] at H
                have c8b0 : (a0 == 12) = true := beq_iff_eq.mpr c8
                have c8b1 : (a0 != 12) = false := bne_eq_false_iff_eq.mpr c8
                clear c8
                obtain rfl := Option.some.inj H
                go_wp2
                go_ret
                exact ⟨by first | rfl | (simp; done) | (simp [*]; done), by repeat (first | exact Drawn0.refl _ | apply Drawn0.step)⟩
              · rw [if_neg c8] at H
                have c8b0 : (a0 == 12) = false := beq_eq_false_iff_ne.mpr c8
                have c8b1 : (a0 != 12) = true := bne_iff_ne.mpr c8
                by_cases c9 : a0 = 13
                · rw [if_pos c9] at H
                  have c9b0 : (a0 == 13) = true := beq_iff_eq.mpr c9
                  have c9b1 : (a0 != 13) = false := bne_eq_false_iff_eq.mpr c9
                  clear c9
                  obtain rfl := Option.some.inj H
                  go_wp2
                  go_ret
                  exact ⟨by first | rfl | (simp; done) | (simp [*]; done), by repeat (first | exact Drawn0.refl _ | apply Drawn0.step)⟩
                · rw [if_neg c9] at H
                  have c9b0 : (a0 == 13) = false := beq_eq_false_iff_ne.mpr c9
                  have c9b1 : (a0 != 13) = true := bne_iff_ne.mpr c9
                  obtain rfl := Option.some.inj H
                  go_wp2
                  go_ret
                  exact ⟨by first | rfl | (simp; done) | (simp [*]; done), by repeat (first | exact Drawn0.refl _ | apply Drawn0.step)⟩

-- NOT PRINTED: function 29 (strings_Builder_WriteString)

-- NOT PRINTED: function 30 (strings_Builder_String)

-- NOT PRINTED: function 15 (glyph_Quote)

end Go.Proofs.YtpibbokkdjjgeaaDoor.Pg

/-
  glyph.Quote, walked.
-/
namespace Go.Proofs.YtpibbokkdjjgeaaDoor
open Go.RowKit
set_option linter.unusedSimpArgs false
set_option linter.unusedVariables false
theorem sign_f : ∀ n : Fin 256, Pg.glyph_sign.f 1 (n.val : Int) = some ((signB (UInt8.ofNat n.val)).toNat : Int) := by decide +kernel
theorem sign_any (c : UInt8) (w : World) : Calls Tryd.prog 28 #[.int .u8 c.toNat] w fun e w' => e = .returned (.int .u8 ((signB c).toNat : Int)) ∧ ∃ n, w' = w.drewN n := by
  have h := sign_f ⟨c.toNat, c.toNat_lt⟩
  simp only [UInt8.ofNat_toNat] at h
  exact (Pg.glyph_sign.calls 1 _ _ w h).mono fun e w' ⟨h1, h2⟩ => ⟨h1, h2.out⟩
/-- A builder of the call's own, and what it holds. -/
def BI (w : World) (bs : List UInt8) (wr : World) : Prop := Lib.IsBuilderF 41 5 w.heap.size w.heap.size (Lib.byteCells bs) wr ∧ Below w.heap.size w wr
theorem byteCells_app (a b : List UInt8) : Lib.byteCells (a ++ b) = Lib.byteCells a ++ Lib.byteCells b := by simp [Lib.byteCells]
theorem BI.drewN {w wr : World} {bs : List UInt8} (h : BI w bs wr) (n : Nat) : BI w bs (wr.drewN n) := by
  refine ⟨?_, h.2.trans ⟨rfl, rfl, rfl, Nat.le_refl _, fun _ _ => rfl⟩⟩
  exact h.1
theorem BI.start (w : World) : BI w [] (w.alloc (.cells #[.pointer none, .slice none 0 0] 41)) :=
  ⟨Lib.IsBuilderF.of (Lib.fresh_isBuilder 41 5 w), (Below.refl _ w).alloc (Nat.le_refl _) _⟩
theorem BI.byte {w wr : World} {bs : List UInt8} (h : BI w bs wr) (hl : bs.length ≤ 100000000000) (c : UInt8) :
    Calls Tryd.prog 27 #[.pointer (some ⟨w.heap.size, 0, none⟩), .int .u8 c.toNat] wr fun e w' => e = .returned .nilIface ∧ BI w (bs ++ [c]) w' ∧ Lib.OthersKept 5 (some w.heap.size) wr w' := by
  refine (Tryd.WriteByte_k w.heap.size w.heap.size _ _ wr h.1 (by rw [Lib.byteCells_length]; omega) h.2.size).mono fun e w' ⟨h1, h2, h3, h4⟩ => ⟨h1, ⟨.inr ?_, h.2.trans h3⟩, h4⟩
  rw [byteCells_app]
  exact h2
theorem strCells_data (s : ByteArray) : Lib.strCells s = Lib.byteCells s.data.toList := rfl
theorem BI.str {w wr : World} {bs : List UInt8} (h : BI w bs wr) (hl : bs.length ≤ 100000000000) (s : ByteArray) (hs : s.size ≤ 100000000000) :
    Calls Tryd.prog 29 #[.pointer (some ⟨w.heap.size, 0, none⟩), .string s] wr fun e w' => e = .returned (.tuple #[.int .i64 s.size, .nilIface]) ∧ BI w (bs ++ s.data.toList) w' ∧ Lib.OthersKept 5 (some w.heap.size) wr w' := by
  refine (Tryd.WriteString_k w.heap.size w.heap.size _ s wr h.1 (by rw [Lib.byteCells_length]; omega) h.2.size).mono fun e w' ⟨h1, h2, h3, h4⟩ => ⟨h1, ⟨.inr ?_, h.2.trans h3⟩, h4⟩
  rw [byteCells_app, ← strCells_data]
  exact h2
theorem BI.rune {w wr : World} {bs : List UInt8} (h : BI w bs wr) (hl : bs.length ≤ 100000000000) (r : Int) (hr0 : -2147483648 ≤ r) (hr1 : r ≤ 2147483647) :
    Calls Tryd.prog 33 #[.pointer (some ⟨w.heap.size, 0, none⟩), .int .i32 r] wr fun e w' => (∃ n : Int, e = .returned (.tuple #[.int .i64 n, .nilIface])) ∧ BI w (bs ++ Lib.encodeRune r) w' ∧ Lib.OthersKept 5 (some w.heap.size) wr w' := by
  refine (Tryd.WriteRune_k w.heap.size w.heap.size _ r hr0 hr1 wr h.1 (by rw [Lib.byteCells_length]; omega) h.2.size).mono fun e w' ⟨h1, h2, h3, h4⟩ => ⟨⟨_, h1⟩, ⟨.inr ?_, h.2.trans h3⟩, h4⟩
  rw [byteCells_app, Lib.byteCells_encodeRune]
  exact h2
theorem BI.told {w wr : World} {bs : List UInt8} (h : BI w bs wr) :
    Calls Tryd.prog 30 #[.pointer (some ⟨w.heap.size, 0, none⟩)] wr fun e w' => e = .returned (.string (bsL bs)) ∧ Below w.heap.size w w' :=
  (Tryd.String_any_k w.heap.size w.heap.size bs wr h.1 h.2.size).mono fun e w' ⟨h1, h2, h3, h4⟩ => ⟨h1, h.2.trans h3⟩
/-- What Quote has put down. -/
def qTo (s : ByteArray) (i : Nat) : List UInt8 := 34 :: (s.data.toList.take i).flatMap quoteB
theorem take_snoc (s : ByteArray) (k : Nat) (h : k < s.size) : s.data.toList.take (k + 1) = s.data.toList.take k ++ [s[k]] := by
  rw [List.take_succ_eq_append_getElem (by simpa using h)]; rfl
theorem qTo_succ (s : ByteArray) (i : Nat) (h : i < s.size) : qTo s (i + 1) = qTo s i ++ quoteB (s[i]'h) := by
  unfold qTo
  rw [take_snoc s i h, List.flatMap_append]
  simp
theorem quoteB_le (c : UInt8) : (quoteB c).length ≤ 6 := by
  unfold quoteB
  split
  · simp
  · split <;> simp
theorem qTo_le (s : ByteArray) : ∀ i, i ≤ s.size → (qTo s i).length ≤ 1 + 6 * i
  | 0, _ => by simp [qTo]
  | i + 1, h => by
    rw [qTo_succ s i (by omega), List.length_append]
    have := qTo_le s i (by omega)
    have := quoteB_le (s[i]'(by omega))
    omega
theorem dig_bs : ∀ (n : Nat) (h : n < 16), ((⟨#[48, 49, 50, 51, 52, 53, 54, 55, 56, 57, 97, 98, 99, 100, 101, 102]⟩ : ByteArray)[n]'h) = digB n := by
  intro n h
  have : n = 0 ∨ n = 1 ∨ n = 2 ∨ n = 3 ∨ n = 4 ∨ n = 5 ∨ n = 6 ∨ n = 7 ∨ n = 8 ∨ n = 9 ∨ n = 10 ∨ n = 11 ∨ n = 12 ∨ n = 13 ∨ n = 14 ∨ n = 15 := by omega
  rcases this with rfl | rfl | rfl | rfl | rfl | rfl | rfl | rfl | rfl | rfl | rfl | rfl | rfl | rfl | rfl | rfl <;> rfl
theorem dig_at : ∀ n : Fin 16, (bsL [48, 49, 50, 51, 52, 53, 54, 55, 56, 57, 97, 98, 99, 100, 101, 102]).data.toList[n.val]? = some (digB n.val) := by decide
set_option maxRecDepth 100000 in
set_option maxHeartbeats 2000000 in
theorem quote_any (s : ByteArray) (hs : s.size ≤ 1000000000) (w : World) :
    Calls Tryd.prog 15 #[.string s] w fun e w' => e = .returned (.string (bsL (quoteL s.data.toList))) ∧ Below w.heap.size w w' := by
  go_enter Tryd.func15, Tryd.ntmps15
  go_wp2_with fail
  refine ((BI.start w).byte (by simp) 34).mono ?_
  rintro e w1 ⟨rfl, hi1, _⟩
  have HI1 := Lib.hid hi1
  clear hi1
  go_wp2_with fail
  go_loopw [10] (fun iv wr => ∃ i : Nat, i ≤ s.size ∧ iv = .int .i64 i ∧ BI w (qTo s i) wr) (fun iv _ => s.size - (intOf iv).toNat)
  case atStart => exact ⟨0, Nat.zero_le _, rfl, HI1.out⟩
  case round =>
    obtain ⟨i, hi, rfl, hb⟩ := hrel
    have HB := Lib.hid hb
    clear hb HI1
    by_cases hlt : i < s.size
    · have hsu := qTo_succ s i hlt
      have hln := qTo_le s i (by omega)
      obtain ⟨c, hc⟩ : ∃ c, s[i]'hlt = c := ⟨_, rfl⟩
      rw [hc] at hsu
      obtain ⟨Q, hQ⟩ : ∃ Q, qTo s i = Q := ⟨_, rfl⟩
      have hb := HB.out
      rw [hQ] at hsu hln hb
      have HSU := Lib.hid hsu; have HQ := Lib.hid hQ
      have hsg := sign_any c
      obtain ⟨g, hg⟩ : ∃ g, signB c = g := ⟨_, rfl⟩
      rw [hg] at hsg
      have HSG := Lib.hid hsg; have HG := Lib.hid hg; have HB2 := Lib.hid hb
      clear hsu hQ hsg hg hb HB
      go_wp2_with fail
      refine (HSG.out _).mono ?_
      rintro e w2 ⟨rfl, n, rfl⟩
      have HB3 := Lib.hid (HB2.out.drewN n)
      clear HB2
      by_cases hg0 : g = 0
      · have hgz : ((g.toNat : Int) != 0) = false := by rw [hg0]; rfl
        have hgz2 : ((g.toNat : Int) == 0) = true := by rw [hg0]; rfl
        by_cases h32 : c.toNat < 32
        · have hcl : (c.toNat : Int) < 32 := by omega
          have hq : quoteB c = [92, 117, 48, 48, digB (c.toNat / 16), digB (c.toNat % 16)] := by
            unfold quoteB
            rw [HG.out, if_neg (by rw [hg0]; simp), if_pos (by exact UInt8.lt_iff_toNat_lt.2 h32)]
          have HQB := Lib.hid hq
          clear hq
          have hk : c.toNat / 16 < 16 := by omega
          have hm : c.toNat % 16 < 16 := Nat.mod_lt _ (by omega)
          obtain ⟨k, hkk⟩ : ∃ k, c.toNat / 16 = k := ⟨_, rfl⟩
          obtain ⟨m, hmm⟩ : ∃ k, c.toNat % 16 = k := ⟨_, rfl⟩
          have e1 : (c.toNat : Int) / 16 = (k : Int) := by omega
          have e2 : (c.toNat : Int) % 16 = (m : Int) := by omega
          rw [hkk] at hk
          rw [hmm] at hm
          have HK := Lib.hid hkk; have HM := Lib.hid hmm
          have hks : (k : Int) < 16 := by omega
          have hms : (m : Int) < 16 := by omega
          clear hkk hmm
          go_wp2_with fail
          refine (HB3.out.str (by omega) ⟨#[92, 117, 48, 48]⟩ (by decide)).mono ?_
          rintro e w3 ⟨rfl, hi3, _⟩
          have HI3 := Lib.hid hi3
          clear hi3
          go_wp2_with fail
          refine (HI3.out.byte (by rw [List.length_append]; simp; omega) _).mono ?_
          rintro e w4 ⟨rfl, hi4, _⟩
          have HI4 := Lib.hid hi4
          clear hi4 HI3
          go_wp2_with fail
          refine (HI4.out.byte (by rw [List.length_append, List.length_append]; simp; omega) _).mono ?_
          rintro e w5 ⟨rfl, hi5, _⟩
          have HI5 := Lib.hid hi5
          clear hi5 HI4
          go_wp2_with fail
          go_roundw
          case rel =>
            refine ⟨i + 1, by omega, by go_num, ?_⟩
            rw [HSU.out, HQB.out, HK.out, HM.out]
            have := HI5.out
            rw [List.append_assoc, List.append_assoc, dig_bs k hk, dig_bs m hm] at this
            exact this
          case measure => simp [intOf]; omega
        · have hcl : ¬ (c.toNat : Int) < 32 := by omega
          have hq : quoteB c = [c] := by
            unfold quoteB
            rw [HG.out, if_neg (by rw [hg0]; simp), if_neg (by rw [UInt8.lt_iff_toNat_lt]; exact h32)]
          have HQB := Lib.hid hq
          clear hq
          go_wp2_with fail
          refine (HB3.out.byte (by omega) c).mono ?_
          rintro e w3 ⟨rfl, hi3, _⟩
          have HI3 := Lib.hid hi3
          clear hi3
          go_wp2_with fail
          go_roundw
          case rel => exact ⟨i + 1, by omega, by go_num, by rw [HSU.out, HQB.out]; exact HI3.out⟩
          case measure => simp [intOf]; omega
      · have hgz : ((g.toNat : Int) != 0) = true := by
          have : g.toNat ≠ 0 := fun e => hg0 (UInt8.toNat_inj.1 e)
          simp; omega
        have hgz2 : ((g.toNat : Int) == 0) = false := by
          have : g.toNat ≠ 0 := fun e => hg0 (UInt8.toNat_inj.1 e)
          simp; omega
        have hq : quoteB c = [92, g] := by
          unfold quoteB
          rw [HG.out, if_pos hg0]
        have HQB := Lib.hid hq
        clear hq
        go_wp2_with fail
        refine (HB3.out.byte (by omega) 92).mono ?_
        rintro e w3 ⟨rfl, hi3, _⟩
        have HI3 := Lib.hid hi3
        clear hi3
        go_wp2_with fail
        refine (HI3.out.byte (by rw [List.length_append]; simp; omega) g).mono ?_
        rintro e w4 ⟨rfl, hi4, _⟩
        have HI4 := Lib.hid hi4
        clear hi4
        go_wp2_with fail
        go_roundw
        case rel => exact ⟨i + 1, by omega, by go_num, by rw [HSU.out, HQB.out]; have := HI4.out; rw [List.append_assoc] at this; exact this⟩
        case measure => simp [intOf]; omega
    · obtain rfl : i = s.size := by omega
      have hq : qTo s s.size ++ [34] = quoteL s.data.toList := by
        unfold qTo quoteL
        rw [List.take_of_length_le (by rw [len_data]; exact Nat.le_refl _)]
        rfl
      have hln := qTo_le s s.size (by omega)
      have HQ := Lib.hid hq
      clear hq
      go_wp2_with fail
      refine (HB.out.byte (by omega) 34).mono ?_
      rintro e w3 ⟨rfl, hi3, _⟩
      have HI3 := Lib.hid hi3
      clear hi3
      go_wp2_with fail
      refine (HI3.out.told).mono ?_
      rintro e w4 ⟨rfl, hb4⟩
      have HB4 := Lib.hid hb4
      clear hb4
      go_wp2_with fail
      go_ret
      exact ⟨by rw [HQ.out]; rfl, HB4.out⟩
end Go.Proofs.YtpibbokkdjjgeaaDoor

/-
  The library's strings.IndexRune at a text of ASCII alone: a rune beyond ASCII is not in it.
-/
namespace Go.Proofs.YtpibbokkdjjgeaaDoor
open Go.RowKit
set_option linter.unusedSimpArgs false
def AsciiAll (s : ByteArray) : Prop := ∀ b ∈ s.data.toList, b.toNat < 128
theorem AsciiAll.at {s : ByteArray} (h : AsciiAll s) (i : Nat) (hi : i < s.size) : (s[i]'hi).toNat < 128 := h _ (Array.getElem_mem_toList (xs := s.data) hi)
theorem below_drewN (w : World) (n : Nat) : Below w.heap.size w (w.drewN n) := ⟨rfl, rfl, rfl, Nat.le_refl _, fun _ _ => rfl⟩
theorem Below.draws {B : Nat} {w W : World} (h : Below B w W) (n : Nat) : Below B w (W.drewN n) := ⟨h.os, h.tape, h.output, h.size, h.block⟩
theorem indexByte_none : ∀ (l : List UInt8) (c : UInt8), (∀ b ∈ l, b ≠ c) → Lib.indexByte l c = -1 := by
  intro l c h
  induction l with
  | nil => rfl
  | cons b l ih =>
    have h1 := h b (by simp)
    have h2 := ih (fun x hx => h x (by simp [hx]))
    simp [Lib.indexByte, h1, h2]
theorem indexByte_far {s : ByteArray} (h : AsciiAll s) (a e : Nat) (c : UInt8) (hc : 128 ≤ c.toNat) : Lib.indexByte (s.extract a e).data.toList c = -1 :=
  indexByte_none _ _ fun b hb e => by have := h b (mem_extract hb); rw [e] at this; omega
theorem encode_shape (r : Int) (h1 : 128 ≤ r) (h2 : r ≤ 1114111) (hs : ¬ (55296 ≤ r ∧ r ≤ 57343)) :
    (∃ a b, Utf8.encode r = ⟨#[a, b]⟩ ∧ 128 ≤ b.toNat) ∨ (∃ a b c, Utf8.encode r = ⟨#[a, b, c]⟩ ∧ 128 ≤ c.toNat) ∨ (∃ a b c d, Utf8.encode r = ⟨#[a, b, c, d]⟩ ∧ 128 ≤ d.toNat) := by
  have hv : Utf8.valid r = true := by rw [validRune_eq, validRune, decide_eq_true_eq]; omega
  have hc : ¬ r.toNat < 128 := by omega
  have hb : 128 ≤ (UInt8.ofNat (128 + r.toNat % 64)).toNat := by simp; omega
  unfold Utf8.encode
  simp only [hv, if_true, hc, if_false]
  split
  · exact .inl ⟨_, _, rfl, hb⟩
  · split
    · exact .inr (.inl ⟨_, _, _, rfl, hb⟩)
    · exact .inr (.inr ⟨_, _, _, _, rfl, hb⟩)
theorem indexByte_no (s : ByteArray) (hs : AsciiAll s) (a e : Nat) (c : UInt8) (hc : 128 ≤ c.toNat) (w : World) :
    Calls Tryd.prog 59 #[.string (s.extract a e), .int .u8 c.toNat] w fun x w' => x = .returned (.int .i64 (-1)) ∧ w' = w := by
  have h := Tryd.strings_IndexByte (s.extract a e) (c.toNat : Int) w
  have e1 : ((c.toNat : Int).toNat.toUInt8) = c := by simp
  rw [e1, indexByte_far hs a e c hc] at h
  exact h
set_option maxRecDepth 100000 in
set_option maxHeartbeats 1000000 in
theorem indexRune_bad (s : ByteArray) (hs : AsciiAll s) (hm : s.size ≤ 1000) (w : World) :
    Calls Tryd.prog 52 #[.string s, .int .i32 65533] w fun e w' => e = .returned (.int .i64 (-1)) ∧ Below w.heap.size w w' := by
  have HS := Lib.hid hs
  clear hs
  go_enter Tryd.func52, Tryd.ntmps52
  go_wp2_with fail
  go_loopw [] (fun wr => ∃ pos : Nat, wr.heap[w.heap.size]? = some (.stringIter s pos) ∧ Below w.heap.size w wr) (fun wr => s.size - wr.iterPos w.heap.size)
  case atStart => exact ⟨0, World.iter_heap w s 0, (Below.refl _ w).alloc (Nat.le_refl _) _⟩
  case round =>
    obtain ⟨pos, hit, hbw⟩ := hrel
    by_cases hp : pos < s.size
    · obtain ⟨x, hx⟩ : ∃ x, s[pos]'hp = x := ⟨_, rfl⟩
      have hxa : x.toNat < 128 := by rw [← hx]; exact HS.out.at pos hp
      have hnx : ∀ ty, (Instr.next (.pointer (some ⟨w.heap.size, 0, none⟩)) true ty).run Tryd.prog wr = .ok (.tuple #[.bool true, .int .i64 pos, .int .i32 x.toNat]) (wr.iterAt w.heap.size s (pos + 1)) := fun ty => by
        rw [Lib.run_next_ascii_at wr w.heap.size s pos ty hit hp (by rw [hx]; exact hxa), hx]
      have hne : ((x.toNat : Int) == 65533) = false := by simp; omega
      have HIT := Lib.hid (Lib.iterAt_heap wr w.heap.size s pos (pos + 1) hit)
      have HB := Lib.hid (Lib.below_iterAt hbw (k := w.heap.size) (Nat.le_refl _) s (pos + 1))
      have HI0 := Lib.hid hit
      clear hit hbw hx
      go_wp2_with fail
      go_roundw
      case rel => exact ⟨pos + 1, HIT.out, HB.out⟩
      case measure => simp only [World.iterPos, HIT.out, HI0.out]; omega
    · have hnx : ∀ ty, (Instr.next (.pointer (some ⟨w.heap.size, 0, none⟩)) true ty).run Tryd.prog wr = _ := fun ty => Lib.run_next_end_at wr w.heap.size s pos ty hit hp
      go_wp2_with fail
      go_ret
      exact ⟨rfl, hbw⟩
set_option maxRecDepth 100000 in
set_option maxHeartbeats 1000000 in
theorem indexRune_far (s : ByteArray) (hs : AsciiAll s) (hn : 4 ≤ s.size) (hm : s.size ≤ 1000) (r : Int) (h1 : 128 ≤ r) (h2 : r ≤ 1114111) (h3 : ¬ (55296 ≤ r ∧ r ≤ 57343)) (h4 : r ≠ 65533) (w : World) :
    Calls Tryd.prog 52 #[.string s, .int .i32 r] w fun e w' => e = .returned (.int .i64 (-1)) ∧ Below w.heap.size w w' := by
  have hv : Lib.validRune r = true := by rw [Lib.validRune, decide_eq_true_eq]; omega
  have HV := Lib.hid hv
  have hb1 : (r == 65533) = false := by simp [h4]
  have hb2 : ¬ r < 128 := by omega
  have hb3 : decide (r < 128) = false := by simpa using hb2
  have HE := Lib.hid (encode_shape r h1 h2 h3)
  have e1 := AsciiAll.at hs 1 (by omega)
  have e2 := AsciiAll.at hs 2 (by omega)
  have e3 := AsciiAll.at hs 3 (by omega)
  have HS := Lib.hid hs
  clear hv h3 h4 hs
  go_enter Tryd.func52, Tryd.ntmps52
  go_wp2_with fail
  refine (Tryd.utf8_ValidRune r _).mono ?_
  rintro e w1 ⟨rfl, rfl⟩
  rw [HV.out]
  go_wp2_with fail
  rcases HE.out with ⟨a, b, he, hb⟩ | ⟨a, b, c, he, hb⟩ | ⟨a, b, c, d, he, hb⟩
  · have hlt : 1 < s.size := by omega
    obtain ⟨x, hxx⟩ : ∃ x, s[1]'hlt = x := ⟨_, rfl⟩
    have hc : ((x.toNat : Int) != (((⟨#[a, b]⟩ : ByteArray)[1]'(by show 1 < 2; omega)).toNat : Int)) = true := by
      rw [hxx] at e1
      show ((x.toNat : Int) != (b.toNat : Int)) = true
      simp; omega
    have HIB := Lib.hid (show ∀ w : World, Calls Tryd.prog 59 #[.string (s.extract 2 s.size), .int .u8 ((⟨#[a, b]⟩ : ByteArray)[1]'(by show 1 < 2; omega)).toNat] w fun x w' => x = .returned (.int .i64 (-1)) ∧ w' = w from indexByte_no s HS.out 2 s.size b hb)
    have wn : IntKind.i64.wrap 2 = 2 := rfl
    have hI : (2 : Int) ≤ (s.size : Int) := by omega
    clear e1 e2 e3 hb HE
    go_step3
    go_wp2_with fail
    refine wp_loop_rounds 1 ?_
    rw [rounds_succ]
    go_wp2_with fail
    go_step3
    go_wp2_with fail
    go_quiet (fail)
    go_wp2_with fail
    obtain ⟨w2, hw2⟩ : ∃ w2, w1.drewN nq = w2 := ⟨_, rfl⟩
    rw [hw2]
    have hb2 : Below w1.heap.size w1 w2 := by rw [← hw2]; exact below_drewN _ _
    clear hw2
    go_quiet ((go_at_call 59; exact Calls.quiet_of_same (HIB.out _)))
    go_wp2_with fail
    simp only [Exit.inBlock, Exit.then, Exit.noGoto_ret]
    trace_state
    go_ret
    exact ⟨rfl, Below.draws hb2 _⟩
  · have hlt : 2 < s.size := by omega
    obtain ⟨x, hxx⟩ : ∃ x, s[2]'hlt = x := ⟨_, rfl⟩
    have hc : ((x.toNat : Int) != (((⟨#[a, b, c]⟩ : ByteArray)[2]'(by show 2 < 3; omega)).toNat : Int)) = true := by
      rw [hxx] at e2
      show ((x.toNat : Int) != (c.toNat : Int)) = true
      simp; omega
    have HIB := Lib.hid (show ∀ w : World, Calls Tryd.prog 59 #[.string (s.extract 3 s.size), .int .u8 ((⟨#[a, b, c]⟩ : ByteArray)[2]'(by show 2 < 3; omega)).toNat] w fun x w' => x = .returned (.int .i64 (-1)) ∧ w' = w from indexByte_no s HS.out 3 s.size c hb)
    have wn : IntKind.i64.wrap 3 = 3 := rfl
    have hI : (3 : Int) ≤ (s.size : Int) := by omega
    clear e1 e2 e3 hb HE
    go_step3
    go_wp2_with fail
    refine wp_loop_rounds 1 ?_
    rw [rounds_succ]
    go_wp2_with fail
    go_step3
    go_wp2_with fail
    go_quiet (fail)
    go_wp2_with fail
    obtain ⟨w2, hw2⟩ : ∃ w2, w1.drewN nq = w2 := ⟨_, rfl⟩
    rw [hw2]
    have hb2 : Below w1.heap.size w1 w2 := by rw [← hw2]; exact below_drewN _ _
    clear hw2
    go_quiet ((go_at_call 59; exact Calls.quiet_of_same (HIB.out _)))
    go_wp2_with fail
    simp only [Exit.inBlock, Exit.then, Exit.noGoto_ret]
    trace_state
    go_ret
    exact ⟨rfl, Below.draws hb2 _⟩
  · have hlt : 3 < s.size := by omega
    obtain ⟨x, hxx⟩ : ∃ x, s[3]'hlt = x := ⟨_, rfl⟩
    have hc : ((x.toNat : Int) != (((⟨#[a, b, c, d]⟩ : ByteArray)[3]'(by show 3 < 4; omega)).toNat : Int)) = true := by
      rw [hxx] at e3
      show ((x.toNat : Int) != (d.toNat : Int)) = true
      simp; omega
    have HIB := Lib.hid (show ∀ w : World, Calls Tryd.prog 59 #[.string (s.extract 4 s.size), .int .u8 ((⟨#[a, b, c, d]⟩ : ByteArray)[3]'(by show 3 < 4; omega)).toNat] w fun x w' => x = .returned (.int .i64 (-1)) ∧ w' = w from indexByte_no s HS.out 4 s.size d hb)
    have wn : IntKind.i64.wrap 4 = 4 := rfl
    have hI : (4 : Int) ≤ (s.size : Int) := by omega
    clear e1 e2 e3 hb HE
    go_step3
    go_wp2_with fail
    refine wp_loop_rounds 1 ?_
    rw [rounds_succ]
    go_wp2_with fail
    go_step3
    go_wp2_with fail
    go_quiet (fail)
    go_wp2_with fail
    obtain ⟨w2, hw2⟩ : ∃ w2, w1.drewN nq = w2 := ⟨_, rfl⟩
    rw [hw2]
    have hb2 : Below w1.heap.size w1 w2 := by rw [← hw2]; exact below_drewN _ _
    clear hw2
    go_quiet ((go_at_call 59; exact Calls.quiet_of_same (HIB.out _)))
    go_wp2_with fail
    simp only [Exit.inBlock, Exit.then, Exit.noGoto_ret]
    trace_state
    go_ret
    exact ⟨rfl, Below.draws hb2 _⟩
end Go.Proofs.YtpibbokkdjjgeaaDoor

/-
  What the functions of these laws compute, as plain Lean functions, and that the machine's calls compute it: written by this session's own hook over the kit's print.
-/
namespace Go.Proofs.YtpibbokkdjjgeaaDoor.Pg
open Go.RowKit Go.Proofs.YtpibbokkdjjgeaaDoorW.PrintWords Go.Proofs.YtpibbokkdjjgeaaDoorW.PrintLast Go.Proofs.YtpibbokkdjjgeaaDoorW.PrintMore
attribute [local go_sem] max2_int min2_int max_two min_two max_three min_three max_four min_four   -- for this text's walks alone
set_option linter.unusedVariables false
set_option linter.unusedSimpArgs false

/-! ### glyph_meant: function 42 -/
def glyph_meant.j0 : Nat → Int → Int → Bool → Option (Int × Bool)
  | 0, _, _, _ => none
  | k + 1, x0, x4, x5 => if x5 = true then (some (x0, true)) else (if x4 = 98 then (some (8, true)) else (if x4 = 102 then (some (12, true)) else (if x4 = 110 then (some (10, true)) else (if x4 = 114 then (some (13, true)) else (if x4 = 116 then (some (9, true)) else (some (0, false)))))))
def glyph_meant.f (k : Nat) (a0 : Int) : Option (Int × Bool) := if a0 = 34 then (glyph_meant.j0 k a0 a0 (a0 == 34)) else (if a0 = 92 then (glyph_meant.j0 k a0 a0 (a0 == 92)) else (glyph_meant.j0 k a0 a0 (a0 == 47)))
theorem glyph_meant.mono_l : ∀ k, (∀ y0 y1 y2, LeO (glyph_meant.j0 k y0 y1 y2) (glyph_meant.j0 (k + 1) y0 y1 y2))
  | 0 => fun _ _ _ r h => by simp [glyph_meant.j0] at h
  | k + 1 => by
    have ih0 := glyph_meant.mono_l k
    · intro y0 y1 y2
      unfold glyph_meant.j0
      repeat' first
      | (with_reducible exact ih0 _ _ _)
      | (with_reducible exact LeO.refl _)
      | (with_reducible exact LeO.none _)
      | (with_reducible refine LeO.ite ?_ ?_)
      | (with_reducible refine LeO.bind ?_ (fun _ => ?_))
      | exact ih0 _ _ _
      | exact LeO.none _
      | refine LeO.ite ?_ ?_
      | refine LeO.bind ?_ (fun _ => ?_)
theorem glyph_meant.mono : ∀ a0 k, LeO (glyph_meant.f k a0) (glyph_meant.f (k + 1) a0) := by
  intro a0 k
  have ih0 := glyph_meant.mono_l k
  unfold glyph_meant.f
  repeat' first
      | (with_reducible exact ih0 _ _ _)
      | (with_reducible exact LeO.refl _)
      | (with_reducible exact LeO.none _)
      | (with_reducible refine LeO.ite ?_ ?_)
      | (with_reducible refine LeO.bind ?_ (fun _ => ?_))
      | exact ih0 _ _ _
      | exact LeO.none _
      | refine LeO.ite ?_ ?_
      | refine LeO.bind ?_ (fun _ => ?_)
set_option maxHeartbeats 8000000 in
set_option maxRecDepth 100000 in
theorem glyph_meant.calls (k : Nat) (a0 : Int) (r1 : Int) (r2 : Bool) (w : World) (h : glyph_meant.f k a0 = some (r1, r2)) :
    Calls Tryd.prog 42 #[.int .i32 a0] w fun e w' => e = .returned (.tuple #[.int .i32 r1, .bool r2]) ∧ Drawn0 w w' := by
  have H : (if a0 = 34 then (glyph_meant.j0 k a0 a0 (a0 == 34)) else (if a0 = 92 then (glyph_meant.j0 k a0 a0 (a0 == 92)) else (glyph_meant.j0 k a0 a0 (a0 == 47)))) = some (r1, r2) := h
  clear h
  have HC2 := Aside0.mk H
  clear H
  go_enter Tryd.func42, Tryd.ntmps42
  go_upto_if 5 with (fail)
  go_cut [5] (fun v5 wc => ∃ (kq : Nat) (x5_1 : Bool), v5 = .bool x5_1 ∧ Aside0 (glyph_meant.j0 kq a0 a0 x5_1 = some (r1, r2)) ∧ Aside0 (kq ≤ k) ∧ Drawn0 w wc)
  case first =>
    have H := HC2.out
    clear HC2
    by_cases c3 : a0 = 34
    · rw [if_pos c3] at H
      have c3b0 : (a0 == 34) = true := beq_iff_eq.mpr c3
      have c3b1 : (a0 != 34) = false := bne_eq_false_iff_eq.mpr c3
      clear c3
      (first | rw [c3b0] | rw [c3b1] | (simp only [i64_w, i32_w]; rw [c3b0]) | skip)
      have H' := Aside0.mk H
      clear H
      go_wp2
      go_meet
      case rel => exact ⟨_, ((a0 == 34)), (by first | rfl | (simp; done) | (simp [*]; done)), H', ⟨by first | omega | exact Nat.le_refl _⟩, by repeat (first | exact Drawn0.refl _ | apply Drawn0.step)⟩
    · rw [if_neg c3] at H
      have c3b0 : (a0 == 34) = false := beq_eq_false_iff_ne.mpr c3
      have c3b1 : (a0 != 34) = true := bne_iff_ne.mpr c3
      (first | rw [c3b0] | rw [c3b1] | (simp only [i64_w, i32_w]; rw [c3b0]) | skip)
      by_cases c4 : a0 = 92
      · rw [if_pos c4] at H
        have c4b0 : (a0 == 92) = true := beq_iff_eq.mpr c4
        have c4b1 : (a0 != 92) = false := bne_eq_false_iff_eq.mpr c4
        clear c4
        have H' := Aside0.mk H
        clear H
        go_wp2
        go_meet
        case rel => exact ⟨_, ((a0 == 92)), (by first | rfl | (simp; done) | (simp [*]; done)), H', ⟨by first | omega | exact Nat.le_refl _⟩, by repeat (first | exact Drawn0.refl _ | apply Drawn0.step)⟩
      · rw [if_neg c4] at H
        have c4b0 : (a0 == 92) = false := beq_eq_false_iff_ne.mpr c4
        have c4b1 : (a0 != 92) = true := bne_iff_ne.mpr c4
        have H' := Aside0.mk H
        clear H
        go_wp2
        go_meet
        case rel => exact ⟨_, ((a0 == 47)), (by first | rfl | (simp; done) | (simp [*]; done)), H', ⟨by first | omega | exact Nat.le_refl _⟩, by repeat (first | exact Drawn0.refl _ | apply Drawn0.step)⟩
  case rest =>
    clear HC2
    try clear p2
    try clear c3
    try clear c3b0
    try clear c3b1
    try clear c4
    try clear c4b0
    try clear c4b1
    obtain ⟨kq, x5_1, rfl, HA, HJ1, ⟨mc1, rfl⟩⟩ := hcut
    cases kq with
    | zero => exact absurd HA.out (by simp [glyph_meant.j0])
    | succ kj1 =>
      have H := HA.out
      clear HA
      simp only [glyph_meant.j0] at H
      by_cases c5 : x5_1 = true
      · subst c5
        have H1 : (some (a0, true)) = some (r1, r2) := by rw [if_pos rfl] at H; exact H
        clear H
        have H := H1
        clear H1
        simp only [Option.some.injEq, Prod.mk.injEq] at H
        obtain ⟨rfl, rfl⟩ := H
        go_wp2
        go_ret2
        exact ⟨by first | rfl | (simp; done) | (simp [*]; done), by repeat (first | exact Drawn0.refl _ | apply Drawn0.step)⟩
      · replace c5 := Bool.eq_false_iff.mpr c5
        subst c5
        have H1 : (if a0 = 98 then (some (8, true)) else (if a0 = 102 then (some (12, true)) else (if a0 = 110 then (some (10, true)) else (if a0 = 114 then (some (13, true)) else (if a0 = 116 then (some (9, true)) else (some (0, false))))))) = some (r1, r2) := by rw [if_neg (show ¬ (false = true) by decide)] at H; exact H
        clear H
        have H := H1
        clear H1
        by_cases c6 : a0 = 98
        · rw [if_pos c6] at H
          have c6b0 : (a0 == 98) = true := beq_iff_eq.mpr c6
          have c6b1 : (a0 != 98) = false := bne_eq_false_iff_eq.mpr c6
          clear c6
          simp only [Option.some.injEq, Prod.mk.injEq] at H
          obtain ⟨rfl, rfl⟩ := H
          go_wp2
          go_ret2
          exact ⟨by first | rfl | (simp; done) | (simp [*]; done), by repeat (first | exact Drawn0.refl _ | apply Drawn0.step)⟩
        · rw [if_neg c6] at H
          have c6b0 : (a0 == 98) = false := beq_eq_false_iff_ne.mpr c6
          have c6b1 : (a0 != 98) = true := bne_iff_ne.mpr c6
          by_cases c7 : a0 = 102
          · rw [if_pos c7] at H
            have c7b0 : (a0 == 102) = true := beq_iff_eq.mpr c7
            have c7b1 : (a0 != 102) = false := bne_eq_false_iff_eq.mpr c7
            clear c7
            simp only [Option.some.injEq, Prod.mk.injEq] at H
            obtain ⟨rfl, rfl⟩ := H
            go_wp2
            go_ret2
            exact ⟨by first | rfl | (simp; done) | (simp [*]; done), by repeat (first | exact Drawn0.refl _ | apply Drawn0.step)⟩
          · rw [if_neg c7] at H
            have c7b0 : (a0 == 102) = false := beq_eq_false_iff_ne.mpr c7
            have c7b1 : (a0 != 102) = true := bne_iff_ne.mpr c7
            by_cases c8 : a0 = 110
            · rw [if_pos c8] at H
              have c8b0 : (a0 == 110) = true := beq_iff_eq.mpr c8
              have c8b1 : (a0 != 110) = false := bne_eq_false_iff_eq.mpr c8
              clear c8
              simp only [Option.some.injEq, Prod.mk.injEq] at H
              obtain ⟨rfl, rfl⟩ := H
              go_wp2
              go_ret2
              exact ⟨by first | rfl | (simp; done) | (simp [*]; done), by repeat (first | exact Drawn0.refl _ | apply Drawn0.step)⟩
            · rw [if_neg c8] at H
              have c8b0 : (a0 == 110) = false := beq_eq_false_iff_ne.mpr c8
              have c8b1 : (a0 != 110) = true := bne_iff_ne.mpr c8
              by_cases c9 : a0 = 114
              · rw [if_pos c9] at H
                have c9b0 : (a0 == 114) = true := beq_iff_eq.mpr c9
                have c9b1 : (a0 != 114) = false := bne_eq_false_iff_eq.mpr c9
                clear c9
                simp only [Option.some.injEq, Prod.mk.injEq] at H
                obtain ⟨rfl, rfl⟩ := H
                go_wp2
                go_ret2
                exact ⟨by first | rfl | (simp; done) | (simp [*]; done), by repeat (first | exact Drawn0.refl _ | apply Drawn0.step)⟩
              · rw [if_neg c9] at H
                have c9b0 : (a0 == 114) = false := beq_eq_false_iff_ne.mpr c9
                have c9b1 : (a0 != 114) = true := bne_iff_ne.mpr c9
                by_cases c10 : a0 = 116
                · rw [if_pos c10] at H
                  have c10b0 : (a0 == 116) = true := beq_iff_eq.mpr c10
                  have c10b1 : (a0 != 116) = false := bne_eq_false_iff_eq.mpr c10
                  clear c10
                  simp only [Option.some.injEq, Prod.mk.injEq] at H
                  obtain ⟨rfl, rfl⟩ := H
                  go_wp2
                  go_ret2
                  exact ⟨by first | rfl | (simp; done) | (simp [*]; done), by repeat (first | exact Drawn0.refl _ | apply Drawn0.step)⟩
                · rw [if_neg c10] at H
                  have c10b0 : (a0 == 116) = false := beq_eq_false_iff_ne.mpr c10
                  have c10b1 : (a0 != 116) = true := bne_iff_ne.mpr c10
                  simp only [Option.some.injEq, Prod.mk.injEq] at H
                  obtain ⟨rfl, rfl⟩ := H
                  go_wp2
                  go_ret2
                  exact ⟨by first | rfl | (simp; done) | (simp [*]; done), by repeat (first | exact Drawn0.refl _ | apply Drawn0.step)⟩

-- NOT PRINTED: function 69 (bytealg_MakeNoZero)

-- NOT PRINTED: function 63 (strings_Builder_grow)

-- NOT PRINTED: function 56 (strings_Builder_Grow)

end Go.Proofs.YtpibbokkdjjgeaaDoor.Pg

/-
  glyph.meant, unit, walked.
-/
namespace Go.Proofs.YtpibbokkdjjgeaaDoor
open Go.RowKit Go.Lib
set_option linter.unusedSimpArgs false
set_option linter.unusedVariables false
def meantI (c : UInt8) : Int × Bool := match meantB c with | some y => ((y.toNat : Int), true) | none => (0, false)
theorem meant_f : ∀ n : Fin 256, Pg.glyph_meant.f 1 (n.val : Int) = some (meantI (UInt8.ofNat n.val)) := by decide +kernel
theorem meant_any (c : UInt8) (w : World) : Calls Tryd.prog 42 #[.int .i32 c.toNat] w fun e w' => e = .returned (.tuple #[.int .i32 (meantI c).1, .bool (meantI c).2]) ∧ ∃ n, w' = w.drewN n := by
  have h := meant_f ⟨c.toNat, c.toNat_lt⟩
  simp only [UInt8.ofNat_toNat] at h
  exact (Pg.glyph_meant.calls 1 _ _ _ w h).mono fun e w' ⟨h1, h2⟩ => ⟨h1, h2.out⟩
/-- The tables of the library's that lower letters are read from. -/
def Tabs (w : World) : Prop := CaseVar 1 caseA w ∧ Utf8Tabs 2 3 w
theorem Tabs.below {w w' : World} (h : Tabs w) (hb : Below w.heap.size w w') : Tabs w' := ⟨CaseVar_below h.1 hb, Utf8Tabs_below h.2 hb⟩
def hexLow (c : UInt8) : Option Nat := if 48 ≤ c.toNat ∧ c.toNat ≤ 57 then some (c.toNat - 48) else if 97 ≤ c.toNat ∧ c.toNat ≤ 102 then some (c.toNat - 87) else none
def lowL : List UInt8 → Nat → Option Nat
  | [], n => some n
  | c :: t, n => match hexLow c with | none => none | some h => lowL t (16 * n + h)
def digs : List UInt8 := [48, 49, 50, 51, 52, 53, 54, 55, 56, 57, 97, 98, 99, 100, 101, 102]
def lowI (c : UInt8) : Int := match hexLow c with | some h => (h : Int) | none => -1
theorem low_index : ∀ n : Fin 256, Lib.indexByte digs (UInt8.ofNat n.val) = lowI (UInt8.ofNat n.val) := by decide +kernel
theorem digs_ascii : AsciiAll (bsL digs) := by
  intro b hb
  rw [bsL_toList] at hb
  revert hb
  revert b
  decide
/-- Where a rune stands among the digits. -/
def idxI (r : Nat) : Int := if r < 128 then lowI (UInt8.ofNat r) else -1
theorem idx_any (r : Nat) (h1 : r ≤ 1114111) (h2 : ¬ (55296 ≤ r ∧ r ≤ 57343)) (w : World) :
    Calls Tryd.prog 52 #[.string ⟨#[48, 49, 50, 51, 52, 53, 54, 55, 56, 57, 97, 98, 99, 100, 101, 102]⟩, .int .i32 (r : Int)] w fun e w' => e = .returned (.int .i64 (idxI r)) ∧ Below w.heap.size w w' := by
  unfold idxI
  by_cases hr : r < 128
  · rw [if_pos hr]
    have h := Tryd.strings_IndexRune_ascii (bsL digs) (r : Int) w (by omega) (by omega)
    rw [bsL_toList, show (r : Int).toNat.toUInt8 = UInt8.ofNat r from rfl, low_index ⟨r, by omega⟩] at h
    refine h.mono ?_
    rintro e w' ⟨h3, rfl⟩
    exact ⟨h3, Below.refl _ _⟩
  · rw [if_neg hr]
    by_cases h5 : r = 65533
    · subst h5
      exact indexRune_bad (bsL digs) digs_ascii (by decide) w
    · exact indexRune_far (bsL digs) digs_ascii (by decide) (by decide) (r : Int) (by omega) (by omega) (by omega) (by omega) w
theorem or_put32 (a b : Nat) (hb : b < 16) (ha : a < 65536) : bits .or .i32 ((a : Int) * 16) (b : Int) = ((16 * a + b : Nat) : Int) := by
  have h := Nat.two_pow_add_eq_or_of_lt (i := 4) (b := b) (by omega) a
  show IntKind.i32.wrap ((BitVec.ofInt 32 ((a : Int) * 16) ||| BitVec.ofInt 32 (b : Int)).toNat : Int) = _
  rw [BitVec.toNat_or, BitVec.toNat_ofInt, BitVec.toNat_ofInt, IntKind.wrap_i32]
  have e1 : ((a : Int) * 16 % ((2 ^ 32 : Nat) : Int)).toNat = 2 ^ 4 * a := by omega
  have e2 : ((b : Int) % ((2 ^ 32 : Nat) : Int)).toNat = b := by omega
  rw [e1, e2, ← h]
  omega
theorem lowL_snoc : ∀ (A : List UInt8) (c : UInt8) (n : Nat), lowL (A ++ [c]) n = (lowL A n).bind fun m => (hexLow c).map fun h => 16 * m + h
  | [], c, n => by
    simp only [List.nil_append, lowL, Option.bind_some]
    cases hexLow c <;> rfl
  | a :: A, c, n => by
    simp only [List.cons_append, lowL]
    cases hexLow a with
    | none => rfl
    | some h => exact lowL_snoc A c _
theorem hexLow_lt {c : UInt8} {h : Nat} (e : hexLow c = some h) : h < 16 := by
  unfold hexLow at e
  split at e
  · cases e; omega
  · split at e
    · cases e; omega
    · cases e
theorem lowL_lt : ∀ (A : List UInt8) (n m : Nat), lowL A n = some m → m < (n + 1) * 16 ^ A.length
  | [], n, m, h => by cases h; simp
  | a :: A, n, m, h => by
    simp only [lowL] at h
    cases hh : hexLow a with
    | none => rw [hh] at h; cases h
    | some x =>
      rw [hh] at h
      have h1 := lowL_lt A _ m h
      have h2 := hexLow_lt hh
      rw [List.length_cons, Nat.pow_succ]
      have : (16 * n + x + 1) * 16 ^ A.length ≤ (16 * (n + 1)) * 16 ^ A.length := Nat.mul_le_mul_right _ (by omega)
      have e : (n + 1) * (16 ^ A.length * 16) = 16 * (n + 1) * 16 ^ A.length := by rw [Nat.mul_comm (16 ^ A.length), ← Nat.mul_assoc, Nat.mul_comm (n + 1) 16]
      omega
theorem lowL_bad : ∀ (A : List UInt8) (n p : Nat) (c : UInt8), A[p]? = some c → hexLow c = none → lowL A n = none
  | [], n, p, c, h, _ => by simp at h
  | a :: A, n, 0, c, h, h2 => by
    simp only [List.getElem?_cons_zero, Option.some.injEq] at h
    subst h
    simp only [lowL, h2]
  | a :: A, n, p + 1, c, h, h2 => by
    simp only [List.getElem?_cons_succ] at h
    simp only [lowL]
    cases hexLow a with
    | none => rfl
    | some x => exact lowL_bad A _ p c h h2
theorem dec_range (l : List UInt8) (hne : l ≠ []) : (dec l).1 ≤ 1114111 ∧ ¬ (55296 ≤ (dec l).1 ∧ (dec l).1 ≤ 57343) ∧ (128 ≤ at4 l 0 → 128 ≤ (dec l).1) := by
  by_cases hv : vw l = 0
  · have hd : dec l = (65533, 1) := by
      unfold vw at hv
      split at hv
      · rename_i h2
        rcases h2 with h2 | h2
        · exact absurd h2 hne
        · exact h2
      · have := (dec_width l hne).1; omega
    rw [hd]
    exact ⟨by decide, by decide, fun _ => by decide⟩
  · obtain ⟨_, h2, h3, h4, _⟩ := dec_told l hv
    exact ⟨h2, h3, fun h => by omega⟩
/-- What unit's loop comes to: four letters of ASCII at most, and what stands behind begins with no digit. -/
def unitR (A X : List UInt8) : Int × Bool := match lowL A 0 with | none => (0, false) | some n => if X = [] then ((n : Int), true) else (0, false)
set_option maxRecDepth 100000 in
set_option maxHeartbeats 2000000 in
theorem unit_hit (s R : ByteArray) (A X : List UInt8) (hp : Lib.hasPrefix s.data.toList [92, 117] = true) (hs : s.size ≤ 1000000000) (hR : Lib.trimPrefix s.data.toList [92, 117] = R.data.toList) (h4 : 4 ≤ R.size)
    (hL : toLowerD (R.data.toList.take 4) = A ++ X) (hA : A.length ≤ 4) (hAs : ∀ c ∈ A, c.toNat < 128) (hX : X = [] ∨ (∀ c, X.head? = some c → hexLow c = none)) (hXl : X.length ≤ 1000) (w : World) (hT : Tabs w) :
    Calls Tryd.prog 43 #[.string s] w fun e w' => e = .returned (.tuple #[.int .i32 (unitR A X).1, .bool (unitR A X).2]) ∧ Below w.heap.size w w' := by
  have hcp := fun w => Tryd.strings_CutPrefix s ⟨#[92, 117]⟩ w
  change ∀ w, Calls Tryd.prog 31 #[.string s, .string ⟨#[92, 117]⟩] w fun e w' => e = .returned (.tuple #[.string ⟨(Lib.trimPrefix s.data.toList [92, 117]).toArray⟩, .bool (Lib.hasPrefix s.data.toList [92, 117])]) ∧ w' = w at hcp
  rw [hR, hp, show (⟨R.data.toList.toArray⟩ : ByteArray) = R from bsL_data R] at hcp
  have hRs : R.size ≤ 1000000000 := by
    have := congrArg List.length hR
    rw [len_data] at this
    have h2 : (Lib.trimPrefix s.data.toList [92, 117]).length ≤ s.data.toList.length := by
      unfold Lib.trimPrefix
      split <;> (first | exact Nat.le_refl _ | (rw [List.length_drop]; exact Nat.sub_le _ _))
    rw [len_data] at h2
    omega
  have htl := fun w (hT : Tabs w) => Tryd.strings_ToLower_any (R.extract 0 4) w (by rw [ByteArray.size_extract]; omega) hT.1 hT.2
  have e4 : (R.extract 0 4).data.toList = R.data.toList.take 4 := by rw [extract_bsL, bsL_toList, List.drop_zero]
  rw [e4, hL] at htl
  have HCP := Lib.hid hcp; have HTL := Lib.hid htl; have HT := Lib.hid hT
  clear hcp htl e4 hL hR hp hT
  have h4i : (4 : Int) ≤ (R.size : Int) := by omega
  obtain ⟨U, hU⟩ : ∃ U, unitR A X = U := ⟨_, rfl⟩
  rw [hU]
  obtain ⟨res, yes⟩ := U
  have HU := Lib.hid hU
  clear hU
  go_enter Tryd.func43, Tryd.ntmps43
  go_wp2_with fail
  refine (HCP.out _).mono ?_
  rintro e w1 ⟨rfl, rfl⟩
  go_wp2_with fail
  refine (HTL.out _ HT.out).mono ?_
  rintro e w2 ⟨rfl, hb2⟩
  have HB2 := Lib.hid hb2
  clear hb2
  obtain ⟨S, hS⟩ : ∃ S, (⟨(A ++ X).toArray⟩ : ByteArray) = S := ⟨_, rfl⟩
  have hSd : S.data.toList = A ++ X := by rw [← hS]
  have hSl : S.size = A.length + X.length := by rw [← len_data, hSd, List.length_append]
  rw [hS]
  have HSD := Lib.hid hSd; have HSL := Lib.hid hSl; have HX := Lib.hid hX; have HAS := Lib.hid hAs; have HA := Lib.hid hA; have HXL := Lib.hid hXl
  clear hS hSd hSl hX hAs hA hXl HCP HTL HT
  have hwz := HB2.out.size
  go_wp2_with fail
  go_loopw [6] (fun nv wr => ∃ pos n : Nat, pos ≤ A.length ∧ nv = .int .i32 n ∧ Hid (lowL (A.take pos) 0 = some n) ∧ wr.heap[w2.heap.size]? = some (.stringIter S pos) ∧ Below w1.heap.size w1 wr) (fun nv wr => S.size - wr.iterPos w2.heap.size)
  case atStart => exact ⟨0, 0, Nat.zero_le _, rfl, Lib.hid (by simp [lowL]), World.iter_heap w2 S 0, HB2.out.trans ((Below.refl _ w2).alloc hwz _)⟩
  case round =>
    obtain ⟨pos, n, hle, rfl, hlw, hit, hbw⟩ := hrel
    by_cases hp : pos < S.size
    · have hne : S.data.toList.drop pos ≠ [] := by
        intro e
        have := congrArg List.length e
        rw [List.length_drop, len_data, List.length_nil] at this
        omega
      have hnx0 := fun ty => Lib.run_next_any_at (P := Tryd.prog) wr w2.heap.size S pos ty hit hp
      rw [decode_drop] at hnx0
      have hw1 := dec_width _ hne
      obtain ⟨r1, r2, r3⟩ := dec_range _ hne
      have hn16 : n < 65536 := by
        have h1 := lowL_lt _ _ _ hlw.out
        have h2 : (A.take pos).length ≤ 4 := by rw [List.length_take]; have := HA.out; omega
        have h3 : 16 ^ (A.take pos).length ≤ 16 ^ 4 := Nat.pow_le_pow_right (by omega) h2
        omega
      have hkey : ((dec (S.data.toList.drop pos)).2 = 1 ∧ pos < A.length ∧ ∃ h : Nat, h < 16 ∧ idxI (dec (S.data.toList.drop pos)).1 = (h : Int) ∧ lowL (A.take (pos + 1)) 0 = some (16 * n + h)) ∨ (idxI (dec (S.data.toList.drop pos)).1 = -1 ∧ res = 0 ∧ yes = false) := by
        have hfst : ∀ c, (A ++ X)[pos]? = some c → at4 (S.data.toList.drop pos) 0 = c.toNat := fun c hc => by
          rw [HSD.out, at4_drop, Nat.add_zero]
          unfold at4
          rw [List.getD_eq_getElem?_getD, hc]
          rfl
        have hU2 : (unitR A X) = (res, yes) := HU.out
        by_cases hpa : pos < A.length
        · obtain ⟨c, hc⟩ : ∃ c, A[pos]? = some c := ⟨A[pos], List.getElem?_eq_getElem hpa⟩
          have hca : c.toNat < 128 := HAS.out c (List.mem_of_getElem? hc)
          have h0 := hfst c (by rw [List.getElem?_append_left hpa]; exact hc)
          obtain ⟨d1, d2⟩ := dec_ascii _ hne (by omega)
          rw [d1, h0]
          have hi : idxI c.toNat = lowI c := by unfold idxI; rw [if_pos hca, UInt8.ofNat_toNat]
          simp only []
          rw [hi]
          unfold lowI
          cases hh : hexLow c with
          | none =>
            refine .inr ⟨by first | rfl | trivial, ?_⟩
            unfold unitR at hU2
            rw [lowL_bad A 0 pos c hc hh] at hU2
            exact ⟨(Prod.mk.inj hU2).1.symm, (Prod.mk.inj hU2).2.symm⟩
          | some h =>
            refine .inl ⟨by first | rfl | trivial, hpa, h, hexLow_lt hh, by first | rfl | trivial, ?_⟩
            rw [List.take_add_one, hc]
            show lowL (A.take pos ++ [c]) 0 = _
            rw [lowL_snoc, hlw.out, hh]
            rfl
        · have hpe : pos = A.length := by omega
          have hXn : X ≠ [] := fun e => by
            have := HSL.out
            rw [e] at this
            simp at this
            omega
          obtain ⟨c, hc⟩ : ∃ c, X.head? = some c := by cases X with | nil => exact absurd rfl hXn | cons c _ => exact ⟨c, rfl⟩
          have hcn : hexLow c = none := (HX.out.resolve_left hXn) c hc
          have h0 := hfst c (by rw [hpe, List.getElem?_append_right (Nat.le_refl _), Nat.sub_self, ← List.head?_eq_getElem?]; exact hc)
          refine .inr ⟨?_, ?_⟩
          · by_cases hca : c.toNat < 128
            · obtain ⟨d1, d2⟩ := dec_ascii _ hne (by omega)
              rw [d1, h0]
              simp only []
              unfold idxI
              rw [if_pos hca, UInt8.ofNat_toNat]
              unfold lowI
              rw [hcn]
            · unfold idxI
              rw [if_neg (by have := r3 (by omega); omega)]
          · unfold unitR at hU2
            have hlA : lowL A 0 = some n := by have := hlw.out; rw [hpe, List.take_length] at this; exact this
            rw [hlA] at hU2
            simp only [if_neg hXn] at hU2
            exact ⟨(Prod.mk.inj hU2).1.symm, (Prod.mk.inj hU2).2.symm⟩
      have hid := fun w => idx_any (dec (S.data.toList.drop pos)).1 r1 r2 w
      obtain ⟨r, hr⟩ : ∃ r, (dec (S.data.toList.drop pos)).1 = r := ⟨_, rfl⟩
      obtain ⟨wd, hwd⟩ : ∃ r, (dec (S.data.toList.drop pos)).2 = r := ⟨_, rfl⟩
      obtain ⟨x, hx⟩ : ∃ x, idxI r = x := ⟨_, rfl⟩
      rw [hr, hwd] at hnx0
      rw [hr] at hid
      rw [hr, hwd, hx] at hkey
      rw [hx] at hid
      rw [hwd] at hw1
      have HIT := Lib.hid (Lib.iterAt_heap wr w2.heap.size S pos (pos + wd) hit)
      have HB := Lib.hid (Lib.below_iterAt hbw (k := w2.heap.size) hwz S (pos + wd))
      have HI0 := Lib.hid hit; have HID := Lib.hid hid; have HLW := hlw; have HW1 := Lib.hid hw1
      have hlt2 : w2.heap.size < (wr.iterAt w2.heap.size S (pos + wd)).heap.size := (Array.getElem?_eq_some_iff.1 HIT.out).1
      have HLT2 := Lib.hid hlt2
      have hnx := hnx0
      have HP := Lib.hid hp
      clear hit hbw hlw hr hwd hx hne r1 r2 r3 hid hw1 hlt2 hnx0 hp
      rcases hkey with ⟨rfl, hpa, h, hh, rfl, hlw2⟩ | ⟨rfl, rfl, rfl⟩
      · have HLW2 := Lib.hid hlw2
        have hor := or_put32 n h hh hn16
        have h0i : ¬ (h : Int) < 0 := by omega
        have hwr : IntKind.i32.wrap (h : Int) = (h : Int) := by rw [IntKind.wrap_i32]; omega
        have hwr2 : wrap32 (h : Int) = (h : Int) := by unfold wrap32; omega
        clear hlw2
        go_wp2_with fail
        refine (HID.out _).mono ?_
        rintro e w3 ⟨rfl, hb3⟩
        have HB3 := Lib.hid hb3
        clear hb3
        go_wp2_with fail
        go_roundw
        case rel => exact ⟨pos + 1, 16 * n + h, by omega, by first | rfl | go_num, HLW2.out, (by have := HIT.out; exact (HB3.out.block _ HLT2.out).trans this), HB.out.trans (HB3.out.mono HB.out.size)⟩
        case measure => simp only [World.iterPos, (HB3.out.block _ HLT2.out).trans HIT.out, HI0.out]; have := HP.out; omega
      · go_wp2_with fail
        refine (HID.out _).mono ?_
        rintro e w3 ⟨rfl, hb3⟩
        have HB3 := Lib.hid (HB.out.trans (hb3.mono HB.out.size))
        clear hb3
        go_wp2_with fail
        go_ret2
        exact ⟨rfl, HB3.out⟩
    · have hpe : pos = A.length ∧ X = [] := by
        have h1 := HSL.out
        have : X.length = 0 := by omega
        exact ⟨by omega, List.length_eq_zero_iff.1 this⟩
      have hun : res = (n : Int) ∧ yes = true := by
        have hU2 : (unitR A X) = (res, yes) := HU.out
        have hlA : lowL A 0 = some n := by have := hlw.out; rw [hpe.1, List.take_length] at this; exact this
        unfold unitR at hU2
        rw [hlA] at hU2
        simp only [if_pos hpe.2] at hU2
        exact ⟨(Prod.mk.inj hU2).1.symm, (Prod.mk.inj hU2).2.symm⟩
      obtain ⟨rfl, rfl⟩ := hun
      have hnx : ∀ ty, (Instr.next (.pointer (some ⟨w2.heap.size, 0, none⟩)) true ty).run Tryd.prog wr = _ := fun ty => Lib.run_next_end_at wr w2.heap.size S pos ty hit hp
      clear hlw hpe
      go_wp2_with fail
      go_ret2
      exact ⟨rfl, hbw⟩
end Go.Proofs.YtpibbokkdjjgeaaDoor

/-
  glyph.unit at every text.
-/
namespace Go.Proofs.YtpibbokkdjjgeaaDoor
open Go.RowKit Go.Lib
set_option linter.unusedSimpArgs false
set_option linter.unusedVariables false
/-- Beyond ASCII no rune's lower letter is a digit. -/
def rowHigh (x : CaseRow) : Bool := decide (x.2.1 < 128) || decide (x.delta 1 > 1114111) || decide (102 < (max (x.1 : Int) 128) + x.delta 1)
theorem rows_high : caseT.all rowHigh = true := by decide +kernel
theorem row_high (i : Nat) (hi : i < caseA.size) : rowHigh (caseA.getD i (0, 0, 0, 0, 0)) = true := by
  have h : caseA.getD i (0, 0, 0, 0, 0) = caseA[i] := by simp [Array.getD, hi]
  rw [h]
  exact List.all_eq_true.1 rows_high _ (Array.getElem_mem_toList (xs := caseA) hi)
theorem lower_high (r : Int) (h0 : 128 ≤ r) : 102 < toLowerU r := by
  unfold toLowerU
  rw [if_neg (by omega)]
  unfold toR lookupGo
  cases hi : lookupIdx caseA r (caseA.size + 1) 0 caseA.size with
  | none => show 102 < r; omega
  | some i =>
    obtain ⟨hil, hlo, hhi⟩ := lookupIdx_some caseA r _ _ _ i hi
    have hx := row_high i hil
    show 102 < convertR 1 r (caseA.getD i (0, 0, 0, 0, 0))
    obtain ⟨x, hxx⟩ : ∃ x, caseA.getD i (0, 0, 0, 0, 0) = x := ⟨_, rfl⟩
    rw [hxx] at hx hlo hhi ⊢
    simp only [rowHigh, Bool.or_eq_true, decide_eq_true_eq] at hx
    unfold convertR
    split
    · have : (x.1 : Int) + (r - x.1 - (r - x.1) % 2) ≥ r - 1 := by omega
      omega
    · rcases hx with (hx | hx) | hx
      · omega
      · omega
      · rw [Int.max_def] at hx
        split at hx <;> omega
theorem encode_head (y : Int) (h : 102 < y) : ∃ c t, encodeRune y = c :: t ∧ hexLow c = none := by
  by_cases h1 : y ≤ 127
  · refine ⟨y.toNat.toUInt8, [], ?_, ?_⟩
    · unfold encodeRune
      rw [encodeRuneZ_one (by omega) h1]
      rfl
    · unfold hexLow
      have : y.toNat.toUInt8.toNat = y.toNat := by
        show y.toNat % 256 = _
        omega
      rw [this, if_neg (by omega), if_neg (by omega)]
  · have hb : ∀ x : Int, 128 ≤ x → x < 256 → hexLow x.toNat.toUInt8 = none := fun x hx hx2 => by
      unfold hexLow
      have : x.toNat.toUInt8.toNat = x.toNat := by
        show x.toNat % 256 = _
        omega
      rw [this, if_neg (by omega), if_neg (by omega)]
    unfold encodeRune encodeRuneZ
    rw [if_neg (by omega)]
    split
    · exact ⟨_, _, rfl, hb _ (by omega) (by omega)⟩
    · split
      · exact ⟨_, _, rfl, hb _ (by omega) (by omega)⟩
      · split
        · exact ⟨_, _, rfl, hb _ (by omega) (by omega)⟩
        · exact ⟨_, _, rfl, hb _ (by omega) (by omega)⟩
theorem encodeRune_length (y : Int) : (encodeRune y).length ≤ 4 := by
  unfold encodeRune
  rw [List.length_map]
  exact (encodeRuneZ_length y).2
theorem lower_len : ∀ (n : Nat) (l : List UInt8), l.length ≤ n → (toLowerD l).length ≤ 4 * l.length
  | 0, l, h => by
    have : l = [] := List.length_eq_zero_iff.1 (by omega)
    rw [this]
    exact Nat.le_refl _
  | n + 1, l, h => by
    by_cases hne : l = []
    · rw [hne]; exact Nat.le_refl _
    · unfold toLowerD
      rw [mapD_step _ l hne, List.length_append, decodeL_dec]
      have hw := dec_width l hne
      have ih := lower_len n (l.drop (dec l).2) (by rw [List.length_drop]; omega)
      unfold toLowerD at ih
      rw [List.length_drop] at ih
      have h4 := encodeRune_length (toLowerU (dec l).1)
      split
      · omega
      · simp only [List.length_nil]; omega
theorem lower_low : ∀ n : Fin 128, hexLow (lowerB (UInt8.ofNat n.val)) = hexB (UInt8.ofNat n.val) ∧ (lowerB (UInt8.ofNat n.val)).toNat < 128 := by decide +kernel
theorem hexB_high {c : UInt8} (h : 128 ≤ c.toNat) : hexB c = none := by
  unfold hexB
  rw [if_neg (by omega), if_neg (by omega), if_neg (by omega)]
theorem lower_cons (c : UInt8) (t : List UInt8) (h : c.toNat < 128) : toLowerD (c :: t) = lowerB c :: toLowerD t := by
  unfold toLowerD
  obtain ⟨d1, d2⟩ := dec_ascii (c :: t) (by simp) h
  rw [mapD_step _ _ (by simp), decodeL_dec, d1]
  show (if 0 ≤ toLowerU (c.toNat : Int) then encodeRune (toLowerU (c.toNat : Int)) else []) ++ mapD toLowerU t = _
  have h2 := Go.Lib.lower_byte ⟨c.toNat, h⟩
  simp only [UInt8.ofNat_toNat] at h2
  rw [if_pos (Go.Lib.toLowerU_range c.toNat (by omega)).1, h2]
  rfl
theorem lower_far (c : UInt8) (t : List UInt8) (h : 128 ≤ c.toNat) : ∃ x y, toLowerD (c :: t) = x :: y ∧ hexLow x = none := by
  unfold toLowerD
  obtain ⟨r1, r2, r3⟩ := dec_range (c :: t) (by simp)
  have h1 := lower_high ((dec (c :: t)).1 : Int) (by have := r3 h; omega)
  rw [mapD_step _ _ (by simp), decodeL_dec, if_pos (by omega)]
  obtain ⟨x, y, e, hx⟩ := encode_head _ h1
  rw [e]
  exact ⟨x, _, rfl, hx⟩
/-- A text's lower letters: the digits at the front, and what is none. -/
theorem lower_split : ∀ (l : List UInt8) (n : Nat), ∃ A X, toLowerD l = A ++ X ∧ A.length ≤ l.length ∧ (∀ c ∈ A, c.toNat < 128) ∧ (X = [] ∨ (∀ c, X.head? = some c → hexLow c = none)) ∧ ((X = [] ∧ lowL A n = hexL l n) ∨ (X ≠ [] ∧ hexL l n = none))
  | [], n => ⟨[], [], rfl, Nat.le_refl _, by simp, .inl rfl, .inl ⟨rfl, rfl⟩⟩
  | c :: t, n => by
    by_cases h : c.toNat < 128
    · have hlow := lower_low ⟨c.toNat, h⟩
      simp only [UInt8.ofNat_toNat] at hlow
      cases hc : hexB c with
      | none =>
        obtain ⟨A, X, h1, h2, h3, h4, h5⟩ := lower_split t 0
        refine ⟨lowerB c :: A, X, by rw [lower_cons c t h, h1]; rfl, by simp; omega, ?_, h4, ?_⟩
        · intro x hx
          rcases List.mem_cons.1 hx with rfl | hx
          · exact hlow.2
          · exact h3 x hx
        · by_cases hX : X = []
          · refine .inl ⟨hX, ?_⟩
            simp only [lowL, hexL, hlow.1, hc]
          · exact .inr ⟨hX, by simp only [hexL, hc]⟩
      | some h' =>
        obtain ⟨A, X, h1, h2, h3, h4, h5⟩ := lower_split t (16 * n + h')
        refine ⟨lowerB c :: A, X, by rw [lower_cons c t h, h1]; rfl, by simp; omega, ?_, h4, ?_⟩
        · intro x hx
          rcases List.mem_cons.1 hx with rfl | hx
          · exact hlow.2
          · exact h3 x hx
        · simp only [lowL, hexL, hlow.1, hc]
          exact h5
    · obtain ⟨x, y, e, hx⟩ := lower_far c t (by omega)
      refine ⟨[], x :: y, e, Nat.zero_le _, by simp, .inr fun z hz => ?_, .inr ⟨by simp, ?_⟩⟩
      · simp only [List.head?_cons, Option.some.injEq] at hz
        rw [← hz]
        exact hx
      · simp only [hexL, hexB_high (show 128 ≤ c.toNat by omega)]
def unitV (l : List UInt8) : Int × Bool := match unitL l with | some n => ((n : Int), true) | none => (0, false)
theorem unit_pre (l : List UInt8) (h : Lib.hasPrefix l [92, 117] = true) : ∃ t, l = 92 :: 117 :: t := by
  unfold Lib.hasPrefix at h
  match l with
  | [] => simp [List.isPrefixOf] at h
  | [a] => simp [List.isPrefixOf] at h
  | a :: b :: t =>
    simp [List.isPrefixOf] at h
    obtain ⟨rfl, rfl⟩ := h
    exact ⟨t, rfl⟩
theorem unitL_no (l : List UInt8) (h : Lib.hasPrefix l [92, 117] = false) : unitL l = none := by
  unfold unitL
  split
  · simp [Lib.hasPrefix, List.isPrefixOf] at h
  · rfl
set_option maxRecDepth 100000 in
set_option maxHeartbeats 2000000 in
theorem unit_any (s : ByteArray) (hs : s.size ≤ 1000000000) (w : World) (hT : Tabs w) :
    Calls Tryd.prog 43 #[.string s] w fun e w' => e = .returned (.tuple #[.int .i32 (unitV s.data.toList).1, .bool (unitV s.data.toList).2]) ∧ Below w.heap.size w w' := by
  have hcp := fun w => Tryd.strings_CutPrefix s ⟨#[92, 117]⟩ w
  change ∀ w, Calls Tryd.prog 31 #[.string s, .string ⟨#[92, 117]⟩] w fun e w' => e = .returned (.tuple #[.string ⟨(Lib.trimPrefix s.data.toList [92, 117]).toArray⟩, .bool (Lib.hasPrefix s.data.toList [92, 117])]) ∧ w' = w at hcp
  cases hp : Lib.hasPrefix s.data.toList [92, 117] with
  | false =>
    have hv : unitV s.data.toList = (0, false) := by unfold unitV; rw [unitL_no _ hp]
    rw [hv]
    rw [hp] at hcp
    have HCP := Lib.hid hcp
    clear hcp hv hp
    go_enter Tryd.func43, Tryd.ntmps43
    go_wp2_with fail
    refine (HCP.out _).mono ?_
    rintro e w1 ⟨rfl, rfl⟩
    go_wp2_with fail
    go_ret2
    exact ⟨rfl, Below.refl _ _⟩
  | true =>
    obtain ⟨t, ht⟩ := unit_pre _ hp
    have hR : Lib.trimPrefix s.data.toList [92, 117] = t := by
      unfold Lib.trimPrefix
      rw [if_pos hp, ht]
      rfl
    by_cases h4 : 4 ≤ t.length
    · match t, h4 with
      | a :: b :: c :: d :: t, _ =>
        obtain ⟨A, X, h1, h2, h3, h4, h5⟩ := lower_split [a, b, c, d] 0
        have hlen := lower_len 4 [a, b, c, d] (by simp)
        rw [h1, List.length_append] at hlen
        simp only [List.length_cons, List.length_nil] at hlen h2
        have h := unit_hit s (bsL (a :: b :: c :: d :: t)) A X hp hs (by rw [hR, bsL_toList]) (by rw [bsL_size]; simp) (by rw [bsL_toList]; exact h1) h2 h3 h4 (by omega) w hT
        have e : unitR A X = unitV s.data.toList := by
          unfold unitR unitV
          rw [ht]
          show _ = (match hexL [a, b, c, d] 0 with | some n => ((n : Int), true) | none => (0, false))
          rcases h5 with ⟨rfl, h6⟩ | ⟨h6, h7⟩
          · rw [h6]
            cases hexL [a, b, c, d] 0 with
            | none => rfl
            | some n => simp
          · rw [h7]
            cases lowL A 0 with
            | none => rfl
            | some n => simp [h6]
        rw [← e]
        exact h
    · have hv : unitV s.data.toList = (0, false) := by
        unfold unitV
        have : unitL s.data.toList = none := by
          rw [ht]
          match t, h4 with
          | [], _ => rfl
          | [_], _ => rfl
          | [_, _], _ => rfl
          | [_, _, _], _ => rfl
          | _ :: _ :: _ :: _ :: _, h4 => exact absurd (by simp) h4
        rw [this]
      rw [hv]
      obtain ⟨R, hRR⟩ : ∃ R, (⟨t.toArray⟩ : ByteArray) = R := ⟨_, rfl⟩
      have hRs : R.size = t.length := by rw [← hRR]; exact bsL_size t
      rw [hp, hR, hRR] at hcp
      have hlt : (R.size : Int) < 4 := by omega
      have HCP := Lib.hid hcp
      clear hcp hv hp hR hRR hRs ht h4
      go_enter Tryd.func43, Tryd.ntmps43
      go_wp2_with fail
      refine (HCP.out _).mono ?_
      rintro e w1 ⟨rfl, rfl⟩
      go_wp2_with fail
      go_ret2
      exact ⟨rfl, Below.refl _ _⟩
end Go.Proofs.YtpibbokkdjjgeaaDoor

/-
  glyph.escape, walked.
-/
namespace Go.Proofs.YtpibbokkdjjgeaaDoor
open Go.RowKit Go.Lib
set_option linter.unusedSimpArgs false
set_option linter.unusedVariables false
def escV (l : List UInt8) : Int × Int := match escL l with | some (r, n) => ((r : Int), (n : Int)) | none => (0, 0)
theorem hexB_lt {c : UInt8} {h : Nat} (e : hexB c = some h) : h < 16 := by
  unfold hexB at e
  split at e
  · cases e; omega
  · split at e
    · cases e; omega
    · split at e
      · cases e; omega
      · cases e
theorem hexL_lt : ∀ (A : List UInt8) (n m : Nat), hexL A n = some m → m < (n + 1) * 16 ^ A.length
  | [], n, m, h => by cases h; simp
  | a :: A, n, m, h => by
    simp only [hexL] at h
    cases hh : hexB a with
    | none => rw [hh] at h; cases h
    | some x =>
      rw [hh] at h
      have h1 := hexL_lt A _ m h
      have h2 := hexB_lt hh
      rw [List.length_cons, Nat.pow_succ]
      have : (16 * n + x + 1) * 16 ^ A.length ≤ (16 * (n + 1)) * 16 ^ A.length := Nat.mul_le_mul_right _ (by omega)
      have e : (n + 1) * (16 ^ A.length * 16) = 16 * (n + 1) * 16 ^ A.length := by rw [Nat.mul_comm (16 ^ A.length), ← Nat.mul_assoc, Nat.mul_comm (n + 1) 16]
      omega
theorem unitL_some {l : List UInt8} {a : Nat} (h : unitL l = some a) : a < 65536 ∧ 6 ≤ l.length := by
  unfold unitL at h
  split at h
  · have := hexL_lt _ _ _ h
    simp only [List.length_cons, List.length_nil] at this ⊢
    exact ⟨by omega, by omega⟩
  · cases h
theorem meantI_none {c : UInt8} (h : meantB c = none) : meantI c = (0, false) := by unfold meantI; rw [h]
theorem meantI_some {c y : UInt8} (h : meantB c = some y) : meantI c = ((y.toNat : Int), true) := by unfold meantI; rw [h]
theorem unitV_none {l : List UInt8} (h : unitL l = none) : unitV l = (0, false) := by unfold unitV; rw [h]
theorem unitV_some {l : List UInt8} {n : Nat} (h : unitL l = some n) : unitV l = ((n : Int), true) := by unfold unitV; rw [h]
set_option maxRecDepth 100000 in
set_option maxHeartbeats 4000000 in
theorem escape_any (s : ByteArray) (hs : s.size ≤ 1000000000) (w : World) (hT : Tabs w) :
    Calls Tryd.prog 32 #[.string s] w fun e w' => e = .returned (.tuple #[.int .i32 (escV s.data.toList).1, .int .i64 (escV s.data.toList).2]) ∧ Below w.heap.size w w' := by
  have hun := fun w (hT : Tabs w) => unit_any s hs w hT
  have hl := len_data s
  by_cases h1 : 1 < s.size
  · obtain ⟨c, hc⟩ : ∃ c, s[1]'h1 = c := ⟨_, rfl⟩
    have hl1 : s.data.toList[1]? = some c := by
      rw [List.getElem?_eq_getElem (by rw [hl]; exact h1)]
      rw [← hc]
      rfl
    have hme := fun w => meant_any c w
    have hcl : c.toNat < 256 := c.toNat_lt
    have HT := Lib.hid hT
    cases hm : meantB c with
    | some y =>
      have hv : escV s.data.toList = ((y.toNat : Int), 2) := by
        unfold escV escL
        rw [hl1, Option.bind_some, hm]
        rfl
      rw [hv]
      rw [meantI_some hm] at hme
      dsimp only at hme ⊢
      have HME := Lib.hid hme
      clear hme hun hl hl1 hv hm hT
      go_enter Tryd.func32, Tryd.ntmps32
      go_wp2_with fail
      (with_reducible refine (HME.out _).mono ?_)
      rintro e w1 ⟨rfl, n, rfl⟩
      go_wp2_with fail
      go_ret2
      exact ⟨rfl, below_drewN w n⟩
    | none =>
      have he : escV s.data.toList = (match unitL s.data.toList with | none => (0, 0) | some a => if 56320 ≤ a ∧ a ≤ 57343 then (0, 0) else if a < 55296 ∨ 57343 < a then ((a : Int), 6) else match unitL (s.data.toList.drop 6) with | none => (0, 0) | some b => if b < 56320 ∨ 57343 < b then (0, 0) else (((65536 + (a - 55296) * 1024 + (b - 56320) : Nat) : Int), 12)) := by
        unfold escV escL
        rw [hl1, Option.bind_some, hm]
        simp only []
        cases unitL s.data.toList with
        | none => rfl
        | some a =>
          simp only []
          by_cases g1 : 56320 ≤ a ∧ a ≤ 57343
          · rw [if_pos g1, if_pos g1]
          · rw [if_neg g1, if_neg g1]
            by_cases g2 : a < 55296 ∨ 57343 < a
            · rw [if_pos g2, if_pos g2]
              rfl
            · rw [if_neg g2, if_neg g2]
              cases unitL (s.data.toList.drop 6) with
              | none => rfl
              | some b =>
                simp only []
                by_cases g3 : b < 56320 ∨ 57343 < b
                · rw [if_pos g3, if_pos g3]
                · rw [if_neg g3, if_neg g3]
                  rfl
      rw [meantI_none hm] at hme
      dsimp only at hme
      have HME := Lib.hid hme
      rw [he]
      clear he hme hl1 hm hT
      cases hu : unitL s.data.toList with
      | none =>
        rw [unitV_none hu] at hun
        dsimp only at hun ⊢
        have HUN := Lib.hid hun
        clear hun hu hl
        go_enter Tryd.func32, Tryd.ntmps32
        go_wp2_with fail
        (with_reducible refine (HME.out _).mono ?_)
        rintro e w1 ⟨rfl, n, rfl⟩
        go_wp2_with fail
        (with_reducible refine (HUN.out _ (HT.out.below (below_drewN w n))).mono ?_)
        rintro e w2 ⟨rfl, hb2⟩
        have HB2 := Lib.hid ((below_drewN w n).trans (show Below w.heap.size (w.drewN n) w2 from hb2))
        clear hb2
        go_wp2_with fail
        go_ret2
        exact ⟨rfl, HB2.out⟩
      | some a =>
        rw [unitV_some hu] at hun
        obtain ⟨ha, h6⟩ := unitL_some hu
        rw [hl] at h6
        dsimp only at hun ⊢
        have HUN := Lib.hid hun
        clear hun hu
        by_cases g1 : 56320 ≤ a ∧ a ≤ 57343
        · rw [if_pos g1]
          obtain ⟨g1a, g1b⟩ := g1
          have i1 : (56320 : Int) ≤ (a : Int) := by omega
          have i2 : (a : Int) ≤ 57343 := by omega
          clear hl
          go_enter Tryd.func32, Tryd.ntmps32
          go_wp2_with fail
          (with_reducible refine (HME.out _).mono ?_)
          rintro e w1 ⟨rfl, n, rfl⟩
          go_wp2_with fail
          (with_reducible refine (HUN.out _ (HT.out.below (below_drewN w n))).mono ?_)
          rintro e w2 ⟨rfl, hb2⟩
          have HB2 := Lib.hid ((below_drewN w n).trans (show Below w.heap.size (w.drewN n) w2 from hb2))
          clear hb2
          go_wp2_with fail
          go_ret2
          exact ⟨rfl, HB2.out⟩
        · rw [if_neg g1]
          by_cases g2 : a < 55296 ∨ 57343 < a
          · rw [if_pos g2]
            dsimp only
            rcases g2 with g2 | g2
            · have i1 : (a : Int) ≤ 56319 := by omega
              have i2 : (a : Int) ≤ 55295 := by omega
              clear hl g1 g2 ha h6
              go_enter Tryd.func32, Tryd.ntmps32
              go_wp2_with fail
              (with_reducible refine (HME.out _).mono ?_)
              rintro e w1 ⟨rfl, n, rfl⟩
              go_wp2_with fail
              (with_reducible refine (HUN.out _ (HT.out.below (below_drewN w n))).mono ?_)
              rintro e w2 ⟨rfl, hb2⟩
              have HB2 := Lib.hid ((below_drewN w n).trans (show Below w.heap.size (w.drewN n) w2 from hb2))
              clear hb2
              go_wp2_with fail
              go_ret2
              exact ⟨rfl, HB2.out⟩
            · have i1 : (56320 : Int) ≤ (a : Int) := by omega
              have i2 : (57344 : Int) ≤ (a : Int) := by omega
              have i5 : (a : Int) ≤ 65535 := by omega
              clear hl g1 g2 ha h6
              go_enter Tryd.func32, Tryd.ntmps32
              go_wp2_with fail
              (with_reducible refine (HME.out _).mono ?_)
              rintro e w1 ⟨rfl, n, rfl⟩
              go_wp2_with fail
              (with_reducible refine (HUN.out _ (HT.out.below (below_drewN w n))).mono ?_)
              rintro e w2 ⟨rfl, hb2⟩
              have HB2 := Lib.hid ((below_drewN w n).trans (show Below w.heap.size (w.drewN n) w2 from hb2))
              clear hb2
              go_wp2_with fail
              go_ret2
              exact ⟨rfl, HB2.out⟩
          · rw [if_neg g2]
            have j1 : 55296 ≤ a := by omega
            have j2 : a < 56320 := by omega
            have i1 : (55296 : Int) ≤ (a : Int) := by omega
            have i2 : (a : Int) ≤ 56319 := by omega
            have i3 : (a : Int) ≤ 57343 := by omega
            have h6i : (6 : Int) ≤ (s.size : Int) := by omega
            have hun2 := fun w (hT : Tabs w) => unit_any (s.extract 6 s.size) (by rw [ByteArray.size_extract]; omega) w hT
            rw [tail_data] at hun2
            have i5a : (a : Int) ≤ 65535 := by omega
            clear hl g1 g2 ha
            cases hu2 : unitL (s.data.toList.drop 6) with
            | none =>
              rw [unitV_none hu2] at hun2
              dsimp only at hun2 ⊢
              have HUN2 := Lib.hid hun2
              clear hun2 hu2 j1 j2 h6
              go_enter Tryd.func32, Tryd.ntmps32
              go_wp2_with fail
              (with_reducible refine (HME.out _).mono ?_)
              rintro e w1 ⟨rfl, n, rfl⟩
              go_wp2_with fail
              (with_reducible refine (HUN.out _ (HT.out.below (below_drewN w n))).mono ?_)
              rintro e w2 ⟨rfl, hb2⟩
              have HB2 := Lib.hid ((below_drewN w n).trans (show Below w.heap.size (w.drewN n) w2 from hb2))
              clear hb2
              go_wp2_with fail
              (with_reducible refine (HUN2.out _ (HT.out.below HB2.out)).mono ?_)
              rintro e w3 ⟨rfl, hb3⟩
              have HB3 := Lib.hid (HB2.out.trans (hb3.mono HB2.out.size))
              clear hb3
              go_wp2_with fail
              go_ret2
              exact ⟨rfl, HB3.out⟩
            | some b =>
              rw [unitV_some hu2] at hun2
              dsimp only at hun2 ⊢
              have hb16 := (unitL_some hu2).1
              clear hu2
              by_cases g3 : b < 56320 ∨ 57343 < b
              · rw [if_pos g3]
                dsimp only
                rcases g3 with g3 | g3
                · have i5 : (b : Int) ≤ 56319 := by omega
                  have q5 : ((56320 : Int) ≤ (b : Int)) = False := eq_false (by omega)
                  have q6 : ((b : Int) < (56320 : Int)) = True := eq_true (by omega)
                  clear g3 hb16 j1 j2 h6
                  generalize (b : Int) = bi at *
                  have HUN2 := Lib.hid hun2
                  clear hun2
                  go_enter Tryd.func32, Tryd.ntmps32
                  go_wp2_with fail
                  (with_reducible refine (HME.out _).mono ?_)
                  rintro e w1 ⟨rfl, n, rfl⟩
                  go_wp2_with fail
                  (with_reducible refine (HUN.out _ (HT.out.below (below_drewN w n))).mono ?_)
                  rintro e w2 ⟨rfl, hb2⟩
                  have HB2 := Lib.hid ((below_drewN w n).trans (show Below w.heap.size (w.drewN n) w2 from hb2))
                  clear hb2
                  go_wp2_with fail
                  (with_reducible refine (HUN2.out _ (HT.out.below HB2.out)).mono ?_)
                  rintro e w3 ⟨rfl, hb3⟩
                  have HB3 := Lib.hid (HB2.out.trans (hb3.mono HB2.out.size))
                  clear hb3
                  go_wp2_with fail
                  go_ret2
                  exact ⟨rfl, HB3.out⟩
                · have i5 : (56320 : Int) ≤ (b : Int) := by omega
                  have i6 : (57344 : Int) ≤ (b : Int) := by omega
                  have i8 : (b : Int) ≤ 65535 := by omega
                  have q5 : ((56320 : Int) ≤ (b : Int)) = True := eq_true (by omega)
                  have q6 : ((b : Int) < (56320 : Int)) = False := eq_false (by omega)
                  have q7 : ((57343 : Int) < (b : Int)) = True := eq_true (by omega)
                  clear g3 hb16 j1 j2 h6
                  generalize (b : Int) = bi at *
                  have HUN2 := Lib.hid hun2
                  clear hun2
                  go_enter Tryd.func32, Tryd.ntmps32
                  go_wp2_with fail
                  (with_reducible refine (HME.out _).mono ?_)
                  rintro e w1 ⟨rfl, n, rfl⟩
                  go_wp2_with fail
                  (with_reducible refine (HUN.out _ (HT.out.below (below_drewN w n))).mono ?_)
                  rintro e w2 ⟨rfl, hb2⟩
                  have HB2 := Lib.hid ((below_drewN w n).trans (show Below w.heap.size (w.drewN n) w2 from hb2))
                  clear hb2
                  go_wp2_with fail
                  (with_reducible refine (HUN2.out _ (HT.out.below HB2.out)).mono ?_)
                  rintro e w3 ⟨rfl, hb3⟩
                  have HB3 := Lib.hid (HB2.out.trans (hb3.mono HB2.out.size))
                  clear hb3
                  go_wp2_with fail
                  go_ret2
                  exact ⟨rfl, HB3.out⟩
              · rw [if_neg g3]
                dsimp only
                have k1 : 56320 ≤ b := by omega
                have k2 : b ≤ 57343 := by omega
                have i6 : (b : Int) ≤ 57343 := by omega
                have hres : ((65536 + (a - 55296) * 1024 + (b - 56320) : Nat) : Int) = 65536 + ((a : Int) - 55296) * 1024 + ((b : Int) - 56320) := by omega
                rw [hres]
                have i5c : (56320 : Int) ≤ (b : Int) := by omega
                have q5 : ((56320 : Int) ≤ (b : Int)) = True := eq_true (by omega)
                have q6 : ((b : Int) < (56320 : Int)) = False := eq_false (by omega)
                have q7 : ((57343 : Int) < (b : Int)) = False := eq_false (by omega)
                clear hres g3 k1 k2 hb16 j1 j2 h6
                generalize (b : Int) = bi at *
                have HUN2 := Lib.hid hun2
                clear hun2
                go_enter Tryd.func32, Tryd.ntmps32
                go_wp2_with fail
                (with_reducible refine (HME.out _).mono ?_)
                rintro e w1 ⟨rfl, n, rfl⟩
                go_wp2_with fail
                (with_reducible refine (HUN.out _ (HT.out.below (below_drewN w n))).mono ?_)
                rintro e w2 ⟨rfl, hb2⟩
                have HB2 := Lib.hid ((below_drewN w n).trans (show Below w.heap.size (w.drewN n) w2 from hb2))
                clear hb2
                go_wp2_with fail
                (with_reducible refine (HUN2.out _ (HT.out.below HB2.out)).mono ?_)
                rintro e w3 ⟨rfl, hb3⟩
                have HB3 := Lib.hid (HB2.out.trans (hb3.mono HB2.out.size))
                clear hb3
                go_wp2_with fail
                first
                  | (go_ret2; exact ⟨rfl, HB3.out⟩)
                  | (go_quiet (fail); go_wp2_with fail; go_ret2; exact ⟨rfl, HB3.out.trans (below_drewN _ _ |>.mono HB3.out.size)⟩)
  · have hv : escV s.data.toList = (0, 0) := by
      unfold escV escL
      rw [List.getElem?_eq_none (by omega), Option.bind_none]
      simp only []
      cases hu : unitL s.data.toList with
      | none => rfl
      | some a => have := (unitL_some hu).2; omega
    have hu : unitL s.data.toList = none := by
      cases hu : unitL s.data.toList with
      | none => rfl
      | some a => have := (unitL_some hu).2; omega
    rw [hv]
    rw [unitV_none hu] at hun
    dsimp only at hun ⊢
    have HUN := Lib.hid hun; have HT := Lib.hid hT
    have h1i : ¬ (1 : Int) < (s.size : Int) := by omega
    clear hun hu hv hl hT
    go_enter Tryd.func32, Tryd.ntmps32
    go_wp2_with fail
    (with_reducible refine (HUN.out _ HT.out).mono ?_)
    rintro e w2 ⟨rfl, hb2⟩
    have HB2 := Lib.hid hb2
    clear hb2
    go_wp2_with fail
    go_ret2
    exact ⟨rfl, HB2.out⟩
end Go.Proofs.YtpibbokkdjjgeaaDoor

/-
  glyph.Unquote, walked.
-/
namespace Go.Proofs.YtpibbokkdjjgeaaDoor
open Go.RowKit Go.Lib
set_option linter.unusedSimpArgs false
set_option linter.unusedVariables false
theorem BuilderAtF_walk {T e : TypeId} {B b : Nat} {p : Value} {bs : List Value} {W W' : World} (h : Lib.BuilderAtF T e B b p bs W) (hg : W.grownBy W' none) : Lib.BuilderAtF T e B b p bs W' := by
  obtain ⟨hB, v, hb, hown, hne⟩ := h
  refine ⟨hB, v, (hg.block b (Array.getElem?_eq_some_iff.1 hb).1 (by simp)).trans hb, hown.kept hg ?_, hne⟩
  cases hv : v.ownBlock with
  | none => exact .inl rfl
  | some k => exact .inr fun e => by cases e
theorem BI.below {w wr w' : World} {bs : List UInt8} (h : BI w bs wr) (hb : Below wr.heap.size wr w') : BI w bs w' := by
  have hg : wr.grownBy w' none := ⟨hb.os, hb.tape, hb.output, hb.size, fun k hk _ => hb.block k hk⟩
  exact ⟨h.1.elim (fun x => .inl (BuilderAtF_walk x hg)) (fun x => .inr (BuilderAtF_walk x hg)), h.2.trans (hb.mono h.2.size)⟩
theorem BuilderAtF_iter {T e : TypeId} {B b : Nat} {p : Value} {bs : List Value} {W : World} {K : Nat} {s : ByteArray} {q : Nat} (h : Lib.BuilderAtF T e B b p bs W) (hK : W.heap[K]? = some (.stringIter s q)) (q' : Nat) : Lib.BuilderAtF T e B b p bs (W.iterAt K s q') := by
  have hg : W.grownBy (W.iterAt K s q') (some K) := ⟨rfl, rfl, rfl, by rw [Lib.iterAt_size]; exact Nat.le_refl _, fun k hk hne => Lib.iterAt_other W K k s q' (fun e => by subst e; exact hne rfl)⟩
  obtain ⟨hB, v, hb, hown, hne⟩ := h
  have hbK : b ≠ K := fun e => by subst e; rw [hb] at hK; cases hK
  refine ⟨hB, v, (Lib.iterAt_other W K b s q' hbK).trans hb, hown.kept hg ?_, hne⟩
  cases hv : v.ownBlock with
  | none => exact .inl rfl
  | some k =>
    refine .inr fun e => ?_
    obtain ⟨c, fz, hc⟩ := Lib.ownsRowF_kind hown k hv
    cases e
    rw [hc] at hK
    cases hK
theorem BI.iter {w wr : World} {bs : List UInt8} (h : BI w bs wr) {K : Nat} {s : ByteArray} {q : Nat} (hK : wr.heap[K]? = some (.stringIter s q)) (hle : w.heap.size ≤ K) (q' : Nat) : BI w bs (wr.iterAt K s q') :=
  ⟨h.1.elim (fun x => .inl (BuilderAtF_iter x hK q')) (fun x => .inr (BuilderAtF_iter x hK q')), Lib.below_iterAt h.2 hle s q'⟩
theorem iter_others {wr w' : World} {K b : Nat} {s : ByteArray} {q : Nat} (h : Lib.OthersKept 5 (some b) wr w') (hK : wr.heap[K]? = some (.stringIter s q)) (hb : K ≠ b) : w'.heap[K]? = some (.stringIter s q) :=
  h K _ hK (fun e => by cases e; exact hb rfl) (fun c fz e => by cases e)
theorem hexL_ascii : ∀ (A : List UInt8) (n m : Nat), hexL A n = some m → ∀ c ∈ A, c.toNat < 128
  | [], n, m, h => by simp
  | a :: A, n, m, h => by
    simp only [hexL] at h
    cases hh : hexB a with
    | none => rw [hh] at h; cases h
    | some x =>
      rw [hh] at h
      intro c hc
      rcases List.mem_cons.1 hc with rfl | hc
      · rcases Nat.lt_or_ge c.toNat 128 with h1 | h1
        · exact h1
        · rw [hexB_high h1] at hh; cases hh
      · exact hexL_ascii A _ m h c hc
theorem unitL_ascii {l : List UInt8} {a : Nat} (h : unitL l = some a) : ∀ j, j < 6 → at4 l j < 128 := by
  unfold unitL at h
  split at h
  · rename_i x1 x2 x3 x4 t
    have := hexL_ascii _ _ _ h
    intro j hj
    have hj2 : j = 0 ∨ j = 1 ∨ j = 2 ∨ j = 3 ∨ j = 4 ∨ j = 5 := by omega
    rcases hj2 with rfl | rfl | rfl | rfl | rfl | rfl
    · show (92 : UInt8).toNat < 128; decide
    · show (117 : UInt8).toNat < 128; decide
    · exact this x1 (by simp)
    · exact this x2 (by simp)
    · exact this x3 (by simp)
    · exact this x4 (by simp)
  · cases h
theorem meantB_ascii : ∀ n : Fin 256, meantB (UInt8.ofNat n.val) ≠ none → n.val < 128 := by decide +kernel
theorem escL_ascii {l : List UInt8} {r n : Nat} (h : escL l = some (r, n)) : n ≤ l.length ∧ r ≤ 1114111 ∧ 2 ≤ n ∧ ∀ j, 0 < j → j < n → at4 l j < 128 := by
  unfold escL at h
  split at h
  · rename_i c hc
    have h2 := Prod.mk.inj (Option.some.inj h)
    obtain ⟨rfl, rfl⟩ := h2
    obtain ⟨x, hx, hxc⟩ := Option.bind_eq_some_iff.1 hc
    have hlt : 1 < l.length := (List.getElem?_eq_some_iff.1 hx).1
    have hx128 : x.toNat < 128 := by
      have := meantB_ascii ⟨x.toNat, x.toNat_lt⟩
      simp only [UInt8.ofNat_toNat] at this
      exact this (by rw [hxc]; simp)
    refine ⟨by omega, by have := c.toNat_lt; omega, by omega, fun j h1 h2 => ?_⟩
    have : j = 1 := by omega
    subst this
    unfold at4
    rw [List.getD_eq_getElem?_getD, hx]
    exact hx128
  · split at h
    · cases h
    · rename_i a ha
      obtain ⟨g1, g2⟩ := unitL_some ha
      have g3 := unitL_ascii ha
      split at h
      · cases h
      · split at h
        · have h2 := Prod.mk.inj (Option.some.inj h)
          obtain ⟨rfl, rfl⟩ := h2
          exact ⟨g2, by omega, by omega, fun j _ hj => g3 j hj⟩
        · split at h
          · cases h
          · rename_i b hb
            obtain ⟨k1, k2⟩ := unitL_some hb
            have k3 := unitL_ascii hb
            split at h
            · cases h
            · have h2 := Prod.mk.inj (Option.some.inj h)
              rw [List.length_drop] at k2
              refine ⟨by omega, by omega, by omega, fun j h3 h4 => ?_⟩
              rcases Nat.lt_or_ge j 6 with h5 | h5
              · exact g3 j h5
              · have := k3 (j - 6) (by omega)
                rw [at4_drop, show 6 + (j - 6) = j from by omega] at this
                exact this
/-- Where the walk stands: behind what is told, or inside an escape. -/
def UI (t : List UInt8) (U : Option (List UInt8 × Nat)) (pos : Nat) (acc : List UInt8) (skip : Nat) : Prop :=
  (skip ≤ pos ∧ acc.length ≤ 4 * pos ∧ unqF (t.drop pos) acc (1 + pos) = U) ∨ (pos < skip ∧ skip ≤ t.length ∧ acc.length ≤ 4 * skip ∧ unqF (t.drop skip) acc (1 + skip) = U ∧ ∀ j, pos ≤ j → j < skip → at4 t j < 128)
theorem byte_ne {h k : Nat} (h1 : h < 256) (h2 : k < 256) (hk : h ≠ k) : ¬ some (UInt8.ofNat h) = some (UInt8.ofNat k) := by
  intro e
  have := congrArg UInt8.toNat (Option.some.inj e)
  simp only [UInt8.toNat_ofNat'] at this
  omega
theorem at4_take (l : List UInt8) (n i : Nat) (h : i < n) : at4 (l.take n) i = at4 l i := by
  unfold at4
  rw [List.getD_eq_getElem?_getD, List.getElem?_take_of_lt h, ← List.getD_eq_getElem?_getD]
theorem dec_take (l : List UInt8) : dec (l.take 4) = dec l := by
  unfold dec
  rw [at4_take _ _ _ (by omega), at4_take _ _ _ (by omega), at4_take _ _ _ (by omega), at4_take _ _ _ (by omega), List.length_take]
  unfold decodeN
  have e1 : (1 < min 4 l.length) = (1 < l.length) := propext (by omega)
  have e2 : (2 < min 4 l.length) = (2 < l.length) := propext (by omega)
  have e3 : (3 < min 4 l.length) = (3 < l.length) := propext (by omega)
  simp only [e1, e2, e3]
theorem vw_take (l : List UInt8) (hne : l ≠ []) : vw (l.take 4) = vw l := by
  unfold vw
  rw [dec_take]
  have : l.take 4 ≠ [] := by
    cases l with
    | nil => exact absurd rfl hne
    | cons a t => simp
  simp [hne, this]
theorem check_zero (l : List UInt8) (hne : l ≠ []) : optI (checkF l 0) = 0 ↔ vw l = 0 := by
  rw [checkF_step, if_neg hne]
  by_cases h : vw l = 0
  · rw [if_pos h]
    exact ⟨fun _ => h, fun _ => rfl⟩
  · rw [if_neg h, Nat.zero_add]
    have hge : ∀ (n : Nat) (m : List UInt8) (p : Nat), m.length ≤ n → optI (checkF m p) = -1 ∨ (p : Int) ≤ optI (checkF m p) := by
      intro n
      induction n with
      | zero =>
        intro m p hm
        have : m = [] := List.length_eq_zero_iff.1 (by omega)
        rw [this, checkF_step]
        exact .inl rfl
      | succ n ih =>
        intro m p hm
        rw [checkF_step]
        by_cases hv : vw m = 0
        · rw [if_pos hv]
          by_cases hm0 : m = []
          · rw [if_pos hm0]; exact .inl rfl
          · rw [if_neg hm0]; exact .inr (Int.le_refl _)
        · rw [if_neg hv]
          have := (vw_le m).1
          rcases ih (m.drop (vw m)) (p + vw m) (by rw [List.length_drop]; omega) with h1 | h1
          · exact .inl h1
          · exact .inr (by omega)
    constructor
    · intro h2
      rcases hge _ (l.drop (vw l)) (vw l) (Nat.le_refl _) with h1 | h1 <;> omega
    · intro h2
      exact absurd h2 h
theorem unqF_step (l acc : List UInt8) (p : Nat) : unqF l acc p = if l.head? = some 34 then some (acc, p + 1) else if l.head? = some 92 then (match escL l with | none => none | some (r, n) => unqF (l.drop n) (acc ++ encodeRune (r : Int)) (p + n)) else if at4 l 0 < 32 then none else if vw l = 0 then none else unqF (l.drop (vw l)) (acc ++ l.take (vw l)) (p + vw l) := by
  rw [unqF]
  split
  · rfl
  · split
    · split
      · rename_i h; rw [h]
      · rename_i r n h; rw [h]
    · split
      · rfl
      · split <;> rfl
set_option maxRecDepth 100000 in
set_option maxHeartbeats 4000000 in
theorem unquote_go (s R : ByteArray) (hp : Lib.hasPrefix s.data.toList [34] = true) (hR : Lib.trimPrefix s.data.toList [34] = R.data.toList) (hs : R.size ≤ 100000000) (w : World) (hT : Tabs w) :
    Calls Tryd.prog 16 #[.string s] w fun e w' => e = .returned (.tuple #[.string (bsL ((unqF R.data.toList [] 1).getD ([], 0)).1), .int .i64 (((unqF R.data.toList [] 1).getD ([], 0)).2 : Int)]) ∧ Below w.heap.size w w' := by
  have hcp := fun w => Tryd.strings_CutPrefix s ⟨#[34]⟩ w
  change ∀ w, Calls Tryd.prog 31 #[.string s, .string ⟨#[34]⟩] w fun e w' => e = .returned (.tuple #[.string ⟨(Lib.trimPrefix s.data.toList [34]).toArray⟩, .bool (Lib.hasPrefix s.data.toList [34])]) ∧ w' = w at hcp
  rw [hR, hp, show (⟨R.data.toList.toArray⟩ : ByteArray) = R from bsL_data R] at hcp
  obtain ⟨U, hU⟩ : ∃ U, unqF R.data.toList [] 1 = U := ⟨_, rfl⟩
  rw [hU]
  have HCP := Lib.hid hcp; have HT := Lib.hid hT; have HU := Lib.hid hU
  clear hcp hR hp hT hU
  go_enter Tryd.func16, Tryd.ntmps16
  go_wp2_with fail
  refine (HCP.out _).mono ?_
  rintro e w1 ⟨rfl, rfl⟩
  go_wp2_with fail
  go_loopw [7] (fun kv wr => ∃ (pos : Nat) (acc : List UInt8) (skip : Nat), pos ≤ R.size ∧ skip ≤ R.size ∧ kv = .int .i64 skip ∧ wr.heap[w1.heap.size + 1]? = some (.stringIter R pos) ∧ Hid (BI w1 acc wr) ∧ Hid (UI R.data.toList U pos acc skip)) (fun kv wr => R.size - wr.iterPos (w1.heap.size + 1))
  case atStart => exact ⟨0, [], 0, Nat.zero_le _, Nat.zero_le _, rfl, (by have h := World.iter_heap (w1.alloc (.cells #[.pointer none, .slice none 0 0] 41)) R 0; rwa [show (w1.alloc (.cells #[.pointer none, .slice none 0 0] 41)).heap.size = w1.heap.size + 1 from by show (w1.heap.push _).size = _; rw [Array.size_push]] at h), Lib.hid ((BI.start w1).below ((Below.refl _ _).alloc (Nat.le_refl _) _)), Lib.hid (.inl ⟨Nat.le_refl _, by simp, by rw [List.drop_zero]; exact HU.out⟩)⟩
  case round =>
    obtain ⟨pos, acc, skip, hle, hsk, rfl, hit, HBI, HUI⟩ := hrel
    have hl := len_data R
    by_cases hp : pos < R.size
    · have hne : R.data.toList.drop pos ≠ [] := by
        intro e
        have := congrArg List.length e
        rw [List.length_drop, len_data, List.length_nil] at this
        omega
      have hnx0 := fun ty => Lib.run_next_any_at (P := Tryd.prog) wr (w1.heap.size + 1) R pos ty hit hp
      rw [decode_drop] at hnx0
      have hw1 := dec_width _ hne
      have hll : (R.data.toList.drop pos).length = R.size - pos := by rw [List.length_drop, len_data]
      have HIT := fun wd => Lib.hid (Lib.iterAt_heap wr (w1.heap.size + 1) R pos (pos + wd) hit)
      have HB1 := fun wd => Lib.hid (HBI.out.iter hit (by omega) (pos + wd))
      have HI0 := Lib.hid hit
      obtain ⟨r1, r2, r3⟩ := dec_range _ hne
      clear hit
      by_cases hskp : pos < skip
      · obtain ⟨h1, h2, h3, h4, h5⟩ : pos < skip ∧ skip ≤ R.data.toList.length ∧ acc.length ≤ 4 * skip ∧ unqF (R.data.toList.drop skip) acc (1 + skip) = U ∧ ∀ j, pos ≤ j → j < skip → at4 R.data.toList j < 128 := by
          rcases HUI.out with ⟨h1, _⟩ | h
          · omega
          · exact h
        obtain ⟨d1, d2⟩ := dec_ascii _ hne (by rw [at4_drop]; exact h5 pos (Nat.le_refl _) hskp)
        have hui : UI R.data.toList U (pos + 1) acc skip := by
          by_cases e : pos + 1 = skip
          · exact .inl ⟨by omega, by omega, by rw [e]; exact h4⟩
          · exact .inr ⟨by omega, h2, h3, h4, fun j hj hj2 => h5 j (by omega) hj2⟩
        rw [d1] at hnx0
        obtain ⟨r, hr⟩ : ∃ r, at4 (R.data.toList.drop pos) 0 = r := ⟨_, rfl⟩
        rw [hr] at hnx0
        dsimp only at hnx0
        have hnx := hnx0
        have HIT1 := HIT 1; have HB11 := HB1 1
        have HUI2 := Lib.hid hui
        have hski : (pos : Int) < (skip : Int) := by omega
        have HP := Lib.hid hp
        clear hnx0 h1 h2 h3 h4 h5 d1 d2 hui hr r1 r2 r3 hw1 hll hne HIT HB1 HUI HBI hl hskp
        go_wp2_with fail
        go_roundw
        case rel => exact ⟨pos + 1, acc, skip, by have := HP.out; omega, hsk, rfl, HIT1.out, HB11, HUI2⟩
        case measure => simp only [World.iterPos, HIT1.out, HI0.out]; have := HP.out; omega
      · obtain ⟨hac, hst⟩ : acc.length ≤ 4 * pos ∧ unqF (R.data.toList.drop pos) acc (1 + pos) = U := by
          rcases HUI.out with ⟨_, h2, h3⟩ | ⟨h1, _⟩
          · exact ⟨h2, h3⟩
          · omega
        rw [unqF_step] at hst
        have hski : ¬ (pos : Int) < (skip : Int) := by omega
        obtain ⟨L, hL⟩ : ∃ L, R.data.toList.drop pos = L := ⟨_, rfl⟩
        rw [hL] at hst hnx0 hw1 hll r1 r2 r3 hne
        have hhead : L.head? = some (UInt8.ofNat (at4 L 0)) := by
          cases L with
          | nil => exact absurd rfl hne
          | cons a t => simp [at4]
        have hesc := fun w (hT : Tabs w) => escape_any (R.extract pos R.size) (by rw [ByteArray.size_extract]; omega) w hT
        rw [tail_data, hL] at hesc
        obtain ⟨h0, hh0⟩ : ∃ h0, at4 L 0 = h0 := ⟨_, rfl⟩
        have hh256 : h0 < 256 := by rw [← hh0]; exact at4_lt _ _
        rw [hh0] at hst hhead r3
        rw [hhead] at hst
        have hdrop : ∀ k, L.drop k = R.data.toList.drop (pos + k) := fun k => by rw [← hL, List.drop_drop]
        have hat : ∀ j, at4 L j = at4 R.data.toList (pos + j) := fun j => by rw [← hL, at4_drop]
        have hi1 : ((1 : Int) ≤ (pos : Int)) ∨ True := .inr trivial
        clear hi1
        by_cases e34 : h0 = 34
        · obtain ⟨d1, d2⟩ := dec_ascii L hne (by omega)
          rw [d1, hh0, e34] at hnx0
          dsimp only at hnx0
          rw [e34, if_pos (show some (UInt8.ofNat 34) = some 34 from rfl)] at hst
          have hnx := hnx0
          have HIT1 := HIT 1; have HB11 := (HB1 1)
          have HST := Lib.hid hst
          clear hnx0 hst d1 d2 hesc hdrop hat HIT HB1 HUI HBI hl hll hw1 r1 r2 r3 hhead hL hne hh0 e34 hh256
          go_wp2_with fail
          refine (HB11.out.told).mono ?_
          rintro e w4 ⟨rfl, hb4⟩
          have HB4 := Lib.hid hb4
          clear hb4
          go_wp2_with fail
          go_ret2
          exact ⟨by rw [← HST.out]; show Ending.returned (.tuple #[.string (bsL acc), .int .i64 ((pos : Int) + 2)]) = Ending.returned (.tuple #[.string (bsL acc), .int .i64 ((1 + pos + 1 : Nat) : Int)]); rw [show ((1 + pos + 1 : Nat) : Int) = (pos : Int) + 2 from by omega], HB4.out⟩
        · rw [if_neg (show ¬ some (UInt8.ofNat h0) = some 34 from byte_ne (k := 34) hh256 (by omega) e34)] at hst
          by_cases e92 : h0 = 92
          · obtain ⟨d1, d2⟩ := dec_ascii L hne (by omega)
            rw [d1, hh0, e92] at hnx0
            dsimp only at hnx0
            rw [e92, if_pos (show some (UInt8.ofNat 92) = some 92 from rfl)] at hst
            have hnx := hnx0
            have HIT1 := HIT 1; have HB11 := (HB1 1)
            have HP := Lib.hid hp
            have hle2 : (pos : Int) ≤ (R.size : Int) := by omega
            cases hE : escL L with
            | none =>
              rw [hE] at hst
              have hv : escV L = (0, 0) := by unfold escV; rw [hE]
              rw [hv] at hesc
              dsimp only at hst hesc
              have HST := Lib.hid hst; have HESC := Lib.hid hesc
              clear hnx0 hst d1 d2 hesc hdrop hat HIT HB1 HUI HBI hl hll hw1 r1 r2 r3 hhead hL hne hh0 e34 e92 hh256 hv hE
              go_wp2_with fail
              refine (HESC.out _ (HT.out.below HB11.out.2)).mono ?_
              rintro e w3 ⟨rfl, hb3⟩
              have HB3 := Lib.hid (HB11.out.2.trans (hb3.mono HB11.out.2.size))
              clear hb3
              go_wp2_with fail
              go_ret2
              exact ⟨by rw [← HST.out]; rfl, HB3.out⟩
            | some x =>
              obtain ⟨r', n⟩ := x
              rw [hE] at hst
              have hv : escV L = ((r' : Int), (n : Int)) := by unfold escV; rw [hE]
              rw [hv] at hesc
              dsimp only at hst hesc
              obtain ⟨g1, g2, g3, g4⟩ := escL_ascii hE
              have hui : UI R.data.toList U (pos + 1) (acc ++ encodeRune (r' : Int)) (pos + n) := by
                refine .inr ⟨by omega, by rw [hl]; omega, ?_, ?_, fun j hj hj2 => ?_⟩
                · rw [List.length_append]
                  have := encodeRune_length (r' : Int)
                  omega
                · rw [← hdrop, show 1 + (pos + n) = 1 + pos + n from by omega]
                  exact hst
                · have := g4 (j - pos) (by omega) (by omega)
                  rw [hat, show pos + (j - pos) = j from by omega] at this
                  exact this
              have hskn : pos + n ≤ R.size := by omega
              have hn0 : ((n : Int) == 0) = false := by simp; omega
              have hacl : acc.length ≤ 100000000000 := by omega
              have hr' : (r' : Int) ≤ 2147483647 := by omega
              have hnb : n ≤ 1000000000 := by omega
              have HUI2 := Lib.hid hui; have HESC := Lib.hid hesc; have HSKN := Lib.hid hskn; have HR' := Lib.hid hr'; have HACL := Lib.hid hacl
              have HLT : Hid (w1.heap.size + 1 < (wr.iterAt (w1.heap.size + 1) R (pos + 1)).heap.size) := Lib.hid (Array.getElem?_eq_some_iff.1 HIT1.out).1
              clear hnx0 hst d1 d2 hesc hdrop hat HIT HB1 HUI HBI hl hll hw1 r1 r2 r3 hhead hL hne hh0 e34 e92 hh256 hv hE g1 g2 g3 g4 hui hskn hr' hacl
              go_wp2_with fail
              refine (HESC.out _ (HT.out.below HB11.out.2)).mono ?_
              rintro e w3 ⟨rfl, hb3⟩
              have HB3 := Lib.hid (HB11.out.below hb3)
              have HIT3 := Lib.hid ((hb3.block _ HLT.out).trans HIT1.out)
              clear hb3
              go_wp2_with fail
              refine (HB3.out.rune HACL.out (r' : Int) (by omega) HR'.out).mono ?_
              rintro e w4 ⟨⟨m, rfl⟩, hi4, ho4⟩
              have HB4 := Lib.hid hi4
              have HIT4 := Lib.hid (iter_others ho4 HIT3.out (by omega))
              clear hi4 ho4
              go_wp2_with fail
              go_roundw
              case rel => exact ⟨pos + 1, acc ++ encodeRune (r' : Int), pos + n, by have := HP.out; omega, HSKN.out, by first | rfl | go_num, HIT4.out, HB4, HUI2⟩
              case measure => simp only [World.iterPos, HIT4.out, HI0.out]; have := HP.out; omega
          · rw [if_neg (show ¬ some (UInt8.ofNat h0) = some 92 from byte_ne (k := 92) hh256 (by omega) e92)] at hst
            by_cases e32 : h0 < 32
            · obtain ⟨d1, d2⟩ := dec_ascii L hne (by omega)
              rw [d1, hh0] at hnx0
              dsimp only at hnx0
              rw [if_pos e32] at hst
              have hnx := hnx0
              have HIT1 := HIT 1; have HB11 := (HB1 1)
              have HST := Lib.hid hst
              have q1 : ((h0 : Int) == 34) = false := by simp; omega
              have q2 : ((h0 : Int) == 92) = false := by simp; omega
              have q3 : (h0 : Int) ≤ 31 := by omega
              have q4 : ((h0 : Int) < 32) = True := eq_true (by omega)
              clear hnx0 hst d1 d2 hesc hdrop hat HIT HB1 HUI HBI hl hll hw1 r1 r2 r3 hhead hL hne hh0 e34 e92 hh256 e32
              go_wp2_with fail
              go_ret2
              exact ⟨by rw [← HST.out]; rfl, HB11.out.2⟩
            · rw [if_neg e32] at hst
              have hchk := check_zero (L.take 4) (by cases L with | nil => exact absurd rfl hne | cons a t => simp)
              rw [vw_take L hne] at hchk
              have hche := fun w => check_any (bsL (L.take 4)) (by rw [bsL_size, List.length_take]; omega) w
              rw [bsL_toList] at hche
              have hwin : R.extract pos (min (R.size : Int) ((pos : Int) + 4)).toNat = bsL (L.take 4) := by
                rw [extract_bsL, ← hL]
                congr 1
                rw [List.drop_take]
                by_cases h4 : pos + 4 ≤ R.size
                · rw [show (min (R.size : Int) ((pos : Int) + 4)).toNat - pos = 4 from by omega]
                · rw [List.take_of_length_le (by rw [List.length_drop, len_data]; omega), List.take_of_length_le (by rw [List.length_drop, len_data]; omega)]
              obtain ⟨C, hC⟩ : ∃ C, optI (checkF (L.take 4) 0) = C := ⟨_, rfl⟩
              rw [hC] at hchk hche
              have hrr : 32 ≤ (dec L).1 ∧ (dec L).1 ≠ 34 ∧ (dec L).1 ≠ 92 := by
                by_cases h128 : h0 < 128
                · obtain ⟨d1, d2⟩ := dec_ascii L hne (by omega)
                  rw [d1, hh0]
                  exact ⟨by show 32 ≤ h0; omega, e34, e92⟩
                · have := r3 (by omega)
                  omega
              have htold : vw L ≠ 0 → acc ++ encodeRune ((dec L).1 : Int) = acc ++ L.take (vw L) ∧ vw L = (dec L).2 := fun h => ⟨by rw [(dec_told L h).1], (vw_pos h).2.2⟩
              have hv0 : (dec L).1 ≠ 65533 → vw L ≠ 0 := fun h e => by
                unfold vw at e
                split at e
                · rename_i h2
                  rcases h2 with h2 | h2
                  · exact hne h2
                  · rw [h2] at h; exact h rfl
                · omega
              obtain ⟨r, hr⟩ : ∃ r, (dec L).1 = r := ⟨_, rfl⟩
              obtain ⟨wd, hwd⟩ : ∃ r, (dec L).2 = r := ⟨_, rfl⟩
              obtain ⟨v, hv⟩ : ∃ v, vw L = v := ⟨_, rfl⟩
              rw [hr, hwd] at hnx0
              rw [hr] at hrr hv0 r1 r2
              rw [hr, hwd, hv] at htold
              rw [hv] at hv0 hst hchk
              rw [hwd] at hw1
              obtain ⟨hr32, hr34, hr92⟩ := hrr
              have hui : v ≠ 0 → UI R.data.toList U (pos + wd) (acc ++ encodeRune (r : Int)) skip := fun h => by
                obtain ⟨h1, h2⟩ := htold h
                rw [if_neg h, hdrop, h2] at hst
                rw [h1, h2]
                refine .inl ⟨by omega, ?_, by rw [show 1 + (pos + wd) = 1 + pos + wd from by omega]; exact hst⟩
                rw [List.length_append, List.length_take]
                omega
              have hun : v = 0 → U = none := fun h => by rw [if_pos h] at hst; exact hst.symm
              have hskn : pos + wd ≤ R.size := by omega
              have hacl : acc.length ≤ 100000000000 := by omega
              have hrb : (r : Int) ≤ 2147483647 := by omega
              have q1 : ((r : Int) == 34) = false := by simp; omega
              have q2 : ((r : Int) == 92) = false := by simp; omega
              have q3 : (32 : Int) ≤ (r : Int) := by omega
              have q4 : ((r : Int) < 32) = False := eq_false (by omega)
              have hle2 : (pos : Int) ≤ (R.size : Int) := by omega
              have hmn : (pos : Int) ≤ min (R.size : Int) ((pos : Int) + 4) := by omega
              have hmn2 : min (R.size : Int) ((pos : Int) + 4) ≤ (R.size : Int) := by omega
              have HIT1 := HIT wd; have HB11 := HB1 wd
              have HW1 := Lib.hid hw1
              have HUI2 := Lib.hid hui; have HUN := Lib.hid hun; have HV0 := Lib.hid hv0; have HCHK := Lib.hid hchk; have HCHE := Lib.hid hche; have HSKN := Lib.hid hskn; have HRB := Lib.hid hrb; have HACL := Lib.hid hacl
              have HLT : Hid (w1.heap.size + 1 < (wr.iterAt (w1.heap.size + 1) R (pos + wd)).heap.size) := Lib.hid (Array.getElem?_eq_some_iff.1 HIT1.out).1
              have hnx := hnx0
              have HP := Lib.hid hp
              clear hnx0 hst hesc hdrop hat HIT HB1 HUI HBI hl hll hw1 r1 r2 r3 hhead hne hh0 e34 e92 hh256 e32 hchk hche hC htold hv0 hr hwd hv hui hun hskn hacl hrb hr32 hr34 hr92
              by_cases h5 : r = 65533
              · subst h5
                have HL := Lib.hid hL; have HWIN := Lib.hid hwin
                clear hL q1 q2 q3 q4
                by_cases hv1 : v = 0
                · have hC0 : C = 0 := HCHK.out.2 hv1
                  subst hC0
                  have HUN2 := Lib.hid (HUN.out hv1)
                  clear hv1
                  go_wp2_with fail
                  try rw [HWIN.out]
                  refine (HCHE.out _).mono ?_
                  rintro e w3 ⟨rfl, hb3⟩
                  have HB3 := Lib.hid (HB11.out.2.trans (hb3.mono HB11.out.2.size))
                  clear hb3 hwin
                  go_wp2_with fail
                  go_ret2
                  exact ⟨by rw [HUN2.out]; rfl, HB3.out⟩
                · have hC0 : (C == 0) = false := by
                    have : C ≠ 0 := fun e => hv1 (HCHK.out.1 e)
                    simpa using this
                  have HUI3 := Lib.hid (HUI2.out hv1)
                  clear hv1
                  go_wp2_with fail
                  try rw [HWIN.out]
                  refine (HCHE.out _).mono ?_
                  rintro e w3 ⟨rfl, hb3⟩
                  have HB3 := Lib.hid (HB11.out.below hb3)
                  have HIT3 := Lib.hid ((hb3.block _ HLT.out).trans HIT1.out)
                  clear hb3 hwin
                  go_wp2_with fail
                  refine (HB3.out.rune HACL.out 65533 (by omega) (by omega)).mono ?_
                  rintro e w4 ⟨⟨m, rfl⟩, hi4, ho4⟩
                  have HB4 := Lib.hid hi4
                  have HIT4 := Lib.hid (iter_others ho4 HIT3.out (by omega))
                  clear hi4 ho4
                  go_wp2_with fail
                  go_roundw
                  case rel => exact ⟨pos + wd, acc ++ encodeRune 65533, skip, HSKN.out, hsk, rfl, HIT4.out, HB4, HUI3⟩
                  case measure => simp only [World.iterPos, HIT4.out, HI0.out]; have := HP.out; have := HW1.out; omega
              · have HUI3 := Lib.hid (HUI2.out (HV0.out h5))
                have q5 : ((r : Int) == 65533) = false := by simp; omega
                clear h5 hwin hL
                go_wp2_with fail
                refine (HB11.out.rune HACL.out (r : Int) (by omega) HRB.out).mono ?_
                rintro e w4 ⟨⟨m, rfl⟩, hi4, ho4⟩
                have HB4 := Lib.hid hi4
                have HIT4 := Lib.hid (iter_others ho4 HIT1.out (by omega))
                clear hi4 ho4
                go_wp2_with fail
                go_roundw
                case rel => exact ⟨pos + wd, acc ++ encodeRune (r : Int), skip, HSKN.out, hsk, rfl, HIT4.out, HB4, HUI3⟩
                case measure => simp only [World.iterPos, HIT4.out, HI0.out]; have := HP.out; have := HW1.out; omega
    · have hpe : pos = R.size := by omega
      have hUn : U = none := by
        rcases HUI.out with ⟨_, _, h3⟩ | ⟨h1, h2, _⟩
        · rw [← h3, hpe, ← hl, List.drop_length, unqF_step]
          rfl
        · rw [hl] at h2; omega
      have hnx : ∀ ty, (Instr.next (.pointer (some ⟨w1.heap.size + 1, 0, none⟩)) true ty).run Tryd.prog wr = _ := fun ty => Lib.run_next_end_at wr (w1.heap.size + 1) R pos ty hit hp
      have HUN := Lib.hid hUn
      clear hUn hpe HUI hl
      go_wp2_with fail
      go_ret2
      exact ⟨by rw [HUN.out]; rfl, HBI.out.2⟩
end Go.Proofs.YtpibbokkdjjgeaaDoor

/-
  glyph.Unquote at every text; known: the chapter's examples.
-/
namespace Go.Proofs.YtpibbokkdjjgeaaDoor
open Go.RowKit Go.Lib
set_option linter.unusedSimpArgs false
set_option linter.unusedVariables false
set_option maxRecDepth 100000 in
theorem unquote_any (s : ByteArray) (hs : s.size ≤ 100000000) (w : World) (hT : Tabs w) :
    Calls Tryd.prog 16 #[.string s] w fun e w' => e = .returned (.tuple #[.string (bsL (unquoteL s.data.toList).1), .int .i64 ((unquoteL s.data.toList).2 : Int)]) ∧ Below w.heap.size w w' := by
  cases hp : Lib.hasPrefix s.data.toList [34] with
  | true =>
    obtain ⟨t, ht⟩ : ∃ t, s.data.toList = 34 :: t := by
      unfold Lib.hasPrefix at hp
      match h : s.data.toList with
      | [] => rw [h] at hp; simp [List.isPrefixOf] at hp
      | a :: t =>
        rw [h] at hp
        simp [List.isPrefixOf] at hp
        exact ⟨t, by rw [← hp]⟩
    have hl := len_data s
    rw [ht, List.length_cons] at hl
    have h := unquote_go s (bsL t) hp (by unfold Lib.trimPrefix; rw [if_pos hp, ht, bsL_toList]; rfl) (by rw [bsL_size]; omega) w hT
    rw [bsL_toList] at h
    rw [ht]
    exact h
  | false =>
    have hv : unquoteL s.data.toList = ([], 0) := by
      unfold unquoteL
      split
      · rename_i t ht
        rw [ht] at hp
        simp [Lib.hasPrefix, List.isPrefixOf] at hp
      · rfl
    rw [hv]
    have hcp := fun w => Tryd.strings_CutPrefix s ⟨#[34]⟩ w
    change ∀ w, Calls Tryd.prog 31 #[.string s, .string ⟨#[34]⟩] w fun e w' => e = .returned (.tuple #[.string ⟨(Lib.trimPrefix s.data.toList [34]).toArray⟩, .bool (Lib.hasPrefix s.data.toList [34])]) ∧ w' = w at hcp
    rw [hp] at hcp
    have HCP := Lib.hid hcp
    clear hcp hv hp hT
    go_enter Tryd.func16, Tryd.ntmps16
    go_wp2_with fail
    refine (HCP.out _).mono ?_
    rintro e w1 ⟨rfl, rfl⟩
    go_wp2_with fail
    go_ret2
    exact ⟨rfl, Below.refl _ _⟩
/-! The same by rounds, for examples. -/
def unqN : Nat → List UInt8 → List UInt8 → Nat → Option (List UInt8 × Nat)
  | 0, _, _, _ => none
  | k + 1, l, acc, p => if l.head? = some 34 then some (acc, p + 1) else if l.head? = some 92 then (match escL l with | none => none | some (r, n) => unqN k (l.drop n) (acc ++ encodeRune (r : Int)) (p + n)) else if at4 l 0 < 32 then none else if vw l = 0 then none else unqN k (l.drop (vw l)) (acc ++ l.take (vw l)) (p + vw l)
theorem unqN_eq : ∀ (k : Nat) (l acc : List UInt8) (p : Nat), l.length < k → unqN k l acc p = unqF l acc p
  | 0, l, acc, p, h => by omega
  | k + 1, l, acc, p, h => by
    rw [unqF_step]
    simp only [unqN]
    split
    · rfl
    · split
      · cases hE : escL l with
        | none => rfl
        | some x =>
          obtain ⟨r, n⟩ := x
          have h1 := (escL_len hE)
          exact unqN_eq k _ _ _ (by rw [List.length_drop]; omega)
      · split
        · rfl
        · split
          · rfl
          · rename_i hv
            have := vw_le l
            exact unqN_eq k _ _ _ (by rw [List.length_drop]; omega)
def checkN : Nat → List UInt8 → Nat → Option Nat
  | 0, _, _ => none
  | k + 1, l, p => if vw l = 0 then (if l = [] then none else some p) else checkN k (l.drop (vw l)) (p + vw l)
theorem checkN_eq : ∀ (k : Nat) (l : List UInt8) (p : Nat), l.length < k → checkN k l p = checkF l p
  | 0, l, p, h => by omega
  | k + 1, l, p, h => by
    rw [checkF_step]
    simp only [checkN]
    split
    · rfl
    · have := vw_le l
      exact checkN_eq k _ _ (by rw [List.length_drop]; omega)
theorem runesF_step (l : List UInt8) : runesF l = if l = [] then 0 else 1 + runesF (l.drop (dec l).2) := by
  rw [runesF]
  split <;> rfl
def runesN : Nat → List UInt8 → Nat
  | 0, _ => 0
  | k + 1, l => if l = [] then 0 else 1 + runesN k (l.drop (dec l).2)
theorem runesN_eq : ∀ (k : Nat) (l : List UInt8), l.length < k → runesN k l = runesF l
  | 0, l, h => by omega
  | k + 1, l, h => by
    rw [runesF_step]
    simp only [runesN]
    split
    · rfl
    · rename_i hne
      have := dec_width l hne
      rw [runesN_eq k _ (by rw [List.length_drop]; omega)]
theorem bsL_tl (l : List UInt8) : (bsL l).toList = l := by rw [ByteArray.toList_eq, bsL_toList]
theorem k_unq1 : unquoteL [34, 92, 117, 48, 48, 101, 57, 34, 120] = ([195, 169], 8) := by
  show (unqF [92, 117, 48, 48, 101, 57, 34, 120] [] 1).getD ([], 0) = _
  rw [← unqN_eq 9 _ _ _ (by decide)]
  decide +kernel
theorem k_unq2 : (unquoteL [34, 97]).2 = 0 := by
  show ((unqF [97] [] 1).getD ([], 0)).2 = _
  rw [← unqN_eq 2 _ _ _ (by decide)]
  decide +kernel
theorem k_quote : quoteL [97, 34, 1] = [34, 97, 92, 34, 92, 117, 48, 48, 48, 49, 34] := by decide +kernel
theorem k_check : checkF [97, 255] 0 = some 1 := by
  rw [← checkN_eq 3 _ _ (by decide)]
  decide +kernel
theorem k_runes : runesF [195, 169, 97] = 2 := by
  rw [← runesN_eq 4 _ (by decide)]
  decide +kernel
theorem k_less : lessL [97] [97, 98] = true := by decide +kernel
set_option maxRecDepth 100000 in
set_option maxHeartbeats 1000000 in
theorem known_any (w : World) (hT : Tabs w) : Calls Tryd.prog 11 #[] w fun e w' => e = .returned (.bool true) ∧ Below w.heap.size w w' := by
  have c1 := fun w (hT : Tabs w) => unquote_any ⟨#[34, 92, 117, 48, 48, 101, 57, 34, 120]⟩ (by decide) w hT
  have c2 := fun w (hT : Tabs w) => unquote_any ⟨#[34, 97]⟩ (by decide) w hT
  have c3 := fun w => quote_any ⟨#[97, 34, 1]⟩ (by decide) w
  have c4 := fun w => check_any ⟨#[97, 255]⟩ (by decide) w
  have c5 := fun w => runes_any ⟨#[195, 169, 97]⟩ (by decide) w
  have c6 := fun w => less_any ⟨#[97]⟩ ⟨#[97, 98]⟩ w
  rw [show (⟨#[34, 92, 117, 48, 48, 101, 57, 34, 120]⟩ : ByteArray).data.toList = [34, 92, 117, 48, 48, 101, 57, 34, 120] from rfl, k_unq1] at c1
  rw [show (⟨#[34, 97]⟩ : ByteArray).data.toList = [34, 97] from rfl, k_unq2] at c2
  rw [show (⟨#[97, 34, 1]⟩ : ByteArray).data.toList = [97, 34, 1] from rfl, k_quote] at c3
  rw [show (⟨#[97, 255]⟩ : ByteArray).data.toList = [97, 255] from rfl, k_check] at c4
  rw [show (⟨#[195, 169, 97]⟩ : ByteArray).data.toList = [195, 169, 97] from rfl, k_runes] at c5
  rw [show (⟨#[97]⟩ : ByteArray).data.toList = [97] from rfl, show (⟨#[97, 98]⟩ : ByteArray).data.toList = [97, 98] from rfl, k_less] at c6
  obtain ⟨X, hX⟩ : ∃ X, bsL (unquoteL [34, 97]).1 = X := ⟨_, rfl⟩
  rw [hX] at c2
  have C1 := Lib.hid c1; have C2 := Lib.hid c2; have C3 := Lib.hid c3; have C4 := Lib.hid c4; have C5 := Lib.hid c5; have C6 := Lib.hid c6; have HT := Lib.hid hT
  clear c1 c2 c3 c4 c5 c6 hX hT
  have b1 : (bsL [195, 169]).toList = [195, 169] := bsL_tl _
  have b2 : (bsL [34, 97, 92, 34, 92, 117, 48, 48, 48, 49, 34]).toList = [34, 97, 92, 34, 92, 117, 48, 48, 48, 49, 34] := bsL_tl _
  go_enter Tryd.func11, Tryd.ntmps11
  go_wp2_with fail
  refine (C1.out _ HT.out).mono ?_
  rintro e w1 ⟨rfl, hb1⟩
  have HB1 := Lib.hid hb1; clear hb1
  go_wp2_with fail
  refine (C2.out _ (HT.out.below HB1.out)).mono ?_
  rintro e w2 ⟨rfl, hb2⟩
  have HB2 := Lib.hid (HB1.out.trans (hb2.mono HB1.out.size)); clear hb2 HB1
  go_wp2_with fail
  refine (C3.out _).mono ?_
  rintro e w3 ⟨rfl, hb3⟩
  have HB3 := Lib.hid (HB2.out.trans (hb3.mono HB2.out.size)); clear hb3 HB2
  go_wp2_with fail
  refine (C6.out _).mono ?_
  rintro e w4 ⟨rfl, hb4⟩
  have HB4 := Lib.hid (HB3.out.trans (hb4.mono HB3.out.size)); clear hb4 HB3
  go_wp2_with fail
  refine (C4.out _).mono ?_
  rintro e w5 ⟨rfl, hb5⟩
  have HB5 := Lib.hid (HB4.out.trans (hb5.mono HB4.out.size)); clear hb5 HB4
  go_wp2_with fail
  refine (C5.out _).mono ?_
  rintro e w6 ⟨rfl, hb6⟩
  have HB6 := Lib.hid (HB5.out.trans (hb6.mono HB5.out.size)); clear hb6 HB5
  go_wp2_with fail
  go_ret
  exact ⟨rfl, HB6.out⟩
end Go.Proofs.YtpibbokkdjjgeaaDoor

/-
  The listed tables, as the walks want them.
-/
namespace Go.Proofs.YtpibbokkdjjgeaaDoor
open Go.RowKit Go.Lib Go.Shelf
theorem u8x : U8Extra Tryd.prog Tryd.lays260_ren := { n3 := by kernel_rfl, n4 := by kernel_rfl, y3 := by kernel_rfl, y4 := by kernel_rfl, c5 := by kernel_rfl, c119 := by kernel_rfl, c138 := by kernel_rfl }
theorem casex : CaseExtra Tryd.prog Tryd.lays262_ren := { n13 := by kernel_rfl, y13 := by kernel_rfl, c21 := by kernel_rfl, c51 := by kernel_rfl, c206 := by kernel_rfl, c208 := by kernel_rfl }
theorem accept_eq : (Rows.laid_unicode_utf8_acceptRanges : DataW Unit) = acceptData := by kernel_rfl
theorem tabs_laid {W : World} (h : laidMetH Tryd.prog [("unicode/utf8.acceptRanges", Rows.laid_unicode_utf8_acceptRanges), ("unicode.CaseRanges", Rows.laid_unicode_CaseRanges), ("unicode/utf8.first", Rows.laid_unicode_utf8_first)] W) : Tabs W := by
  rw [MakeChecks.laidMetH_plain _ _ _ (by kernel_rfl)] at h
  have h1 : VarReads Tryd.prog W "unicode/utf8.acceptRanges" acceptData := accept_eq ▸ laidMet.reads h (by simp)
  have h2 : VarReads Tryd.prog W "unicode.CaseRanges" caseData := Pinned.caseRanges_eq ▸ laidMet.reads h (n := "unicode.CaseRanges") (d := Rows.laid_unicode_CaseRanges) (by simp)
  have h3 : VarReads Tryd.prog W "unicode/utf8.first" firstData := Pinned.utf8First_eq ▸ laidMet.reads h (n := "unicode/utf8.first") (d := Rows.laid_unicode_utf8_first) (by simp)
  exact ⟨caseVar_of_reads (ρ := Tryd.lays262_ren) { Tryd.lays262 with } (by kernel_rfl) casex h2, utf8Tabs_of_readsT (ρ := Tryd.lays260_ren) (U8Types.of260 Tryd.lays260) u8x h3 h1⟩
end Go.Proofs.YtpibbokkdjjgeaaDoor

/-
  What the functions of these laws compute, as plain Lean functions, and that the machine's calls compute it: written by this session's own hook over the kit's print.
-/
namespace Go.Proofs.YtpibbokkdjjgeaaDoor.Pg
open Go.RowKit Go.Proofs.YtpibbokkdjjgeaaDoorW.PrintWords Go.Proofs.YtpibbokkdjjgeaaDoorW.PrintLast Go.Proofs.YtpibbokkdjjgeaaDoorW.PrintMore
attribute [local go_sem] max2_int min2_int max_two min_two max_three min_three max_four min_four   -- for this text's walks alone
set_option linter.unusedVariables false
set_option linter.unusedSimpArgs false

/-! ### heliastlaw01_Text: function 12 -/
def heliastlaw01_Text.l0 : Nat → List Int → List ByteArray → ByteArray → Int → Option (ByteArray)
  | 0, _, _, _, _ => none
  | k + 1, x0, x3, x4, x5 => if x5 < (x0.length : Int) then (if x5 < 40 then (if 0 ≤ x5 then (if (x3.length : Int) = 0 then (none) else (if 0 ≤ (Int.tmod (wrap64 (rd x0 x5)) (x3.length : Int)) then (if (Int.tmod (wrap64 (rd x0 x5)) (x3.length : Int)) < (x3.length : Int) then (if x4.size + (rdOf ByteArray.empty x3 (Int.tmod (wrap64 (rd x0 x5)) (x3.length : Int))).size ≤ 9223372036854775807 then (heliastlaw01_Text.l0 k x0 x3 (x4 ++ (rdOf ByteArray.empty x3 (Int.tmod (wrap64 (rd x0 x5)) (x3.length : Int)))) (wrap64 (x5 + 1))) else (none)) else (none)) else (none))) else (none)) else (some x4)) else (some x4)
def heliastlaw01_Text.f (k : Nat) (l0 : List Int) : Option (ByteArray) := heliastlaw01_Text.l0 k l0 (([(⟨#[97]⟩ : ByteArray), (⟨#[98]⟩ : ByteArray), (⟨#[34]⟩ : ByteArray), (⟨#[92]⟩ : ByteArray), (⟨#[10]⟩ : ByteArray), (⟨#[1]⟩ : ByteArray), (⟨#[195, 169]⟩ : ByteArray), (⟨#[226, 130, 172]⟩ : ByteArray), (⟨#[240, 159, 152, 128]⟩ : ByteArray), (⟨#[255]⟩ : ByteArray), (⟨#[237, 160, 128]⟩ : ByteArray), (⟨#[12]⟩ : ByteArray), (⟨#[127]⟩ : ByteArray), (⟨#[239, 191, 189]⟩ : ByteArray), (⟨#[8]⟩ : ByteArray), (⟨#[9]⟩ : ByteArray)] : List ByteArray)) (⟨#[]⟩ : ByteArray) 0
theorem heliastlaw01_Text.mono_l : ∀ k, (∀ y0 y1 y2 y3, LeO (heliastlaw01_Text.l0 k y0 y1 y2 y3) (heliastlaw01_Text.l0 (k + 1) y0 y1 y2 y3))
  | 0 => fun _ _ _ _ r h => by simp [heliastlaw01_Text.l0] at h
  | k + 1 => by
    have ih0 := heliastlaw01_Text.mono_l k
    · intro y0 y1 y2 y3
      unfold heliastlaw01_Text.l0
      repeat' first
      | (with_reducible exact ih0 _ _ _ _)
      | (with_reducible exact LeO.refl _)
      | (with_reducible exact LeO.none _)
      | (with_reducible refine LeO.ite ?_ ?_)
      | (with_reducible refine LeO.bind ?_ (fun _ => ?_))
      | exact ih0 _ _ _ _
      | exact LeO.none _
      | refine LeO.ite ?_ ?_
      | refine LeO.bind ?_ (fun _ => ?_)
theorem heliastlaw01_Text.mono : ∀ a0 k, LeO (heliastlaw01_Text.f k a0) (heliastlaw01_Text.f (k + 1) a0) := by
  intro a0 k
  have ih0 := heliastlaw01_Text.mono_l k
  unfold heliastlaw01_Text.f
  repeat' first
      | (with_reducible exact ih0 _ _ _ _)
      | (with_reducible exact LeO.refl _)
      | (with_reducible exact LeO.none _)
      | (with_reducible refine LeO.ite ?_ ?_)
      | (with_reducible refine LeO.bind ?_ (fun _ => ?_))
      | exact ih0 _ _ _ _
      | exact LeO.none _
      | refine LeO.ite ?_ ?_
      | refine LeO.bind ?_ (fun _ => ?_)
set_option maxHeartbeats 8000000 in
set_option maxRecDepth 100000 in
theorem heliastlaw01_Text.calls (k : Nat) (A0 : Option Addr) (c0 : Nat) (l0 : List Int) (r : ByteArray) (w : World) (hr0 : Kd.C (Kd.int .u8) w A0 l0.length l0) (hc0 : l0.length ≤ c0) (h : heliastlaw01_Text.f k l0 = some r) :
    Calls Tryd.prog 12 #[.slice A0 l0.length c0] w fun e w' => e = .returned (.string r) ∧ Below w.heap.size w w' := by
  have HR0 := Aside0.mk hr0
  have HC0 := Aside0.mk hc0
  clear hr0 hc0
  have HB := Aside0.mk (Below.refl w.heap.size w)
  have H : (heliastlaw01_Text.l0 k l0 (([(⟨#[97]⟩ : ByteArray), (⟨#[98]⟩ : ByteArray), (⟨#[34]⟩ : ByteArray), (⟨#[92]⟩ : ByteArray), (⟨#[10]⟩ : ByteArray), (⟨#[1]⟩ : ByteArray), (⟨#[195, 169]⟩ : ByteArray), (⟨#[226, 130, 172]⟩ : ByteArray), (⟨#[240, 159, 152, 128]⟩ : ByteArray), (⟨#[255]⟩ : ByteArray), (⟨#[237, 160, 128]⟩ : ByteArray), (⟨#[12]⟩ : ByteArray), (⟨#[127]⟩ : ByteArray), (⟨#[239, 191, 189]⟩ : ByteArray), (⟨#[8]⟩ : ByteArray), (⟨#[9]⟩ : ByteArray)] : List ByteArray)) (⟨#[]⟩ : ByteArray) 0) = some r := h
  clear h
  obtain ⟨y147, hy147⟩ : ∃ y_ : List ByteArray, y_ = (([(⟨#[97]⟩ : ByteArray), (⟨#[98]⟩ : ByteArray), (⟨#[34]⟩ : ByteArray), (⟨#[92]⟩ : ByteArray), (⟨#[10]⟩ : ByteArray), (⟨#[1]⟩ : ByteArray), (⟨#[195, 169]⟩ : ByteArray), (⟨#[226, 130, 172]⟩ : ByteArray), (⟨#[240, 159, 152, 128]⟩ : ByteArray), (⟨#[255]⟩ : ByteArray), (⟨#[237, 160, 128]⟩ : ByteArray), (⟨#[12]⟩ : ByteArray), (⟨#[127]⟩ : ByteArray), (⟨#[239, 191, 189]⟩ : ByteArray), (⟨#[8]⟩ : ByteArray), (⟨#[9]⟩ : ByteArray)] : List ByteArray)) := ⟨_, rfl⟩
  replace H : (heliastlaw01_Text.l0 k l0 y147 (⟨#[]⟩ : ByteArray) 0) = some r := by first | (rw [hy147]; with_reducible exact H) | (have H2_ := (Option.bind_some _ _).symm.trans H; rw [hy147]; with_reducible exact H2_) | (have H2_ := (Option.bind_some _ _).symm.trans H; with_reducible exact H2_) | with_reducible exact H | (rw [hy147]; exact H) | exact H
  have Ny147 := Aside0.mk hy147
  clear hy147
  have H' := Aside0.mk H
  clear H
  go_enter Tryd.func12, Tryd.ntmps12
  go_wp2_with (first | ((with_reducible refine gate_dst (N := 6) rfl ?_); refine Kd.R_lit Kd.string _ 9 ?hg (N := 6) ?hd (xs := ([(⟨#[97]⟩ : ByteArray), (⟨#[98]⟩ : ByteArray), (⟨#[34]⟩ : ByteArray), (⟨#[92]⟩ : ByteArray), (⟨#[10]⟩ : ByteArray), (⟨#[1]⟩ : ByteArray), (⟨#[195, 169]⟩ : ByteArray), (⟨#[226, 130, 172]⟩ : ByteArray), (⟨#[240, 159, 152, 128]⟩ : ByteArray), (⟨#[255]⟩ : ByteArray), (⟨#[237, 160, 128]⟩ : ByteArray), (⟨#[12]⟩ : ByteArray), (⟨#[127]⟩ : ByteArray), (⟨#[239, 191, 189]⟩ : ByteArray), (⟨#[8]⟩ : ByteArray), (⟨#[9]⟩ : ByteArray)] : List ByteArray)) (inner := [.string (⟨#[97]⟩ : ByteArray), .string (⟨#[98]⟩ : ByteArray), .string (⟨#[34]⟩ : ByteArray), .string (⟨#[92]⟩ : ByteArray), .string (⟨#[10]⟩ : ByteArray), .string (⟨#[1]⟩ : ByteArray), .string (⟨#[195, 169]⟩ : ByteArray), .string (⟨#[226, 130, 172]⟩ : ByteArray), .string (⟨#[240, 159, 152, 128]⟩ : ByteArray), .string (⟨#[255]⟩ : ByteArray), .string (⟨#[237, 160, 128]⟩ : ByteArray), .string (⟨#[12]⟩ : ByteArray), .string (⟨#[127]⟩ : ByteArray), .string (⟨#[239, 191, 189]⟩ : ByteArray), .string (⟨#[8]⟩ : ByteArray), .string (⟨#[9]⟩ : ByteArray)]) (ok := fun _ => True) (okp := fun _ => True) ?hr ?hp (fun _ hk => hk) trivial (Below.refl _ _) (Nat.le_refl _) (by simp) ?_; (case hd => rfl); (case hg => rfl); (case hr => first | (go_simp; done) | (go_simp; rfl)); (case hp => exact (Reps.one (show Kd.M Kd.string _ _ _ (⟨#[97]⟩ : ByteArray) [.string (⟨#[97]⟩ : ByteArray)] from rfl) (Reps.one (show Kd.M Kd.string _ _ _ (⟨#[98]⟩ : ByteArray) [.string (⟨#[98]⟩ : ByteArray)] from rfl) (Reps.one (show Kd.M Kd.string _ _ _ (⟨#[34]⟩ : ByteArray) [.string (⟨#[34]⟩ : ByteArray)] from rfl) (Reps.one (show Kd.M Kd.string _ _ _ (⟨#[92]⟩ : ByteArray) [.string (⟨#[92]⟩ : ByteArray)] from rfl) (Reps.one (show Kd.M Kd.string _ _ _ (⟨#[10]⟩ : ByteArray) [.string (⟨#[10]⟩ : ByteArray)] from rfl) (Reps.one (show Kd.M Kd.string _ _ _ (⟨#[1]⟩ : ByteArray) [.string (⟨#[1]⟩ : ByteArray)] from rfl) (Reps.one (show Kd.M Kd.string _ _ _ (⟨#[195, 169]⟩ : ByteArray) [.string (⟨#[195, 169]⟩ : ByteArray)] from rfl) (Reps.one (show Kd.M Kd.string _ _ _ (⟨#[226, 130, 172]⟩ : ByteArray) [.string (⟨#[226, 130, 172]⟩ : ByteArray)] from rfl) (Reps.one (show Kd.M Kd.string _ _ _ (⟨#[240, 159, 152, 128]⟩ : ByteArray) [.string (⟨#[240, 159, 152, 128]⟩ : ByteArray)] from rfl) (Reps.one (show Kd.M Kd.string _ _ _ (⟨#[255]⟩ : ByteArray) [.string (⟨#[255]⟩ : ByteArray)] from rfl) (Reps.one (show Kd.M Kd.string _ _ _ (⟨#[237, 160, 128]⟩ : ByteArray) [.string (⟨#[237, 160, 128]⟩ : ByteArray)] from rfl) (Reps.one (show Kd.M Kd.string _ _ _ (⟨#[12]⟩ : ByteArray) [.string (⟨#[12]⟩ : ByteArray)] from rfl) (Reps.one (show Kd.M Kd.string _ _ _ (⟨#[127]⟩ : ByteArray) [.string (⟨#[127]⟩ : ByteArray)] from rfl) (Reps.one (show Kd.M Kd.string _ _ _ (⟨#[239, 191, 189]⟩ : ByteArray) [.string (⟨#[239, 191, 189]⟩ : ByteArray)] from rfl) (Reps.one (show Kd.M Kd.string _ _ _ (⟨#[8]⟩ : ByteArray) [.string (⟨#[8]⟩ : ByteArray)] from rfl) (Reps.one (show Kd.M Kd.string _ _ _ (⟨#[9]⟩ : ByteArray) [.string (⟨#[9]⟩ : ByteArray)] from rfl) (Reps.none _ _)))))))))))))))))); intro v148 w2 ho3 hb hg_ hnew_; clear hg_ hnew_; (first | rw [← Ny147.out] at ho3 | (simp only [Int.reduceToNat] at ho3; rw [← Ny147.out] at ho3)); have n0_ := Aside0.mk (Kd.R_lower ho3 (below_size (by repeat (first | (with_reducible first | exact HB.out | apply below_alloc | apply pw_below_drewN | apply below_drew1) | exact HB.out)))); have n1_ := Aside0.mk (below_step (by repeat (first | (with_reducible first | exact HB.out | apply below_alloc | apply pw_below_drewN | apply below_drew1) | exact HB.out)) hb); clear HB; have HO149 := n0_; have HB := n1_; clear n0_ n1_; clear hb ho3))
  go_loopg [4, 5] k (fun kq v4 v5 w' => ∃ (x4_1 : ByteArray) (x5_1 : Int), v4 = .string x4_1 ∧ v5 = .int .i64 x5_1 ∧ Aside0 (heliastlaw01_Text.l0 kq l0 y147 x4_1 x5_1 = some r) ∧ Aside0 (kq ≤ k) ∧ Aside0 (Kd.R Kd.string 9 w' w.heap.size (fun _ => True) v148 y147) ∧ Aside0 (Below w.heap.size w w'))
  case atStart => exact ⟨((⟨#[]⟩ : ByteArray)), (0), (by first | rfl | (simp; done) | (simp [*]; done)), (by first | rfl | (simp; done) | (simp [*]; done)), H', ⟨Nat.le_refl _⟩, ⟨by (with_reducible repeat (first | apply Kd.R_alloc | apply Kd.R_drewN | apply Kd.R_drew)); exact HO149.out⟩, ⟨by repeat (first | (with_reducible first | exact HB.out | apply below_alloc | apply pw_below_drewN | apply below_drew1) | exact HB.out)⟩⟩
  case round =>
    clear H'
    try clear c1
    try clear p2
    obtain ⟨x4_1, x5_1, rfl, rfl, HA, HK1, HO_3, HB⟩ := hrel
    cases gk with
    | zero => exact absurd HA.out (by simp [heliastlaw01_Text.l0])
    | succ k1 =>
      have H := HA.out
      clear HA
      simp only [heliastlaw01_Text.l0] at H
      by_cases c4 : x5_1 < (l0.length : Int)
      · rw [if_pos c4] at H
        have c4b0 : decide (x5_1 < (l0.length : Int)) = true := decide_eq_true c4
        clear c4
        by_cases c5 : x5_1 < 40
        · rw [if_pos c5] at H
          have c5b0 : decide (x5_1 < 40) = true := decide_eq_true c5
          clear c5
          by_cases c6 : 0 ≤ x5_1
          · rw [if_pos c6] at H
            have c6b0 : decide (0 ≤ x5_1) = true := decide_eq_true c6
            clear c6
            by_cases c7 : (y147.length : Int) = 0
            · rw [if_pos c7] at H
              exact absurd H (by simp)
            · rw [if_neg c7] at H
              have c7b0 : ((y147.length : Int) == 0) = false := beq_eq_false_iff_ne.mpr c7
              have c7b1 : ((y147.length : Int) != 0) = true := bne_iff_ne.mpr c7
              have c7b2 : ¬ (y147 = []) := fun h_ => c7 (by rw [h_]; rfl)
              obtain ⟨ji8, hji8⟩ : ∃ j_ : Int, (Int.tmod (wrap64 (rd l0 x5_1)) (y147.length : Int)) = j_ := ⟨_, rfl⟩
              replace H : (if 0 ≤ (ji8) then (if (ji8) < (y147.length : Int) then (if x4_1.size + (rdOf ByteArray.empty y147 (ji8)).size ≤ 9223372036854775807 then (heliastlaw01_Text.l0 k1 l0 y147 (x4_1 ++ (rdOf ByteArray.empty y147 (ji8))) (wrap64 (x5_1 + 1))) else (none)) else (none)) else (none)) = some r := by first | (rw [hji8] at H; exact H) | (simp only [hji8] at H ⊢; exact H)
              by_cases c9 : 0 ≤ (ji8)
              · rw [if_pos c9] at H
                have c9b0 : decide (0 ≤ (ji8)) = true := decide_eq_true c9
                clear c9
                by_cases c10 : (ji8) < (y147.length : Int)
                · rw [if_pos c10] at H
                  have c10b0 : decide ((ji8) < (y147.length : Int)) = true := decide_eq_true c10
                  clear c10
                  by_cases c11 : x4_1.size + (rdOf ByteArray.empty y147 (ji8)).size ≤ 9223372036854775807
                  · rw [if_pos c11] at H
                    have c11b0 := eq_true c11
                    have c11b1 : decide (x4_1.size + (rdOf ByteArray.empty y147 (ji8)).size ≤ 9223372036854775807) = true := decide_eq_true c11
                    try have c11b2 : (9223372036854775807 < x4_1.size + (rdOf ByteArray.empty y147 (ji8)).size) = False := eq_false (Nat.not_lt.2 c11)
                    have H' := Aside0.mk H
                    clear H
                    have p150 : 0 ≤ (x5_1 : Int) := of_decide_eq_true (by first | (with_reducible assumption) | assumption)
                    have q150 : x5_1 < (l0.length : Int) := of_decide_eq_true (by first | (with_reducible assumption) | assumption)
                    obtain ⟨ad150, e150, hx150_0⟩ := Kd.at_int HR0.out x5_1 p150 q150
                    cases e150
                    replace hx150_0 := (HB.out.cell (World.block_lt_of_cell? w _ hx150_0)).trans hx150_0
                    replace p150 := eq_true p150
                    replace q150 := eq_true q150
                    obtain ⟨Ao12, co12, eo12⟩ := Kd.R_slice HO_3.out
                    subst eo12
                    have p151 : 0 ≤ ((ji8) : Int) := of_decide_eq_true (by first | (with_reducible assumption) | assumption)
                    have q151 : (ji8) < (y147.length : Int) := of_decide_eq_true (by first | (with_reducible assumption) | assumption)
                    obtain ⟨ad151, e151, hx151_0⟩ := Kd.at_string (Kd.R_reads' HO_3.out).2.2 (ji8) p151 q151
                    cases e151
                    replace p151 := eq_true p151
                    replace q151 := eq_true q151
                    go_wp2
                    go_roundg k1
                    case measure => have := HK1.out; omega
                    case rel => exact ⟨(x4_1 ++ (rdOf ByteArray.empty y147 (ji8))), (wrap64 (x5_1 + 1)), (by first | rfl | (simp; done) | (simp only [← hji8] <;> (first | rfl | simp)) | (simp [*]; done)), (by first | rfl | (simp; done) | (simp [*]; done)), H', ⟨by have := HK1.out; omega⟩, ⟨by (with_reducible repeat (first | apply Kd.R_alloc | apply Kd.R_drewN | apply Kd.R_drew)); exact HO_3.out⟩, ⟨by repeat (first | (with_reducible first | exact HB.out | apply below_alloc | apply pw_below_drewN | apply below_drew1) | exact HB.out)⟩⟩
                  · rw [if_neg c11] at H
                    exact absurd H (by simp)
                · rw [if_neg c10] at H
                  exact absurd H (by simp)
              · rw [if_neg c9] at H
                exact absurd H (by simp)
          · rw [if_neg c6] at H
            exact absurd H (by simp)
        · rw [if_neg c5] at H
          have c5b0 : decide (x5_1 < 40) = false := decide_eq_false c5
          clear c5
          obtain rfl := Option.some.inj H
          go_wp2
          go_ret
          exact ⟨by first | rfl | (simp [errW_none, errW_some] <;> rfl) | (simp [*, errW_none, errW_some] <;> rfl), by repeat (first | (with_reducible first | exact HB.out | apply below_alloc | apply pw_below_drewN | apply below_drew1) | exact HB.out)⟩
      · rw [if_neg c4] at H
        have c4b0 : decide (x5_1 < (l0.length : Int)) = false := decide_eq_false c4
        clear c4
        obtain rfl := Option.some.inj H
        go_wp2
        go_ret
        exact ⟨by first | rfl | (simp [errW_none, errW_some] <;> rfl) | (simp [*, errW_none, errW_some] <;> rfl), by repeat (first | (with_reducible first | exact HB.out | apply below_alloc | apply pw_below_drewN | apply below_drew1) | exact HB.out)⟩

end Go.Proofs.YtpibbokkdjjgeaaDoor.Pg

/-
  What the functions of these laws compute, as plain Lean functions, and that the machine's calls compute it: written by this session's own hook over the kit's print.
-/
namespace Go.Proofs.YtpibbokkdjjgeaaDoor.Pg
open Go.RowKit Go.Proofs.YtpibbokkdjjgeaaDoorW.PrintWords Go.Proofs.YtpibbokkdjjgeaaDoorW.PrintLast Go.Proofs.YtpibbokkdjjgeaaDoorW.PrintMore
attribute [local go_sem] max2_int min2_int max_two min_two max_three min_three max_four min_four   -- for this text's walks alone
set_option linter.unusedVariables false
set_option linter.unusedSimpArgs false

/-! ### heliastlaw01_Raw: function 13 -/
def heliastlaw01_Raw.l0 : Nat → List Int → List ByteArray → ByteArray → Int → Option (ByteArray)
  | 0, _, _, _, _ => none
  | k + 1, x0, x3, x4, x5 => if x5 < (x0.length : Int) then (if x5 < 30 then (if 0 ≤ x5 then (if (x3.length : Int) = 0 then (none) else (if 0 ≤ (Int.tmod (wrap64 (rd x0 x5)) (x3.length : Int)) then (if (Int.tmod (wrap64 (rd x0 x5)) (x3.length : Int)) < (x3.length : Int) then (if x4.size + (rdOf ByteArray.empty x3 (Int.tmod (wrap64 (rd x0 x5)) (x3.length : Int))).size ≤ 9223372036854775807 then (heliastlaw01_Raw.l0 k x0 x3 (x4 ++ (rdOf ByteArray.empty x3 (Int.tmod (wrap64 (rd x0 x5)) (x3.length : Int)))) (wrap64 (x5 + 1))) else (none)) else (none)) else (none))) else (none)) else (some x4)) else (some x4)
def heliastlaw01_Raw.f (k : Nat) (l0 : List Int) : Option (ByteArray) := heliastlaw01_Raw.l0 k l0 (([(⟨#[97]⟩ : ByteArray), (⟨#[92, 110]⟩ : ByteArray), (⟨#[92, 117, 48, 48, 52, 49]⟩ : ByteArray), (⟨#[92, 117, 100, 56, 51, 100]⟩ : ByteArray), (⟨#[92, 117, 100, 101, 48, 48]⟩ : ByteArray), (⟨#[92, 117, 48, 48, 69, 57]⟩ : ByteArray), (⟨#[92, 34]⟩ : ByteArray), (⟨#[92, 92]⟩ : ByteArray), (⟨#[92, 47]⟩ : ByteArray), (⟨#[92, 120]⟩ : ByteArray), (⟨#[92, 117, 49, 50]⟩ : ByteArray), (⟨#[10]⟩ : ByteArray), (⟨#[195, 169]⟩ : ByteArray), (⟨#[255]⟩ : ByteArray), (⟨#[92, 117, 68, 66, 70, 70, 92, 117, 68, 70, 70, 70]⟩ : ByteArray), (⟨#[34]⟩ : ByteArray)] : List ByteArray)) (⟨#[]⟩ : ByteArray) 0
theorem heliastlaw01_Raw.mono_l : ∀ k, (∀ y0 y1 y2 y3, LeO (heliastlaw01_Raw.l0 k y0 y1 y2 y3) (heliastlaw01_Raw.l0 (k + 1) y0 y1 y2 y3))
  | 0 => fun _ _ _ _ r h => by simp [heliastlaw01_Raw.l0] at h
  | k + 1 => by
    have ih0 := heliastlaw01_Raw.mono_l k
    · intro y0 y1 y2 y3
      unfold heliastlaw01_Raw.l0
      repeat' first
      | (with_reducible exact ih0 _ _ _ _)
      | (with_reducible exact LeO.refl _)
      | (with_reducible exact LeO.none _)
      | (with_reducible refine LeO.ite ?_ ?_)
      | (with_reducible refine LeO.bind ?_ (fun _ => ?_))
      | exact ih0 _ _ _ _
      | exact LeO.none _
      | refine LeO.ite ?_ ?_
      | refine LeO.bind ?_ (fun _ => ?_)
theorem heliastlaw01_Raw.mono : ∀ a0 k, LeO (heliastlaw01_Raw.f k a0) (heliastlaw01_Raw.f (k + 1) a0) := by
  intro a0 k
  have ih0 := heliastlaw01_Raw.mono_l k
  unfold heliastlaw01_Raw.f
  repeat' first
      | (with_reducible exact ih0 _ _ _ _)
      | (with_reducible exact LeO.refl _)
      | (with_reducible exact LeO.none _)
      | (with_reducible refine LeO.ite ?_ ?_)
      | (with_reducible refine LeO.bind ?_ (fun _ => ?_))
      | exact ih0 _ _ _ _
      | exact LeO.none _
      | refine LeO.ite ?_ ?_
      | refine LeO.bind ?_ (fun _ => ?_)
set_option maxHeartbeats 8000000 in
set_option maxRecDepth 100000 in
theorem heliastlaw01_Raw.calls (k : Nat) (A0 : Option Addr) (c0 : Nat) (l0 : List Int) (r : ByteArray) (w : World) (hr0 : Kd.C (Kd.int .u8) w A0 l0.length l0) (hc0 : l0.length ≤ c0) (h : heliastlaw01_Raw.f k l0 = some r) :
    Calls Tryd.prog 13 #[.slice A0 l0.length c0] w fun e w' => e = .returned (.string r) ∧ Below w.heap.size w w' := by
  have HR0 := Aside0.mk hr0
  have HC0 := Aside0.mk hc0
  clear hr0 hc0
  have HB := Aside0.mk (Below.refl w.heap.size w)
  have H : (heliastlaw01_Raw.l0 k l0 (([(⟨#[97]⟩ : ByteArray), (⟨#[92, 110]⟩ : ByteArray), (⟨#[92, 117, 48, 48, 52, 49]⟩ : ByteArray), (⟨#[92, 117, 100, 56, 51, 100]⟩ : ByteArray), (⟨#[92, 117, 100, 101, 48, 48]⟩ : ByteArray), (⟨#[92, 117, 48, 48, 69, 57]⟩ : ByteArray), (⟨#[92, 34]⟩ : ByteArray), (⟨#[92, 92]⟩ : ByteArray), (⟨#[92, 47]⟩ : ByteArray), (⟨#[92, 120]⟩ : ByteArray), (⟨#[92, 117, 49, 50]⟩ : ByteArray), (⟨#[10]⟩ : ByteArray), (⟨#[195, 169]⟩ : ByteArray), (⟨#[255]⟩ : ByteArray), (⟨#[92, 117, 68, 66, 70, 70, 92, 117, 68, 70, 70, 70]⟩ : ByteArray), (⟨#[34]⟩ : ByteArray)] : List ByteArray)) (⟨#[]⟩ : ByteArray) 0) = some r := h
  clear h
  obtain ⟨y152, hy152⟩ : ∃ y_ : List ByteArray, y_ = (([(⟨#[97]⟩ : ByteArray), (⟨#[92, 110]⟩ : ByteArray), (⟨#[92, 117, 48, 48, 52, 49]⟩ : ByteArray), (⟨#[92, 117, 100, 56, 51, 100]⟩ : ByteArray), (⟨#[92, 117, 100, 101, 48, 48]⟩ : ByteArray), (⟨#[92, 117, 48, 48, 69, 57]⟩ : ByteArray), (⟨#[92, 34]⟩ : ByteArray), (⟨#[92, 92]⟩ : ByteArray), (⟨#[92, 47]⟩ : ByteArray), (⟨#[92, 120]⟩ : ByteArray), (⟨#[92, 117, 49, 50]⟩ : ByteArray), (⟨#[10]⟩ : ByteArray), (⟨#[195, 169]⟩ : ByteArray), (⟨#[255]⟩ : ByteArray), (⟨#[92, 117, 68, 66, 70, 70, 92, 117, 68, 70, 70, 70]⟩ : ByteArray), (⟨#[34]⟩ : ByteArray)] : List ByteArray)) := ⟨_, rfl⟩
  replace H : (heliastlaw01_Raw.l0 k l0 y152 (⟨#[]⟩ : ByteArray) 0) = some r := by first | (rw [hy152]; with_reducible exact H) | (have H2_ := (Option.bind_some _ _).symm.trans H; rw [hy152]; with_reducible exact H2_) | (have H2_ := (Option.bind_some _ _).symm.trans H; with_reducible exact H2_) | with_reducible exact H | (rw [hy152]; exact H) | exact H
  have Ny152 := Aside0.mk hy152
  clear hy152
  have H' := Aside0.mk H
  clear H
  go_enter Tryd.func13, Tryd.ntmps13
  go_wp2_with (first | ((with_reducible refine gate_dst (N := 6) rfl ?_); refine Kd.R_lit Kd.string _ 9 ?hg (N := 6) ?hd (xs := ([(⟨#[97]⟩ : ByteArray), (⟨#[92, 110]⟩ : ByteArray), (⟨#[92, 117, 48, 48, 52, 49]⟩ : ByteArray), (⟨#[92, 117, 100, 56, 51, 100]⟩ : ByteArray), (⟨#[92, 117, 100, 101, 48, 48]⟩ : ByteArray), (⟨#[92, 117, 48, 48, 69, 57]⟩ : ByteArray), (⟨#[92, 34]⟩ : ByteArray), (⟨#[92, 92]⟩ : ByteArray), (⟨#[92, 47]⟩ : ByteArray), (⟨#[92, 120]⟩ : ByteArray), (⟨#[92, 117, 49, 50]⟩ : ByteArray), (⟨#[10]⟩ : ByteArray), (⟨#[195, 169]⟩ : ByteArray), (⟨#[255]⟩ : ByteArray), (⟨#[92, 117, 68, 66, 70, 70, 92, 117, 68, 70, 70, 70]⟩ : ByteArray), (⟨#[34]⟩ : ByteArray)] : List ByteArray)) (inner := [.string (⟨#[97]⟩ : ByteArray), .string (⟨#[92, 110]⟩ : ByteArray), .string (⟨#[92, 117, 48, 48, 52, 49]⟩ : ByteArray), .string (⟨#[92, 117, 100, 56, 51, 100]⟩ : ByteArray), .string (⟨#[92, 117, 100, 101, 48, 48]⟩ : ByteArray), .string (⟨#[92, 117, 48, 48, 69, 57]⟩ : ByteArray), .string (⟨#[92, 34]⟩ : ByteArray), .string (⟨#[92, 92]⟩ : ByteArray), .string (⟨#[92, 47]⟩ : ByteArray), .string (⟨#[92, 120]⟩ : ByteArray), .string (⟨#[92, 117, 49, 50]⟩ : ByteArray), .string (⟨#[10]⟩ : ByteArray), .string (⟨#[195, 169]⟩ : ByteArray), .string (⟨#[255]⟩ : ByteArray), .string (⟨#[92, 117, 68, 66, 70, 70, 92, 117, 68, 70, 70, 70]⟩ : ByteArray), .string (⟨#[34]⟩ : ByteArray)]) (ok := fun _ => True) (okp := fun _ => True) ?hr ?hp (fun _ hk => hk) trivial (Below.refl _ _) (Nat.le_refl _) (by simp) ?_; (case hd => rfl); (case hg => rfl); (case hr => first | (go_simp; done) | (go_simp; rfl)); (case hp => exact (Reps.one (show Kd.M Kd.string _ _ _ (⟨#[97]⟩ : ByteArray) [.string (⟨#[97]⟩ : ByteArray)] from rfl) (Reps.one (show Kd.M Kd.string _ _ _ (⟨#[92, 110]⟩ : ByteArray) [.string (⟨#[92, 110]⟩ : ByteArray)] from rfl) (Reps.one (show Kd.M Kd.string _ _ _ (⟨#[92, 117, 48, 48, 52, 49]⟩ : ByteArray) [.string (⟨#[92, 117, 48, 48, 52, 49]⟩ : ByteArray)] from rfl) (Reps.one (show Kd.M Kd.string _ _ _ (⟨#[92, 117, 100, 56, 51, 100]⟩ : ByteArray) [.string (⟨#[92, 117, 100, 56, 51, 100]⟩ : ByteArray)] from rfl) (Reps.one (show Kd.M Kd.string _ _ _ (⟨#[92, 117, 100, 101, 48, 48]⟩ : ByteArray) [.string (⟨#[92, 117, 100, 101, 48, 48]⟩ : ByteArray)] from rfl) (Reps.one (show Kd.M Kd.string _ _ _ (⟨#[92, 117, 48, 48, 69, 57]⟩ : ByteArray) [.string (⟨#[92, 117, 48, 48, 69, 57]⟩ : ByteArray)] from rfl) (Reps.one (show Kd.M Kd.string _ _ _ (⟨#[92, 34]⟩ : ByteArray) [.string (⟨#[92, 34]⟩ : ByteArray)] from rfl) (Reps.one (show Kd.M Kd.string _ _ _ (⟨#[92, 92]⟩ : ByteArray) [.string (⟨#[92, 92]⟩ : ByteArray)] from rfl) (Reps.one (show Kd.M Kd.string _ _ _ (⟨#[92, 47]⟩ : ByteArray) [.string (⟨#[92, 47]⟩ : ByteArray)] from rfl) (Reps.one (show Kd.M Kd.string _ _ _ (⟨#[92, 120]⟩ : ByteArray) [.string (⟨#[92, 120]⟩ : ByteArray)] from rfl) (Reps.one (show Kd.M Kd.string _ _ _ (⟨#[92, 117, 49, 50]⟩ : ByteArray) [.string (⟨#[92, 117, 49, 50]⟩ : ByteArray)] from rfl) (Reps.one (show Kd.M Kd.string _ _ _ (⟨#[10]⟩ : ByteArray) [.string (⟨#[10]⟩ : ByteArray)] from rfl) (Reps.one (show Kd.M Kd.string _ _ _ (⟨#[195, 169]⟩ : ByteArray) [.string (⟨#[195, 169]⟩ : ByteArray)] from rfl) (Reps.one (show Kd.M Kd.string _ _ _ (⟨#[255]⟩ : ByteArray) [.string (⟨#[255]⟩ : ByteArray)] from rfl) (Reps.one (show Kd.M Kd.string _ _ _ (⟨#[92, 117, 68, 66, 70, 70, 92, 117, 68, 70, 70, 70]⟩ : ByteArray) [.string (⟨#[92, 117, 68, 66, 70, 70, 92, 117, 68, 70, 70, 70]⟩ : ByteArray)] from rfl) (Reps.one (show Kd.M Kd.string _ _ _ (⟨#[34]⟩ : ByteArray) [.string (⟨#[34]⟩ : ByteArray)] from rfl) (Reps.none _ _)))))))))))))))))); intro v153 w2 ho3 hb hg_ hnew_; clear hg_ hnew_; (first | rw [← Ny152.out] at ho3 | (simp only [Int.reduceToNat] at ho3; rw [← Ny152.out] at ho3)); have n0_ := Aside0.mk (Kd.R_lower ho3 (below_size (by repeat (first | (with_reducible first | exact HB.out | apply below_alloc | apply pw_below_drewN | apply below_drew1) | exact HB.out)))); have n1_ := Aside0.mk (below_step (by repeat (first | (with_reducible first | exact HB.out | apply below_alloc | apply pw_below_drewN | apply below_drew1) | exact HB.out)) hb); clear HB; have HO154 := n0_; have HB := n1_; clear n0_ n1_; clear hb ho3))
  go_loopg [4, 5] k (fun kq v4 v5 w' => ∃ (x4_1 : ByteArray) (x5_1 : Int), v4 = .string x4_1 ∧ v5 = .int .i64 x5_1 ∧ Aside0 (heliastlaw01_Raw.l0 kq l0 y152 x4_1 x5_1 = some r) ∧ Aside0 (kq ≤ k) ∧ Aside0 (Kd.R Kd.string 9 w' w.heap.size (fun _ => True) v153 y152) ∧ Aside0 (Below w.heap.size w w'))
  case atStart => exact ⟨((⟨#[]⟩ : ByteArray)), (0), (by first | rfl | (simp; done) | (simp [*]; done)), (by first | rfl | (simp; done) | (simp [*]; done)), H', ⟨Nat.le_refl _⟩, ⟨by (with_reducible repeat (first | apply Kd.R_alloc | apply Kd.R_drewN | apply Kd.R_drew)); exact HO154.out⟩, ⟨by repeat (first | (with_reducible first | exact HB.out | apply below_alloc | apply pw_below_drewN | apply below_drew1) | exact HB.out)⟩⟩
  case round =>
    clear H'
    try clear c1
    try clear p2
    obtain ⟨x4_1, x5_1, rfl, rfl, HA, HK1, HO_3, HB⟩ := hrel
    cases gk with
    | zero => exact absurd HA.out (by simp [heliastlaw01_Raw.l0])
    | succ k1 =>
      have H := HA.out
      clear HA
      simp only [heliastlaw01_Raw.l0] at H
      by_cases c4 : x5_1 < (l0.length : Int)
      · rw [if_pos c4] at H
        have c4b0 : decide (x5_1 < (l0.length : Int)) = true := decide_eq_true c4
        clear c4
        by_cases c5 : x5_1 < 30
        · rw [if_pos c5] at H
          have c5b0 : decide (x5_1 < 30) = true := decide_eq_true c5
          clear c5
          by_cases c6 : 0 ≤ x5_1
          · rw [if_pos c6] at H
            have c6b0 : decide (0 ≤ x5_1) = true := decide_eq_true c6
            clear c6
            by_cases c7 : (y152.length : Int) = 0
            · rw [if_pos c7] at H
              exact absurd H (by simp)
            · rw [if_neg c7] at H
              have c7b0 : ((y152.length : Int) == 0) = false := beq_eq_false_iff_ne.mpr c7
              have c7b1 : ((y152.length : Int) != 0) = true := bne_iff_ne.mpr c7
              have c7b2 : ¬ (y152 = []) := fun h_ => c7 (by rw [h_]; rfl)
              obtain ⟨ji8, hji8⟩ : ∃ j_ : Int, (Int.tmod (wrap64 (rd l0 x5_1)) (y152.length : Int)) = j_ := ⟨_, rfl⟩
              replace H : (if 0 ≤ (ji8) then (if (ji8) < (y152.length : Int) then (if x4_1.size + (rdOf ByteArray.empty y152 (ji8)).size ≤ 9223372036854775807 then (heliastlaw01_Raw.l0 k1 l0 y152 (x4_1 ++ (rdOf ByteArray.empty y152 (ji8))) (wrap64 (x5_1 + 1))) else (none)) else (none)) else (none)) = some r := by first | (rw [hji8] at H; exact H) | (simp only [hji8] at H ⊢; exact H)
              by_cases c9 : 0 ≤ (ji8)
              · rw [if_pos c9] at H
                have c9b0 : decide (0 ≤ (ji8)) = true := decide_eq_true c9
                clear c9
                by_cases c10 : (ji8) < (y152.length : Int)
                · rw [if_pos c10] at H
                  have c10b0 : decide ((ji8) < (y152.length : Int)) = true := decide_eq_true c10
                  clear c10
                  by_cases c11 : x4_1.size + (rdOf ByteArray.empty y152 (ji8)).size ≤ 9223372036854775807
                  · rw [if_pos c11] at H
                    have c11b0 := eq_true c11
                    have c11b1 : decide (x4_1.size + (rdOf ByteArray.empty y152 (ji8)).size ≤ 9223372036854775807) = true := decide_eq_true c11
                    try have c11b2 : (9223372036854775807 < x4_1.size + (rdOf ByteArray.empty y152 (ji8)).size) = False := eq_false (Nat.not_lt.2 c11)
                    have H' := Aside0.mk H
                    clear H
                    have p155 : 0 ≤ (x5_1 : Int) := of_decide_eq_true (by first | (with_reducible assumption) | assumption)
                    have q155 : x5_1 < (l0.length : Int) := of_decide_eq_true (by first | (with_reducible assumption) | assumption)
                    obtain ⟨ad155, e155, hx155_0⟩ := Kd.at_int HR0.out x5_1 p155 q155
                    cases e155
                    replace hx155_0 := (HB.out.cell (World.block_lt_of_cell? w _ hx155_0)).trans hx155_0
                    replace p155 := eq_true p155
                    replace q155 := eq_true q155
                    obtain ⟨Ao12, co12, eo12⟩ := Kd.R_slice HO_3.out
                    subst eo12
                    have p156 : 0 ≤ ((ji8) : Int) := of_decide_eq_true (by first | (with_reducible assumption) | assumption)
                    have q156 : (ji8) < (y152.length : Int) := of_decide_eq_true (by first | (with_reducible assumption) | assumption)
                    obtain ⟨ad156, e156, hx156_0⟩ := Kd.at_string (Kd.R_reads' HO_3.out).2.2 (ji8) p156 q156
                    cases e156
                    replace p156 := eq_true p156
                    replace q156 := eq_true q156
                    go_wp2
                    go_roundg k1
                    case measure => have := HK1.out; omega
                    case rel => exact ⟨(x4_1 ++ (rdOf ByteArray.empty y152 (ji8))), (wrap64 (x5_1 + 1)), (by first | rfl | (simp; done) | (simp only [← hji8] <;> (first | rfl | simp)) | (simp [*]; done)), (by first | rfl | (simp; done) | (simp [*]; done)), H', ⟨by have := HK1.out; omega⟩, ⟨by (with_reducible repeat (first | apply Kd.R_alloc | apply Kd.R_drewN | apply Kd.R_drew)); exact HO_3.out⟩, ⟨by repeat (first | (with_reducible first | exact HB.out | apply below_alloc | apply pw_below_drewN | apply below_drew1) | exact HB.out)⟩⟩
                  · rw [if_neg c11] at H
                    exact absurd H (by simp)
                · rw [if_neg c10] at H
                  exact absurd H (by simp)
              · rw [if_neg c9] at H
                exact absurd H (by simp)
          · rw [if_neg c6] at H
            exact absurd H (by simp)
        · rw [if_neg c5] at H
          have c5b0 : decide (x5_1 < 30) = false := decide_eq_false c5
          clear c5
          obtain rfl := Option.some.inj H
          go_wp2
          go_ret
          exact ⟨by first | rfl | (simp [errW_none, errW_some] <;> rfl) | (simp [*, errW_none, errW_some] <;> rfl), by repeat (first | (with_reducible first | exact HB.out | apply below_alloc | apply pw_below_drewN | apply below_drew1) | exact HB.out)⟩
      · rw [if_neg c4] at H
        have c4b0 : decide (x5_1 < (l0.length : Int)) = false := decide_eq_false c4
        clear c4
        obtain rfl := Option.some.inj H
        go_wp2
        go_ret
        exact ⟨by first | rfl | (simp [errW_none, errW_some] <;> rfl) | (simp [*, errW_none, errW_some] <;> rfl), by repeat (first | (with_reducible first | exact HB.out | apply below_alloc | apply pw_below_drewN | apply below_drew1) | exact HB.out)⟩

end Go.Proofs.YtpibbokkdjjgeaaDoor.Pg

/-
  The laws' own texts of choices: Text, Raw.
-/
namespace Go.Proofs.YtpibbokkdjjgeaaDoor
open Go.RowKit Go.Proofs.YtpibbokkdjjgeaaDoorW.PrintWords Go.Proofs.YtpibbokkdjjgeaaDoorW.PrintLast Go.Proofs.YtpibbokkdjjgeaaDoorW.PrintMore Pg
set_option linter.unusedSimpArgs false
set_option linter.unusedVariables false
theorem row_C {W : World} {a : Option Addr} {zs : List Int} (h : RowAt W a (zs.map (.int .u8))) (hm : zs.length ≤ 9223372036854775807) : Kd.C (Kd.int .u8) W a zs.length zs := by
  refine Kd.C_of_reads (d := (0 : Int)) ⟨rfl, hm, fun hp => ?_⟩
  obtain ⟨b, off, e, _, hc⟩ := h (by simpa using hp)
  refine ⟨_, e, fun j hj => ?_⟩
  rw [Addr.add_mid, hc j (by simpa using hj)]
  simp [List.getD_eq_getElem?_getD, List.getElem?_eq_getElem hj]
theorem u8_range {z : Int} (h : (Lit.int .u8 z).wf = true) : 0 ≤ z ∧ z ≤ 255 := by
  simpa [Lit.wf, IntKind.min, IntKind.max, IntKind.signed, IntKind.bits] using h
theorem rd_range {zs : List Int} (h : ∀ z ∈ zs, (Lit.int .u8 z).wf = true) (i : Nat) : 0 ≤ rd zs i ∧ rd zs i ≤ 255 := by
  unfold rd
  by_cases hi : i < zs.length
  · rw [Int.toNat_natCast, List.getD_eq_getElem?_getD, List.getElem?_eq_getElem hi]
    exact u8_range (h _ (List.getElem_mem hi))
  · rw [Int.toNat_natCast, List.getD_eq_getElem?_getD, List.getElem?_eq_none (by omega)]
    decide
theorem mod_at {x : Int} {n : Nat} (h0 : 0 ≤ x) (h1 : x ≤ 255) (hn : 0 < n) : ∃ j : Nat, j < n ∧ Int.tmod (wrap64 x) (n : Int) = (j : Int) := by
  have hw : wrap64 x = x := by unfold wrap64; omega
  obtain ⟨m, rfl⟩ : ∃ m : Nat, x = m := ⟨x.toNat, by omega⟩
  refine ⟨m % n, Nat.mod_lt _ hn, ?_⟩
  rw [hw]
  rfl
theorem rdOf_at {L : List ByteArray} {j m : Nat} (hj : j < L.length) (hm : ∀ x ∈ L, x.size ≤ m) : (rdOf ByteArray.empty L (j : Int)).size ≤ m := by
  unfold rdOf
  rw [Int.toNat_natCast, List.getD_eq_getElem?_getD, List.getElem?_eq_getElem hj]
  exact hm _ (List.getElem_mem hj)
theorem text_l0 (z : List Int) (hw : ∀ x ∈ z, (Lit.int .u8 x).wf = true) (hl : z.length ≤ 140737488351232) (L : List ByteArray) (hL : 0 < L.length) (m : Nat) (hmm : m ≤ 100) (hm : ∀ x ∈ L, x.size ≤ m) :
    ∀ (p i : Nat) (x : ByteArray), i + p = 40 → x.size ≤ i * 100 → ∃ r, Ev (fun k => heliastlaw01_Text.l0 k z L x (i : Int)) r ∧ r.size ≤ x.size + p * m
  | 0, i, x, h, hs => by
    refine ⟨x, Ev.step (f := fun _ => some x) (fun k => ?_) (Ev.now _), by omega⟩
    simp only [heliastlaw01_Text.l0]
    by_cases hi : (i : Int) < (z.length : Int)
    · rw [if_pos hi, if_neg (by omega)]
    · rw [if_neg hi]
  | p + 1, i, x, h, hs => by
    by_cases hi : (i : Int) < (z.length : Int)
    · obtain ⟨h0, h1⟩ := rd_range hw i
      obtain ⟨j, hj, he⟩ := mod_at h0 h1 hL
      have hsz := rdOf_at hj hm
      obtain ⟨r, hr, hrs⟩ := text_l0 z hw hl L hL m hmm hm p (i + 1) (x ++ rdOf ByteArray.empty L (j : Int)) (by omega) (by rw [ByteArray.size_append]; omega)
      refine ⟨r, Ev.step (fun k => ?_) hr, ?_⟩
      · simp only [heliastlaw01_Text.l0]
        rw [if_pos hi, if_pos (by omega), if_pos (by omega), if_neg (by omega), he, if_pos (by omega), if_pos (by omega), if_pos (by omega), show wrap64 ((i : Int) + 1) = ((i + 1 : Nat) : Int) from by unfold wrap64; omega]
      · rw [ByteArray.size_append] at hrs
        rw [Nat.succ_mul]
        omega
    · refine ⟨x, Ev.step (f := fun _ => some x) (fun k => ?_) (Ev.now _), by omega⟩
      simp only [heliastlaw01_Text.l0]
      rw [if_neg hi]
theorem raw_l0 (z : List Int) (hw : ∀ x ∈ z, (Lit.int .u8 x).wf = true) (hl : z.length ≤ 140737488351232) (L : List ByteArray) (hL : 0 < L.length) (m : Nat) (hmm : m ≤ 100) (hm : ∀ x ∈ L, x.size ≤ m) :
    ∀ (p i : Nat) (x : ByteArray), i + p = 30 → x.size ≤ i * 100 → ∃ r, Ev (fun k => heliastlaw01_Raw.l0 k z L x (i : Int)) r ∧ r.size ≤ x.size + p * m
  | 0, i, x, h, hs => by
    refine ⟨x, Ev.step (f := fun _ => some x) (fun k => ?_) (Ev.now _), by omega⟩
    simp only [heliastlaw01_Raw.l0]
    by_cases hi : (i : Int) < (z.length : Int)
    · rw [if_pos hi, if_neg (by omega)]
    · rw [if_neg hi]
  | p + 1, i, x, h, hs => by
    by_cases hi : (i : Int) < (z.length : Int)
    · obtain ⟨h0, h1⟩ := rd_range hw i
      obtain ⟨j, hj, he⟩ := mod_at h0 h1 hL
      have hsz := rdOf_at hj hm
      obtain ⟨r, hr, hrs⟩ := raw_l0 z hw hl L hL m hmm hm p (i + 1) (x ++ rdOf ByteArray.empty L (j : Int)) (by omega) (by rw [ByteArray.size_append]; omega)
      refine ⟨r, Ev.step (fun k => ?_) hr, ?_⟩
      · simp only [heliastlaw01_Raw.l0]
        rw [if_pos hi, if_pos (by omega), if_pos (by omega), if_neg (by omega), he, if_pos (by omega), if_pos (by omega), if_pos (by omega), show wrap64 ((i : Int) + 1) = ((i + 1 : Nat) : Int) from by unfold wrap64; omega]
      · rw [ByteArray.size_append] at hrs
        rw [Nat.succ_mul]
        omega
    · refine ⟨x, Ev.step (f := fun _ => some x) (fun k => ?_) (Ev.now _), by omega⟩
      simp only [heliastlaw01_Raw.l0]
      rw [if_neg hi]
section
variable {W : World} {a : Option Addr} {cap : Nat} {z : List Int}
theorem text_row (x : RowAt W a (z.map (.int .u8))) (u : ∀ x ∈ z, (Lit.int .u8 x).wf = true) (b : z.length * 1 ≤ 140737488351232) (c : z.length ≤ cap) :
    ∃ r : ByteArray, r.size ≤ 160 ∧ ∀ w, Below W.heap.size W w → Calls Tryd.prog 12 #[.slice a z.length cap] w fun e w' => e = .returned (.string r) ∧ Below w.heap.size w w' := by
  obtain ⟨r, hr, hrs⟩ := text_l0 z u (by omega) [⟨#[97]⟩, ⟨#[98]⟩, ⟨#[34]⟩, ⟨#[92]⟩, ⟨#[10]⟩, ⟨#[1]⟩, ⟨#[195, 169]⟩, ⟨#[226, 130, 172]⟩, ⟨#[240, 159, 152, 128]⟩, ⟨#[255]⟩, ⟨#[237, 160, 128]⟩, ⟨#[12]⟩, ⟨#[127]⟩, ⟨#[239, 191, 189]⟩, ⟨#[8]⟩, ⟨#[9]⟩] (by decide) 4 (by omega) (by decide) 40 0 ⟨#[]⟩ (by omega) (by decide)
  obtain ⟨k, hk⟩ := hr.rounds
  refine ⟨r, by have : (⟨#[]⟩ : ByteArray).size = 0 := rfl; omega, fun w hb => heliastlaw01_Text.calls k a cap z r w (Kd.C_below (row_C x (by omega)) hb) c hk⟩
theorem raw_row (x : RowAt W a (z.map (.int .u8))) (u : ∀ x ∈ z, (Lit.int .u8 x).wf = true) (b : z.length * 1 ≤ 140737488351232) (c : z.length ≤ cap) :
    ∃ r : ByteArray, r.size ≤ 360 ∧ ∀ w, Below W.heap.size W w → Calls Tryd.prog 13 #[.slice a z.length cap] w fun e w' => e = .returned (.string r) ∧ Below w.heap.size w w' := by
  obtain ⟨r, hr, hrs⟩ := raw_l0 z u (by omega) [⟨#[97]⟩, ⟨#[92, 110]⟩, ⟨#[92, 117, 48, 48, 52, 49]⟩, ⟨#[92, 117, 100, 56, 51, 100]⟩, ⟨#[92, 117, 100, 101, 48, 48]⟩, ⟨#[92, 117, 48, 48, 69, 57]⟩, ⟨#[92, 34]⟩, ⟨#[92, 92]⟩, ⟨#[92, 47]⟩, ⟨#[92, 120]⟩, ⟨#[92, 117, 49, 50]⟩, ⟨#[10]⟩, ⟨#[195, 169]⟩, ⟨#[255]⟩, ⟨#[92, 117, 68, 66, 70, 70, 92, 117, 68, 70, 70, 70]⟩, ⟨#[34]⟩] (by decide) 12 (by omega) (by decide) 30 0 ⟨#[]⟩ (by omega) (by decide)
  obtain ⟨k, hk⟩ := hr.rounds
  refine ⟨r, by have : (⟨#[]⟩ : ByteArray).size = 0 := rfl; omega, fun w hb => heliastlaw01_Raw.calls k a cap z r w (Kd.C_below (row_C x (by omega)) hb) c hk⟩
end
end Go.Proofs.YtpibbokkdjjgeaaDoor
