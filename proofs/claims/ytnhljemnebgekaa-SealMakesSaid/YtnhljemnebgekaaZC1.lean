/-
  Texts of this session, merged in build order: SBytes, Tx0, Tx, SealE1, Psx2, Psx3, PsK.
-/
import Derived.Test.YtnhljemnebgekaaZC0
import Derived.Lib.MapLaws
import Derived.Lib.ConvBytes
set_option linter.unusedVariables false
set_option linter.unusedSimpArgs false
/-
  The function Bytes of the package seal, called on any text, returns the bytes that it stands for, or that it stands for none.
-/
namespace Go.Proofs.Ytnhljemnebgekaa
open Go.RowKit Go.Shelf Sha Go.Proofs.YtnhljemnebgekaaW.PrintWords
set_option linter.unusedSimpArgs false
/-- A sign's number, below 0 where it is none. -/
def sgn (c : UInt8) : Int := Lib.indexByte signs c
/-- What a text of signs stands for, from a state of the reader on. -/
def unGo : List UInt8 → Nat → Nat → List UInt8 → Option (List UInt8)
  | [], b, n, out => if 6 ≤ b ∨ n % 2 ^ b ≠ 0 then none else some out
  | c :: l, b, n, out =>
    if sgn c < 0 then none
    else if 8 ≤ b + 6 then unGo l (b - 2) ((n * 64 + (sgn c).toNat) % 65536) (out ++ [UInt8.ofNat ((n * 64 + (sgn c).toNat) % 65536 / 2 ^ (b - 2))])
    else unGo l (b + 6) ((n * 64 + (sgn c).toNat) % 65536) out
def unText (l : List UInt8) : Option (List UInt8) := unGo l 0 0 []
def SG : ByteArray := ⟨#[65, 66, 67, 68, 69, 70, 71, 72, 73, 74, 75, 76, 77, 78, 79, 80, 81, 82, 83, 84, 85, 86, 87, 88, 89, 90, 97, 98, 99, 100, 101, 102, 103, 104, 105, 106, 107, 108, 109, 110, 111, 112, 113, 114, 115, 116, 117, 118, 119, 120, 121, 122, 48, 49, 50, 51, 52, 53, 54, 55, 56, 57, 45, 95]⟩
theorem SG_list : SG.data.toList = signs := rfl
theorem SG_ascii : AsciiAll SG := by
  have : ∀ b ∈ signs, b.toNat < 128 := by decide
  exact this
theorem SG_size : SG.size = 64 := rfl
theorem indexByte_le : ∀ (l : List UInt8) (c : UInt8), Lib.indexByte l c < l.length
  | [], _ => by simp [Lib.indexByte]
  | b :: l, c => by
    have := indexByte_le l c
    unfold Lib.indexByte
    rw [List.length_cons]
    split
    · omega
    · split <;> omega
theorem sgn_lt (c : UInt8) : sgn c < 64 := indexByte_le signs c
theorem sgn_ge (c : UInt8) : -1 ≤ sgn c := Lib.indexByte_ge signs c
theorem sgn_far (c : UInt8) (h : 128 ≤ c.toNat) : sgn c = -1 := by
  refine indexByte_none signs c fun b hb e => ?_
  have := SG_ascii b hb
  rw [e] at this
  omega
theorem idx_near (c : UInt8) (hc : c.toNat < 128) (w : World) :
    Calls Try.prog 33 #[.string SG, .int .i32 c.toNat] w fun e w' => e = .returned (.int .i64 (sgn c)) ∧ w' = w := by
  have h := Try.strings_IndexRune_ascii SG (c.toNat : Int) w (by omega) (by omega)
  have e1 : ((c.toNat : Int).toNat.toUInt8) = c := by simp
  rw [e1] at h
  exact h
theorem idx_far (r : Nat) (h1 : 128 ≤ r) (h2 : r ≤ 1114111) (h3 : ¬ (55296 ≤ r ∧ r ≤ 57343)) (w : World) :
    Calls Try.prog 33 #[.string SG, .int .i32 r] w fun e w' => e = .returned (.int .i64 (-1)) ∧ Below w.heap.size w w' := by
  by_cases h : r = 65533
  · subst h
    exact indexRune_bad SG SG_ascii (by rw [SG_size]; omega) w
  · exact indexRune_far SG SG_ascii (by rw [SG_size]; omega) (by rw [SG_size]; omega) r (by omega) (by omega) (by omega) (by omega) w
/-- The rune that a byte beyond ASCII begins is beyond ASCII. -/
theorem decode_far (s : ByteArray) (pos : Nat) (h : pos < s.size) (hc : 128 ≤ (s[pos]'h).toNat) : 128 ≤ (Utf8.decode s pos).1 ∧ (Utf8.decode s pos).1 ≤ 1114111 ∧ ¬ (55296 ≤ (Utf8.decode s pos).1 ∧ (Utf8.decode s pos).1 ≤ 57343) := by
  rw [Lib.decode_N]
  have e : (s.data.toList.getD pos 0).toNat = (s[pos]'h).toNat := by
    rw [List.getD_eq_getElem?_getD, List.getElem?_eq_getElem (show pos < s.data.toList.length from h)]
    rfl
  rw [e]
  have k1 := (s.data.toList.getD (pos + 1) 0).toNat_lt
  have k2 := (s.data.toList.getD (pos + 2) 0).toNat_lt
  have k3 := (s.data.toList.getD (pos + 3) 0).toNat_lt
  have k0 := (s[pos]'h).toNat_lt
  generalize (s[pos]'h).toNat = b0 at *
  generalize (s.data.toList.getD (pos + 1) 0).toNat = b1 at *
  generalize (s.data.toList.getD (pos + 2) 0).toNat = b2 at *
  generalize (s.data.toList.getD (pos + 3) 0).toNat = b3 at *
  rcases Lib.decodeN_shape (s.data.toList.length - pos) b0 b1 b2 b3 with ⟨c, e⟩ | ⟨c1, c2, c3, cv, e⟩ | ⟨c1, c2, c3, c4, cv, cs, e⟩ | ⟨c1, c2, c3, c4, c5, cv, cs, e⟩ | e <;> rw [e] <;> dsimp only <;> omega
theorem unGo_end (b n : Nat) (out : List UInt8) : unGo [] b n out = if 6 ≤ b ∨ n % 2 ^ b ≠ 0 then none else some out := by rw [unGo]
theorem unGo_bad (c : UInt8) (l : List UInt8) (b n : Nat) (out : List UInt8) (h : sgn c < 0) : unGo (c :: l) b n out = none := by rw [unGo, if_pos h]
theorem drop_at (s : ByteArray) (pos : Nat) (h : pos < s.size) : s.data.toList.drop pos = (s[pos]'h) :: s.data.toList.drop (pos + 1) := List.drop_eq_getElem_cons (l := s.data.toList) h
theorem one_read (w : World) (y : Int) (T : TypeId) : (Kd.int .u8).C (w.alloc (.cells #[.int .u8 y] T)) (some ⟨w.heap.size, 0, none⟩) 1 [y] := by
  refine Kd.C_of_reads (d := (0 : Int)) ⟨rfl, by omega, fun _ => ⟨_, rfl, fun j hj => ?_⟩⟩
  rw [Addr.add_mid, Nat.zero_add, cell_of_row _ _ j _ T (0, 0) (heap_alloc_new w _)]
  have : j = 0 := by omega
  subst this
  rfl
theorem iterAt_grown {W : World} {k : Nat} {s : ByteArray} {pos : Nat} (hit : W.heap[k]? = some (.stringIter s pos)) (pos' : Nat) : W.grownBy (W.iterAt k s pos') (some k) :=
  ⟨rfl, rfl, rfl, by rw [Lib.iterAt_size]; exact Nat.le_refl _, fun j hj hne => Lib.iterAt_other W k j s pos' (fun e => hne (by rw [e]))⟩
theorem iter_size {W : World} {k : Nat} {s : ByteArray} {pos : Nat} (hit : W.heap[k]? = some (.stringIter s pos)) (pos' : Nat) : k + 1 ≤ (W.iterAt k s pos').heap.size := by
  rw [Lib.iterAt_size]
  exact (Array.getElem?_eq_some_iff.1 hit).1
theorem ownB_iter {W : World} {k base : Nat} {s : ByteArray} {pos : Nat} {v : Value} {l : List UInt8} (hit : W.heap[k]? = some (.stringIter s pos)) (h : OwnB W base v l) (pos' : Nat) : OwnB (W.iterAt k s pos') base v l :=
  h.walk (iterAt_grown hit pos') (fun r e => by cases e; exact ⟨_, hit, rfl⟩)
/-- Between two rounds of the reader. -/
def UnRel (w : World) (s : ByteArray) (v bb nn : Value) (wr : World) : Prop := ∃ pos b n out, wr.heap[w.heap.size]? = some (.stringIter s pos) ∧ OwnB wr (w.heap.size + 1) v out ∧ Below w.heap.size w wr ∧ bb = .int .i64 (b : Nat) ∧ nn = .int .i64 (n : Nat) ∧ n < 65536 ∧ (b = 0 ∨ b = 2 ∨ b = 4 ∨ b = 6) ∧ pos ≤ s.size ∧ unGo (s.data.toList.drop pos) b n out = unText s.data.toList ∧ out.length ≤ pos
theorem un_keep {w W : World} {s : ByteArray} {pos n d m : Nat} {x : UInt8} {v : Value} {out : List UInt8} (hp : pos < s.size) (hx : s[pos]'hp = x) (hd : sgn x = (d : Int)) (hm : (n * 64 + d) % 65536 = m) (hun : unGo (s.data.toList.drop pos) 0 n out = unText s.data.toList) (hol : out.length ≤ pos)
    (hit : W.heap[w.heap.size]? = some (.stringIter s (pos + 1))) (hbw : Below w.heap.size w W) (hown : OwnB W (w.heap.size + 1) v out) : UnRel w s v (.int .i64 6) (.int .i64 (m : Int)) W := by
  refine ⟨pos + 1, 6, m, out, hit, hown, hbw, rfl, rfl, by omega, by omega, by omega, ?_, by omega⟩
  rw [← hun, drop_at s pos hp, hx]
  conv => rhs; unfold unGo
  rw [if_neg (by omega), if_neg (by omega), hd, Int.toNat_natCast, hm]
theorem un_put {w W W1 w2 : World} {s : ByteArray} {pos b n d m : Nat} {x : UInt8} {v1 : Value} {out : List UInt8} {y : Int} {o : Obj} (hp : pos < s.size) (hx : s[pos]'hp = x) (hd : sgn x = (d : Int)) (hm : (n * 64 + d) % 65536 = m) (hun : unGo (s.data.toList.drop pos) b n out = unText s.data.toList) (hol : out.length ≤ pos)
    (hit : W.heap[w.heap.size]? = some (.stringIter s (pos + 1))) (hbw : Below w.heap.size w W) (hW1 : W.alloc o = W1) (hR : Kd.R (Kd.int .u8) 5 w2 (w.heap.size + 1) (fun _ => True) v1 (intsB out ++ [y])) (hB2 : Below (w.heap.size + 1) W1 w2) (hb : b = 2 ∨ b = 4 ∨ b = 6) (hy : y = ((m / 2 ^ (b - 2) : Nat) : Int) % 256) :
    UnRel w s v1 (.int .i64 ((b - 2 : Nat) : Int)) (.int .i64 (m : Int)) w2 ∧ w2.heap[w.heap.size]? = some (.stringIter s (pos + 1)) := by
  have hlt : w.heap.size < W.heap.size := (Array.getElem?_eq_some_iff.1 hit).1
  have hb1 : Below (w.heap.size + 1) W W1 := by rw [← hW1]; exact (Below.refl _ _).alloc (by omega) _
  have hB := hb1.trans hB2
  have hit2 : w2.heap[w.heap.size]? = some (.stringIter s (pos + 1)) := (hB.block w.heap.size (by omega)).trans hit
  refine ⟨⟨pos + 1, b - 2, m, out ++ [UInt8.ofNat (m / 2 ^ (b - 2))], hit2, ?_, hbw.trans (hB.mono (by omega)), rfl, rfl, by omega, by omega, by omega, ?_, by simp; omega⟩, hit2⟩
  · unfold OwnB
    have e : intsB (out ++ [UInt8.ofNat (m / 2 ^ (b - 2))]) = intsB out ++ [y] := by
      rw [intsB_append, hy]
      refine congrArg (intsB out ++ [·]) ?_
      show (((UInt8.ofNat (m / 2 ^ (b - 2))).toNat : Nat) : Int) = _
      rw [UInt8.toNat_ofNat']
      omega
    rw [e]; exact hR
  · rw [← hun, drop_at s pos hp, hx]
    conv => rhs; unfold unGo
    rw [if_neg (by omega), if_pos (by omega), hd, Int.toNat_natCast, hm]
def UnTold (w : World) (l : List UInt8) (e : Ending) (w' : World) : Prop :=
  (∃ out v, unText l = some out ∧ e = .returned (.tuple #[v, .bool true]) ∧ OwnB w' w.heap.size v out ∧ Below w.heap.size w w') ∨ (unText l = none ∧ e = .returned (.tuple #[.slice none 0 0, .bool false]) ∧ Below w.heap.size w w')
set_option maxRecDepth 100000 in
set_option maxHeartbeats 1000000 in
theorem bytes_any (s : ByteArray) (hs : s.size ≤ 140737488351232) (w : World) : Calls Try.prog 22 #[.string s] w (UnTold w s.data.toList) := by
  go_enter Try.func22, Try.ntmps22
  go_wp2_with fail
  go_loopw [4, 5, 6] (fun v bb nn wr => UnRel w s v bb nn wr) (fun v bb nn wr => s.size - wr.iterPos w.heap.size)
  case atStart => exact ⟨0, 0, 0, [], World.iter_heap w s 0, OwnB.nil _ _, (Below.refl _ w).alloc (Nat.le_refl _) _, rfl, rfl, by omega, .inl rfl, Nat.zero_le _, rfl, Nat.le_refl _⟩
  case round =>
    obtain ⟨pos, b, n, out, hit, hown, hbw, rfl, rfl, hn, hb, hps, hun, hol⟩ := hrel
    obtain ⟨av, cv, rfl, hcv, hrv⟩ := hown.reads
    have HO := Lib.hid hown; have HUN := Lib.hid hun
    clear hown hun hrv
    by_cases hp : pos < s.size
    · obtain ⟨x, hx⟩ : ∃ x, s[pos]'hp = x := ⟨_, rfl⟩
      by_cases hxa : x.toNat < 128
      · have hnx : ∀ ty, (Instr.next (.pointer (some ⟨w.heap.size, 0, none⟩)) true ty).run Try.prog wr = .ok (.tuple #[.bool true, .int .i64 pos, .int .i32 x.toNat]) (wr.iterAt w.heap.size s (pos + 1)) := fun ty => by
          rw [Lib.run_next_ascii_at wr w.heap.size s pos ty hit hp (by rw [hx]; exact hxa), hx]
        have HIT := Lib.hid (Lib.iterAt_heap wr w.heap.size s pos (pos + 1) hit)
        have HBW := Lib.hid (Lib.below_iterAt hbw (k := w.heap.size) (Nat.le_refl _) s (pos + 1))
        have HI0 := Lib.hid hit
        have HX := Lib.hid hx
        have HSI := Lib.hid (idx_near x hxa)
        have HOA := Lib.hid (ownB_iter hit HO.out (pos + 1))
        have HSZ := Lib.hid (iter_size hit (pos + 1))
        clear hit hbw hx
        by_cases hsg : sgn x < 0
        · go_wp2_with fail
          refine (HSI.out _).mono ?_
          rintro e w3 ⟨rfl, rfl⟩
          go_wp2_with fail
          go_ret2
          refine .inr ⟨?_, rfl, HBW.out⟩
          rw [← HUN.out, drop_at s pos hp, unGo_bad _ _ _ _ _ (by rw [HX.out]; exact hsg)]
        · obtain ⟨d, hd⟩ : ∃ d : Nat, sgn x = (d : Int) := ⟨(sgn x).toNat, by omega⟩
          have hd64 : d < 64 := by have := sgn_lt x; omega
          have hor : bits .or .i64 ((n : Int) * 64) (d : Int) = (n : Int) * 64 + (d : Int) := by
            have := i64_put n d 6 hd64 (by omega)
            rw [show (2 : Nat) ^ 6 = 64 from rfl] at this
            push_cast at this
            exact this
          obtain ⟨m, hm⟩ : ∃ m, (n * 64 + d) % 65536 = m := ⟨_, rfl⟩
          have hand : bits .and .i64 ((n : Int) * 64 + (d : Int)) 65535 = (m : Int) := by
            have := i64_low (n * 64 + d) 16 (by omega) (by omega)
            rw [show ((2 ^ 16 - 1 : Nat) : Int) = 65535 from rfl, show (2 : Nat) ^ 16 = 65536 from rfl, hm] at this
            push_cast at this
            exact this
          have hm65 : m < 65536 := by rw [← hm]; omega
          have HD := Lib.hid hd; have HM := Lib.hid hm
          have hsi := HSI.out
          rw [hd] at hsi
          have HSI2 := Lib.hid hsi
          clear hsi hd hm HSI hsg
          rcases hb with rfl | rfl | rfl | rfl
          · go_wp2_with fail
            refine (HSI2.out _).mono ?_
            rintro e w3 ⟨rfl, rfl⟩
            go_wp2_with fail
            go_roundw
            case rel => exact un_keep hp HX.out HD.out HM.out HUN.out hol HIT.out HBW.out HOA.out
            case measure => simp only [World.iterPos, HIT.out, HI0.out]; omega
          · go_wp2_with fail
            refine (HSI2.out _).mono ?_
            rintro e w3 ⟨rfl, rfl⟩
            go_wp2_with (at_builtin; refine Kd.R_append_row (Value.int .u8) (0 : Int) (h1 := fun _ => rfl) (w0 := (wr.iterAt w.heap.size s (pos + 1)).alloc (.cells #[.int .u8 ((m : Int) % 256)] 5)) (w.heap.size + 1) rfl _ _ 22 5 (.int .u8 0) 1 rfl Try.underlying22 infoB rfl (by decide) _ (intsB out) [(m : Int) % 256] (some ⟨(wr.iterAt w.heap.size s (pos + 1)).heap.size, 0, none⟩) 1 1 (fun _ => True) rfl rfl (fun _ _ => trivial) ?k1 ?k2 (Below.refl _ _) ?k4 ?k5 ?_)
            case k1 => exact HOA.out.below (below_alloc (Below.refl _ _) _)
            case k2 => exact one_read _ _ 5
            case k4 => have := HSZ.out; simp; omega
            case k5 => rw [intsB_length]; omega
            intro v1 w2 hR hB2 _ _
            have HR2 := Lib.hid (un_put (b := 2) hp HX.out HD.out HM.out HUN.out hol HIT.out HBW.out rfl hR hB2 (by omega) (by first | (show (m : Int) % 256 = ((m / 1 : Nat) : Int) % 256; omega) | (show (m : Int) / 4 % 256 = ((m / 4 : Nat) : Int) % 256; omega) | (show (m : Int) / 16 % 256 = ((m / 16 : Nat) : Int) % 256; omega)))
            clear hR hB2
            go_wp2_with fail
            go_roundw
            case rel => exact HR2.out.1
            case measure => simp only [World.iterPos, HR2.out.2, HI0.out]; omega
          · go_wp2_with fail
            refine (HSI2.out _).mono ?_
            rintro e w3 ⟨rfl, rfl⟩
            go_wp2_with (at_builtin; refine Kd.R_append_row (Value.int .u8) (0 : Int) (h1 := fun _ => rfl) (w0 := (wr.iterAt w.heap.size s (pos + 1)).alloc (.cells #[.int .u8 ((m : Int) / 4 % 256)] 5)) (w.heap.size + 1) rfl _ _ 22 5 (.int .u8 0) 1 rfl Try.underlying22 infoB rfl (by decide) _ (intsB out) [(m : Int) / 4 % 256] (some ⟨(wr.iterAt w.heap.size s (pos + 1)).heap.size, 0, none⟩) 1 1 (fun _ => True) rfl rfl (fun _ _ => trivial) ?k1 ?k2 (Below.refl _ _) ?k4 ?k5 ?_)
            case k1 => exact HOA.out.below (below_alloc (Below.refl _ _) _)
            case k2 => exact one_read _ _ 5
            case k4 => have := HSZ.out; simp; omega
            case k5 => rw [intsB_length]; omega
            intro v1 w2 hR hB2 _ _
            have HR2 := Lib.hid (un_put (b := 4) hp HX.out HD.out HM.out HUN.out hol HIT.out HBW.out rfl hR hB2 (by omega) (by first | (show (m : Int) % 256 = ((m / 1 : Nat) : Int) % 256; omega) | (show (m : Int) / 4 % 256 = ((m / 4 : Nat) : Int) % 256; omega) | (show (m : Int) / 16 % 256 = ((m / 16 : Nat) : Int) % 256; omega)))
            clear hR hB2
            go_wp2_with fail
            go_roundw
            case rel => exact HR2.out.1
            case measure => simp only [World.iterPos, HR2.out.2, HI0.out]; omega
          · go_wp2_with fail
            refine (HSI2.out _).mono ?_
            rintro e w3 ⟨rfl, rfl⟩
            go_wp2_with (at_builtin; refine Kd.R_append_row (Value.int .u8) (0 : Int) (h1 := fun _ => rfl) (w0 := (wr.iterAt w.heap.size s (pos + 1)).alloc (.cells #[.int .u8 ((m : Int) / 16 % 256)] 5)) (w.heap.size + 1) rfl _ _ 22 5 (.int .u8 0) 1 rfl Try.underlying22 infoB rfl (by decide) _ (intsB out) [(m : Int) / 16 % 256] (some ⟨(wr.iterAt w.heap.size s (pos + 1)).heap.size, 0, none⟩) 1 1 (fun _ => True) rfl rfl (fun _ _ => trivial) ?k1 ?k2 (Below.refl _ _) ?k4 ?k5 ?_)
            case k1 => exact HOA.out.below (below_alloc (Below.refl _ _) _)
            case k2 => exact one_read _ _ 5
            case k4 => have := HSZ.out; simp; omega
            case k5 => rw [intsB_length]; omega
            intro v1 w2 hR hB2 _ _
            have HR2 := Lib.hid (un_put (b := 6) hp HX.out HD.out HM.out HUN.out hol HIT.out HBW.out rfl hR hB2 (by omega) (by first | (show (m : Int) % 256 = ((m / 1 : Nat) : Int) % 256; omega) | (show (m : Int) / 4 % 256 = ((m / 4 : Nat) : Int) % 256; omega) | (show (m : Int) / 16 % 256 = ((m / 16 : Nat) : Int) % 256; omega)))
            clear hR hB2
            go_wp2_with fail
            go_roundw
            case rel => exact HR2.out.1
            case measure => simp only [World.iterPos, HR2.out.2, HI0.out]; omega
      · obtain ⟨r, hr⟩ : ∃ r, (Utf8.decode s pos).1 = r := ⟨_, rfl⟩
        have hfar := decode_far s pos hp (by rw [hx]; omega)
        rw [hr] at hfar
        have hnx : ∀ ty, (Instr.next (.pointer (some ⟨w.heap.size, 0, none⟩)) true ty).run Try.prog wr = .ok (.tuple #[.bool true, .int .i64 pos, .int .i32 r]) (wr.iterAt w.heap.size s (pos + (Utf8.decode s pos).2)) := fun ty => by
          rw [Lib.run_next_any_at wr w.heap.size s pos ty hit hp, hr]
        have HBW := Lib.hid (Lib.below_iterAt hbw (k := w.heap.size) (Nat.le_refl _) s (pos + (Utf8.decode s pos).2))
        have HSI := Lib.hid (idx_far r hfar.1 hfar.2.1 hfar.2.2)
        obtain ⟨W1, hW1⟩ : ∃ W1, wr.iterAt w.heap.size s (pos + (Utf8.decode s pos).2) = W1 := ⟨_, rfl⟩
        have HSZ := Lib.hid (iter_size hit (pos + (Utf8.decode s pos).2))
        rw [hW1] at hnx HBW HSZ
        have hno : unText s.data.toList = none := by
          rw [← HUN.out, drop_at s pos hp, unGo_bad _ _ _ _ _ (by rw [hx, sgn_far x (by omega)]; omega)]
        have HNO := Lib.hid hno
        clear hit hbw hx hfar hr hW1 hno
        go_wp2_with fail
        refine (HSI.out _).mono ?_
        rintro e w3 ⟨rfl, hb3⟩
        have HB3 := Lib.hid (HBW.out.trans (hb3.mono (by have := HSZ.out; omega)))
        clear hb3
        go_wp2_with fail
        go_ret2
        exact .inr ⟨HNO.out, rfl, HB3.out⟩
    · have hnx : ∀ ty, (Instr.next (.pointer (some ⟨w.heap.size, 0, none⟩)) true ty).run Try.prog wr = _ := fun ty => Lib.run_next_end_at wr w.heap.size s pos ty hit hp
      have hpe : pos = s.size := by omega
      have hfin : unText s.data.toList = if 6 ≤ b ∨ n % 2 ^ b ≠ 0 then none else some out := by
        rw [← HUN.out, List.drop_of_length_le (by rw [hpe]; exact Nat.le_refl _), unGo_end]
      have HFIN := Lib.hid hfin
      have HBW := Lib.hid hbw
      clear hfin hbw hpe
      rcases hb with rfl | rfl | rfl | rfl
      · have hand : bits .and .i64 (n : Int) 0 = 0 := by
          have := i64_low n 0 (by omega) (by omega)
          rw [show ((2 ^ 0 - 1 : Nat) : Int) = 0 from rfl, show (2 : Nat) ^ 0 = 1 from rfl, Nat.mod_one] at this
          exact this
        go_wp2_with fail
        go_ret2
        exact .inl ⟨out, _, by rw [HFIN.out, if_neg (by simp; omega)], rfl, HO.out.lower (by omega), HBW.out⟩
      · by_cases hq : n % 4 = 0
        · have hand : bits .and .i64 (n : Int) 3 = 0 := by
            have := i64_low n 2 (by omega) (by omega)
            rw [show ((2 ^ 2 - 1 : Nat) : Int) = 3 from rfl, show (2 : Nat) ^ 2 = 4 from rfl, hq] at this
            exact this
          have HQ := Lib.hid hq
          clear hq
          go_wp2_with fail
          go_ret2
          exact .inl ⟨out, _, by rw [HFIN.out, if_neg (by have := HQ.out; simp; omega)], rfl, HO.out.lower (by omega), HBW.out⟩
        · obtain ⟨q, hqq⟩ : ∃ q, n % 4 = q := ⟨_, rfl⟩
          have hand : bits .and .i64 (n : Int) 3 = (q : Int) := by
            have := i64_low n 2 (by omega) (by omega)
            rw [show ((2 ^ 2 - 1 : Nat) : Int) = 3 from rfl, show (2 : Nat) ^ 2 = 4 from rfl, hqq] at this
            exact this
          rw [hqq] at hq
          have hne : ((q : Int) != 0) = true := by simp; omega
          have HQ := Lib.hid hqq; have HQN := Lib.hid hq
          clear hqq hq
          go_wp2_with fail
          go_ret2
          exact .inr ⟨by rw [HFIN.out, if_pos (.inr (by rw [show (2 : Nat) ^ 2 = 4 from rfl, HQ.out]; exact HQN.out))], rfl, HBW.out⟩
      · by_cases hq : n % 16 = 0
        · have hand : bits .and .i64 (n : Int) 15 = 0 := by
            have := i64_low n 4 (by omega) (by omega)
            rw [show ((2 ^ 4 - 1 : Nat) : Int) = 15 from rfl, show (2 : Nat) ^ 4 = 16 from rfl, hq] at this
            exact this
          have HQ := Lib.hid hq
          clear hq
          go_wp2_with fail
          go_ret2
          exact .inl ⟨out, _, by rw [HFIN.out, if_neg (by have := HQ.out; simp; omega)], rfl, HO.out.lower (by omega), HBW.out⟩
        · obtain ⟨q, hqq⟩ : ∃ q, n % 16 = q := ⟨_, rfl⟩
          have hand : bits .and .i64 (n : Int) 15 = (q : Int) := by
            have := i64_low n 4 (by omega) (by omega)
            rw [show ((2 ^ 4 - 1 : Nat) : Int) = 15 from rfl, show (2 : Nat) ^ 4 = 16 from rfl, hqq] at this
            exact this
          rw [hqq] at hq
          have hne : ((q : Int) != 0) = true := by simp; omega
          have HQ := Lib.hid hqq; have HQN := Lib.hid hq
          clear hqq hq
          go_wp2_with fail
          go_ret2
          exact .inr ⟨by rw [HFIN.out, if_pos (.inr (by rw [show (2 : Nat) ^ 4 = 16 from rfl, HQ.out]; exact HQN.out))], rfl, HBW.out⟩
      · go_wp2_with fail
        go_ret2
        exact .inr ⟨by rw [HFIN.out, if_pos (.inl (by omega))], rfl, HBW.out⟩
end Go.Proofs.Ytnhljemnebgekaa

/-
  Plain lists: the text of the signs, group by group.
-/
namespace Go.Proofs.Ytnhljemnebgekaa
open Go.RowKit Sha Go.Proofs.YtnhljemnebgekaaW.PrintWords
set_option linter.unusedSimpArgs false
def bs (l : List UInt8) : ByteArray := ⟨l.toArray⟩
theorem bs_size (l : List UInt8) : (bs l).size = l.length := by simp [bs, ByteArray.size]
theorem bs_snoc (l m : List UInt8) : bs l ++ bs m = bs (l ++ m) := by
  apply ByteArray.ext
  simp [bs]
theorem wrap_nat (n : Nat) (h : n < 9223372036854775808) : wrap64 (n : Int) = (n : Int) := by unfold wrap64; omega
theorem signs_piece : ∀ v, v < 64 → SG.extract v (v + 1) = bs [signs.getD v 0] := by decide +kernel
theorem piece_length (d : List UInt8) (j : Nat) : (piece d j).length = min 3 (d.length - 3 * j) := by simp [piece]
theorem piece_getD (d : List UInt8) (j i : Nat) (h : i < 3) : (piece d j).getD i 0 = d.getD (3 * j + i) 0 := by
  unfold piece
  simp only [List.getD_eq_getElem?_getD, List.getElem?_take, if_pos h, List.getElem?_drop]
/-- A text of the bytes, group by group. -/
def tx : List UInt8 → List UInt8
  | [] => []
  | [a] => grpText [a] 2
  | [a, b] => grpText [a, b] 3
  | a :: b :: c :: l => grpText [a, b, c] 4 ++ tx l
theorem tx_step (l : List UInt8) (h : 0 < l.length) : tx l = grpText (l.take 3) ((l.take 3).length + 1) ++ tx (l.drop 3) := by
  match l, h with
  | [a], _ => simp [tx]
  | [a, b], _ => simp [tx]
  | a :: b :: c :: l, _ => simp [tx]
theorem text_from (d : List UInt8) : ∀ (p j : Nat), j + p = many3 d.length → (List.range' j p).flatMap (fun k => grpText (piece d k) ((piece d k).length + 1)) = tx (d.drop (3 * j))
  | 0, j, h => by
    unfold many3 at h
    rw [List.drop_of_length_le (by omega)]
    rfl
  | p + 1, j, h => by
    have hlt : 3 * j < d.length := by unfold many3 at h; omega
    rw [tx_step _ (by rw [List.length_drop]; omega), List.drop_drop, List.range'_succ, List.flatMap_cons, text_from d p (j + 1) (by omega)]
    rfl
theorem text_tx (d : List UInt8) : text d = tx d := by
  unfold text
  rw [List.range_eq_range', text_from d _ 0 (by omega)]
  rfl
end Go.Proofs.Ytnhljemnebgekaa

/-
  Plain lists: the text of the signs and the way back are each other's.
-/
namespace Go.Proofs.Ytnhljemnebgekaa
open Go.RowKit Sha Go.Proofs.YtnhljemnebgekaaW.PrintWords
set_option linter.unusedSimpArgs false
/-- A sign's number, if it is one. -/
def dg (c : UInt8) : Option Nat := if sgn c < 0 then none else some (sgn c).toNat
def sg (v : Nat) : UInt8 := signs.getD v 0
theorem dg_sg : ∀ v, v < 64 → dg (sg v) = some v := by decide +kernel
theorem sgn_sg : ∀ v, v < 64 → sgn (sg v) = (v : Int) := by decide +kernel
theorem indexByte_get : ∀ (l : List UInt8) (c : UInt8) (d : Nat), Lib.indexByte l c = (d : Int) → l.getD d 0 = c
  | [], c, d, h => by simp [Lib.indexByte] at h
  | b :: l, c, d, h => by
    unfold Lib.indexByte at h
    split at h
    · rename_i hb
      have hd : d = 0 := by omega
      subst hd
      simpa using hb
    · split at h
      · omega
      · rename_i h2
        have h3 : Lib.indexByte l c ≠ -1 := by simpa using h2
        have := Lib.indexByte_ge l c
        obtain ⟨e, rfl⟩ : ∃ e, d = e + 1 := ⟨d - 1, by omega⟩
        rw [List.getD_cons_succ]
        exact indexByte_get l c e (by omega)
theorem dg_some {c : UInt8} {d : Nat} (h : dg c = some d) : d < 64 ∧ sg d = c ∧ sgn c = (d : Int) := by
  unfold dg at h
  split at h
  · cases h
  · cases h
    have h1 := sgn_lt c
    have h2 : sgn c = ((sgn c).toNat : Int) := by omega
    exact ⟨by omega, indexByte_get signs c _ h2, h2⟩
theorem dg_none {c : UInt8} (h : dg c = none) : sgn c < 0 := by
  unfold dg at h
  split at h
  · assumption
  · cases h
/-- What a text of signs stands for, four by four. -/
def un4 : List UInt8 → Option (List UInt8)
  | [] => some []
  | [_] => none
  | [a, b] => (dg a).bind fun x => (dg b).bind fun y => if y % 16 = 0 then some [UInt8.ofNat (x * 4 + y / 16)] else none
  | [a, b, c] => (dg a).bind fun x => (dg b).bind fun y => (dg c).bind fun z => if z % 4 = 0 then some [UInt8.ofNat (x * 4 + y / 16), UInt8.ofNat (y % 16 * 16 + z / 4)] else none
  | a :: b :: c :: d :: l => (dg a).bind fun x => (dg b).bind fun y => (dg c).bind fun z => (dg d).bind fun u => (un4 l).bind fun r => some (UInt8.ofNat (x * 4 + y / 16) :: UInt8.ofNat (y % 16 * 16 + z / 4) :: UInt8.ofNat (z % 4 * 64 + u) :: r)
theorem unGo_none (c : UInt8) (l : List UInt8) (b n : Nat) (out : List UInt8) (h : dg c = none) : unGo (c :: l) b n out = none := unGo_bad c l b n out (dg_none h)
theorem unGo_0 (c : UInt8) (l : List UInt8) (n d : Nat) (out : List UInt8) (h : dg c = some d) : unGo (c :: l) 0 n out = unGo l 6 ((n * 64 + d) % 65536) out := by
  obtain ⟨h1, h2, h3⟩ := dg_some h
  rw [unGo, if_neg (by omega), if_neg (by omega), h3, Int.toNat_natCast]
theorem unGo_p (c : UInt8) (l : List UInt8) (b n d : Nat) (out : List UInt8) (hb : 2 ≤ b) (h : dg c = some d) : unGo (c :: l) b n out = unGo l (b - 2) ((n * 64 + d) % 65536) (out ++ [UInt8.ofNat ((n * 64 + d) % 65536 / 2 ^ (b - 2))]) := by
  obtain ⟨h1, h2, h3⟩ := dg_some h
  rw [unGo, if_neg (by omega), if_pos (by omega), h3, Int.toNat_natCast]
theorem ofNat_eq {a b : Nat} (h : a % 256 = b % 256) : UInt8.ofNat a = UInt8.ofNat b := by
  apply UInt8.toNat_inj.1
  rw [UInt8.toNat_ofNat', UInt8.toNat_ofNat']
  exact h
theorem unGo_un4 : ∀ (l : List UInt8) (n : Nat) (out : List UInt8), unGo l 0 n out = (un4 l).map (out ++ ·)
  | [], n, out => by simp [unGo, un4]; omega
  | [a], n, out => by
    cases ha : dg a with
    | none => rw [unGo_none _ _ _ _ _ ha]; rfl
    | some x => rw [unGo_0 _ _ _ _ _ ha]; simp [unGo, un4]
  | [a, b], n, out => by
    cases ha : dg a with
    | none => rw [unGo_none _ _ _ _ _ ha]; simp [un4, ha]
    | some x =>
      rw [unGo_0 _ _ _ _ _ ha]
      cases hb : dg b with
      | none => rw [unGo_none _ _ _ _ _ hb]; simp [un4, ha, hb]
      | some y =>
        have hx := (dg_some ha).1
        have hy := (dg_some hb).1
        rw [unGo_p _ _ _ _ _ _ (by omega) hb]
        simp only [unGo, un4, ha, hb, Option.bind_some]
        rw [show UInt8.ofNat (((n * 64 + x) % 65536 * 64 + y) % 65536 / 2 ^ (6 - 2)) = UInt8.ofNat (x * 4 + y / 16) from ofNat_eq (by simp; omega)]
        by_cases hz : y % 16 = 0
        · rw [if_pos hz, if_neg (by simp; omega)]; rfl
        · rw [if_neg hz, if_pos (by simp; omega)]; rfl
  | [a, b, c], n, out => by
    cases ha : dg a with
    | none => rw [unGo_none _ _ _ _ _ ha]; simp [un4, ha]
    | some x =>
      rw [unGo_0 _ _ _ _ _ ha]
      cases hb : dg b with
      | none => rw [unGo_none _ _ _ _ _ hb]; simp [un4, ha, hb]
      | some y =>
        rw [unGo_p _ _ _ _ _ _ (by omega) hb]
        cases hc : dg c with
        | none => rw [unGo_none _ _ _ _ _ hc]; simp [un4, ha, hb, hc]
        | some z =>
          have hx := (dg_some ha).1
          have hy := (dg_some hb).1
          have hz' := (dg_some hc).1
          rw [unGo_p _ _ _ _ _ _ (by omega) hc]
          simp only [unGo, un4, ha, hb, hc, Option.bind_some]
          rw [show UInt8.ofNat (((n * 64 + x) % 65536 * 64 + y) % 65536 / 2 ^ (6 - 2)) = UInt8.ofNat (x * 4 + y / 16) from ofNat_eq (by simp; omega),
            show UInt8.ofNat ((((n * 64 + x) % 65536 * 64 + y) % 65536 * 64 + z) % 65536 / 2 ^ (6 - 2 - 2)) = UInt8.ofNat (y % 16 * 16 + z / 4) from ofNat_eq (by simp; omega)]
          by_cases hz : z % 4 = 0
          · rw [if_pos hz, if_neg (by simp; omega)]; simp
          · rw [if_neg hz, if_pos (by simp; omega)]; rfl
  | a :: b :: c :: d :: l, n, out => by
    cases ha : dg a with
    | none => rw [unGo_none _ _ _ _ _ ha]; simp [un4, ha]
    | some x =>
      rw [unGo_0 _ _ _ _ _ ha]
      cases hb : dg b with
      | none => rw [unGo_none _ _ _ _ _ hb]; simp [un4, ha, hb]
      | some y =>
        rw [unGo_p _ _ _ _ _ _ (by omega) hb]
        cases hc : dg c with
        | none => rw [unGo_none _ _ _ _ _ hc]; simp [un4, ha, hb, hc]
        | some z =>
          rw [unGo_p _ _ _ _ _ _ (by omega) hc]
          cases hd : dg d with
          | none => rw [unGo_none _ _ _ _ _ hd]; simp [un4, ha, hb, hc, hd]
          | some u =>
            have hx := (dg_some ha).1
            have hy := (dg_some hb).1
            have hz' := (dg_some hc).1
            have hu := (dg_some hd).1
            rw [unGo_p _ _ _ _ _ _ (by omega) hd]
            rw [show UInt8.ofNat (((n * 64 + x) % 65536 * 64 + y) % 65536 / 2 ^ (6 - 2)) = UInt8.ofNat (x * 4 + y / 16) from ofNat_eq (by simp; omega),
              show UInt8.ofNat ((((n * 64 + x) % 65536 * 64 + y) % 65536 * 64 + z) % 65536 / 2 ^ (6 - 2 - 2)) = UInt8.ofNat (y % 16 * 16 + z / 4) from ofNat_eq (by simp; omega),
              show UInt8.ofNat (((((n * 64 + x) % 65536 * 64 + y) % 65536 * 64 + z) % 65536 * 64 + u) % 65536 / 2 ^ (6 - 2 - 2 - 2)) = UInt8.ofNat (z % 4 * 64 + u) from ofNat_eq (by simp; omega)]
            rw [show 6 - 2 - 2 - 2 = 0 from rfl, unGo_un4 l]
            simp only [un4, ha, hb, hc, hd, Option.bind_some]
            cases un4 l <;> simp
theorem unText_un4 (l : List UInt8) : unText l = un4 l := by
  unfold unText
  rw [unGo_un4]
  cases un4 l <;> simp
theorem grpText4 (a b c : UInt8) : grpText [a, b, c] 4 = [sg (a.toNat / 4), sg (a.toNat % 4 * 16 + b.toNat / 16), sg (b.toNat % 16 * 4 + c.toNat / 64), sg (c.toNat % 64)] := by
  have ha := a.toNat_lt
  have hb := b.toNat_lt
  have hc := c.toNat_lt
  have e : grp [a, b, c] 3 = (a.toNat * 256 + b.toNat) * 256 + c.toNat := by simp [grp]
  simp only [grpText, e, signAt, sg, List.range_succ, List.range_zero, List.nil_append, List.cons_append, List.map_cons, List.map_nil]
  simp only [List.cons.injEq, and_true]
  refine ⟨?_, ?_, ?_, ?_⟩ <;> congr 1 <;> omega
theorem grpText3 (a b : UInt8) : grpText [a, b] 3 = [sg (a.toNat / 4), sg (a.toNat % 4 * 16 + b.toNat / 16), sg (b.toNat % 16 * 4)] := by
  have ha := a.toNat_lt
  have hb := b.toNat_lt
  have e : grp [a, b] 3 = (a.toNat * 256 + b.toNat) * 256 := by simp [grp]
  simp only [grpText, e, signAt, sg, List.range_succ, List.range_zero, List.nil_append, List.cons_append, List.map_cons, List.map_nil]
  simp only [List.cons.injEq, and_true]
  refine ⟨?_, ?_, ?_⟩ <;> congr 1 <;> omega
theorem grpText2 (a : UInt8) : grpText [a] 2 = [sg (a.toNat / 4), sg (a.toNat % 4 * 16)] := by
  have ha := a.toNat_lt
  have e : grp [a] 3 = a.toNat * 256 * 256 := by simp [grp]
  simp only [grpText, e, signAt, sg, List.range_succ, List.range_zero, List.nil_append, List.cons_append, List.map_cons, List.map_nil]
  simp only [List.cons.injEq, and_true]
  refine ⟨?_, ?_⟩ <;> congr 1 <;> omega
theorem ofNat_toNat' {a : UInt8} {n : Nat} (h : n = a.toNat) : UInt8.ofNat n = a := by
  subst h; simp
/-- There and back. -/
theorem un4_tx : ∀ l : List UInt8, un4 (tx l) = some l
  | [] => rfl
  | [a] => by
    have ha := a.toNat_lt
    rw [tx, grpText2]
    simp only [un4, dg_sg _ (show a.toNat / 4 < 64 from by omega), dg_sg _ (show a.toNat % 4 * 16 < 64 from by omega), Option.bind_some]
    rw [if_pos (by omega), ofNat_toNat' (a := a) (by omega)]
  | [a, b] => by
    have ha := a.toNat_lt
    have hb := b.toNat_lt
    rw [tx, grpText3]
    simp only [un4, dg_sg _ (show a.toNat / 4 < 64 from by omega), dg_sg _ (show a.toNat % 4 * 16 + b.toNat / 16 < 64 from by omega), dg_sg _ (show b.toNat % 16 * 4 < 64 from by omega), Option.bind_some]
    rw [if_pos (by omega), ofNat_toNat' (a := a) (by omega), ofNat_toNat' (a := b) (by omega)]
  | a :: b :: c :: l => by
    have ha := a.toNat_lt
    have hb := b.toNat_lt
    have hc := c.toNat_lt
    rw [tx, grpText4]
    simp only [List.cons_append, List.nil_append, un4, dg_sg _ (show a.toNat / 4 < 64 from by omega), dg_sg _ (show a.toNat % 4 * 16 + b.toNat / 16 < 64 from by omega), dg_sg _ (show b.toNat % 16 * 4 + c.toNat / 64 < 64 from by omega), dg_sg _ (show c.toNat % 64 < 64 from by omega), Option.bind_some, un4_tx l]
    rw [ofNat_toNat' (a := a) (by omega), ofNat_toNat' (a := b) (by omega), ofNat_toNat' (a := c) (by omega)]
/-- Back and there. -/
theorem tx_un4 : ∀ (s : List UInt8) (y : List UInt8), un4 s = some y → tx y = s
  | [], y, h => by simp [un4] at h; subst h; rfl
  | [_], y, h => by simp [un4] at h
  | [a, b], y, h => by
    simp only [un4, Option.bind_eq_some_iff] at h
    obtain ⟨x, hx, v, hv, h⟩ := h
    obtain ⟨x1, x2, _⟩ := dg_some hx
    obtain ⟨v1, v2, _⟩ := dg_some hv
    split at h
    · cases h
      rw [tx, grpText2, UInt8.toNat_ofNat', ← x2, ← v2]
      simp only [List.cons.injEq, and_true]
      refine ⟨?_, ?_⟩ <;> congr 1 <;> omega
    · cases h
  | [a, b, c], y, h => by
    simp only [un4, Option.bind_eq_some_iff] at h
    obtain ⟨x, hx, v, hv, z, hz, h⟩ := h
    obtain ⟨x1, x2, _⟩ := dg_some hx
    obtain ⟨v1, v2, _⟩ := dg_some hv
    obtain ⟨z1, z2, _⟩ := dg_some hz
    split at h
    · cases h
      rw [tx, grpText3, UInt8.toNat_ofNat', UInt8.toNat_ofNat', ← x2, ← v2, ← z2]
      simp only [List.cons.injEq, and_true]
      refine ⟨?_, ?_, ?_⟩ <;> congr 1 <;> omega
    · cases h
  | a :: b :: c :: d :: l, y, h => by
    simp only [un4, Option.bind_eq_some_iff] at h
    obtain ⟨x, hx, v, hv, z, hz, u, hu, r, hr, h⟩ := h
    obtain ⟨x1, x2, _⟩ := dg_some hx
    obtain ⟨v1, v2, _⟩ := dg_some hv
    obtain ⟨z1, z2, _⟩ := dg_some hz
    obtain ⟨u1, u2, _⟩ := dg_some hu
    cases h
    rw [tx, grpText4, UInt8.toNat_ofNat', UInt8.toNat_ofNat', UInt8.toNat_ofNat', ← x2, ← v2, ← z2, ← u2, tx_un4 l r hr]
    simp only [List.cons_append, List.nil_append, List.cons.injEq, and_true]
    refine ⟨?_, ?_, ?_, ?_⟩ <;> congr 1 <;> omega
theorem tx_length : ∀ l : List UInt8, (tx l).length = (4 * l.length + 2) / 3
  | [] => rfl
  | [a] => by rw [tx, grpText2]; simp
  | [a, b] => by rw [tx, grpText3]; simp
  | a :: b :: c :: l => by
    rw [tx, grpText4, List.length_append, tx_length l]
    simp only [List.length_cons, List.length_nil]
    omega
theorem un4_length (s y : List UInt8) (h : un4 s = some y) : s.length = (4 * y.length + 2) / 3 := by
  rw [← tx_length, tx_un4 s y h]
/-- Are they a name's bytes? -/
def named1 : Option (List UInt8) → Bool
  | some r => r.length == 32
  | none => false
theorem tx_append : ∀ (a b : List UInt8), a.length % 3 = 0 → tx (a ++ b) = tx a ++ tx b
  | [], b, _ => rfl
  | [_], b, h => by simp at h
  | [_, _], b, h => by simp at h
  | x :: y :: z :: l, b, h => by
    have e : (x :: y :: z :: l) ++ b = x :: y :: z :: (l ++ b) := rfl
    rw [e, tx, tx, tx_append l b (by simp only [List.length_cons] at h; omega), List.append_assoc]
theorem bt_bs (l : List UInt8) (i : Nat) (h : i < l.length) : bt (bs l) (i : Int) = ((l.getD i 0).toNat : Int) := by
  unfold bt
  rw [Int.toNat_natCast, dif_pos (by rw [bs_size]; exact h)]
  rw [List.getD_eq_getElem?_getD, List.getElem?_eq_getElem h]
  rfl
theorem SG_bs : SG = bs signs := rfl
theorem bs_toList (l : List UInt8) : (bs l).toList = l := ByteArray.toList_mk l
theorem drop_cons {s : List UInt8} {n : Nat} (h : n < s.length) : s.drop n = s.getD n 0 :: s.drop (n + 1) := by
  rw [List.drop_eq_getElem_cons h]; simp [List.getD_eq_getElem?_getD, List.getElem?_eq_getElem h]
end Go.Proofs.Ytnhljemnebgekaa

/-
  The functions Text, Bytes and ID of the package seal, as contracts over plain lists.
-/
namespace Go.Proofs.Ytnhljemnebgekaa
open Go.RowKit Sha Go.Proofs.YtnhljemnebgekaaW.PrintWords Go.Proofs.YtnhljemnebgekaaW.PrintLast Go.Proofs.YtnhljemnebgekaaW.PrintMore
set_option linter.unusedSimpArgs false
theorem bytes_read (w : World) (s : ByteArray) (hs : s.size ≤ 1000000000000) : Rd (Lib.bytesWorld w 5 s) (some ⟨w.heap.size, 0, none⟩) s.data.toList := by
  refine Kd.C_of_reads (d := (0 : Int)) ⟨by rw [intsB_length], by show s.size ≤ _; omega, fun _ => ⟨_, rfl, fun j hj => ?_⟩⟩
  rw [Addr.add_mid, Nat.zero_add, Lib.bytesWorld_cell w 5 s j hj]
  rw [← rd_intsB]
  rfl
theorem bytes_below (w : World) (s : ByteArray) : Below w.heap.size w (Lib.bytesWorld w 5 s) :=
  ⟨rfl, rfl, rfl, by rw [Lib.bytesWorld_size]; omega, fun j hj => Lib.bytesWorld_at_old w 5 s j hj⟩
theorem text_bs (a : Option Addr) (c : Nat) (d : List UInt8) (w : World) (h : Rd w a d) (hdc : d.length ≤ c) (hl : d.length ≤ 1099511000000) :
    Calls Try.prog 16 #[.slice a d.length c] w fun e w' => e = .returned (.string (bs (text d))) ∧ Below w.heap.size w w' := text_any a c d w h hdc hl
/-- The name of a row of bytes. -/
def idOf (l : List UInt8) : List UInt8 := 36 :: text (Sha.sum l)
def bytesOkS (s : ByteArray) : Bool := decide (s.size ≤ 1000000000000)
theorem bs_list (s : ByteArray) : bs s.data.toList = s := by apply ByteArray.ext; simp [bs]
def backOf (s : ByteArray) : List Int × Bool := match un4 s.data.toList with | none => ([], false) | some r => (intsB r, true)
set_option maxRecDepth 100000 in
set_option maxHeartbeats 1000000 in
theorem sid_any (s : ByteArray) (hs : s.size ≤ 1000000000000) (w : World) : Calls Try.prog 18 #[.string s] w fun e w' => e = .returned (.string (bs (idOf s.data.toList))) ∧ Below w.heap.size w w' := by
  have hcv := fun (w : World) => Lib.run_convert_string_bytes (P := Try.prog) w 9 22 5 s Try.underlying9 Try.underlying22 Try.underlying5
  obtain ⟨W1, hW1⟩ : ∃ W1, Lib.bytesWorld w 5 s = W1 := ⟨_, rfl⟩
  obtain ⟨c1, hc1⟩ : ∃ c, grownCap w s.size 0 5 = c := ⟨_, rfl⟩
  have hle : s.size ≤ c1 := by rw [← hc1]; exact grownCap_ge _ _ _ _
  have hcv1 : ∀ _ : Unit, (convert 9 22 (.string s)).run Try.prog w = .ok (.slice (some ⟨w.heap.size, 0, none⟩) s.size c1) W1 := fun _ => by rw [hcv w, hW1, hc1]
  have HR := Lib.hid (show Rd W1 (some ⟨w.heap.size, 0, none⟩) s.data.toList from by rw [← hW1]; exact bytes_read w s hs)
  have HB1 := Lib.hid (show Below w.heap.size w W1 from by rw [← hW1]; exact bytes_below w s)
  have hcx := hcv1 ()
  obtain ⟨S, hS⟩ : ∃ S, Sha.sum s.data.toList = S := ⟨_, rfl⟩
  have hSl : S.length = 32 := by rw [← hS, Sha.sum_length]
  obtain ⟨t, ht⟩ : ∃ t, bs (text S) = t := ⟨_, rfl⟩
  have hts : t.size ≤ 1000 := by rw [← ht, bs_size, text_tx, tx_length, hSl]; omega
  have hres : bs (idOf s.data.toList) = ⟨#[36]⟩ ++ t := by unfold idOf; rw [hS, ← ht]; exact (bs_snoc [36] _).symm
  have hsum := digest_sum_any (some ⟨w.heap.size, 0, none⟩) c1 s.data.toList W1 HR.out (by show s.size ≤ _; omega)
  rw [hS] at hsum
  have HSUM := Lib.hid hsum; have HSL := Lib.hid hSl; have HT := Lib.hid ht; have HRES := Lib.hid hres; have HSZ := Lib.hid hle
  clear hsum hcv hcv1 hW1 hc1 hS hSl ht hres hle HR
  go_enter Try.func18, Try.ntmps18
  go_wp2_with fail
  refine HSUM.out.mono ?_
  rintro e W2 ⟨v2, rfl, ho2, hb2⟩
  obtain ⟨a2, c2, hv2, hc2, hr2⟩ := ho2.reads
  have htx := text_bs a2 c2 S W2 hr2 hc2 (by rw [HSL.out]; omega)
  rw [HT.out] at htx
  rw [HSL.out] at hv2 hc2 htx
  subst hv2
  have HTX := Lib.hid htx; have HB2 := Lib.hid (HB1.out.trans (hb2.mono HB1.out.size))
  clear ho2 hb2 hr2 htx HSUM HB1
  go_wp2_with fail
  refine HTX.out.mono ?_
  rintro e W3 ⟨rfl, hb3⟩
  have HB3 := Lib.hid (HB2.out.trans (hb3.mono HB2.out.size))
  clear hb3
  go_wp2_with fail
  go_ret
  exact ⟨by rw [HRES.out]; rfl, HB3.out⟩
def Ext.seal_Text.f (l0 : List Int) : Option ByteArray := if bytesOk l0 = true then some (bs (tx (bytesI l0))) else none
theorem Ext.seal_Text.f_eq (l : List UInt8) (h : l.length ≤ 1099511000000) : Ext.seal_Text.f (intsB l) = some (bs (tx l)) := by
  unfold Ext.seal_Text.f; rw [if_pos (bytesOk_intsB l h), bytesI_intsB]
theorem Ext.seal_Text.calls (A0 : Option Addr) (c0 : Nat) (l0 : List Int) (r : ByteArray) (w : World) (hr0 : Kd.C (Kd.int .u8) w A0 l0.length l0) (hc0 : l0.length ≤ c0) (h : Ext.seal_Text.f l0 = some r) :
    Calls Try.prog 16 #[.slice A0 l0.length c0] w fun e w' => e = .returned (.string r) ∧ Below w.heap.size w w' := by
  unfold Ext.seal_Text.f at h
  split at h
  · rename_i hok
    cases h
    obtain ⟨e, n, b⟩ := bytesOk_rd hok
    have := text_any A0 c0 (bytesI l0) w (by unfold Rd; rw [n, e]; exact hr0) (by omega) (by omega)
    rw [n, text_tx] at this
    exact this
  · cases h
def Ext.seal_Bytes.f (s : ByteArray) : Option (List Int × Bool) := if bytesOkS s = true then some (backOf s) else none
theorem Ext.seal_Bytes.f_eq (s : ByteArray) (h : s.size ≤ 1000000000000) : Ext.seal_Bytes.f s = some (backOf s) := by
  unfold Ext.seal_Bytes.f bytesOkS; rw [if_pos (decide_eq_true h)]
theorem Ext.seal_Bytes.calls (a0 : ByteArray) (r1 : List Int) (r2 : Bool) (w : World) (h : Ext.seal_Bytes.f a0 = some (r1, r2)) :
    Calls Try.prog 22 #[.string a0] w fun e w' => ∃ v0_ : Value, e = .returned (.tuple #[v0_, .bool r2]) ∧ Kd.R (Kd.int .u8) 5 w' w.heap.size (fun _ => True) v0_ r1 ∧ Below w.heap.size w w' := by
  unfold Ext.seal_Bytes.f at h
  split at h
  · rename_i hok
    have hsz : a0.size ≤ 1000000000000 := of_decide_eq_true hok
    refine (bytes_any a0 (by omega) w).mono fun e w' ht => ?_
    unfold backOf at h
    rcases ht with ⟨out, v, h1, h2, h3, h4⟩ | ⟨h1, h2, h4⟩
    · rw [unText_un4] at h1
      rw [h1] at h
      cases h
      exact ⟨v, h2, h3, h4⟩
    · rw [unText_un4] at h1
      rw [h1] at h
      cases h
      exact ⟨_, h2, Kd.R_nil _ _ _ _ _, h4⟩
  · cases h
def Ext.seal_ID.f (s : ByteArray) : Option ByteArray := if bytesOkS s = true then some (bs (idOf s.data.toList)) else none
theorem Ext.seal_ID.f_eq (s : ByteArray) (h : s.size ≤ 1000000000000) : Ext.seal_ID.f s = some (bs (idOf s.data.toList)) := by
  unfold Ext.seal_ID.f bytesOkS; rw [if_pos (decide_eq_true h)]
theorem Ext.seal_ID.calls (a0 : ByteArray) (r : ByteArray) (w : World) (h : Ext.seal_ID.f a0 = some r) :
    Calls Try.prog 18 #[.string a0] w fun e w' => e = .returned (.string r) ∧ Below w.heap.size w w' := by
  unfold Ext.seal_ID.f at h
  split at h
  · rename_i hok
    cases h
    exact sid_any a0 (of_decide_eq_true hok) w
  · cases h
end Go.Proofs.Ytnhljemnebgekaa

/-
  What the functions of these laws compute, as plain Lean functions, and that the machine's calls compute it: written by this session's own hook over the kit's print.
-/
namespace Go.Proofs.Ytnhljemnebgekaa.Ps
open Go.RowKit Go.Proofs.YtnhljemnebgekaaW.PrintWords Go.Proofs.YtnhljemnebgekaaW.PrintLast Go.Proofs.YtnhljemnebgekaaW.PrintMore
attribute [local go_sem] u32_sg u32_mx u64_sg u64_mx
attribute [local go_sem] max2_int min2_int max_two min_two max_three min_three max_four min_four   -- for this text's walks alone
set_option linter.unusedVariables false
set_option linter.unusedSimpArgs false

/-! ### stringslite_HasPrefix: function 56 -/
def stringslite_HasPrefix.f (a0 : ByteArray) (a1 : ByteArray) : Option (Bool) := if (a0.size : Int) ≥ (a1.size : Int) then (if 0 ≤ (a1.size : Int) then (if (a1.size : Int) ≤ (a0.size : Int) then (some ((a0.extract 0 ((a1.size : Int) : Int).toNat).toList == a1.toList)) else (none)) else (none)) else (some false)
set_option maxHeartbeats 8000000 in
set_option maxRecDepth 100000 in
theorem stringslite_HasPrefix.calls (a0 : ByteArray) (a1 : ByteArray) (r : Bool) (w : World) (h : stringslite_HasPrefix.f a0 a1 = some r) :
    Calls Try.prog 56 #[.string a0, .string a1] w fun e w' => e = .returned (.bool r) ∧ Drawn0 w w' := by
  have H : (if (a0.size : Int) ≥ (a1.size : Int) then (if 0 ≤ (a1.size : Int) then (if (a1.size : Int) ≤ (a0.size : Int) then (some ((a0.extract 0 ((a1.size : Int) : Int).toNat).toList == a1.toList)) else (none)) else (none)) else (some false)) = some r := h
  clear h
  by_cases c3 : (a0.size : Int) ≥ (a1.size : Int)
  · rw [if_pos c3] at H
    have c3b0 : decide ((a1.size : Int) ≤ (a0.size : Int)) = true := decide_eq_true c3
    have c3b1 : decide (a1.size ≤ a0.size) = true := decide_eq_true (Int.ofNat_le.mp c3)
    clear c3
    by_cases c4 : 0 ≤ (a1.size : Int)
    · rw [if_pos c4] at H
      have c4b0 := eq_true c4
      have c4b1 : decide (0 ≤ (a1.size : Int)) = true := decide_eq_true c4
      clear c4
      by_cases c5 : (a1.size : Int) ≤ (a0.size : Int)
      · rw [if_pos c5] at H
        have c5b0 := eq_true c5
        have c5b1 : decide ((a1.size : Int) ≤ (a0.size : Int)) = true := decide_eq_true c5
        clear c5
        obtain rfl := Option.some.inj H
        go_enter Try.func56, Try.ntmps56
        go_wp2
        go_ret
        exact ⟨by first | rfl | (simp; done) | (simp [*]; done), by repeat (first | exact Drawn0.refl _ | apply Drawn0.step)⟩
      · rw [if_neg c5] at H
        exact absurd H (by simp)
    · rw [if_neg c4] at H
      exact absurd H (by simp)
  · rw [if_neg c3] at H
    have c3b0 : decide ((a1.size : Int) ≤ (a0.size : Int)) = false := decide_eq_false c3
    have c3b1 : decide (a1.size ≤ a0.size) = false := decide_eq_false (fun h => c3 (Int.ofNat_le.mpr h))
    clear c3
    obtain rfl := Option.some.inj H
    go_enter Try.func56, Try.ntmps56
    go_wp2
    go_ret
    exact ⟨by first | rfl | (simp; done) | (simp [*]; done), by repeat (first | exact Drawn0.refl _ | apply Drawn0.step)⟩

/-! ### stringslite_CutPrefix: function 43 -/
def stringslite_CutPrefix.f (a0 : ByteArray) (a1 : ByteArray) : Option (ByteArray × Bool) := (stringslite_HasPrefix.f a0 a1).bind fun t109 => (if t109 = true then (if 0 ≤ (a1.size : Int) then (if (a1.size : Int) ≤ (a0.size : Int) then (some (a0.extract ((a1.size : Int) : Int).toNat a0.size, true)) else (none)) else (none)) else (some (a0, false)))
set_option maxHeartbeats 8000000 in
set_option maxRecDepth 100000 in
theorem stringslite_CutPrefix.calls (a0 : ByteArray) (a1 : ByteArray) (r1 : ByteArray) (r2 : Bool) (w : World) (h : stringslite_CutPrefix.f a0 a1 = some (r1, r2)) :
    Calls Try.prog 43 #[.string a0, .string a1] w fun e w' => e = .returned (.tuple #[.string r1, .bool r2]) ∧ Drawn0 w w' := by
  have H : ((stringslite_HasPrefix.f a0 a1).bind fun t109 => (if t109 = true then (if 0 ≤ (a1.size : Int) then (if (a1.size : Int) ≤ (a0.size : Int) then (some (a0.extract ((a1.size : Int) : Int).toNat a0.size, true)) else (none)) else (none)) else (some (a0, false)))) = some (r1, r2) := h
  clear h
  replace H := Option.bind_eq_some_iff.mp H
  obtain ⟨t109, A30, H⟩ := H
  replace H : (if t109 = true then (if 0 ≤ (a1.size : Int) then (if (a1.size : Int) ≤ (a0.size : Int) then (some (a0.extract ((a1.size : Int) : Int).toNat a0.size, true)) else (none)) else (none)) else (some (a0, false))) = some (r1, r2) := H
  have A3 := Aside0.mk A30
  clear A30
  by_cases c4 : t109 = true
  · subst c4
    have H1 : (if 0 ≤ (a1.size : Int) then (if (a1.size : Int) ≤ (a0.size : Int) then (some (a0.extract ((a1.size : Int) : Int).toNat a0.size, true)) else (none)) else (none)) = some (r1, r2) := by rw [if_pos rfl] at H; exact H
    clear H
    have H := H1
    clear H1
    by_cases c5 : 0 ≤ (a1.size : Int)
    · rw [if_pos c5] at H
      have c5b0 := eq_true c5
      have c5b1 : decide (0 ≤ (a1.size : Int)) = true := decide_eq_true c5
      clear c5
      by_cases c6 : (a1.size : Int) ≤ (a0.size : Int)
      · rw [if_pos c6] at H
        have c6b0 := eq_true c6
        have c6b1 : decide ((a1.size : Int) ≤ (a0.size : Int)) = true := decide_eq_true c6
        clear c6
        simp only [Option.some.injEq, Prod.mk.injEq] at H
        obtain ⟨rfl, rfl⟩ := H
        go_enter Try.func43, Try.ntmps43
        go_wp2_with (first | ((with_reducible refine gate_callee (f := 56) rfl ?_); refine goesL_ (some 8) rfl rfl Try.func56 (by kernel_rfl) rfl #[.string a0, .string a1] rfl (by (try simp only [List.map_toArray, List.map_cons, List.map_nil]); first | done | rfl | (simp only [List.length_drop, List.length_take]; rfl)) ?_; (with_reducible refine (stringslite_HasPrefix.calls a0 a1 true _ A3.out).mono ?_); rintro e w' ⟨rfl, ⟨nd, rfl⟩⟩; refine ⟨_, rfl, ?_⟩))
        go_ret2
        exact ⟨by first | rfl | (simp; done) | (simp [*]; done), by repeat (first | exact Drawn0.refl _ | apply Drawn0.step)⟩
      · rw [if_neg c6] at H
        exact absurd H (by simp)
    · rw [if_neg c5] at H
      exact absurd H (by simp)
  · replace c4 := Bool.eq_false_iff.mpr c4
    subst c4
    have H1 : (some (a0, false)) = some (r1, r2) := by rw [if_neg (show ¬ (false = true) by decide)] at H; exact H
    clear H
    have H := H1
    clear H1
    simp only [Option.some.injEq, Prod.mk.injEq] at H
    obtain ⟨rfl, rfl⟩ := H
    go_enter Try.func43, Try.ntmps43
    go_wp2_with (first | ((with_reducible refine gate_callee (f := 56) rfl ?_); refine goesL_ (some 8) rfl rfl Try.func56 (by kernel_rfl) rfl #[.string a0, .string a1] rfl (by (try simp only [List.map_toArray, List.map_cons, List.map_nil]); first | done | rfl | (simp only [List.length_drop, List.length_take]; rfl)) ?_; (with_reducible refine (stringslite_HasPrefix.calls a0 a1 false _ A3.out).mono ?_); rintro e w' ⟨rfl, ⟨nd, rfl⟩⟩; refine ⟨_, rfl, ?_⟩))
    go_ret2
    exact ⟨by first | rfl | (simp; done) | (simp [*]; done), by repeat (first | exact Drawn0.refl _ | apply Drawn0.step)⟩

/-! ### strings_CutPrefix: function 32 -/
def strings_CutPrefix.f (a0 : ByteArray) (a1 : ByteArray) : Option (ByteArray × Bool) := (stringslite_CutPrefix.f a0 a1).bind fun bt110 => (some (bt110.1, bt110.2))
set_option maxHeartbeats 8000000 in
set_option maxRecDepth 100000 in
theorem strings_CutPrefix.calls (a0 : ByteArray) (a1 : ByteArray) (r1 : ByteArray) (r2 : Bool) (w : World) (h : strings_CutPrefix.f a0 a1 = some (r1, r2)) :
    Calls Try.prog 32 #[.string a0, .string a1] w fun e w' => e = .returned (.tuple #[.string r1, .bool r2]) ∧ Drawn0 w w' := by
  have H : ((stringslite_CutPrefix.f a0 a1).bind fun bt110 => (some (bt110.1, bt110.2))) = some (r1, r2) := h
  clear h
  replace H := Option.bind_eq_some_iff.mp H
  obtain ⟨⟨t110, t111⟩, A30, H⟩ := H
  replace H : (some (t110, t111)) = some (r1, r2) := H
  have A3 := Aside0.mk A30
  clear A30
  simp only [Option.some.injEq, Prod.mk.injEq] at H
  obtain ⟨rfl, rfl⟩ := H
  go_enter Try.func32, Try.ntmps32
  go_wp2_with (first | ((with_reducible refine gate_callee (f := 43) rfl ?_); refine goesL_ (some 8) rfl rfl Try.func43 (by kernel_rfl) rfl #[.string a0, .string a1] rfl (by (try simp only [List.map_toArray, List.map_cons, List.map_nil]); first | done | rfl | (simp only [List.length_drop, List.length_take]; rfl)) ?_; (with_reducible refine (stringslite_CutPrefix.calls a0 a1 t110 t111 _ A3.out).mono ?_); rintro e w' ⟨rfl, ⟨nd, rfl⟩⟩; refine ⟨_, rfl, ?_⟩))
  go_ret2
  exact ⟨by first | rfl | (simp; done) | (simp [*]; done), by repeat (first | exact Drawn0.refl _ | apply Drawn0.step)⟩

/-! ### seal_Named: function 20 -/
def seal_Named.f (a0 : ByteArray) : Option (Bool) := (strings_CutPrefix.f a0 (⟨#[36]⟩ : ByteArray)).bind fun bt112 => ((Ext.seal_Bytes.f bt112.1).bind fun bt114 => (if bt112.2 = true then (if bt114.2 = true then (some ((bt114.1.length : Int) == 32)) else (some false)) else (some false)))
set_option maxHeartbeats 8000000 in
set_option maxRecDepth 100000 in
theorem seal_Named.calls (a0 : ByteArray) (r : Bool) (w : World) (h : seal_Named.f a0 = some r) :
    Calls Try.prog 20 #[.string a0] w fun e w' => e = .returned (.bool r) ∧ Below w.heap.size w w' := by
  have HB := Aside0.mk (Below.refl w.heap.size w)
  have H : ((strings_CutPrefix.f a0 (⟨#[36]⟩ : ByteArray)).bind fun bt112 => ((Ext.seal_Bytes.f bt112.1).bind fun bt114 => (if bt112.2 = true then (if bt114.2 = true then (some ((bt114.1.length : Int) == 32)) else (some false)) else (some false)))) = some r := h
  clear h
  replace H := Option.bind_eq_some_iff.mp H
  obtain ⟨⟨t112, t113⟩, A20, H⟩ := H
  replace H : ((Ext.seal_Bytes.f t112).bind fun bt114 => (if t113 = true then (if bt114.2 = true then (some ((bt114.1.length : Int) == 32)) else (some false)) else (some false))) = some r := H
  have A2 := Aside0.mk A20
  clear A20
  replace H := Option.bind_eq_some_iff.mp H
  obtain ⟨⟨t114, t115⟩, A30, H⟩ := H
  replace H : (if t113 = true then (if t115 = true then (some ((t114.length : Int) == 32)) else (some false)) else (some false)) = some r := H
  have A3 := Aside0.mk A30
  clear A30
  by_cases c4 : t113 = true
  · subst c4
    have H1 : (if t115 = true then (some ((t114.length : Int) == 32)) else (some false)) = some r := by rw [if_pos rfl] at H; exact H
    clear H
    have H := H1
    clear H1
    by_cases c5 : t115 = true
    · subst c5
      have H1 : (some ((t114.length : Int) == 32)) = some r := by rw [if_pos rfl] at H; exact H
      clear H
      have H := H1
      clear H1
      obtain rfl := Option.some.inj H
      go_enter Try.func20, Try.ntmps20
      go_wp2_with (first | ((with_reducible refine gate_callee (f := 32) rfl ?_); refine goesL_ (some 9) rfl rfl Try.func32 (by kernel_rfl) rfl #[.string a0, .string (⟨#[36]⟩ : ByteArray)] rfl (by (try simp only [List.map_toArray, List.map_cons, List.map_nil]); first | done | rfl | (simp only [List.length_drop, List.length_take]; rfl)) ?_; (with_reducible refine (strings_CutPrefix.calls a0 (⟨#[36]⟩ : ByteArray) t112 true _ A2.out).mono ?_); rintro e w' ⟨rfl, ⟨nd, rfl⟩⟩; refine ⟨_, rfl, ?_⟩) | ((with_reducible refine gate_callee (f := 22) rfl ?_); refine goesL_ (some 14) rfl rfl Try.func22 (by kernel_rfl) rfl #[.string t112] rfl (by (try simp only [List.map_toArray, List.map_cons, List.map_nil]); first | done | rfl | (simp only [List.length_drop, List.length_take]; rfl)) ?_; (with_reducible refine (Ext.seal_Bytes.calls t112 t114 true _ A3.out).mono ?_); rintro e w6 ⟨v116, rfl, ho0, hb⟩; refine ⟨_, rfl, ?_⟩; have n0_ := Aside0.mk (Kd.R_lower ho0 (below_size (by repeat (first | (with_reducible first | exact HB.out | apply below_alloc | apply pw_below_drewN | apply below_drew1) | exact HB.out)))); have n1_ := Aside0.mk (below_step (by repeat (first | (with_reducible first | exact HB.out | apply below_alloc | apply pw_below_drewN | apply below_drew1) | exact HB.out)) hb); clear HB; have HO117 := n0_; have HB := n1_; clear n0_ n1_; (try clear hb); (try clear hb2); (try clear hk); (try clear hi); (try clear ho0); obtain ⟨Ao7, co7, eo7⟩ := Kd.R_slice HO117.out; subst eo7))
      go_ret
      exact ⟨by first | rfl | (simp [errW_none, errW_some] <;> rfl) | (simp [*, errW_none, errW_some] <;> rfl), by repeat (first | (with_reducible first | exact HB.out | apply below_alloc | apply pw_below_drewN | apply below_drew1) | exact HB.out)⟩
    · replace c5 := Bool.eq_false_iff.mpr c5
      subst c5
      have H1 : (some false) = some r := by rw [if_neg (show ¬ (false = true) by decide)] at H; exact H
      clear H
      have H := H1
      clear H1
      obtain rfl := Option.some.inj H
      go_enter Try.func20, Try.ntmps20
      go_wp2_with (first | ((with_reducible refine gate_callee (f := 32) rfl ?_); refine goesL_ (some 9) rfl rfl Try.func32 (by kernel_rfl) rfl #[.string a0, .string (⟨#[36]⟩ : ByteArray)] rfl (by (try simp only [List.map_toArray, List.map_cons, List.map_nil]); first | done | rfl | (simp only [List.length_drop, List.length_take]; rfl)) ?_; (with_reducible refine (strings_CutPrefix.calls a0 (⟨#[36]⟩ : ByteArray) t112 true _ A2.out).mono ?_); rintro e w' ⟨rfl, ⟨nd, rfl⟩⟩; refine ⟨_, rfl, ?_⟩) | ((with_reducible refine gate_callee (f := 22) rfl ?_); refine goesL_ (some 14) rfl rfl Try.func22 (by kernel_rfl) rfl #[.string t112] rfl (by (try simp only [List.map_toArray, List.map_cons, List.map_nil]); first | done | rfl | (simp only [List.length_drop, List.length_take]; rfl)) ?_; (with_reducible refine (Ext.seal_Bytes.calls t112 t114 false _ A3.out).mono ?_); rintro e w8 ⟨v116, rfl, ho0, hb⟩; refine ⟨_, rfl, ?_⟩; have n0_ := Aside0.mk (Kd.R_lower ho0 (below_size (by repeat (first | (with_reducible first | exact HB.out | apply below_alloc | apply pw_below_drewN | apply below_drew1) | exact HB.out)))); have n1_ := Aside0.mk (below_step (by repeat (first | (with_reducible first | exact HB.out | apply below_alloc | apply pw_below_drewN | apply below_drew1) | exact HB.out)) hb); clear HB; have HO117 := n0_; have HB := n1_; clear n0_ n1_; (try clear hb); (try clear hb2); (try clear hk); (try clear hi); (try clear ho0)))
      go_ret
      exact ⟨by first | rfl | (simp [errW_none, errW_some] <;> rfl) | (simp [*, errW_none, errW_some] <;> rfl), by repeat (first | (with_reducible first | exact HB.out | apply below_alloc | apply pw_below_drewN | apply below_drew1) | exact HB.out)⟩
  · replace c4 := Bool.eq_false_iff.mpr c4
    subst c4
    have H1 : (some false) = some r := by rw [if_neg (show ¬ (false = true) by decide)] at H; exact H
    clear H
    have H := H1
    clear H1
    obtain rfl := Option.some.inj H
    go_enter Try.func20, Try.ntmps20
    go_wp2_with (first | ((with_reducible refine gate_callee (f := 32) rfl ?_); refine goesL_ (some 9) rfl rfl Try.func32 (by kernel_rfl) rfl #[.string a0, .string (⟨#[36]⟩ : ByteArray)] rfl (by (try simp only [List.map_toArray, List.map_cons, List.map_nil]); first | done | rfl | (simp only [List.length_drop, List.length_take]; rfl)) ?_; (with_reducible refine (strings_CutPrefix.calls a0 (⟨#[36]⟩ : ByteArray) t112 false _ A2.out).mono ?_); rintro e w' ⟨rfl, ⟨nd, rfl⟩⟩; refine ⟨_, rfl, ?_⟩) | ((with_reducible refine gate_callee (f := 22) rfl ?_); refine goesL_ (some 14) rfl rfl Try.func22 (by kernel_rfl) rfl #[.string t112] rfl (by (try simp only [List.map_toArray, List.map_cons, List.map_nil]); first | done | rfl | (simp only [List.length_drop, List.length_take]; rfl)) ?_; (with_reducible refine (Ext.seal_Bytes.calls t112 t114 t115 _ A3.out).mono ?_); rintro e w9 ⟨v116, rfl, ho0, hb⟩; refine ⟨_, rfl, ?_⟩; have n0_ := Aside0.mk (Kd.R_lower ho0 (below_size (by repeat (first | (with_reducible first | exact HB.out | apply below_alloc | apply pw_below_drewN | apply below_drew1) | exact HB.out)))); have n1_ := Aside0.mk (below_step (by repeat (first | (with_reducible first | exact HB.out | apply below_alloc | apply pw_below_drewN | apply below_drew1) | exact HB.out)) hb); clear HB; have HO117 := n0_; have HB := n1_; clear n0_ n1_; (try clear hb); (try clear hb2); (try clear hk); (try clear hi); (try clear ho0)))
    go_ret
    exact ⟨by first | rfl | (simp [errW_none, errW_some] <;> rfl) | (simp [*, errW_none, errW_some] <;> rfl), by repeat (first | (with_reducible first | exact HB.out | apply below_alloc | apply pw_below_drewN | apply below_drew1) | exact HB.out)⟩

end Go.Proofs.Ytnhljemnebgekaa.Ps

/-
  What the functions of these laws compute, as plain Lean functions, and that the machine's calls compute it: written by this session's own hook over the kit's print.
-/
namespace Go.Proofs.Ytnhljemnebgekaa.Ps
open Go.RowKit Go.Proofs.YtnhljemnebgekaaW.PrintWords Go.Proofs.YtnhljemnebgekaaW.PrintLast Go.Proofs.YtnhljemnebgekaaW.PrintMore
attribute [local go_sem] u32_sg u32_mx u64_sg u64_mx
attribute [local go_sem] max2_int min2_int max_two min_two max_three min_three max_four min_four   -- for this text's walks alone
set_option linter.unusedVariables false
set_option linter.unusedSimpArgs false

/-! ### heliastlaw05_known: function 10 -/
def heliastlaw05_known.f (k : Nat)  : Option (Bool) := (Ext.seal_Bytes.f (⟨#[65, 66]⟩ : ByteArray)).bind fun bt118 => ((Ext.seal_Text.f (([0, 16, 131] : List Int))).bind fun t125 => (if t125.toList = ([65, 66, 67, 68] : List UInt8) then (if bt118.2 = true then (some false) else ((seal_Equal.f k ([] : List Int) ([] : List Int)).bind fun t126 => (if t126 = true then ((seal_Code.f ([] : List Int) ([] : List Int)).bind fun t127 => (if (t127.length : Int) = 32 then ((Ext.seal_ID.f (⟨#[]⟩ : ByteArray)).bind fun t130 => ((seal_Named.f t130).bind fun t131 => (if t131 = true then ((seal_Named.f (⟨#[36]⟩ : ByteArray)).bind fun t132 => (some (!t132))) else (some false)))) else (some false))) else (some false)))) else (some false)))
theorem heliastlaw05_known.mono : ∀ k, LeO (heliastlaw05_known.f k ) (heliastlaw05_known.f (k + 1) ) := by
  intro  k
  unfold heliastlaw05_known.f
  repeat' first
      | (with_reducible exact seal_Equal.mono _ _ _)
      | (with_reducible exact LeO.refl _)
      | (with_reducible exact LeO.none _)
      | (with_reducible refine LeO.ite ?_ ?_)
      | (with_reducible refine LeO.bind ?_ (fun _ => ?_))
      | exact seal_Equal.mono _ _ _
      | exact LeO.none _
      | refine LeO.ite ?_ ?_
      | refine LeO.bind ?_ (fun _ => ?_)
set_option maxHeartbeats 8000000 in
set_option maxRecDepth 100000 in
theorem heliastlaw05_known.calls (k : Nat)  (r : Bool) (w : World) (h : heliastlaw05_known.f k  = some r) :
    Calls Try.prog 10 #[] w fun e w' => e = .returned (.bool r) ∧ Below w.heap.size w w' := by
  have HB := Aside0.mk (Below.refl w.heap.size w)
  have H : ((Ext.seal_Bytes.f (⟨#[65, 66]⟩ : ByteArray)).bind fun bt118 => ((Ext.seal_Text.f (([0, 16, 131] : List Int))).bind fun t125 => (if t125.toList = ([65, 66, 67, 68] : List UInt8) then (if bt118.2 = true then (some false) else ((seal_Equal.f k ([] : List Int) ([] : List Int)).bind fun t126 => (if t126 = true then ((seal_Code.f ([] : List Int) ([] : List Int)).bind fun t127 => (if (t127.length : Int) = 32 then ((Ext.seal_ID.f (⟨#[]⟩ : ByteArray)).bind fun t130 => ((seal_Named.f t130).bind fun t131 => (if t131 = true then ((seal_Named.f (⟨#[36]⟩ : ByteArray)).bind fun t132 => (some (!t132))) else (some false)))) else (some false))) else (some false)))) else (some false)))) = some r := h
  clear h
  replace H := Option.bind_eq_some_iff.mp H
  obtain ⟨⟨t118, t119⟩, A10, H⟩ := H
  replace H : ((Ext.seal_Text.f (([0, 16, 131] : List Int))).bind fun t125 => (if t125.toList = ([65, 66, 67, 68] : List UInt8) then (if t119 = true then (some false) else ((seal_Equal.f k ([] : List Int) ([] : List Int)).bind fun t126 => (if t126 = true then ((seal_Code.f ([] : List Int) ([] : List Int)).bind fun t127 => (if (t127.length : Int) = 32 then ((Ext.seal_ID.f (⟨#[]⟩ : ByteArray)).bind fun t130 => ((seal_Named.f t130).bind fun t131 => (if t131 = true then ((seal_Named.f (⟨#[36]⟩ : ByteArray)).bind fun t132 => (some (!t132))) else (some false)))) else (some false))) else (some false)))) else (some false))) = some r := H
  have A1 := Aside0.mk A10
  clear A10
  obtain ⟨y122, hy122⟩ : ∃ y_ : List Int, y_ = (([0, 16, 131] : List Int)) := ⟨_, rfl⟩
  replace H : ((Ext.seal_Text.f y122).bind fun t125 => (if t125.toList = ([65, 66, 67, 68] : List UInt8) then (if t119 = true then (some false) else ((seal_Equal.f k ([] : List Int) ([] : List Int)).bind fun t126 => (if t126 = true then ((seal_Code.f ([] : List Int) ([] : List Int)).bind fun t127 => (if (t127.length : Int) = 32 then ((Ext.seal_ID.f (⟨#[]⟩ : ByteArray)).bind fun t130 => ((seal_Named.f t130).bind fun t131 => (if t131 = true then ((seal_Named.f (⟨#[36]⟩ : ByteArray)).bind fun t132 => (some (!t132))) else (some false)))) else (some false))) else (some false)))) else (some false))) = some r := by first | (rw [hy122]; with_reducible exact H) | (have H2_ := (Option.bind_some _ _).symm.trans H; rw [hy122]; with_reducible exact H2_) | (have H2_ := (Option.bind_some _ _).symm.trans H; with_reducible exact H2_) | with_reducible exact H | (rw [hy122]; exact H) | exact H
  have Ny122 := Aside0.mk hy122
  clear hy122
  replace H := Option.bind_eq_some_iff.mp H
  obtain ⟨t125, A20, H⟩ := H
  replace H : (if t125.toList = ([65, 66, 67, 68] : List UInt8) then (if t119 = true then (some false) else ((seal_Equal.f k ([] : List Int) ([] : List Int)).bind fun t126 => (if t126 = true then ((seal_Code.f ([] : List Int) ([] : List Int)).bind fun t127 => (if (t127.length : Int) = 32 then ((Ext.seal_ID.f (⟨#[]⟩ : ByteArray)).bind fun t130 => ((seal_Named.f t130).bind fun t131 => (if t131 = true then ((seal_Named.f (⟨#[36]⟩ : ByteArray)).bind fun t132 => (some (!t132))) else (some false)))) else (some false))) else (some false)))) else (some false)) = some r := H
  have A2 := Aside0.mk A20
  clear A20
  by_cases c3 : t125.toList = ([65, 66, 67, 68] : List UInt8)
  · rw [if_pos c3] at H
    have c3b0 : (t125.toList == ([65, 66, 67, 68] : List UInt8)) = true := beq_iff_eq.mpr c3
    have c3b1 : (t125.toList != ([65, 66, 67, 68] : List UInt8)) = false := bne_eq_false_iff_eq.mpr c3
    clear c3
    by_cases c4 : t119 = true
    · subst c4
      have H1 : (some false) = some r := by rw [if_pos rfl] at H; exact H
      clear H
      have H := H1
      clear H1
      obtain rfl := Option.some.inj H
      go_enter Try.func10, Try.ntmps10
      go_wp2_with (first | ((with_reducible refine gate_callee (f := 22) rfl ?_); refine goesL_ (some 4) rfl rfl Try.func22 (by kernel_rfl) rfl #[.string (⟨#[65, 66]⟩ : ByteArray)] rfl (by (try simp only [List.map_toArray, List.map_cons, List.map_nil]); first | done | rfl | (simp only [List.length_drop, List.length_take]; rfl)) ?_; (with_reducible refine (Ext.seal_Bytes.calls (⟨#[65, 66]⟩ : ByteArray) t118 true _ A1.out).mono ?_); rintro e w5 ⟨v120, rfl, ho0, hb⟩; refine ⟨_, rfl, ?_⟩; have n0_ := Aside0.mk (Kd.R_lower ho0 (below_size (by repeat (first | (with_reducible first | exact HB.out | apply below_alloc | apply pw_below_drewN | apply below_drew1) | exact HB.out)))); have n1_ := Aside0.mk (below_step (by repeat (first | (with_reducible first | exact HB.out | apply below_alloc | apply pw_below_drewN | apply below_drew1) | exact HB.out)) hb); clear HB; have HO121 := n0_; have HB := n1_; clear n0_ n1_; (try clear hb); (try clear hb2); (try clear hk); (try clear hi); (try clear ho0)) | ((with_reducible refine gate_dst (N := 7) rfl ?_); (try (refine gate_guard (by rfl) ?_; dsimp only)); refine Kd.R_lit (Kd.int .u8) _ 5 ?hg (N := 7) ?hd (xs := ([0, 16, 131] : List Int)) (inner := [.int .u8 0, .int .u8 16, .int .u8 131]) (ok := fun _ => True) (okp := fun _ => True) ?hr ?hp (fun _ hk => hk) trivial (Below.refl _ _) (Nat.le_refl _) (by simp) ?_; (case hd => rfl); (case hg => rfl); (case hr => first | (go_simp; done) | (go_simp; rfl)); (case hp => exact (Reps.one (show Kd.M (Kd.int .u8) _ _ _ 0 [.int .u8 0] from rfl) (Reps.one (show Kd.M (Kd.int .u8) _ _ _ 16 [.int .u8 16] from rfl) (Reps.one (show Kd.M (Kd.int .u8) _ _ _ 131 [.int .u8 131] from rfl) (Reps.none _ _))))); intro v123 w6 ho7 hb hg_ hnew_; clear hg_ hnew_; (first | rw [← Ny122.out] at ho7 | (simp only [Int.reduceToNat] at ho7; rw [← Ny122.out] at ho7)); have n0_ := Aside0.mk (Kd.R_elder' (by (with_reducible repeat (first | apply Kd.R_alloc | apply Kd.R_drewN | apply Kd.R_drew)); exact HO121.out) (Kd.R_base ho7) hb); have n1_ := Aside0.mk (Kd.R_lower (Kd.R_new' ho7 (Kd.R_lt (by (with_reducible repeat (first | apply Kd.R_alloc | apply Kd.R_drewN | apply Kd.R_drew)); exact HO121.out))) (below_size (by repeat (first | (with_reducible first | exact HB.out | apply below_alloc | apply pw_below_drewN | apply below_drew1) | exact HB.out)))); have n2_ := Aside0.mk (below_step (by repeat (first | (with_reducible first | exact HB.out | apply below_alloc | apply pw_below_drewN | apply below_drew1) | exact HB.out)) hb); clear HO121; clear HB; have HO121 := n0_; have HO124 := n1_; have HB := n2_; clear n0_ n1_ n2_; clear hb ho7; obtain ⟨Ao8, co8, eo8⟩ := Kd.R_slice HO124.out; subst eo8) | ((with_reducible refine gate_callee (f := 16) rfl ?_); refine goesL_ (some 8) rfl rfl Try.func16 (by kernel_rfl) rfl #[.slice Ao8 y122.length co8] rfl (by (try simp only [List.map_toArray, List.map_cons, List.map_nil]); first | done | rfl | (simp only [List.length_drop, List.length_take]; rfl)) ?_; (with_reducible refine (Ext.seal_Text.calls _ _ y122 t125 _ ?side1 ?side2 A2.out).mono ?_); (case side1 => repeat (first | exact (Kd.R_reads' HO124.out).2.2 | (with_reducible refine Kd.C_alloc ?_ _) | (with_reducible refine Kd.C_drewN ?_ _) | (with_reducible refine Kd.C_drew ?_))); (case side2 => exact (Kd.R_reads' HO124.out).2.1); rintro e w9 ⟨rfl, hb⟩; refine ⟨_, rfl, ?_⟩; have n0_ := Aside0.mk (Kd.R_below (by (with_reducible repeat (first | apply Kd.R_alloc | apply Kd.R_drewN | apply Kd.R_drew)); exact HO121.out) hb); have n1_ := Aside0.mk (Kd.R_below (by (with_reducible repeat (first | apply Kd.R_alloc | apply Kd.R_drewN | apply Kd.R_drew)); exact HO124.out) hb); have n2_ := Aside0.mk (below_step (by repeat (first | (with_reducible first | exact HB.out | apply below_alloc | apply pw_below_drewN | apply below_drew1) | exact HB.out)) hb); clear HO121; clear HO124; clear HB; have HO121 := n0_; have HO124 := n1_; have HB := n2_; clear n0_ n1_ n2_; (try clear hb); (try clear hb2); (try clear hk); (try clear hi)))
      go_ret
      exact ⟨by first | rfl | (simp [errW_none, errW_some] <;> rfl) | (simp [*, errW_none, errW_some] <;> rfl), by repeat (first | (with_reducible first | exact HB.out | apply below_alloc | apply pw_below_drewN | apply below_drew1) | exact HB.out)⟩
    · replace c4 := Bool.eq_false_iff.mpr c4
      subst c4
      have H1 : ((seal_Equal.f k ([] : List Int) ([] : List Int)).bind fun t126 => (if t126 = true then ((seal_Code.f ([] : List Int) ([] : List Int)).bind fun t127 => (if (t127.length : Int) = 32 then ((Ext.seal_ID.f (⟨#[]⟩ : ByteArray)).bind fun t130 => ((seal_Named.f t130).bind fun t131 => (if t131 = true then ((seal_Named.f (⟨#[36]⟩ : ByteArray)).bind fun t132 => (some (!t132))) else (some false)))) else (some false))) else (some false))) = some r := by rw [if_neg (show ¬ (false = true) by decide)] at H; exact H
      clear H
      have H := H1
      clear H1
      replace H := Option.bind_eq_some_iff.mp H
      obtain ⟨t126, A100, H⟩ := H
      replace H : (if t126 = true then ((seal_Code.f ([] : List Int) ([] : List Int)).bind fun t127 => (if (t127.length : Int) = 32 then ((Ext.seal_ID.f (⟨#[]⟩ : ByteArray)).bind fun t130 => ((seal_Named.f t130).bind fun t131 => (if t131 = true then ((seal_Named.f (⟨#[36]⟩ : ByteArray)).bind fun t132 => (some (!t132))) else (some false)))) else (some false))) else (some false)) = some r := H
      have A10 := Aside0.mk A100
      clear A100
      by_cases c11 : t126 = true
      · subst c11
        have H1 : ((seal_Code.f ([] : List Int) ([] : List Int)).bind fun t127 => (if (t127.length : Int) = 32 then ((Ext.seal_ID.f (⟨#[]⟩ : ByteArray)).bind fun t130 => ((seal_Named.f t130).bind fun t131 => (if t131 = true then ((seal_Named.f (⟨#[36]⟩ : ByteArray)).bind fun t132 => (some (!t132))) else (some false)))) else (some false))) = some r := by rw [if_pos rfl] at H; exact H
        clear H
        have H := H1
        clear H1
        replace H := Option.bind_eq_some_iff.mp H
        obtain ⟨t127, A120, H⟩ := H
        replace H : (if (t127.length : Int) = 32 then ((Ext.seal_ID.f (⟨#[]⟩ : ByteArray)).bind fun t130 => ((seal_Named.f t130).bind fun t131 => (if t131 = true then ((seal_Named.f (⟨#[36]⟩ : ByteArray)).bind fun t132 => (some (!t132))) else (some false)))) else (some false)) = some r := H
        have A12 := Aside0.mk A120
        clear A120
        by_cases c13 : (t127.length : Int) = 32
        · rw [if_pos c13] at H
          have c13b0 : ((t127.length : Int) == 32) = true := beq_iff_eq.mpr c13
          have c13b1 : ((t127.length : Int) != 32) = false := bne_eq_false_iff_eq.mpr c13
          clear c13
          replace H := Option.bind_eq_some_iff.mp H
          obtain ⟨t130, A140, H⟩ := H
          replace H : ((seal_Named.f t130).bind fun t131 => (if t131 = true then ((seal_Named.f (⟨#[36]⟩ : ByteArray)).bind fun t132 => (some (!t132))) else (some false))) = some r := H
          have A14 := Aside0.mk A140
          clear A140
          replace H := Option.bind_eq_some_iff.mp H
          obtain ⟨t131, A150, H⟩ := H
          replace H : (if t131 = true then ((seal_Named.f (⟨#[36]⟩ : ByteArray)).bind fun t132 => (some (!t132))) else (some false)) = some r := H
          have A15 := Aside0.mk A150
          clear A150
          by_cases c16 : t131 = true
          · subst c16
            have H1 : ((seal_Named.f (⟨#[36]⟩ : ByteArray)).bind fun t132 => (some (!t132))) = some r := by rw [if_pos rfl] at H; exact H
            clear H
            have H := H1
            clear H1
            replace H := Option.bind_eq_some_iff.mp H
            obtain ⟨t132, A170, H⟩ := H
            replace H : (some (!t132)) = some r := H
            have A17 := Aside0.mk A170
            clear A170
            obtain rfl := Option.some.inj H
            go_enter Try.func10, Try.ntmps10
            go_wp2_with (first | ((with_reducible refine gate_callee (f := 22) rfl ?_); refine goesL_ (some 4) rfl rfl Try.func22 (by kernel_rfl) rfl #[.string (⟨#[65, 66]⟩ : ByteArray)] rfl (by (try simp only [List.map_toArray, List.map_cons, List.map_nil]); first | done | rfl | (simp only [List.length_drop, List.length_take]; rfl)) ?_; (with_reducible refine (Ext.seal_Bytes.calls (⟨#[65, 66]⟩ : ByteArray) t118 false _ A1.out).mono ?_); rintro e w18 ⟨v120, rfl, ho0, hb⟩; refine ⟨_, rfl, ?_⟩; have n0_ := Aside0.mk (Kd.R_lower ho0 (below_size (by repeat (first | (with_reducible first | exact HB.out | apply below_alloc | apply pw_below_drewN | apply below_drew1) | exact HB.out)))); have n1_ := Aside0.mk (below_step (by repeat (first | (with_reducible first | exact HB.out | apply below_alloc | apply pw_below_drewN | apply below_drew1) | exact HB.out)) hb); clear HB; have HO121 := n0_; have HB := n1_; clear n0_ n1_; (try clear hb); (try clear hb2); (try clear hk); (try clear hi); (try clear ho0)) | ((with_reducible refine gate_dst (N := 7) rfl ?_); (try (refine gate_guard (by rfl) ?_; dsimp only)); refine Kd.R_lit (Kd.int .u8) _ 5 ?hg (N := 7) ?hd (xs := ([0, 16, 131] : List Int)) (inner := [.int .u8 0, .int .u8 16, .int .u8 131]) (ok := fun _ => True) (okp := fun _ => True) ?hr ?hp (fun _ hk => hk) trivial (Below.refl _ _) (Nat.le_refl _) (by simp) ?_; (case hd => rfl); (case hg => rfl); (case hr => first | (go_simp; done) | (go_simp; rfl)); (case hp => exact (Reps.one (show Kd.M (Kd.int .u8) _ _ _ 0 [.int .u8 0] from rfl) (Reps.one (show Kd.M (Kd.int .u8) _ _ _ 16 [.int .u8 16] from rfl) (Reps.one (show Kd.M (Kd.int .u8) _ _ _ 131 [.int .u8 131] from rfl) (Reps.none _ _))))); intro v123 w19 ho20 hb hg_ hnew_; clear hg_ hnew_; (first | rw [← Ny122.out] at ho20 | (simp only [Int.reduceToNat] at ho20; rw [← Ny122.out] at ho20)); have n0_ := Aside0.mk (Kd.R_elder' (by (with_reducible repeat (first | apply Kd.R_alloc | apply Kd.R_drewN | apply Kd.R_drew)); exact HO121.out) (Kd.R_base ho20) hb); have n1_ := Aside0.mk (Kd.R_lower (Kd.R_new' ho20 (Kd.R_lt (by (with_reducible repeat (first | apply Kd.R_alloc | apply Kd.R_drewN | apply Kd.R_drew)); exact HO121.out))) (below_size (by repeat (first | (with_reducible first | exact HB.out | apply below_alloc | apply pw_below_drewN | apply below_drew1) | exact HB.out)))); have n2_ := Aside0.mk (below_step (by repeat (first | (with_reducible first | exact HB.out | apply below_alloc | apply pw_below_drewN | apply below_drew1) | exact HB.out)) hb); clear HO121; clear HB; have HO121 := n0_; have HO124 := n1_; have HB := n2_; clear n0_ n1_ n2_; clear hb ho20; obtain ⟨Ao21, co21, eo21⟩ := Kd.R_slice HO124.out; subst eo21) | ((with_reducible refine gate_callee (f := 16) rfl ?_); refine goesL_ (some 8) rfl rfl Try.func16 (by kernel_rfl) rfl #[.slice Ao21 y122.length co21] rfl (by (try simp only [List.map_toArray, List.map_cons, List.map_nil]); first | done | rfl | (simp only [List.length_drop, List.length_take]; rfl)) ?_; (with_reducible refine (Ext.seal_Text.calls _ _ y122 t125 _ ?side1 ?side2 A2.out).mono ?_); (case side1 => repeat (first | exact (Kd.R_reads' HO124.out).2.2 | (with_reducible refine Kd.C_alloc ?_ _) | (with_reducible refine Kd.C_drewN ?_ _) | (with_reducible refine Kd.C_drew ?_))); (case side2 => exact (Kd.R_reads' HO124.out).2.1); rintro e w22 ⟨rfl, hb⟩; refine ⟨_, rfl, ?_⟩; have n0_ := Aside0.mk (Kd.R_below (by (with_reducible repeat (first | apply Kd.R_alloc | apply Kd.R_drewN | apply Kd.R_drew)); exact HO121.out) hb); have n1_ := Aside0.mk (Kd.R_below (by (with_reducible repeat (first | apply Kd.R_alloc | apply Kd.R_drewN | apply Kd.R_drew)); exact HO124.out) hb); have n2_ := Aside0.mk (below_step (by repeat (first | (with_reducible first | exact HB.out | apply below_alloc | apply pw_below_drewN | apply below_drew1) | exact HB.out)) hb); clear HO121; clear HO124; clear HB; have HO121 := n0_; have HO124 := n1_; have HB := n2_; clear n0_ n1_ n2_; (try clear hb); (try clear hb2); (try clear hk); (try clear hi)) | (go_at_call 15; (refine (seal_Equal.calls k _ _ ([] : List Int) _ _ ([] : List Int) true _ ?side1 ?side2 ?side3 ?side4 A10.out).mono ?_); (case side1 => exact Kd.C_nil _ _); (case side2 => exact Nat.le_refl _); (case side3 => exact Kd.C_nil _ _); (case side4 => exact Nat.le_refl _); rintro e w' ⟨rfl, ⟨nd, rfl⟩⟩) | (go_at_call 14; (refine (seal_Code.calls _ _ ([] : List Int) _ _ ([] : List Int) t127 _ ?side1 ?side2 ?side3 ?side4 A12.out).mono ?_); (case side1 => exact Kd.C_nil _ _); (case side2 => exact Nat.le_refl _); (case side3 => exact Kd.C_nil _ _); (case side4 => exact Nat.le_refl _); rintro e w23 ⟨v128, rfl, ho0, hb⟩; have n0_ := Aside0.mk (Kd.R_elder' (by (with_reducible repeat (first | apply Kd.R_alloc | apply Kd.R_drewN | apply Kd.R_drew)); exact HO121.out) (Kd.R_base ho0) hb); have n1_ := Aside0.mk (Kd.R_elder' (by (with_reducible repeat (first | apply Kd.R_alloc | apply Kd.R_drewN | apply Kd.R_drew)); exact HO124.out) (Kd.R_base ho0) hb); have n2_ := Aside0.mk (Kd.R_lower (Kd.R_new' (Kd.R_new' ho0 (Kd.R_lt (by (with_reducible repeat (first | apply Kd.R_alloc | apply Kd.R_drewN | apply Kd.R_drew)); exact HO121.out))) (Kd.R_lt (by (with_reducible repeat (first | apply Kd.R_alloc | apply Kd.R_drewN | apply Kd.R_drew)); exact HO124.out))) (below_size (by repeat (first | (with_reducible first | exact HB.out | apply below_alloc | apply pw_below_drewN | apply below_drew1) | exact HB.out)))); have n3_ := Aside0.mk (below_step (by repeat (first | (with_reducible first | exact HB.out | apply below_alloc | apply pw_below_drewN | apply below_drew1) | exact HB.out)) hb); clear HO121; clear HO124; clear HB; have HO121 := n0_; have HO124 := n1_; have HO129 := n2_; have HB := n3_; clear n0_ n1_ n2_ n3_; (try clear hb); (try clear hb2); (try clear hk); (try clear hi); (try clear ho0); obtain ⟨Ao24, co24, eo24⟩ := Kd.R_slice HO129.out; subst eo24) | (go_at_call 18; (with_reducible refine (Ext.seal_ID.calls (⟨#[]⟩ : ByteArray) t130 _ A14.out).mono ?_); rintro e w25 ⟨rfl, hb⟩; have n0_ := Aside0.mk (Kd.R_below (by (with_reducible repeat (first | apply Kd.R_alloc | apply Kd.R_drewN | apply Kd.R_drew)); exact HO121.out) hb); have n1_ := Aside0.mk (Kd.R_below (by (with_reducible repeat (first | apply Kd.R_alloc | apply Kd.R_drewN | apply Kd.R_drew)); exact HO124.out) hb); have n2_ := Aside0.mk (Kd.R_below (by (with_reducible repeat (first | apply Kd.R_alloc | apply Kd.R_drewN | apply Kd.R_drew)); exact HO129.out) hb); have n3_ := Aside0.mk (below_step (by repeat (first | (with_reducible first | exact HB.out | apply below_alloc | apply pw_below_drewN | apply below_drew1) | exact HB.out)) hb); clear HO121; clear HO124; clear HO129; clear HB; have HO121 := n0_; have HO124 := n1_; have HO129 := n2_; have HB := n3_; clear n0_ n1_ n2_ n3_; (try clear hb); (try clear hb2); (try clear hk); (try clear hi)) | (go_at_call 20; (with_reducible refine (seal_Named.calls t130 true _ A15.out).mono ?_); rintro e w26 ⟨rfl, hb⟩; have n0_ := Aside0.mk (Kd.R_below (by (with_reducible repeat (first | apply Kd.R_alloc | apply Kd.R_drewN | apply Kd.R_drew)); exact HO121.out) hb); have n1_ := Aside0.mk (Kd.R_below (by (with_reducible repeat (first | apply Kd.R_alloc | apply Kd.R_drewN | apply Kd.R_drew)); exact HO124.out) hb); have n2_ := Aside0.mk (Kd.R_below (by (with_reducible repeat (first | apply Kd.R_alloc | apply Kd.R_drewN | apply Kd.R_drew)); exact HO129.out) hb); have n3_ := Aside0.mk (below_step (by repeat (first | (with_reducible first | exact HB.out | apply below_alloc | apply pw_below_drewN | apply below_drew1) | exact HB.out)) hb); clear HO121; clear HO124; clear HO129; clear HB; have HO121 := n0_; have HO124 := n1_; have HO129 := n2_; have HB := n3_; clear n0_ n1_ n2_ n3_; (try clear hb); (try clear hb2); (try clear hk); (try clear hi)) | (go_at_call 20; (with_reducible refine (seal_Named.calls (⟨#[36]⟩ : ByteArray) t132 _ A17.out).mono ?_); rintro e w27 ⟨rfl, hb⟩; have n0_ := Aside0.mk (Kd.R_below (by (with_reducible repeat (first | apply Kd.R_alloc | apply Kd.R_drewN | apply Kd.R_drew)); exact HO121.out) hb); have n1_ := Aside0.mk (Kd.R_below (by (with_reducible repeat (first | apply Kd.R_alloc | apply Kd.R_drewN | apply Kd.R_drew)); exact HO124.out) hb); have n2_ := Aside0.mk (Kd.R_below (by (with_reducible repeat (first | apply Kd.R_alloc | apply Kd.R_drewN | apply Kd.R_drew)); exact HO129.out) hb); have n3_ := Aside0.mk (below_step (by repeat (first | (with_reducible first | exact HB.out | apply below_alloc | apply pw_below_drewN | apply below_drew1) | exact HB.out)) hb); clear HO121; clear HO124; clear HO129; clear HB; have HO121 := n0_; have HO124 := n1_; have HO129 := n2_; have HB := n3_; clear n0_ n1_ n2_ n3_; (try clear hb); (try clear hb2); (try clear hk); (try clear hi)))
            go_ret
            exact ⟨by first | rfl | (simp [errW_none, errW_some] <;> rfl) | (simp [*, errW_none, errW_some] <;> rfl), by repeat (first | (with_reducible first | exact HB.out | apply below_alloc | apply pw_below_drewN | apply below_drew1) | exact HB.out)⟩
          · replace c16 := Bool.eq_false_iff.mpr c16
            subst c16
            have H1 : (some false) = some r := by rw [if_neg (show ¬ (false = true) by decide)] at H; exact H
            clear H
            have H := H1
            clear H1
            obtain rfl := Option.some.inj H
            go_enter Try.func10, Try.ntmps10
            go_wp2_with (first | ((with_reducible refine gate_callee (f := 22) rfl ?_); refine goesL_ (some 4) rfl rfl Try.func22 (by kernel_rfl) rfl #[.string (⟨#[65, 66]⟩ : ByteArray)] rfl (by (try simp only [List.map_toArray, List.map_cons, List.map_nil]); first | done | rfl | (simp only [List.length_drop, List.length_take]; rfl)) ?_; (with_reducible refine (Ext.seal_Bytes.calls (⟨#[65, 66]⟩ : ByteArray) t118 false _ A1.out).mono ?_); rintro e w28 ⟨v120, rfl, ho0, hb⟩; refine ⟨_, rfl, ?_⟩; have n0_ := Aside0.mk (Kd.R_lower ho0 (below_size (by repeat (first | (with_reducible first | exact HB.out | apply below_alloc | apply pw_below_drewN | apply below_drew1) | exact HB.out)))); have n1_ := Aside0.mk (below_step (by repeat (first | (with_reducible first | exact HB.out | apply below_alloc | apply pw_below_drewN | apply below_drew1) | exact HB.out)) hb); clear HB; have HO121 := n0_; have HB := n1_; clear n0_ n1_; (try clear hb); (try clear hb2); (try clear hk); (try clear hi); (try clear ho0)) | ((with_reducible refine gate_dst (N := 7) rfl ?_); (try (refine gate_guard (by rfl) ?_; dsimp only)); refine Kd.R_lit (Kd.int .u8) _ 5 ?hg (N := 7) ?hd (xs := ([0, 16, 131] : List Int)) (inner := [.int .u8 0, .int .u8 16, .int .u8 131]) (ok := fun _ => True) (okp := fun _ => True) ?hr ?hp (fun _ hk => hk) trivial (Below.refl _ _) (Nat.le_refl _) (by simp) ?_; (case hd => rfl); (case hg => rfl); (case hr => first | (go_simp; done) | (go_simp; rfl)); (case hp => exact (Reps.one (show Kd.M (Kd.int .u8) _ _ _ 0 [.int .u8 0] from rfl) (Reps.one (show Kd.M (Kd.int .u8) _ _ _ 16 [.int .u8 16] from rfl) (Reps.one (show Kd.M (Kd.int .u8) _ _ _ 131 [.int .u8 131] from rfl) (Reps.none _ _))))); intro v123 w29 ho30 hb hg_ hnew_; clear hg_ hnew_; (first | rw [← Ny122.out] at ho30 | (simp only [Int.reduceToNat] at ho30; rw [← Ny122.out] at ho30)); have n0_ := Aside0.mk (Kd.R_elder' (by (with_reducible repeat (first | apply Kd.R_alloc | apply Kd.R_drewN | apply Kd.R_drew)); exact HO121.out) (Kd.R_base ho30) hb); have n1_ := Aside0.mk (Kd.R_lower (Kd.R_new' ho30 (Kd.R_lt (by (with_reducible repeat (first | apply Kd.R_alloc | apply Kd.R_drewN | apply Kd.R_drew)); exact HO121.out))) (below_size (by repeat (first | (with_reducible first | exact HB.out | apply below_alloc | apply pw_below_drewN | apply below_drew1) | exact HB.out)))); have n2_ := Aside0.mk (below_step (by repeat (first | (with_reducible first | exact HB.out | apply below_alloc | apply pw_below_drewN | apply below_drew1) | exact HB.out)) hb); clear HO121; clear HB; have HO121 := n0_; have HO124 := n1_; have HB := n2_; clear n0_ n1_ n2_; clear hb ho30; obtain ⟨Ao31, co31, eo31⟩ := Kd.R_slice HO124.out; subst eo31) | ((with_reducible refine gate_callee (f := 16) rfl ?_); refine goesL_ (some 8) rfl rfl Try.func16 (by kernel_rfl) rfl #[.slice Ao31 y122.length co31] rfl (by (try simp only [List.map_toArray, List.map_cons, List.map_nil]); first | done | rfl | (simp only [List.length_drop, List.length_take]; rfl)) ?_; (with_reducible refine (Ext.seal_Text.calls _ _ y122 t125 _ ?side1 ?side2 A2.out).mono ?_); (case side1 => repeat (first | exact (Kd.R_reads' HO124.out).2.2 | (with_reducible refine Kd.C_alloc ?_ _) | (with_reducible refine Kd.C_drewN ?_ _) | (with_reducible refine Kd.C_drew ?_))); (case side2 => exact (Kd.R_reads' HO124.out).2.1); rintro e w32 ⟨rfl, hb⟩; refine ⟨_, rfl, ?_⟩; have n0_ := Aside0.mk (Kd.R_below (by (with_reducible repeat (first | apply Kd.R_alloc | apply Kd.R_drewN | apply Kd.R_drew)); exact HO121.out) hb); have n1_ := Aside0.mk (Kd.R_below (by (with_reducible repeat (first | apply Kd.R_alloc | apply Kd.R_drewN | apply Kd.R_drew)); exact HO124.out) hb); have n2_ := Aside0.mk (below_step (by repeat (first | (with_reducible first | exact HB.out | apply below_alloc | apply pw_below_drewN | apply below_drew1) | exact HB.out)) hb); clear HO121; clear HO124; clear HB; have HO121 := n0_; have HO124 := n1_; have HB := n2_; clear n0_ n1_ n2_; (try clear hb); (try clear hb2); (try clear hk); (try clear hi)) | (go_at_call 15; (refine (seal_Equal.calls k _ _ ([] : List Int) _ _ ([] : List Int) true _ ?side1 ?side2 ?side3 ?side4 A10.out).mono ?_); (case side1 => exact Kd.C_nil _ _); (case side2 => exact Nat.le_refl _); (case side3 => exact Kd.C_nil _ _); (case side4 => exact Nat.le_refl _); rintro e w' ⟨rfl, ⟨nd, rfl⟩⟩) | (go_at_call 14; (refine (seal_Code.calls _ _ ([] : List Int) _ _ ([] : List Int) t127 _ ?side1 ?side2 ?side3 ?side4 A12.out).mono ?_); (case side1 => exact Kd.C_nil _ _); (case side2 => exact Nat.le_refl _); (case side3 => exact Kd.C_nil _ _); (case side4 => exact Nat.le_refl _); rintro e w33 ⟨v128, rfl, ho0, hb⟩; have n0_ := Aside0.mk (Kd.R_elder' (by (with_reducible repeat (first | apply Kd.R_alloc | apply Kd.R_drewN | apply Kd.R_drew)); exact HO121.out) (Kd.R_base ho0) hb); have n1_ := Aside0.mk (Kd.R_elder' (by (with_reducible repeat (first | apply Kd.R_alloc | apply Kd.R_drewN | apply Kd.R_drew)); exact HO124.out) (Kd.R_base ho0) hb); have n2_ := Aside0.mk (Kd.R_lower (Kd.R_new' (Kd.R_new' ho0 (Kd.R_lt (by (with_reducible repeat (first | apply Kd.R_alloc | apply Kd.R_drewN | apply Kd.R_drew)); exact HO121.out))) (Kd.R_lt (by (with_reducible repeat (first | apply Kd.R_alloc | apply Kd.R_drewN | apply Kd.R_drew)); exact HO124.out))) (below_size (by repeat (first | (with_reducible first | exact HB.out | apply below_alloc | apply pw_below_drewN | apply below_drew1) | exact HB.out)))); have n3_ := Aside0.mk (below_step (by repeat (first | (with_reducible first | exact HB.out | apply below_alloc | apply pw_below_drewN | apply below_drew1) | exact HB.out)) hb); clear HO121; clear HO124; clear HB; have HO121 := n0_; have HO124 := n1_; have HO129 := n2_; have HB := n3_; clear n0_ n1_ n2_ n3_; (try clear hb); (try clear hb2); (try clear hk); (try clear hi); (try clear ho0); obtain ⟨Ao34, co34, eo34⟩ := Kd.R_slice HO129.out; subst eo34) | (go_at_call 18; (with_reducible refine (Ext.seal_ID.calls (⟨#[]⟩ : ByteArray) t130 _ A14.out).mono ?_); rintro e w35 ⟨rfl, hb⟩; have n0_ := Aside0.mk (Kd.R_below (by (with_reducible repeat (first | apply Kd.R_alloc | apply Kd.R_drewN | apply Kd.R_drew)); exact HO121.out) hb); have n1_ := Aside0.mk (Kd.R_below (by (with_reducible repeat (first | apply Kd.R_alloc | apply Kd.R_drewN | apply Kd.R_drew)); exact HO124.out) hb); have n2_ := Aside0.mk (Kd.R_below (by (with_reducible repeat (first | apply Kd.R_alloc | apply Kd.R_drewN | apply Kd.R_drew)); exact HO129.out) hb); have n3_ := Aside0.mk (below_step (by repeat (first | (with_reducible first | exact HB.out | apply below_alloc | apply pw_below_drewN | apply below_drew1) | exact HB.out)) hb); clear HO121; clear HO124; clear HO129; clear HB; have HO121 := n0_; have HO124 := n1_; have HO129 := n2_; have HB := n3_; clear n0_ n1_ n2_ n3_; (try clear hb); (try clear hb2); (try clear hk); (try clear hi)) | (go_at_call 20; (with_reducible refine (seal_Named.calls t130 false _ A15.out).mono ?_); rintro e w36 ⟨rfl, hb⟩; have n0_ := Aside0.mk (Kd.R_below (by (with_reducible repeat (first | apply Kd.R_alloc | apply Kd.R_drewN | apply Kd.R_drew)); exact HO121.out) hb); have n1_ := Aside0.mk (Kd.R_below (by (with_reducible repeat (first | apply Kd.R_alloc | apply Kd.R_drewN | apply Kd.R_drew)); exact HO124.out) hb); have n2_ := Aside0.mk (Kd.R_below (by (with_reducible repeat (first | apply Kd.R_alloc | apply Kd.R_drewN | apply Kd.R_drew)); exact HO129.out) hb); have n3_ := Aside0.mk (below_step (by repeat (first | (with_reducible first | exact HB.out | apply below_alloc | apply pw_below_drewN | apply below_drew1) | exact HB.out)) hb); clear HO121; clear HO124; clear HO129; clear HB; have HO121 := n0_; have HO124 := n1_; have HO129 := n2_; have HB := n3_; clear n0_ n1_ n2_ n3_; (try clear hb); (try clear hb2); (try clear hk); (try clear hi)))
            go_ret
            exact ⟨by first | rfl | (simp [errW_none, errW_some] <;> rfl) | (simp [*, errW_none, errW_some] <;> rfl), by repeat (first | (with_reducible first | exact HB.out | apply below_alloc | apply pw_below_drewN | apply below_drew1) | exact HB.out)⟩
        · rw [if_neg c13] at H
          have c13b0 : ((t127.length : Int) == 32) = false := beq_eq_false_iff_ne.mpr c13
          have c13b1 : ((t127.length : Int) != 32) = true := bne_iff_ne.mpr c13
          obtain rfl := Option.some.inj H
          go_enter Try.func10, Try.ntmps10
          go_wp2_with (first | ((with_reducible refine gate_callee (f := 22) rfl ?_); refine goesL_ (some 4) rfl rfl Try.func22 (by kernel_rfl) rfl #[.string (⟨#[65, 66]⟩ : ByteArray)] rfl (by (try simp only [List.map_toArray, List.map_cons, List.map_nil]); first | done | rfl | (simp only [List.length_drop, List.length_take]; rfl)) ?_; (with_reducible refine (Ext.seal_Bytes.calls (⟨#[65, 66]⟩ : ByteArray) t118 false _ A1.out).mono ?_); rintro e w37 ⟨v120, rfl, ho0, hb⟩; refine ⟨_, rfl, ?_⟩; have n0_ := Aside0.mk (Kd.R_lower ho0 (below_size (by repeat (first | (with_reducible first | exact HB.out | apply below_alloc | apply pw_below_drewN | apply below_drew1) | exact HB.out)))); have n1_ := Aside0.mk (below_step (by repeat (first | (with_reducible first | exact HB.out | apply below_alloc | apply pw_below_drewN | apply below_drew1) | exact HB.out)) hb); clear HB; have HO121 := n0_; have HB := n1_; clear n0_ n1_; (try clear hb); (try clear hb2); (try clear hk); (try clear hi); (try clear ho0)) | ((with_reducible refine gate_dst (N := 7) rfl ?_); (try (refine gate_guard (by rfl) ?_; dsimp only)); refine Kd.R_lit (Kd.int .u8) _ 5 ?hg (N := 7) ?hd (xs := ([0, 16, 131] : List Int)) (inner := [.int .u8 0, .int .u8 16, .int .u8 131]) (ok := fun _ => True) (okp := fun _ => True) ?hr ?hp (fun _ hk => hk) trivial (Below.refl _ _) (Nat.le_refl _) (by simp) ?_; (case hd => rfl); (case hg => rfl); (case hr => first | (go_simp; done) | (go_simp; rfl)); (case hp => exact (Reps.one (show Kd.M (Kd.int .u8) _ _ _ 0 [.int .u8 0] from rfl) (Reps.one (show Kd.M (Kd.int .u8) _ _ _ 16 [.int .u8 16] from rfl) (Reps.one (show Kd.M (Kd.int .u8) _ _ _ 131 [.int .u8 131] from rfl) (Reps.none _ _))))); intro v123 w38 ho39 hb hg_ hnew_; clear hg_ hnew_; (first | rw [← Ny122.out] at ho39 | (simp only [Int.reduceToNat] at ho39; rw [← Ny122.out] at ho39)); have n0_ := Aside0.mk (Kd.R_elder' (by (with_reducible repeat (first | apply Kd.R_alloc | apply Kd.R_drewN | apply Kd.R_drew)); exact HO121.out) (Kd.R_base ho39) hb); have n1_ := Aside0.mk (Kd.R_lower (Kd.R_new' ho39 (Kd.R_lt (by (with_reducible repeat (first | apply Kd.R_alloc | apply Kd.R_drewN | apply Kd.R_drew)); exact HO121.out))) (below_size (by repeat (first | (with_reducible first | exact HB.out | apply below_alloc | apply pw_below_drewN | apply below_drew1) | exact HB.out)))); have n2_ := Aside0.mk (below_step (by repeat (first | (with_reducible first | exact HB.out | apply below_alloc | apply pw_below_drewN | apply below_drew1) | exact HB.out)) hb); clear HO121; clear HB; have HO121 := n0_; have HO124 := n1_; have HB := n2_; clear n0_ n1_ n2_; clear hb ho39; obtain ⟨Ao40, co40, eo40⟩ := Kd.R_slice HO124.out; subst eo40) | ((with_reducible refine gate_callee (f := 16) rfl ?_); refine goesL_ (some 8) rfl rfl Try.func16 (by kernel_rfl) rfl #[.slice Ao40 y122.length co40] rfl (by (try simp only [List.map_toArray, List.map_cons, List.map_nil]); first | done | rfl | (simp only [List.length_drop, List.length_take]; rfl)) ?_; (with_reducible refine (Ext.seal_Text.calls _ _ y122 t125 _ ?side1 ?side2 A2.out).mono ?_); (case side1 => repeat (first | exact (Kd.R_reads' HO124.out).2.2 | (with_reducible refine Kd.C_alloc ?_ _) | (with_reducible refine Kd.C_drewN ?_ _) | (with_reducible refine Kd.C_drew ?_))); (case side2 => exact (Kd.R_reads' HO124.out).2.1); rintro e w41 ⟨rfl, hb⟩; refine ⟨_, rfl, ?_⟩; have n0_ := Aside0.mk (Kd.R_below (by (with_reducible repeat (first | apply Kd.R_alloc | apply Kd.R_drewN | apply Kd.R_drew)); exact HO121.out) hb); have n1_ := Aside0.mk (Kd.R_below (by (with_reducible repeat (first | apply Kd.R_alloc | apply Kd.R_drewN | apply Kd.R_drew)); exact HO124.out) hb); have n2_ := Aside0.mk (below_step (by repeat (first | (with_reducible first | exact HB.out | apply below_alloc | apply pw_below_drewN | apply below_drew1) | exact HB.out)) hb); clear HO121; clear HO124; clear HB; have HO121 := n0_; have HO124 := n1_; have HB := n2_; clear n0_ n1_ n2_; (try clear hb); (try clear hb2); (try clear hk); (try clear hi)) | (go_at_call 15; (refine (seal_Equal.calls k _ _ ([] : List Int) _ _ ([] : List Int) true _ ?side1 ?side2 ?side3 ?side4 A10.out).mono ?_); (case side1 => exact Kd.C_nil _ _); (case side2 => exact Nat.le_refl _); (case side3 => exact Kd.C_nil _ _); (case side4 => exact Nat.le_refl _); rintro e w' ⟨rfl, ⟨nd, rfl⟩⟩) | (go_at_call 14; (refine (seal_Code.calls _ _ ([] : List Int) _ _ ([] : List Int) t127 _ ?side1 ?side2 ?side3 ?side4 A12.out).mono ?_); (case side1 => exact Kd.C_nil _ _); (case side2 => exact Nat.le_refl _); (case side3 => exact Kd.C_nil _ _); (case side4 => exact Nat.le_refl _); rintro e w42 ⟨v128, rfl, ho0, hb⟩; have n0_ := Aside0.mk (Kd.R_elder' (by (with_reducible repeat (first | apply Kd.R_alloc | apply Kd.R_drewN | apply Kd.R_drew)); exact HO121.out) (Kd.R_base ho0) hb); have n1_ := Aside0.mk (Kd.R_elder' (by (with_reducible repeat (first | apply Kd.R_alloc | apply Kd.R_drewN | apply Kd.R_drew)); exact HO124.out) (Kd.R_base ho0) hb); have n2_ := Aside0.mk (Kd.R_lower (Kd.R_new' (Kd.R_new' ho0 (Kd.R_lt (by (with_reducible repeat (first | apply Kd.R_alloc | apply Kd.R_drewN | apply Kd.R_drew)); exact HO121.out))) (Kd.R_lt (by (with_reducible repeat (first | apply Kd.R_alloc | apply Kd.R_drewN | apply Kd.R_drew)); exact HO124.out))) (below_size (by repeat (first | (with_reducible first | exact HB.out | apply below_alloc | apply pw_below_drewN | apply below_drew1) | exact HB.out)))); have n3_ := Aside0.mk (below_step (by repeat (first | (with_reducible first | exact HB.out | apply below_alloc | apply pw_below_drewN | apply below_drew1) | exact HB.out)) hb); clear HO121; clear HO124; clear HB; have HO121 := n0_; have HO124 := n1_; have HO129 := n2_; have HB := n3_; clear n0_ n1_ n2_ n3_; (try clear hb); (try clear hb2); (try clear hk); (try clear hi); (try clear ho0); obtain ⟨Ao43, co43, eo43⟩ := Kd.R_slice HO129.out; subst eo43))
          go_ret
          exact ⟨by first | rfl | (simp [errW_none, errW_some] <;> rfl) | (simp [*, errW_none, errW_some] <;> rfl), by repeat (first | (with_reducible first | exact HB.out | apply below_alloc | apply pw_below_drewN | apply below_drew1) | exact HB.out)⟩
      · replace c11 := Bool.eq_false_iff.mpr c11
        subst c11
        have H1 : (some false) = some r := by rw [if_neg (show ¬ (false = true) by decide)] at H; exact H
        clear H
        have H := H1
        clear H1
        obtain rfl := Option.some.inj H
        go_enter Try.func10, Try.ntmps10
        go_wp2_with (first | ((with_reducible refine gate_callee (f := 22) rfl ?_); refine goesL_ (some 4) rfl rfl Try.func22 (by kernel_rfl) rfl #[.string (⟨#[65, 66]⟩ : ByteArray)] rfl (by (try simp only [List.map_toArray, List.map_cons, List.map_nil]); first | done | rfl | (simp only [List.length_drop, List.length_take]; rfl)) ?_; (with_reducible refine (Ext.seal_Bytes.calls (⟨#[65, 66]⟩ : ByteArray) t118 false _ A1.out).mono ?_); rintro e w44 ⟨v120, rfl, ho0, hb⟩; refine ⟨_, rfl, ?_⟩; have n0_ := Aside0.mk (Kd.R_lower ho0 (below_size (by repeat (first | (with_reducible first | exact HB.out | apply below_alloc | apply pw_below_drewN | apply below_drew1) | exact HB.out)))); have n1_ := Aside0.mk (below_step (by repeat (first | (with_reducible first | exact HB.out | apply below_alloc | apply pw_below_drewN | apply below_drew1) | exact HB.out)) hb); clear HB; have HO121 := n0_; have HB := n1_; clear n0_ n1_; (try clear hb); (try clear hb2); (try clear hk); (try clear hi); (try clear ho0)) | ((with_reducible refine gate_dst (N := 7) rfl ?_); (try (refine gate_guard (by rfl) ?_; dsimp only)); refine Kd.R_lit (Kd.int .u8) _ 5 ?hg (N := 7) ?hd (xs := ([0, 16, 131] : List Int)) (inner := [.int .u8 0, .int .u8 16, .int .u8 131]) (ok := fun _ => True) (okp := fun _ => True) ?hr ?hp (fun _ hk => hk) trivial (Below.refl _ _) (Nat.le_refl _) (by simp) ?_; (case hd => rfl); (case hg => rfl); (case hr => first | (go_simp; done) | (go_simp; rfl)); (case hp => exact (Reps.one (show Kd.M (Kd.int .u8) _ _ _ 0 [.int .u8 0] from rfl) (Reps.one (show Kd.M (Kd.int .u8) _ _ _ 16 [.int .u8 16] from rfl) (Reps.one (show Kd.M (Kd.int .u8) _ _ _ 131 [.int .u8 131] from rfl) (Reps.none _ _))))); intro v123 w45 ho46 hb hg_ hnew_; clear hg_ hnew_; (first | rw [← Ny122.out] at ho46 | (simp only [Int.reduceToNat] at ho46; rw [← Ny122.out] at ho46)); have n0_ := Aside0.mk (Kd.R_elder' (by (with_reducible repeat (first | apply Kd.R_alloc | apply Kd.R_drewN | apply Kd.R_drew)); exact HO121.out) (Kd.R_base ho46) hb); have n1_ := Aside0.mk (Kd.R_lower (Kd.R_new' ho46 (Kd.R_lt (by (with_reducible repeat (first | apply Kd.R_alloc | apply Kd.R_drewN | apply Kd.R_drew)); exact HO121.out))) (below_size (by repeat (first | (with_reducible first | exact HB.out | apply below_alloc | apply pw_below_drewN | apply below_drew1) | exact HB.out)))); have n2_ := Aside0.mk (below_step (by repeat (first | (with_reducible first | exact HB.out | apply below_alloc | apply pw_below_drewN | apply below_drew1) | exact HB.out)) hb); clear HO121; clear HB; have HO121 := n0_; have HO124 := n1_; have HB := n2_; clear n0_ n1_ n2_; clear hb ho46; obtain ⟨Ao47, co47, eo47⟩ := Kd.R_slice HO124.out; subst eo47) | ((with_reducible refine gate_callee (f := 16) rfl ?_); refine goesL_ (some 8) rfl rfl Try.func16 (by kernel_rfl) rfl #[.slice Ao47 y122.length co47] rfl (by (try simp only [List.map_toArray, List.map_cons, List.map_nil]); first | done | rfl | (simp only [List.length_drop, List.length_take]; rfl)) ?_; (with_reducible refine (Ext.seal_Text.calls _ _ y122 t125 _ ?side1 ?side2 A2.out).mono ?_); (case side1 => repeat (first | exact (Kd.R_reads' HO124.out).2.2 | (with_reducible refine Kd.C_alloc ?_ _) | (with_reducible refine Kd.C_drewN ?_ _) | (with_reducible refine Kd.C_drew ?_))); (case side2 => exact (Kd.R_reads' HO124.out).2.1); rintro e w48 ⟨rfl, hb⟩; refine ⟨_, rfl, ?_⟩; have n0_ := Aside0.mk (Kd.R_below (by (with_reducible repeat (first | apply Kd.R_alloc | apply Kd.R_drewN | apply Kd.R_drew)); exact HO121.out) hb); have n1_ := Aside0.mk (Kd.R_below (by (with_reducible repeat (first | apply Kd.R_alloc | apply Kd.R_drewN | apply Kd.R_drew)); exact HO124.out) hb); have n2_ := Aside0.mk (below_step (by repeat (first | (with_reducible first | exact HB.out | apply below_alloc | apply pw_below_drewN | apply below_drew1) | exact HB.out)) hb); clear HO121; clear HO124; clear HB; have HO121 := n0_; have HO124 := n1_; have HB := n2_; clear n0_ n1_ n2_; (try clear hb); (try clear hb2); (try clear hk); (try clear hi)) | (go_at_call 15; (refine (seal_Equal.calls k _ _ ([] : List Int) _ _ ([] : List Int) false _ ?side1 ?side2 ?side3 ?side4 A10.out).mono ?_); (case side1 => exact Kd.C_nil _ _); (case side2 => exact Nat.le_refl _); (case side3 => exact Kd.C_nil _ _); (case side4 => exact Nat.le_refl _); rintro e w' ⟨rfl, ⟨nd, rfl⟩⟩))
        go_ret
        exact ⟨by first | rfl | (simp [errW_none, errW_some] <;> rfl) | (simp [*, errW_none, errW_some] <;> rfl), by repeat (first | (with_reducible first | exact HB.out | apply below_alloc | apply pw_below_drewN | apply below_drew1) | exact HB.out)⟩
  · rw [if_neg c3] at H
    have c3b0 : (t125.toList == ([65, 66, 67, 68] : List UInt8)) = false := beq_eq_false_iff_ne.mpr c3
    have c3b1 : (t125.toList != ([65, 66, 67, 68] : List UInt8)) = true := bne_iff_ne.mpr c3
    obtain rfl := Option.some.inj H
    go_enter Try.func10, Try.ntmps10
    go_wp2_with (first | ((with_reducible refine gate_callee (f := 22) rfl ?_); refine goesL_ (some 4) rfl rfl Try.func22 (by kernel_rfl) rfl #[.string (⟨#[65, 66]⟩ : ByteArray)] rfl (by (try simp only [List.map_toArray, List.map_cons, List.map_nil]); first | done | rfl | (simp only [List.length_drop, List.length_take]; rfl)) ?_; (with_reducible refine (Ext.seal_Bytes.calls (⟨#[65, 66]⟩ : ByteArray) t118 t119 _ A1.out).mono ?_); rintro e w49 ⟨v120, rfl, ho0, hb⟩; refine ⟨_, rfl, ?_⟩; have n0_ := Aside0.mk (Kd.R_lower ho0 (below_size (by repeat (first | (with_reducible first | exact HB.out | apply below_alloc | apply pw_below_drewN | apply below_drew1) | exact HB.out)))); have n1_ := Aside0.mk (below_step (by repeat (first | (with_reducible first | exact HB.out | apply below_alloc | apply pw_below_drewN | apply below_drew1) | exact HB.out)) hb); clear HB; have HO121 := n0_; have HB := n1_; clear n0_ n1_; (try clear hb); (try clear hb2); (try clear hk); (try clear hi); (try clear ho0)) | ((with_reducible refine gate_dst (N := 7) rfl ?_); (try (refine gate_guard (by rfl) ?_; dsimp only)); refine Kd.R_lit (Kd.int .u8) _ 5 ?hg (N := 7) ?hd (xs := ([0, 16, 131] : List Int)) (inner := [.int .u8 0, .int .u8 16, .int .u8 131]) (ok := fun _ => True) (okp := fun _ => True) ?hr ?hp (fun _ hk => hk) trivial (Below.refl _ _) (Nat.le_refl _) (by simp) ?_; (case hd => rfl); (case hg => rfl); (case hr => first | (go_simp; done) | (go_simp; rfl)); (case hp => exact (Reps.one (show Kd.M (Kd.int .u8) _ _ _ 0 [.int .u8 0] from rfl) (Reps.one (show Kd.M (Kd.int .u8) _ _ _ 16 [.int .u8 16] from rfl) (Reps.one (show Kd.M (Kd.int .u8) _ _ _ 131 [.int .u8 131] from rfl) (Reps.none _ _))))); intro v123 w50 ho51 hb hg_ hnew_; clear hg_ hnew_; (first | rw [← Ny122.out] at ho51 | (simp only [Int.reduceToNat] at ho51; rw [← Ny122.out] at ho51)); have n0_ := Aside0.mk (Kd.R_elder' (by (with_reducible repeat (first | apply Kd.R_alloc | apply Kd.R_drewN | apply Kd.R_drew)); exact HO121.out) (Kd.R_base ho51) hb); have n1_ := Aside0.mk (Kd.R_lower (Kd.R_new' ho51 (Kd.R_lt (by (with_reducible repeat (first | apply Kd.R_alloc | apply Kd.R_drewN | apply Kd.R_drew)); exact HO121.out))) (below_size (by repeat (first | (with_reducible first | exact HB.out | apply below_alloc | apply pw_below_drewN | apply below_drew1) | exact HB.out)))); have n2_ := Aside0.mk (below_step (by repeat (first | (with_reducible first | exact HB.out | apply below_alloc | apply pw_below_drewN | apply below_drew1) | exact HB.out)) hb); clear HO121; clear HB; have HO121 := n0_; have HO124 := n1_; have HB := n2_; clear n0_ n1_ n2_; clear hb ho51; obtain ⟨Ao52, co52, eo52⟩ := Kd.R_slice HO124.out; subst eo52) | ((with_reducible refine gate_callee (f := 16) rfl ?_); refine goesL_ (some 8) rfl rfl Try.func16 (by kernel_rfl) rfl #[.slice Ao52 y122.length co52] rfl (by (try simp only [List.map_toArray, List.map_cons, List.map_nil]); first | done | rfl | (simp only [List.length_drop, List.length_take]; rfl)) ?_; (with_reducible refine (Ext.seal_Text.calls _ _ y122 t125 _ ?side1 ?side2 A2.out).mono ?_); (case side1 => repeat (first | exact (Kd.R_reads' HO124.out).2.2 | (with_reducible refine Kd.C_alloc ?_ _) | (with_reducible refine Kd.C_drewN ?_ _) | (with_reducible refine Kd.C_drew ?_))); (case side2 => exact (Kd.R_reads' HO124.out).2.1); rintro e w53 ⟨rfl, hb⟩; refine ⟨_, rfl, ?_⟩; have n0_ := Aside0.mk (Kd.R_below (by (with_reducible repeat (first | apply Kd.R_alloc | apply Kd.R_drewN | apply Kd.R_drew)); exact HO121.out) hb); have n1_ := Aside0.mk (Kd.R_below (by (with_reducible repeat (first | apply Kd.R_alloc | apply Kd.R_drewN | apply Kd.R_drew)); exact HO124.out) hb); have n2_ := Aside0.mk (below_step (by repeat (first | (with_reducible first | exact HB.out | apply below_alloc | apply pw_below_drewN | apply below_drew1) | exact HB.out)) hb); clear HO121; clear HO124; clear HB; have HO121 := n0_; have HO124 := n1_; have HB := n2_; clear n0_ n1_ n2_; (try clear hb); (try clear hb2); (try clear hk); (try clear hi)))
    go_ret
    exact ⟨by first | rfl | (simp [errW_none, errW_some] <;> rfl) | (simp [*, errW_none, errW_some] <;> rfl), by repeat (first | (with_reducible first | exact HB.out | apply below_alloc | apply pw_below_drewN | apply below_drew1) | exact HB.out)⟩

/-- THE ONE PURE STATEMENT of heliastlaw05_known: yours. -/
def heliastlaw05_known.Pure : Prop := ∃ k, heliastlaw05_known.f k  = some true
theorem heliastlaw05_known.walk (P : heliastlaw05_known.Pure)  (w : World)  :
    Calls Try.prog 10 #[] w fun e w' => e = .returned (.bool true) ∧ Below w.heap.size w w' := by
  obtain ⟨k, h⟩ := P  
  refine (heliastlaw05_known.calls k  true w h).mono ?_
  rintro e w' ⟨rfl, hd⟩
  exact ⟨rfl, hd⟩

-- BY ITS OWN WALK: function 13 (heliastref04_Same)

-- BY ITS OWN WALK: function 30 (heliastref05_Bytes)

end Go.Proofs.Ytnhljemnebgekaa.Ps

/-
  What the printed functions of the package seal come to, in plain words.
-/
namespace Go.Proofs.Ytnhljemnebgekaa
open Go.RowKit Sha Go.Proofs.YtnhljemnebgekaaW.PrintWords Go.Proofs.YtnhljemnebgekaaW.PrintLast Go.Proofs.YtnhljemnebgekaaW.PrintMore Ps
set_option linter.unusedSimpArgs false
theorem wf_bytes : ∀ l : List Int, (∀ x ∈ l, (Lit.int .u8 x).wf = true) → ∃ b : List UInt8, l = intsB b
  | [], _ => ⟨[], rfl⟩
  | x :: l, h => by
    obtain ⟨b, rfl⟩ := wf_bytes l (fun y hy => h y (by simp [hy]))
    have hx := h x (by simp)
    have hr : 0 ≤ x ∧ x ≤ 255 := by
      simpa [Lit.wf, IntKind.min, IntKind.max, IntKind.signed, IntKind.bits] using hx
    refine ⟨UInt8.ofNat x.toNat :: b, ?_⟩
    show x :: intsB b = ((UInt8.ofNat x.toNat).toNat : Int) :: intsB b
    rw [UInt8.toNat_ofNat']
    congr 1
    omega
theorem wf_byte (x : Int) (h : (Lit.int .u8 x).wf = true) : ∃ b : UInt8, x = (b.toNat : Int) := by
  obtain ⟨b, hb⟩ := wf_bytes [x] (by simpa using h)
  match b, hb with
  | [b], hb => exact ⟨b, by simpa [intsB] using hb⟩
theorem or8 (x y : UInt8) : bits .or .u8 (x.toNat : Int) (y.toNat : Int) = ((x ||| y).toNat : Int) := by
  have : ∀ x y : UInt8, bits .or .u8 (x.toNat : Int) (y.toNat : Int) = ((x ||| y).toNat : Int) := by
    intro x y
    show IntKind.u8.wrap ((BitVec.ofInt 8 (x.toNat : Int) ||| BitVec.ofInt 8 (y.toNat : Int)).toNat : Int) = _
    have h := (x ||| y).toNat_lt
    have h1 := x.toNat_lt
    have h2 := y.toNat_lt
    rw [BitVec.toNat_or, BitVec.toNat_ofInt, BitVec.toNat_ofInt, IntKind.wrap_u8]
    have e1 : ((x.toNat : Int) % ((2 ^ 8 : Nat) : Int)).toNat = x.toNat := by omega
    have e2 : ((y.toNat : Int) % ((2 ^ 8 : Nat) : Int)).toNat = y.toNat := by omega
    rw [e1, e2, ← UInt8.toNat_or]
    omega
  exact this x y
theorem or_xor_zero (a x y : UInt8) : (a ||| (x ^^^ y)) = 0 ↔ a = 0 ∧ x = y := by
  constructor
  · intro h
    have h1 : a.toNat ||| (x.toNat ^^^ y.toNat) = 0 := by
      have := congrArg UInt8.toNat h
      simpa using this
    obtain ⟨h2, h3⟩ := Nat.or_eq_zero_iff.1 h1
    have h4 : x ^^^ y = 0 := UInt8.toNat_inj.1 (by rw [UInt8.toNat_xor]; exact h3)
    have h5 : x = (x ^^^ y) ^^^ y := by rw [UInt8.xor_assoc, UInt8.xor_self, UInt8.xor_zero]
    exact ⟨UInt8.toNat_inj.1 h2, by rw [h5, h4, UInt8.zero_xor]⟩
  · rintro ⟨rfl, rfl⟩
    simp
theorem eq_l0 (a b : List UInt8) (hab : a.length = b.length) (hl : a.length ≤ 9223372036854775806) : ∀ (p i : Nat) (acc : UInt8), i + p = a.length →
    Ev (fun k => seal_Equal.l0 k (intsB a) (intsB b) (acc.toNat : Int) (a.length : Int) (i : Int)) (decide (acc = 0 ∧ a.drop i = b.drop i))
  | 0, i, acc, h => by
    refine Ev.step (f := fun _ => some (decide (acc = 0))) (fun k => ?_) ?_
    · simp only [seal_Equal.l0]
      rw [if_neg (by omega)]
      congr 1
      rw [Bool.eq_iff_iff]
      simp only [beq_iff_eq, decide_eq_true_eq]
      constructor
      · intro h; exact UInt8.toNat_inj.1 (by rw [show (0 : UInt8).toNat = 0 from rfl]; omega)
      · intro h; rw [h]; rfl
    · rw [List.drop_of_length_le (by omega), List.drop_of_length_le (by omega)]
      simp only [and_true]
      exact Ev.now _
  | p + 1, i, acc, h => by
    have hx : a.drop i = a.getD i 0 :: a.drop (i + 1) := drop_cons (by omega)
    have hy : b.drop i = b.getD i 0 :: b.drop (i + 1) := drop_cons (by omega)
    refine Ev.step (f := fun k => seal_Equal.l0 k (intsB a) (intsB b) ((acc ||| (a.getD i 0 ^^^ b.getD i 0)).toNat : Int) (a.length : Int) ((i + 1 : Nat) : Int)) (fun k => ?_) ?_
    · simp only [seal_Equal.l0]
      rw [if_pos (by omega), if_pos (by omega), if_pos (by rw [intsB_length]; omega), if_pos (by rw [intsB_length]; omega), rd_intsB, rd_intsB, xor8, or8, show wrap64 ((i : Int) + 1) = ((i + 1 : Nat) : Int) from by unfold wrap64; omega]
    · have ih := eq_l0 a b hab hl p (i + 1) (acc ||| (a.getD i 0 ^^^ b.getD i 0)) (by omega)
      have e : decide (acc = 0 ∧ a.drop i = b.drop i) = decide ((acc ||| (a.getD i 0 ^^^ b.getD i 0)) = 0 ∧ a.drop (i + 1) = b.drop (i + 1)) := by
        rw [Bool.eq_iff_iff]
        simp only [decide_eq_true_eq, or_xor_zero, hx, hy, List.cons.injEq, and_assoc]
      rw [e]
      exact ih
theorem ps_equal (a b : List UInt8) (hl : a.length ≤ 9223372036854775806) : Ev (fun k => seal_Equal.f k (intsB a) (intsB b)) (decide (a = b)) := by
  by_cases h : a.length = b.length
  · have := eq_l0 a b h hl a.length 0 0 (by omega)
    simp only [List.drop_zero, true_and] at this
    refine Ev.congr (fun k => ?_) this
    unfold seal_Equal.f
    rw [intsB_length, intsB_length, if_pos (by omega)]
    rfl
  · rw [show decide (a = b) = false from decide_eq_false (fun e => h (by rw [e]))]
    refine Ev.congr (fun k => ?_) (Ev.now _)
    unfold seal_Equal.f
    rw [intsB_length, intsB_length, if_neg (by omega)]
/-- The code of a message. -/
def codeOf (k m : List UInt8) : List UInt8 := layerOf k 92 (layerOf k 54 m)
theorem codeOf_length (k m : List UInt8) : (codeOf k m).length = 32 := by unfold codeOf layerOf; rw [Sha.sum_length]
theorem ps_code (k m : List UInt8) (hk : k.length ≤ 1000000000000) (hm : m.length ≤ 1000000000000) : seal_Code.f (intsB k) (intsB m) = some (intsB (codeOf k m)) := by
  unfold seal_Code.f
  have h1 := Ext.seal_layer.f_eq k 54 m hk hm
  have h2 := Ext.seal_layer.f_eq k 92 (layerOf k 54 m) hk (by unfold layerOf; rw [Sha.sum_length]; omega)
  rw [show ((54 : UInt8).toNat : Int) = 54 from rfl] at h1
  rw [show ((92 : UInt8).toNat : Int) = 92 from rfl] at h2
  rw [h1, Option.bind_some, h2]
  rfl
/-- Is a text a name? -/
def namedOf : List UInt8 → Bool
  | [] => false
  | c :: t => c == 36 && named1 (un4 t)
theorem namedOf_cons (c : UInt8) (t : List UInt8) : namedOf (c :: t) = (c == 36 && named1 (un4 t)) := rfl
theorem len32 (r : List UInt8) : (((intsB r).length : Int) == 32) = (r.length == 32) := by
  rw [intsB_length, Bool.eq_iff_iff]
  simp only [beq_iff_eq]
  omega
theorem bs_extract (l : List UInt8) (i j : Nat) : (bs l).extract i j = bs ((l.take j).drop i) := by
  apply ByteArray.ext
  simp [bs, ByteArray.data_extract, List.drop_take]
theorem backOf_bs (l : List UInt8) : backOf (bs l) = (match un4 l with | none => ([], false) | some r => (intsB r, true)) := rfl
theorem cut_dollar (s : List UInt8) : strings_CutPrefix.f (bs s) (⟨#[36]⟩ : ByteArray) = some (match s with | 36 :: t => (bs t, true) | _ => (bs s, false)) := by
  unfold strings_CutPrefix.f stringslite_CutPrefix.f stringslite_HasPrefix.f
  have e0 : (⟨#[36]⟩ : ByteArray) = bs [36] := rfl
  rw [e0]
  match s with
  | [] => rfl
  | c :: t =>
    rw [bs_size, bs_size, if_pos (by simp; omega), if_pos (by simp), if_pos (by simp; omega), bs_extract, bs_extract, bs_toList, bs_toList]
    simp only [List.length_cons, List.length_nil, Nat.zero_add, Int.toNat_natCast, List.take_succ_cons, List.take_zero, List.drop_zero, Option.bind_some]
    by_cases h : c = 36
    · subst h
      rw [if_pos (by rfl), if_pos (by simp), if_pos (by simp; omega)]
      simp
    · have : ([c] == [(36 : UInt8)]) = false := by simpa using h
      rw [this]
      simp only [Bool.false_eq_true, if_false, Option.bind_some]
      split
      · rename_i heq
        exact absurd (List.cons.inj heq).1 h
      · rfl
theorem ps_named (s : List UInt8) (hs : s.length ≤ 1000000000000) : seal_Named.f (bs s) = some (namedOf s) := by
  unfold seal_Named.f
  rw [cut_dollar, Option.bind_some]
  match s with
  | [] => rfl
  | c :: t =>
    have ht : t.length ≤ 1000000000000 := by simp at hs; omega
    rw [namedOf_cons]
    by_cases h : c = 36
    · subst h
      simp only
      rw [Ext.seal_Bytes.f_eq _ (by rw [bs_size]; exact ht), Option.bind_some, backOf_bs]
      cases un4 t with
      | none => rfl
      | some r => simp only [if_true, len32]; rfl
    · have e : (match c :: t with | 36 :: t => (bs t, true) | _ => (bs (c :: t), false)) = (bs (c :: t), false) := by
        split
        · rename_i heq
          exact absurd (List.cons.inj heq).1 h
        · rfl
      rw [e]
      simp only
      rw [Ext.seal_Bytes.f_eq _ (by rw [bs_size]; exact hs), Option.bind_some]
      have h2 : (c == 36) = false := by simpa using h
      rw [h2]
      rfl
theorem ps_known : Ev (fun k => heliastlaw05_known.f k) true := by
  have h1 := Ext.seal_Bytes.f_eq (bs [65, 66]) (by decide)
  have h2 := Ext.seal_Text.f_eq [0, 16, 131] (by decide)
  have h3 := ps_equal [] [] (by decide)
  have h4 := ps_code [] [] (by decide) (by decide)
  have h5 := Ext.seal_ID.f_eq (bs []) (by decide)
  have hl : (idOf []).length ≤ 1000000000000 := by unfold idOf; rw [List.length_cons, text_tx, tx_length, Sha.sum_length]; omega
  have h6 := ps_named (idOf []) hl
  have h7 := ps_named [36] (by decide)
  have b1 : backOf (bs [65, 66]) = ([], false) := by
    rw [backOf_bs, show un4 [65, 66] = none from by decide +kernel]
  have b2 : tx [0, 16, 131] = [65, 66, 67, 68] := by decide +kernel
  have b6 : namedOf (idOf []) = true := by
    unfold idOf
    rw [namedOf_cons, text_tx, un4_tx]
    simp only [named1, Sha.sum_length]
    rfl
  have b7 : namedOf [36] = false := by rfl
  rw [b1] at h1
  rw [b2] at h2
  rw [b6] at h6
  rw [b7] at h7
  have e1 : (⟨#[65, 66]⟩ : ByteArray) = bs [65, 66] := rfl
  have e2 : ([0, 16, 131] : List Int) = intsB [0, 16, 131] := rfl
  have e3 : ([] : List Int) = intsB [] := rfl
  have e4 : (⟨#[]⟩ : ByteArray) = bs [] := rfl
  have e5 : (⟨#[36]⟩ : ByteArray) = bs [36] := rfl
  have e6 : (bs []).data.toList = [] := rfl
  rw [e6] at h5
  have h8 : ((intsB (codeOf [] [])).length : Int) = 32 := by rw [intsB_length, codeOf_length]; rfl
  obtain ⟨C, hC⟩ : ∃ C, intsB (codeOf [] []) = C := ⟨_, rfl⟩
  obtain ⟨I, hI⟩ : ∃ I, idOf [] = I := ⟨_, rfl⟩
  rw [hC] at h4 h8
  rw [hI] at h5 h6
  clear hC hI b6 hl
  refine Ev.congr (fun k => ?_) (Ev.bind (f := fun _ t => if t = true then some true else some false) h3 (Ev.now true))
  unfold heliastlaw05_known.f
  rw [e1]
  rw [h1]
  rw [Option.bind_some]
  rw [e2]
  rw [h2]
  rw [Option.bind_some]
  rw [bs_toList]
  rw [if_pos (show ([65, 66, 67, 68] : List UInt8) = [65, 66, 67, 68] from rfl)]
  rw [if_neg (by simp)]
  rw [e3]
  refine congrArg (Option.bind _) (funext fun t => ?_)
  rw [h4, Option.bind_some, if_pos h8, e4, h5, Option.bind_some, h6, Option.bind_some, if_pos (show true = true from rfl), e5, h7]
  rfl
end Go.Proofs.Ytnhljemnebgekaa
