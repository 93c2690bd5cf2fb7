/-
  The generic functions Clone, Grow and Concat of the package slices at bytes, called as Write calls them, return new rows of the same bytes.
-/
import Derived.Test.YtdbdikgjelhfbaaTake
import Derived.Lib.Walk
import Derived.Lib.SliceRun
import Derived.Test.YtdbdikgjelhfbaaWMore
import Derived.Test.YtdbdikgjelhfbaaWZeros
namespace Go.Proofs.Ytdbdikgjelhfbaa
open Go.RowKit Go.Proofs.YtdbdikgjelhfbaaW.PrintWords Go.Proofs.YtdbdikgjelhfbaaW.PrintLast Go.Proofs.YtdbdikgjelhfbaaW.PrintMore Sha
set_option linter.unusedSimpArgs false
/-- Bytes as numbers, and back. -/
def intsB (l : List UInt8) : List Int := l.map fun c => (c.toNat : Int)
def bytesI (l : List Int) : List UInt8 := l.map fun z => UInt8.ofNat z.toNat
theorem intsB_length (l : List UInt8) : (intsB l).length = l.length := by simp [intsB]
theorem intsB_append (a b : List UInt8) : intsB (a ++ b) = intsB a ++ intsB b := by simp [intsB]
theorem bytesI_intsB (l : List UInt8) : bytesI (intsB l) = l := by
  unfold bytesI intsB
  rw [List.map_map]
  conv => rhs; rw [← List.map_id l]
  exact List.map_congr_left fun c _ => by simp
/-- The bytes are read from a on. -/
def Rd (w : World) (a : Option Addr) (l : List UInt8) : Prop := Kd.C (Kd.int .u8) w a l.length (intsB l)
/-- The bytes lie in a row of the call's own. -/
def OwnB (w : World) (base : Nat) (v : Value) (l : List UInt8) : Prop := Kd.R (Kd.int .u8) 5 w base (fun _ => True) v (intsB l)
theorem Rd.below {w w1 : World} {a : Option Addr} {l : List UInt8} (h : Rd w a l) (hb : Below w.heap.size w w1) : Rd w1 a l := Kd.C_below h hb
theorem Rd.nil (w : World) : Rd w none [] := Kd.C_nil _ w
theorem OwnB.nil (w : World) (base : Nat) : OwnB w base (.slice none 0 0) [] := Kd.R_nil _ _ _ _ _
theorem OwnB.reads {w : World} {base : Nat} {v : Value} {l : List UInt8} (h : OwnB w base v l) : ∃ a c, v = .slice a l.length c ∧ l.length ≤ c ∧ Rd w a l := by
  obtain ⟨a, c, e, hl, hr⟩ := Kd.R_reads h
  rw [intsB_length] at e hl hr
  exact ⟨a, c, e, hl, hr⟩
theorem OwnB.below {w w1 : World} {base : Nat} {v : Value} {l : List UInt8} (h : OwnB w base v l) (hb : Below w.heap.size w w1) : OwnB w1 base v l := Kd.R_below h hb
theorem OwnB.lower {w : World} {base base' : Nat} {v : Value} {l : List UInt8} (h : OwnB w base v l) (hb : base' ≤ base) : OwnB w base' v l := Kd.R_lower h hb
theorem Rd.bytesAt {w : World} {a : Option Addr} {l : List UInt8} (h : Rd w a l) : BytesAt w a l := fun hp => by
  have hr := Kd.reads_of_C (enc := Value.int .u8) (d := (0 : Int)) (h1 := fun _ => rfl) h
  obtain ⟨ad, e, hc⟩ := hr.2.2 hp
  obtain ⟨b, off, spot⟩ := ad
  have h0 := hc 0 hp
  have hs : spot = none := by simpa [Addr.add] using World.cell?_spot h0
  subst hs
  refine ⟨b, off, e, ?_, fun i hi => ?_⟩
  · have := World.block_lt_of_cell? w _ h0
    simpa [Addr.add] using this
  · have := hc i hi
    rw [Addr.add_mid] at this
    rw [this]
    simp [intsB, List.getD_eq_getElem?_getD, List.getElem?_eq_getElem hi]
theorem infoB : (Try.prog.info? 5).map (fun i => (i.zero, i.size, i.bytes)) = some (some (.int .u8 0), 1, 1) := by kernel_rfl
/-- A row that is cut to nothing is still a row of its own. -/
theorem OwnB.cut {w : World} {base : Nat} {g n c : Nat} {l : List UInt8} (h : OwnB w base (.slice (some ⟨g, 0, none⟩) n c) l) : OwnB w base (.slice (some ⟨g, 0, none⟩) 0 c) [] := by
  have ho := Kd.own_of_R h
  refine Kd.R_of_own ?_ (fun _ _ => trivial)
  rcases ho.2 with ⟨e, _⟩ | ⟨g', cap, cur, e, hb, hh, hn, hm, hs, _⟩
  · cases e
  · cases e
    exact ⟨by simp [encs, intsB], .inr ⟨_, _, cur, rfl, hb, hh, Nat.zero_le _, hm, hs, by simp [encs, intsB]⟩⟩

set_option maxRecDepth 100000 in
theorem clone_any (ad : Addr) (c : Nat) (l : List UInt8) (w : World) (hl : l.length ≤ 64) (h : Rd w (some ad) l) :
    Calls Try.prog 22 #[.slice (some ad) l.length c] w fun e w' => ∃ v', e = .returned v' ∧ OwnB w' w.heap.size v' l ∧ Below w.heap.size w w' := by
  have q22 : ∀ (w : World) (a : Option Addr) (n c n' c' : Nat), (binOp .eql 22 (.slice a n c) (.slice none n' c')).run Try.prog w = .ok (.bool a.isNone) w := fun w a n c n' c' => Lib.run_eql_slice_nil w _ _ a n c n' c' Try.underlying22
  have H := Aside0.mk h
  clear h
  go_enter Try.func22, Try.ntmps22
  go_wp2_with (at_builtin; refine Kd.R_append_row (Value.int .u8) (0 : Int) (h1 := fun _ => rfl) (w0 := w) w.heap.size rfl _ _ 22 5 (.int .u8 0) 1 rfl Try.underlying22 infoB rfl (by decide) _ [] (intsB l) (some ad) l.length _ (fun _ => True) rfl rfl (fun _ _ => trivial) ?k1 ?k2 ?k3 ?k4 ?k5 ?_)
  case k1 => exact Kd.R_of_own (World.ownsRow_made w #[] 0 (Nat.le_refl _) (Nat.zero_le _) rfl) (fun _ _ => trivial)
  case k2 => exact Kd.C_alloc H.out _
  case k3 => exact below_alloc (Below.refl _ _) _
  case k4 => simp
  case k5 => simp; omega
  intro v1 w1 hR hB _ _
  go_wp2
  go_ret
  exact ⟨v1, rfl, hR, hB⟩

set_option maxRecDepth 100000 in
theorem grow_nil (w : World) : Calls Try.prog 25 #[.slice none 0 0, .int .i64 0] w fun e w' => ∃ v', e = .returned v' ∧ OwnB w' w.heap.size v' [] ∧ Below w.heap.size w w' := by
  go_enter Try.func25, Try.ntmps25
  go_wp2
  go_ret
  exact ⟨_, rfl, OwnB.nil _ _, Below.refl _ _⟩
set_option maxRecDepth 100000 in
theorem grow_any (n : Nat) (h0 : 0 < n) (hn : n ≤ 140737488351232) (w : World) : Calls Try.prog 25 #[.slice none 0 0, .int .i64 n] w fun e w' => ∃ v', e = .returned v' ∧ OwnB w' w.heap.size v' [] ∧ Below w.heap.size w w' := by
  go_enter Try.func25, Try.ntmps25
  go_wp2_with (at_builtin; refine Kd.R_append_zeros (Kd.int .u8) (w0 := w) w.heap.size rfl _ _ 22 3 5 (.int .u8 0) 1 rfl Try.underlying22 Try.underlying3 infoB rfl (by decide) (by decide) (.slice none 0 0) [] 0 (n : Int) (fun _ => True) rfl rfl ?k1 (fun _ _ => trivial) ?k2 ?k3 ?k4 ?k5 ?k6 ?_)
  case k1 => rfl
  case k2 => exact Kd.R_nil _ _ _ _ _
  case k3 => omega
  case k4 => exact Below.refl _ _
  case k5 => exact Nat.le_refl _
  case k6 => simp; omega
  intro v1 w1 hR hB _ _
  have hR2 : OwnB w1 w.heap.size v1 (List.replicate n 0) := by
    unfold OwnB intsB
    simpa using hR
  clear hR
  have ho := (Kd.own_of_R hR2).2
  rw [intsB_length, List.length_replicate] at ho
  rcases ho with ⟨_, e⟩ | ⟨g, cap, cur, rfl, _⟩
  · omega
  have H := Lib.hid hR2.cut
  clear hR2
  have HB := Lib.hid hB
  clear hB
  go_wp2
  go_ret
  exact ⟨_, rfl, H.out, HB.out⟩
set_option maxRecDepth 100000 in
set_option maxHeartbeats 1000000 in
theorem concat_any (g c : Nat) (a1 a2 : Option Addr) (c1 c2 : Nat) (l1 l2 : List UInt8) (w : World) (hl : l1.length + l2.length ≤ 140737488351232) (h1 : Rd w a1 l1) (h2 : Rd w a2 l2)
    (hg1 : w.cell? ⟨g, 0, none⟩ = some (.slice a1 l1.length c1)) (hg2 : w.cell? ⟨g, 1, none⟩ = some (.slice a2 l2.length c2)) (hlt : g < w.heap.size) :
    Calls Try.prog 20 #[.slice (some ⟨g, 0, none⟩) 2 c] w fun e w' => ∃ v', e = .returned v' ∧ OwnB w' w.heap.size v' (l1 ++ l2) ∧ Below w.heap.size w w' := by
  have H1 := Aside0.mk h1
  have H2 := Aside0.mk h2
  clear h1 h2
  obtain ⟨n1, hn1⟩ : ∃ n, l1.length = n := ⟨_, rfl⟩
  obtain ⟨n2, hn2⟩ : ∃ n, l2.length = n := ⟨_, rfl⟩
  rw [hn1] at hg1 hl
  rw [hn2] at hg2 hl
  have N1 := Lib.hid hn1
  have N2 := Lib.hid hn2
  clear hn1 hn2
  go_enter Try.func20, Try.ntmps20
  go_wp2_with fail
  go_loop [3, 11] (fun s i => ∃ k m : Nat, k ≤ 2 ∧ i = .int .i64 k ∧ s = .int .i64 m ∧ m = (if k = 0 then 0 else if k = 1 then n1 else n1 + n2)) (fun _ i => 2 - (intOf i).toNat)
  case atStart => exact ⟨0, 0, by omega, rfl, rfl, rfl⟩
  case round =>
    obtain ⟨k, m, hk, rfl, rfl, hm⟩ := hrel
    by_cases hk0 : k = 0
    · subst hk0
      have hm2 : m = 0 := hm
      clear hm
      subst hm2
      go_wp2_with fail
      go_round
      case rel => exact ⟨1, n1, by omega, by go_num, by go_num, by simp⟩
      case measure => simp [intOf]
    · by_cases hk1 : k = 1
      · subst hk1
        have hm2 : m = n1 := by simpa using hm
        clear hm
        subst hm2
        go_wp2_with fail
        go_round
        case rel => exact ⟨2, m + n2, by omega, by go_num, by go_num, by simp⟩
        case measure => simp [intOf]
      · obtain rfl : k = 2 := by omega
        have hm2 : m = n1 + n2 := by simpa using hm
        clear hm
        subst hm2
        have hgrow : Calls Try.prog 25 #[.slice none 0 0, .int .i64 ((n1 + n2 : Nat) : Int)] w fun e w' => ∃ v', e = .returned v' ∧ OwnB w' w.heap.size v' [] ∧ Below w.heap.size w w' := by
          by_cases hz : n1 + n2 = 0
          · rw [hz]; exact grow_nil w
          · exact grow_any (n1 + n2) (by omega) hl w
        have HGR := Lib.hid hgrow
        clear hgrow
        go_wp2_with fail
        refine HGR.out.mono ?_
        rintro e w1 ⟨v1, rfl, ho, hb⟩
        obtain ⟨a0, c0, rfl, _, _⟩ := ho.reads
        have HO := Lib.hid ho
        have HB := Lib.hid hb
        clear ho hb
        go_wp2_with fail
        go_loopw [6, 27] (fun v i wr => ∃ (k : Nat) (vv : Value), k ≤ 2 ∧ i = .int .i64 k ∧ v = vv ∧ OwnB wr w.heap.size vv (if k = 0 then [] else if k = 1 then l1 else l1 ++ l2) ∧ Below w.heap.size w wr) (fun _ i _ => 2 - (intOf i).toNat)
        case atStart => exact ⟨0, _, by omega, rfl, rfl, HO.out, HB.out⟩
        case round =>
          obtain ⟨k, v, hk, rfl, rfl, ho, hb⟩ := hrel
          have hc1 : wr.cell? ⟨g, 0, none⟩ = some (.slice a1 n1 c1) := (hb.cell (p := ⟨g, 0, none⟩) hlt).trans hg1
          have hc2 : wr.cell? ⟨g, 1, none⟩ = some (.slice a2 n2 c2) := (hb.cell (p := ⟨g, 1, none⟩) hlt).trans hg2
          by_cases hk0 : k = 0
          · subst hk0
            simp only [if_true] at ho
            have HO2 := Lib.hid ho
            have HB2 := Lib.hid hb
            clear ho hb
            go_wp2_with (at_builtin; refine Kd.R_append_row (Value.int .u8) (0 : Int) (h1 := fun _ => rfl) (w0 := w) w.heap.size rfl _ _ 22 5 (.int .u8 0) 1 rfl Try.underlying22 infoB rfl (by decide) _ [] (intsB l1) a1 n1 c1 (fun _ => True) rfl rfl (fun _ _ => trivial) ?k1 ?k2 ?k3 ?k4 ?k5 ?_)
            case k1 => exact HO2.out
            case k2 => rw [← N1.out]; exact Kd.C_below H1.out HB2.out
            case k3 => exact HB2.out
            case k4 => exact HB2.out.size
            case k5 => simp; omega
            intro v1 w2 hR hB2 _ _
            have HR := Lib.hid hR
            have HB3 := Lib.hid hB2
            clear hR hB2
            go_wp2_with fail
            go_roundw
            case rel => exact ⟨1, _, by omega, by go_num, rfl, HR.out, HB3.out⟩
            case measure => simp [intOf]
          · by_cases hk1 : k = 1
            · subst hk1
              simp only [if_true, if_false, Nat.one_ne_zero] at ho
              have HO2 := Lib.hid ho
              have HB2 := Lib.hid hb
              clear ho hb
              go_wp2_with (at_builtin; refine Kd.R_append_row (Value.int .u8) (0 : Int) (h1 := fun _ => rfl) (w0 := w) w.heap.size rfl _ _ 22 5 (.int .u8 0) 1 rfl Try.underlying22 infoB rfl (by decide) _ (intsB l1) (intsB l2) a2 n2 c2 (fun _ => True) rfl rfl (fun _ _ => trivial) ?k1 ?k2 ?k3 ?k4 ?k5 ?_)
              case k1 => exact HO2.out
              case k2 => rw [← N2.out]; exact Kd.C_below H2.out HB2.out
              case k3 => exact HB2.out
              case k4 => exact HB2.out.size
              case k5 => rw [intsB_length, N1.out]; omega
              intro v1 w2 hR hB2 _ _
              rw [← intsB_append] at hR
              have HR := Lib.hid hR
              have HB3 := Lib.hid hB2
              clear hR hB2
              go_wp2_with fail
              go_roundw
              case rel => exact ⟨2, _, by omega, by go_num, rfl, HR.out, HB3.out⟩
              case measure => simp [intOf]
            · obtain rfl : k = 2 := by omega
              simp only [if_false, show ¬ (2 = 0) by omega, show ¬ (2 = 1) by omega] at ho
              have HO2 := Lib.hid ho
              have HB2 := Lib.hid hb
              clear ho hb
              go_wp2_with fail
              go_ret
              exact ⟨_, rfl, HO2.out, HB2.out⟩
end Go.Proofs.Ytdbdikgjelhfbaa
