/-
  New, Write, Sum and Long of a Hasher and the function Sum of the package digest, in one form: a Hasher that bytes were written to holds these bytes' state.
-/
import Derived.Test.YtdbdikgjelhfbaaWrite
import Derived.Test.YtdbdikgjelhfbaaTail
namespace Go.Proofs.Ytdbdikgjelhfbaa
open Go.RowKit Go.Shelf Sha Go.Proofs.YtdbdikgjelhfbaaW.PrintWords Go.Proofs.YtdbdikgjelhfbaaW.PrintLast Go.Proofs.YtdbdikgjelhfbaaW.PrintMore
set_option linter.unusedSimpArgs false

/-- The bytes d were written to the Hasher in block p. -/
def Holds (W : World) (p : Nat) (d : List UInt8) : Prop :=
  ∃ (al : Option Addr) (cl : Nat), HashAt W p (run init d (d.length / 64)) (.slice al (d.drop (64 * (d.length / 64))).length cl) d.length ∧ Rd W al (d.drop (64 * (d.length / 64))) ∧ ∀ a, al = some a → a.block ≠ p ∧ a.block < W.heap.size
theorem run_append (x : St) (d e : List UInt8) (q : Nat) (hq : 64 * q ≤ d.length) : run x (d ++ e) ((d ++ e).length / 64) = run (run x d q) (d.drop (64 * q) ++ e) ((d.drop (64 * q) ++ e).length / 64) := by
  have h1 : (d ++ e).length / 64 = q + (d.drop (64 * q) ++ e).length / 64 := by simp only [List.length_append, List.length_drop]; omega
  rw [h1, run_more, run_front x d e q hq, List.drop_append_of_le_length hq]
theorem drop_append (d e : List UInt8) (q : Nat) (hq : 64 * q ≤ d.length) : (d ++ e).drop (64 * ((d ++ e).length / 64)) = (d.drop (64 * q) ++ e).drop (64 * ((d.drop (64 * q) ++ e).length / 64)) := by
  have h1 : 64 * ((d ++ e).length / 64) = 64 * q + 64 * ((d.drop (64 * q) ++ e).length / 64) := by simp only [List.length_append, List.length_drop]; omega
  rw [h1, ← List.drop_drop, List.drop_append_of_le_length hq]
theorem Holds.lt {W : World} {p : Nat} {d : List UInt8} (h : Holds W p d) : p < W.heap.size := by
  obtain ⟨_, _, h, _⟩ := h; exact h.lt
/-- Written behind. -/
theorem write_any (p : Nat) (d b : List UInt8) (ab : Option Addr) (cb : Nat) (w : World) (h : Holds w p d) (hb : Rd w ab b) (hab : ∀ a, ab = some a → 0 < b.length → a.block ≠ p) (hlen : d.length + b.length ≤ 1099511627776) :
    Calls Try.prog 11 #[.pointer (some ⟨p, 0, none⟩), .slice ab b.length cb] w fun e w' => e = .returned (.int .i64 b.length) ∧ Holds w' p (d ++ b) ∧ w.grownBy w' (some p) := by
  obtain ⟨al, cl, hp, hl, hal⟩ := h
  refine callsIn_wide.1 ((write_in p _ al cl _ b d.length ab cb w hp hl hb (fun a e => (hal a e).1) hab (by rw [List.length_drop]; omega) (by omega)).mono ?_)
  rintro e w' ⟨rfl, v, h1, h2, h3⟩
  have hq : 64 * (d.length / 64) ≤ d.length := by omega
  rw [← run_append init d b _ hq] at h1
  rw [← drop_append d b _ hq] at h2
  rw [← List.length_append] at h1
  obtain ⟨a2, c2, rfl, hc2, hr2⟩ := h2.reads
  refine ⟨rfl, ⟨a2, c2, h1, hr2, fun a e => ?_⟩, h3⟩
  have := h2.form.2.2 a e
  have hpl := hp.lt
  exact ⟨by omega, this.2⟩

def initV : Array Value := hashV init (.slice none 0 0) 0
set_option maxRecDepth 100000 in
theorem new_any (w : World) : Calls Try.prog 10 #[] w fun e w' => ∃ p, e = .returned (.pointer (some ⟨p, 0, none⟩)) ∧ Holds w' p [] ∧ w.heap.size ≤ p ∧ Below w.heap.size w w' := by
  go_enter Try.func10, Try.ntmps10
  go_wp2
  go_ret
  refine ⟨w.heap.size, rfl, ⟨none, 0, ?_, Rd.nil _, fun a e => by cases e⟩, Nat.le_refl _, by go_grown⟩
  exact heap_alloc_new _ _
set_option maxRecDepth 100000 in
theorem write_nil (v : Value) (a : Option Addr) (n c : Nat) (hv : v = .slice a n c) (w : World) : Calls Try.prog 11 #[.pointer none, v] w fun e w' => e = .returned (.int .i64 0) ∧ Below w.heap.size w w' := by
  subst hv
  go_enter Try.func11, Try.ntmps11
  go_wp2_with fail
  go_ret
  exact ⟨rfl, by go_grown⟩

/-- A word's four bytes, as the walk tells them. -/
theorem bytes4_int (x : Sha.W) : intsB (bytes4 x) = [IntKind.u8.wrap ((x.toNat : Int) / 16777216), IntKind.u8.wrap ((x.toNat : Int) / 65536), IntKind.u8.wrap ((x.toNat : Int) / 256), IntKind.u8.wrap (x.toNat : Int)] := by
  simp only [bytes4, intsB, List.map_cons, List.map_nil, IntKind.wrap_u8, UInt8.toNat_ofNat']
  simp
theorem bytes4_int' (x : Sha.W) : intsB (bytes4 x) = [(x.toNat : Int) / 16777216, (x.toNat : Int) / 65536 % 256, (x.toNat : Int) / 256 % 256, (x.toNat : Int) % 256] := by
  rw [bytes4_int]
  have := x.isLt
  simp only [IntKind.wrap_u8]
  congr 1
  omega
/-- A new block of four bytes is read. -/
theorem four_read (w : World) (y0 y1 y2 y3 : Int) (T : TypeId) : (Kd.int .u8).C (w.alloc (.cells #[.int .u8 y0, .int .u8 y1, .int .u8 y2, .int .u8 y3] T)) (some ⟨w.heap.size, 0, none⟩) 4 [y0, y1, y2, y3] := by
  refine Kd.C_of_reads (d := (0 : Int)) ⟨rfl, by omega, fun _ => ⟨_, rfl, fun j hj => ?_⟩⟩
  rw [Addr.add_mid, Nat.zero_add, cell_of_row _ _ j _ T (0, 0) (heap_alloc_new w _)]
  have : j = 0 ∨ j = 1 ∨ j = 2 ∨ j = 3 := by omega
  rcases this with rfl | rfl | rfl | rfl <;> rfl
def outTo (x : St) (k : Nat) : List UInt8 := (x.list.take k).flatMap bytes4
theorem outTo_succ (x : St) (k : Nat) (h : k < 8) : outTo x (k + 1) = outTo x k ++ bytes4 (x.list.getD k 0) := by
  have hl : k < x.list.length := h
  unfold outTo
  rw [List.take_succ_eq_append_getElem hl, List.flatMap_append, List.getD_eq_getElem?_getD, List.getElem?_eq_getElem hl]
  simp
theorem outTo_length (x : St) : ∀ k, k ≤ 8 → (outTo x k).length = 4 * k
  | 0, _ => rfl
  | k + 1, h => by rw [outTo_succ x k (by omega), List.length_append, outTo_length x k (by omega)]; rfl

set_option maxRecDepth 100000 in
set_option maxHeartbeats 1000000 in
theorem hsum_any (p : Nat) (d : List UInt8) (w : World) (h : Holds w p d) (hlen : d.length ≤ 1099511000000) :
    Calls Try.prog 12 #[.pointer (some ⟨p, 0, none⟩)] w fun e w' => ∃ v, e = .returned v ∧ OwnB w' w.heap.size v (Sha.sum d) ∧ Below w.heap.size w w' := by
  obtain ⟨al, cl, hp, hl, hal⟩ := h
  obtain ⟨st, hst⟩ : ∃ st, run init d (d.length / 64) = st := ⟨_, rfl⟩
  rw [hst] at hp
  obtain ⟨sA, sB, sC, sD, sE, sF, sG, sH⟩ := st
  obtain ⟨n, hn⟩ : ∃ n, d.length = n := ⟨_, rfl⟩
  obtain ⟨nl, hnl⟩ : ∃ nl, (d.drop (64 * (d.length / 64))).length = nl := ⟨_, rfl⟩
  rw [hnl] at hp
  rw [hn] at hp hlen
  have c0 : w.cell? ⟨p, 0, none⟩ = some (.int .u32 (sA.toNat : Int)) := hp.cell rfl
  have c1 : w.cell? ⟨p, 1, none⟩ = some (.int .u32 (sB.toNat : Int)) := hp.cell rfl
  have c2 : w.cell? ⟨p, 2, none⟩ = some (.int .u32 (sC.toNat : Int)) := hp.cell rfl
  have c3 : w.cell? ⟨p, 3, none⟩ = some (.int .u32 (sD.toNat : Int)) := hp.cell rfl
  have c4 : w.cell? ⟨p, 4, none⟩ = some (.int .u32 (sE.toNat : Int)) := hp.cell rfl
  have c5 : w.cell? ⟨p, 5, none⟩ = some (.int .u32 (sF.toNat : Int)) := hp.cell rfl
  have c6 : w.cell? ⟨p, 6, none⟩ = some (.int .u32 (sG.toNat : Int)) := hp.cell rfl
  have c7 : w.cell? ⟨p, 7, none⟩ = some (.int .u32 (sH.toNat : Int)) := hp.cell rfl
  have c8 : w.cell? ⟨p, 8, none⟩ = some (.slice al nl cl) := hp.cell rfl
  have c9 : w.cell? ⟨p, 9, none⟩ = some (.int .u64 (n : Int)) := hp.cell rfl
  have hpl := hp.lt
  have HP := Lib.hid hp; have HST := Lib.hid hst; have HN := Lib.hid hn; have HNL := Lib.hid hnl; have HL := Lib.hid hl; have HAL := Lib.hid hal
  clear hp hst hn hnl hl hal
  go_enter Try.func12, Try.ntmps12
  go_wp2_with fail
  obtain ⟨W1, hW1⟩ : ∃ W1, w.alloc (.cells #[.int .u32 (sA.toNat : Int), .int .u32 (sB.toNat : Int), .int .u32 (sC.toNat : Int), .int .u32 (sD.toNat : Int), .int .u32 (sE.toNat : Int), .int .u32 (sF.toNat : Int), .int .u32 (sG.toNat : Int), .int .u32 (sH.toNat : Int), .slice al nl cl, .int .u64 (n : Int)] 47) = W1 := ⟨_, rfl⟩
  rw [hW1]
  have hold : Holds W1 w.heap.size d := by
    refine ⟨al, cl, ?_, HL.out.below (by rw [← hW1]; exact (Below.refl _ w).alloc (Nat.le_refl _) _), fun a e => ?_⟩
    · rw [HST.out, HNL.out, HN.out, ← hW1]; exact heap_alloc_new _ _
    · have := HAL.out a e
      rw [← hW1]; simp; omega
  have hb1 : Below w.heap.size w W1 := by rw [← hW1]; exact (Below.refl _ w).alloc (Nat.le_refl _) _
  have hs1 : W1.heap.size = w.heap.size + 1 := by rw [← hW1]; simp
  refine (tail_any n (by omega) W1).mono ?_
  rintro e W2 ⟨v, rfl, ho, hb2⟩
  obtain ⟨a2, k2, rfl, hk2, hr2⟩ := ho.reads
  have hold2 : Holds W2 w.heap.size d := by
    obtain ⟨al', cl', h1, h2, h3⟩ := hold
    exact ⟨al', cl', h1.below hb2, h2.below hb2, fun a e => ⟨(h3 a e).1, Nat.lt_of_lt_of_le (h3 a e).2 hb2.size⟩⟩
  have hwr := write_any w.heap.size d (tail n) a2 k2 W2 hold2 hr2 (fun a e _ => by have := ho.form.2.2 a e; omega) (by rw [tail_length, HN.out]; have : room n < 64 := Nat.mod_lt _ (by decide); omega)
  have HW := Lib.hid hwr; have HB1 := Lib.hid hb1; have HB2 := Lib.hid hb2; have HS1 := Lib.hid hs1
  clear hwr hold2 hr2 ho hold hW1 hb1 hb2 hs1
  go_wp2_with fail
  refine HW.out.mono ?_
  rintro e W3 ⟨rfl, hold3, hg3⟩
  obtain ⟨al3, cl3, hp3, _, _⟩ := hold3
  have hlen3 : (d ++ tail n).length / 64 = (d.length + (tail d.length).length) / 64 := by rw [List.length_append, HN.out]
  have hst3 : out (run init (d ++ tail n) ((d ++ tail n).length / 64)) = Sha.sum d := by
    unfold Sha.sum; rw [hlen3, HN.out]
  obtain ⟨st, hst⟩ : ∃ st, run init (d ++ tail n) ((d ++ tail n).length / 64) = st := ⟨_, rfl⟩
  rw [hst] at hp3 hst3
  obtain ⟨q0, q1, q2, q3, q4, q5, q6, q7⟩ := st
  have HST3 := Lib.hid hst3
  clear hst3 hlen3 hst c0 c1 c2 c3 c4 c5 c6 c7 c8 c9
  have c0 : W3.cell? ⟨w.heap.size, 0, none⟩ = some (.int .u32 (q0.toNat : Int)) := hp3.cell rfl
  have c1 : W3.cell? ⟨w.heap.size, 1, none⟩ = some (.int .u32 (q1.toNat : Int)) := hp3.cell rfl
  have c2 : W3.cell? ⟨w.heap.size, 2, none⟩ = some (.int .u32 (q2.toNat : Int)) := hp3.cell rfl
  have c3 : W3.cell? ⟨w.heap.size, 3, none⟩ = some (.int .u32 (q3.toNat : Int)) := hp3.cell rfl
  have c4 : W3.cell? ⟨w.heap.size, 4, none⟩ = some (.int .u32 (q4.toNat : Int)) := hp3.cell rfl
  have c5 : W3.cell? ⟨w.heap.size, 5, none⟩ = some (.int .u32 (q5.toNat : Int)) := hp3.cell rfl
  have c6 : W3.cell? ⟨w.heap.size, 6, none⟩ = some (.int .u32 (q6.toNat : Int)) := hp3.cell rfl
  have c7 : W3.cell? ⟨w.heap.size, 7, none⟩ = some (.int .u32 (q7.toNat : Int)) := hp3.cell rfl
  have hB3 : Below w.heap.size w W3 := by
    have h2 : Below w.heap.size w W2 := HB1.out.trans (HB2.out.mono (by have := HS1.out; omega))
    exact ⟨hg3.os.trans h2.os, hg3.tape.trans h2.tape, hg3.output.trans h2.output, Nat.le_trans h2.size hg3.size, fun k hk => (hg3.block k (Nat.lt_of_lt_of_le hk h2.size) (by simp; omega)).trans (h2.block k hk)⟩
  have HB3 := Lib.hid hB3
  clear hB3 hg3 hp3
  go_wp2_with fail
  obtain ⟨KV, hKV⟩ : ∃ KV : Array Value, #[.int .u32 (q0.toNat : Int), .int .u32 (q1.toNat : Int), .int .u32 (q2.toNat : Int), .int .u32 (q3.toNat : Int), .int .u32 (q4.toNat : Int), .int .u32 (q5.toNat : Int), .int .u32 (q6.toNat : Int), .int .u32 (q7.toNat : Int)] = KV := ⟨_, rfl⟩
  rw [hKV]
  have hkv : KV = (u32s (St.list ⟨q0, q1, q2, q3, q4, q5, q6, q7⟩)).toArray := hKV.symm
  have HKV := Lib.hid hkv
  clear hKV hkv c0 c1 c2 c3 c4 c5 c6 c7
  obtain ⟨st, hst⟩ : ∃ st : St, ⟨q0, q1, q2, q3, q4, q5, q6, q7⟩ = st := ⟨_, rfl⟩
  rw [hst] at HKV HST3
  clear hst
  go_loopw [4, 21] (fun v i wr => ∃ (k : Nat) (vv : Value), k ≤ 8 ∧ i = .int .i64 k ∧ v = vv ∧ OwnB wr w.heap.size vv (outTo st k) ∧ Below w.heap.size w wr) (fun _ i _ => 8 - (intOf i).toNat)
  case atStart => exact ⟨0, _, by omega, rfl, rfl, OwnB.nil _ _, HB3.out⟩
  case round =>
    obtain ⟨k, v, hk, rfl, rfl, ho, hb⟩ := hrel
    obtain ⟨a4, k4, rfl, _, _⟩ := ho.reads
    have hlo := outTo_length st k hk
    rw [hlo] at ho ⊢
    have HO := Lib.hid ho; have HB := Lib.hid hb
    clear ho hb
    by_cases hlt : k < 8
    · obtain ⟨xk, hxk⟩ : ∃ x, st.list.getD k 0 = x := ⟨_, rfl⟩
      have ck : KV[k]? = some (.int .u32 (xk.toNat : Int)) := by
        have hl : k < st.list.length := hlt
        rw [HKV.out, ← hxk, List.getD_eq_getElem?_getD]
        simp [u32s, List.getElem?_eq_getElem hl]
      have hks : KV.size = 8 := by rw [HKV.out]; rfl
      have hki : (k : Int) < 8 := by omega
      have hidx : ∀ wr : World, (Instr.index 45 (.agg KV) (.int .i64 (k : Int))).run Try.prog wr = .ok (.int .u32 (xk.toNat : Int)) wr := fun wr => by
        have hs43 : (sizeOf 43).run Try.prog wr = .ok 1 wr := by
          have h := info43
          cases hi : Try.prog.info? 43 with
          | none => rw [hi] at h; simp at h
          | some i43 => rw [hi] at h; simp at h; simp [sizeOf, typeInfo, hi, h]
        simp [Instr.index, run_underlying Try.underlying45, asIntOf, hki, hs43, part, go_sem, ck]
        intro hbad; omega
      have HXK := Lib.hid hxk
      have hxl := xk.isLt
      clear hxk ck hks
      have hy := bytes4_int' xk
      obtain ⟨y0, hy0⟩ : ∃ y, (xk.toNat : Int) / 16777216 = y := ⟨_, rfl⟩
      have HY := Lib.hid hy
      clear hy
      clear hy0 y0
      go_wp2_with (at_builtin; refine Kd.R_append_row (Value.int .u8) (0 : Int) (h1 := fun _ => rfl) (w0 := w) w.heap.size rfl _ _ 22 5 (.int .u8 0) 1 rfl Try.underlying22 infoB rfl (by decide) _ (intsB (outTo st k)) [(xk.toNat : Int) / 16777216, (xk.toNat : Int) / 65536 % 256, (xk.toNat : Int) / 256 % 256, (xk.toNat : Int) % 256] (some ⟨wr.heap.size, 0, none⟩) 4 4 (fun _ => True) rfl rfl (fun _ _ => trivial) ?k1 ?k2 ?k3 ?k4 ?k5 ?_)
      case k1 => exact HO.out.below (below_alloc (Below.refl _ _) _)
      case k2 => exact four_read wr _ _ _ _ 5
      case k3 => exact HB.out.alloc HB.out.size _
      case k4 => have := HB.out.size; simp; omega
      case k5 => rw [intsB_length, hlo]; omega
      intro v1 w2 hR hB2 _ _
      rw [← HY.out, ← intsB_append] at hR
      have hR2 : OwnB w2 w.heap.size v1 (outTo st (k + 1)) := by rw [outTo_succ st k hlt, HXK.out]; exact hR
      have HR := Lib.hid hR2
      have HB3 := Lib.hid hB2
      clear hR hR2 hB2
      go_wp2_with fail
      go_roundw
      case rel => exact ⟨k + 1, _, by omega, by go_num, rfl, HR.out, HB3.out⟩
      case measure => simp [intOf]; omega
    · obtain rfl : k = 8 := by omega
      go_wp2_with fail
      go_ret
      have hf : outTo st 8 = Sha.sum d := HST3.out
      exact ⟨_, rfl, by rw [← hf]; exact HO.out, HB.out⟩
end Go.Proofs.Ytdbdikgjelhfbaa
