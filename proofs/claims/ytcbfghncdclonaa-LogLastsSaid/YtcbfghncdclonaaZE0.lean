/-
  Texts of this session, merged in build order: LFront, LAll, LKeep, LSteps, LOpen2, LOpen, LPut, Open, LSame, LFrames, LKnown.
-/
import Derived.Test.YtcbfghncdclonaaZC0
import Derived.Test.YtcbfghncdclonaaZD0
import Derived.WalkKit
import Derived.ProofKit
import Derived.OpenShut
import Derived.ShutString
import Derived.ChangeOld
import Derived.Below
import Derived.SizedLaws
import Derived.SliceStrings
set_option linter.unusedVariables false
set_option linter.unusedSimpArgs false
/-
  Small laws of texts, for the walks of the disk's laws.
-/
namespace Go.Proofs.Ytcbfghncdclonaa
open Go.RowKit Go.Maps Go.Lib
set_option linter.unusedSimpArgs false
set_option linter.unusedVariables false
theorem u8_int {z : Int} (h : (Lit.int .u8 z).wf = true) : ∃ n : Nat, z = n ∧ n ≤ 255 := by
  have : 0 ≤ z ∧ z ≤ 255 := by simpa [Lit.wf, IntKind.min, IntKind.max, IntKind.signed, IntKind.bits] using h
  exact ⟨z.toNat, by omega, by omega⟩
/-- A text that is all of one and a front of another. -/
theorem front_of (a b : ByteArray) (q : Nat) (hq : q ≤ b.size) (Z : ByteArray) (hZ : bsL (a.data.toList ++ b.data.toList.take q) = Z) : Z.size = a.size + q ∧ (Z.extract 0 a.size).toList = a.toList ∧ ((a ++ b).extract 0 Z.size).toList = Z.toList := by
  have hl : (a.data.toList ++ b.data.toList.take q).length = a.size + q := by rw [List.length_append, dl, List.length_take, dl]; omega
  have hs : Z.size = a.size + q := by rw [← hZ, bsL_size, hl]
  have hd : Z.data.toList = a.data.toList ++ b.data.toList.take q := by rw [← hZ, bsL_toList]
  refine ⟨hs, ?_, ?_⟩
  · rw [extract_bs, bsL_tl, hd, List.drop_zero, List.take_append_of_le_length (by rw [dl]; exact Nat.le_refl _), List.take_of_length_le (by rw [dl]; exact Nat.le_refl _), ByteArray.toList_eq]
  · rw [extract_bs, bsL_tl, app_dl, hs, List.drop_zero, ByteArray.toList_eq, hd]
    have : a.size + q = a.data.toList.length + q := by rw [dl]
    rw [this, List.take_length_add_append]
theorem new_1000 : newS 1000 = ⟨1000, [], false, 0, false⟩ := by rfl
theorem nm_f : ([102] : Nm) ≠ [] := by simp
end Go.Proofs.Ytcbfghncdclonaa

/-
  all: two steps, one after another, till one fails.
-/
namespace Go.Proofs.Ytcbfghncdclonaa
open Go.RowKit Go.Maps Go.Lib
set_option linter.unusedSimpArgs false
set_option linter.unusedVariables false
def OneDone (k : Nat) (Q : World → Prop) (e : Ending) (w' : World) : Prop := e = .returned (.int .u16 (k : Int)) ∧ Q w'
set_option maxRecDepth 100000 in
theorem all_stop_29 (g : Nat) (A C : Array Value) {w : World} {t : TypeId} (hg : w.heap[g]? = some (.cells #[.func (.func 29) #[] A, .func (.func 30) #[] C] t)) (k : Nat) (hk : k ≠ 0) (Φ : World → Prop)
    (ha : Calls Try.prog 29 A w (OneDone k Φ)) :
    Calls Try.prog 28 #[.slice (some ⟨g, 0, none⟩) 2 2] w (OneDone k Φ) := by
  obtain ⟨c0, c1⟩ := cells2 hg
  have hne : ((k : Int) == 0) = false := beq_eq_false_iff_ne.2 (by omega)
  have HA := Lib.hid ha
  clear ha hg c1
  go_enter Try.func28, Try.ntmps28
  go_wp2_with fail
  refine wp_loop_rounds 3 ?_
  rw [rounds_succ]
  go_wp2_with fail
  refine HA.out.mono ?_
  rintro e w1 ⟨rfl, hq⟩
  have HQ := Lib.hid hq; clear hq
  go_wp2_with fail
  go_ret
  exact ⟨rfl, HQ.out⟩
set_option maxRecDepth 100000 in
theorem all_both_29 (g : Nat) (A C : Array Value) {w : World} {t : TypeId} (hg : w.heap[g]? = some (.cells #[.func (.func 29) #[] A, .func (.func 30) #[] C] t)) (k : Nat) (Φ Ψ : World → Prop)
    (ha : Calls Try.prog 29 A w (OneDone 0 Φ)) (hk : ∀ w1, Φ w1 → w1.heap[g]? = w.heap[g]?)
    (hb : ∀ w1, Φ w1 → Calls Try.prog 30 C w1 (OneDone k Ψ)) :
    Calls Try.prog 28 #[.slice (some ⟨g, 0, none⟩) 2 2] w (OneDone k Ψ) := by
  obtain ⟨c0, _⟩ := cells2 hg
  have HA := Lib.hid ha; have HB := Lib.hid hb; have HK := Lib.hid fun w1 h => (cells2 ((hk w1 h).trans hg)).2
  clear ha hg hb hk
  go_enter Try.func28, Try.ntmps28
  go_wp2_with fail
  refine wp_loop_rounds 3 ?_
  rw [rounds_succ]
  go_wp2_with fail
  refine HA.out.mono ?_
  rintro e w1 ⟨rfl, hq⟩
  have c1 := HK.out w1 hq
  have HB1 := Lib.hid (HB.out w1 hq)
  clear hq c0 HA HB HK
  go_wp2_with fail
  rw [rounds_succ]
  go_wp2_with fail
  refine HB1.out.mono ?_
  rintro e w2 ⟨rfl, hq⟩
  have HQ := Lib.hid hq; clear hq
  rcases Nat.eq_zero_or_pos k with rfl | hp
  · go_wp2_with fail
    rw [rounds_succ]
    go_wp2_with fail
    go_ret
    exact ⟨rfl, HQ.out⟩
  · have hne : ((k : Int) == 0) = false := beq_eq_false_iff_ne.2 (by omega)
    go_wp2_with fail
    go_ret
    exact ⟨rfl, HQ.out⟩
set_option maxRecDepth 100000 in
theorem all_stop_32 (g : Nat) (A C : Array Value) {w : World} {t : TypeId} (hg : w.heap[g]? = some (.cells #[.func (.func 32) #[] A, .func (.func 34) #[] C] t)) (k : Nat) (hk : k ≠ 0) (Φ : World → Prop)
    (ha : Calls Try.prog 32 A w (OneDone k Φ)) :
    Calls Try.prog 28 #[.slice (some ⟨g, 0, none⟩) 2 2] w (OneDone k Φ) := by
  obtain ⟨c0, c1⟩ := cells2 hg
  have hne : ((k : Int) == 0) = false := beq_eq_false_iff_ne.2 (by omega)
  have HA := Lib.hid ha
  clear ha hg c1
  go_enter Try.func28, Try.ntmps28
  go_wp2_with fail
  refine wp_loop_rounds 3 ?_
  rw [rounds_succ]
  go_wp2_with fail
  refine HA.out.mono ?_
  rintro e w1 ⟨rfl, hq⟩
  have HQ := Lib.hid hq; clear hq
  go_wp2_with fail
  go_ret
  exact ⟨rfl, HQ.out⟩
set_option maxRecDepth 100000 in
theorem all_both_32 (g : Nat) (A C : Array Value) {w : World} {t : TypeId} (hg : w.heap[g]? = some (.cells #[.func (.func 32) #[] A, .func (.func 34) #[] C] t)) (k : Nat) (Φ Ψ : World → Prop)
    (ha : Calls Try.prog 32 A w (OneDone 0 Φ)) (hk : ∀ w1, Φ w1 → w1.heap[g]? = w.heap[g]?)
    (hb : ∀ w1, Φ w1 → Calls Try.prog 34 C w1 (OneDone k Ψ)) :
    Calls Try.prog 28 #[.slice (some ⟨g, 0, none⟩) 2 2] w (OneDone k Ψ) := by
  obtain ⟨c0, _⟩ := cells2 hg
  have HA := Lib.hid ha; have HB := Lib.hid hb; have HK := Lib.hid fun w1 h => (cells2 ((hk w1 h).trans hg)).2
  clear ha hg hb hk
  go_enter Try.func28, Try.ntmps28
  go_wp2_with fail
  refine wp_loop_rounds 3 ?_
  rw [rounds_succ]
  go_wp2_with fail
  refine HA.out.mono ?_
  rintro e w1 ⟨rfl, hq⟩
  have c1 := HK.out w1 hq
  have HB1 := Lib.hid (HB.out w1 hq)
  clear hq c0 HA HB HK
  go_wp2_with fail
  rw [rounds_succ]
  go_wp2_with fail
  refine HB1.out.mono ?_
  rintro e w2 ⟨rfl, hq⟩
  have HQ := Lib.hid hq; clear hq
  rcases Nat.eq_zero_or_pos k with rfl | hp
  · go_wp2_with fail
    rw [rounds_succ]
    go_wp2_with fail
    go_ret
    exact ⟨rfl, HQ.out⟩
  · have hne : ((k : Int) == 0) = false := beq_eq_false_iff_ne.2 (by omega)
    go_wp2_with fail
    go_ret
    exact ⟨rfl, HQ.out⟩
set_option maxRecDepth 100000 in
theorem all_stop_37 (g : Nat) (A C : Array Value) {w : World} {t : TypeId} (hg : w.heap[g]? = some (.cells #[.func (.func 37) #[] A, .func (.func 38) #[] C] t)) (k : Nat) (hk : k ≠ 0) (Φ : World → Prop)
    (ha : Calls Try.prog 37 A w (OneDone k Φ)) :
    Calls Try.prog 28 #[.slice (some ⟨g, 0, none⟩) 2 2] w (OneDone k Φ) := by
  obtain ⟨c0, c1⟩ := cells2 hg
  have hne : ((k : Int) == 0) = false := beq_eq_false_iff_ne.2 (by omega)
  have HA := Lib.hid ha
  clear ha hg c1
  go_enter Try.func28, Try.ntmps28
  go_wp2_with fail
  refine wp_loop_rounds 3 ?_
  rw [rounds_succ]
  go_wp2_with fail
  refine HA.out.mono ?_
  rintro e w1 ⟨rfl, hq⟩
  have HQ := Lib.hid hq; clear hq
  go_wp2_with fail
  go_ret
  exact ⟨rfl, HQ.out⟩
set_option maxRecDepth 100000 in
theorem all_both_37 (g : Nat) (A C : Array Value) {w : World} {t : TypeId} (hg : w.heap[g]? = some (.cells #[.func (.func 37) #[] A, .func (.func 38) #[] C] t)) (k : Nat) (Φ Ψ : World → Prop)
    (ha : Calls Try.prog 37 A w (OneDone 0 Φ)) (hk : ∀ w1, Φ w1 → w1.heap[g]? = w.heap[g]?)
    (hb : ∀ w1, Φ w1 → Calls Try.prog 38 C w1 (OneDone k Ψ)) :
    Calls Try.prog 28 #[.slice (some ⟨g, 0, none⟩) 2 2] w (OneDone k Ψ) := by
  obtain ⟨c0, _⟩ := cells2 hg
  have HA := Lib.hid ha; have HB := Lib.hid hb; have HK := Lib.hid fun w1 h => (cells2 ((hk w1 h).trans hg)).2
  clear ha hg hb hk
  go_enter Try.func28, Try.ntmps28
  go_wp2_with fail
  refine wp_loop_rounds 3 ?_
  rw [rounds_succ]
  go_wp2_with fail
  refine HA.out.mono ?_
  rintro e w1 ⟨rfl, hq⟩
  have c1 := HK.out w1 hq
  have HB1 := Lib.hid (HB.out w1 hq)
  clear hq c0 HA HB HK
  go_wp2_with fail
  rw [rounds_succ]
  go_wp2_with fail
  refine HB1.out.mono ?_
  rintro e w2 ⟨rfl, hq⟩
  have HQ := Lib.hid hq; clear hq
  rcases Nat.eq_zero_or_pos k with rfl | hp
  · go_wp2_with fail
    rw [rounds_succ]
    go_wp2_with fail
    go_ret
    exact ⟨rfl, HQ.out⟩
  · have hne : ((k : Int) == 0) = false := beq_eq_false_iff_ne.2 (by omega)
    go_wp2_with fail
    go_ret
    exact ⟨rfl, HQ.out⟩
end Go.Proofs.Ytcbfghncdclonaa

/-
  A disk of a call's own, and objects that lie beside it: what the disk's calls leave as it was.
-/
namespace Go.Proofs.Ytcbfghncdclonaa
open Go.RowKit Go.Maps Go.Lib
set_option linter.unusedSimpArgs false
set_option linter.unusedVariables false
def LogW (B : Nat) (w0 : World) (p : Nat) (s : Ds) (K : List (Nat × Obj)) (w : World) : Prop :=
  ∃ S, DiskAt w p s S ∧ (∀ k ∈ S, B ≤ k) ∧ Below B w0 w ∧ (∀ x ∈ K, B ≤ x.1 ∧ x.1 ∉ S ∧ w.heap[x.1]? = some x.2) ∧ (K.map (·.1)).Nodup
section
variable {B : Nat} {w0 w w' : World} {p : Nat} {s s' : Ds} {K K' : List (Nat × Obj)}
theorem LogW.of_mine (h : Mine B w0 p s w) : LogW B w0 p s [] w := by
  obtain ⟨S, h1, h2, h3⟩ := h
  exact ⟨S, h1, h2, h3, (fun _ h => by cases h), List.nodup_nil⟩
theorem LogW.mine (h : LogW B w0 p s K w) : Mine B w0 p s w := by
  obtain ⟨S, h1, h2, h3, _⟩ := h
  exact ⟨S, h1, h2, h3⟩
theorem LogW.wf (h : LogW B w0 p s K w) : WF s := by
  obtain ⟨S, h1, _⟩ := h
  exact h1.wf
theorem LogW.size (h : LogW B w0 p s K w) (hB : B ≤ w0.heap.size) : B ≤ w.heap.size := h.mine.size hB
theorem LogW.belowW (h : LogW B w0 p s K w) : Below B w0 w := h.mine.below
theorem LogW.sub (h : LogW B w0 p s K w) (hs : K'.Sublist K) : LogW B w0 p s K' w := by
  obtain ⟨S, h1, h2, h3, h4, h5⟩ := h
  exact ⟨S, h1, h2, h3, fun x hx => h4 x (hs.subset hx), h5.sublist (hs.map _)⟩
theorem LogW.perm (h : LogW B w0 p s K w) (hs : K.Perm K') : LogW B w0 p s K' w := by
  obtain ⟨S, h1, h2, h3, h4, h5⟩ := h
  exact ⟨S, h1, h2, h3, fun x hx => h4 x (hs.mem_iff.2 hx), (hs.map _).nodup_iff.1 h5⟩
theorem LogW.get (h : LogW B w0 p s K w) {g : Nat} {o : Obj} (hm : (g, o) ∈ K) : w.heap[g]? = some o := by
  obtain ⟨S, h1, h2, h3, h4, h5⟩ := h
  exact (h4 _ hm).2.2
theorem LogW.turn {S S' : List Nat} (hB : B ≤ w0.heap.size) (h2 : ∀ k ∈ S, B ≤ k) (h3 : Below B w0 w) (h4 : ∀ x ∈ K, B ≤ x.1 ∧ x.1 ∉ S ∧ w.heap[x.1]? = some x.2) (h5 : (K.map (·.1)).Nodup) (hd : DiskAt w' p s' S') (ht : Turns S S' w w') : LogW B w0 p s' K w' := by
  have hsz : B ≤ w.heap.size := Nat.le_trans hB h3.size
  refine ⟨S', hd, fun k hk => ?_, h3.trans (ht.below h2 hsz), fun x hx => ?_, h5⟩
  · rcases ht.foot k hk with h | h
    · exact h2 k h
    · omega
  · obtain ⟨a, b, c⟩ := h4 x hx
    have hl := heap_lt c
    refine ⟨a, fun hm => ?_, (ht.block _ hl b).trans c⟩
    rcases ht.foot _ hm with h | h
    · exact b h
    · omega
theorem LogW.below (h : LogW B w0 p s K w) (hB : B ≤ w0.heap.size) (hb : Below w.heap.size w w') : LogW B w0 p s K w' := by
  obtain ⟨S, h1, h2, h3, h4, h5⟩ := h
  exact LogW.turn hB h2 h3 h4 h5 (h1.below hb) (Turns.of_below hb)
theorem LogW.add (h : LogW B w0 p s K w) (hB : B ≤ w0.heap.size) (hb : Below w.heap.size w w') {g : Nat} {o : Obj} (hg : w.heap.size ≤ g) (ho : w'.heap[g]? = some o) : LogW B w0 p s ((g, o) :: K) w' := by
  have hsz := h.size hB
  have hl : ∀ x ∈ K, x.1 < w.heap.size := fun x hx => heap_lt (h.get (g := x.1) (o := x.2) hx)
  obtain ⟨S, h1, h2, h3, h4, h5⟩ := h
  obtain ⟨S', k1, k2, k3, k4, k5⟩ := LogW.turn hB h2 h3 h4 h5 (h1.below hb) (Turns.of_below hb)
  have kS : ∀ k ∈ S, k < w.heap.size := h1.lt
  refine ⟨S, h1.below hb, h2, k3, fun x hx => ?_, ?_⟩
  · rcases List.mem_cons.1 hx with rfl | hx
    · exact ⟨by omega, fun hm => by have := kS _ hm; omega, ho⟩
    · exact ⟨(h4 x hx).1, (h4 x hx).2.1, (k4 x hx).2.2⟩
  · rw [List.map_cons, List.nodup_cons]
    refine ⟨fun hm => ?_, h5⟩
    obtain ⟨x, hx, e⟩ := List.mem_map.1 hm
    have := hl x hx
    omega
theorem LogW.alloc (h : LogW B w0 p s K w) (hB : B ≤ w0.heap.size) (o : Obj) : LogW B w0 p s ((w.heap.size, o) :: K) (w.alloc o) :=
  h.add hB ((Below.refl _ w).alloc (Nat.le_refl _) o) (Nat.le_refl _) (heap_alloc_new w o)
theorem LogW.put {g : Nat} {o o' : Obj} (h : LogW B w0 p s ((g, o) :: K) w) (hg : w'.heap[g]? = some o') (ho : ∀ k, k ≠ g → w'.heap[k]? = w.heap[k]?) (e1 : w'.os = w.os) (e2 : w'.tape = w.tape) (e3 : w'.output = w.output) (e4 : w'.heap.size = w.heap.size) : LogW B w0 p s ((g, o') :: K) w' := by
  obtain ⟨S, h1, h2, h3, h4, h5⟩ := h
  have hg0 := h4 _ (List.mem_cons_self ..)
  rw [List.map_cons, List.nodup_cons] at h5
  have hne : ∀ x ∈ K, x.1 ≠ g := fun x hx e => h5.1 (List.mem_map.2 ⟨x, hx, e⟩)
  refine ⟨S, h1.kept fun k hk => ho k (fun e => hg0.2.1 (e ▸ hk)), h2, ?_, fun x hx => ?_, ?_⟩
  · exact ⟨e1.trans h3.os, e2.trans h3.tape, e3.trans h3.output, by rw [e4]; exact h3.size, fun k hk => (ho k (by have := hg0.1; simp only at this; omega)).trans (h3.block k hk)⟩
  · rcases List.mem_cons.1 hx with rfl | hx
    · exact ⟨hg0.1, hg0.2.1, hg⟩
    · have := h4 x (List.mem_cons_of_mem _ hx)
      exact ⟨this.1, this.2.1, (ho _ (hne x hx)).trans this.2.2⟩
  · rw [List.map_cons, List.nodup_cons]
    exact h5
theorem LogW.set {g j : Nat} {c : Array Value} {t : TypeId} {fr : Nat × Nat} (h : LogW B w0 p s ((g, .cells c t fr) :: K) w) (v : Value) : LogW B w0 p s ((g, .cells (c.setIfInBounds j v) t fr) :: K) (w.setCell ⟨g, j, none⟩ v) :=
  h.put (heap_set (h.get (List.mem_cons_self ..)) v) (fun k hk => heap_set_other v hk) rfl rfl rfl (by simp [World.setCell])
/-! What each of the disk's calls comes to. -/
theorem LogW.append {k : Nat} (h : LogW B w0 p s K w) (hB : B ≤ w0.heap.size) (nm b : ByteArray) (hs : nm.size ≤ 140737488351232) (hb : b.size ≤ 140737488351232) {N C : List UInt8} (hN : nm.data.toList = N) (hC : b.data.toList = C) (he : appendS s N C = (s', k)) :
    Calls Try.prog 16 #[.pointer (some ⟨p, 0, none⟩), .string nm, .string b] w (OneDone k (LogW B w0 p s' K)) := by
  obtain ⟨S, h1, h2, h3, h4, h5⟩ := h
  exact (append_is h1 nm b hs hb hN hC he).mono fun e w' ⟨q1, S', q2, q3⟩ => ⟨q1, LogW.turn hB h2 h3 h4 h5 q2 q3⟩
theorem LogW.sync {k : Nat} (h : LogW B w0 p s K w) (hB : B ≤ w0.heap.size) (nm : ByteArray) (hs : nm.size ≤ maxLen) {N : List UInt8} (hN : nm.data.toList = N) (he : syncS s N = (s', k)) :
    Calls Try.prog 35 #[.pointer (some ⟨p, 0, none⟩), .string nm] w (OneDone k (LogW B w0 p s' K)) := by
  obtain ⟨S, h1, h2, h3, h4, h5⟩ := h
  exact (sync_is h1 nm hs hN he).mono fun e w' ⟨q1, S', q2, q3⟩ => ⟨q1, LogW.turn hB h2 h3 h4 h5 q2 q3⟩
theorem LogW.cut {k : Nat} (h : LogW B w0 p s K w) (hB : B ≤ w0.heap.size) (nm : ByteArray) (hs : nm.size ≤ maxLen) (n : Int) (hk0 : -9223372036854775808 ≤ n) (hk1 : n ≤ 9223372036854775807) {N : List UInt8} (hN : nm.data.toList = N) (he : cutS s N n = (s', k)) :
    Calls Try.prog 33 #[.pointer (some ⟨p, 0, none⟩), .string nm, .int .i64 n] w (OneDone k (LogW B w0 p s' K)) := by
  obtain ⟨S, h1, h2, h3, h4, h5⟩ := h
  exact (cut_is h1 nm hs n hk0 hk1 hN he).mono fun e w' ⟨q1, S', q2, q3⟩ => ⟨q1, LogW.turn hB h2 h3 h4 h5 q2 q3⟩
theorem LogW.crash (h : LogW B w0 p s K w) (hB : B ≤ w0.heap.size) (n : Int) (hk0 : -9223372036854775808 ≤ n) (hk1 : n ≤ 9223372036854775807) (he : crashS s n = s') :
    Calls Try.prog 20 #[.pointer (some ⟨p, 0, none⟩), .int .i64 n] w fun e w' => e = .returned (.tuple #[]) ∧ LogW B w0 p s' K w' := by
  obtain ⟨S, h1, h2, h3, h4, h5⟩ := h
  exact (crash_is h1 n hk0 hk1 he).mono fun e w' ⟨q1, S', q2, q3⟩ => ⟨q1, LogW.turn hB h2 h3 h4 h5 q2 q3⟩
theorem LogW.fuse (h : LogW B w0 p s K w) (hB : B ≤ w0.heap.size) (n : Int) (hk0 : -9223372036854775808 ≤ n) (hk1 : n ≤ 9223372036854775807) (he : fuseS s n = s') :
    Calls Try.prog 19 #[.pointer (some ⟨p, 0, none⟩), .int .i64 n] w fun e w' => e = .returned (.tuple #[]) ∧ LogW B w0 p s' K w' := by
  obtain ⟨S, h1, h2, h3, h4, h5⟩ := h
  subst he
  exact (fuse_any h1 n hk0 hk1).mono fun e w' ⟨q1, q2, q3⟩ => ⟨q1, LogW.turn hB h2 h3 h4 h5 q2 q3⟩
theorem LogW.read (h : LogW B w0 p s K w) (nm : ByteArray) (hs : nm.size ≤ maxLen) {N C : List UInt8} (hN : nm.data.toList = N) (he : readS s N = C) :
    Calls Try.prog 18 #[.pointer (some ⟨p, 0, none⟩), .string nm] w fun e w' => e = .returned (.string (bsL C)) ∧ LogW B w0 p s K w' := by
  obtain ⟨S, h1, h2, h3, h4, h5⟩ := h
  exact (read_is h1 nm hs hN he).mono fun e w' ⟨q1, q2⟩ => ⟨q1, q2 ▸ ⟨S, h1, h2, h3, h4, h5⟩⟩
theorem LogW.isDead (h : LogW B w0 p s K w) {d : Bool} (he : s.dead = d) :
    Calls Try.prog 27 #[.pointer (some ⟨p, 0, none⟩)] w fun e w' => e = .returned (.bool d) ∧ LogW B w0 p s K w' := by
  obtain ⟨S, h1, h2, h3, h4, h5⟩ := h
  subst he
  exact (dead_any h1).mono fun e w' ⟨q1, q2⟩ => ⟨q1, q2 ▸ ⟨S, h1, h2, h3, h4, h5⟩⟩
end
theorem used_mem : ∀ (L : List Fl) (f : Fl), f ∈ L → f.b.length ≤ usedL L
  | a :: t, f, h => by
    rw [usedL_cons]
    rcases List.mem_cons.1 h with rfl | h
    · omega
    · have := used_mem t f h
      omega
theorem read_len {s : Ds} (h : WF s) (nm : Nm) : (readS s nm).length ≤ 4194304 := by
  unfold readS
  split
  · exact Nat.zero_le _
  · split
    · exact Nat.zero_le _
    · rename_i f hf
      have := used_mem _ _ (find_some hf).1
      have h1 := h.used
      have h2 := h.room
      omega
/-- A row of texts, and the block that it lies in. -/
def RowK (v : Value) (xs : List (List UInt8)) (R : List (Nat × Obj)) : Prop :=
  (v = .slice none 0 0 ∧ xs = [] ∧ R = []) ∨ ∃ g cap cur, v = .slice (some ⟨g, 0, none⟩) xs.length cap ∧ R = [(g, .cells cur 9 (0, 0))] ∧ cur.toList.take xs.length = txts xs ∧ xs.length ≤ cap ∧ cap ≤ maxLen
theorem LogW.row {B : Nat} {w0 w w' : World} {p : Nat} {s : Ds} {K : List (Nat × Obj)} (h : LogW B w0 p s K w) (hB : B ≤ w0.heap.size) (hb : Below w.heap.size w w') {v : Value} {xs : List (List UInt8)} (ho : w'.ownsRow w.heap.size 9 1 v xs.length (txts xs)) : ∃ R, RowK v xs R ∧ LogW B w0 p s (R ++ K) w' := by
  obtain ⟨_, ⟨h1, h2⟩ | ⟨g, cap, cur, h1, h2, h3, h4, h5, h6, h7⟩⟩ := ho
  · exact ⟨[], .inl ⟨h1, List.length_eq_zero_iff.1 h2, rfl⟩, h.below hB hb⟩
  · exact ⟨[(g, .cells cur 9 (0, 0))], .inr ⟨g, cap, cur, h1, rfl, (by rw [Nat.mul_one] at h7; exact h7), h4, h5⟩, h.add hB hb h2 h3⟩
end Go.Proofs.Ytcbfghncdclonaa

/-
  The steps of Open and of Put, each by itself.
-/
namespace Go.Proofs.Ytcbfghncdclonaa
open Go.RowKit Go.Maps Go.Lib
set_option linter.unusedSimpArgs false
set_option linter.unusedVariables false
def lg : Nm := [108, 111, 103]
theorem lg_size : (⟨#[108, 111, 103]⟩ : ByteArray).size ≤ 140737488351232 := by decide
theorem lg_max : (⟨#[108, 111, 103]⟩ : ByteArray).size ≤ maxLen := by decide
section
variable {B : Nat} {w0 w : World} {p : Nat} {s s' : Ds} {K : List (Nat × Obj)} {k : Nat}
set_option maxRecDepth 100000 in
theorem step_29 (h : LogW B w0 p s K w) (hB : B ≤ w0.heap.size) (q : Nat) (t : TypeId) (hq : (q, Obj.cells #[.pointer (some ⟨p, 0, none⟩)] t) ∈ K) (he : appendS s lg [] = (s', k)) :
    Calls Try.prog 29 #[.pointer (some ⟨q, 0, none⟩)] w (OneDone k (LogW B w0 p s' K)) := by
  have c0 := cells1 (h.get hq)
  have HA := Lib.hid (h.append hB ⟨#[108, 111, 103]⟩ ⟨#[]⟩ lg_size (by decide) rfl rfl he)
  clear h hB hq he
  go_enter Try.func29, Try.ntmps29
  go_wp2_with fail
  refine HA.out.mono ?_
  rintro e w1 ⟨rfl, hq⟩
  have HQ := Lib.hid hq; clear hq
  go_wp2_with fail
  go_ret
  exact ⟨rfl, HQ.out⟩
set_option maxRecDepth 100000 in
theorem step_32 (h : LogW B w0 p s K w) (hB : B ≤ w0.heap.size) (q r : Nat) (t t' : TypeId) (hq : (q, Obj.cells #[.pointer (some ⟨p, 0, none⟩)] t) ∈ K) (n : Nat) (hn : n ≤ 4194304) (hr : (r, Obj.cells #[.int .i64 (n : Int)] t') ∈ K) (he : cutS s lg (n : Int) = (s', k)) :
    Calls Try.prog 32 #[.pointer (some ⟨q, 0, none⟩), .pointer (some ⟨r, 0, none⟩)] w (OneDone k (LogW B w0 p s' K)) := by
  have c0 := cells1 (h.get hq)
  have c1 := cells1 (h.get hr)
  have HA := Lib.hid (h.cut hB ⟨#[108, 111, 103]⟩ lg_max (n : Int) (by omega) (by omega) rfl he)
  clear h hB hq he hr
  go_enter Try.func32, Try.ntmps32
  go_wp2_with fail
  refine HA.out.mono ?_
  rintro e w1 ⟨rfl, hq⟩
  have HQ := Lib.hid hq; clear hq
  go_wp2_with fail
  go_ret
  exact ⟨rfl, HQ.out⟩
set_option maxRecDepth 100000 in
theorem step_34 (h : LogW B w0 p s K w) (hB : B ≤ w0.heap.size) (q : Nat) (t : TypeId) (hq : (q, Obj.cells #[.pointer (some ⟨p, 0, none⟩)] t) ∈ K) (he : syncS s lg = (s', k)) :
    Calls Try.prog 34 #[.pointer (some ⟨q, 0, none⟩)] w (OneDone k (LogW B w0 p s' K)) := by
  have c0 := cells1 (h.get hq)
  have HA := Lib.hid (h.sync hB ⟨#[108, 111, 103]⟩ lg_max rfl he)
  clear h hB hq he
  go_enter Try.func34, Try.ntmps34
  go_wp2_with fail
  refine HA.out.mono ?_
  rintro e w1 ⟨rfl, hq⟩
  have HQ := Lib.hid hq; clear hq
  go_wp2_with fail
  go_ret
  exact ⟨rfl, HQ.out⟩
set_option maxRecDepth 100000 in
theorem step_37 (h : LogW B w0 p s K w) (hB : B ≤ w0.heap.size) (q r g : Nat) (t t' t'' : TypeId) (hq : (q, Obj.cells #[.pointer (some ⟨g, 0, none⟩)] t) ∈ K) (m : Value) (hg : (g, Obj.cells #[.pointer (some ⟨p, 0, none⟩), m] t') ∈ K) (f : ByteArray) (hf : f.size ≤ 140737488351232) (hr : (r, Obj.cells #[.string f] t'') ∈ K) (he : appendS s lg f.data.toList = (s', k)) :
    Calls Try.prog 37 #[.pointer (some ⟨q, 0, none⟩), .pointer (some ⟨r, 0, none⟩)] w (OneDone k (LogW B w0 p s' K)) := by
  have c0 := cells1 (h.get hq)
  have c1 := cells1 (h.get hr)
  have c2 := (cells2 (h.get hg)).1
  have HF := Lib.hid (fun w1 (h1 : LogW B w0 p s' K w1) => (show (fun W => W.cell? ⟨q, 0, none⟩ = some (.pointer (some ⟨g, 0, none⟩)) ∧ W.cell? ⟨r, 0, none⟩ = some (.string f) ∧ W.cell? ⟨g, 0, none⟩ = some (.pointer (some ⟨p, 0, none⟩))) w1 from ⟨cells1 (h1.get hq), cells1 (h1.get hr), (cells2 (h1.get hg)).1⟩))
  have hd0 := (show (fun W => W.cell? ⟨q, 0, none⟩ = some (.pointer (some ⟨g, 0, none⟩)) ∧ W.cell? ⟨r, 0, none⟩ = some (.string f) ∧ W.cell? ⟨g, 0, none⟩ = some (.pointer (some ⟨p, 0, none⟩))) w from ⟨cells1 (h.get hq), cells1 (h.get hr), (cells2 (h.get hg)).1⟩)
  have HA := Lib.hid (fun W (hb : Below w.heap.size w W) => (h.below hB hb).append hB ⟨#[108, 111, 103]⟩ f lg_size hf rfl rfl he)
  clear h hB hq he hr hg
  go_enter Try.func37, Try.ntmps37
  go_wp2_with fail
  go_region_held3 (fun W => W.cell? ⟨q, 0, none⟩ = some (.pointer (some ⟨g, 0, none⟩)) ∧ W.cell? ⟨r, 0, none⟩ = some (.string f) ∧ W.cell? ⟨g, 0, none⟩ = some (.pointer (some ⟨p, 0, none⟩))) (first | assumption | exact hd0) (first | (go_at_call 16; refine (HA.out _ (by first | exact (Below.refl _ _).drew | exact Below.refl _ _)).mono ?_; rintro e w1 ⟨rfl, hq⟩; have hd1 := HF.out _ hq))
  have HQ := Lib.hid hq; clear hq
  go_wp2_with fail
  go_ret
  exact ⟨rfl, HQ.out⟩
set_option maxRecDepth 100000 in
theorem step_38 (h : LogW B w0 p s K w) (hB : B ≤ w0.heap.size) (q g : Nat) (t t' : TypeId) (hq : (q, Obj.cells #[.pointer (some ⟨g, 0, none⟩)] t) ∈ K) (m : Value) (hg : (g, Obj.cells #[.pointer (some ⟨p, 0, none⟩), m] t') ∈ K) (he : syncS s lg = (s', k)) :
    Calls Try.prog 38 #[.pointer (some ⟨q, 0, none⟩)] w (OneDone k (LogW B w0 p s' K)) := by
  have c0 := cells1 (h.get hq)
  have c2 := (cells2 (h.get hg)).1
  have HA := Lib.hid (h.sync hB ⟨#[108, 111, 103]⟩ lg_max rfl he)
  clear h hB hq he hg
  go_enter Try.func38, Try.ntmps38
  go_wp2_with fail
  refine HA.out.mono ?_
  rintro e w1 ⟨rfl, hq⟩
  have HQ := Lib.hid hq; clear hq
  go_wp2_with fail
  go_ret
  exact ⟨rfl, HQ.out⟩
end
end Go.Proofs.Ytcbfghncdclonaa

/-
  Open's second step.
-/
namespace Go.Proofs.Ytcbfghncdclonaa
open Go.RowKit Go.Maps Go.Lib
set_option linter.unusedSimpArgs false
set_option linter.unusedVariables false
theorem RowK.slice {v : Value} {xs : List (List UInt8)} {R : List (Nat × Obj)} (h : RowK v xs R) : ∃ a n c, v = .slice a n c := by
  rcases h with ⟨rfl, _⟩ | ⟨g, cap, cur, rfl, _⟩
  · exact ⟨_, _, _, rfl⟩
  · exact ⟨_, _, _, rfl⟩
section
variable {B : Nat} {w0 w : World} {p : Nat} {s s' : Ds} {K : List (Nat × Obj)} {k : Nat}
theorem LogW.two {R : List (Nat × Obj)} {r l : Nat} {m v0 : Value} {t' t3 : TypeId} (h : LogW B w0 p s (R ++ (r, .cells #[m] t3) :: (l, .cells #[v0] t') :: K) w) :
    (w.cell? ⟨r, 0, none⟩ = some m ∧ w.cell? ⟨l, 0, none⟩ = some v0 ∧ w.frozen? ⟨r, 0, none⟩ = false ∧ w.frozen? ⟨l, 0, none⟩ = false ∧ r ≠ l) ∧
    ∀ v m', LogW B w0 p s ((r, .cells #[m'] t3) :: (l, .cells #[v] t') :: (R ++ K)) ((w.setCell ⟨l, 0, none⟩ v).setCell ⟨r, 0, none⟩ m') := by
  have hr := h.get (g := r) (o := .cells #[m] t3) (by simp)
  have hl := h.get (g := l) (o := .cells #[v0] t') (by simp)
  refine ⟨⟨cells1 hr, cells1 hl, soft0 hr 0, soft0 hl 0, ?_⟩, fun v m' => ?_⟩
  · obtain ⟨S, h1, h2, h3, h4, h5⟩ := h
    rw [List.map_append, List.nodup_append] at h5
    have h6 := h5.2.1
    rw [List.map_cons, List.nodup_cons] at h6
    intro e
    exact h6.1 (by simp [e])
  · have h1 : LogW B w0 p s ((l, .cells #[v0] t') :: (r, .cells #[m] t3) :: (R ++ K)) w := h.perm (by
      refine (List.perm_append_comm (l₁ := R) (l₂ := (r, .cells #[m] t3) :: (l, .cells #[v0] t') :: K)).trans ?_
      refine (List.Perm.swap _ _ _).trans ?_
      exact ((List.perm_append_comm (l₁ := K) (l₂ := R)).cons _).cons _)
    exact ((h1.set (j := 0) v).perm (List.Perm.swap _ _ _)).set (j := 0) m'
def fixS (s : Ds) (n : Nat) : Ds × Nat := if (cutS s lg (n : Int)).2 = 0 then syncS (cutS s lg (n : Int)).1 lg else cutS s lg (n : Int)
theorem all_fix (h : LogW B w0 p s K w) (hB : B ≤ w0.heap.size) (g q r : Nat) (t1 t2 t3 : TypeId) (n : Nat) (hn : n ≤ 4194304) (hg : (g, Obj.cells #[.func (.func 32) #[] #[.pointer (some ⟨q, 0, none⟩), .pointer (some ⟨r, 0, none⟩)], .func (.func 34) #[] #[.pointer (some ⟨q, 0, none⟩)]] t1) ∈ K)
    (hq : (q, Obj.cells #[.pointer (some ⟨p, 0, none⟩)] t2) ∈ K) (hr : (r, Obj.cells #[.int .i64 (n : Int)] t3) ∈ K) (he : fixS s n = (s', k)) :
    Calls Try.prog 28 #[.slice (some ⟨g, 0, none⟩) 2 2] w (OneDone k (LogW B w0 p s' K)) := by
  obtain ⟨c, hc⟩ : ∃ c, cutS s lg (n : Int) = c := ⟨_, rfl⟩
  obtain ⟨sc, kc⟩ := c
  unfold fixS at he
  rw [hc] at he
  have h1 := step_32 h hB q r t2 t3 hq n hn hr hc
  by_cases hk : kc = 0
  · subst hk
    rw [if_pos rfl] at he
    exact all_both_32 g _ _ (h.get hg) k _ _ h1 (fun w1 h1 => (h1.get hg).trans (h.get hg).symm) (fun w1 h1 => step_34 h1 hB q t2 hq he)
  · rw [if_neg hk] at he
    obtain ⟨rfl, rfl⟩ := Prod.mk.inj he
    exact all_stop_32 g _ _ (h.get hg) kc hk _ h1
set_option maxRecDepth 100000 in
theorem open2_whole (hB : B ≤ w0.heap.size) (q l : Nat) (t t' : TypeId) (v0 : Value) (h : LogW B w0 p s ((l, .cells #[v0] t') :: K) w) (hq : (q, Obj.cells #[.pointer (some ⟨p, 0, none⟩)] t) ∈ K) (a : List (List UInt8) × Nat) (ha : allL (readS s lg) = a) (hw : a.2 = (readS s lg).length) :
    Calls Try.prog 30 #[.pointer (some ⟨q, 0, none⟩), .pointer (some ⟨l, 0, none⟩)] w (OneDone 0 fun w' => ∃ v R, RowK v a.1 R ∧ LogW B w0 p s ((l, .cells #[v] t') :: (R ++ K)) w') := by
  have hwf := read_len h.wf lg
  obtain ⟨x, hx⟩ : ∃ x, readS s lg = x := ⟨_, rfl⟩
  rw [hx] at ha hw hwf
  have c0 := cells1 (h.get (List.mem_cons_of_mem _ hq))
  have HA := Lib.hid (h.read ⟨#[108, 111, 103]⟩ lg_max rfl hx)
  have HB := Lib.hid hB
  clear h hB hq hx
  go_enter Try.func30, Try.ntmps30
  go_wp2_with fail
  refine HA.out.mono ?_
  rintro e w1 ⟨rfl, h1⟩
  have H1 := Lib.hid h1; clear h1 c0
  have hK2 := Lib.hid (H1.out.alloc HB.out (.cells #[.int .i64 0] 3))
  have hsz : (bsL x).size ≤ 1099511627776 := by rw [bsL_size]; omega
  have HL := Lib.hid (all_any (bsL x) (w1.alloc (.cells #[.int .i64 0] 3)) hsz)
  rw [bsL_toList, ha] at HL
  clear H1 hsz ha
  go_wp2_with fail
  refine HL.out.mono ?_
  rintro e w2 ⟨v, rfl, hrow, hb⟩
  obtain ⟨R, hR, h2⟩ := hK2.out.row HB.out hb hrow
  obtain ⟨va, vn, vc, rfl⟩ := hR.slice
  obtain ⟨⟨d0, d1, d2, d3, d4⟩, h3⟩ := h2.two
  have H3 := Lib.hid (h3 (.slice va vn vc) (.int .i64 a.2))
  have HR := Lib.hid hR
  clear hrow hb hR h2 h3 hK2 HL HA
  have hw' : ((a.2 : Int) == (x.length : Int)) = true := by rw [hw]; simp
  have hs : (bsL x).size = x.length := bsL_size x
  go_wp2_with fail
  go_ret
  rw [hw] at H3
  exact ⟨rfl, _, R, HR.out, H3.out.sub (List.sublist_cons_self ..)⟩
set_option maxHeartbeats 1000000 in
set_option maxRecDepth 100000 in
theorem open2_part (hB : B ≤ w0.heap.size) (q l : Nat) (t t' : TypeId) (v0 : Value) (h : LogW B w0 p s ((l, .cells #[v0] t') :: K) w) (hq : (q, Obj.cells #[.pointer (some ⟨p, 0, none⟩)] t) ∈ K) (a : List (List UInt8) × Nat) (ha : allL (readS s lg) = a) (hw : a.2 < (readS s lg).length) (he : fixS s a.2 = (s', k)) :
    Calls Try.prog 30 #[.pointer (some ⟨q, 0, none⟩), .pointer (some ⟨l, 0, none⟩)] w (OneDone k fun w' => ∃ v R, RowK v a.1 R ∧ LogW B w0 p s' ((l, .cells #[v] t') :: (R ++ K)) w') := by
  have hwf := read_len h.wf lg
  obtain ⟨x, hx⟩ : ∃ x, readS s lg = x := ⟨_, rfl⟩
  rw [hx] at ha hw hwf
  have c0 := cells1 (h.get (List.mem_cons_of_mem _ hq))
  have HA := Lib.hid (h.read ⟨#[108, 111, 103]⟩ lg_max rfl hx)
  have HB := Lib.hid hB
  have HQ := Lib.hid hq
  clear h hB hq hx
  go_enter Try.func30, Try.ntmps30
  go_wp2_with fail
  refine HA.out.mono ?_
  rintro e w1 ⟨rfl, h1⟩
  have H1 := Lib.hid h1; clear h1 c0
  have hK2 := Lib.hid (H1.out.alloc HB.out (.cells #[.int .i64 0] 3))
  have hsz : (bsL x).size ≤ 1099511627776 := by rw [bsL_size]; omega
  have HL := Lib.hid (all_any (bsL x) (w1.alloc (.cells #[.int .i64 0] 3)) hsz)
  rw [bsL_toList, ha] at HL
  clear H1 hsz ha
  go_wp2_with fail
  refine HL.out.mono ?_
  rintro e w2 ⟨v, rfl, hrow, hb⟩
  obtain ⟨R, hR, h2⟩ := hK2.out.row HB.out hb hrow
  obtain ⟨va, vn, vc, rfl⟩ := hR.slice
  obtain ⟨⟨d0, d1, d2, d3, d4⟩, h3⟩ := h2.two
  have H3 := Lib.hid (h3 (.slice va vn vc) (.int .i64 a.2))
  have HR := Lib.hid hR
  clear hrow hb hR h2 h3 hK2 HL HA
  have hw' : ((a.2 : Int) == (x.length : Int)) = false := beq_eq_false_iff_ne.2 (by omega)
  have hs : (bsL x).size = x.length := bsL_size x
  go_wp2_with fail
  have hg4 : w2.heap.size = ((w2.setCell ⟨l, 0, none⟩ (.slice va vn vc)).setCell ⟨w1.heap.size, 0, none⟩ (.int .i64 (a.2 : Int))).heap.size := by simp [World.setCell]
  have h4 := H3.out.alloc HB.out (.cells #[.func (.func 32) #[] #[.pointer (some ⟨q, 0, none⟩), .pointer (some ⟨w1.heap.size, 0, none⟩)], .func (.func 34) #[] #[.pointer (some ⟨q, 0, none⟩)]] 61)
  rw [← hg4] at h4
  refine (all_fix h4 HB.out w2.heap.size q w1.heap.size 61 t 3 a.2 (by omega) (by simp) (by simp [HQ.out]) (by simp) he).mono ?_
  rintro e w3 ⟨rfl, h5⟩
  have H5 := Lib.hid h5
  clear hg4 h4 h5 d0 d1 d2 d3
  go_wp2_with fail
  go_ret
  exact ⟨rfl, _, R, HR.out, H5.out.sub ((List.sublist_cons_self ..).trans (List.sublist_cons_self ..))⟩
end
end Go.Proofs.Ytcbfghncdclonaa

/-
  Open, walked.
-/
namespace Go.Proofs.Ytcbfghncdclonaa
open Go.RowKit Go.Maps Go.Lib
set_option linter.unusedSimpArgs false
set_option linter.unusedVariables false
def restS (s : Ds) : Ds × Nat × List (List UInt8) :=
  if (allL (readS s lg)).2 = (readS s lg).length then (s, 0, (allL (readS s lg)).1) else ((fixS s (allL (readS s lg)).2).1, (fixS s (allL (readS s lg)).2).2, (allL (readS s lg)).1)
def openS (s : Ds) : Ds × Nat × List (List UInt8) :=
  if s.dead then (s, 21, []) else if (appendS s lg []).2 = 0 then restS (appendS s lg []).1 else ((appendS s lg []).1, (appendS s lg []).2, [])
theorem RowK.slice_len {v : Value} {xs : List (List UInt8)} {R : List (Nat × Obj)} (h : RowK v xs R) : ∃ a c, v = .slice a xs.length c := by
  rcases h with ⟨rfl, rfl, _⟩ | ⟨g, cap, cur, rfl, _⟩
  · exact ⟨_, _, rfl⟩
  · exact ⟨_, _, rfl⟩
section
variable {B : Nat} {w0 w : World} {p : Nat} {s s' : Ds} {K : List (Nat × Obj)} {k : Nat}
def OpenMid (B : Nat) (w0 : World) (p l : Nat) (t' : TypeId) (s : Ds) (xs : List (List UInt8)) (K : List (Nat × Obj)) (w' : World) : Prop := ∃ v R, RowK v xs R ∧ LogW B w0 p s ((l, .cells #[v] t') :: (R ++ K)) w'
theorem open2_any (hB : B ≤ w0.heap.size) (q l : Nat) (t t' : TypeId) (v0 : Value) (h : LogW B w0 p s ((l, .cells #[v0] t') :: K) w) (hq : (q, Obj.cells #[.pointer (some ⟨p, 0, none⟩)] t) ∈ K) {xs : List (List UInt8)} (he : restS s = (s', k, xs)) :
    Calls Try.prog 30 #[.pointer (some ⟨q, 0, none⟩), .pointer (some ⟨l, 0, none⟩)] w (OneDone k (OpenMid B w0 p l t' s' xs K)) := by
  unfold restS at he
  obtain ⟨a, ha⟩ : ∃ a, allL (readS s lg) = a := ⟨_, rfl⟩
  have hle := (allL_le (readS s lg)).2
  rw [ha] at he hle
  by_cases hw : a.2 = (readS s lg).length
  · rw [if_pos hw] at he
    obtain ⟨rfl, h2⟩ := Prod.mk.inj he
    obtain ⟨rfl, rfl⟩ := Prod.mk.inj h2
    exact open2_whole hB q l t t' v0 h hq a ha hw
  · rw [if_neg hw] at he
    obtain ⟨rfl, h2⟩ := Prod.mk.inj he
    obtain ⟨rfl, rfl⟩ := Prod.mk.inj h2
    exact open2_part hB q l t t' v0 h hq a ha (by omega) rfl
def mids (s : Ds) : Ds × Nat × List (List UInt8) := if (appendS s lg []).2 = 0 then restS (appendS s lg []).1 else ((appendS s lg []).1, (appendS s lg []).2, [])
theorem all_open (hB : B ≤ w0.heap.size) (g q l : Nat) (t1 t t' : TypeId) (h : LogW B w0 p s ((l, .cells #[.slice none 0 0] t') :: K) w) (hg : (g, Obj.cells #[.func (.func 29) #[] #[.pointer (some ⟨q, 0, none⟩)], .func (.func 30) #[] #[.pointer (some ⟨q, 0, none⟩), .pointer (some ⟨l, 0, none⟩)]] t1) ∈ K)
    (hq : (q, Obj.cells #[.pointer (some ⟨p, 0, none⟩)] t) ∈ K) {xs : List (List UInt8)} (he : mids s = (s', k, xs)) :
    Calls Try.prog 28 #[.slice (some ⟨g, 0, none⟩) 2 2] w (OneDone k (OpenMid B w0 p l t' s' xs K)) := by
  obtain ⟨c, hc⟩ : ∃ c, appendS s lg [] = c := ⟨_, rfl⟩
  obtain ⟨sc, kc⟩ := c
  unfold mids at he
  rw [hc] at he
  have h1 := step_29 h hB q t (List.mem_cons_of_mem _ hq) hc
  have hg' := List.mem_cons_of_mem (l, Obj.cells #[Value.slice none 0 0] t') hg
  by_cases hk : kc = 0
  · subst hk
    rw [if_pos rfl] at he
    exact all_both_29 g _ _ (h.get hg') k _ _ h1 (fun w1 h1 => (h1.get hg').trans (h.get hg').symm) (fun w1 h1 => open2_any hB q l t t' _ h1 hq he)
  · rw [if_neg hk] at he
    obtain ⟨rfl, h2⟩ := Prod.mk.inj he
    obtain ⟨rfl, rfl⟩ := Prod.mk.inj h2
    exact (all_stop_29 g _ _ (h.get hg') kc hk _ h1).mono fun e w' ⟨q1, q2⟩ => ⟨q1, _, [], .inl ⟨rfl, rfl, rfl⟩, q2⟩
set_option maxRecDepth 100000 in
theorem open_dead (h : LogW B w0 p s K w) (hB : B ≤ w0.heap.size) (hd : s.dead = true) :
    Calls Try.prog 12 #[.pointer (some ⟨p, 0, none⟩)] w fun e w' => e = .returned (.tuple #[.pointer none, .slice none 0 0, .int .u16 21]) ∧ LogW B w0 p s K w' := by
  have h1 := h.alloc hB (.cells #[.pointer (some ⟨p, 0, none⟩)] 23)
  have HA := Lib.hid (h1.isDead hd)
  clear h h1 hB
  go_enter Try.func12, Try.ntmps12
  go_wp2_with fail
  refine HA.out.mono ?_
  rintro e w1 ⟨rfl, h1⟩
  have H1 := Lib.hid h1; clear h1
  go_wp2_with fail
  go_ret3
  exact ⟨rfl, H1.out.sub (List.sublist_cons_self ..)⟩
set_option maxRecDepth 100000 in
theorem open_fails (h : LogW B w0 p s K w) (hB : B ≤ w0.heap.size) (hd : s.dead = false) {xs : List (List UInt8)} (he : mids s = (s', k, xs)) (hk : k ≠ 0) :
    Calls Try.prog 12 #[.pointer (some ⟨p, 0, none⟩)] w fun e w' => e = .returned (.tuple #[.pointer none, .slice none 0 0, .int .u16 (k : Int)]) ∧ LogW B w0 p s' K w' := by
  have h1 := h.alloc hB (.cells #[.pointer (some ⟨p, 0, none⟩)] 23)
  have HA := Lib.hid (h1.isDead hd)
  have HB := Lib.hid hB
  have hne : ((k : Int) == 0) = false := beq_eq_false_iff_ne.2 (by omega)
  clear h h1 hB
  go_enter Try.func12, Try.ntmps12
  go_wp2_with fail
  refine HA.out.mono ?_
  rintro e w1 ⟨rfl, h1⟩
  have H1 := Lib.hid h1; clear h1
  go_wp2_with fail
  have h3 := (H1.out.alloc HB.out (.cells #[.slice none 0 0] 26)).alloc HB.out (.cells #[.func (.func 29) #[] #[.pointer (some ⟨w.heap.size, 0, none⟩)], .func (.func 30) #[] #[.pointer (some ⟨w.heap.size, 0, none⟩), .pointer (some ⟨w1.heap.size, 0, none⟩)]] 61)
  rw [World.size_alloc] at h3
  refine (all_open HB.out (w1.heap.size + 1) w.heap.size w1.heap.size 61 23 26 (h3.perm (List.Perm.swap _ _ _)) (by simp) (by simp) he).mono ?_
  clear h3
  rintro e w2 ⟨rfl, v, R, hR, h4⟩
  have H4 := Lib.hid h4
  clear h4
  go_wp2_with fail
  go_ret3
  refine ⟨rfl, H4.out.sub ?_⟩
  exact (((List.sublist_cons_self ..).trans (List.sublist_cons_self ..)).trans (List.sublist_append_right R _)).trans (List.sublist_cons_self ..)
set_option maxRecDepth 100000 in
theorem open_ok (h : LogW B w0 p s K w) (hB : B ≤ w0.heap.size) (hd : s.dead = false) {xs : List (List UInt8)} (he : mids s = (s', 0, xs)) :
    Calls Try.prog 12 #[.pointer (some ⟨p, 0, none⟩)] w fun e w' => ∃ g v R, e = .returned (.tuple #[.pointer (some ⟨g, 0, none⟩), v, .int .u16 0]) ∧ RowK v xs R ∧ LogW B w0 p s' ((g, .cells #[.pointer (some ⟨p, 0, none⟩), .int .i64 (xs.length : Int)] 66) :: (R ++ K)) w' := by
  have h1 := h.alloc hB (.cells #[.pointer (some ⟨p, 0, none⟩)] 23)
  have HA := Lib.hid (h1.isDead hd)
  have HB := Lib.hid hB
  clear h h1 hB
  go_enter Try.func12, Try.ntmps12
  go_wp2_with fail
  refine HA.out.mono ?_
  rintro e w1 ⟨rfl, h1⟩
  have H1 := Lib.hid h1; clear h1
  go_wp2_with fail
  have h3 := (H1.out.alloc HB.out (.cells #[.slice none 0 0] 26)).alloc HB.out (.cells #[.func (.func 29) #[] #[.pointer (some ⟨w.heap.size, 0, none⟩)], .func (.func 30) #[] #[.pointer (some ⟨w.heap.size, 0, none⟩), .pointer (some ⟨w1.heap.size, 0, none⟩)]] 61)
  rw [World.size_alloc] at h3
  refine (all_open HB.out (w1.heap.size + 1) w.heap.size w1.heap.size 61 23 26 (h3.perm (List.Perm.swap _ _ _)) (by simp) (by simp) he).mono ?_
  clear h3
  rintro e w2 ⟨rfl, v, R, hR, h4⟩
  obtain ⟨va, vc, rfl⟩ := hR.slice_len
  have d0 := cells1 (h4.get (g := w1.heap.size) (o := .cells #[.slice va xs.length vc] 26) (by simp))
  have d1 := cells1 (h4.get (g := w.heap.size) (o := .cells #[.pointer (some ⟨p, 0, none⟩)] 23) (by simp))
  have H4 := Lib.hid h4; have HR := Lib.hid hR
  clear h4 hR
  go_wp2_with fail
  go_region_held3 (fun W => W.cell? ⟨w1.heap.size, 0, none⟩ = some (.slice va xs.length vc) ∧ W.cell? ⟨w.heap.size, 0, none⟩ = some (.pointer (some ⟨p, 0, none⟩))) (go_keep) (fail)
  go_wp2_with fail
  go_ret3
  refine ⟨_, _, R, rfl, HR.out, ?_⟩
  refine LogW.below (w := w2.alloc (.cells #[.pointer (some ⟨p, 0, none⟩), .int .i64 (xs.length : Int)] 66)) ?_ HB.out (Below.refl _ _).drew
  refine (H4.out.alloc HB.out _).sub (List.Sublist.cons_cons _ ?_)
  exact ((((List.sublist_cons_self ..).trans (List.sublist_cons_self ..)).append_left R)).trans (List.sublist_cons_self ..)
end
end Go.Proofs.Ytcbfghncdclonaa

/-
  Put and Many, walked.
-/
namespace Go.Proofs.Ytcbfghncdclonaa
open Go.RowKit Go.Maps Go.Lib
set_option linter.unusedSimpArgs false
set_option linter.unusedVariables false
def mPutS (s : Ds) (f : List UInt8) : Ds × Nat := if (appendS s lg f).2 = 0 then syncS (appendS s lg f).1 lg else appendS s lg f
def putS (s : Ds) (b : List UInt8) : Ds × Nat := if frameL b = [] then (s, 3) else mPutS s (frameL b)
section
variable {B : Nat} {w0 w : World} {p : Nat} {s s' : Ds} {K : List (Nat × Obj)} {k : Nat}
theorem all_put (h : LogW B w0 p s K w) (hB : B ≤ w0.heap.size) (a q r g : Nat) (t1 t2 t3 t4 : TypeId) (m : Value) (f : ByteArray) (hf : f.size ≤ 140737488351232) (ha : (a, Obj.cells #[.func (.func 37) #[] #[.pointer (some ⟨q, 0, none⟩), .pointer (some ⟨r, 0, none⟩)], .func (.func 38) #[] #[.pointer (some ⟨q, 0, none⟩)]] t1) ∈ K)
    (hq : (q, Obj.cells #[.pointer (some ⟨g, 0, none⟩)] t2) ∈ K) (hr : (r, Obj.cells #[.string f] t3) ∈ K) (hg : (g, Obj.cells #[.pointer (some ⟨p, 0, none⟩), m] t4) ∈ K) (he : mPutS s f.data.toList = (s', k)) :
    Calls Try.prog 28 #[.slice (some ⟨a, 0, none⟩) 2 2] w (OneDone k (LogW B w0 p s' K)) := by
  obtain ⟨c, hc⟩ : ∃ c, appendS s lg f.data.toList = c := ⟨_, rfl⟩
  obtain ⟨sc, kc⟩ := c
  unfold mPutS at he
  rw [hc] at he
  have h1 := step_37 h hB q r g t2 t4 t3 hq m hg f hf hr hc
  by_cases hk : kc = 0
  · subst hk
    rw [if_pos rfl] at he
    exact all_both_37 a _ _ (h.get ha) k _ _ h1 (fun w1 h1 => (h1.get ha).trans (h.get ha).symm) (fun w1 h1 => step_38 h1 hB q g t2 t4 hq m hg he)
  · rw [if_neg hk] at he
    obtain ⟨rfl, rfl⟩ := Prod.mk.inj he
    exact all_stop_37 a _ _ (h.get ha) kc hk _ h1
set_option maxRecDepth 100000 in
theorem put_long (h : LogW B w0 p s K w) (hB : B ≤ w0.heap.size) (g : Nat) (b : ByteArray) (hb : b.size ≤ 140737488351232) (he : frameL b.data.toList = []) :
    Calls Try.prog 13 #[.pointer (some ⟨g, 0, none⟩), .string b] w (OneDone 3 (LogW B w0 p s K)) := by
  have h1 := h.alloc hB (.cells #[.pointer (some ⟨g, 0, none⟩)] 25)
  have HF := frame_any b (w.alloc (.cells #[.pointer (some ⟨g, 0, none⟩)] 25)) hb
  rw [he] at HF
  obtain ⟨f, hf⟩ : ∃ f, bs [] = f := ⟨_, rfl⟩
  have hfe : f.toList.isEmpty = true := by rw [← hf, ByteArray.toList_eq]; rfl
  rw [hf] at HF
  have HF' := Lib.hid HF
  have H1 := Lib.hid h1; have HB := Lib.hid hB
  clear h h1 hB HF hf
  go_enter Try.func13, Try.ntmps13
  go_wp2_with fail
  refine HF'.out.mono ?_
  rintro e w1 ⟨rfl, hb1⟩
  have H2 := Lib.hid ((H1.out.below HB.out hb1).alloc HB.out (.cells #[.string f] 9)); clear hb1
  go_wp2_with fail
  go_ret
  exact ⟨rfl, H2.out.sub ((List.sublist_cons_self ..).trans (List.sublist_cons_self ..))⟩
set_option maxRecDepth 100000 in
theorem put_no (g n : Nat) (h : LogW B w0 p s ((g, .cells #[.pointer (some ⟨p, 0, none⟩), .int .i64 (n : Int)] 66) :: K) w) (hB : B ≤ w0.heap.size) (b : ByteArray) (hb : b.size ≤ 131072) (he : mPutS s (frameL b.data.toList) = (s', k)) (hk : k ≠ 0) :
    Calls Try.prog 13 #[.pointer (some ⟨g, 0, none⟩), .string b] w (OneDone k (LogW B w0 p s' ((g, .cells #[.pointer (some ⟨p, 0, none⟩), .int .i64 (n : Int)] 66) :: K))) := by
  have h1 := h.alloc hB (.cells #[.pointer (some ⟨g, 0, none⟩)] 25)
  have HF := frame_any b (w.alloc (.cells #[.pointer (some ⟨g, 0, none⟩)] 25)) (by omega)
  have hbl : ¬ 131072 < b.data.toList.length := by rw [len_data]; omega
  have hfl := frameL_length hbl
  rw [len_data] at hfl
  obtain ⟨f, hf⟩ : ∃ f, bs (frameL b.data.toList) = f := ⟨_, rfl⟩
  have hfs : f.size = b.size + 8 := by rw [← hf, bs_size, hfl]
  have hfd : f.data.toList = frameL b.data.toList := by rw [← hf, bs_toList]
  rw [hf] at HF
  rw [← hfd] at he
  have hfe : f.toList.isEmpty = false := by
    rw [ByteArray.toList_eq]
    cases hq : f.data.toList with
    | nil =>
      have : f.data.toList.length = f.size := len_data f
      rw [hq] at this
      simp at this
      omega
    | cons _ _ => rfl
  have HF' := Lib.hid HF
  have H1 := Lib.hid h1; have HB := Lib.hid hB
  have hne : ((k : Int) == 0) = false := beq_eq_false_iff_ne.2 (by omega)
  clear h h1 hB HF hbl hfl hf hfd
  go_enter Try.func13, Try.ntmps13
  go_wp2_with fail
  refine HF'.out.mono ?_
  rintro e w1 ⟨rfl, hb1⟩
  have h2 := (H1.out.below HB.out hb1)
  have c0 := cells1 (h2.get (g := w.heap.size) (o := .cells #[.pointer (some ⟨g, 0, none⟩)] 25) (by simp))
  have H2 := Lib.hid ((h2.alloc HB.out (.cells #[.string f] 9)).alloc HB.out (.cells #[.func (.func 37) #[] #[.pointer (some ⟨w.heap.size, 0, none⟩), .pointer (some ⟨w1.heap.size, 0, none⟩)], .func (.func 38) #[] #[.pointer (some ⟨w.heap.size, 0, none⟩)]] 61))
  rw [World.size_alloc] at H2
  clear hb1 h2
  go_wp2_with fail
  refine (all_put H2.out HB.out (w1.heap.size + 1) w.heap.size w1.heap.size g 61 25 9 66 (.int .i64 (n : Int)) f (by omega) (by simp) (by simp) (by simp) (by simp) he).mono ?_
  rintro e w2 ⟨rfl, h3⟩
  have H3 := Lib.hid h3; clear h3
  go_wp2_with fail
  go_ret
  exact ⟨rfl, H3.out.sub (((List.sublist_cons_self ..).trans (List.sublist_cons_self ..)).trans (List.sublist_cons_self ..))⟩
set_option maxRecDepth 100000 in
set_option maxHeartbeats 1000000 in
theorem put_ok (g n : Nat) (h : LogW B w0 p s ((g, .cells #[.pointer (some ⟨p, 0, none⟩), .int .i64 (n : Int)] 66) :: K) w) (hB : B ≤ w0.heap.size) (b : ByteArray) (hb : b.size ≤ 131072) (he : mPutS s (frameL b.data.toList) = (s', 0)) (hn : n ≤ 4611686018427387904) :
    Calls Try.prog 13 #[.pointer (some ⟨g, 0, none⟩), .string b] w (OneDone 0 (LogW B w0 p s' ((g, .cells #[.pointer (some ⟨p, 0, none⟩), .int .i64 ((n + 1 : Nat) : Int)] 66) :: K))) := by
  have h1 := h.alloc hB (.cells #[.pointer (some ⟨g, 0, none⟩)] 25)
  have HF := frame_any b (w.alloc (.cells #[.pointer (some ⟨g, 0, none⟩)] 25)) (by omega)
  have hbl : ¬ 131072 < b.data.toList.length := by rw [len_data]; omega
  have hfl := frameL_length hbl
  rw [len_data] at hfl
  obtain ⟨f, hf⟩ : ∃ f, bs (frameL b.data.toList) = f := ⟨_, rfl⟩
  have hfs : f.size = b.size + 8 := by rw [← hf, bs_size, hfl]
  have hfd : f.data.toList = frameL b.data.toList := by rw [← hf, bs_toList]
  rw [hf] at HF
  rw [← hfd] at he
  have hfe : f.toList.isEmpty = false := by
    rw [ByteArray.toList_eq]
    cases hq : f.data.toList with
    | nil =>
      have : f.data.toList.length = f.size := len_data f
      rw [hq] at this
      simp at this
      omega
    | cons _ _ => rfl
  have HF' := Lib.hid HF
  have H1 := Lib.hid h1; have HB := Lib.hid hB
  clear h h1 hB HF hbl hfl hf hfd
  go_enter Try.func13, Try.ntmps13
  go_wp2_with fail
  refine HF'.out.mono ?_
  rintro e w1 ⟨rfl, hb1⟩
  have h2 := (H1.out.below HB.out hb1)
  have c0 := cells1 (h2.get (g := w.heap.size) (o := .cells #[.pointer (some ⟨g, 0, none⟩)] 25) (by simp))
  have H2 := Lib.hid ((h2.alloc HB.out (.cells #[.string f] 9)).alloc HB.out (.cells #[.func (.func 37) #[] #[.pointer (some ⟨w.heap.size, 0, none⟩), .pointer (some ⟨w1.heap.size, 0, none⟩)], .func (.func 38) #[] #[.pointer (some ⟨w.heap.size, 0, none⟩)]] 61))
  rw [World.size_alloc] at H2
  clear hb1 h2
  go_wp2_with fail
  refine (all_put H2.out HB.out (w1.heap.size + 1) w.heap.size w1.heap.size g 61 25 9 66 (.int .i64 (n : Int)) f (by omega) (by simp) (by simp) (by simp) (by simp) he).mono ?_
  rintro e w2 ⟨rfl, h3⟩
  have d0 := cells1 (h3.get (g := w.heap.size) (o := .cells #[.pointer (some ⟨g, 0, none⟩)] 25) (by simp))
  have hg0 := h3.get (g := g) (o := .cells #[.pointer (some ⟨p, 0, none⟩), .int .i64 (n : Int)] 66) (by simp)
  have d1 := (cells2 hg0).2
  have d2 := soft0 hg0 1
  have H3 := Lib.hid (h3.sub (((List.sublist_cons_self ..).trans (List.sublist_cons_self ..)).trans (List.sublist_cons_self ..)))
  have hn1 := Lib.hid (show ((n : Int) + 1) = ((n + 1 : Nat) : Int) by omega)
  have hn2 : (n : Int) ≤ 4611686018427387904 := by omega
  clear h3 hg0
  go_wp2_with fail
  go_ret
  rw [← hn1.out]
  exact ⟨rfl, H3.out.set (j := 1) _⟩
set_option maxRecDepth 100000 in
theorem put_nil (b : ByteArray) (w : World) : Calls Try.prog 13 #[.pointer none, .string b] w fun e w' => e = .returned (.int .u16 21) ∧ Below w.heap.size w w' := by
  go_enter Try.func13, Try.ntmps13
  go_wp2_with fail
  go_ret
  exact ⟨rfl, (Below.refl _ w).alloc (Nat.le_refl _) _⟩
set_option maxRecDepth 100000 in
theorem many_nil (w : World) : Calls Try.prog 15 #[.pointer none] w fun e w' => e = .returned (.int .i64 0) ∧ w = w' := by
  go_enter Try.func15, Try.ntmps15
  go_wp2_with fail
  go_ret
  exact ⟨rfl, rfl⟩
set_option maxRecDepth 100000 in
theorem many_any (g n : Nat) (q : Value) (t : TypeId) (hg : w.heap[g]? = some (.cells #[q, .int .i64 (n : Int)] t)) : Calls Try.prog 15 #[.pointer (some ⟨g, 0, none⟩)] w fun e w' => e = .returned (.int .i64 (n : Int)) ∧ w = w' := by
  have d1 := (cells2 hg).2
  clear hg
  go_enter Try.func15, Try.ntmps15
  go_wp2_with fail
  go_ret
  exact ⟨rfl, rfl⟩
set_option maxRecDepth 100000 in
theorem open_nil (w : World) : Calls Try.prog 12 #[.pointer none] w fun e w' => e = .returned (.tuple #[.pointer none, .slice none 0 0, .int .u16 21]) ∧ Below w.heap.size w w' := by
  have HA := Lib.hid dead_nil
  go_enter Try.func12, Try.ntmps12
  go_wp2_with fail
  refine (HA.out _).mono ?_
  rintro e w1 ⟨rfl, rfl⟩
  go_wp2_with fail
  go_ret3
  exact ⟨rfl, (Below.refl _ w).alloc (Nat.le_refl _) _⟩
end
end Go.Proofs.Ytcbfghncdclonaa

/-
  What a law's arguments read as, in one form: a slice of bytes or of texts is a row of cells ('RowAt'), each no longer than the form's reach.
-/
namespace Go.Proofs.Ytcbfghncdclonaa
open Go.ChangeShapes Go.WideShapes Go.ChangeAt Go.RowKit

/-- The values lie in a row from a on. -/
def RowAt (W : World) (a : Option Addr) (vs : List Value) : Prop :=
  0 < vs.length → ∃ b off, a = some ⟨b, off, none⟩ ∧ b < W.heap.size ∧ ∀ i (h : i < vs.length), W.cell? ⟨b, off + i, none⟩ = some vs[i]
theorem RowAt.below {W W' : World} {a : Option Addr} {vs : List Value} (h : RowAt W a vs) (hb : Below W.heap.size W W') : RowAt W' a vs := fun hp => by
  obtain ⟨b, off, e, hlt, hc⟩ := h hp
  exact ⟨b, off, e, Nat.lt_of_lt_of_le hlt hb.size, fun i hi => (hb.cell (p := ⟨b, off + i, none⟩) hlt).trans (hc i hi)⟩

section
variable {H : Type} {enc : TypeId × Value → H} {P : Program} {W : World} {base : Nat} {spare : Nat → Bool} {held : Bool}
theorem weights_all_mem {e : TypeId} : ∀ {l : List (DataW H)} {d : DataW H}, d ∈ l → ∀ n ∈ d.weights P e, n ∈ DataW.weightsAll P e l
  | d0 :: l, d, hd, n, hn => by
    simp only [DataW.weightsAll, List.mem_append]
    rcases List.mem_cons.1 hd with rfl | hd
    · exact .inl hn
    · exact .inr (weights_all_mem hd n hn)
theorem row_of_cells {a : Addr} {vs : List Value} (hc : ∀ i (h : i < vs.length), W.cell? (a.add i) = some vs[i]) : RowAt W (some a) vs := fun hp => by
  have h0 := hc 0 hp
  obtain ⟨b, off, spot⟩ := a
  have hs : spot = none := by simpa [Addr.add] using World.cell?_spot h0
  subst hs
  refine ⟨b, off, rfl, ?_, fun i hi => ?_⟩
  · have := World.block_lt_of_cell? W _ h0
    simpa [Addr.add] using this
  · rw [← hc i hi]
    congr 1
    unfold Addr.add
    split <;> simp_all
/-- A slice of texts. -/
theorem open_strs {ts : List TypeId} {ds : List (DataW H)} {j : Nat} {t e : TypeId} {a : Option Addr} {len cap : Nat} {d : DataW H} {ps : List MemPlace}
    (hsz : (DataW.weightsEach P ts ds).all (· ≤ reachBytes) = true) (ht : ts[j]? = some t) (hd : ds[j]? = some d) (hu : P.underlying t = some (.slice e)) (he : P.underlying e = some .string) (hc : P.cellsOf e = 1) (hB : P.bytesOf e = 16)
    (h : DataW.Trod enc P W base spare held t (.slice a len cap) d ps) :
    ∃ ss : List ByteArray, ss.length = len ∧ RowAt W a (ss.map .string) ∧ (∀ s ∈ ss, s.size ≤ 140737488351232) ∧ len * 16 ≤ 140737488351232 := by
  obtain ⟨fuel, hf⟩ := h
  rcases open_strings hu he hc hf with ⟨hcs, _⟩ | ⟨x, l, c, zs, hcs, _, hl, _, hz, hx, hcell, _⟩
  · simp [Value.cells] at hcs
    obtain ⟨rfl, rfl, rfl⟩ := hcs
    exact ⟨[], rfl, (fun hp => absurd hp (by simp)), (by simp), by simp⟩
  · simp [Value.cells] at hcs
    obtain ⟨rfl, rfl, rfl⟩ := hcs
    obtain ⟨hx, _⟩ := Prod.mk.inj hx
    subst hx
    have hl2 : len ≤ zs.length := by
      rw [hz]
      split
      · exact hl
      · exact Nat.le_refl _
    have z := sized_slice hsz ht hd hu
    rw [hB] at z
    have h1 : (strs (H := H) (zs.take len)).length + (strs (H := H) (zs.drop len)).length = zs.length := by
      simp [strs]
      omega
    rw [h1] at z
    refine ⟨zs.take len, by simp; omega, row_of_cells fun i hi => ?_, fun s hs => ?_, Nat.le_trans (Nat.mul_le_mul_right _ hl2) z⟩
    · have hi' : i < zs.length := by simp at hi; omega
      rw [hcell i hi']
      simp [List.getD_eq_getElem?_getD, List.getElem?_eq_getElem hi']
    · have hm : (DataW.lit (.string s.data.toList) : DataW H) ∈ strs (H := H) (zs.take len) := List.mem_map.2 ⟨s, hs, rfl⟩
      have hn := weights_all_mem (P := P) (e := e) hm s.data.toList.length (by simp [DataW.weights])
      have hn2 : s.data.toList.length ∈ DataW.weights P t (.slice (strs (H := H) (zs.take len)) (strs (zs.drop len))) := by
        simp only [DataW.weights, hu, List.mem_cons, List.mem_append]
        exact .inr (.inl hn)
      have := List.all_eq_true.1 hsz _ (DataW.weights_mem_each ht hd _ hn2)
      rw [Array.length_toList] at this
      exact of_decide_eq_true this
theorem strs_cap {t e : TypeId} {a : Option Addr} {len cap : Nat} {d : DataW H} {ps : List MemPlace}
    (hu : P.underlying t = some (.slice e)) (he : P.underlying e = some .string) (hc : P.cellsOf e = 1)
    (h : DataW.Trod enc P W base spare held t (.slice a len cap) d ps) : len ≤ cap ∧ cap ≤ maxLen := by
  obtain ⟨fuel, hf⟩ := h
  rcases open_strings hu he hc hf with ⟨hcs, _⟩ | ⟨x, l, c, zs, hcs, _, hl, hm, _⟩
  · simp [Value.cells] at hcs
    obtain ⟨rfl, rfl, rfl⟩ := hcs
    exact ⟨Nat.le_refl _, Nat.zero_le _⟩
  · simp [Value.cells] at hcs
    obtain ⟨rfl, rfl, rfl⟩ := hcs
    exact ⟨hl, hm⟩
/-- A slice of whole numbers. -/
theorem open_nums {ts : List TypeId} {ds : List (DataW H)} {j : Nat} {t e : TypeId} {k : IntKind} {a : Option Addr} {len cap : Nat} {d : DataW H} {ps : List MemPlace}
    (hsz : (DataW.weightsEach P ts ds).all (· ≤ reachBytes) = true) (ht : ts[j]? = some t) (hd : ds[j]? = some d) (hu : P.underlying t = some (.slice e)) (he : P.underlying e = some (.int k)) (hc : P.cellsOf e = 1) {B : Nat} (hB : P.bytesOf e = B)
    (h : DataW.Trod enc P W base spare held t (.slice a len cap) d ps) :
    ∃ zs : List Int, zs.length = len ∧ RowAt W a (zs.map (.int k)) ∧ (∀ z ∈ zs, (Lit.int k z).wf = true) ∧ len * B ≤ 140737488351232 ∧ len ≤ cap ∧ cap ≤ maxLen := by
  obtain ⟨fuel, hf⟩ := h
  rcases open_ints hu he hc hf with ⟨hcs, _⟩ | ⟨x, l, c, zs, hcs, _, hl, hm, hz, hx, hcell, hwf⟩
  · simp [Value.cells] at hcs
    obtain ⟨rfl, rfl, rfl⟩ := hcs
    exact ⟨[], rfl, (fun hp => absurd hp (by simp)), (by simp), by simp, by simp, by simp [maxLen]⟩
  · simp [Value.cells] at hcs
    obtain ⟨rfl, rfl, rfl⟩ := hcs
    obtain ⟨hx, _⟩ := Prod.mk.inj hx
    subst hx
    have hl2 : len ≤ zs.length := by
      rw [hz]
      split
      · exact hl
      · exact Nat.le_refl _
    have z := sized_slice hsz ht hd hu
    rw [hB] at z
    have h1 : (lits (H := H) k (zs.take len)).length + (lits (H := H) k (zs.drop len)).length = zs.length := by
      simp [lits]
      omega
    rw [h1] at z
    refine ⟨zs.take len, by simp; omega, row_of_cells fun i hi => ?_, fun s hs => hwf s (List.mem_of_mem_take hs), Nat.le_trans (Nat.mul_le_mul_right _ hl2) z, hl, hm⟩
    have hi' : i < zs.length := by simp at hi; omega
    rw [hcell i hi']
    simp [List.getD_eq_getElem?_getD, List.getElem?_eq_getElem hi']
end
theorem byte_wf {z : Int} (h : (Lit.int .u8 z).wf = true) : ∃ c : UInt8, z = (c.toNat : Int) := by
  have := bounds_u8 h
  refine ⟨UInt8.ofNat z.toNat, ?_⟩
  rw [UInt8.toNat_ofNat']
  omega
theorem bytes_wf : ∀ {zs : List Int}, (∀ z ∈ zs, (Lit.int .u8 z).wf = true) → ∃ l : List UInt8, zs = l.map fun c => (c.toNat : Int)
  | [], _ => ⟨[], rfl⟩
  | z :: zs, h => by
    obtain ⟨c, hc⟩ := byte_wf (h z (by simp))
    obtain ⟨l, hl⟩ := bytes_wf (zs := zs) (fun x hx => h x (by simp [hx]))
    exact ⟨c :: l, by rw [hc, hl]; rfl⟩
end Go.Proofs.Ytcbfghncdclonaa

/-
  Rows of texts, and what the laws' same answers on them.
-/
namespace Go.Proofs.Ytcbfghncdclonaa
open Go.RowKit Go.Maps Go.Lib
set_option linter.unusedSimpArgs false
set_option linter.unusedVariables false
/-- A row of texts that is read. -/
def Texts (W : World) (v : Value) (l : List ByteArray) : Prop := ∃ a c, v = .slice a l.length c ∧ RowAt W a (l.map .string) ∧ l.length ≤ 4611686018427387904
theorem Texts.below {W W' : World} {v : Value} {l : List ByteArray} (h : Texts W v l) (hb : Below W.heap.size W W') : Texts W' v l := by
  obtain ⟨a, c, e, hr, hl⟩ := h
  exact ⟨a, c, e, hr.below hb, hl⟩
set_option maxRecDepth 100000 in
theorem same_any (v1 v2 : Value) (l1 l2 : List ByteArray) (w : World) (h1 : Texts w v1 l1) (h2 : Texts w v2 l2) :
    Calls Try.prog 14 #[v1, v2] w fun e w' => e = .returned (.bool (decide (l1 = l2))) ∧ ∃ n, w' = w.drewN n := by
  obtain ⟨a1, c1, rfl, hr1, hm1⟩ := h1
  obtain ⟨a2, c2, rfl, hr2, hm2⟩ := h2
  by_cases hlen : l1.length = l2.length
  · obtain ⟨n, hn⟩ : ∃ n, l1.length = n := ⟨_, rfl⟩
    have hn2 : l2.length = n := by omega
    have H1 := Lib.hid hn; have H2 := Lib.hid hn2; have HR1 := Lib.hid hr1; have HR2 := Lib.hid hr2
    rw [hn, hn2]
    rw [hn] at hm1
    clear hn hn2 hlen hm2 hr1 hr2
    go_enter Try.func14, Try.ntmps14
    go_wp2_with fail
    go_loopw [5] (fun i wr => ∃ k : Nat, k ≤ n ∧ i = .int .i64 k ∧ l1.take k = l2.take k ∧ ∃ q, wr = w.drewN q) (fun i _ => n - (intOf i).toNat)
    case atStart => exact ⟨0, by omega, rfl, rfl, 0, rfl⟩
    case round =>
      obtain ⟨k, hk, rfl, ht, q, rfl⟩ := hrel
      have HT := Lib.hid ht; clear ht
      by_cases hlt : k < n
      · obtain ⟨b1, o1, rfl, _, hc1⟩ := HR1.out (by rw [List.length_map, H1.out]; omega)
        obtain ⟨b2, o2, rfl, _, hc2⟩ := HR2.out (by rw [List.length_map, H2.out]; omega)
        have k1 : k < l1.length := by rw [H1.out]; exact hlt
        have k2 : k < l2.length := by rw [H2.out]; exact hlt
        have f1 : w.cell? ⟨b1, o1 + k, none⟩ = some (.string l1[k]) := by rw [hc1 k (by rw [List.length_map]; exact k1)]; simp
        have f2 : w.cell? ⟨b2, o2 + k, none⟩ = some (.string l2[k]) := by rw [hc2 k (by rw [List.length_map]; exact k2)]; simp
        have p1 : l1.take (k + 1) = l1.take k ++ [l1[k]] := List.take_succ_eq_append_getElem k1
        have p2 : l2.take (k + 1) = l2.take k ++ [l2[k]] := List.take_succ_eq_append_getElem k2
        have P1 := Lib.hid p1; have P2 := Lib.hid p2
        obtain ⟨s1, hs1⟩ : ∃ s1, l1[k] = s1 := ⟨_, rfl⟩
        obtain ⟨s2, hs2⟩ : ∃ s2, l2[k] = s2 := ⟨_, rfl⟩
        rw [hs1] at f1 P1; rw [hs2] at f2 P2
        have Hs1 := Lib.hid hs1; have Hs2 := Lib.hid hs2
        have hki : (k : Int) < (n : Int) := by omega
        have hk0 : (0 : Int) ≤ (k : Int) := by omega
        clear hc1 hc2 p1 p2 hs1 hs2
        by_cases hs : s1 = s2
        · have hb : (s1.toList == s2.toList) = true := by rw [hs]; simp
          have HS := Lib.hid hs; clear hs
          go_wp2_with fail
          go_quiet (fail)
          go_wp2_with fail
          go_roundw
          case rel => exact ⟨k + 1, by omega, by go_num, by rw [P1.out, P2.out, HT.out, HS.out], q + nq, rfl⟩
          case measure => simp [intOf]; omega
        · have hb : (s1.toList == s2.toList) = false := by
            rw [beq_eq_false_iff_ne, Lib.toList_data, Lib.toList_data]
            exact fun h => hs (by cases s1; cases s2; simpa using h)
          have HN : Hid (decide (l1 = l2) = false) := Lib.hid (decide_eq_false fun h => hs (by rw [← Hs1.out, ← Hs2.out]; simp only [h]))
          clear hs
          go_wp2_with fail
          go_quiet (fail)
          go_wp2_with fail
          go_ret
          exact ⟨by rw [HN.out]; rfl, q + nq, by rw [World.drewN_drewN]⟩
      · obtain rfl : k = n := by omega
        go_wp2_with fail
        go_ret
        refine ⟨?_, q, rfl⟩
        have := HT.out
        rw [List.take_of_length_le (by rw [H1.out]; omega), List.take_of_length_le (by rw [H2.out]; omega)] at this
        rw [decide_eq_true this]; rfl
  · have hd : decide (l1 = l2) = false := decide_eq_false (fun h => hlen (by rw [h]))
    have HD := Lib.hid hd; clear hd
    have hb : ((l1.length : Int) != (l2.length : Int)) = true := by simp; omega
    go_enter Try.func14, Try.ntmps14
    go_wp2_with fail
    go_ret
    exact ⟨by rw [HD.out]; rfl, 0, rfl⟩

theorem RowK.texts {w : World} {v : Value} {xs : List (List UInt8)} {R : List (Nat × Obj)} (h : RowK v xs R) (hR : ∀ x ∈ R, w.heap[x.1]? = some x.2) (hl : xs.length ≤ 4611686018427387904) : Texts w v (xs.map bsL) := by
  rcases h with ⟨rfl, rfl, _⟩ | ⟨g, cap, cur, rfl, rfl, hc, _⟩
  · exact ⟨none, 0, rfl, (fun hp => absurd hp (by simp)), by simp⟩
  · have hg := hR (g, .cells cur 9 (0, 0)) (by simp)
    refine ⟨some ⟨g, 0, none⟩, cap, by rw [List.length_map], fun hp => ⟨g, 0, rfl, heap_lt hg, fun i hi => ?_⟩, by rw [List.length_map]; omega⟩
    have hi' : i < xs.length := by simpa using hi
    have h1 : cur.toList[i]? = some (.string (bs xs[i])) := by
      have := congrArg (fun l => l[i]?) hc
      simp only [List.getElem?_take_of_lt hi', txts] at this
      rw [this, List.getElem?_map, List.getElem?_eq_getElem hi']
      rfl
    unfold World.cell?
    simp only [hg]
    rw [Nat.zero_add]
    simp only [Array.getElem?_toList] at h1
    rw [h1]
    simp only [List.getElem_map]
    rfl
theorem RowK.slice_cap {v : Value} {xs : List (List UInt8)} {R : List (Nat × Obj)} (h : RowK v xs R) : ∃ a c, v = .slice a xs.length c ∧ xs.length ≤ c ∧ c ≤ maxLen := by
  rcases h with ⟨rfl, rfl, _⟩ | ⟨g, cap, cur, rfl, _, _, h1, h2⟩
  · exact ⟨_, _, rfl, Nat.le_refl _, Nat.zero_le _⟩
  · exact ⟨_, _, rfl, h1, h2⟩
end Go.Proofs.Ytcbfghncdclonaa

/-
  A log on a disk of one file, in plain words: its frames, one after another.
-/
namespace Go.Proofs.Ytcbfghncdclonaa
open Go.RowKit Go.Maps Go.Lib
set_option linter.unusedSimpArgs false
set_option linter.unusedVariables false
def frames (l : List (List UInt8)) : List UInt8 := l.flatMap frameL
theorem frames_cons (a : List UInt8) (l : List (List UInt8)) : frames (a :: l) = frameL a ++ frames l := by unfold frames; rw [List.flatMap_cons]
theorem frames_append (l m : List (List UInt8)) : frames (l ++ m) = frames l ++ frames m := by unfold frames; rw [List.flatMap_append]
theorem frames_snoc (l : List (List UInt8)) (b : List UInt8) : frames (l ++ [b]) = frames l ++ frameL b := by rw [frames_append, frames_cons]; unfold frames; simp
def Shorts (l : List (List UInt8)) : Prop := ∀ a ∈ l, ¬ 131072 < a.length
theorem all_nil : allL [] = ([], 0) := allL_stop (by rw [next_short (by simp)])
theorem all_frames (l : List (List UInt8)) (r : List UInt8) (h : Shorts l) : allL (frames l ++ r) = (l ++ (allL r).1, (frames l).length + (allL r).2) := by
  induction l with
  | nil => show allL ([] ++ r) = ([] ++ _, 0 + _); rw [List.nil_append, List.nil_append, Nat.zero_add]
  | cons a t ih =>
    have ha := h a (List.mem_cons_self ..)
    rw [frames_cons, List.append_assoc, all_frame _ _ ha, ih (fun x hx => h x (List.mem_cons_of_mem _ hx))]
    simp only [List.cons_append, List.length_append, frameL_length ha, Nat.add_assoc]
theorem all_own (l : List (List UInt8)) (h : Shorts l) : allL (frames l) = (l, (frames l).length) := by
  have := all_frames l [] h
  rw [all_nil, List.append_nil, List.append_nil, Nat.add_zero] at this
  exact this
theorem lg_ne : lg ≠ [] := by unfold lg; simp
theorem app_none (R n l : Nat) (fu : Bool) (x : List UInt8) (hx : x.length ≤ R) : appendS (S1 lg R x n fu l false) lg [] = (S1 lg R x n fu l false, 0) := by
  rw [append_old lg lg_ne R n l fu x [] (by simp; omega)]
  rfl
theorem app_first (R l : Nat) (fu : Bool) : appendS ⟨R, [], fu, l, false⟩ lg [] = (S1 lg R [] 0 fu l false, 0) := by
  rw [append_new lg lg_ne R l fu [] (by simp)]
  rfl
theorem app_room (R n l : Nat) (x f : List UInt8) (h : x.length + f.length ≤ R) : appendS (S1 lg R x n false l false) lg f = (S1 lg R (x ++ f) n false l false, 0) := by
  rw [append_old lg lg_ne R n l false x f h, bytes_free]
theorem app_full (R n l : Nat) (fu : Bool) (x f : List UInt8) (h : R < x.length + f.length) : appendS (S1 lg R x n fu l false) lg f = (S1 lg R x n fu l false, 20) := by
  have h1 : findF (S1 lg R x n fu l false).L lg = some ⟨lg, x, n⟩ := find_one lg x n
  have h2 : usedL (S1 lg R x n fu l false).L = x.length := used_one lg x n
  unfold appendS
  rw [if_neg (by show ¬ false = true; simp), if_neg (by
    rintro (h | ⟨h, _⟩)
    · exact lg_ne h
    · rw [h1] at h
      cases h), if_pos (by rw [h2]; exact h)]
theorem rest_own (R n l : Nat) (fu : Bool) (xs : List (List UInt8)) (h : Shorts xs) : restS (S1 lg R (frames xs) n fu l false) = (S1 lg R (frames xs) n fu l false, 0, xs) := by
  unfold restS
  rw [read_one, all_own xs h, if_pos rfl]
theorem mids_new (R l : Nat) (fu : Bool) : mids ⟨R, [], fu, l, false⟩ = (S1 lg R [] 0 fu l false, 0, []) := by
  unfold mids
  rw [app_first, if_pos rfl]
  exact rest_own R 0 l fu [] (fun _ h => by cases h)
theorem mids_own (R n l : Nat) (fu : Bool) (xs : List (List UInt8)) (h : Shorts xs) (hR : (frames xs).length ≤ R) : mids (S1 lg R (frames xs) n fu l false) = (S1 lg R (frames xs) n fu l false, 0, xs) := by
  unfold mids
  rw [app_none _ _ _ _ _ hR, if_pos rfl]
  exact rest_own R n l fu xs h
theorem mput_room (R n l : Nat) (x f : List UInt8) (h : x.length + f.length ≤ R) : mPutS (S1 lg R x n false l false) f = (S1 lg R (x ++ f) (x ++ f).length false l false, 0) := by
  unfold mPutS
  rw [app_room _ _ _ _ _ h, if_pos rfl]
  exact sync_one lg R n l (x ++ f)
theorem mput_full (R n l : Nat) (fu : Bool) (x f : List UInt8) (h : R < x.length + f.length) : mPutS (S1 lg R x n fu l false) f = (S1 lg R x n fu l false, 20) := by
  unfold mPutS
  rw [app_full _ _ _ _ _ _ h, if_neg (by simp)]
theorem put_own (R n l : Nat) (xs : List (List UInt8)) (b : List UInt8) (hb : ¬ 131072 < b.length) (h : (frames xs).length + b.length + 8 ≤ R) : mPutS (S1 lg R (frames xs) n false l false) (frameL b) = (S1 lg R (frames (xs ++ [b])) (frames (xs ++ [b])).length false l false, 0) := by
  rw [mput_room _ _ _ _ _ (by rw [frameL_length hb]; omega), frames_snoc]
theorem put_over (R n l : Nat) (xs : List (List UInt8)) (b : List UInt8) (hb : ¬ 131072 < b.length) (h : R < (frames xs).length + b.length + 8) : mPutS (S1 lg R (frames xs) n false l false) (frameL b) = (S1 lg R (frames xs) n false l false, 20) :=
  mput_full _ _ _ _ _ _ (by rw [frameL_length hb]; omega)
theorem frames_one (b : List UInt8) (hb : ¬ 131072 < b.length) : (frames [b]).length = b.length + 8 := by
  rw [frames_cons, List.length_append, frameL_length hb]
  rfl
end Go.Proofs.Ytcbfghncdclonaa

/-
  The laws' example, walked.
-/
namespace Go.Proofs.Ytcbfghncdclonaa
open Go.RowKit Go.Maps Go.Lib
set_option linter.unusedSimpArgs false
set_option linter.unusedVariables false
theorem new_100 : newS 100 = ⟨100, [], false, 0, false⟩ := by rfl
theorem known_put : mPutS (S1 lg 100 (frames []) 0 false 0 false) (frameL (⟨#[97, 98]⟩ : ByteArray).data.toList) = (S1 lg 100 (frames [[97, 98]]) (frames [[97, 98]]).length false 0 false, 0) :=
  put_own 100 0 0 [] [97, 98] (by decide) (by show 0 + 2 + 8 ≤ 100; omega)
theorem known_shorts : Shorts [[97, 98]] := by
  intro a ha
  rw [List.mem_singleton.1 ha]
  decide
theorem known_open : mids (S1 lg 100 (frames [[97, 98]]) (frames [[97, 98]]).length false 0 false) = (S1 lg 100 (frames [[97, 98]]) (frames [[97, 98]]).length false 0 false, 0, [[97, 98]]) :=
  mids_own _ _ _ _ _ known_shorts (by rw [frames_one _ (by decide)]; decide)
theorem RowK.one {w : World} {v : Value} {x : List UInt8} {R : List (Nat × Obj)} (h : RowK v [x] R) (hR : ∀ x ∈ R, w.heap[x.1]? = some x.2) : ∃ b o c, v = .slice (some ⟨b, o, none⟩) 1 c ∧ w.cell? ⟨b, o, none⟩ = some (.string (bsL x)) := by
  obtain ⟨a, c, rfl, hr, _⟩ := h.texts hR (by simp)
  obtain ⟨b, o, rfl, _, hc⟩ := hr (by simp)
  exact ⟨b, o, c, rfl, hc 0 (by simp)⟩
set_option maxRecDepth 100000 in
set_option maxHeartbeats 1000000 in
theorem known_any (w : World) : Calls Try.prog 10 #[] w fun e w' => e = .returned (.bool true) ∧ Below w.heap.size w w' := by
  have H0 := Lib.hid (Nat.le_refl w.heap.size)
  have htl : (bsL [97, 98]).toList = [97, 98] := bsL_tl _
  have HN := Lib.hid (Mine.new (Below.refl w.heap.size w) (Nat.le_refl _) 100 new_100)
  go_enter Try.func10, Try.ntmps10
  go_wp2_with fail
  refine HN.out.mono ?_
  rintro e w1 ⟨p, rfl, hm⟩
  have M1 := Lib.hid (LogW.of_mine hm); clear hm HN
  go_wp2_with fail
  refine (open_ok M1.out H0.out rfl (mids_new 100 0 false)).mono ?_
  rintro e w2 ⟨g, v, R, rfl, hr, hm⟩
  have M2 := Lib.hid hm; clear hm M1
  obtain ⟨va, vc, rfl⟩ := hr.slice_len
  clear hr
  go_wp2_with fail
  refine (put_ok g 0 M2.out H0.out ⟨#[97, 98]⟩ (by decide) known_put (by omega)).mono ?_
  rintro e w3 ⟨rfl, hm⟩
  have M3 := Lib.hid hm; clear hm M2
  go_wp2_with fail
  refine (open_ok M3.out H0.out rfl known_open).mono ?_
  rintro e w4 ⟨g2, v2, R2, rfl, hr2, hm⟩
  obtain ⟨b2, o2, c2, rfl, hc2⟩ := hr2.one (w := w4) (fun x hx => hm.get (g := x.1) (o := x.2) (by simp [hx]))
  have hg2 := Lib.hid (hm.get (List.mem_cons_self ..))
  have M4 := Lib.hid hm; clear hm hr2 M3
  go_wp2_with fail
  refine (many_any g2 1 _ _ hg2.out).mono ?_
  rintro e w5 ⟨rfl, rfl⟩
  go_wp2_with fail
  go_ret
  exact ⟨rfl, M4.out.belowW⟩
end Go.Proofs.Ytcbfghncdclonaa
