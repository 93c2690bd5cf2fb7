/-
  The method Write of a Hasher, called on a Hasher in memory and any row of bytes, takes each whole block and keeps the rest.
-/
import Derived.Test.YtdbdikgjelhfbaaChunk
namespace Go.Proofs.Ytdbdikgjelhfbaa
open Go.RowKit Go.Shelf Sha Go.Proofs.YtdbdikgjelhfbaaW.PrintWords
attribute [local go_sem] Oper.semAt_some
set_option linter.unusedSimpArgs false

/-- A Hasher's ten cells. -/
def hashV (x : St) (left : Value) (n : Nat) : Array Value := (u32s x.list ++ [left, .int .u64 (n : Int)]).toArray
def HashAt (W : World) (p : Nat) (x : St) (left : Value) (n : Nat) : Prop := W.heap[p]? = some (.cells (hashV x left n) 47 (0, 0))
theorem HashAt.cell {W : World} {p : Nat} {x : St} {left : Value} {n : Nat} (h : HashAt W p x left n) {j : Nat} {v : Value} (hv : (hashV x left n)[j]? = some v) : W.cell? ⟨p, j, none⟩ = some v := by
  rw [cell_of_row W p j _ 47 (0, 0) h]; exact hv
theorem HashAt.frozen {W : World} {p : Nat} {x : St} {left : Value} {n : Nat} (h : HashAt W p x left n) (j : Nat) : W.frozen? ⟨p, j, none⟩ = false := frozen_of_row W p j _ 47 h
theorem HashAt.lt {W : World} {p : Nat} {x : St} {left : Value} {n : Nat} (h : HashAt W p x left n) : p < W.heap.size := (Array.getElem?_eq_some_iff.1 h).1
theorem HashAt.of_heap {W W' : World} {p : Nat} {x : St} {left : Value} {n : Nat} (h : HashAt W p x left n) (e : W'.heap[p]? = W.heap[p]?) : HashAt W' p x left n := e.trans h
theorem HashAt.below {W W' : World} {p : Nat} {x : St} {left : Value} {n : Nat} (h : HashAt W p x left n) (hb : Below W.heap.size W W') : HashAt W' p x left n := h.of_heap (hb.block p h.lt)
theorem heap_setCell (W : World) (p j : Nat) (v : Value) (cs : Array Value) (T : TypeId) (h : W.heap[p]? = some (.cells cs T (0, 0))) : (W.setCell ⟨p, j, none⟩ v).heap[p]? = some (.cells (cs.setIfInBounds j v) T (0, 0)) := by
  rw [setCell_eq_setRow W p j _ T (0, 0) _ h, setRow_heap _ _ _ _ _ _ h]
theorem HashAt.setN {W : World} {p : Nat} {x : St} {left : Value} {n m : Nat} (h : HashAt W p x left n) : HashAt (W.setCell ⟨p, 9, none⟩ (.int .u64 (m : Int))) p x left m := by
  unfold HashAt; rw [heap_setCell _ _ _ _ _ _ h]; rfl
theorem HashAt.setLeft {W : World} {p : Nat} {x : St} {left v : Value} {n : Nat} (h : HashAt W p x left n) : HashAt (W.setCell ⟨p, 8, none⟩ v) p x v n := by
  unfold HashAt; rw [heap_setCell _ _ _ _ _ _ h]; rfl
theorem grownBy_set (W : World) (p j : Nat) (v : Value) : W.grownBy (W.setCell ⟨p, j, none⟩ v) (some p) :=
  ⟨rfl, rfl, rfl, by simp [World.setCell], fun k _ hk => World.setCell_heap_ne j v (by rintro rfl; exact hk rfl)⟩
theorem grownBy_below {W W' : World} {row : Option Nat} (h : Below W.heap.size W W') : W.grownBy W' row := ⟨h.os, h.tape, h.output, h.size, fun k hk _ => h.block k hk⟩
theorem grownBy_trans {A B C : World} {row : Option Nat} (h : A.grownBy B row) (k : B.grownBy C row) : A.grownBy C row :=
  ⟨k.os.trans h.os, k.tape.trans h.tape, k.output.trans h.output, Nat.le_trans h.size k.size, fun i hi hr => (k.block i (Nat.lt_of_lt_of_le hi h.size) hr).trans (h.block i hi hr)⟩
theorem Rd.cells {w : World} {a : Option Addr} {l : List UInt8} (h : Rd w a l) (hp : 0 < l.length) : ∃ b off, a = some ⟨b, off, none⟩ ∧ b < w.heap.size ∧ ∀ i (h : i < l.length), w.cell? ⟨b, off + i, none⟩ = some (.int .u8 (l[i].toNat : Int)) := h.bytesAt hp
theorem Rd.of_cells {w w1 : World} {a : Option Addr} {l : List UInt8} (h : Rd w a l) (hk : ∀ ad v, w.cell? ad = some v → (∃ b, a = some b ∧ ad.block = b.block) → w1.cell? ad = some v) : Rd w1 a l := by
  have hr := Kd.reads_of_C (enc := Value.int .u8) (d := (0 : Int)) (h1 := fun _ => rfl) h
  refine Kd.C_of_reads (d := (0 : Int)) ⟨hr.1, hr.2.1, fun hp => ?_⟩
  obtain ⟨ad, e, hc⟩ := hr.2.2 hp
  refine ⟨ad, e, fun j hj => hk _ _ (hc j hj) ⟨ad, e, ?_⟩⟩
  unfold Addr.add; split <;> rfl
theorem Rd.grown {w w1 : World} {a : Option Addr} {l : List UInt8} {row : Option Nat} (h : Rd w a l) (hg : w.grownBy w1 row) (hne : ∀ b, a = some b → 0 < l.length → some b.block ≠ row) : Rd w1 a l := by
  by_cases hp : 0 < l.length
  · exact h.of_cells fun ad v hv hb => by
      obtain ⟨b, e, hb⟩ := hb
      rw [World.cell?_of_block (hg.block ad.block (World.block_lt_of_cell? w ad hv) (by rw [hb]; exact hne b e hp))]; exact hv
  · exact ⟨h.1, h.2.1, fun h2 => absurd h2 hp⟩

set_option maxRecDepth 100000 in
theorem chunk_any (a : Option Addr) (n c : Nat) (w : World) : Calls Try.prog 21 #[.slice a n c, .int .i64 64] w fun e w' => e = .returned (.func (.func 26) #[] #[.pointer (some ⟨w.heap.size, 0, none⟩), .pointer (some ⟨w.heap.size + 1, 0, none⟩)]) ∧ (w.alloc (.cells #[.slice a n c] 22)).alloc (.cells #[.int .i64 64] 3) = w' := by
  have hmf : ∀ (fn : Fn) (first cap : Array Value) (w : World), (Instr.makeFunc fn first cap).run Try.prog w = .ok (.func fn first cap) w := fun _ _ _ _ => rfl
  go_enter Try.func21, Try.ntmps21
  go_wp2_with fail
  go_ret
  exact ⟨rfl, rfl⟩
/-- A row's form: none, or at the begin of a block of the call's own. -/
theorem OwnB.form {w : World} {base : Nat} {a : Option Addr} {n c : Nat} {l : List UInt8} (h : OwnB w base (.slice a n c) l) : c ≤ 9223372036854775807 ∧ (0 < l.length → ∃ g, a = some ⟨g, 0, none⟩) ∧ (∀ b, a = some b → base ≤ b.block ∧ b.block < w.heap.size) := by
  have ho := (Kd.own_of_R h).2
  rcases ho with ⟨e, e2⟩ | ⟨g, cap, cur, e, hb, hh, hn, hm, _⟩
  · cases e
    refine ⟨by omega, fun hp => ?_, fun b e => by cases e⟩
    rw [intsB_length] at e2; omega
  · cases e
    refine ⟨by simpa [maxLen] using hm, fun _ => ⟨g, rfl⟩, fun b e => ?_⟩
    cases e
    exact ⟨hb, (Array.getElem?_eq_some_iff.1 hh).1⟩
theorem kept_cells {W W' : World} {row : Option Nat} (hg : W.grownBy W' row) (hr : ∀ r, row = some r → ∃ o : Obj, W.heap[r]? = some o ∧ o.isCells = false) {b : Nat} {cs : Array Value} {T : TypeId} {m : Nat × Nat} (h : W.heap[b]? = some (.cells cs T m)) : W'.heap[b]? = W.heap[b]? := by
  refine hg.block b (Array.getElem?_eq_some_iff.1 h).1 (fun e => ?_)
  obtain ⟨o, ho, hc⟩ := hr b e.symm
  rw [h] at ho; cases ho
  simp [Obj.isCells] at hc
theorem OwnB.kept {W W' : World} {row : Option Nat} {base : Nat} {v : Value} {l : List UInt8} (h : OwnB W base v l) (hg : W.grownBy W' row) (hne : ∀ k, v.ownBlock = some k → some k ≠ row) : OwnB W' base v l :=
  Kd.R_of_own ((Kd.own_of_R h).kept hg (by
    cases hv : v.ownBlock with
    | none => exact .inl rfl
    | some k => exact .inr (hne k hv))) (fun _ _ => trivial)
theorem OwnB.walk {W W' : World} {row : Option Nat} {base : Nat} {v : Value} {l : List UInt8} (h : OwnB W base v l) (hg : W.grownBy W' row) (hr : ∀ r, row = some r → ∃ o : Obj, W.heap[r]? = some o ∧ o.isCells = false) : OwnB W' base v l :=
  h.kept hg fun k hk e => by
    obtain ⟨cells, hc⟩ := own_typed (Kd.own_of_R h) k hk
    obtain ⟨o, ho, hi⟩ := hr k e.symm
    rw [hc] at ho; cases ho
    simp [Obj.isCells] at hi
theorem Rd.walk {W W' : World} {row : Option Nat} {a : Option Addr} {l : List UInt8} (h : Rd W a l) (hg : W.grownBy W' row) (hr : ∀ r, row = some r → ∃ o : Obj, W.heap[r]? = some o ∧ o.isCells = false) : Rd W' a l :=
  h.of_cells fun _ _ hv _ => cell_kept hv hg hr
theorem grownBy_walk {w W W' : World} {row keep : Option Nat} (h : w.grownBy W keep) (hg : W.grownBy W' row) (hr : ∀ r, row = some r → w.heap.size ≤ r) : w.grownBy W' keep :=
  ⟨hg.os.trans h.os, hg.tape.trans h.tape, hg.output.trans h.output, Nat.le_trans h.size hg.size, fun k hk hne => (hg.block k (Nat.lt_of_lt_of_le hk h.size) (fun e => by have := hr k e.symm; omega)).trans (h.block k hk hne)⟩
/-- The state behind some pieces. -/
def stOf (x : St) (d : List UInt8) (pre : List (Ck d.length)) : St := pre.foldl (fun s y => take s ((d.drop (64 * y.1)).take 64)) x
theorem stOf_snoc (x : St) (d : List UInt8) (pre : List (Ck d.length)) (y : Ck d.length) : stOf x d (pre ++ [y]) = take (stOf x d pre) ((d.drop (64 * y.1)).take 64) := by simp [stOf]
theorem stOf_run (x : St) (d : List UInt8) (pre : List (Ck d.length)) (n : Nat) (h : pre.map (·.1) = List.range n) : stOf x d pre = run x d n := by
  have e : stOf x d pre = (pre.map (·.1)).foldl (fun s k => take s ((d.drop (64 * k)).take 64)) x := by unfold stOf; rw [List.foldl_map]
  rw [e, h]
  clear e h
  induction n with
  | zero => rfl
  | succ n ih => rw [List.range_succ, List.foldl_append, ih]; rfl
def FullK {L : Nat} (pre : List (Ck L)) : Prop := ∀ y ∈ pre, ckLen L y.1 = 64

/-- The state's eight cells, written one after another. -/
def set8 (W : World) (p : Nat) (tA tB tC tD tE tF tG tH : Sha.W) : World :=
  (((((((W.setCell ⟨p, 0, none⟩ (.int .u32 (tA.toNat : Int))).setCell ⟨p, 1, none⟩ (.int .u32 (tB.toNat : Int))).setCell ⟨p, 2, none⟩ (.int .u32 (tC.toNat : Int))).setCell ⟨p, 3, none⟩ (.int .u32 (tD.toNat : Int))).setCell ⟨p, 4, none⟩ (.int .u32 (tE.toNat : Int))).setCell ⟨p, 5, none⟩ (.int .u32 (tF.toNat : Int))).setCell ⟨p, 6, none⟩ (.int .u32 (tG.toNat : Int))).setCell ⟨p, 7, none⟩ (.int .u32 (tH.toNat : Int))
theorem HashAt.put8 {W : World} {p : Nat} {x : St} {left : Value} {n : Nat} (h : HashAt W p x left n) (tA tB tC tD tE tF tG tH : Sha.W) : HashAt (set8 W p tA tB tC tD tE tF tG tH) p ⟨tA, tB, tC, tD, tE, tF, tG, tH⟩ left n := by
  unfold HashAt set8
  have h0 := heap_setCell W p 0 (.int .u32 (tA.toNat : Int)) _ _ h
  have h1 := heap_setCell _ p 1 (.int .u32 (tB.toNat : Int)) _ _ h0
  have h2 := heap_setCell _ p 2 (.int .u32 (tC.toNat : Int)) _ _ h1
  have h3 := heap_setCell _ p 3 (.int .u32 (tD.toNat : Int)) _ _ h2
  have h4 := heap_setCell _ p 4 (.int .u32 (tE.toNat : Int)) _ _ h3
  have h5 := heap_setCell _ p 5 (.int .u32 (tF.toNat : Int)) _ _ h4
  have h6 := heap_setCell _ p 6 (.int .u32 (tG.toNat : Int)) _ _ h5
  have h7 := heap_setCell _ p 7 (.int .u32 (tH.toNat : Int)) _ _ h6
  rw [h7]
  simp [hashV, u32s, St.list]
theorem grownBy_set8 (W : World) (p : Nat) (tA tB tC tD tE tF tG tH : Sha.W) : W.grownBy (set8 W p tA tB tC tD tE tF tG tH) (some p) := by
  unfold set8
  exact grownBy_trans (grownBy_trans (grownBy_trans (grownBy_trans (grownBy_trans (grownBy_trans (grownBy_trans (grownBy_set _ _ _ _) (grownBy_set _ _ _ _)) (grownBy_set _ _ _ _)) (grownBy_set _ _ _ _)) (grownBy_set _ _ _ _)) (grownBy_set _ _ _ _)) (grownBy_set _ _ _ _)) (grownBy_set _ _ _ _)
theorem drew_grown (W : World) (row : Option Nat) : W.grownBy W.drew row := ⟨rfl, rfl, rfl, Nat.le_refl _, fun _ _ _ => rfl⟩
theorem chunk_stops (n : Nat) (hn : 1 ≤ n) (Bs Bn g L c : Nat) (a : Option Addr) (ha : 0 < L → a = some ⟨g, 0, none⟩) (hL : L ≤ 140737488351232) (hLc : L ≤ c) (hc9 : c ≤ 9223372036854775807) (w : World)
    (hs : w.heap[Bs]? = some (.cells #[.slice a L c] 22 (0, 0))) (hn2 : w.heap[Bn]? = some (.cells #[.int .i64 64] 3 (0, 0))) :
    SeqStopsK Fence.wide n Try.prog 26 #[.pointer (some ⟨Bs, 0, none⟩), .pointer (some ⟨Bn, 0, none⟩)] (encK g L) (Keep2 Bs Bn) (AllK L) (FrontK L) (L + 1) w := fun l J Jx W hW hJ _ hY h0 =>
  chunk1_in n hn l Bs Bn g L c a ha hL hLc hc9 J Jx hY (fun p W1 h => hJ p W1 W1.drew none h (drew_grown _ _) (fun r e => by cases e)) W
    (by rw [cell_of_row W _ 0 _ 22 (0, 0) ((hW.block _ (Array.getElem?_eq_some_iff.1 hs).1).trans hs)]; rfl) (by rw [cell_of_row W _ 0 _ 3 (0, 0) ((hW.block _ (Array.getElem?_eq_some_iff.1 hn2).1).trans hn2)]; rfl) h0
theorem Rd.cut {w : World} {g : Nat} {l : List UInt8} (h : Rd w (some ⟨g, 0, none⟩) l) (i m : Nat) (hm : i + m ≤ l.length) : Rd w (some ⟨g, i, none⟩) ((l.drop i).take m) := by
  have hr := Kd.reads_of_C (enc := Value.int .u8) (d := (0 : Int)) (h1 := fun _ => rfl) h
  have hl : ((l.drop i).take m).length = m := by simp; omega
  unfold Rd
  rw [hl]
  refine Kd.C_of_reads (d := (0 : Int)) ⟨by rw [intsB_length, hl], by have := hr.2.1; omega, fun hp => ⟨_, rfl, fun j hj => ?_⟩⟩
  obtain ⟨ad, e, hc⟩ := hr.2.2 (by omega)
  cases e
  have := hc (i + j) (by omega)
  rw [Addr.add_mid] at this ⊢
  rw [Nat.zero_add] at this
  rw [this]
  have h1 : (intsB l).getD (i + j) 0 = (intsB ((l.drop i).take m)).getD j 0 := by
    simp only [intsB, List.getD_eq_getElem?_getD, List.getElem?_map, List.getElem?_take, List.getElem?_drop, if_pos hj]
  rw [h1]
/-- What the loop of Write keeps. -/
def WInv (w : World) (z p : Nat) (x : St) (d : List UInt8) (a3 : Option Addr) (M : Nat) (pre : List (Ck d.length)) (W : World) : Prop :=
  HashAt W p (stOf x d pre) (.slice none 0 0) M ∧ FullK pre ∧ W.heap[w.heap.size]? = some (.cells #[.pointer (some ⟨p, 0, none⟩)] 25 (0, 0)) ∧ w.grownBy W (some p) ∧ Rd W a3 d ∧ z ≤ W.heap.size
/-- What stands where it has left by the jump behind a shorter piece. -/
def WOut (w : World) (p : Nat) (x : St) (d : List UInt8) (M : Nat) (c : Code) (pre : List (Ck d.length)) (W : World) : Prop :=
  c = .exit 0 ∧ ∃ (pre0 : List (Ck d.length)) (y : Ck d.length) (v : Value), pre = pre0 ++ [y] ∧ FullK pre0 ∧ ckLen d.length y.1 < 64 ∧ HashAt W p (stOf x d pre0) v M ∧ OwnB W w.heap.size v ((d.drop (64 * y.1)).take 64) ∧ w.grownBy W (some p)
theorem WInv.own {w : World} {z p : Nat} {x : St} {d : List UInt8} {a3 : Option Addr} {M B : Nat} (hB : w.heap.size ≤ B) : OwnFrom B (WInv w z p x d a3 M) := fun _ A _ _ hs hg hr => by
  obtain ⟨h1, h2, h3, h4, h5, h6⟩ := hs
  have hr2 := fun r e => (hr r e).2
  exact ⟨h1.of_heap (kept_cells hg hr2 h1), h2, (kept_cells hg hr2 h3).trans h3, grownBy_walk h4 hg (fun r e => Nat.le_trans hB (hr r e).1), h5.walk hg hr2, Nat.le_trans h6 hg.size⟩
theorem WOut.own {w : World} {p : Nat} {x : St} {d : List UInt8} {M B : Nat} (hB : w.heap.size ≤ B) (c : Code) : OwnFrom B (WOut w p x d M c) := fun _ A _ _ hs hg hr => by
  obtain ⟨h1, pre0, y, v, h2, h3, h4, h5, h6, h7⟩ := hs
  have hr2 := fun r e => (hr r e).2
  exact ⟨h1, pre0, y, v, h2, h3, h4, h5.of_heap (kept_cells hg hr2 h5), h6.walk hg hr2, grownBy_walk h7 hg (fun r e => Nat.le_trans hB (hr r e).1)⟩
/-- What became of the loop, in plain words. -/
theorem done_plain (x : St) (d : List UInt8) (pre : List (Ck d.length)) (hA : AllK d.length pre) (hF : FullK pre) : stOf x d pre = run x d (d.length / 64) ∧ d.drop (64 * (d.length / 64)) = [] := by
  have hm : many d.length = d.length / 64 := by
    by_cases h0 : many d.length = 0
    · unfold many at h0 ⊢; omega
    · have hk : many d.length - 1 ∈ pre.map (·.1) := by rw [hA]; exact List.mem_range.2 (by omega)
      obtain ⟨y, hy, he⟩ := List.mem_map.1 hk
      have h64 := hF y hy
      have hy2 := y.2
      unfold ckLen at h64
      rw [he] at h64 hy2
      unfold many at h64 hy2 h0 ⊢
      omega
  refine ⟨?_, ?_⟩
  · rw [stOf_run x d pre _ hA, hm]
  · apply List.drop_eq_nil_of_le
    unfold many at hm; omega
theorem out_plain (x : St) (d : List UInt8) (pre0 : List (Ck d.length)) (y : Ck d.length) (hA : FrontK d.length (pre0 ++ [y])) (hy : ckLen d.length y.1 < 64) : stOf x d pre0 = run x d (d.length / 64) ∧ d.drop (64 * (d.length / 64)) = (d.drop (64 * y.1)).take 64 := by
  have h1 : pre0.map (·.1) = List.range pre0.length ∧ y.1 = pre0.length := by
    unfold FrontK at hA
    rw [List.map_append, List.length_append] at hA
    simp only [List.map_cons, List.map_nil, List.length_cons, List.length_nil, Nat.zero_add, List.range_succ] at hA
    have := List.append_inj hA (by simp)
    exact ⟨this.1, by simpa using this.2⟩
  have hy2 := y.2
  unfold ckLen at hy
  have hq : d.length / 64 = y.1 := by omega
  refine ⟨?_, ?_⟩
  · rw [stOf_run x d pre0 _ h1.1, hq, h1.2]
  · rw [hq, List.take_of_length_le]
    simp; omega

set_option maxRecDepth 100000 in
set_option maxHeartbeats 2000000 in
theorem write_in (p : Nat) (x : St) (al : Option Addr) (cl : Nat) (left b : List UInt8) (N : Nat) (ab : Option Addr) (cb : Nat) (w : World)
    (hp : HashAt w p x (.slice al left.length cl) N) (hl : Rd w al left) (hb : Rd w ab b) (hal : ∀ a, al = some a → a.block ≠ p) (hab : ∀ a, ab = some a → 0 < b.length → a.block ≠ p) (hlen : left.length + b.length ≤ 1099511627776) (hN : N + b.length < 18446744073709551616) :
    CallsIn Fence.wide 3 Try.prog 11 #[.pointer (some ⟨p, 0, none⟩), .slice ab b.length cb] w fun e w' => e = .returned (.int .i64 b.length) ∧
      ∃ v, HashAt w' p (run x (left ++ b) ((left ++ b).length / 64)) v (N + b.length) ∧ OwnB w' w.heap.size v ((left ++ b).drop (64 * ((left ++ b).length / 64))) ∧ w.grownBy w' (some p) := by
  obtain ⟨n, hn⟩ : ∃ n, b.length = n := ⟨_, rfl⟩
  obtain ⟨nl, hnl⟩ : ∃ n, left.length = n := ⟨_, rfl⟩
  rw [hn] at hlen hN ⊢
  rw [hnl] at hp hlen
  have c9 : w.cell? ⟨p, 9, none⟩ = some (.int .u64 (N : Int)) := hp.cell rfl
  have c8 : w.cell? ⟨p, 8, none⟩ = some (.slice al nl cl) := hp.cell rfl
  have f9 : w.frozen? ⟨p, 9, none⟩ = false := hp.frozen 9
  have f8 : w.frozen? ⟨p, 8, none⟩ = false := hp.frozen 8
  have hpl := hp.lt
  have hw1 : IntKind.u64.wrap (n : Int) = (n : Int) := by rw [IntKind.wrap_u64]; omega
  have hw2 : IntKind.u64.wrap ((N : Int) + (n : Int)) = ((N + n : Nat) : Int) := by rw [IntKind.wrap_u64]; omega
  have HP := Lib.hid hp; have HL := Lib.hid hl; have HBB := Lib.hid hb; have HN := Lib.hid hn; have HNL := Lib.hid hnl
  clear hp hl hb hn hnl
  refine callsIn_of_wp_marks Try.func11 rfl trivial ?_ rfl
  simp only [Try.ntmps11, List.size_toArray, List.length_cons, List.length_nil, Nat.reduceAdd, Nat.reduceSub, Array.replicate_succ, Array.replicate_zero, List.push_toArray, List.append_toArray, List.nil_append, List.cons_append]
  obtain ⟨W1, hW1⟩ : ∃ W1, w.setCell ⟨p, 9, none⟩ (.int .u64 ((N : Int) + (n : Int))) = W1 := ⟨_, rfl⟩
  have hh1 : HashAt W1 p x (.slice al nl cl) (N + n) := by
    rw [← hW1, ← Int.natCast_add]; exact HP.out.setN
  have hg1 : w.grownBy W1 (some p) := by rw [← hW1]; exact grownBy_set w p 9 _
  have hs1 : W1.heap.size = w.heap.size := by rw [← hW1]; simp [World.setCell]
  have HH1 := Lib.hid hh1; have HG1 := Lib.hid hg1; have HW1 := Lib.hid hW1; have HS1 := Lib.hid hs1
  clear hh1 hg1 hW1 hs1
  gi_wp2_with fail
  rw [HW1.out]
  obtain ⟨W2, hW2⟩ : ∃ W2, (W1.alloc (.cells #[.pointer (some ⟨p, 0, none⟩)] 25)).alloc (.cells #[.slice al nl cl, .slice ab n cb] 22) = W2 := ⟨_, rfl⟩
  rw [hW2]
  have hb2 : Below W1.heap.size W1 W2 := by rw [← hW2]; exact ((Below.refl _ _).alloc (Nat.le_refl _) _).alloc (by simp) _
  have hs2 : W2.heap.size = w.heap.size + 2 := by rw [← hW2, ← HS1.out]; simp
  have hx0 : W2.heap[w.heap.size]? = some (.cells #[.pointer (some ⟨p, 0, none⟩)] 25 (0, 0)) := by
    rw [← hW2, ← HS1.out, heap_alloc_old _ _ (by simp), heap_alloc_new]
  have hx1 : W2.heap[w.heap.size + 1]? = some (.cells #[.slice al nl cl, .slice ab n cb] 22 (0, 0)) := by
    rw [← hW2, ← HS1.out]
    have := heap_alloc_new (W1.alloc (.cells #[.pointer (some ⟨p, 0, none⟩)] 25)) (.cells #[.slice al nl cl, .slice ab n cb] 22)
    simpa using this
  have hrl : Rd W2 al left := (HL.out.grown HG1.out (fun a e _ => by simpa using hal a e)).below hb2
  have hrb : Rd W2 ab b := (HBB.out.grown HG1.out (fun a e hp => by simpa using hab a e hp)).below hb2
  have hcat := concat_any (w.heap.size + 1) 2 al ab cl cb left b W2 (by rw [HN.out, HNL.out]; omega) hrl hrb
    (by rw [HNL.out, cell_of_row W2 _ 0 _ 22 (0, 0) hx1]; rfl) (by rw [HN.out, cell_of_row W2 _ 1 _ 22 (0, 0) hx1]; rfl) (by omega)
  have hh2 : HashAt W2 p x (.slice al nl cl) (N + n) := HH1.out.below hb2
  have HH2 := Lib.hid hh2; have HX0 := Lib.hid hx0; have HS2 := Lib.hid hs2; have HB2 := Lib.hid hb2
  clear hx0 hx1 hrl hrb hh2 hs2 hb2 hW2 c8 c9 f8 f9 hw1 hw2
  refine ⟨trivial, (callsIn_wide.2 hcat).mono ?_⟩
  clear hcat
  rintro e W3 ⟨v3, rfl, ho, hb3⟩
  obtain ⟨d, hd⟩ : ∃ d, left ++ b = d := ⟨_, rfl⟩
  rw [hd] at ho
  obtain ⟨a3, k3, rfl, hk3, hr3⟩ := ho.reads
  have hh3 : HashAt W3 p x (.slice al nl cl) (N + n) := HH2.out.below hb3
  have hx3 : W3.heap[w.heap.size]? = some (.cells #[.pointer (some ⟨p, 0, none⟩)] 25 (0, 0)) := (hb3.block _ (by have := HS2.out; omega)).trans HX0.out
  have c8 : W3.cell? ⟨p, 8, none⟩ = some (.slice al nl cl) := hh3.cell rfl
  have f8 : W3.frozen? ⟨p, 8, none⟩ = false := hh3.frozen 8
  have cb3 : W3.cell? ⟨w.heap.size, 0, none⟩ = some (.pointer (some ⟨p, 0, none⟩)) := by rw [cell_of_row W3 _ 0 _ 25 (0, 0) hx3]; rfl
  have HH3 := Lib.hid hh3; have HX3 := Lib.hid hx3; have HB3 := Lib.hid hb3; have HO := Lib.hid ho; have HD := Lib.hid hd; have HR3 := Lib.hid hr3
  clear hh3 hx3 hb3 ho hd hr3
  gi_wp2_with fail
  obtain ⟨W4, hW4⟩ : ∃ W4, W3.setCell ⟨p, 8, none⟩ (.slice none 0 0) = W4 := ⟨_, rfl⟩
  rw [hW4]
  have hh4 : HashAt W4 p x (.slice none 0 0) (N + n) := by rw [← hW4]; exact HH3.out.setLeft
  have hg4 : W3.grownBy W4 (some p) := by rw [← hW4]; exact grownBy_set W3 p 8 _
  have hs4 : W4.heap.size = W3.heap.size := by rw [← hW4]; simp [World.setCell]
  have HH4 := Lib.hid hh4; have HG4 := Lib.hid hg4; have HS4 := Lib.hid hs4
  clear hh4 hg4 hs4 hW4 c8 f8 cb3
  refine ⟨trivial, (callsIn_wide.2 (chunk_any _ _ _ _)).mono ?_⟩
  rintro e w5 ⟨rfl, rfl⟩
  gi_wp2_with fail
  obtain ⟨hk9, hform, hbase⟩ := HO.out.form
  obtain ⟨g, hga⟩ : ∃ g, 0 < d.length → a3 = some ⟨g, 0, none⟩ := by
    by_cases h : 0 < d.length
    · obtain ⟨g, hg⟩ := hform h
      exact ⟨g, fun _ => hg⟩
    · exact ⟨0, fun h2 => absurd h2 h⟩
  have hdl : d.length ≤ 1099511627776 := by rw [← HD.out, List.length_append, HN.out, HNL.out]; exact hlen
  have hz : w.heap.size + 2 ≤ W4.heap.size := by have := HB3.out.size; have := HS2.out; have := HS4.out; omega
  obtain ⟨W5, hW5⟩ : ∃ W5, (W4.alloc (.cells #[.slice a3 d.length k3] 22)).alloc (.cells #[.int .i64 64] 3) = W5 := ⟨_, rfl⟩
  have hb5 : Below W4.heap.size W4 W5 := by rw [← hW5]; exact ((Below.refl _ _).alloc (Nat.le_refl _) _).alloc (by simp) _
  have hs5 : W5.heap.size = W4.heap.size + 2 := by rw [← hW5]; simp
  have hq0 : W5.heap[W4.heap.size]? = some (.cells #[.slice a3 d.length k3] 22 (0, 0)) := by
    rw [← hW5, heap_alloc_old _ _ (by simp), heap_alloc_new]
  have hq1 : W5.heap[W4.heap.size + 1]? = some (.cells #[.int .i64 64] 3 (0, 0)) := by
    rw [← hW5]
    have := heap_alloc_new (W4.alloc (.cells #[.slice a3 d.length k3] 22)) (.cells #[.int .i64 64] 3)
    simpa using this
  have hgr : w.grownBy W5 (some p) := grownBy_trans (grownBy_trans (grownBy_trans (grownBy_trans HG1.out (grownBy_below HB2.out)) (grownBy_below HB3.out)) HG4.out) (grownBy_below hb5)
  have hh5 : HashAt W5 p x (.slice none 0 0) (N + n) := HH4.out.below hb5
  have hpw := hpl
  have hbx : W5.heap[w.heap.size]? = some (.cells #[.pointer (some ⟨p, 0, none⟩)] 25 (0, 0)) := ((hb5.block _ (by omega)).trans (HG4.out.block _ (by have := HS4.out; omega) (by simp; omega))).trans HX3.out
  have hrd : Rd W5 a3 d := (HR3.out.grown HG4.out (fun b e _ => by have := (hbase b e).1; have := HS2.out; simp; omega)).below hb5
  rw [hW5]
  refine wpIn_rangeFunc_ownG rfl (by omega) (gf := 26) (lb := #[.pointer (some ⟨W4.heap.size, 0, none⟩), .pointer (some ⟨W4.heap.size + 1, 0, none⟩)]) rfl trivial (enters_of Try.func26 (by kernel_rfl) rfl)
    (chunk_stops 2 (by omega) W4.heap.size (W4.heap.size + 1) g d.length k3 a3 hga (by omega) hk3 hk9 W5 hq0 hq1) Keep2.trans (Keep2.putObj (B := W5.heap.size) (by omega) (by omega)) (Below.refl _ _) (fun _ => rfl)
    (WInv w W5.heap.size p x d a3 (N + n)) (WOut w p x d (N + n)) (WInv.own (by omega)) (WOut.own (by omega))
    ⟨hh5, (fun y hy => by cases hy), hbx, hgr, hrd, Nat.le_refl _⟩
    (fun (y : Ck d.length) => { tmps := #[.pointer (some ⟨p, 0, none⟩), .slice ab n cb, .pointer (some ⟨w.heap.size, 0, none⟩), undef, .int .i64 0, .slice a3 d.length k3, .slice (some ⟨g, 64 * y.1, none⟩) (ckLen d.length y.1) (ckLen d.length y.1), .pointer (some ⟨p, 0, none⟩), .bool false,
          .pointer (some ⟨p, 0, none⟩), .pointer (some ⟨p, 0, none⟩), .pointer (some ⟨p, 9, none⟩), .int .u64 N, .slice ab n cb, .int .i64 n, .int .u64 n, .int .u64 (N + n),
          .pointer (some ⟨p, 0, none⟩), .pointer (some ⟨p, 9, none⟩), .pointer (some ⟨p, 0, none⟩), .pointer (some ⟨p, 0, none⟩), .pointer (some ⟨p, 8, none⟩), .slice al nl cl, .slice ab n cb,
          .slice (some ⟨w.heap.size + 1, 0, none⟩) 2 2, .slice a3 d.length k3, .pointer (some ⟨p, 0, none⟩), .pointer (some ⟨p, 0, none⟩), .pointer (some ⟨p, 8, none⟩), .slice a3 d.length k3,
          .func (.func 26) #[] #[.pointer (some ⟨W4.heap.size, 0, none⟩), .pointer (some ⟨W4.heap.size + 1, 0, none⟩)], .slice (some ⟨g, 64 * y.1, none⟩) (ckLen d.length y.1) (ckLen d.length y.1),
          undef, undef, undef, undef, undef, undef, undef, undef, undef, undef, undef, undef, undef, undef, undef, undef, undef, undef, undef], defers := [] }) ?assign ?body ?done ?stop
  case assign =>
    intro l y W K hK
    simp only [encK]
    gi_wp2
    exact hK
  case body =>
    rintro l pre y W hinv hlt
    obtain ⟨h1, h2, h3, h4, h5, h6⟩ := hinv
    obtain ⟨m, hm⟩ : ∃ m, ckLen d.length y.1 = m := ⟨_, rfl⟩
    obtain ⟨k, hky⟩ : ∃ k, 64 * y.1 = k := ⟨_, rfl⟩
    have hy2 := y.2
    have hmk : m = min 64 (d.length - k) := by rw [← hm, ← hky]; rfl
    rw [hky] at hy2
    have hm1 : 1 ≤ m := by omega
    have hm64 : m ≤ 64 := by omega
    have hkm : k + m ≤ d.length := by omega
    obtain rfl := hga (by omega)
    obtain ⟨ch, hch⟩ : ∃ ch, (d.drop k).take 64 = ch := ⟨_, rfl⟩
    have hchl : ch.length = m := by rw [← hch, List.length_take, List.length_drop]; omega
    have hrc : Rd W (some ⟨g, k, none⟩) ch := by
      have e : (d.drop k).take m = ch := by
        rw [← hch]
        by_cases hf : m = 64
        · rw [hf]
        · rw [List.take_of_length_le (by rw [List.length_drop]; omega), List.take_of_length_le (by rw [List.length_drop]; omega)]
      rw [← e]; exact h5.cut k m hkm
    have cb3 : W.cell? ⟨w.heap.size, 0, none⟩ = some (.pointer (some ⟨p, 0, none⟩)) := by rw [cell_of_row W _ 0 _ 25 (0, 0) h3]; rfl
    have H1 := Lib.hid h1; have H2 := Lib.hid h2; have H3 := Lib.hid h3; have H4 := Lib.hid h4; have H5 := Lib.hid h5; have HM := Lib.hid hm; have HK := Lib.hid hky; have HCH := Lib.hid hch; have HCL := Lib.hid hchl; have HRC := Lib.hid hrc
    rw [hky, hm]
    have hbw : w.heap.size < W.heap.size := (Array.getElem?_eq_some_iff.1 h3).1
    clear h1 h2 h3 h4 h5 hm hky hch hchl hrc hmk
    by_cases hf : m < 64
    · have hfi : (m : Int) < 64 := by omega
      have hcl : ∀ Wq, Wq = W.drew → CallsIn Fence.wide 0 Try.prog 22 #[.slice (some ⟨g, k, none⟩) m m] Wq fun e w' => ∃ av cv, e = .returned (.slice av m cv) ∧ OwnB w' w.heap.size (.slice av m cv) ch ∧ Below W.heap.size W w' := by
        rintro _ rfl
        have := clone_any ⟨g, k, none⟩ m ch W.drew (by rw [HCL.out]; exact hm64) (HRC.out.below (Below.refl _ _).drew)
        rw [HCL.out] at this
        refine (callsIn_wide.2 this).mono ?_
        rintro e w' ⟨v, rfl, h2, h3⟩
        obtain ⟨av, cv, rfl, _, _⟩ := h2.reads
        rw [HCL.out] at h2 ⊢
        exact ⟨av, cv, rfl, h2.lower (by exact Nat.le_of_lt hbw), ((Below.refl _ W).drew).trans h3⟩
      have HCC := Lib.hid hcl
      clear hcl
      gi_wp2_with fail
      have hmx : Try.prog.follows .mixedOrders = true := by kernel_rfl
      gi_region_with_o (refine ⟨trivial, ?_⟩; gi_at_call 22; refine (CallsIn.inRound l (HCC.out _ rfl)).mono ?_; rintro e w6 ⟨av, cv, rfl, ho, hb6⟩; have hh6 := H1.out.below hb6; have c86 := hh6.cell (j := 8) rfl; have f86 := hh6.frozen 8; have cb6 := (hb6.cell (p := ⟨w.heap.size, 0, none⟩) hbw).trans cb3; have HH6 := Lib.hid hh6; have HO6 := Lib.hid ho; have HB6 := Lib.hid hb6; clear hh6 ho hb6)
      all_goals gi_wp2
      all_goals
        have hset := HH6.out.setLeft (v := .slice av m cv)
        have hg6 : W.grownBy (w6.setCell ⟨p, 8, none⟩ (.slice av m cv)) (some p) := grownBy_trans (grownBy_below HB6.out) (grownBy_set _ _ _ _)
        have ho6 : OwnB (w6.setCell ⟨p, 8, none⟩ (.slice av m cv)) w.heap.size (.slice av m cv) ch := HO6.out.kept (grownBy_set _ _ _ _) (fun q hq e => by
          have := own_base (Kd.own_of_R HO6.out) q hq
          cases e; omega)
        exact ⟨KeepsFrom.of_grownBy hg6 (fun j e => by cases e; omega), rfl, pre, y, _, rfl, H2.out, by rw [HM.out]; exact hf, hset, by rw [HK.out, HCH.out]; exact ho6, grownBy_trans H4.out hg6⟩
    · obtain rfl : m = 64 := by omega
      obtain ⟨st, hst⟩ : ∃ st, stOf x d pre = st := ⟨_, rfl⟩
      rw [hst] at H1
      obtain ⟨sA, sB, sC, sD, sE, sF, sG, sH⟩ := st
      have HST := Lib.hid hst
      clear hst
      have c0 : W.cell? ⟨p, 0, none⟩ = some (.int .u32 (sA.toNat : Int)) := H1.out.cell rfl
      have c1 : W.cell? ⟨p, 1, none⟩ = some (.int .u32 (sB.toNat : Int)) := H1.out.cell rfl
      have c2 : W.cell? ⟨p, 2, none⟩ = some (.int .u32 (sC.toNat : Int)) := H1.out.cell rfl
      have c3 : W.cell? ⟨p, 3, none⟩ = some (.int .u32 (sD.toNat : Int)) := H1.out.cell rfl
      have c4 : W.cell? ⟨p, 4, none⟩ = some (.int .u32 (sE.toNat : Int)) := H1.out.cell rfl
      have c5 : W.cell? ⟨p, 5, none⟩ = some (.int .u32 (sF.toNat : Int)) := H1.out.cell rfl
      have c6 : W.cell? ⟨p, 6, none⟩ = some (.int .u32 (sG.toNat : Int)) := H1.out.cell rfl
      have c7 : W.cell? ⟨p, 7, none⟩ = some (.int .u32 (sH.toNat : Int)) := H1.out.cell rfl
      have htk : ∀ Wq, Wq = W.drew → CallsIn Fence.wide 0 Try.prog 23 #[.agg #[.int .u32 (sA.toNat : Int), .int .u32 (sB.toNat : Int), .int .u32 (sC.toNat : Int), .int .u32 (sD.toNat : Int), .int .u32 (sE.toNat : Int), .int .u32 (sF.toNat : Int), .int .u32 (sG.toNat : Int), .int .u32 (sH.toNat : Int)], .slice (some ⟨g, k, none⟩) 64 64] Wq
          fun e w' => ∃ tA tB tC tD tE tF tG tH : Sha.W, e = .returned (.agg #[.int .u32 (tA.toNat : Int), .int .u32 (tB.toNat : Int), .int .u32 (tC.toNat : Int), .int .u32 (tD.toNat : Int), .int .u32 (tE.toNat : Int), .int .u32 (tF.toNat : Int), .int .u32 (tG.toNat : Int), .int .u32 (tH.toNat : Int)]) ∧ take ⟨sA, sB, sC, sD, sE, sF, sG, sH⟩ ch = ⟨tA, tB, tC, tD, tE, tF, tG, tH⟩ ∧ Below W.heap.size W w' := by
        rintro _ rfl
        have := take_any ⟨sA, sB, sC, sD, sE, sF, sG, sH⟩ (some ⟨g, k, none⟩) 64 64 ch W.drew (by rw [HCL.out]; exact Nat.le_refl _) (HRC.out.below (Below.refl _ _).drew).bytesAt HCL.out (Nat.le_refl _) (by unfold maxLen; omega)
        refine (callsIn_wide.2 this).mono ?_
        rintro e w' ⟨rfl, h3⟩
        obtain ⟨t, ht⟩ : ∃ t, take ⟨sA, sB, sC, sD, sE, sF, sG, sH⟩ ch = t := ⟨_, rfl⟩
        rw [ht]
        obtain ⟨tA, tB, tC, tD, tE, tF, tG, tH⟩ := t
        exact ⟨tA, tB, tC, tD, tE, tF, tG, tH, rfl, rfl, ((Below.refl _ W).drew).trans h3⟩
      have HTK := Lib.hid htk
      clear htk
      have hmx : Try.prog.follows .mixedOrders = true := by kernel_rfl
      gi_wp2_with fail
      gi_region_with_o (refine ⟨trivial, ?_⟩; gi_at_call 23; refine (CallsIn.inRound l (HTK.out _ rfl)).mono ?_; rintro e w6 ⟨tA, tB, tC, tD, tE, tF, tG, tH, rfl, ht, hb6⟩; have hh6 := H1.out.below hb6; have d0 := hh6.cell (j := 0) rfl; have d1 := hh6.cell (j := 1) rfl; have d2 := hh6.cell (j := 2) rfl; have d3 := hh6.cell (j := 3) rfl; have d4 := hh6.cell (j := 4) rfl; have d5 := hh6.cell (j := 5) rfl; have d6 := hh6.cell (j := 6) rfl; have d7 := hh6.cell (j := 7) rfl; have e0 := hh6.frozen 0; have e1 := hh6.frozen 1; have e2 := hh6.frozen 2; have e3 := hh6.frozen 3; have e4 := hh6.frozen 4; have e5 := hh6.frozen 5; have e6 := hh6.frozen 6; have e7 := hh6.frozen 7; have cb6 := (hb6.cell (p := ⟨w.heap.size, 0, none⟩) hbw).trans cb3; have HH6 := Lib.hid hh6; have HT6 := Lib.hid ht; have HB6 := Lib.hid hb6; clear hh6 ht hb6)
      all_goals gi_wp2
      all_goals
        have hset := HH6.out.put8 tA tB tC tD tE tF tG tH
        have hg6 : W.grownBy (set8 w6 p tA tB tC tD tE tF tG tH) (some p) := grownBy_trans (grownBy_below HB6.out) (grownBy_set8 _ _ _ _ _ _ _ _ _ _)
        have hst2 : stOf x d (pre ++ [y]) = ⟨tA, tB, tC, tD, tE, tF, tG, tH⟩ := by rw [stOf_snoc, HST.out, HK.out, HCH.out, HT6.out]
        have hfull : FullK (pre ++ [y]) := fun q hq => by
          rcases List.mem_append.1 hq with hq | hq
          · exact H2.out q hq
          · rw [List.mem_singleton.1 hq]; exact HM.out
        have hpz : p < W4.heap.size := by omega
        refine ⟨KeepsFrom.of_grownBy hg6 (fun j e => by cases e; omega), Keep2.grown hg6 (by omega) (by omega) (by simp; omega) (by simp; omega), by rw [hst2]; exact hset, hfull, (hg6.block _ (by omega) (by simp; omega)).trans H3.out, grownBy_trans H4.out hg6, H5.out.grown hg6 (fun b e _ => by have := (hbase b e).1; have := HS2.out; simp; omega), ?_⟩
        have hsz6 := hg6.size
        first | exact Nat.le_trans h6 hsz6 | (rw [hs5] at h6; exact Nat.le_trans h6 hsz6)
  case done =>
    rintro D ys W hD hS hinv hK
    obtain ⟨h1, h2, h3, h4, h5, h6⟩ := (WInv.own (B := W5.heap.size) (by omega)).putObj (.deferred none) hinv hD hK rfl
    obtain ⟨e1, e2⟩ := done_plain x d ys hS h2
    have E1 := Lib.hid e1; have E2 := Lib.hid e2; have H1 := Lib.hid h1; have H4 := Lib.hid h4; have HI := Lib.hid hinv
    clear e1 e2 h1 h2 h3 h4 h5 h6 hinv hS
    gi_wp2
    refine ⟨by simp, .inl ⟨_, _, rfl, run_takeDeferred hK, ?_⟩⟩
    refine ⟨_, results_tmp rfl _ _ _, rfl, .slice none 0 0, ?_, ?_, H4.out⟩
    · rw [HD.out, ← E1.out]; exact H1.out
    · rw [HD.out, E2.out]; exact OwnB.nil _ _
  case stop =>
    rintro D c pre W hD hS hout hK
    obtain ⟨rfl, pre0, y, v, rfl, h3, h4, h5, h6, h7⟩ := (WOut.own (w := w) (p := p) (x := x) (d := d) (M := N + n) (B := W5.heap.size) (by omega) c).putObj (.deferred none) hout hD hK rfl
    obtain ⟨e1, e2⟩ := out_plain x d pre0 y hS h4
    have E1 := Lib.hid e1; have E2 := Lib.hid e2; have H5 := Lib.hid h5; have H6 := Lib.hid h6; have H7 := Lib.hid h7
    clear e1 e2 h3 h4 h5 h6 h7 hout hS
    gi_wp2
    refine ⟨by simp, .inl ⟨_, _, rfl, run_takeDeferred hK, ?_⟩⟩
    refine ⟨_, results_tmp rfl _ _ _, rfl, v, ?_, ?_, H7.out⟩
    · rw [HD.out, ← E1.out]; exact H5.out
    · rw [HD.out, E2.out]; exact H6.out
end Go.Proofs.Ytdbdikgjelhfbaa
