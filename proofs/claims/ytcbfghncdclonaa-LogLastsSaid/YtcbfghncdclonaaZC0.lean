/-
  Texts of this session, merged in build order: DPlain, DHeap, DOne, DStep, DFile, DCut, DCut2, DApp, DUsed, DAppend, DAppend2, DRead, DNames, Shelf, DSorted, DCrash, DCrash2, LMine, LOneF.
-/
import Derived.Lib.Hide
import Derived.Test.YtcbfghncdclonaaProg
import Derived.Maps.RangeWalk
import Derived.Below
import Derived.WalkKit
import Derived.ArgAppend
import Derived.StringKeys
import Derived.Laws.Rows
import Derived.Lib.SlBytesRow
import Derived.WalkSpells
import Derived.BigQuiet
import Derived.Deep.QuietTactic
import Derived.RegionTactic
import Derived.Deep.RegionLaw
import Derived.BigRegion
import Derived.Laws.AppendOwn
import Derived.Deep.AppendLies
import Derived.Deep.RegionHeld3
import Derived.StillTactics
import Derived.LoopTactic
import Derived.BigGuardPart
import Derived.OwnWalk
import Derived.Deep.Upon
import Derived.Shelf.Small.Bits
import Derived.Shelf.Strconv.Itoa0
import Derived.Shelf.Sort.Plain
import Derived.Shelf.Slices.In.SortNone
import Derived.Sort.EncStr
import Derived.Deep.RegionWith
set_option linter.unusedVariables false
set_option linter.unusedSimpArgs false
/-
  A disk in plain words: files by rising names, each with its bytes and how many of them last; what each call makes of it.
-/
namespace Go.Proofs.Ytcbfghncdclonaa
set_option linter.unusedSimpArgs false
set_option linter.unusedVariables false
abbrev Nm := List UInt8
structure Fl where
  nm : Nm
  b : List UInt8
  n : Nat
structure Ds where
  room : Nat
  L : List Fl
  fused : Bool
  left : Nat
  dead : Bool
def findF (L : List Fl) (nm : Nm) : Option Fl := L.find? fun f => f.nm == nm
def usedL (L : List Fl) : Nat := (L.map fun f => f.b.length).sum
/-- One file turned. -/
def setF (L : List Fl) (nm : Nm) (g : Fl → Fl) : List Fl := L.map fun f => if f.nm = nm then g f else f
/-- A new file in its place. -/
def putF : List Fl → Nm → List Fl
  | [], nm => [⟨nm, [], 0⟩]
  | f :: t, nm => if f.nm < nm then f :: putF t nm else ⟨nm, [], 0⟩ :: f :: t
def newS (room : Int) : Ds := ⟨(max 0 (min room 4194304)).toNat, [], false, 0, false⟩
def isOff (s : Ds) : Bool := s.dead || (s.fused && s.left == 0)
def stepS (s : Ds) : Ds := { s with left := if s.fused then s.left - 1 else s.left }
def offS (s : Ds) : Ds := { s with dead := true }
def addC (c : UInt8) (f : Fl) : Fl := { f with b := f.b ++ [c] }
def syncF (f : Fl) : Fl := { f with n := f.b.length }
def cutF (k : Nat) (f : Fl) : Fl := { f with b := f.b.take k, n := min f.n k }
def turnS (s : Ds) (nm : Nm) (g : Fl → Fl) : Ds := { s with L := setF s.L nm g }
/-- A step, and what it does to a file. -/
def doS (s : Ds) (nm : Nm) (g : Fl → Fl) : Ds × Nat := if isOff s then (offS s, 21) else (turnS (stepS s) nm g, 0)
def bytesS : Ds → Nm → List UInt8 → Ds × Nat
  | s, _, [] => (s, 0)
  | s, nm, c :: t => if isOff s then (offS s, 21) else bytesS (turnS (stepS s) nm (addC c)) nm t
def withF (s : Ds) (nm : Nm) : Ds := if (findF s.L nm).isNone then { s with L := putF s.L nm } else s
def appendS (s : Ds) (nm b : List UInt8) : Ds × Nat :=
  if s.dead then (s, 21) else if nm = [] ∨ ((findF s.L nm).isNone ∧ 4 ≤ s.L.length) then (s, 1) else if s.room < usedL s.L + b.length then (s, 20) else bytesS (withF s nm) nm b
def syncS (s : Ds) (nm : Nm) : Ds × Nat :=
  if s.dead then (s, 21) else if (findF s.L nm).isNone then (s, 31) else doS s nm syncF
def cutS (s : Ds) (nm : Nm) (k : Int) : Ds × Nat :=
  if s.dead then (s, 21) else match findF s.L nm with
  | none => (s, 31)
  | some f => if k < 0 ∨ (f.b.length : Int) < k then (s, 1) else doS s nm (cutF k.toNat)
def readS (s : Ds) (nm : Nm) : List UInt8 := if s.dead then [] else match findF s.L nm with | none => [] | some f => f.b
def lastS (s : Ds) (nm : Nm) : List UInt8 := match findF s.L nm with | none => [] | some f => f.b.take f.n
def fuseS (s : Ds) (n : Int) : Ds := { s with fused := decide (0 ≤ n), left := (max n 0).toNat }
def keepF (k : Nat) (f : Fl) : Fl := { f with b := f.b.take (f.n + k), n := f.n + k }
def crashL : List Fl → Nat → List Fl
  | [], _ => []
  | f :: t, k => keepF (min k (f.b.length - f.n)) f :: crashL t (k - min k (f.b.length - f.n))
def crashS (s : Ds) (keep : Int) : Ds := ⟨s.room, crashL s.L (max keep 0).toNat, false, 0, false⟩
/-- What every disk is. -/
structure WF (s : Ds) : Prop where
  room : s.room ≤ 4194304
  used : usedL s.L ≤ s.room
  few : s.L.length ≤ 4
  rise : s.L.Pairwise fun a b => a.nm < b.nm
  lasts : ∀ f ∈ s.L, f.n ≤ f.b.length
  left : s.left ≤ 9223372036854775807
  name : ∀ f ∈ s.L, f.nm.length ≤ 140737488351232
theorem nm_irrefl (a : Nm) : ¬ a < a := List.lt_irrefl a
theorem nm_trans {a b c : Nm} (h : a < b) (k : b < c) : a < c := List.lt_trans h k
theorem nm_tri (a b : Nm) (h : ¬ a < b) (hne : a ≠ b) : b < a := by
  rcases List.le_total a b with h1 | h1
  · rcases List.le_iff_lt_or_eq.1 h1 with h2 | h2
    · exact absurd h2 h
    · exact absurd h2 hne
  · rcases List.le_iff_lt_or_eq.1 h1 with h2 | h2
    · exact h2
    · exact absurd h2.symm hne
theorem nm_ne {a b : Nm} (h : a < b) : a ≠ b := fun e => nm_irrefl b (e ▸ h)
theorem setF_length (L : List Fl) (nm : Nm) (g : Fl → Fl) : (setF L nm g).length = L.length := by unfold setF; rw [List.length_map]
theorem setF_names (L : List Fl) (nm : Nm) (g : Fl → Fl) (hg : ∀ f, (g f).nm = f.nm) : (setF L nm g).map (·.nm) = L.map (·.nm) := by
  unfold setF
  rw [List.map_map]
  apply List.map_congr_left
  intro f _
  show (if f.nm = nm then g f else f).nm = f.nm
  split
  · exact hg f
  · rfl
theorem rise_names {L L' : List Fl} (h : L'.map (·.nm) = L.map (·.nm)) (hp : L.Pairwise fun a b => a.nm < b.nm) : L'.Pairwise fun a b => a.nm < b.nm := by
  have h1 : (L.map (·.nm)).Pairwise (· < ·) := List.pairwise_map.2 hp
  rw [← h] at h1
  exact List.pairwise_map.1 h1
theorem usedL_cons (f : Fl) (t : List Fl) : usedL (f :: t) = f.b.length + usedL t := by unfold usedL; rw [List.map_cons, List.sum_cons]
theorem usedL_perm {L L' : List Fl} (h : L.Perm L') : usedL L = usedL L' := (h.map _).sum_nat
theorem find_none {L : List Fl} {nm : Nm} (h : findF L nm = none) : ∀ f ∈ L, f.nm ≠ nm := by
  intro f hf e
  have := List.find?_eq_none.1 h f hf
  exact this (by simp [e])
theorem find_some {L : List Fl} {nm : Nm} {f : Fl} (h : findF L nm = some f) : f ∈ L ∧ f.nm = nm := ⟨List.mem_of_find?_eq_some h, by simpa using List.find?_some h⟩
theorem find_of {L : List Fl} (hp : L.Pairwise fun a b => a.nm < b.nm) {f : Fl} (hf : f ∈ L) : findF L f.nm = some f := by
  cases h : findF L f.nm with
  | none => exact absurd rfl (find_none h f hf)
  | some g =>
    obtain ⟨hg, he⟩ := find_some h
    congr 1
    have key : ∀ (L : List Fl), L.Pairwise (fun a b => a.nm < b.nm) → f ∈ L → g ∈ L → g = f := by
      intro L
      induction L with
      | nil => intro _ h; cases h
      | cons a t ih =>
        intro hp h1 h2
        obtain ⟨p1, p2⟩ := List.pairwise_cons.1 hp
        rcases List.mem_cons.1 h1 with e1 | h1
        · rcases List.mem_cons.1 h2 with e2 | h2
          · rw [e1, e2]
          · exact absurd (e1 ▸ he).symm (nm_ne (p1 _ h2))
        · rcases List.mem_cons.1 h2 with e2 | h2
          · exact absurd (e2 ▸ he) (nm_ne (p1 _ h1))
          · exact ih p2 h1 h2
    exact key L hp hf hg
theorem used_set (L : List Fl) (nm : Nm) (g : Fl → Fl) (f : Fl) (hp : L.Pairwise fun a b => a.nm < b.nm) (hf : findF L nm = some f) : usedL (setF L nm g) + f.b.length = usedL L + (g f).b.length := by
  induction L with
  | nil => cases hf
  | cons a t ih =>
    obtain ⟨p1, p2⟩ := List.pairwise_cons.1 hp
    unfold findF at hf
    rw [List.find?_cons] at hf
    have hs : setF (a :: t) nm g = (if a.nm = nm then g a else a) :: setF t nm g := rfl
    rw [hs, usedL_cons, usedL_cons]
    by_cases e : a.nm = nm
    · rw [if_pos e]
      simp [e] at hf
      subst hf
      have : setF t nm g = t := by
        unfold setF
        conv => rhs; rw [← List.map_id t]
        apply List.map_congr_left
        intro x hx
        show (if x.nm = nm then g x else x) = x
        rw [if_neg (fun h => nm_ne (p1 x hx) (e.trans h.symm))]
      rw [this]
      omega
    · rw [if_neg e]
      have hne : (a.nm == nm) = false := by simp [e]
      rw [hne] at hf
      have := ih p2 hf
      omega
theorem find_set (L : List Fl) (nm nm' : Nm) (g : Fl → Fl) (hg : ∀ f, (g f).nm = f.nm) : findF (setF L nm g) nm' = (findF L nm').map fun f => if f.nm = nm then g f else f := by
  unfold findF setF
  rw [List.find?_map]
  congr 1
  congr 1
  funext f
  show ((if f.nm = nm then g f else f).nm == nm') = (f.nm == nm')
  split
  · rw [hg]
  · rfl
theorem find_set_same {L : List Fl} {nm : Nm} {g : Fl → Fl} (hg : ∀ f, (g f).nm = f.nm) {f : Fl} (h : findF L nm = some f) : findF (setF L nm g) nm = some (g f) := by
  rw [find_set _ _ _ _ hg, h]
  show some (if f.nm = nm then g f else f) = _
  rw [if_pos (find_some h).2]
theorem put_mem (L : List Fl) (nm : Nm) (f : Fl) : f ∈ putF L nm ↔ f = ⟨nm, [], 0⟩ ∨ f ∈ L := by
  induction L with
  | nil => simp [putF]
  | cons a t ih =>
    unfold putF
    split
    · rw [List.mem_cons, ih, List.mem_cons]
      constructor
      · rintro (h | h | h)
        · exact .inr (.inl h)
        · exact .inl h
        · exact .inr (.inr h)
      · rintro (h | h | h)
        · exact .inr (.inl h)
        · exact .inl h
        · exact .inr (.inr h)
    · rw [List.mem_cons]
theorem put_perm (L : List Fl) (nm : Nm) : (putF L nm).Perm (⟨nm, [], 0⟩ :: L) := by
  induction L with
  | nil => exact List.Perm.refl _
  | cons a t ih =>
    unfold putF
    split
    · exact (ih.cons a).trans (List.Perm.swap _ _ _)
    · exact List.Perm.refl _
theorem put_rise (L : List Fl) (nm : Nm) (hp : L.Pairwise fun a b => a.nm < b.nm) (hn : findF L nm = none) : (putF L nm).Pairwise fun a b => a.nm < b.nm := by
  induction L with
  | nil => exact List.pairwise_singleton _ _
  | cons a t ih =>
    obtain ⟨p1, p2⟩ := List.pairwise_cons.1 hp
    have hne : a.nm ≠ nm := find_none hn a (List.mem_cons_self ..)
    have hn2 : findF t nm = none := List.find?_eq_none.2 fun x hx => by
      have := find_none hn x (List.mem_cons_of_mem _ hx)
      simp [this]
    unfold putF
    split
    · rename_i h
      refine List.pairwise_cons.2 ⟨fun x hx => ?_, ih p2 hn2⟩
      rcases (put_mem t nm x).1 hx with rfl | hx
      · exact h
      · exact p1 x hx
    · rename_i h
      have hlt := nm_tri _ _ h hne
      refine List.pairwise_cons.2 ⟨fun x hx => ?_, hp⟩
      rcases List.mem_cons.1 hx with rfl | hx
      · exact hlt
      · exact nm_trans hlt (p1 x hx)
theorem WF.step {s : Ds} (h : WF s) : WF (stepS s) := ⟨h.room, h.used, h.few, h.rise, h.lasts, by unfold stepS; simp only []; have := h.left; split <;> omega, h.name⟩
theorem WF.off {s : Ds} (h : WF s) : WF (offS s) := ⟨h.room, h.used, h.few, h.rise, h.lasts, h.left, h.name⟩
theorem WF.turn {s : Ds} (h : WF s) {nm : Nm} {g : Fl → Fl} (hg : ∀ f, (g f).nm = f.nm) {f : Fl} (hf : findF s.L nm = some f) (hl : (g f).n ≤ (g f).b.length) (hu : usedL s.L + (g f).b.length ≤ s.room + f.b.length) : WF (turnS s nm g) := by
  refine ⟨h.room, ?_, ?_, rise_names (setF_names _ _ _ hg) h.rise, ?_, h.left, ?_⟩
  · have := used_set s.L nm g f h.rise hf
    show usedL (setF s.L nm g) ≤ s.room
    omega
  · show (setF s.L nm g).length ≤ 4
    rw [setF_length]
    exact h.few
  · intro x hx
    obtain ⟨y, hy, rfl⟩ := List.mem_map.1 (show x ∈ setF s.L nm g from hx)
    by_cases e : y.nm = nm
    · rw [if_pos e]
      have := find_of h.rise hy
      rw [e, hf] at this
      rw [← Option.some.inj this]
      exact hl
    · rw [if_neg e]
      exact h.lasts y hy
  · intro x hx
    obtain ⟨y, hy, rfl⟩ := List.mem_map.1 (show x ∈ setF s.L nm g from hx)
    by_cases e : y.nm = nm
    · rw [if_pos e, hg]
      exact h.name y hy
    · rw [if_neg e]
      exact h.name y hy
theorem WF.put {s : Ds} (h : WF s) {nm : Nm} (hn : findF s.L nm = none) (hl : s.L.length < 4) (hm : nm.length ≤ 140737488351232) : WF { s with L := putF s.L nm } := by
  refine ⟨h.room, ?_, ?_, put_rise _ _ h.rise hn, ?_, h.left, ?_⟩
  · show usedL (putF s.L nm) ≤ s.room
    rw [usedL_perm (put_perm _ _), usedL_cons]
    have := h.used
    simpa using this
  · show (putF s.L nm).length ≤ 4
    rw [(put_perm _ _).length_eq, List.length_cons]
    omega
  · intro x hx
    rcases (put_mem _ _ _).1 (show x ∈ putF s.L nm from hx) with rfl | hx
    · exact Nat.le_refl _
    · exact h.lasts x hx
  · intro x hx
    rcases (put_mem _ _ _).1 (show x ∈ putF s.L nm from hx) with rfl | hx
    · exact hm
    · exact h.name x hx
theorem WF.fuse {s : Ds} (h : WF s) (n : Int) (hn : n ≤ 9223372036854775807) : WF (fuseS s n) := ⟨h.room, h.used, h.few, h.rise, h.lasts, by unfold fuseS; simp only []; omega, h.name⟩
theorem crash_length : ∀ (L : List Fl) (k : Nat), (crashL L k).length = L.length
  | [], _ => rfl
  | f :: t, k => by unfold crashL; rw [List.length_cons, crash_length t, List.length_cons]
theorem crash_names : ∀ (L : List Fl) (k : Nat), (crashL L k).map (·.nm) = L.map (·.nm)
  | [], _ => rfl
  | f :: t, k => by unfold crashL; rw [List.map_cons, crash_names t, List.map_cons]; rfl
theorem crash_lasts : ∀ (L : List Fl) (k : Nat), (∀ f ∈ L, f.n ≤ f.b.length) → (∀ f ∈ crashL L k, f.n ≤ f.b.length) ∧ usedL (crashL L k) ≤ usedL L
  | [], _, h => ⟨h, Nat.le_refl _⟩
  | f :: t, k, h => by
    have ih := crash_lasts t (k - min k (f.b.length - f.n)) fun x hx => h x (List.mem_cons_of_mem _ hx)
    have hf := h f (List.mem_cons_self ..)
    unfold crashL
    refine ⟨fun x hx => ?_, ?_⟩
    · rcases List.mem_cons.1 hx with rfl | hx
      · unfold keepF
        simp only [List.length_take]
        omega
      · exact ih.1 x hx
    · rw [usedL_cons, usedL_cons]
      have : (keepF (min k (f.b.length - f.n)) f).b.length ≤ f.b.length := by unfold keepF; simp only [List.length_take]; omega
      omega
theorem WF.crash {s : Ds} (h : WF s) (keep : Int) : WF (crashS s keep) := by
  have hc := crash_lasts s.L (max keep 0).toNat h.lasts
  refine ⟨h.room, Nat.le_trans hc.2 h.used, ?_, rise_names (crash_names _ _) h.rise, hc.1, by show (0 : Nat) ≤ _; omega, ?_⟩
  · show (crashL s.L _).length ≤ 4
    rw [crash_length]
    exact h.few
  · intro x hx
    have hm : x.nm ∈ (crashL s.L (max keep 0).toNat).map (·.nm) := List.mem_map_of_mem hx
    rw [crash_names] at hm
    obtain ⟨y, hy, e⟩ := List.mem_map.1 hm
    rw [← e]
    exact h.name y hy
theorem WF.new (room : Int) : WF (newS room) := ⟨(by unfold newS; simp only []; omega), Nat.zero_le _, (by show (0 : Nat) ≤ 4; omega), List.Pairwise.nil, (fun _ h => by cases h), (by show (0 : Nat) ≤ _; omega), (fun _ h => by cases h)⟩
end Go.Proofs.Ytcbfghncdclonaa

/-
  A disk in memory: its block, its map, its files' blocks and rows; what a call may turn.
-/
namespace Go.Proofs.Ytcbfghncdclonaa
open Go.RowKit Go.Maps
set_option linter.unusedSimpArgs false
set_option linter.unusedVariables false
def bsL (l : List UInt8) : ByteArray := ⟨l.toArray⟩
theorem bsL_toList (l : List UInt8) : (bsL l).data.toList = l := by unfold bsL; simp
theorem bsL_size (l : List UInt8) : (bsL l).size = l.length := by unfold bsL; simp [ByteArray.size]
theorem bsL_data (s : ByteArray) : bsL s.data.toList = s := by unfold bsL; simp
def u8c (l : List UInt8) : List Value := l.map fun c => Value.int .u8 (c.toNat : Int)
theorem u8c_length (l : List UInt8) : (u8c l).length = l.length := List.length_map _
/-- How an element of the files' map reads: a file by its block's number. -/
def RP (v : Value) : Option (DataW Unit × List MemPlace) := match v with
  | .pointer (some ⟨b, 0, none⟩) => some (.lit (.int .i64 (b : Int)), [])
  | .pointer none => some (.nil, [])
  | _ => none
theorem RP_inv {v : Value} {f : Nat} {ps : List MemPlace} (h : RP v = some (.lit (.int .i64 (f : Int)), ps)) : v = .pointer (some ⟨f, 0, none⟩) := by
  unfold RP at h
  split at h
  · have e := (Prod.mk.inj (Option.some.inj h)).1
    injection e with e
    injection e with _ e
    have : (_ : Nat) = f := Int.ofNat.inj e
    rw [this]
  · have e := (Prod.mk.inj (Option.some.inj h)).1
    cases e
  · cases h
theorem RP_nil {v : Value} {ps : List MemPlace} (h : RP v = some (.nil, ps)) : v = .pointer none := by
  unfold RP at h
  split at h
  · have e := (Prod.mk.inj (Option.some.inj h)).1
    cases e
  · rfl
  · cases h
/-- A row of bytes of a file: nil, or the front of a block of its own. -/
def OwnB (w : World) (v : Value) (bs : List UInt8) (r : Option Nat) : Prop :=
  (v = .slice none 0 0 ∧ bs = [] ∧ r = none) ∨
  ∃ g cap cur, v = .slice (some ⟨g, 0, none⟩) bs.length cap ∧ r = some g ∧ w.heap[g]? = some (.cells cur 5 (0, 0)) ∧ bs.length ≤ cap ∧ cap ≤ cur.size ∧ cap ≤ maxLen ∧ cur.toList.take bs.length = u8c bs
structure Rc where
  f : Nat
  r : Option Nat
  x : Fl
def footOf (X : List Rc) : List Nat := X.flatMap fun c => c.f :: c.r.toList
def keyL (nm : Nm) : Lit := .string nm
def Dof (X : List Rc) : DataW Unit := X.foldl (fun m c => m.put (keyL c.x.nm) (.lit (.int .i64 (c.f : Int)))) (.map [])
def FileIn (w : World) (c : Rc) : Prop := ∃ v, w.heap[c.f]? = some (.cells #[v, .int .i64 (c.x.n : Int)] 69 (0, 0)) ∧ OwnB w v c.x.b c.r
/-- The blocks of a disk, and what they hold. -/
structure DiskX (w : World) (p M : Nat) (X : List Rc) (s : Ds) : Prop where
  nodup : (p :: M :: footOf X).Nodup
  perm : (X.map (·.x)).Perm s.L
  wf : WF s
  blk : w.heap[p]? = some (.cells #[.int .i64 (s.room : Int), .map (some M), .bool s.fused, .int .i64 (s.left : Int), .bool s.dead] 59 (0, 0))
  map : w.ownsMap Try.prog 9 RP M X.length (Dof X)
  file : ∀ c ∈ X, FileIn w c
def DiskAt (w : World) (p : Nat) (s : Ds) (S : List Nat) : Prop := ∃ M X, S = p :: M :: footOf X ∧ DiskX w p M X s
/-- What a call may turn: the blocks of S; what it makes is new. -/
structure Turns (S S' : List Nat) (w w' : World) : Prop where
  os : w'.os = w.os
  tape : w'.tape = w.tape
  output : w'.output = w.output
  size : w.heap.size ≤ w'.heap.size
  block : ∀ k, k < w.heap.size → k ∉ S → w'.heap[k]? = w.heap[k]?
  foot : ∀ k ∈ S', k ∈ S ∨ w.heap.size ≤ k
theorem Turns.refl (S : List Nat) (w : World) : Turns S S w w := ⟨rfl, rfl, rfl, Nat.le_refl _, fun _ _ _ => rfl, fun _ h => .inl h⟩
theorem Turns.trans {S S' S'' : List Nat} {a b c : World} (h : Turns S S' a b) (k : Turns S' S'' b c) : Turns S S'' a c :=
  ⟨k.os.trans h.os, k.tape.trans h.tape, k.output.trans h.output, Nat.le_trans h.size k.size,
    fun i hi hn => (k.block i (Nat.lt_of_lt_of_le hi h.size) (fun hm => by rcases h.foot i hm with h1 | h1; exact hn h1; omega)).trans (h.block i hi hn),
    fun i hi => by
      rcases k.foot i hi with h1 | h1
      · exact h.foot i h1
      · exact .inr (Nat.le_trans h.size h1)⟩
theorem Turns.below {S S' : List Nat} {B : Nat} {w w' : World} (h : Turns S S' w w') (hB : ∀ k ∈ S, B ≤ k) (hw : B ≤ w.heap.size) : Below B w w' :=
  ⟨h.os, h.tape, h.output, h.size, fun k hk => h.block k (by omega) (fun hm => by have := hB k hm; omega)⟩
theorem Turns.of_below {S : List Nat} {w w' : World} (h : Below w.heap.size w w') : Turns S S w w' := ⟨h.os, h.tape, h.output, h.size, fun k hk _ => h.block k hk, fun _ h => .inl h⟩
theorem Turns.cell {S S' : List Nat} {w w' : World} (h : Turns S S' w w') {a : Addr} (hl : a.block < w.heap.size) (hn : a.block ∉ S) : w'.cell? a = w.cell? a := World.cell?_of_block (h.block a.block hl hn)
theorem heap_lt {w : World} {k : Nat} {o : Obj} (h : w.heap[k]? = some o) : k < w.heap.size := (Array.getElem?_eq_some_iff.1 h).1
theorem OwnB.lt {w : World} {v : Value} {bs : List UInt8} {g : Nat} (h : OwnB w v bs (some g)) : g < w.heap.size := by
  rcases h with ⟨_, _, h⟩ | ⟨g', cap, cur, rfl, h, hg, _⟩
  · cases h
  · cases h
    exact heap_lt hg
theorem OwnB.kept {w w' : World} {v : Value} {bs : List UInt8} {r : Option Nat} (h : OwnB w v bs r) (hk : ∀ g, r = some g → w'.heap[g]? = w.heap[g]?) : OwnB w' v bs r := by
  rcases h with h | ⟨g, cap, cur, h1, h2, h3, h4⟩
  · exact .inl h
  · exact .inr ⟨g, cap, cur, h1, h2, (hk g h2).trans h3, h4⟩
theorem mem_foot {X : List Rc} {c : Rc} (hc : c ∈ X) : c.f ∈ footOf X ∧ ∀ g, c.r = some g → g ∈ footOf X := by
  unfold footOf
  refine ⟨List.mem_flatMap.2 ⟨c, hc, List.mem_cons_self ..⟩, fun g hg => List.mem_flatMap.2 ⟨c, hc, ?_⟩⟩
  rw [hg]
  simp
theorem FileIn.kept {w w' : World} {c : Rc} (h : FileIn w c) (hf : w'.heap[c.f]? = w.heap[c.f]?) (hr : ∀ g, c.r = some g → w'.heap[g]? = w.heap[g]?) : FileIn w' c := by
  obtain ⟨v, h1, h2⟩ := h
  exact ⟨v, hf.trans h1, h2.kept hr⟩
theorem FileIn.lt {w : World} {c : Rc} (h : FileIn w c) : c.f < w.heap.size ∧ ∀ g, c.r = some g → g < w.heap.size := by
  obtain ⟨v, h1, h2⟩ := h
  refine ⟨heap_lt h1, fun g hg => ?_⟩
  rw [hg] at h2
  exact h2.lt
theorem DiskX.kept {w w' : World} {p M : Nat} {X : List Rc} {s : Ds} (h : DiskX w p M X s) (hk : ∀ k ∈ p :: M :: footOf X, w'.heap[k]? = w.heap[k]?) : DiskX w' p M X s := by
  refine ⟨h.nodup, h.perm, h.wf, (hk p (by simp)).trans h.blk, ?_, fun c hc => ?_⟩
  · obtain ⟨es, clock, hb, r⟩ := h.map
    exact ⟨es, clock, (hk M (by simp)).trans hb, r⟩
  · obtain ⟨m1, m2⟩ := mem_foot hc
    exact (h.file c hc).kept (hk _ (by simp [m1])) (fun g hg => hk _ (by simp [m2 g hg]))
theorem DiskX.lt {w : World} {p M : Nat} {X : List Rc} {s : Ds} (h : DiskX w p M X s) : ∀ k ∈ p :: M :: footOf X, k < w.heap.size := by
  intro k hk
  rcases List.mem_cons.1 hk with rfl | hk
  · exact heap_lt h.blk
  · rcases List.mem_cons.1 hk with rfl | hk
    · exact h.map.lt
    · obtain ⟨c, hc, hm⟩ := List.mem_flatMap.1 hk
      have hl := (h.file c hc).lt
      rcases List.mem_cons.1 hm with rfl | hm
      · exact hl.1
      · cases hr : c.r with
        | none => rw [hr] at hm; cases hm
        | some g =>
          rw [hr] at hm
          simp at hm
          subst hm
          exact hl.2 _ hr
theorem DiskAt.lt {w : World} {p : Nat} {s : Ds} {S : List Nat} (h : DiskAt w p s S) : ∀ k ∈ S, k < w.heap.size := by
  obtain ⟨M, X, rfl, h⟩ := h
  exact h.lt
theorem DiskAt.kept {w w' : World} {p : Nat} {s : Ds} {S : List Nat} (h : DiskAt w p s S) (hk : ∀ k ∈ S, w'.heap[k]? = w.heap[k]?) : DiskAt w' p s S := by
  obtain ⟨M, X, rfl, h⟩ := h
  exact ⟨M, X, rfl, h.kept hk⟩
theorem DiskAt.below {w w' : World} {p : Nat} {s : Ds} {S : List Nat} (h : DiskAt w p s S) (hb : Below w.heap.size w w') : DiskAt w' p s S :=
  h.kept fun k hk => hb.block k (h.lt k hk)
theorem DiskAt.wf {w : World} {p : Nat} {s : Ds} {S : List Nat} (h : DiskAt w p s S) : WF s := by
  obtain ⟨M, X, rfl, h⟩ := h
  exact h.wf
/-! The map of the files. -/
theorem keyed9 : Keyed Try.prog 9 := string_keyed Try.underlying9
theorem zero51 (w : World) : (zeroValue 67).run Try.prog w = .ok (.pointer none) w := by kernel_rfl
theorem key_of (s : ByteArray) (h : s.size ≤ maxLen) : keyOf Try.prog 9 (.string s) = some (keyL s.data.toList) := Go.WideMaps.keyOf_string_mk Try.underlying9 h
theorem Dof_snoc (X : List Rc) (c : Rc) : Dof (X ++ [c]) = (Dof X).put (keyL c.x.nm) (.lit (.int .i64 (c.f : Int))) := by unfold Dof; rw [List.foldl_append]; rfl
theorem rev_ind {P : List Rc → Prop} (h0 : P []) (h1 : ∀ X c, P X → P (X ++ [c])) (X : List Rc) : P X := by
  have : ∀ n (X : List Rc), X.length = n → P X := by
    intro n
    induction n with
    | zero => intro X h; rw [List.length_eq_zero_iff.1 h]; exact h0
    | succ n ih =>
      intro X h
      have hne : X ≠ [] := fun e => by rw [e] at h; cases h
      rw [← List.dropLast_concat_getLast hne]
      exact h1 _ _ (ih _ (by rw [List.length_dropLast]; omega))
  exact this _ X rfl
theorem key_lit (nm : Nm) : WideAt.IsKeyLit (keyL nm) := by unfold keyL WideAt.IsKeyLit; trivial
theorem Dof_tidy (X : List Rc) : Tidy (Dof X) := by
  refine rev_ind (P := fun X => Tidy (Dof X)) ⟨[], rfl, List.Pairwise.nil⟩ (fun X c ih => ?_) X
  rw [Dof_snoc]
  exact ih.put (key_lit _) _
theorem key_ne {a b : Nm} (h : a ≠ b) : keyL a ≠ keyL b := fun e => h (by injection e)
theorem Dof_none (X : List Rc) (nm : Nm) (h : ∀ c ∈ X, c.x.nm ≠ nm) : Maps.has (Dof X) (keyL nm) = false ∧ ∀ z, (Dof X).atKey (keyL nm) z = z := by
  have key : Maps.has (Dof X) (keyL nm) = false := by
    revert h
    refine rev_ind (P := fun X => (∀ c ∈ X, c.x.nm ≠ nm) → Maps.has (Dof X) (keyL nm) = false) (fun _ => rfl) (fun X c ih h => ?_) X
    rw [Dof_snoc, has_put_other (key_ne (h c (by simp)).symm)]
    exact ih fun c hc => h c (by simp [hc])
  exact ⟨key, atKey_of_not_has key⟩
theorem Dof_some (X : List Rc) (c : Rc) (hc : c ∈ X) (hp : (X.map (·.x.nm)).Nodup) : Maps.has (Dof X) (keyL c.x.nm) = true ∧ ∀ z, (Dof X).atKey (keyL c.x.nm) z = .lit (.int .i64 (c.f : Int)) := by
  revert hc hp
  refine rev_ind (P := fun X => c ∈ X → (X.map (·.x.nm)).Nodup → Maps.has (Dof X) (keyL c.x.nm) = true ∧ ∀ z, (Dof X).atKey (keyL c.x.nm) z = .lit (.int .i64 (c.f : Int))) (fun h => by cases h) (fun X d ih hc hp => ?_) X
  rw [List.map_append, List.nodup_append] at hp
  rw [Dof_snoc]
  rcases List.mem_append.1 hc with h | h
  · have hne : d.x.nm ≠ c.x.nm := fun e => hp.2.2 c.x.nm (List.mem_map_of_mem (f := fun y : Rc => y.x.nm) h) d.x.nm (by simp) e.symm
    have := ih h hp.1
    exact ⟨by rw [has_put_other (key_ne hne.symm)]; exact this.1, fun z => by rw [atKey_put_other (key_ne hne.symm)]; exact this.2 z⟩
  · rw [List.mem_singleton.1 h]
    exact ⟨has_put_same (Dof_tidy X).isMap (key_lit _) _, fun z => atKey_put_same (Dof_tidy X).isMap (key_lit _) _ z⟩
theorem DiskX.names {w : World} {p M : Nat} {X : List Rc} {s : Ds} (h : DiskX w p M X s) : (X.map (·.x.nm)).Nodup := by
  have h1 : (s.L.map (·.nm)).Nodup := List.pairwise_map.2 (h.wf.rise.imp fun h => nm_ne h)
  have h2 : ((X.map (·.x)).map (·.nm)).Perm (s.L.map (·.nm)) := h.perm.map _
  rw [List.map_map] at h2
  exact h2.nodup_iff.2 h1
theorem DiskX.find {w : World} {p M : Nat} {X : List Rc} {s : Ds} (h : DiskX w p M X s) {nm : Nm} {f : Fl} (hf : findF s.L nm = some f) : ∃ c ∈ X, c.x = f ∧ c.x.nm = nm := by
  obtain ⟨h1, h2⟩ := find_some hf
  obtain ⟨c, hc, e⟩ := List.mem_map.1 (h.perm.mem_iff.2 h1)
  exact ⟨c, hc, e, by rw [e]; exact h2⟩
theorem DiskX.find_not {w : World} {p M : Nat} {X : List Rc} {s : Ds} (h : DiskX w p M X s) {nm : Nm} (hf : findF s.L nm = none) : ∀ c ∈ X, c.x.nm ≠ nm := fun c hc =>
  find_none hf _ (h.perm.mem_iff.1 (List.mem_map_of_mem hc))
theorem DiskX.look_some {w : World} {p M : Nat} {X : List Rc} {s : Ds} (h : DiskX w p M X s) {c : Rc} (hc : c ∈ X) (nm : ByteArray) (hn : nm.data.toList = c.x.nm) (hs : nm.size ≤ maxLen) (w' : World) (hw : w'.heap[M]? = w.heap[M]?) :
    (Instr.lookup 57 (.map (some M)) (.string nm) false).run Try.prog w' = .ok (.pointer (some ⟨c.f, 0, none⟩)) w' := by
  obtain ⟨es, clock, hb, r⟩ := h.map
  have hown : w'.ownsMap Try.prog 9 RP M X.length (Dof X) := ⟨es, clock, hw.trans hb, r⟩
  obtain ⟨v, ps, hrun, hv⟩ := hown.lookup keyed9 Try.underlying57 (zero51 w') (z := .pointer none) (zd := .nil) (zp := []) rfl (key_of nm hs)
  rw [hn, (Dof_some X c hc h.names).2] at hv
  rw [RP_inv hv] at hrun
  exact hrun
theorem DiskX.look_none {w : World} {p M : Nat} {X : List Rc} {s : Ds} (h : DiskX w p M X s) (nm : ByteArray) (hf : findF s.L nm.data.toList = none) (hs : nm.size ≤ maxLen) (w' : World) (hw : w'.heap[M]? = w.heap[M]?) :
    (Instr.lookup 57 (.map (some M)) (.string nm) false).run Try.prog w' = .ok (.pointer none) w' := by
  obtain ⟨es, clock, hb, r⟩ := h.map
  have hown : w'.ownsMap Try.prog 9 RP M X.length (Dof X) := ⟨es, clock, hw.trans hb, r⟩
  obtain ⟨v, ps, hrun, hv⟩ := hown.lookup keyed9 Try.underlying57 (zero51 w') (z := .pointer none) (zd := .nil) (zp := []) rfl (key_of nm hs)
  rw [(Dof_none X _ (h.find_not hf)).2] at hv
  rw [RP_nil hv] at hrun
  exact hrun
theorem DiskX.size {w : World} {p M : Nat} {X : List Rc} {s : Ds} (h : DiskX w p M X s) : Maps.size (Dof X) = s.L.length := by
  have hl : X.length = s.L.length := by rw [← h.perm.length_eq, List.length_map]
  rw [← hl]
  have key : ∀ X : List Rc, (X.map (·.x.nm)).Nodup → Maps.size (Dof X) = X.length := by
    intro X
    refine rev_ind (P := fun X => (X.map (·.x.nm)).Nodup → Maps.size (Dof X) = X.length) (fun _ => rfl) (fun X c ih hp => ?_) X
    rw [List.map_append, List.nodup_append] at hp
    have hno : Maps.has (Dof X) (keyL c.x.nm) = false := (Dof_none X c.x.nm fun d hd e => hp.2.2 d.x.nm (List.mem_map_of_mem (f := fun y : Rc => y.x.nm) hd) c.x.nm (by simp) e).1
    rw [Dof_snoc, size_put (Dof_tidy X), hno, ih hp.1]
    simp
  exact key X h.names
end Go.Proofs.Ytcbfghncdclonaa

/-
  Dead, of, Fuse, New, at every disk.
-/
namespace Go.Proofs.Ytcbfghncdclonaa
open Go.RowKit Go.Maps
set_option linter.unusedSimpArgs false
set_option linter.unusedVariables false
theorem cells5 {w : World} {p : Nat} {a b c d e : Value} {t : TypeId} {fr : Nat × Nat} (h : w.heap[p]? = some (.cells #[a, b, c, d, e] t fr)) :
    w.cell? ⟨p, 0, none⟩ = some a ∧ w.cell? ⟨p, 1, none⟩ = some b ∧ w.cell? ⟨p, 2, none⟩ = some c ∧ w.cell? ⟨p, 3, none⟩ = some d ∧ w.cell? ⟨p, 4, none⟩ = some e := by
  refine ⟨?_, ?_, ?_, ?_, ?_⟩ <;> (unfold World.cell?; simp only [h]; rfl)
theorem cells2 {w : World} {p : Nat} {a b : Value} {t : TypeId} {fr : Nat × Nat} (h : w.heap[p]? = some (.cells #[a, b] t fr)) :
    w.cell? ⟨p, 0, none⟩ = some a ∧ w.cell? ⟨p, 1, none⟩ = some b := by
  refine ⟨?_, ?_⟩ <;> (unfold World.cell?; simp only [h]; rfl)
theorem cells1 {w : World} {p : Nat} {a : Value} {t : TypeId} {fr : Nat × Nat} (h : w.heap[p]? = some (.cells #[a] t fr)) : w.cell? ⟨p, 0, none⟩ = some a := by
  unfold World.cell?; simp only [h]; rfl
theorem soft0 {w : World} {p : Nat} {c : Array Value} {t : TypeId} (h : w.heap[p]? = some (.cells c t (0, 0))) (o : Nat) : w.frozen? ⟨p, o, none⟩ = false := by
  unfold World.frozen?; simp only [h]; simp
set_option maxRecDepth 100000 in
theorem dead_any {w : World} {p : Nat} {s : Ds} {S : List Nat} (h : DiskAt w p s S) : Calls Try.prog 27 #[.pointer (some ⟨p, 0, none⟩)] w fun e w' => e = .returned (.bool s.dead) ∧ w = w' := by
  obtain ⟨M, X, rfl, h⟩ := h
  obtain ⟨c0, c1, c2, c3, c4⟩ := cells5 h.blk
  clear c0 c1 c2 c3
  go_enter Try.func27, Try.ntmps27
  go_wp2_with fail
  go_ret
  exact ⟨rfl, rfl⟩
set_option maxRecDepth 100000 in
theorem dead_nil (w : World) : Calls Try.prog 27 #[.pointer none] w fun e w' => e = .returned (.bool true) ∧ w = w' := by
  go_enter Try.func27, Try.ntmps27
  go_wp2_with fail
  go_ret
  exact ⟨rfl, rfl⟩
set_option maxRecDepth 100000 in
theorem of_dead {w : World} {p : Nat} {s : Ds} {S : List Nat} (h : DiskAt w p s S) (hdead : s.dead = true) (nm : ByteArray) :
    Calls Try.prog 44 #[.pointer (some ⟨p, 0, none⟩), .string nm] w fun e w' => e = .returned (.tuple #[.pointer none, .int .u16 21]) ∧ w = w' := by
  have hd := dead_any h
  rw [hdead] at hd
  have HD := Lib.hid hd
  clear hd hdead h
  go_enter Try.func44, Try.ntmps44
  go_wp2_with fail
  refine HD.out.mono ?_
  rintro e w1 ⟨rfl, rfl⟩
  go_wp2_with fail
  go_ret2
  exact ⟨rfl, rfl⟩
set_option maxRecDepth 100000 in
theorem of_none {w : World} {p : Nat} {s : Ds} {S : List Nat} (h : DiskAt w p s S) (hdead : s.dead = false) (nm : ByteArray) (hs : nm.size ≤ maxLen) (hf : findF s.L nm.data.toList = none) :
    Calls Try.prog 44 #[.pointer (some ⟨p, 0, none⟩), .string nm] w fun e w' => e = .returned (.tuple #[.pointer none, .int .u16 31]) ∧ w = w' := by
  have hd := dead_any h
  rw [hdead] at hd
  have HD := Lib.hid hd
  obtain ⟨M, X, rfl, h⟩ := h
  obtain ⟨c0, c1, c2, c3, c4⟩ := cells5 h.blk
  have hl := h.look_none nm hf hs w rfl
  clear hd hdead h c0 c2 c3 c4 hf
  go_enter Try.func44, Try.ntmps44
  go_wp2_with fail
  refine HD.out.mono ?_
  rintro e w1 ⟨rfl, rfl⟩
  go_wp2_with fail
  go_ret2
  exact ⟨rfl, rfl⟩
set_option maxRecDepth 100000 in
theorem of_some {w : World} {p M : Nat} {X : List Rc} {s : Ds} (h : DiskX w p M X s) (hdead : s.dead = false) (nm : ByteArray) (hs : nm.size ≤ maxLen) {c : Rc} (hc : c ∈ X) (hn : nm.data.toList = c.x.nm) :
    Calls Try.prog 44 #[.pointer (some ⟨p, 0, none⟩), .string nm] w fun e w' => e = .returned (.tuple #[.pointer (some ⟨c.f, 0, none⟩), .int .u16 0]) ∧ w = w' := by
  have hd := dead_any (w := w) (p := p) (s := s) (S := p :: M :: footOf X) ⟨M, X, rfl, h⟩
  rw [hdead] at hd
  have HD := Lib.hid hd
  obtain ⟨c0, c1, c2, c3, c4⟩ := cells5 h.blk
  have hl := h.look_some hc nm hn hs w rfl
  clear hd hdead h c0 c2 c3 c4 hc hn
  obtain ⟨g, hg⟩ : ∃ g, c.f = g := ⟨_, rfl⟩
  rw [hg] at hl ⊢
  clear hg
  go_enter Try.func44, Try.ntmps44
  go_wp2_with fail
  refine HD.out.mono ?_
  rintro e w1 ⟨rfl, rfl⟩
  go_wp2_with fail
  go_ret2
  exact ⟨rfl, rfl⟩
theorem turn_blk {w w' : World} {p M : Nat} {X : List Rc} {s s' : Ds} (h : DiskX w p M X s) (hL : s'.L = s.L) (hw : WF s')
    (hb : w'.heap[p]? = some (.cells #[.int .i64 (s'.room : Int), .map (some M), .bool s'.fused, .int .i64 (s'.left : Int), .bool s'.dead] 59 (0, 0))) (ho : ∀ k, k ≠ p → w'.heap[k]? = w.heap[k]?) : DiskX w' p M X s' := by
  obtain ⟨h1, h2⟩ := List.nodup_cons.1 h.nodup
  have hk : ∀ k ∈ M :: footOf X, w'.heap[k]? = w.heap[k]? := fun k hk => ho k (fun e => h1 (e ▸ hk))
  refine ⟨h.nodup, by rw [hL]; exact h.perm, hw, hb, ?_, fun c hc => ?_⟩
  · obtain ⟨es, clock, hb, r⟩ := h.map
    exact ⟨es, clock, (hk M (by simp)).trans hb, r⟩
  · obtain ⟨m1, m2⟩ := mem_foot hc
    exact (h.file c hc).kept (hk _ (by simp [m1])) (fun g hg => hk _ (by simp [m2 g hg]))
theorem heap_set {w : World} {p j : Nat} {c : Array Value} {t : TypeId} {fr : Nat × Nat} (h : w.heap[p]? = some (.cells c t fr)) (v : Value) : (w.setCell ⟨p, j, none⟩ v).heap[p]? = some (.cells (c.setIfInBounds j v) t fr) := by
  simp only [World.setCell, Array.getElem?_modify]
  rw [if_pos trivial, h]
  rfl
theorem heap_set_other {w : World} {p j k : Nat} (v : Value) (hk : k ≠ p) : (w.setCell ⟨p, j, none⟩ v).heap[k]? = w.heap[k]? := Below.heap_setCell _ _ _ _ hk
set_option maxRecDepth 100000 in
theorem fuse_any {w : World} {p : Nat} {s : Ds} {S : List Nat} (h : DiskAt w p s S) (n : Int) (hn0 : -9223372036854775808 ≤ n) (hn : n ≤ 9223372036854775807) :
    Calls Try.prog 19 #[.pointer (some ⟨p, 0, none⟩), .int .i64 n] w fun e w' => e = .returned (.tuple #[]) ∧ DiskAt w' p (fuseS s n) S ∧ Turns S S w w' := by
  obtain ⟨M, X, rfl, h⟩ := h
  have hb := h.blk
  have hfz := soft0 hb
  obtain ⟨c0, c1, c2, c3, c4⟩ := cells5 hb
  have hw := h.wf.fuse n hn
  have key : ∀ (b : Bool) (m : Int), b = decide (0 ≤ n) → m = (((max n 0).toNat : Nat) : Int) → DiskAt ((w.setCell ⟨p, 2, none⟩ (.bool b)).setCell ⟨p, 3, none⟩ (.int .i64 m)) p (fuseS s n) (p :: M :: footOf X) ∧ Turns (p :: M :: footOf X) (p :: M :: footOf X) w ((w.setCell ⟨p, 2, none⟩ (.bool b)).setCell ⟨p, 3, none⟩ (.int .i64 m)) := by
    intro b m e1 e2
    have ho : ∀ k, k ≠ p → ((w.setCell ⟨p, 2, none⟩ (.bool b)).setCell ⟨p, 3, none⟩ (.int .i64 m)).heap[k]? = w.heap[k]? := fun k hk => by rw [heap_set_other _ hk, heap_set_other _ hk]
    refine ⟨⟨M, X, rfl, turn_blk (s' := fuseS s n) h rfl hw ?_ ho⟩, ⟨rfl, rfl, rfl, by simp [World.setCell], fun k _ hk => ho k (fun e => hk (by simp [e])), fun _ h => .inl h⟩⟩
    rw [heap_set (heap_set hb _) _, e1, e2]
    rfl
  have HK := Lib.hid key
  clear key hw hb h c0 c1 c4
  by_cases h0 : 0 ≤ n
  · go_enter Try.func19, Try.ntmps19
    go_wp2_with fail
    go_end0
    have hk := HK.out true (max n 0) (decide_eq_true h0).symm (by omega)
    exact ⟨rfl, hk.1, hk.2⟩
  · go_enter Try.func19, Try.ntmps19
    go_wp2_with fail
    go_end0
    have hk := HK.out false (max n 0) (decide_eq_false (by omega)).symm (by omega)
    exact ⟨rfl, hk.1, hk.2⟩
set_option maxRecDepth 100000 in
theorem fuse_nil (n : Int) (w : World) : Calls Try.prog 19 #[.pointer none, .int .i64 n] w fun e w' => e = .returned (.tuple #[]) ∧ w = w' := by
  go_enter Try.func19, Try.ntmps19
  go_wp2_with fail
  go_end0
  exact ⟨rfl, rfl⟩
/-- A new disk. -/
def Made (s : Ds) (w : World) (e : Ending) (w' : World) : Prop := ∃ p S, e = .returned (.pointer (some ⟨p, 0, none⟩)) ∧ DiskAt w' p s S ∧ Turns [] S w w'
theorem new_made (w : World) (room : Int) (m : Int) (hm : m = max 0 (min room 4194304)) :
    Made (newS room) w (.returned (.pointer (some ⟨w.heap.size + 1, 0, none⟩))) ((w.alloc (.map #[] 0)).alloc (.cells #[.int .i64 m, .map (some w.heap.size), .bool false, .int .i64 0, .bool false] 59)) := by
  refine ⟨w.heap.size + 1, [w.heap.size + 1, w.heap.size], rfl, ⟨w.heap.size, [], rfl, ⟨by simp [footOf], List.Perm.refl _, WF.new room, ?_, ?_, fun _ h => by cases h⟩⟩, ⟨rfl, rfl, rfl, by simp; omega, fun k hk _ => ?_, fun k hk => ?_⟩⟩
  · have := heap_alloc_new (w.alloc (.map #[] 0)) (.cells #[.int .i64 m, .map (some w.heap.size), .bool false, .int .i64 0, .bool false] 59)
    rw [World.size_alloc] at this
    rw [this, hm]
    unfold newS
    simp only []
    rw [show (((max 0 (min room 4194304)).toNat : Nat) : Int) = max 0 (min room 4194304) from by omega]
    rfl
  · exact (World.ownsMap_made w _ _ _).alloc _
  · rw [Below.heap_alloc _ _ _ (by simp; omega), Below.heap_alloc _ _ _ hk]
  · right
    simp at hk
    omega
set_option maxRecDepth 100000 in
theorem new_any (room : Int) (w : World) : Calls Try.prog 11 #[.int .i64 room] w (Made (newS room) w) := by
  have hmm := @run_makeMap Try.prog
  have HM := Lib.hid (new_made w room)
  go_enter Try.func11, Try.ntmps11
  go_wp2_with fail
  go_ret
  exact HM.out _ rfl
end Go.Proofs.Ytcbfghncdclonaa

/-
  A step of a disk: one that is done, and one that is not; what the three closures do.
-/
namespace Go.Proofs.Ytcbfghncdclonaa
open Go.RowKit Go.Maps
set_option linter.unusedSimpArgs false
set_option linter.unusedVariables false
theorem Turns.at_p {w : World} {p j : Nat} {S : List Nat} (hp : p ∈ S) (v : Value) : Turns S S w (w.setCell ⟨p, j, none⟩ v) :=
  ⟨rfl, rfl, rfl, by simp [World.setCell], fun k _ hk => heap_set_other _ (fun e => hk (e ▸ hp)), fun _ h => .inl h⟩
set_option maxRecDepth 100000 in
theorem step_off {w : World} {p : Nat} {s : Ds} {M : Nat} {X : List Rc} (h : DiskX w p M X s) (hoff : isOff s = true) (v : Value) :
    Calls Try.prog 40 #[.pointer (some ⟨p, 0, none⟩), v] w fun e w' => e = .returned (.int .u16 21) ∧ DiskX w' p M X (offS s) ∧ Turns (p :: M :: footOf X) (p :: M :: footOf X) w w' := by
  have hb := h.blk
  have hfz := soft0 hb
  obtain ⟨c0, c1, c2, c3, c4⟩ := cells5 hb
  have k1 : DiskX (w.setCell ⟨p, 4, none⟩ (.bool true)) p M X (offS s) ∧ Turns (p :: M :: footOf X) (p :: M :: footOf X) w (w.setCell ⟨p, 4, none⟩ (.bool true)) :=
    ⟨turn_blk (s' := offS s) h rfl h.wf.off (heap_set hb _) (fun k hk => heap_set_other _ hk), Turns.at_p (by simp) _⟩
  have k2 : s.dead = true → DiskX w p M X (offS s) ∧ Turns (p :: M :: footOf X) (p :: M :: footOf X) w w := fun hd =>
    ⟨turn_blk (s' := offS s) h rfl h.wf.off (by rw [hb, hd]; rfl) (fun _ _ => rfl), Turns.refl _ _⟩
  have K1 := Lib.hid k1; have K2 := Lib.hid k2
  have hl0 := h.wf.left
  clear k1 k2 hb h c0 c1
  obtain ⟨room, L, fused, left, dead⟩ := s
  simp only at c2 c3 c4 hl0
  cases fused with
  | false =>
    obtain rfl : dead = true := by simpa [isOff] using hoff
    have KK := Lib.hid (K2.out rfl)
    clear hoff K1 K2
    go_enter Try.func40, Try.ntmps40
    go_wp2_with fail
    go_ret
    exact ⟨rfl, KK.out.1, KK.out.2⟩
  | true =>
    by_cases hz : left = 0
    · subst hz
      clear hoff K2
      go_enter Try.func40, Try.ntmps40
      go_wp2_with fail
      go_ret
      exact ⟨rfl, K1.out.1, K1.out.2⟩
    · obtain rfl : dead = true := by simpa [isOff, hz] using hoff
      have KK := Lib.hid (K2.out rfl)
      have hne : ((left : Int) == 0) = false := beq_eq_false_iff_ne.2 (by omega)
      clear hoff K1 K2 hz
      go_enter Try.func40, Try.ntmps40
      go_wp2_with fail
      go_ret
      exact ⟨rfl, KK.out.1, KK.out.2⟩
def StepDone (Q : World → Prop) (e : Ending) (w' : World) : Prop := e = .returned (.int .u16 0) ∧ Q w'
def CloDone (Q : World → Prop) (e : Ending) (w' : World) : Prop := e = .returned (.tuple #[]) ∧ Q w'
set_option maxRecDepth 100000 in
theorem step_28 {w : World} {p M : Nat} {X : List Rc} {s : Ds} (h : DiskX w p M X s) (hoff : isOff s = false) (a b c : Value) (Q : World → Prop) (hdo : ∀ w1, DiskX w1 p M X (stepS s) → Turns (p :: M :: footOf X) (p :: M :: footOf X) w w1 → Calls Try.prog 41 #[a, b, c] w1 (CloDone Q)) :
    Calls Try.prog 40 #[.pointer (some ⟨p, 0, none⟩), .func (.func 41) #[] #[a, b, c]] w (StepDone Q) := by
  have hb := h.blk
  have hfz := soft0 hb
  obtain ⟨c0, c1, c2, c3, c4⟩ := cells5 hb
  have hl0 := h.wf.left
  have k1 : s.fused = true → ∀ m : Int, m = ((s.left - 1 : Nat) : Int) → DiskX (w.setCell ⟨p, 3, none⟩ (.int .i64 m)) p M X (stepS s) ∧ Turns (p :: M :: footOf X) (p :: M :: footOf X) w (w.setCell ⟨p, 3, none⟩ (.int .i64 m)) := fun hf m hm =>
    ⟨turn_blk (s' := stepS s) h rfl h.wf.step (by rw [heap_set hb _, hm]; unfold stepS; rw [if_pos hf]; rfl) (fun k hk => heap_set_other _ hk), Turns.at_p (by simp) _⟩
  have k2 : s.fused = false → DiskX w p M X (stepS s) ∧ Turns (p :: M :: footOf X) (p :: M :: footOf X) w w := fun hf =>
    ⟨turn_blk (s' := stepS s) h rfl h.wf.step (by rw [hb]; unfold stepS; rw [if_neg (by rw [hf]; simp)]) (fun _ _ => rfl), Turns.refl _ _⟩
  have K1 := Lib.hid k1; have K2 := Lib.hid k2; have HD := Lib.hid hdo
  clear k1 k2 hb h c0 c1 hdo
  obtain ⟨room, L, fused, left, dead⟩ := s
  simp only at c2 c3 c4 hl0
  cases fused with
  | false =>
    obtain rfl : dead = false := by simpa [isOff] using hoff
    have KK := Lib.hid (HD.out _ (K2.out rfl).1 (K2.out rfl).2)
    clear hoff K1 K2 HD
    go_enter Try.func40, Try.ntmps40
    go_wp2_with fail
    refine KK.out.mono ?_
    rintro e w1 ⟨rfl, hq⟩
    have HQ := Lib.hid hq; clear hq
    go_wp2_with fail
    go_ret
    exact ⟨rfl, HQ.out⟩
  | true =>
    have hz : left ≠ 0 := fun e => by subst e; simp [isOff] at hoff
    obtain rfl : dead = false := by simpa [isOff, hz] using hoff
    have kk := K1.out rfl ((left : Int) - 1) (by simp only []; omega)
    have KK := Lib.hid (HD.out _ kk.1 kk.2)
    have hne : ((left : Int) == 0) = false := beq_eq_false_iff_ne.2 (by omega)
    have hp1 : 1 ≤ (left : Int) := by omega
    have hp2 : (left : Int) ≤ 9223372036854775807 := by omega
    clear hoff K1 K2 HD hz kk hl0
    go_enter Try.func40, Try.ntmps40
    go_wp2_with fail
    refine KK.out.mono ?_
    rintro e w1 ⟨rfl, hq⟩
    have HQ := Lib.hid hq; clear hq
    go_wp2_with fail
    go_ret
    exact ⟨rfl, HQ.out⟩
set_option maxRecDepth 100000 in
theorem step_33 {w : World} {p M : Nat} {X : List Rc} {s : Ds} (h : DiskX w p M X s) (hoff : isOff s = false) (a b : Value) (Q : World → Prop) (hdo : ∀ w1, DiskX w1 p M X (stepS s) → Turns (p :: M :: footOf X) (p :: M :: footOf X) w w1 → Calls Try.prog 59 #[a, b] w1 (CloDone Q)) :
    Calls Try.prog 40 #[.pointer (some ⟨p, 0, none⟩), .func (.func 59) #[] #[a, b]] w (StepDone Q) := by
  have hb := h.blk
  have hfz := soft0 hb
  obtain ⟨c0, c1, c2, c3, c4⟩ := cells5 hb
  have hl0 := h.wf.left
  have k1 : s.fused = true → ∀ m : Int, m = ((s.left - 1 : Nat) : Int) → DiskX (w.setCell ⟨p, 3, none⟩ (.int .i64 m)) p M X (stepS s) ∧ Turns (p :: M :: footOf X) (p :: M :: footOf X) w (w.setCell ⟨p, 3, none⟩ (.int .i64 m)) := fun hf m hm =>
    ⟨turn_blk (s' := stepS s) h rfl h.wf.step (by rw [heap_set hb _, hm]; unfold stepS; rw [if_pos hf]; rfl) (fun k hk => heap_set_other _ hk), Turns.at_p (by simp) _⟩
  have k2 : s.fused = false → DiskX w p M X (stepS s) ∧ Turns (p :: M :: footOf X) (p :: M :: footOf X) w w := fun hf =>
    ⟨turn_blk (s' := stepS s) h rfl h.wf.step (by rw [hb]; unfold stepS; rw [if_neg (by rw [hf]; simp)]) (fun _ _ => rfl), Turns.refl _ _⟩
  have K1 := Lib.hid k1; have K2 := Lib.hid k2; have HD := Lib.hid hdo
  clear k1 k2 hb h c0 c1 hdo
  obtain ⟨room, L, fused, left, dead⟩ := s
  simp only at c2 c3 c4 hl0
  cases fused with
  | false =>
    obtain rfl : dead = false := by simpa [isOff] using hoff
    have KK := Lib.hid (HD.out _ (K2.out rfl).1 (K2.out rfl).2)
    clear hoff K1 K2 HD
    go_enter Try.func40, Try.ntmps40
    go_wp2_with fail
    refine KK.out.mono ?_
    rintro e w1 ⟨rfl, hq⟩
    have HQ := Lib.hid hq; clear hq
    go_wp2_with fail
    go_ret
    exact ⟨rfl, HQ.out⟩
  | true =>
    have hz : left ≠ 0 := fun e => by subst e; simp [isOff] at hoff
    obtain rfl : dead = false := by simpa [isOff, hz] using hoff
    have kk := K1.out rfl ((left : Int) - 1) (by simp only []; omega)
    have KK := Lib.hid (HD.out _ kk.1 kk.2)
    have hne : ((left : Int) == 0) = false := beq_eq_false_iff_ne.2 (by omega)
    have hp1 : 1 ≤ (left : Int) := by omega
    have hp2 : (left : Int) ≤ 9223372036854775807 := by omega
    clear hoff K1 K2 HD hz kk hl0
    go_enter Try.func40, Try.ntmps40
    go_wp2_with fail
    refine KK.out.mono ?_
    rintro e w1 ⟨rfl, hq⟩
    have HQ := Lib.hid hq; clear hq
    go_wp2_with fail
    go_ret
    exact ⟨rfl, HQ.out⟩
set_option maxRecDepth 100000 in
theorem step_31 {w : World} {p M : Nat} {X : List Rc} {s : Ds} (h : DiskX w p M X s) (hoff : isOff s = false) (a : Value) (Q : World → Prop) (hdo : ∀ w1, DiskX w1 p M X (stepS s) → Turns (p :: M :: footOf X) (p :: M :: footOf X) w w1 → Calls Try.prog 47 #[a] w1 (CloDone Q)) :
    Calls Try.prog 40 #[.pointer (some ⟨p, 0, none⟩), .func (.func 47) #[a] #[]] w (StepDone Q) := by
  have hb := h.blk
  have hfz := soft0 hb
  obtain ⟨c0, c1, c2, c3, c4⟩ := cells5 hb
  have hl0 := h.wf.left
  have k1 : s.fused = true → ∀ m : Int, m = ((s.left - 1 : Nat) : Int) → DiskX (w.setCell ⟨p, 3, none⟩ (.int .i64 m)) p M X (stepS s) ∧ Turns (p :: M :: footOf X) (p :: M :: footOf X) w (w.setCell ⟨p, 3, none⟩ (.int .i64 m)) := fun hf m hm =>
    ⟨turn_blk (s' := stepS s) h rfl h.wf.step (by rw [heap_set hb _, hm]; unfold stepS; rw [if_pos hf]; rfl) (fun k hk => heap_set_other _ hk), Turns.at_p (by simp) _⟩
  have k2 : s.fused = false → DiskX w p M X (stepS s) ∧ Turns (p :: M :: footOf X) (p :: M :: footOf X) w w := fun hf =>
    ⟨turn_blk (s' := stepS s) h rfl h.wf.step (by rw [hb]; unfold stepS; rw [if_neg (by rw [hf]; simp)]) (fun _ _ => rfl), Turns.refl _ _⟩
  have K1 := Lib.hid k1; have K2 := Lib.hid k2; have HD := Lib.hid hdo
  clear k1 k2 hb h c0 c1 hdo
  obtain ⟨room, L, fused, left, dead⟩ := s
  simp only at c2 c3 c4 hl0
  cases fused with
  | false =>
    obtain rfl : dead = false := by simpa [isOff] using hoff
    have KK := Lib.hid (HD.out _ (K2.out rfl).1 (K2.out rfl).2)
    clear hoff K1 K2 HD
    go_enter Try.func40, Try.ntmps40
    go_wp2_with fail
    refine KK.out.mono ?_
    rintro e w1 ⟨rfl, hq⟩
    have HQ := Lib.hid hq; clear hq
    go_wp2_with fail
    go_ret
    exact ⟨rfl, HQ.out⟩
  | true =>
    have hz : left ≠ 0 := fun e => by subst e; simp [isOff] at hoff
    obtain rfl : dead = false := by simpa [isOff, hz] using hoff
    have kk := K1.out rfl ((left : Int) - 1) (by simp only []; omega)
    have KK := Lib.hid (HD.out _ kk.1 kk.2)
    have hne : ((left : Int) == 0) = false := beq_eq_false_iff_ne.2 (by omega)
    have hp1 : 1 ≤ (left : Int) := by omega
    have hp2 : (left : Int) ≤ 9223372036854775807 := by omega
    clear hoff K1 K2 HD hz kk hl0
    go_enter Try.func40, Try.ntmps40
    go_wp2_with fail
    refine KK.out.mono ?_
    rintro e w1 ⟨rfl, hq⟩
    have HQ := Lib.hid hq; clear hq
    go_wp2_with fail
    go_ret
    exact ⟨rfl, HQ.out⟩
end Go.Proofs.Ytcbfghncdclonaa

/-
  One file turned: what becomes of the disk; the closures of Sync and Cut.
-/
namespace Go.Proofs.Ytcbfghncdclonaa
open Go.RowKit Go.Maps
set_option linter.unusedSimpArgs false
set_option linter.unusedVariables false
theorem OwnB.form {w : World} {v : Value} {bs : List UInt8} {r : Option Nat} (h : OwnB w v bs r) : ∃ ao cap, v = .slice ao bs.length cap ∧ bs.length ≤ cap ∧ cap ≤ maxLen := by
  rcases h with ⟨rfl, rfl, _⟩ | ⟨g, cap, cur, rfl, _, _, h1, _, h2, _⟩
  · exact ⟨none, 0, rfl, Nat.le_refl _, Nat.zero_le _⟩
  · exact ⟨_, cap, rfl, h1, h2⟩
theorem Dof_congr {X Y : List Rc} (h : X.map (fun c => (c.x.nm, c.f)) = Y.map fun c => (c.x.nm, c.f)) : Dof X = Dof Y := by
  have key : ∀ X : List Rc, Dof X = (X.map fun c => (c.x.nm, c.f)).foldl (fun m q => m.put (keyL q.1) (.lit (.int .i64 (q.2 : Int)))) (.map []) := fun X => by unfold Dof; rw [List.foldl_map]
  rw [key, key, h]
theorem footOf_append (A B : List Rc) : footOf (A ++ B) = footOf A ++ footOf B := by unfold footOf; rw [List.flatMap_append]
theorem footOf_cons (c : Rc) (B : List Rc) : footOf (c :: B) = c.f :: c.r.toList ++ footOf B := by unfold footOf; rw [List.flatMap_cons]
theorem map_eq_self {L : List Fl} {nm : Nm} {g : Fl → Fl} (h : ∀ f ∈ L, f.nm ≠ nm) : setF L nm g = L := by
  unfold setF
  conv => rhs; rw [← List.map_id L]
  apply List.map_congr_left
  intro f hf
  show (if f.nm = nm then g f else f) = f
  rw [if_neg (h f hf)]
/-- One file turned, in its block and its row alone. -/
theorem turn_file {w w' : World} {p M : Nat} {A B : List Rc} {c : Rc} {s : Ds} (h : DiskX w p M (A ++ c :: B) s) {nm : Nm} (hnm : c.x.nm = nm) {g : Fl → Fl} (hg : ∀ f, (g f).nm = f.nm) (r' : Option Nat) (hwf : WF (turnS s nm g))
    (hr : r' = none ∨ r' = c.r ∨ ∃ k, r' = some k ∧ w.heap.size ≤ k) (hk : ∀ k, k < w.heap.size → k ≠ c.f → c.r ≠ some k → w'.heap[k]? = w.heap[k]?) (hf : FileIn w' ⟨c.f, r', g c.x⟩) :
    DiskX w' p M (A ++ ⟨c.f, r', g c.x⟩ :: B) (turnS s nm g) := by
  have hnd := h.nodup
  have hlt := h.lt
  rw [footOf_append, footOf_cons] at hnd hlt
  have hnames := h.names
  rw [List.map_append, List.map_cons, List.nodup_append, List.nodup_cons] at hnames
  have hA : ∀ d ∈ A, d.x.nm ≠ nm := fun d hd e => hnames.2.2 d.x.nm (List.mem_map_of_mem (f := fun y : Rc => y.x.nm) hd) c.x.nm (List.mem_cons_self ..) (e.trans hnm.symm)
  have hB : ∀ d ∈ B, d.x.nm ≠ nm := fun d hd e => hnames.2.1.1 (by rw [hnm, ← e]; exact List.mem_map_of_mem (f := fun y : Rc => y.x.nm) hd)
  have hsA : setF (A.map (·.x)) nm g = A.map (·.x) := map_eq_self fun f hf => by obtain ⟨d, hd, rfl⟩ := List.mem_map.1 hf; exact hA d hd
  have hsB : setF (B.map (·.x)) nm g = B.map (·.x) := map_eq_self fun f hf => by obtain ⟨d, hd, rfl⟩ := List.mem_map.1 hf; exact hB d hd
  have hout : ∀ k ∈ p :: M :: (footOf A ++ footOf B), k < w.heap.size ∧ k ≠ c.f ∧ c.r ≠ some k := by
    intro k hk
    have hm : k ∈ p :: M :: (footOf A ++ (c.f :: c.r.toList ++ footOf B)) := by
      simp only [List.mem_cons, List.mem_append] at hk ⊢
      rcases hk with h | h | h | h
      · exact .inl h
      · exact .inr (.inl h)
      · exact .inr (.inr (.inl h))
      · exact .inr (.inr (.inr (.inr h)))
    have hperm : (p :: M :: (footOf A ++ (c.f :: c.r.toList ++ footOf B))).Perm ((c.f :: c.r.toList) ++ (p :: M :: (footOf A ++ footOf B))) := by
      have e1 : (footOf A ++ (c.f :: c.r.toList ++ footOf B)).Perm ((c.f :: c.r.toList) ++ (footOf A ++ footOf B)) := by
        rw [← List.append_assoc, ← List.append_assoc]
        exact List.perm_append_comm.append_right _
      have e2 : (p :: M :: ((c.f :: c.r.toList) ++ (footOf A ++ footOf B))).Perm ((c.f :: c.r.toList) ++ p :: M :: (footOf A ++ footOf B)) := by
        have := (List.perm_append_comm (l₁ := [p, M]) (l₂ := c.f :: c.r.toList)).append_right (footOf A ++ footOf B)
        simpa using this
      exact (e1.cons M |>.cons p).trans e2
    have hn2 := hperm.nodup_iff.1 hnd
    rw [List.nodup_append] at hn2
    refine ⟨hlt k hm, fun e => hn2.2.2 k (by rw [e]; exact List.mem_cons_self ..) k hk rfl, fun e => hn2.2.2 k (by rw [e]; simp) k hk rfl⟩
  have hkept : ∀ k ∈ p :: M :: (footOf A ++ footOf B), w'.heap[k]? = w.heap[k]? := fun k hk' => hk k (hout k hk').1 (hout k hk').2.1 (hout k hk').2.2
  refine ⟨?_, ?_, hwf, (hkept p (by simp)).trans h.blk, ?_, ?_⟩
  · rw [footOf_append, footOf_cons]
    have hperm : ∀ r : Option Nat, (p :: M :: (footOf A ++ (c.f :: r.toList ++ footOf B))).Perm (r.toList ++ (c.f :: p :: M :: (footOf A ++ footOf B))) := by
      intro r
      have e1 : (footOf A ++ (c.f :: r.toList ++ footOf B)).Perm ((c.f :: r.toList) ++ (footOf A ++ footOf B)) := by
        rw [← List.append_assoc, ← List.append_assoc]
        exact List.perm_append_comm.append_right _
      have e2 : (p :: M :: ((c.f :: r.toList) ++ (footOf A ++ footOf B))).Perm ((c.f :: r.toList) ++ p :: M :: (footOf A ++ footOf B)) := by
        have := (List.perm_append_comm (l₁ := [p, M]) (l₂ := c.f :: r.toList)).append_right (footOf A ++ footOf B)
        simpa using this
      have e3 : ((c.f :: r.toList) ++ p :: M :: (footOf A ++ footOf B)).Perm (r.toList ++ (c.f :: p :: M :: (footOf A ++ footOf B))) := by
        have := (List.perm_append_comm (l₁ := [c.f]) (l₂ := r.toList)).append_right (p :: M :: (footOf A ++ footOf B))
        simpa using this
      exact (e1.cons M |>.cons p).trans (e2.trans e3)
    rw [(hperm r').nodup_iff]
    have hn2 := (hperm c.r).nodup_iff.1 hnd
    have hcf := hlt c.f (by simp)
    rcases hr with rfl | rfl | ⟨k, rfl, hle⟩
    · rw [List.nodup_append] at hn2
      exact hn2.2.1
    · exact hn2
    · rw [List.nodup_append] at hn2
      show (k :: (c.f :: p :: M :: (footOf A ++ footOf B))).Nodup
      refine List.nodup_cons.2 ⟨fun hm => ?_, hn2.2.1⟩
      rcases List.mem_cons.1 hm with rfl | hm
      · omega
      · have := (hout k hm).1
        omega
  · show ((A ++ ⟨c.f, r', g c.x⟩ :: B).map (·.x)).Perm (setF s.L nm g)
    have h1 : (setF ((A ++ c :: B).map (·.x)) nm g).Perm (setF s.L nm g) := h.perm.map _
    have h2 : setF ((A ++ c :: B).map (·.x)) nm g = (A ++ ⟨c.f, r', g c.x⟩ :: B).map (·.x) := by
      rw [List.map_append, List.map_append, List.map_cons, List.map_cons]
      have : ∀ P Q : List Fl, setF (P ++ c.x :: Q) nm g = setF P nm g ++ g c.x :: setF Q nm g := fun P Q => by
        unfold setF
        rw [List.map_append, List.map_cons, if_pos hnm]
      rw [this, hsA, hsB]
    rw [← h2]
    exact h1
  · obtain ⟨es, clock, hb, r⟩ := h.map
    have e : Dof (A ++ ⟨c.f, r', g c.x⟩ :: B) = Dof (A ++ c :: B) := Dof_congr (by rw [List.map_append, List.map_append, List.map_cons, List.map_cons]; simp only [hg])
    have el : (A ++ (⟨c.f, r', g c.x⟩ : Rc) :: B).length = (A ++ c :: B).length := by simp
    rw [e, el]
    exact ⟨es, clock, (hkept M (by simp)).trans hb, r⟩
  · intro d hd
    have old : d ∈ A ∨ d ∈ B → FileIn w' d := fun hd => by
      have hmem : d ∈ A ++ c :: B := by
        rcases hd with hd | hd
        · exact List.mem_append_left _ hd
        · exact List.mem_append_right _ (List.mem_cons_of_mem _ hd)
      have hin : ∀ k, k ∈ d.f :: d.r.toList → k ∈ p :: M :: (footOf A ++ footOf B) := fun k hk => by
        rcases hd with hd | hd
        · exact List.mem_cons_of_mem _ (List.mem_cons_of_mem _ (List.mem_append_left _ (List.mem_flatMap.2 ⟨d, hd, hk⟩)))
        · exact List.mem_cons_of_mem _ (List.mem_cons_of_mem _ (List.mem_append_right _ (List.mem_flatMap.2 ⟨d, hd, hk⟩)))
      exact (h.file d hmem).kept (hkept _ (hin _ (List.mem_cons_self ..))) fun q hq => hkept _ (hin _ (by rw [hq]; simp))
    rcases List.mem_append.1 hd with hd | hd
    · exact old (.inl hd)
    · rcases List.mem_cons.1 hd with rfl | hd
      · exact hf
      · exact old (.inr hd)
theorem foot_turn {p M : Nat} {A B : List Rc} {c : Rc} {r' : Option Nat} {x' : Fl} {n : Nat} (hr : r' = none ∨ r' = c.r ∨ ∃ k, r' = some k ∧ n ≤ k) :
    ∀ k ∈ p :: M :: footOf (A ++ ⟨c.f, r', x'⟩ :: B), k ∈ p :: M :: footOf (A ++ c :: B) ∨ n ≤ k := by
  intro k hk
  rw [footOf_append, footOf_cons] at hk ⊢
  simp only [List.mem_cons, List.mem_append] at hk ⊢
  rcases hk with h | h | h | (h | h) | h
  · exact .inl (.inl h)
  · exact .inl (.inr (.inl h))
  · exact .inl (.inr (.inr (.inl h)))
  · exact .inl (.inr (.inr (.inr (.inl (.inl h)))))
  · rcases hr with rfl | rfl | ⟨q, rfl, hq⟩
    · cases h
    · exact .inl (.inr (.inr (.inr (.inl (.inr h)))))
    · simp at h
      subst h
      exact .inr hq
  · exact .inl (.inr (.inr (.inr (.inr h))))
/-- The whole disk, behind such a turn. -/
theorem turn_at {w w' : World} {p M : Nat} {X : List Rc} {c : Rc} {s : Ds} (h : DiskX w p M X s) (hc : c ∈ X) {nm : Nm} (hnm : c.x.nm = nm) {g : Fl → Fl} (hg : ∀ f, (g f).nm = f.nm) (r' : Option Nat) (hwf : WF (turnS s nm g))
    (hr : r' = none ∨ r' = c.r ∨ ∃ k, r' = some k ∧ w.heap.size ≤ k) (hw : Turns (c.f :: c.r.toList) [] w w') (hf : FileIn w' ⟨c.f, r', g c.x⟩) :
    ∃ S', DiskAt w' p (turnS s nm g) S' ∧ Turns (p :: M :: footOf X) S' w w' := by
  obtain ⟨A, B, rfl⟩ := List.append_of_mem hc
  refine ⟨p :: M :: footOf (A ++ ⟨c.f, r', g c.x⟩ :: B), ⟨M, _, rfl, turn_file h hnm hg r' hwf hr (fun k h1 h2 h3 => hw.block k h1 (fun hm => ?_)) hf⟩, ⟨hw.os, hw.tape, hw.output, hw.size, fun k h1 h2 => hw.block k h1 (fun hm => h2 ?_), foot_turn hr⟩⟩
  · rcases List.mem_cons.1 hm with rfl | hm
    · exact h2 rfl
    · cases hq : c.r with
      | none => rw [hq] at hm; cases hm
      | some q => rw [hq] at hm h3; simp at hm; exact h3 (by rw [hm])
  · obtain ⟨m1, m2⟩ := mem_foot hc
    rcases List.mem_cons.1 hm with rfl | hm
    · simp [m1]
    · cases hq : c.r with
      | none => rw [hq] at hm; cases hm
      | some q => rw [hq] at hm; simp at hm; rw [hm]; simp [m2 q hq]
/-! The closures. -/
set_option maxRecDepth 100000 in
theorem fsync_any {w : World} {f : Nat} {ao : Option Addr} {n cap : Nat} {m : Int} (h : w.heap[f]? = some (.cells #[.slice ao n cap, .int .i64 m] 69 (0, 0))) :
    Calls Try.prog 47 #[.pointer (some ⟨f, 0, none⟩)] w fun e w' => e = .returned (.tuple #[]) ∧ w.setCell ⟨f, 1, none⟩ (.int .i64 (n : Int)) = w' := by
  have hfz := soft0 h
  obtain ⟨c0, c1⟩ := cells2 h
  clear h
  go_enter Try.func47, Try.ntmps47
  go_wp2_with fail
  go_end0
  exact ⟨rfl, rfl⟩
/-- What a closure leaves: one file turned. -/
def Turned (w : World) (p : Nat) (s : Ds) (nm : Nm) (g : Fl → Fl) (S : List Nat) (w' : World) : Prop := ∃ S', DiskAt w' p (turnS s nm g) S' ∧ Turns S S' w w'
theorem Turns.set {w : World} {f j : Nat} {S : List Nat} (hf : f ∈ S) (v : Value) : Turns S [] w (w.setCell ⟨f, j, none⟩ v) :=
  ⟨rfl, rfl, rfl, by simp [World.setCell], fun k _ hk => heap_set_other _ (fun e => hk (e ▸ hf)), fun _ h => by cases h⟩
theorem row_off {w : World} {p M : Nat} {X : List Rc} {s : Ds} (h : DiskX w p M X s) {c : Rc} (hc : c ∈ X) {g : Nat} (hg : c.r = some g) : g ≠ c.f := by
  obtain ⟨A, B, rfl⟩ := List.append_of_mem hc
  have hnd := h.nodup
  rw [footOf_append, footOf_cons, hg] at hnd
  have h1 := (List.nodup_cons.1 (List.nodup_cons.1 hnd).2).2
  rw [List.nodup_append] at h1
  have h2 := h1.2.1
  rw [show c.f :: (some g).toList ++ footOf B = c.f :: g :: footOf B from rfl] at h2
  intro e
  exact (List.nodup_cons.1 h2).1 (by rw [← e]; simp)
theorem wf_sync {s : Ds} (h : WF s) {nm : Nm} {f : Fl} (hf : findF s.L nm = some f) : WF (turnS s nm syncF) := h.turn (fun _ => rfl) hf (Nat.le_refl _) (by show usedL s.L + f.b.length ≤ _; have := h.used; omega)
theorem sync_turned {w : World} {p M : Nat} {X : List Rc} {s : Ds} (h : DiskX w p M X s) {c : Rc} (hc : c ∈ X) {v : Value} (hv : w.heap[c.f]? = some (.cells #[v, .int .i64 (c.x.n : Int)] 69 (0, 0))) (ho : OwnB w v c.x.b c.r) :
    Turned w p s c.x.nm syncF (p :: M :: footOf X) (w.setCell ⟨c.f, 1, none⟩ (.int .i64 (c.x.b.length : Int))) := by
  have hfd : findF s.L c.x.nm = some c.x := find_of h.wf.rise (h.perm.mem_iff.1 (List.mem_map_of_mem hc))
  refine turn_at h hc rfl (fun _ => rfl) c.r (wf_sync h.wf hfd) (.inr (.inl rfl)) (Turns.set (List.mem_cons_self ..) _) ⟨v, heap_set hv _, ho.kept fun g hg => heap_set_other _ (row_off h hc hg)⟩
set_option maxRecDepth 100000 in
theorem sync_clo {w : World} {p M : Nat} {X : List Rc} {s : Ds} (h : DiskX w p M X s) {c : Rc} (hc : c ∈ X) :
    Calls Try.prog 47 #[.pointer (some ⟨c.f, 0, none⟩)] w (CloDone (Turned w p s c.x.nm syncF (p :: M :: footOf X))) := by
  obtain ⟨v, hv, ho⟩ := h.file c hc
  have ht := sync_turned h hc hv ho
  obtain ⟨ao, cap, rfl, _, _⟩ := ho.form
  exact (fsync_any hv).mono fun e w' ⟨he, hw⟩ => ⟨he, hw ▸ ht⟩
theorem DiskX.of_stepS {w : World} {p : Nat} {s : Ds} {S : List Nat} (h : DiskAt w p s S) : ∃ M X, S = p :: M :: footOf X ∧ DiskX w p M X s := h
set_option maxRecDepth 100000 in
/-- Sync. -/
theorem sync_any {w : World} {p : Nat} {s : Ds} {S : List Nat} (h : DiskAt w p s S) (nm : ByteArray) (hs : nm.size ≤ maxLen) :
    Calls Try.prog 35 #[.pointer (some ⟨p, 0, none⟩), .string nm] w fun e w' => e = .returned (.int .u16 ((syncS s nm.data.toList).2 : Int)) ∧ ∃ S', DiskAt w' p (syncS s nm.data.toList).1 S' ∧ Turns S S' w w' := by
  unfold syncS
  have hmf : ∀ (fn : Fn) (first cap : Array Value) (w : World), (Instr.makeFunc fn first cap).run Try.prog w = .ok (.func fn first cap) w := fun _ _ _ _ => rfl
  cases hd : s.dead with
  | true =>
    have ho := of_dead h hd nm
    have HO := Lib.hid ho; have HX := Lib.hid h
    clear ho hd h
    go_enter Try.func35, Try.ntmps35
    go_wp2_with fail
    refine HO.out.mono ?_
    rintro e w1 ⟨rfl, rfl⟩
    go_wp2_with fail
    go_ret
    exact ⟨rfl, S, HX.out, Turns.refl _ _⟩
  | false =>
    cases hf : findF s.L nm.data.toList with
    | none =>
      have ho := of_none h hd nm hs hf
      have HO := Lib.hid ho; have HX := Lib.hid h
      clear ho hd h hf
      go_enter Try.func35, Try.ntmps35
      go_wp2_with fail
      refine HO.out.mono ?_
      rintro e w1 ⟨rfl, rfl⟩
      go_wp2_with fail
      go_ret
      exact ⟨rfl, S, HX.out, Turns.refl _ _⟩
    | some f =>
      obtain ⟨M, X, rfl, hx⟩ := h
      obtain ⟨c, hc, e1, e2⟩ := hx.find hf
      have ho := of_some hx hd nm hs hc e2.symm
      have hX : DiskAt w p s (p :: M :: footOf X) := ⟨M, X, rfl, hx⟩
      cases hoff : isOff s with
      | true =>
        have hst := step_off hx hoff (.func (.func 47) #[.pointer (some ⟨c.f, 0, none⟩)] #[])
        have e3 : doS s nm.data.toList syncF = (offS s, 21) := by unfold doS; rw [if_pos hoff]
        have HO := Lib.hid ho; have HS := Lib.hid hst; have HE := Lib.hid e3
        obtain ⟨g, hg⟩ : ∃ g, c.f = g := ⟨_, rfl⟩
        rw [hg] at HO HS
        clear ho hd hf hx hX hst hoff e3 e1 e2 hc hg
        go_enter Try.func35, Try.ntmps35
        go_wp2_with fail
        refine HO.out.mono ?_
        rintro e w1 ⟨rfl, rfl⟩
        go_wp2_with fail
        refine HS.out.mono ?_
        rintro e w1 ⟨rfl, hd1, ht1⟩
        have HD := Lib.hid hd1; have HT := Lib.hid ht1; clear hd1 ht1
        go_wp2_with fail
        go_ret
        rw [HE.out]
        exact ⟨rfl, _, ⟨_, _, rfl, HD.out⟩, HT.out⟩
      | false =>
        have hst := step_31 hx hoff (.pointer (some ⟨c.f, 0, none⟩)) (fun w' => ∃ S', DiskAt w' p (turnS (stepS s) nm.data.toList syncF) S' ∧ Turns (p :: M :: footOf X) S' w w') (fun w1 h1 ht =>
          (sync_clo h1 hc).mono fun e w' ⟨he, S', h2, h3⟩ => ⟨he, S', by rw [← e2]; exact h2, ht.trans h3⟩)
        have e3 : doS s nm.data.toList syncF = (turnS (stepS s) nm.data.toList syncF, 0) := by unfold doS; rw [if_neg (by rw [hoff]; simp)]
        have HO := Lib.hid ho; have HS := Lib.hid hst; have HE := Lib.hid e3
        obtain ⟨g, hg⟩ : ∃ g, c.f = g := ⟨_, rfl⟩
        rw [hg] at HO HS
        clear ho hd hf hx hX hst hoff e3 e1 e2 hc hg
        go_enter Try.func35, Try.ntmps35
        go_wp2_with fail
        refine HO.out.mono ?_
        rintro e w1 ⟨rfl, rfl⟩
        go_wp2_with fail
        refine HS.out.mono ?_
        rintro e w1 ⟨rfl, hq1⟩
        have HD := Lib.hid hq1; clear hq1
        go_wp2_with fail
        go_ret
        rw [HE.out]
        exact ⟨rfl, HD.out⟩
end Go.Proofs.Ytcbfghncdclonaa

/-
  Cut, at every disk.
-/
namespace Go.Proofs.Ytcbfghncdclonaa
open Go.RowKit Go.Maps
set_option linter.unusedSimpArgs false
set_option linter.unusedVariables false
set_option maxRecDepth 100000 in
theorem cut_walk {w : World} {f bf bn : Nat} {g n cap k : Nat} {m : Int} (hm0 : 0 ≤ m) (hm1 : m ≤ 4194304) (hk : k ≤ n) (hcap : n ≤ cap) (hmax : cap ≤ maxLen) (h : w.heap[f]? = some (.cells #[.slice (some ⟨g, 0, none⟩) n cap, .int .i64 m] 69 (0, 0))) (hbf : w.heap[bf]? = some (.cells #[.pointer (some ⟨f, 0, none⟩)] 67 (0, 0))) (hbn : w.heap[bn]? = some (.cells #[.int .i64 (k : Int)] 3 (0, 0))) (h1 : bf ≠ f) (h2 : bn ≠ f) :
    Calls Try.prog 59 #[.pointer (some ⟨bf, 0, none⟩), .pointer (some ⟨bn, 0, none⟩)] w fun e w' => e = .returned (.tuple #[]) ∧ ((w.setCell ⟨f, 0, none⟩ (.slice (some ⟨g, 0, none⟩) k k)).setCell ⟨f, 1, none⟩ (.int .i64 (min m (k : Int)))).drew.drew = w' := by
  have hfz := soft0 h
  obtain ⟨c0, c1⟩ := cells2 h
  have b0 := cells1 hbf
  have n0 := cells1 hbn
  unfold maxLen at hmax
  clear h hbf hbn
  go_enter Try.func59, Try.ntmps59
  go_wp2_with fail
  go_region
  go_wp2_with fail
  go_region
  go_end0
  exact ⟨rfl, rfl⟩
set_option maxRecDepth 100000 in
theorem cut_walk0 {w : World} {f bf bn : Nat} {m : Int} (hm0 : 0 ≤ m) (hm1 : m ≤ 4194304) (h : w.heap[f]? = some (.cells #[.slice none 0 0, .int .i64 m] 69 (0, 0))) (hbf : w.heap[bf]? = some (.cells #[.pointer (some ⟨f, 0, none⟩)] 67 (0, 0))) (hbn : w.heap[bn]? = some (.cells #[.int .i64 0] 3 (0, 0))) (h1 : bf ≠ f) (h2 : bn ≠ f) :
    Calls Try.prog 59 #[.pointer (some ⟨bf, 0, none⟩), .pointer (some ⟨bn, 0, none⟩)] w fun e w' => e = .returned (.tuple #[]) ∧ ((w.setCell ⟨f, 0, none⟩ (.slice none 0 0)).setCell ⟨f, 1, none⟩ (.int .i64 (min m 0))).drew.drew = w' := by
  have hfz := soft0 h
  obtain ⟨c0, c1⟩ := cells2 h
  have b0 := cells1 hbf
  have n0 := cells1 hbn
  clear h hbf hbn
  go_enter Try.func59, Try.ntmps59
  go_wp2_with fail
  go_region
  go_wp2_with fail
  go_region
  go_end0
  exact ⟨rfl, rfl⟩
theorem wf_cut {s : Ds} (h : WF s) {nm : Nm} {f : Fl} (hf : findF s.L nm = some f) (k : Nat) : WF (turnS s nm (cutF k)) :=
  h.turn (fun _ => rfl) hf (by unfold cutF; simp only [List.length_take]; have := h.lasts f (find_some hf).1; omega) (by unfold cutF; simp only [List.length_take]; have := h.used; omega)
theorem Turns.set2 {w : World} {f : Nat} {S : List Nat} (hf : f ∈ S) (v u : Value) : Turns S [] w ((w.setCell ⟨f, 0, none⟩ v).setCell ⟨f, 1, none⟩ u).drew.drew :=
  ⟨rfl, rfl, rfl, by show _ ≤ ((w.setCell _ _).setCell _ _).heap.size; simp [World.setCell], (fun k _ hk => by
    have hne : k ≠ f := fun e => hk (by rw [e]; exact hf)
    show ((w.setCell _ _).setCell _ _).heap[k]? = _
    rw [heap_set_other _ hne, heap_set_other _ hne]), (fun _ h => by cases h)⟩
theorem le_used {L : List Fl} {f : Fl} (h : f ∈ L) : f.b.length ≤ usedL L := by
  induction L with
  | nil => cases h
  | cons a t ih =>
    rw [usedL_cons]
    rcases List.mem_cons.1 h with rfl | h
    · omega
    · have := ih h; omega
theorem len_room {s : Ds} (h : WF s) {f : Fl} (hf : f ∈ s.L) : f.b.length ≤ 4194304 := by
  have h1 := h.used
  have h2 := h.room
  have h3 := le_used hf
  omega
theorem cut_clo {w : World} {p M : Nat} {X : List Rc} {s : Ds} (h : DiskX w p M X s) {c : Rc} (hc : c ∈ X) {bf bn k : Nat} (hk : k ≤ c.x.b.length) (hbf : w.heap[bf]? = some (.cells #[.pointer (some ⟨c.f, 0, none⟩)] 67 (0, 0))) (hbn : w.heap[bn]? = some (.cells #[.int .i64 (k : Int)] 3 (0, 0))) :
    Calls Try.prog 59 #[.pointer (some ⟨bf, 0, none⟩), .pointer (some ⟨bn, 0, none⟩)] w (CloDone (Turned w p s c.x.nm (cutF k) (p :: M :: footOf X))) := by
  obtain ⟨v, hv, ho⟩ := h.file c hc
  have hin := h.perm.mem_iff.1 (List.mem_map_of_mem hc)
  have hfd : findF s.L c.x.nm = some c.x := find_of h.wf.rise hin
  have hl := h.wf.lasts _ hin
  have hb := len_room h.wf hin
  have n1 : bf ≠ c.f := fun e => by rw [e, hv] at hbf; simp at hbf
  have n2 : bn ≠ c.f := fun e => by rw [e, hv] at hbn; simp at hbn
  rcases ho with ⟨rfl, hnil, hr⟩ | ⟨g, cap, cur, rfl, hr, hg, q1, q2, q3, q4⟩
  · have hk0 : k = 0 := by rw [hnil] at hk; simpa using hk
    subst hk0
    refine (cut_walk0 (by omega) (by omega) hv hbf hbn n1 n2).mono fun e w' ⟨he, hw⟩ => ⟨he, ?_⟩
    subst hw
    refine turn_at h hc rfl (fun _ => rfl) none (wf_cut h.wf hfd 0) (.inl rfl) (Turns.set2 (List.mem_cons_self ..) _ _) ⟨.slice none 0 0, ?_, .inl ⟨rfl, ?_, rfl⟩⟩
    · show ((w.setCell _ _).setCell _ _).heap[c.f]? = _
      rw [heap_set (heap_set hv _) _, show min (c.x.n : Int) 0 = ((cutF 0 c.x).n : Int) from by show min (c.x.n : Int) 0 = ((min c.x.n 0 : Nat) : Int); omega]
      rfl
    · unfold cutF
      simp
  · refine (cut_walk (by omega) (by omega) hk q1 q3 hv hbf hbn n1 n2).mono fun e w' ⟨he, hw⟩ => ⟨he, ?_⟩
    subst hw
    have hgf := row_off h hc hr
    have hlen : (c.x.b.take k).length = k := by rw [List.length_take]; omega
    refine turn_at h hc rfl (fun _ => rfl) c.r (wf_cut h.wf hfd k) (.inr (.inl rfl)) (Turns.set2 (List.mem_cons_self ..) _ _) ⟨.slice (some ⟨g, 0, none⟩) k k, ?_, .inr ⟨g, k, cur, ?_, hr, ?_, ?_, by omega, by omega, ?_⟩⟩
    · show ((w.setCell _ _).setCell _ _).heap[c.f]? = _
      rw [heap_set (heap_set hv _) _, show min (c.x.n : Int) (k : Int) = ((cutF k c.x).n : Int) from by show min (c.x.n : Int) (k : Int) = ((min c.x.n k : Nat) : Int); omega]
      rfl
    · show Value.slice _ k k = .slice _ (c.x.b.take k).length k
      rw [hlen]
    · show ((w.setCell _ _).setCell _ _).heap[g]? = _
      rw [heap_set_other _ hgf, heap_set_other _ hgf, hg]
    · show (c.x.b.take k).length ≤ k
      omega
    · show cur.toList.take (c.x.b.take k).length = u8c (c.x.b.take k)
      rw [hlen]
      have : (cur.toList.take c.x.b.length).take k = (u8c c.x.b).take k := by rw [q4]
      rw [List.take_take, Nat.min_eq_left hk] at this
      rw [this]
      unfold u8c
      rw [List.map_take]
end Go.Proofs.Ytcbfghncdclonaa

/-
  Cut, at every disk: the call.
-/
namespace Go.Proofs.Ytcbfghncdclonaa
open Go.RowKit Go.Maps
set_option linter.unusedSimpArgs false
set_option linter.unusedVariables false
def Ends (w : World) (p : Nat) (S : List Nat) (q : Ds × Nat) (e : Ending) (w' : World) : Prop := e = .returned (.int .u16 (q.2 : Int)) ∧ ∃ S', DiskAt w' p q.1 S' ∧ Turns S S' w w'
theorem Ends.stay {w w1 : World} {p : Nat} {S : List Nat} {s : Ds} (h : DiskAt w p s S) (hb : Below w.heap.size w w1) (k : Nat) : Ends w p S (s, k) (.returned (.int .u16 (k : Int))) w1 :=
  ⟨rfl, S, h.below hb, Turns.of_below hb⟩
set_option maxRecDepth 100000 in
set_option maxHeartbeats 1000000 in
theorem cut_any {w : World} {p : Nat} {s : Ds} {S : List Nat} (h : DiskAt w p s S) (nm : ByteArray) (hs : nm.size ≤ maxLen) (k : Int) (hk0 : -9223372036854775808 ≤ k) (hk1 : k ≤ 9223372036854775807) :
    Calls Try.prog 33 #[.pointer (some ⟨p, 0, none⟩), .string nm, .int .i64 k] w (Ends w p S (cutS s nm.data.toList k)) := by
  have hmf : ∀ (fn : Fn) (first cap : Array Value) (w : World), (Instr.makeFunc fn first cap).run Try.prog w = .ok (.func fn first cap) w := fun _ _ _ _ => rfl
  unfold cutS
  have bx : Below w.heap.size w (w.alloc (.cells #[.int .i64 k] 3)) := (Below.refl _ _).alloc (Nat.le_refl _) _
  cases hd : s.dead with
  | true =>
    have ho := of_dead (h.below bx) hd nm
    have HO := Lib.hid ho
    have HE := Lib.hid (fun b => Ends.stay h (w1 := (w.alloc (.cells #[.int .i64 k] 3)).alloc (.cells #[.pointer none] 67)) (bx.alloc (by simp) _) b)
    clear ho hd h bx
    go_enter Try.func33, Try.ntmps33
    go_wp2_with fail
    refine HO.out.mono ?_
    rintro e w1 ⟨rfl, rfl⟩
    go_wp2_with fail
    go_ret
    exact HE.out 21
  | false =>
    cases hf : findF s.L nm.data.toList with
    | none =>
      have ho := of_none (h.below bx) hd nm hs hf
      have HO := Lib.hid ho
      have HE := Lib.hid (fun b => Ends.stay h (w1 := (w.alloc (.cells #[.int .i64 k] 3)).alloc (.cells #[.pointer none] 67)) (bx.alloc (by simp) _) b)
      clear ho hd h hf bx
      go_enter Try.func33, Try.ntmps33
      go_wp2_with fail
      refine HO.out.mono ?_
      rintro e w1 ⟨rfl, rfl⟩
      go_wp2_with fail
      go_ret
      exact HE.out 31
    | some f =>
      obtain ⟨M, X, rfl, hx⟩ := h
      obtain ⟨c, hc, e1, e2⟩ := hx.find hf
      have hX : DiskAt w p s (p :: M :: footOf X) := ⟨M, X, rfl, hx⟩
      have hx1 : DiskX (w.alloc (.cells #[.int .i64 k] 3)) p M X s := hx.kept fun q hq => bx.block q (hx.lt q hq)
      have ho := of_some hx1 hd nm hs hc e2.symm
      obtain ⟨W2, hW2⟩ : ∃ W2, (w.alloc (.cells #[.int .i64 k] 3)).alloc (.cells #[.pointer (some ⟨c.f, 0, none⟩)] 67) = W2 := ⟨_, rfl⟩
      have by2 : Below w.heap.size w W2 := by rw [← hW2]; exact bx.alloc (by simp) _
      have hx2 : DiskX W2 p M X s := hx.kept fun q hq => by2.block q (hx.lt q hq)
      obtain ⟨v, hv, hov⟩ := hx2.file c hc
      obtain ⟨ao, cap, rfl, _, _⟩ := hov.form
      have hin := hx.perm.mem_iff.1 (List.mem_map_of_mem hc)
      have hlen := len_room hx.wf hin
      obtain ⟨c0, c1⟩ := cells2 hv
      have hbn : W2.heap[w.heap.size]? = some (.cells #[.int .i64 k] 3 (0, 0)) := by rw [← hW2, Below.heap_alloc _ _ _ (by simp)]; exact heap_alloc_new w _
      have hbf : W2.heap[w.heap.size + 1]? = some (.cells #[.pointer (some ⟨c.f, 0, none⟩)] 67 (0, 0)) := by
        rw [← hW2]
        have := heap_alloc_new (w.alloc (.cells #[.int .i64 k] 3)) (.cells #[.pointer (some ⟨c.f, 0, none⟩)] 67)
        rw [World.size_alloc] at this
        exact this
      have n0 := cells1 hbn
      have f0 := cells1 hbf
      have HE := Lib.hid (fun b d => (Ends.stay hX (w1 := W2.drewN d) ⟨by2.os, by2.tape, by2.output, by2.size, by2.block⟩ b : Ends w p (p :: M :: footOf X) (s, b) _ _))
      have e3 : c.x.b.length = f.b.length := by rw [e1]
      obtain ⟨N, hN⟩ : ∃ N, f.b.length = N := ⟨_, rfl⟩
      change Calls Try.prog 33 #[.pointer (some ⟨p, 0, none⟩), .string nm, .int .i64 k] w (Ends w p (p :: M :: footOf X) (if k < 0 ∨ (f.b.length : Int) < k then (s, 1) else doS s nm.data.toList (cutF k.toNat)))
      rw [e3, hN] at c0 hlen
      rw [hN]
      have HW := Lib.hid hW2; have HO := Lib.hid ho
      by_cases hk : k < 0
      · clear hd hf hx hX hx1 hx2 hW2 hv hov hbn hbf by2 bx hin e3 e1 e2 hc ho hN
        rw [if_pos (.inl hk)]
        go_enter Try.func33, Try.ntmps33
        go_wp2_with fail
        refine HO.out.mono ?_
        rintro e w1 ⟨rfl, rfl⟩
        go_wp2_with fail
        rw [HW.out]
        go_quiet (fail)
        go_wp2_with fail
        go_ret
        exact HE.out 1 _
      · by_cases hk2 : (N : Int) < k
        · clear hd hf hx hX hx1 hx2 hW2 hv hov hbn hbf by2 bx hin e3 e1 e2 hc ho hN
          have hd0 : decide (k < 0) = false := by simpa using hk
          rw [if_pos (.inr hk2)]
          go_enter Try.func33, Try.ntmps33
          go_wp2_with fail
          refine HO.out.mono ?_
          rintro e w1 ⟨rfl, rfl⟩
          go_wp2_with fail
          rw [HW.out]
          go_quiet (fail)
          go_wp2_with fail
          go_ret
          exact HE.out 1 _
        · have hq : ∀ d, DiskX (W2.drewN d) p M X s := fun d => hx2.kept fun _ _ => rfl
          have ht : ∀ d, Turns (p :: M :: footOf X) (p :: M :: footOf X) w (W2.drewN d) := fun d => Turns.of_below ⟨by2.os, by2.tape, by2.output, by2.size, by2.block⟩
          obtain ⟨kn, rfl⟩ : ∃ kn : Nat, k = kn := ⟨k.toNat, by omega⟩
          rw [if_neg (by omega), Int.toNat_natCast]
          have hd0 : decide ((kn : Int) < 0) = false := by simp
          have hd1 : decide ((N : Int) < (kn : Int)) = false := by simpa using hk2
          cases hoff : isOff s with
          | true =>
            have hst := fun d => step_off (hq d) hoff (.func (.func 59) #[] #[.pointer (some ⟨w.heap.size + 1, 0, none⟩), .pointer (some ⟨w.heap.size, 0, none⟩)])
            have e4 : doS s nm.data.toList (cutF kn) = (offS s, 21) := by unfold doS; rw [if_pos hoff]
            have HS := Lib.hid hst; have HT := Lib.hid ht; have HQ := Lib.hid e4
            clear hd hf hx hX hx1 hx2 hW2 hv hov hbn hbf by2 bx hin e3 e1 e2 hc ho hN hst ht hq hoff e4 HE
            go_enter Try.func33, Try.ntmps33
            go_wp2_with fail
            refine HO.out.mono ?_
            rintro e w1 ⟨rfl, rfl⟩
            go_wp2_with fail
            rw [HW.out]
            go_quiet (fail)
            go_wp2_with fail
            refine (HS.out _).mono ?_
            rintro e w1 ⟨rfl, hd1, ht1⟩
            have HD := Lib.hid hd1; have HT1 := Lib.hid ht1; clear hd1 ht1
            go_wp2_with fail
            go_ret
            rw [HQ.out]
            exact ⟨rfl, _, ⟨_, _, rfl, HD.out⟩, (HT.out _).trans HT1.out⟩
          | false =>
            have hkl : kn ≤ c.x.b.length := by omega
            have hst := fun d => step_33 (hq d) hoff (.pointer (some ⟨w.heap.size + 1, 0, none⟩)) (.pointer (some ⟨w.heap.size, 0, none⟩)) (fun w' => ∃ S', DiskAt w' p (turnS (stepS s) nm.data.toList (cutF kn)) S' ∧ Turns (p :: M :: footOf X) S' (W2.drewN d) w') (fun w1 h1 ht1 =>
              (cut_clo h1 hc hkl ((ht1.block _ (heap_lt hbf) (fun hm => by have := hx.lt _ hm; omega)).trans hbf) ((ht1.block _ (heap_lt hbn) (fun hm => by have := hx.lt _ hm; omega)).trans hbn)).mono fun e w' ⟨he, S', h2, h3⟩ => ⟨he, S', by rw [← e2]; exact h2, ht1.trans h3⟩)
            have e4 : doS s nm.data.toList (cutF kn) = (turnS (stepS s) nm.data.toList (cutF kn), 0) := by unfold doS; rw [if_neg (by rw [hoff]; simp)]
            have HS := Lib.hid hst; have HT := Lib.hid ht; have HQ := Lib.hid e4
            clear hd hf hx hX hx1 hx2 hW2 hv hov hbn hbf by2 bx hin e3 e1 e2 hc ho hN hst ht hq hoff e4 HE hkl
            go_enter Try.func33, Try.ntmps33
            go_wp2_with fail
            refine HO.out.mono ?_
            rintro e w1 ⟨rfl, rfl⟩
            go_wp2_with fail
            rw [HW.out]
            go_quiet (fail)
            go_wp2_with fail
            refine (HS.out _).mono ?_
            rintro e w1 ⟨rfl, hq1⟩
            have HD := Lib.hid hq1; clear hq1
            go_wp2_with fail
            go_ret
            rw [HQ.out]
            obtain ⟨S', k1, k2⟩ := HD.out
            exact ⟨rfl, S', k1, (HT.out _).trans k2⟩
end Go.Proofs.Ytcbfghncdclonaa

/-
  One byte more behind a file's row; the closure of Append.
-/
namespace Go.Proofs.Ytcbfghncdclonaa
open Go.RowKit Go.Maps
set_option linter.unusedSimpArgs false
set_option linter.unusedVariables false
theorem info5 : (Try.prog.info? 5).map (fun i => (i.zero, i.size, i.bytes)) = some (some (.int .u8 0), 1, 1) := by kernel_rfl
theorem u8c_snoc (bs : List UInt8) (c : UInt8) : u8c (bs ++ [c]) = u8c bs ++ [.int .u8 (c.toNat : Int)] := by unfold u8c; rw [List.map_append]; rfl
theorem OwnB.of_owns {w : World} {base : Nat} {v : Value} {bs : List UInt8} (h : w.ownsRow base 5 1 v bs.length (u8c bs)) (hb : 0 < bs.length) : ∃ g, OwnB w v bs (some g) ∧ base ≤ g ∧ v.ownBlock = some g := by
  obtain ⟨_, ⟨_, h0⟩ | ⟨g, cap, cur, rfl, hbg, hg, h1, h2, h3, h4⟩⟩ := h
  · omega
  · refine ⟨g, .inr ⟨g, cap, cur, rfl, rfl, hg, h1, by omega, h2, ?_⟩, hbg, rfl⟩
    rw [← h4, Nat.mul_one]
theorem Turns.of_grown {w w' : World} {row : Option Nat} (h : w.grownBy w' row) : Turns row.toList [] w w' :=
  ⟨h.os, h.tape, h.output, h.size, fun k hk hn => h.block k hk (fun e => hn (by rw [← e]; simp)), fun _ h => by cases h⟩
theorem run_append_b {w : World} {v : Value} {bs : List UInt8} {r : Option Nat} (h : OwnB w v bs r) (c : UInt8) (H : Nat) (hH : w.heap[H]? = some (.cells #[.int .u8 (c.toNat : Int)] 5 (0, 0))) (hl : bs.length ≤ 100000000) (ty : TypeId) :
    ∃ v' w' r', (Builtin.append_ #[38, 38] ty #[v, .slice (some ⟨H, 0, none⟩) 1 1]).run Try.prog w = .ok v' w' ∧ OwnB w' v' (bs ++ [c]) r' ∧ (r' = none ∨ r' = r ∨ ∃ k, r' = some k ∧ w.heap.size ≤ k) ∧ Turns r.toList [] w w' := by
  obtain ⟨i, hi, hz, hs, hby⟩ := info_parts info5
  have hnews := World.news_of_block (w := w) hH
  have h1 : ∀ u ∈ [Value.int .u8 (c.toNat : Int)], u.oneCell' = true := by intro u hu; rw [List.mem_singleton.1 hu]; rfl
  have hn : (bs ++ [c]).length = bs.length + 1 := by simp
  have hm : bs.length + 1 ≤ maxLen := by unfold maxLen; omega
  rcases h with ⟨rfl, rfl, rfl⟩ | ⟨g, cap, cur, rfl, rfl, hg, q1, q2, q3, q4⟩
  · obtain ⟨v', w', hrun, ho, hgr, _⟩ := run_append_own (P := Try.prog) w w.heap.size 38 ty 5 i (.int .u8 0) 1 1 Try.underlying38 hi hz hs hby rfl (by decide) (.slice none 0 0) 0 [] (World.ownsRow_nil w _ _ _) ⟨H, 0, none⟩ 1 1 [.int .u8 (c.toNat : Int)] rfl hnews h1 (by unfold maxLen; omega) (by omega) (Nat.le_refl _)
    obtain ⟨g, hob, hbg, _⟩ := OwnB.of_owns (bs := [c]) ho (by simp)
    exact ⟨v', w', some g, hrun, hob, .inr (.inr ⟨g, rfl, hbg⟩), Turns.of_grown hgr⟩
  · by_cases hroom : bs.length + 1 ≤ cap
    · have hrun := run_append_room (P := Try.prog) w 38 ty 5 i Try.underlying38 hi g bs.length cap cur hg ⟨H, 0, none⟩ 1 1 [.int .u8 (c.toNat : Int)] (by rw [hs]; rfl) hnews h1 hroom (by rw [hs]; simp; omega)
      rw [hs, Nat.mul_one] at hrun
      have htl : (cur.toList.take bs.length).length = bs.length := by
        have hcl : cur.toList.length = cur.size := Array.length_toList
        rw [List.length_take]
        omega
      refine ⟨_, _, some g, hrun, .inr ⟨g, cap, _, by rw [hn], rfl, setRow_heap w g cur _ 5 (0, 0) hg, (by rw [hn]; exact hroom), ?_, q3, ?_⟩, .inr (.inl rfl), ⟨rfl, rfl, rfl, by rw [size_setRow]; exact Nat.le_refl _, (fun k hk hne => setRow_other w g k _ (fun e => hne (by rw [e]; simp))), (fun _ h => by cases h)⟩⟩
      · have hcl : cur.toList.length = cur.size := Array.length_toList
        rw [List.size_toArray, List.length_append, List.length_append, htl, List.length_drop, hcl]
        simp only [List.length_cons, List.length_nil]
        omega
      · rw [hn, u8c_snoc, ← q4]
        simp only [List.append_assoc]
        rw [List.take_append, htl, List.take_of_length_le (by omega), show bs.length + 1 - bs.length = 1 from by omega]
        rfl
    · obtain ⟨v', w', hrun, ho, hgr⟩ := run_append_arg_grows (P := Try.prog) w 38 ty 5 i (.int .u8 0) 1 1 Try.underlying38 hi hz hs hby rfl (by decide) ⟨g, 0, none⟩ bs.length cap (u8c bs) (by rw [u8c_length]; omega) (fun j u hj => by
        have hadd : (⟨g, 0, none⟩ : Addr).add j = ⟨g, j, none⟩ := by unfold Addr.add; split <;> simp_all
        rw [hadd, cell_of_row w g j cur 5 (0, 0) hg]
        rw [← q4, List.getElem?_take] at hj
        split at hj
        · simpa using hj
        · cases hj) ⟨H, 0, none⟩ 1 1 [.int .u8 (c.toNat : Int)] rfl hnews (by omega) hm (by omega)
      rw [← u8c_snoc, ← hn] at ho
      obtain ⟨g', hob, hbg, _⟩ := OwnB.of_owns ho (by omega)
      exact ⟨v', w', some g', hrun, hob, .inr (.inr ⟨g', rfl, hbg⟩), by
        have := Turns.of_grown hgr
        exact ⟨this.os, this.tape, this.output, this.size, fun k hk _ => this.block k hk (by simp), fun _ h => by cases h⟩⟩
theorem step_append_b {ops : Array Oper} {o : Oper} {a : Act} {w : World} {K : Act → World → Prop} {Q : Exit → Act → World → Prop} {E : Prop} (hgd : o.guard = none) (s x : Operand)
    (ho : o.op = .call { callee := .builtin .append, args := #[s, x], argTypes := #[38, 38] })
    (v : Value) (bs : List UInt8) (r : Option Nat) (hs : a.eval s = v) (hown : OwnB w v bs r) (c : UInt8) (H : Nat) (hx : a.eval x = .slice (some ⟨H, 0, none⟩) 1 1) (hH : w.heap[H]? = some (.cells #[.int .u8 (c.toNat : Int)] 5 (0, 0))) (hl : bs.length ≤ 100000000)
    (h : ∀ v' w' r', OwnB w' v' (bs ++ [c]) r' → (r' = none ∨ r' = r ∨ ∃ k, r' = some k ∧ w.heap.size ≤ k) → Turns r.toList [] w w' → K (a.put o.dst v') w') :
    if Region.wanted o (yielded ops a.tmps) = true then Oper.wp Try.prog o a w K Q else E := by
  have hw : Region.wanted o (yielded ops a.tmps) = true := by simp [Region.wanted, hgd]
  rw [if_pos hw]
  obtain ⟨v', w', r', hrun, h1, h2, h3⟩ := run_append_b hown c H hH hl o.type
  unfold Oper.wp execOp
  simp only [ho, resolve, invoke, builtin, Sem.run_bind, Sem.run_pure, Result.andThen_ok, List.map_toArray, List.map_cons, List.map_nil, hs, hx, hrun]
  exact h v' w' r' h1 h2 h3
/-- What the closure of Append leaves. -/
def Added (w : World) (f : Nat) (m : Int) (bs : List UInt8) (r : Option Nat) (w' : World) : Prop :=
  ∃ v' r', w'.heap[f]? = some (.cells #[v', .int .i64 m] 69 (0, 0)) ∧ OwnB w' v' bs r' ∧ (r' = none ∨ r' = r ∨ ∃ k, r' = some k ∧ w.heap.size ≤ k) ∧ Turns (f :: r.toList) [] w w'
theorem Lib_lt {w : World} {v : Value} {bs : List UInt8} {r : Option Nat} (h : OwnB w v bs r) {g : Nat} (hg : r = some g) : g < w.heap.size := by subst hg; exact h.lt
theorem after_app {w W1 w1 : World} {f : Nat} {m : Int} {r : Option Nat} {v : Value} (hb : Below w.heap.size w W1) (hf : f < w.heap.size) (hr : ∀ g, r = some g → g ≠ f) (hv : w.heap[f]? = some (.cells #[v, .int .i64 m] 69 (0, 0)))
    (ht : Turns r.toList [] W1 w1) : w1.heap[f]? = some (.cells #[v, .int .i64 m] 69 (0, 0)) := by
  have hnf : f ∉ r.toList := by
    intro hm
    cases r with
    | none => cases hm
    | some g => simp at hm; exact hr g rfl hm.symm
  exact (ht.block f (Nat.lt_of_lt_of_le hf hb.size) hnf).trans ((hb.block f hf).trans hv)
theorem after_box {w W1 w1 : World} {f : Nat} {r : Option Nat} {u : Value} {T : TypeId} (hb : Below w.heap.size w W1) (hr : ∀ g, r = some g → g ≠ f) (hv : w.heap[f]? = some (.cells #[u] T (0, 0)))
    (ht : Turns r.toList [] W1 w1) : w1.cell? ⟨f, 0, none⟩ = some u := by
  have hf := heap_lt hv
  have hnf : f ∉ r.toList := by
    intro hm
    cases r with
    | none => cases hm
    | some g => simp at hm; exact hr g rfl hm.symm
  exact cells1 ((ht.block f (Nat.lt_of_lt_of_le hf hb.size) hnf).trans ((hb.block f hf).trans hv))
theorem added_of {w W1 w1 : World} {f : Nat} {m : Int} {bs : List UInt8} {r r' : Option Nat} {v v' : Value} (hb : Below w.heap.size w W1) (hf : f < w.heap.size) (hr : ∀ g, r = some g → g ≠ f) (hv : w.heap[f]? = some (.cells #[v, .int .i64 m] 69 (0, 0)))
    (ho : OwnB w1 v' bs r') (h2 : r' = none ∨ r' = r ∨ ∃ k, r' = some k ∧ W1.heap.size ≤ k) (ht : Turns r.toList [] W1 w1) (d : Nat) : Added w f m bs r ((w1.setCell ⟨f, 0, none⟩ v').drewN d) := by
  have hnf : f ∉ r.toList := by
    intro hm
    cases r with
    | none => cases hm
    | some g => simp at hm; exact hr g rfl hm.symm
  have h1 : w1.heap[f]? = some (.cells #[v, .int .i64 m] 69 (0, 0)) := (ht.block f (Nat.lt_of_lt_of_le hf hb.size) hnf).trans ((hb.block f hf).trans hv)
  have hrf : ∀ g, r' = some g → g ≠ f := by
    intro g hg
    rcases h2 with rfl | rfl | ⟨k, rfl, hk⟩
    · cases hg
    · exact hr g hg
    · cases hg
      have := hb.size
      omega
  refine ⟨v', r', ?_, ho.kept fun g hg => heap_set_other _ (hrf g hg), ?_, ⟨?_, ?_, ?_, ?_, ?_, fun _ h => by cases h⟩⟩
  · exact heap_set h1 _
  · rcases h2 with h | h | ⟨k, h, hk⟩
    · exact .inl h
    · exact .inr (.inl h)
    · exact .inr (.inr ⟨k, h, Nat.le_trans hb.size hk⟩)
  · exact ht.os.trans hb.os
  · exact ht.tape.trans hb.tape
  · exact ht.output.trans hb.output
  · have := ht.size
    have := hb.size
    show _ ≤ (w1.setCell _ _).heap.size
    simp [World.setCell]
    omega
  · intro k hk hn
    have hkf : k ≠ f := fun e => hn (by rw [e]; exact List.mem_cons_self ..)
    show (w1.setCell _ _).heap[k]? = _
    rw [heap_set_other _ hkf, ht.block k (Nat.lt_of_lt_of_le hk hb.size) (fun h => hn (List.mem_cons_of_mem _ h)), hb.block k hk]
set_option maxRecDepth 100000 in
set_option maxHeartbeats 2000000 in
theorem app_walk {w : World} {f bf bb bi : Nat} {v : Value} {m : Int} {bs : List UInt8} {r : Option Nat} {s : ByteArray} {k : Nat} (hk : k < s.size) (hl : bs.length ≤ 100000000) (hks : (s.size : Int) ≤ 100000000000) (hv : w.heap[f]? = some (.cells #[v, .int .i64 m] 69 (0, 0))) (ho : OwnB w v bs r) (hr : ∀ g, r = some g → g ≠ f)
    (hbf : w.heap[bf]? = some (.cells #[.pointer (some ⟨f, 0, none⟩)] 67 (0, 0))) (hbb : w.heap[bb]? = some (.cells #[.string s] 9 (0, 0))) (hbi : w.heap[bi]? = some (.cells #[.int .i64 (k : Int)] 3 (0, 0))) :
    Calls Try.prog 41 #[.pointer (some ⟨bf, 0, none⟩), .pointer (some ⟨bb, 0, none⟩), .pointer (some ⟨bi, 0, none⟩)] w (CloDone (Added w f m (bs ++ [s[k]]) r)) := by
  have hfz := soft0 hv
  obtain ⟨c0, c1⟩ := cells2 hv
  have b0 := cells1 hbf
  have s0 := cells1 hbb
  have i0 := cells1 hbi
  have HV := Lib.hid hv; have HO := Lib.hid ho; have HR := Lib.hid hr; have HL := Lib.hid hl
  have hflt := heap_lt hv
  have hki : (k : Int) < (s.size : Int) := by omega
  have hk0 : (0 : Int) ≤ (k : Int) := by omega
  have hrq : ∀ (q : Nat) (u : Value) (T : TypeId), T ≠ 5 → w.heap[q]? = some (.cells #[u] T (0, 0)) → ∀ g, r = some g → g ≠ q := fun q u T hT hq g hg e => by
    subst hg
    rcases ho with ⟨_, _, h⟩ | ⟨g', cap, cur, _, h, hg, _⟩
    · cases h
    · cases h
      rw [e, hq] at hg
      simp at hg
      exact hT hg.2
  have R1 := Lib.hid (hrq _ _ _ (by decide) hbf); have R2 := Lib.hid (hrq _ _ _ (by decide) hbb); have R3 := Lib.hid (hrq _ _ _ (by decide) hbi)
  have B1 := Lib.hid hbf; have B2 := Lib.hid hbb; have B3 := Lib.hid hbi
  have ka : ∀ (q : Nat) (u : Value) (o : Obj), q < w.heap.size → w.cell? ⟨q, 0, none⟩ = some u → (w.alloc o).cell? ⟨q, 0, none⟩ = some u := fun q u o hq hu => (World.cell?_of_block (a := ⟨q, 0, none⟩) (Below.heap_alloc w o q hq)).trans hu
  have k1 := fun o => ka _ _ o (heap_lt hbf) b0
  have k2 := fun o => ka _ _ o (heap_lt hbb) s0
  have k3 := fun o => ka _ _ o (heap_lt hbi) i0
  have hB1 : Below w.heap.size w (w.alloc (.cells #[.int .u8 (s[k].toNat : Int)] 5)).drew := ((Below.refl _ _).alloc (Nat.le_refl _) _).drew
  clear ka
  have k4 : ∀ o : Obj, (w.alloc o).cell? ⟨f, 0, none⟩ = some v := fun o => (World.cell?_of_block (a := ⟨f, 0, none⟩) (Below.heap_alloc w o f hflt)).trans c0
  have n1 : bf ≠ f := fun e => by rw [e, hv] at hbf; simp at hbf
  have n2 : bb ≠ f := fun e => by rw [e, hv] at hbb; simp at hbb
  have n3 : bi ≠ f := fun e => by rw [e, hv] at hbi; simp at hbi
  have N1 := Lib.hid n1; have N2 := Lib.hid n2; have N3 := Lib.hid n3
  clear hv hbf hbb hbi ho hr hl c1 hrq n1 n2 n3
  go_enter Try.func41, Try.ntmps41
  go_wp2_with fail
  -- BY gen_app.py
  refine wp_region_held_drew (S := fun w' => w'.cell? ⟨bf, 0, none⟩ = some (.pointer (some ⟨f, 0, none⟩)) ∧ w'.cell? ⟨bb, 0, none⟩ = some (.string s) ∧ w'.cell? ⟨bi, 0, none⟩ = some (.int .i64 (k : Int))) (by kernel_rfl) ⟨b0, s0, i0⟩ (fun hHeld => ?_)
  refine wpAnyH_take (i := 0) (oi := { dst := some 3, op := Op.load 67 (Operand.tmp 0), type := 67, pos := "disk.go:75", after := #[], guard := none }) (v := .pointer (some ⟨f, 0, none⟩)) rfl (by kernel_rfl) (by kernel_rfl) (by kernel_rfl) (fun _ _ _ h => h) (Or.inl ⟨by rfl, ?_⟩) (by assumption) ?_
  · intro w2 hSw
    go_simp
  simp only [Act.put, List.setIfInBounds_toArray, List.set_cons_zero, List.set_cons_succ]
  refine wpAnyH_take (i := 1) (oi := { dst := some 4, op := Op.load 67 (Operand.tmp 0), type := 67, pos := "disk.go:75", after := #[], guard := none }) (v := .pointer (some ⟨f, 0, none⟩)) rfl (by kernel_rfl) (by kernel_rfl) (by kernel_rfl) (fun _ _ _ h => h) (Or.inl ⟨by rfl, ?_⟩) (by assumption) ?_
  · intro w2 hSw
    go_simp
  simp only [Act.put, List.setIfInBounds_toArray, List.set_cons_zero, List.set_cons_succ]
  refine wpAnyH_take (i := 5) (oi := { dst := some 8, op := Op.load 9 (Operand.tmp 1), type := 9, pos := "disk.go:75", after := #[], guard := none }) (v := .string s) rfl (by kernel_rfl) (by kernel_rfl) (by kernel_rfl) (fun _ _ _ h => h) (Or.inl ⟨by rfl, ?_⟩) (by assumption) ?_
  · intro w2 hSw
    go_simp
  simp only [Act.put, List.setIfInBounds_toArray, List.set_cons_zero, List.set_cons_succ]
  refine wpAnyH_take (i := 6) (oi := { dst := some 9, op := Op.load 3 (Operand.tmp 2), type := 3, pos := "disk.go:75", after := #[], guard := none }) (v := .int .i64 (k : Int)) rfl (by kernel_rfl) (by kernel_rfl) (by kernel_rfl) (fun _ _ _ h => h) (Or.inl ⟨by rfl, ?_⟩) (by assumption) ?_
  · intro w2 hSw
    go_simp
  simp only [Act.put, List.setIfInBounds_toArray, List.set_cons_zero, List.set_cons_succ]
  refine wpAnyH_take (i := 2) (oi := { dst := some 5, op := Op.nilCheck (Operand.tmp 4), type := 0, pos := "disk.go:75", after := #[{ on := 1, ground := Ground.data }], guard := none }) (v := .pointer (some ⟨f, 0, none⟩)) rfl (by kernel_rfl) (by kernel_rfl) (by kernel_rfl) (fun _ _ _ h => h) (Or.inl ⟨by rfl, ?_⟩) (by assumption) ?_
  · intro w2 hSw
    go_simp
  simp only [Act.put, List.setIfInBounds_toArray, List.set_cons_zero, List.set_cons_succ]
  refine wpAnyH_take (i := 3) (oi := { dst := some 6, op := Op.fieldAddr 69 (Operand.tmp 5) 0, type := 0, pos := "disk.go:75", after := #[{ on := 2, ground := Ground.data }], guard := none }) (v := .pointer (some ⟨f, 0, none⟩)) rfl (by kernel_rfl) (by kernel_rfl) (by kernel_rfl) (fun _ _ _ h => h) (Or.inl ⟨by rfl, ?_⟩) (by assumption) ?_
  · intro w2 hSw
    go_simp
  simp only [Act.put, List.setIfInBounds_toArray, List.set_cons_zero, List.set_cons_succ]
  refine wpAnyH_take (i := 7) (oi := { dst := some 10, op := Op.index 9 (Operand.tmp 8) (Operand.tmp 9), type := 5, pos := "disk.go:75", after := #[{ on := 5, ground := Ground.data }, { on := 6, ground := Ground.data }], guard := none }) (v := .int .u8 (s[k].toNat : Int)) rfl (by kernel_rfl) (by kernel_rfl) (by kernel_rfl) (fun _ _ _ h => h) (Or.inl ⟨by rfl, ?_⟩) (by assumption) ?_
  · intro w2 hSw
    go_simp
  simp only [Act.put, List.setIfInBounds_toArray, List.set_cons_zero, List.set_cons_succ]
  refine wpAnyH_ready (rs := [4, 8]) (by kernel_rfl) (by simp) ?_
  refine AllReadyH.cons (o := { dst := some 7, op := Op.load 38 (Operand.tmp 6), type := 38, pos := "disk.go:75", after := #[{ on := 3, ground := Ground.data }], guard := none }) rfl (fun K hK => ?_) (AllReadyH.cons (o := { dst := some 11, op := Op.buildSlice 38 1 #[(0, Operand.tmp 10)], type := 38, pos := "disk.go:75", after := #[{ on := 7, ground := Ground.data }], guard := none }) rfl (fun K hK => ?_) AllReadyH.nil)
  · go_simp
    refine hK.out _ _ ⟨b0, s0, i0⟩ (fun hHeld => ?_)
    clear hK K
    refine wpAnyH_ready (rs := [8]) (by kernel_rfl) (by simp) ?_
    refine AllReadyH.cons (o := { dst := some 11, op := Op.buildSlice 38 1 #[(0, Operand.tmp 10)], type := 38, pos := "disk.go:75", after := #[{ on := 7, ground := Ground.data }], guard := none }) rfl (fun K hK => ?_) AllReadyH.nil
    go_simp
    refine hK.out _ _ ⟨k1 _, k2 _, k3 _⟩ (fun hHeld => ?_)
    clear hK K
    refine wpAnyH_ready (rs := [9]) (by kernel_rfl) (by simp) ?_
    refine AllReadyH.cons (o := { dst := some 12, op := Op.call { callee := Callee.builtin Builtin.append, args := #[Operand.tmp 7, Operand.tmp 11], argTypes := #[38, 38] }, type := 38, pos := "disk.go:75", after := #[{ on := 4, ground := Ground.data }, { on := 8, ground := Ground.data }], guard := none }) rfl (fun K hK => ?_) AllReadyH.nil
    refine step_append_b rfl (.tmp 7) (.tmp 11) rfl v bs r rfl (HO.out.kept fun g hg => Below.heap_alloc _ _ _ (Lib_lt HO.out hg)) s[k] _ rfl (heap_alloc_new _ _) HL.out ?_
    intro v' w1 r' h1 h2 h3
    have hz := after_app hB1 hflt HR.out HV.out h3
    obtain ⟨z0, z1⟩ := cells2 hz
    have zb := after_box hB1 R1.out B1.out h3
    have zs := after_box hB1 R2.out B2.out h3
    have zi := after_box hB1 R3.out B3.out h3
    have zf := soft0 hz
    have h5 := added_of hB1 hflt HR.out HV.out h1 h2 h3 0
    have H5 := Lib.hid h5
    obtain ⟨ao, cp, rfl, q1, q2⟩ := h1.form
    clear h1 h2 h3 hz z1 q1 q2 h5
    refine hK.out _ _ ⟨zb, zs, zi⟩ (fun hHeld => ?_)
    clear hK K
    simp only [Act.put, List.setIfInBounds_toArray, List.set_cons_zero, List.set_cons_succ]
    refine wpAnyH_take (i := 10) (oi := { dst := some 13, op := Op.nilCheck (Operand.tmp 3), type := 0, pos := "disk.go:75", after := #[{ on := 0, ground := Ground.data }, { on := 0, ground := Ground.phase }, { on := 1, ground := Ground.phase }, { on := 2, ground := Ground.phase }, { on := 3, ground := Ground.phase }, { on := 4, ground := Ground.phase }, { on := 5, ground := Ground.phase }, { on := 6, ground := Ground.phase }, { on := 7, ground := Ground.phase }, { on := 8, ground := Ground.phase }, { on := 9, ground := Ground.phase }], guard := none }) (v := .pointer (some ⟨f, 0, none⟩)) rfl (by kernel_rfl) (by kernel_rfl) (by kernel_rfl) (fun _ _ _ h => h) (Or.inl ⟨by rfl, ?_⟩) (by assumption) ?_
    · intro w2 hSw
      go_simp
    simp only [Act.put, List.setIfInBounds_toArray, List.set_cons_zero, List.set_cons_succ]
    refine wpAnyH_take (i := 11) (oi := { dst := some 14, op := Op.fieldAddr 69 (Operand.tmp 13) 0, type := 0, pos := "disk.go:75", after := #[{ on := 10, ground := Ground.data }, { on := 0, ground := Ground.phase }, { on := 1, ground := Ground.phase }, { on := 2, ground := Ground.phase }, { on := 3, ground := Ground.phase }, { on := 4, ground := Ground.phase }, { on := 5, ground := Ground.phase }, { on := 6, ground := Ground.phase }, { on := 7, ground := Ground.phase }, { on := 8, ground := Ground.phase }, { on := 9, ground := Ground.phase }], guard := none }) (v := .pointer (some ⟨f, 0, none⟩)) rfl (by kernel_rfl) (by kernel_rfl) (by kernel_rfl) (fun _ _ _ h => h) (Or.inl ⟨by rfl, ?_⟩) (by assumption) ?_
    · intro w2 hSw
      go_simp
    simp only [Act.put, List.setIfInBounds_toArray, List.set_cons_zero, List.set_cons_succ]
    refine wpAnyH_ready (rs := [12]) (by kernel_rfl) (by simp) ?_
    refine AllReadyH.cons (o := { dst := none, op := Op.store 38 (Operand.tmp 14) (Operand.tmp 12), type := 0, pos := "disk.go:75", after := #[{ on := 11, ground := Ground.data }, { on := 9, ground := Ground.data }, { on := 9, ground := Ground.chain }, { on := 0, ground := Ground.phase }, { on := 1, ground := Ground.phase }, { on := 2, ground := Ground.phase }, { on := 3, ground := Ground.phase }, { on := 4, ground := Ground.phase }, { on := 5, ground := Ground.phase }, { on := 6, ground := Ground.phase }, { on := 7, ground := Ground.phase }, { on := 8, ground := Ground.phase }, { on := 9, ground := Ground.phase }], guard := none }) rfl (fun K hK => ?_) AllReadyH.nil
    go_simp
    refine hK.out _ _ ?_ (fun hHeld => ?_)
    · refine ⟨?_, ?_, ?_⟩ <;> (rw [World.cell?_of_block (heap_set_other _ (by first | exact N1.out | exact N2.out | exact N3.out))]; assumption)
    clear hK K
    refine wpAnyH_done (by kernel_rfl) ?_ _
    go_end0
    have h6 := H5.out
    rw [show (bs ++ [s[k]]).length = bs.length + 1 from by simp] at h6
    exact ⟨rfl, h6⟩
  · go_simp
    refine hK.out _ _ ⟨k1 _, k2 _, k3 _⟩ (fun hHeld => ?_)
    clear hK K
    refine wpAnyH_ready (rs := [4]) (by kernel_rfl) (by simp) ?_
    refine AllReadyH.cons (o := { dst := some 7, op := Op.load 38 (Operand.tmp 6), type := 38, pos := "disk.go:75", after := #[{ on := 3, ground := Ground.data }], guard := none }) rfl (fun K hK => ?_) AllReadyH.nil
    go_simp
    refine hK.out _ _ ⟨k1 _, k2 _, k3 _⟩ (fun hHeld => ?_)
    clear hK K
    refine wpAnyH_ready (rs := [9]) (by kernel_rfl) (by simp) ?_
    refine AllReadyH.cons (o := { dst := some 12, op := Op.call { callee := Callee.builtin Builtin.append, args := #[Operand.tmp 7, Operand.tmp 11], argTypes := #[38, 38] }, type := 38, pos := "disk.go:75", after := #[{ on := 4, ground := Ground.data }, { on := 8, ground := Ground.data }], guard := none }) rfl (fun K hK => ?_) AllReadyH.nil
    refine step_append_b rfl (.tmp 7) (.tmp 11) rfl v bs r rfl (HO.out.kept fun g hg => Below.heap_alloc _ _ _ (Lib_lt HO.out hg)) s[k] _ rfl (heap_alloc_new _ _) HL.out ?_
    intro v' w1 r' h1 h2 h3
    have hz := after_app hB1 hflt HR.out HV.out h3
    obtain ⟨z0, z1⟩ := cells2 hz
    have zb := after_box hB1 R1.out B1.out h3
    have zs := after_box hB1 R2.out B2.out h3
    have zi := after_box hB1 R3.out B3.out h3
    have zf := soft0 hz
    have h5 := added_of hB1 hflt HR.out HV.out h1 h2 h3 0
    have H5 := Lib.hid h5
    obtain ⟨ao, cp, rfl, q1, q2⟩ := h1.form
    clear h1 h2 h3 hz z1 q1 q2 h5
    refine hK.out _ _ ⟨zb, zs, zi⟩ (fun hHeld => ?_)
    clear hK K
    simp only [Act.put, List.setIfInBounds_toArray, List.set_cons_zero, List.set_cons_succ]
    refine wpAnyH_take (i := 10) (oi := { dst := some 13, op := Op.nilCheck (Operand.tmp 3), type := 0, pos := "disk.go:75", after := #[{ on := 0, ground := Ground.data }, { on := 0, ground := Ground.phase }, { on := 1, ground := Ground.phase }, { on := 2, ground := Ground.phase }, { on := 3, ground := Ground.phase }, { on := 4, ground := Ground.phase }, { on := 5, ground := Ground.phase }, { on := 6, ground := Ground.phase }, { on := 7, ground := Ground.phase }, { on := 8, ground := Ground.phase }, { on := 9, ground := Ground.phase }], guard := none }) (v := .pointer (some ⟨f, 0, none⟩)) rfl (by kernel_rfl) (by kernel_rfl) (by kernel_rfl) (fun _ _ _ h => h) (Or.inl ⟨by rfl, ?_⟩) (by assumption) ?_
    · intro w2 hSw
      go_simp
    simp only [Act.put, List.setIfInBounds_toArray, List.set_cons_zero, List.set_cons_succ]
    refine wpAnyH_take (i := 11) (oi := { dst := some 14, op := Op.fieldAddr 69 (Operand.tmp 13) 0, type := 0, pos := "disk.go:75", after := #[{ on := 10, ground := Ground.data }, { on := 0, ground := Ground.phase }, { on := 1, ground := Ground.phase }, { on := 2, ground := Ground.phase }, { on := 3, ground := Ground.phase }, { on := 4, ground := Ground.phase }, { on := 5, ground := Ground.phase }, { on := 6, ground := Ground.phase }, { on := 7, ground := Ground.phase }, { on := 8, ground := Ground.phase }, { on := 9, ground := Ground.phase }], guard := none }) (v := .pointer (some ⟨f, 0, none⟩)) rfl (by kernel_rfl) (by kernel_rfl) (by kernel_rfl) (fun _ _ _ h => h) (Or.inl ⟨by rfl, ?_⟩) (by assumption) ?_
    · intro w2 hSw
      go_simp
    simp only [Act.put, List.setIfInBounds_toArray, List.set_cons_zero, List.set_cons_succ]
    refine wpAnyH_ready (rs := [12]) (by kernel_rfl) (by simp) ?_
    refine AllReadyH.cons (o := { dst := none, op := Op.store 38 (Operand.tmp 14) (Operand.tmp 12), type := 0, pos := "disk.go:75", after := #[{ on := 11, ground := Ground.data }, { on := 9, ground := Ground.data }, { on := 9, ground := Ground.chain }, { on := 0, ground := Ground.phase }, { on := 1, ground := Ground.phase }, { on := 2, ground := Ground.phase }, { on := 3, ground := Ground.phase }, { on := 4, ground := Ground.phase }, { on := 5, ground := Ground.phase }, { on := 6, ground := Ground.phase }, { on := 7, ground := Ground.phase }, { on := 8, ground := Ground.phase }, { on := 9, ground := Ground.phase }], guard := none }) rfl (fun K hK => ?_) AllReadyH.nil
    go_simp
    refine hK.out _ _ ?_ (fun hHeld => ?_)
    · refine ⟨?_, ?_, ?_⟩ <;> (rw [World.cell?_of_block (heap_set_other _ (by first | exact N1.out | exact N2.out | exact N3.out))]; assumption)
    clear hK K
    refine wpAnyH_done (by kernel_rfl) ?_ _
    go_end0
    have h6 := H5.out
    rw [show (bs ++ [s[k]]).length = bs.length + 1 from by simp] at h6
    exact ⟨rfl, h6⟩
end Go.Proofs.Ytcbfghncdclonaa

/-
  Used, at every disk: over the map of its files, in whatever order.
-/
namespace Go.Proofs.Ytcbfghncdclonaa
open Go.RowKit Go.Maps
set_option linter.unusedSimpArgs false
set_option linter.unusedVariables false
def mkS (s : ByteArray) : Value := .string s
def mkP (o : Option Nat) : Value := .pointer (o.map fun f => ⟨f, 0, none⟩)
theorem inv_key (key : Value) (kl : Lit) (h : keyOf Try.prog 9 key = some kl) : ∃ s, key = mkS s := by
  cases key <;> simp [keyOf, Try.underlying9, mapKey] at h
  exact ⟨_, rfl⟩
theorem inv_val (v : Value) (y : DataW Unit × List MemPlace) (h : RP v = some y) : ∃ o, v = mkP o := by
  unfold RP at h
  split at h
  · exact ⟨some _, rfl⟩
  · exact ⟨none, rfl⟩
  · cases h
/-- An entry that comes is a file's. -/
theorem came {X : List Rc} (hn : (X.map (·.x.nm)).Nodup) {s : ByteArray} {o : Option Nat} {kl : Lit} {y : DataW Unit × List MemPlace} (hk : keyOf Try.prog 9 (mkS s) = some kl) (hv : RP (mkP o) = some y) (hat : ∀ zd, (Dof X).atKey kl zd = y.1) :
    ∃ c ∈ X, s.data.toList = c.x.nm ∧ kl = keyL c.x.nm ∧ mkP o = .pointer (some ⟨c.f, 0, none⟩) := by
  have hkl : kl = keyL s.data.toList := by
    have h2 := hk
    simp [mkS, keyOf, Try.underlying9, mapKey] at h2
    exact h2.2.symm
  by_cases h : ∃ c ∈ X, c.x.nm = s.data.toList
  · obtain ⟨c, hc, e⟩ := h
    refine ⟨c, hc, e.symm, by rw [hkl, e], ?_⟩
    have h1 := hat .nil
    rw [hkl, ← e, (Dof_some X c hc hn).2] at h1
    have : RP (mkP o) = some (.lit (.int .i64 (c.f : Int)), y.2) := by rw [hv, h1]
    exact RP_inv this
  · have h1 := hat .nil
    have h2 := hat (.ptr .nil)
    rw [hkl, (Dof_none X _ (fun c hc e => h ⟨c, hc, e⟩)).2] at h1 h2
    rw [← h1] at h2
    cases h2
def leftF (X : List Rc) (left : Lit → Bool) : List Rc := X.filter fun c => left (keyL c.x.nm)
def sumF (X : List Rc) : Nat := (X.map fun c => c.x.b.length).sum
theorem sameKey_keyL (a b : Nm) : (keyL a).sameKey (keyL b) = decide (a = b) := by
  by_cases h : a = b
  · subst h
    rw [decide_eq_true rfl]
    simp [keyL, Lit.sameKey]
  · rw [decide_eq_false h]
    exact sameKey_ne (key_ne h)
theorem leftF_perm {X : List Rc} (hn : (X.map (·.x.nm)).Nodup) {c : Rc} (hc : c ∈ X) {left : Lit → Bool} (hl : left (keyL c.x.nm) = true) :
    (leftF X left).Perm (c :: leftF X fun z => left z && !z.sameKey (keyL c.x.nm)) := by
  obtain ⟨A, B, rfl⟩ := List.append_of_mem hc
  rw [List.map_append, List.map_cons, List.nodup_append, List.nodup_cons] at hn
  have hA : ∀ d ∈ A, d.x.nm ≠ c.x.nm := fun d hd e => hn.2.2 d.x.nm (List.mem_map_of_mem (f := fun y : Rc => y.x.nm) hd) c.x.nm (List.mem_cons_self ..) e
  have hB : ∀ d ∈ B, d.x.nm ≠ c.x.nm := fun d hd e => hn.2.1.1 (by rw [← e]; exact List.mem_map_of_mem (f := fun y : Rc => y.x.nm) hd)
  have same : ∀ Y : List Rc, (∀ d ∈ Y, d.x.nm ≠ c.x.nm) → leftF Y (fun z => left z && !z.sameKey (keyL c.x.nm)) = leftF Y left := fun Y hY => by
    unfold leftF
    apply List.filter_congr
    intro d hd
    show (left (keyL d.x.nm) && !(keyL d.x.nm).sameKey (keyL c.x.nm)) = left (keyL d.x.nm)
    rw [sameKey_keyL, decide_eq_false (hY d hd)]
    simp
  have ap : ∀ (P Q : List Rc) (l : Lit → Bool), leftF (P ++ Q) l = leftF P l ++ leftF Q l := fun P Q l => List.filter_append ..
  have h1 : leftF (c :: B) left = c :: leftF B left := by unfold leftF; rw [List.filter_cons, if_pos hl]
  have h2 : leftF (c :: B) (fun z => left z && !z.sameKey (keyL c.x.nm)) = leftF B left := by
    rw [← same B hB]
    unfold leftF
    rw [List.filter_cons, if_neg]
    show ¬ (left (keyL c.x.nm) && !(keyL c.x.nm).sameKey (keyL c.x.nm)) = true
    rw [sameKey_keyL, decide_eq_true rfl]
    simp
  rw [ap, ap, h1, h2, same A hA]
  exact List.perm_middle
theorem leftF_all {X : List Rc} (hn : (X.map (·.x.nm)).Nodup) : leftF X (Maps.has (Dof X)) = X := by
  unfold leftF
  rw [List.filter_eq_self]
  intro c hc
  exact (Dof_some X c hc hn).1
theorem sumF_used {X : List Rc} {L : List Fl} (h : (X.map (·.x)).Perm L) : sumF X = usedL L := by
  rw [← usedL_perm h]
  unfold sumF usedL
  rw [List.map_map]
  rfl
theorem sumF_perm {X Y : List Rc} (h : X.Perm Y) : sumF X = sumF Y := (h.map _).sum_nat
theorem sumF_cons (c : Rc) (X : List Rc) : sumF (c :: X) = c.x.b.length + sumF X := by unfold sumF; rw [List.map_cons, List.sum_cons]
set_option maxRecDepth 100000 in
set_option maxHeartbeats 1000000 in
theorem used_any {w : World} {p : Nat} {s : Ds} {S : List Nat} (h : DiskAt w p s S) : Calls Try.prog 39 #[.pointer (some ⟨p, 0, none⟩)] w fun e w' => e = .returned (.int .i64 (usedL s.L : Int)) ∧ Below w.heap.size w w' := by
  obtain ⟨M, X, rfl, h⟩ := h
  obtain ⟨c0, c1, c2, c3, c4⟩ := cells5 h.blk
  have hown := h.map
  have hn := h.names
  have hsum := sumF_used h.perm
  have hroom : usedL s.L ≤ 4194304 := Nat.le_trans h.wf.used h.wf.room
  have hfile : ∀ wr, Below w.heap.size w wr → ∀ c ∈ X, ∃ ao cap, wr.cell? ⟨c.f, 0, none⟩ = some (.slice ao c.x.b.length cap) := by
    intro wr hb c hc
    obtain ⟨v, hv, ho⟩ := h.file c hc
    obtain ⟨ao, cap, rfl, _, _⟩ := ho.form
    exact ⟨ao, cap, (cells2 ((hb.block _ (heap_lt hv)).trans hv)).1⟩
  have HF := Lib.hid hfile; have HN := Lib.hid hn; have HS := Lib.hid hsum; have HR := Lib.hid hroom
  clear hfile hn hsum hroom c0 c2 c3 c4 h
  go_enter Try.func39, Try.ntmps39
  go_wp2_with (at_range; refine wpList_range_own _ rfl _ 57 rfl 9 67 keyed9 Try.underlying57 _ M X.length (Dof X) rfl hown ?_; intro w0 hrg0 hg0 hs0)
  go_frame
  clear hown c1
  go_loopw [3] (fun v wr => ∃ left cnt acc, wr.ranges Try.prog 9 RP M w.heap.size X.length (Dof X) left cnt ∧ v = .int .i64 ((acc : Nat) : Int) ∧ acc + sumF (leftF X left) = usedL s.L ∧ Below w.heap.size w wr) (fun _ wr => wr.rangeLeft M w.heap.size)
  case atStart => exact ⟨_, _, 0, hrg0, rfl, by rw [leftF_all HN.out, HS.out]; omega, (Below.refl _ _).grown hg0 (Nat.le_refl _) (fun k h => by cases h)⟩
  case round =>
    obtain ⟨left, cnt, acc, hrg, rfl, hacc, hb⟩ := hrel
    clear hrg0 hg0 hs0
    have HACC := Lib.hid hacc; have HB := Lib.hid hb
    clear hacc hb
    go_wp2_with (at_next; refine wpList_next_ranges _ rfl _ rfl 9 keyed9 RP mkS mkP inv_key inv_val M w.heap.size X.length (Dof X) left cnt rfl hrg ?_ ?_)
    · intro hc0 hl0
      have hz : sumF (leftF X left) = 0 := by
        have : leftF X left = [] := by unfold leftF; rw [List.filter_eq_nil_iff]; intro c _; rw [hl0]; simp
        rw [this]
        rfl
      have hfin : acc = usedL s.L := by have := HACC.out; omega
      subst hfin
      clear hz
      go_wp2_with fail
      go_ret
      exact ⟨rfl, HB.out⟩
    · intro sk o kl y1 y2 w1 cnt1 hk hlk hv hat hrg1 hlt hg1 hs1 hen
      obtain ⟨c, hc, e1, rfl, e2⟩ := came HN.out hk hv hat
      rw [e2] at hen ⊢
      have hb1 : Below w.heap.size w w1 := HB.out.grown hg1 HB.out.size (fun k h => by cases h; exact Nat.le_refl _)
      obtain ⟨ao, cap, hcell⟩ := HF.out w1 hb1 c hc
      have hp := sumF_perm (leftF_perm HN.out hc hlk)
      rw [sumF_cons] at hp
      have hnew : (acc + c.x.b.length) + sumF (leftF X fun z => left z && !z.sameKey (keyL c.x.nm)) = usedL s.L := by have := HACC.out; omega
      have hle : ((acc : Nat) : Int) + ((c.x.b.length : Nat) : Int) ≤ 4194304 := by have := HR.out; omega
      obtain ⟨N, hN⟩ : ∃ N, c.x.b.length = N := ⟨_, rfl⟩
      obtain ⟨g, hg⟩ : ∃ g, c.f = g := ⟨_, rfl⟩
      rw [hN] at hcell hnew hle
      rw [hg] at hen hcell ⊢
      have HNEW := Lib.hid hnew; have HB1 := Lib.hid hb1
      clear hnew hp hk hv hat hb1 hN hg e1 e2
      unfold mkS at hen ⊢
      have h0 : (0 : Int) ≤ (acc : Int) := by omega
      have h1 : (0 : Int) ≤ (N : Int) := by omega
      go_wp2_with fail
      go_roundw
      case rel => exact ⟨_, cnt1, acc + N, hrg1, by first | rfl | (congr 1; omega), HNEW.out, HB1.out⟩
      case measure => rw [hrg1.left_eq, hrg.left_eq]; exact hlt
end Go.Proofs.Ytcbfghncdclonaa

/-
  Append, at every disk.
-/
namespace Go.Proofs.Ytcbfghncdclonaa
open Go.RowKit Go.Maps
set_option linter.unusedSimpArgs false
set_option linter.unusedVariables false
/-- One file turned; where it is stays. -/
def TurnedX (w : World) (p M : Nat) (s : Ds) (f : Nat) (x : Fl) (S : List Nat) (nm : Nm) (g : Fl → Fl) (w' : World) : Prop :=
  ∃ X' c', DiskX w' p M X' (turnS s nm g) ∧ c' ∈ X' ∧ c'.f = f ∧ c'.x = g x ∧ Turns S (p :: M :: footOf X') w w'
theorem turn_atX {w w' : World} {p M : Nat} {X : List Rc} {c : Rc} {s : Ds} (h : DiskX w p M X s) (hc : c ∈ X) {nm : Nm} (hnm : c.x.nm = nm) {g : Fl → Fl} (hg : ∀ f, (g f).nm = f.nm) (r' : Option Nat) (hwf : WF (turnS s nm g))
    (hr : r' = none ∨ r' = c.r ∨ ∃ k, r' = some k ∧ w.heap.size ≤ k) (hw : Turns (c.f :: c.r.toList) [] w w') (hf : FileIn w' ⟨c.f, r', g c.x⟩) :
    TurnedX w p M s c.f c.x (p :: M :: footOf X) nm g w' := by
  obtain ⟨A, B, rfl⟩ := List.append_of_mem hc
  refine ⟨A ++ ⟨c.f, r', g c.x⟩ :: B, ⟨c.f, r', g c.x⟩, turn_file h hnm hg r' hwf hr (fun k h1 h2 h3 => hw.block k h1 (fun hm => ?_)) hf, by simp, rfl, rfl, ⟨hw.os, hw.tape, hw.output, hw.size, fun k h1 h2 => hw.block k h1 (fun hm => h2 ?_), foot_turn hr⟩⟩
  · rcases List.mem_cons.1 hm with rfl | hm
    · exact h2 rfl
    · cases hq : c.r with
      | none => rw [hq] at hm; cases hm
      | some q => rw [hq] at hm h3; simp at hm; exact h3 (by rw [hm])
  · obtain ⟨m1, m2⟩ := mem_foot hc
    rcases List.mem_cons.1 hm with rfl | hm
    · simp [m1]
    · cases hq : c.r with
      | none => rw [hq] at hm; cases hm
      | some q => rw [hq] at hm; simp at hm; rw [hm]; simp [m2 q hq]
theorem wf_add {s : Ds} (h : WF s) {nm : Nm} {f : Fl} (hf : findF s.L nm = some f) (hu : usedL s.L < s.room) (c : UInt8) : WF (turnS s nm (addC c)) :=
  h.turn (fun _ => rfl) hf (by unfold addC; simp only [List.length_append]; have := h.lasts f (find_some hf).1; omega) (by unfold addC; simp only [List.length_append, List.length_cons, List.length_nil]; omega)
theorem app_clo {w : World} {p M : Nat} {X : List Rc} {s : Ds} (h : DiskX w p M X s) {c : Rc} (hc : c ∈ X) (hu : usedL s.L < s.room) {bf bb bi : Nat} {b : ByteArray} {k : Nat} (hk : k < b.size) (hb : b.size ≤ 4194304)
    (hbf : w.heap[bf]? = some (.cells #[.pointer (some ⟨c.f, 0, none⟩)] 67 (0, 0))) (hbb : w.heap[bb]? = some (.cells #[.string b] 9 (0, 0))) (hbi : w.heap[bi]? = some (.cells #[.int .i64 (k : Int)] 3 (0, 0))) :
    Calls Try.prog 41 #[.pointer (some ⟨bf, 0, none⟩), .pointer (some ⟨bb, 0, none⟩), .pointer (some ⟨bi, 0, none⟩)] w (CloDone (TurnedX w p M s c.f c.x (p :: M :: footOf X) c.x.nm (addC b[k]))) := by
  obtain ⟨v, hv, ho⟩ := h.file c hc
  have hin := h.perm.mem_iff.1 (List.mem_map_of_mem hc)
  have hfd : findF s.L c.x.nm = some c.x := find_of h.wf.rise hin
  have hlen := len_room h.wf hin
  refine (app_walk hk (by omega) (by omega) hv ho (fun g hg => row_off h hc hg) hbf hbb hbi).mono fun e w' ⟨he, v', r', h1, h2, h3, h4⟩ => ⟨he, ?_⟩
  exact turn_atX h hc rfl (fun _ => rfl) r' (wf_add h.wf hfd hu _) h3 h4 ⟨v', h1, h2⟩
set_option maxRecDepth 100000 in
set_option maxHeartbeats 1000000 in
theorem append_dead {w : World} {p : Nat} {s : Ds} {S : List Nat} (h : DiskAt w p s S) (nm b : ByteArray) (hd : s.dead = true) :
    Calls Try.prog 16 #[.pointer (some ⟨p, 0, none⟩), .string nm, .string b] w (Ends w p S (appendS s nm.data.toList b.data.toList)) := by
  have e : appendS s nm.data.toList b.data.toList = (s, 21) := by unfold appendS; rw [if_pos hd]
  rw [e]
  have bx : Below w.heap.size w (w.alloc (.cells #[.string b] 9)) := (Below.refl _ _).alloc (Nat.le_refl _) _
  have ho := dead_any (h.below bx)
  rw [hd] at ho
  have HO := Lib.hid ho
  have HE := Lib.hid (Ends.stay h bx 21)
  clear ho hd h bx e
  go_enter Try.func16, Try.ntmps16
  go_wp2_with fail
  refine HO.out.mono ?_
  rintro e w1 ⟨rfl, rfl⟩
  go_wp2_with fail
  go_ret
  exact HE.out
theorem toList_nil {s : ByteArray} : s.data.toList = [] ↔ s.toList = [] := by rw [ByteArray.toList_eq]
set_option maxRecDepth 100000 in
set_option maxHeartbeats 1000000 in
theorem append_arg {w : World} {p : Nat} {s : Ds} {S : List Nat} (h : DiskAt w p s S) (nm b : ByteArray) (hs : nm.size ≤ maxLen) (hd : s.dead = false) (ha : nm.data.toList = [] ∨ ((findF s.L nm.data.toList).isNone ∧ 4 ≤ s.L.length)) :
    Calls Try.prog 16 #[.pointer (some ⟨p, 0, none⟩), .string nm, .string b] w (Ends w p S (appendS s nm.data.toList b.data.toList)) := by
  have e : appendS s nm.data.toList b.data.toList = (s, 1) := by unfold appendS; rw [if_neg (by rw [hd]; simp), if_pos ha]
  rw [e]
  have bx : Below w.heap.size w (w.alloc (.cells #[.string b] 9)) := (Below.refl _ _).alloc (Nat.le_refl _) _
  have ho := dead_any (h.below bx)
  rw [hd] at ho
  have HO := Lib.hid ho
  have HE := Lib.hid (fun v => Ends.stay h (w1 := (w.alloc (.cells #[.string b] 9)).alloc (.cells #[v] 67)) (bx.alloc (by simp) _) 1)
  obtain ⟨M, X, rfl, hx⟩ := h
  have hx1 : DiskX (w.alloc (.cells #[.string b] 9)) p M X s := hx.kept fun q hq => bx.block q (hx.lt q hq)
  obtain ⟨c0, c1, c2, c3, c4⟩ := cells5 hx1.blk
  clear c0 c2 c3 c4
  by_cases hnil : nm.data.toList = []
  · have hnl : nm.toList = [] := toList_nil.1 hnil
    have hlook : ∃ v, (Instr.lookup 57 (.map (some M)) (.string nm) false).run Try.prog (w.alloc (.cells #[.string b] 9)) = .ok v (w.alloc (.cells #[.string b] 9)) ∧ ∃ o, v = mkP o := by
      cases hf : findF s.L nm.data.toList with
      | none => exact ⟨_, hx1.look_none nm hf hs _ rfl, none, rfl⟩
      | some f =>
        obtain ⟨c, hc, e1, e2⟩ := hx1.find hf
        exact ⟨_, hx1.look_some hc nm e2.symm hs _ rfl, some c.f, rfl⟩
    obtain ⟨v, hl, o, rfl⟩ := hlook
    have HL := Lib.hid hl
    obtain ⟨pv, hpv⟩ : ∃ pv, (o.map fun f => (⟨f, 0, none⟩ : Addr)) = pv := ⟨_, rfl⟩
    unfold mkP at hl
    rw [hpv] at hl
    clear ho hd bx e hnil ha hx hx1 hpv HL hs
    go_enter Try.func16, Try.ntmps16
    go_wp2_with fail
    refine HO.out.mono ?_
    rintro e w1 ⟨rfl, rfl⟩
    go_wp2_with fail
    go_ret
    exact HE.out _
  · obtain ⟨h1, h2⟩ := ha.resolve_left hnil
    have hnl : nm.toList ≠ [] := fun e => hnil (toList_nil.2 e)
    have hne : nm.toList.isEmpty = false := by simpa using hnl
    have hl := hx1.look_none nm (by simpa using h1) hs _ rfl
    have hlen := fun ty => (hx1.map.alloc (.cells #[.pointer none] 67)).len Try.underlying57 ty
    rw [hx1.size] at hlen
    have b2 : Below w.heap.size w ((w.alloc (.cells #[.string b] 9)).alloc (.cells #[.pointer none] 67)) := bx.alloc (by simp) _
    have hx2 : DiskX ((w.alloc (.cells #[.string b] 9)).alloc (.cells #[.pointer none] 67)) p M X s := hx.kept fun q hq => b2.block q (hx.lt q hq)
    have d1 := (cells5 hx2.blk).2.1
    obtain ⟨N, hN⟩ : ∃ N, s.L.length = N := ⟨_, rfl⟩
    rw [hN] at h2 hlen
    have h2' : (4 : Int) ≤ (N : Int) := by omega
    clear ho hd bx e hnil ha hx hx1 hN hs h1 h2 hx2 b2
    go_enter Try.func16, Try.ntmps16
    go_wp2_with fail
    refine HO.out.mono ?_
    rintro e w1 ⟨rfl, rfl⟩
    go_wp2_with fail
    go_ret
    exact HE.out _
/-- What the boxes of Append leave of a disk. -/
theorem box2 {w : World} {p M : Nat} {X : List Rc} {s : Ds} (hx : DiskX w p M X s) (b : ByteArray) (v : Value) :
    Below w.heap.size w ((w.alloc (.cells #[.string b] 9)).alloc (.cells #[v] 67)) ∧ DiskX ((w.alloc (.cells #[.string b] 9)).alloc (.cells #[v] 67)) p M X s ∧
    ((w.alloc (.cells #[.string b] 9)).alloc (.cells #[v] 67)).heap[w.heap.size]? = some (.cells #[.string b] 9 (0, 0)) ∧ ((w.alloc (.cells #[.string b] 9)).alloc (.cells #[v] 67)).heap[w.heap.size + 1]? = some (.cells #[v] 67 (0, 0)) := by
  have bx : Below w.heap.size w (w.alloc (.cells #[.string b] 9)) := (Below.refl _ _).alloc (Nat.le_refl _) _
  have b2 : Below w.heap.size w ((w.alloc (.cells #[.string b] 9)).alloc (.cells #[v] 67)) := bx.alloc (by simp) _
  refine ⟨b2, hx.kept fun q hq => b2.block q (hx.lt q hq), ?_, ?_⟩
  · rw [Below.heap_alloc _ _ _ (by simp)]
    exact heap_alloc_new w _
  · have := heap_alloc_new (w.alloc (.cells #[.string b] 9)) (.cells #[v] 67)
    rw [World.size_alloc] at this
    exact this
set_option maxRecDepth 100000 in
set_option maxHeartbeats 1000000 in
theorem append_full {w : World} {p : Nat} {s : Ds} {S : List Nat} (h : DiskAt w p s S) (nm b : ByteArray) (hs : nm.size ≤ maxLen) (hb : b.size ≤ 140737488351232) (hd : s.dead = false) (ha : ¬ (nm.data.toList = [] ∨ ((findF s.L nm.data.toList).isNone ∧ 4 ≤ s.L.length))) (hr : s.room < usedL s.L + b.data.toList.length) :
    Calls Try.prog 16 #[.pointer (some ⟨p, 0, none⟩), .string nm, .string b] w (Ends w p S (appendS s nm.data.toList b.data.toList)) := by
  have e : appendS s nm.data.toList b.data.toList = (s, 20) := by unfold appendS; rw [if_neg (by rw [hd]; simp), if_neg ha, if_pos hr]
  rw [e]
  have hbl : b.data.toList.length = b.size := Array.length_toList
  rw [hbl] at hr
  have bx : Below w.heap.size w (w.alloc (.cells #[.string b] 9)) := (Below.refl _ _).alloc (Nat.le_refl _) _
  have ho := dead_any (h.below bx)
  rw [hd] at ho
  have HO := Lib.hid ho
  have HE := Lib.hid (fun w1 (hb : Below w.heap.size w w1) => Ends.stay h hb 20)
  have HU := Lib.hid (fun w1 (hb : Below w.heap.size w w1) => used_any (h.below hb))
  have hroom := h.wf.room
  have hused := Nat.le_trans h.wf.used h.wf.room
  obtain ⟨M, X, rfl, hx⟩ := h
  have hx1 : DiskX (w.alloc (.cells #[.string b] 9)) p M X s := hx.kept fun q hq => bx.block q (hx.lt q hq)
  obtain ⟨c0, c1, c2, c3, c4⟩ := cells5 hx1.blk
  have hnil : nm.data.toList ≠ [] := fun e => ha (.inl e)
  have hnl : nm.toList ≠ [] := fun e => hnil (toList_nil.2 e)
  have hne : nm.toList.isEmpty = false := by simpa using hnl
  obtain ⟨room, hrm⟩ : ∃ r, s.room = r := ⟨_, rfl⟩
  obtain ⟨U, hU⟩ : ∃ r, usedL s.L = r := ⟨_, rfl⟩
  rw [hrm] at hr hroom
  rw [hU] at hr hused HU
  have hwr : IntKind.i64.wrap ((U : Int) + (b.size : Int)) = (U : Int) + (b.size : Int) := IntWalk.i64_in _ (by omega)
  have hrr : (room : Int) < (U : Int) + (b.size : Int) := by omega
  have plt : p < w.heap.size := heap_lt hx.blk
  clear c0 c2 c3 c4
  cases hf : findF s.L nm.data.toList with
  | none =>
    have hl := hx1.look_none nm hf hs _ rfl
    have h4 : s.L.length < 4 := by
      rw [hf] at ha
      have : ¬ 4 ≤ s.L.length := fun h => ha (.inr ⟨rfl, h⟩)
      omega
    obtain ⟨q1, q2, q3, q4⟩ := box2 hx b (.pointer none)
    have hlen := fun ty => q2.map.len Try.underlying57 ty
    rw [q2.size] at hlen
    obtain ⟨N, hN⟩ : ∃ N, s.L.length = N := ⟨_, rfl⟩
    rw [hN] at h4 hlen
    have h4' : (N : Int) < 4 := by omega
    obtain ⟨d0, d1, d2, d3, d4⟩ := cells5 q2.blk
    have b0 := cells1 q3
    have f0 := cells1 q4
    rw [hrm] at d0
    have HQ1 := Lib.hid q1
    clear ho hd bx e hnil ha hx hx1 hN hs h4 q1 q2 q3 q4 d2 d3 d4 hf hU hrm hr hbl hroom hused hb
    go_enter Try.func16, Try.ntmps16
    go_wp2_with fail
    refine HO.out.mono ?_
    rintro e w1 ⟨rfl, rfl⟩
    go_wp2_with fail
    go_region_held3 (fun w' => w'.cell? ⟨p, 0, none⟩ = some (.int .i64 (room : Int)) ∧ w'.cell? ⟨w.heap.size, 0, none⟩ = some (.string b))
      (first
        | (refine ⟨?_, ?_⟩ <;> assumption)
        | go_keep)
      ((go_at_call 39; refine (HU.out _ (HQ1.out.trans (Below.refl _ _).drew)).mono ?_; rintro e w1 ⟨rfl, hb1⟩; have g0 := (World.cell?_of_block (a := ⟨p, 0, none⟩) (hb1.block p (by simp; omega))).trans d0; have g1 := (World.cell?_of_block (a := ⟨w.heap.size, 0, none⟩) (hb1.block w.heap.size (by simp; omega))).trans b0; have HB1 := Lib.hid (HQ1.out.trans ((Below.refl _ _).drew.trans (hb1.mono (by simp; omega)))); clear hb1))
    go_wp2_with fail
    go_ret
    exact HE.out _ HB1.out
  | some f =>
    obtain ⟨c, hc, e1, e2⟩ := hx.find hf
    have hl := hx1.look_some hc nm e2.symm hs _ rfl
    obtain ⟨q1, q2, q3, q4⟩ := box2 hx b (.pointer (some ⟨c.f, 0, none⟩))
    obtain ⟨g, hg⟩ : ∃ g, c.f = g := ⟨_, rfl⟩
    rw [hg] at hl q1 q2 q3 q4
    obtain ⟨d0, d1, d2, d3, d4⟩ := cells5 q2.blk
    have b0 := cells1 q3
    have f0 := cells1 q4
    rw [hrm] at d0
    have HQ1 := Lib.hid q1
    clear ho hd bx e hnil ha hx hx1 hs q1 q2 q3 q4 d2 d3 d4 hf hU hrm hr hbl hroom hused hb hc e1 e2 hg
    go_enter Try.func16, Try.ntmps16
    go_wp2_with fail
    refine HO.out.mono ?_
    rintro e w1 ⟨rfl, rfl⟩
    go_wp2_with fail
    go_region_held3 (fun w' => w'.cell? ⟨p, 0, none⟩ = some (.int .i64 (room : Int)) ∧ w'.cell? ⟨w.heap.size, 0, none⟩ = some (.string b))
      (first
        | (refine ⟨?_, ?_⟩ <;> assumption)
        | go_keep)
      ((go_at_call 39; refine (HU.out _ (HQ1.out.trans (Below.refl _ _).drew)).mono ?_; rintro e w1 ⟨rfl, hb1⟩; have g0 := (World.cell?_of_block (a := ⟨p, 0, none⟩) (hb1.block p (by simp; omega))).trans d0; have g1 := (World.cell?_of_block (a := ⟨w.heap.size, 0, none⟩) (hb1.block w.heap.size (by simp; omega))).trans b0; have HB1 := Lib.hid (HQ1.out.trans ((Below.refl _ _).drew.trans (hb1.mono (by simp; omega)))); clear hb1))
    go_wp2_with fail
    go_ret
    exact HE.out _ HB1.out
theorem new_file {w w' : World} {p M : Nat} {X : List Rc} {s : Ds} (h : DiskX w p M X s) {nm : Nm} (hn : findF s.L nm = none) (hl : s.L.length < 4) (hm : nm.length ≤ 140737488351232) {nf : Nat} (hnf : w.heap.size ≤ nf)
    (hnew : w'.heap[nf]? = some (.cells #[.slice none 0 0, .int .i64 0] 69 (0, 0))) (hmap : w'.ownsMap Try.prog 9 RP M (X.length + 1) ((Dof X).put (keyL nm) (.lit (.int .i64 (nf : Int)))))
    (hk : ∀ k, k < w.heap.size → k ≠ M → w'.heap[k]? = w.heap[k]?) : DiskX w' p M (X ++ [⟨nf, none, ⟨nm, [], 0⟩⟩]) { s with L := putF s.L nm } := by
  have hlt := h.lt
  have hnd := h.nodup
  have hMn : ∀ k ∈ p :: footOf X, k ≠ M := by
    intro k hk e
    rw [e] at hk
    rw [List.nodup_cons, List.nodup_cons] at hnd
    rcases List.mem_cons.1 hk with h1 | h1
    · exact hnd.1 (by rw [← h1]; exact List.mem_cons_self ..)
    · exact hnd.2.1 h1
  have hf : footOf (X ++ [⟨nf, none, ⟨nm, [], 0⟩⟩]) = footOf X ++ [nf] := by rw [footOf_append]; rfl
  refine ⟨?_, ?_, h.wf.put hn hl hm, (hk p (hlt p (by simp)) (hMn p (by simp))).trans h.blk, ?_, ?_⟩
  · rw [hf]
    have : (p :: M :: (footOf X ++ [nf])) = (p :: M :: footOf X) ++ [nf] := rfl
    rw [this, List.nodup_append]
    refine ⟨hnd, by simp, fun a ha b hb e => ?_⟩
    rw [List.mem_singleton.1 hb] at e
    have := hlt a ha
    omega
  · show ((X ++ [(⟨nf, none, ⟨nm, [], 0⟩⟩ : Rc)]).map (·.x)).Perm (putF s.L nm)
    rw [List.map_append]
    refine List.Perm.trans ?_ (put_perm s.L nm).symm
    exact (List.perm_append_singleton _ _).trans (h.perm.cons _)
  · rw [Dof_snoc, List.length_append]
    exact hmap
  · intro c hc
    rcases List.mem_append.1 hc with hc | hc
    · obtain ⟨m1, m2⟩ := mem_foot hc
      exact (h.file c hc).kept (hk _ (hlt _ (by simp [m1])) (hMn _ (by simp [m1]))) fun g hg => hk _ (hlt _ (by simp [m2 g hg])) (hMn _ (by simp [m2 g hg]))
    · rw [List.mem_singleton.1 hc]
      exact ⟨_, hnew, .inl ⟨rfl, rfl, rfl⟩⟩
/-! The loop. -/
structure LoopX (w : World) (S : List Nat) (p M : Nat) (s0 : Ds) (nm : Nm) (f bf bb : Nat) (b : ByteArray) (st : Ds) (X : List Rc) (c : Rc) (j : Nat) (wr : World) : Prop where
  disk : DiskX wr p M X st
  mem : c ∈ X
  at_ : c.f = f
  nm_ : c.x.nm = nm
  room : usedL st.L + (b.size - j) ≤ st.room
  left : bytesS s0 nm b.data.toList = bytesS st nm (b.data.toList.drop j)
  turns : Turns S (p :: M :: footOf X) w wr
  hbf : wr.heap[bf]? = some (.cells #[.pointer (some ⟨f, 0, none⟩)] 67 (0, 0))
  hbb : wr.heap[bb]? = some (.cells #[.string b] 9 (0, 0))
  nbf : bf ∉ p :: M :: footOf X
  nbb : bb ∉ p :: M :: footOf X
theorem get_data (b : ByteArray) (j : Nat) (h : j < b.size) : b.data.toList.drop j = b[j] :: b.data.toList.drop (j + 1) := by
  have hl : j < b.data.toList.length := by rw [Array.length_toList]; exact h
  rw [List.drop_eq_getElem_cons hl]
  rfl
theorem LoopX.next {w : World} {S : List Nat} {p M : Nat} {s0 : Ds} {nm : Nm} {f bf bb : Nat} {b : ByteArray} {st : Ds} {X : List Rc} {c : Rc} {j : Nat} {wr w' : World} (h : LoopX w S p M s0 nm f bf bb b st X c j wr) (hj : j < b.size) (hoff : isOff st = false)
    (hq : TurnedX wr p M (stepS st) c.f c.x (p :: M :: footOf X) nm (addC b[j]) w') : ∃ st' X' c', LoopX w S p M s0 nm f bf bb b st' X' c' (j + 1) w' := by
  obtain ⟨X', c', h1, h2, h3, h4, h5⟩ := hq
  have hin := h.disk.perm.mem_iff.1 (List.mem_map_of_mem h.mem)
  have hfd : findF st.L nm = some c.x := by rw [← h.nm_]; exact find_of h.disk.wf.rise hin
  have hu := used_set st.L nm (addC b[j]) c.x h.disk.wf.rise hfd
  have hu2 : usedL (turnS (stepS st) nm (addC b[j])).L = usedL (setF st.L nm (addC b[j])) := rfl
  have hlen : (addC b[j] c.x).b.length = c.x.b.length + 1 := by unfold addC; simp
  have hr := h.room
  have key : ∀ q, q < wr.heap.size → q ∉ p :: M :: footOf X → q ∉ p :: M :: footOf X' := fun q hq hn hm => by
    rcases h5.foot q hm with h6 | h6
    · exact hn h6
    · omega
  refine ⟨_, X', c', h1, h2, h3.trans h.at_, by rw [h4]; exact h.nm_, ?_, ?_, h.turns.trans h5, (h5.block _ (heap_lt h.hbf) h.nbf).trans h.hbf, (h5.block _ (heap_lt h.hbb) h.nbb).trans h.hbb, key _ (heap_lt h.hbf) h.nbf, key _ (heap_lt h.hbb) h.nbb⟩
  · show usedL (setF st.L nm (addC b[j])) + (b.size - (j + 1)) ≤ st.room
    omega
  · rw [h.left, get_data b j hj]
    show (if isOff st then _ else _) = _
    rw [if_neg (by rw [hoff]; simp)]
theorem LoopX.off {w : World} {S : List Nat} {p M : Nat} {s0 : Ds} {nm : Nm} {f bf bb : Nat} {b : ByteArray} {st : Ds} {X : List Rc} {c : Rc} {j : Nat} {wr w1 w' : World} (h : LoopX w S p M s0 nm f bf bb b st X c j wr) (hj : j < b.size) (hoff : isOff st = true)
    (hb : Below wr.heap.size wr w1) (h1 : DiskX w' p M X (offS st)) (h2 : Turns (p :: M :: footOf X) (p :: M :: footOf X) w1 w') : Ends w p S (bytesS s0 nm b.data.toList) (.returned (.int .u16 21)) w' := by
  have e : bytesS s0 nm b.data.toList = (offS st, 21) := by
    rw [h.left, get_data b j hj]
    show (if isOff st then _ else _) = _
    rw [if_pos hoff]
  rw [e]
  exact ⟨rfl, _, ⟨M, X, rfl, h1⟩, (h.turns.trans (Turns.of_below hb)).trans h2⟩
theorem LoopX.fin {w : World} {S : List Nat} {p M : Nat} {s0 : Ds} {nm : Nm} {f bf bb : Nat} {b : ByteArray} {st : Ds} {X : List Rc} {c : Rc} {j : Nat} {wr : World} (h : LoopX w S p M s0 nm f bf bb b st X c j wr) (hj : b.size ≤ j) : Ends w p S (bytesS s0 nm b.data.toList) (.returned (.int .u16 0)) wr := by
  have e : bytesS s0 nm b.data.toList = (st, 0) := by
    rw [h.left, List.drop_eq_nil_of_le (by rw [Array.length_toList]; exact hj)]
    rfl
  rw [e]
  exact ⟨rfl, _, ⟨M, X, rfl, h.disk⟩, h.turns⟩
end Go.Proofs.Ytcbfghncdclonaa

/-
  Append, at every disk: the bytes put one by one.
-/
namespace Go.Proofs.Ytcbfghncdclonaa
open Go.RowKit Go.Maps
set_option linter.unusedSimpArgs false
set_option linter.unusedVariables false
theorem step_app {w : World} {S : List Nat} {p M : Nat} {s0 : Ds} {nm : Nm} {f bf bb : Nat} {b : ByteArray} {st : Ds} {X : List Rc} {c : Rc} {j : Nat} {wr : World} (h : LoopX w S p M s0 nm f bf bb b st X c j wr) (hj : j < b.size) (hb : b.size ≤ 4194304) (hoff : isOff st = false) :
    Calls Try.prog 40 #[.pointer (some ⟨p, 0, none⟩), .func (.func 41) #[] #[.pointer (some ⟨bf, 0, none⟩), .pointer (some ⟨bb, 0, none⟩), .pointer (some ⟨wr.heap.size, 0, none⟩)]] (wr.alloc (.cells #[.int .i64 (j : Int)] 3))
      (StepDone fun w' => ∃ st' X' c', LoopX w S p M s0 nm f bf bb b st' X' c' (j + 1) w') := by
  have bx : Below wr.heap.size wr (wr.alloc (.cells #[.int .i64 (j : Int)] 3)) := (Below.refl _ _).alloc (Nat.le_refl _) _
  have hx : DiskX (wr.alloc (.cells #[.int .i64 (j : Int)] 3)) p M X st := h.disk.kept fun q hq => bx.block q (h.disk.lt q hq)
  refine step_28 hx hoff _ _ _ _ fun w1 h1 ht => ?_
  have hbi : (wr.alloc (.cells #[.int .i64 (j : Int)] 3)).heap[wr.heap.size]? = some (.cells #[.int .i64 (j : Int)] 3 (0, 0)) := heap_alloc_new wr _
  have ni : wr.heap.size ∉ p :: M :: footOf X := fun hm => by have := h.disk.lt _ hm; omega
  have k1 := (ht.block _ (by simp; have := heap_lt h.hbf; omega) h.nbf).trans ((bx.block _ (heap_lt h.hbf)).trans h.hbf)
  have k2 := (ht.block _ (by simp; have := heap_lt h.hbb; omega) h.nbb).trans ((bx.block _ (heap_lt h.hbb)).trans h.hbb)
  have k3 := (ht.block _ (by simp) ni).trans hbi
  have hr := h.room
  rw [← h.at_] at k1
  refine (app_clo h1 h.mem (show usedL st.L < st.room by omega) hj hb k1 k2 k3).mono fun e w' ⟨he, X', c', q1, q2, q3, q4, q5⟩ => ⟨he, ?_⟩
  have q6 : TurnedX wr p M (stepS st) c.f c.x (p :: M :: footOf X) nm (addC b[j]) w' := ⟨X', c', by rw [← h.nm_]; exact q1, q2, q3, q4, ((Turns.of_below bx).trans ht).trans q5⟩
  exact h.next hj hoff q6
theorem off_app {w : World} {S : List Nat} {p M : Nat} {s0 : Ds} {nm : Nm} {f bf bb : Nat} {b : ByteArray} {st : Ds} {X : List Rc} {c : Rc} {j : Nat} {wr : World} (h : LoopX w S p M s0 nm f bf bb b st X c j wr) (hj : j < b.size) (hoff : isOff st = true) (v : Value) :
    Calls Try.prog 40 #[.pointer (some ⟨p, 0, none⟩), v] (wr.alloc (.cells #[.int .i64 (j : Int)] 3)) fun e w' => e = .returned (.int .u16 21) ∧ Ends w p S (bytesS s0 nm b.data.toList) (.returned (.int .u16 21)) w' := by
  have bx : Below wr.heap.size wr (wr.alloc (.cells #[.int .i64 (j : Int)] 3)) := (Below.refl _ _).alloc (Nat.le_refl _) _
  have hx : DiskX (wr.alloc (.cells #[.int .i64 (j : Int)] 3)) p M X st := h.disk.kept fun q hq => bx.block q (h.disk.lt q hq)
  exact (step_off hx hoff v).mono fun e w' ⟨he, h1, h2⟩ => ⟨he, h.off hj hoff bx h1 h2⟩
theorem new_prep {w : World} {p M : Nat} {X : List Rc} {s : Ds} (hx : DiskX w p M X s) (nm b : ByteArray) (hf : findF s.L nm.data.toList = none) (h4 : s.L.length < 4) (hs : nm.size ≤ 140737488351232) (hU : usedL s.L + b.size ≤ s.room) {w1 : World}
    (hB : Below (w.heap.size + 2) ((w.alloc (.cells #[.string b] 9)).alloc (.cells #[.pointer none] 67)) w1) :
    ∃ W5, (Instr.mapUpdate 57 (.map (some M)) (.string nm) (.pointer (some ⟨w1.heap.size, 0, none⟩))).run Try.prog ((w1.alloc (.cells #[.slice none 0 0, .int .i64 0] 69)).setCell ⟨w.heap.size + 1, 0, none⟩ (.pointer (some ⟨w1.heap.size, 0, none⟩))).drew = .ok () W5 ∧
      ∃ st X' c', LoopX w (p :: M :: footOf X) p M (withF s nm.data.toList) nm.data.toList w1.heap.size (w.heap.size + 1) w.heap.size b st X' c' 0 W5 := by
  obtain ⟨q1, q2, q3, q4⟩ := box2 hx b (.pointer none)
  have hsz : w.heap.size + 2 ≤ w1.heap.size := by have := hB.size; simp at this; omega
  obtain ⟨W4, hW4⟩ : ∃ W4, ((w1.alloc (.cells #[.slice none 0 0, .int .i64 0] 69)).setCell ⟨w.heap.size + 1, 0, none⟩ (.pointer (some ⟨w1.heap.size, 0, none⟩))).drew = W4 := ⟨_, rfl⟩
  have hn4 : W4.heap.size = w1.heap.size + 1 := by rw [← hW4]; show ((w1.alloc _).setCell _ _).heap.size = _; simp [World.setCell]
  have h4h : ∀ k, k ≠ w.heap.size + 1 → k < w1.heap.size → W4.heap[k]? = w1.heap[k]? := fun k hk hl => by
    rw [← hW4]
    show ((w1.alloc _).setCell _ _).heap[k]? = _
    rw [heap_set_other _ hk, Below.heap_alloc _ _ _ hl]
  have hbf1 : w1.heap[w.heap.size + 1]? = some (.cells #[.pointer none] 67 (0, 0)) := (hB.block _ (by omega)).trans q4
  have hbf4 : W4.heap[w.heap.size + 1]? = some (.cells #[.pointer (some ⟨w1.heap.size, 0, none⟩)] 67 (0, 0)) := by
    rw [← hW4]
    show ((w1.alloc _).setCell _ _).heap[w.heap.size + 1]? = _
    rw [heap_set ((Below.heap_alloc w1 _ _ (by omega)).trans hbf1)]
    rfl
  have hnf4 : W4.heap[w1.heap.size]? = some (.cells #[.slice none 0 0, .int .i64 0] 69 (0, 0)) := by
    rw [← hW4]
    show ((w1.alloc _).setCell _ _).heap[w1.heap.size]? = _
    rw [heap_set_other _ (by omega)]
    exact heap_alloc_new w1 _
  have hold : ∀ k, k < w.heap.size → W4.heap[k]? = w.heap[k]? := fun k hk => (h4h k (by omega) (by omega)).trans ((hB.block k (by omega)).trans (q1.block k hk))
  have hx4 : DiskX W4 p M X s := hx.kept fun k hk => hold k (hx.lt k hk)
  have hnl : nm.data.toList.length = nm.size := Array.length_toList
  have hX4 : X.length ≤ 4 := by have := hx.perm.length_eq; rw [List.length_map] at this; omega
  obtain ⟨W5, hrun, hown, hgr⟩ := hx4.map.update keyed9 Try.underlying57 (by unfold maxLen; omega) (key_of nm (by unfold maxLen; omega)) (val := .pointer (some ⟨w1.heap.size, 0, none⟩)) (d := .lit (.int .i64 (w1.heap.size : Int))) (ps := []) rfl
  refine ⟨W5, by rw [hW4]; exact hrun, ?_⟩
  have hk5 : ∀ k, k < W4.heap.size → k ≠ M → W5.heap[k]? = W4.heap[k]? := fun k hk hne => hgr.block k hk (fun e => hne (Option.some.inj e))
  have hMlt := hx.map.lt
  have hd := new_file hx (w' := W5) hf h4 (by omega) (nf := w1.heap.size) (by omega) ((hk5 _ (by omega) (by omega)).trans hnf4) hown (fun k hk hne => (hk5 k (by omega) hne).trans (hold k hk))
  have ew : withF s nm.data.toList = { s with L := putF s.L nm.data.toList } := by unfold withF; rw [hf]; rfl
  have hfoot : footOf (X ++ [⟨w1.heap.size, none, ⟨nm.data.toList, [], 0⟩⟩]) = footOf X ++ [w1.heap.size] := by rw [footOf_append]; rfl
  have hnot : ∀ k, w.heap.size ≤ k → k < w1.heap.size → k ∉ p :: M :: footOf (X ++ [⟨w1.heap.size, none, ⟨nm.data.toList, [], 0⟩⟩]) := fun k h1 h2 hm => by
    rw [hfoot] at hm
    rcases List.mem_append.1 (show k ∈ (p :: M :: footOf X) ++ [w1.heap.size] from hm) with h | h
    · have := hx.lt k h; omega
    · have := List.mem_singleton.1 h; omega
  refine ⟨_, _, ⟨w1.heap.size, none, ⟨nm.data.toList, [], 0⟩⟩, hd, by simp, rfl, rfl, ?_, by rw [ew]; rfl, ?_, (hk5 _ (by omega) (by omega)).trans hbf4, (hk5 _ (by omega) (by omega)).trans ((h4h _ (by omega) (by omega)).trans ((hB.block _ (by omega)).trans q3)), hnot _ (by omega) (by omega), hnot _ (by omega) (by omega)⟩
  · show usedL (putF s.L nm.data.toList) + (b.size - 0) ≤ s.room
    rw [usedL_perm (put_perm _ _), usedL_cons]
    simp only [List.length_nil]
    omega
  · refine ⟨?_, ?_, ?_, ?_, fun k hk hne => ?_, fun k hk => ?_⟩
    · rw [hgr.os, ← hW4]; exact (hB.os.trans q1.os)
    · rw [hgr.tape, ← hW4]; exact (hB.tape.trans q1.tape)
    · rw [hgr.output, ← hW4]; exact (hB.output.trans q1.output)
    · have := hgr.size; omega
    · rw [hk5 k (by omega) (fun e => hne (by rw [e]; simp)), hold k hk]
    · rw [hfoot] at hk
      rcases List.mem_append.1 (show k ∈ (p :: M :: footOf X) ++ [w1.heap.size] from hk) with h | h
      · exact .inl h
      · have := List.mem_singleton.1 h
        right
        omega
set_option maxRecDepth 100000 in
set_option maxHeartbeats 1000000 in
theorem append_main {w : World} {p : Nat} {s : Ds} {S : List Nat} (h : DiskAt w p s S) (nm b : ByteArray) (hs : nm.size ≤ 140737488351232) (hd : s.dead = false) (ha : ¬ (nm.data.toList = [] ∨ ((findF s.L nm.data.toList).isNone ∧ 4 ≤ s.L.length))) (hr : ¬ s.room < usedL s.L + b.data.toList.length) :
    Calls Try.prog 16 #[.pointer (some ⟨p, 0, none⟩), .string nm, .string b] w (Ends w p S (appendS s nm.data.toList b.data.toList)) := by
  have hmf : ∀ (fn : Fn) (first cap : Array Value) (w : World), (Instr.makeFunc fn first cap).run Try.prog w = .ok (.func fn first cap) w := fun _ _ _ _ => rfl
  have e : appendS s nm.data.toList b.data.toList = bytesS (withF s nm.data.toList) nm.data.toList b.data.toList := by unfold appendS; rw [if_neg (by rw [hd]; simp), if_neg ha, if_neg hr]
  rw [e]
  have hbl : b.data.toList.length = b.size := Array.length_toList
  have hnl2 : nm.data.toList.length = nm.size := Array.length_toList
  have hs2 : nm.size ≤ maxLen := by unfold maxLen; omega
  rw [hbl] at hr
  have bx : Below w.heap.size w (w.alloc (.cells #[.string b] 9)) := (Below.refl _ _).alloc (Nat.le_refl _) _
  have ho := dead_any (h.below bx)
  rw [hd] at ho
  have HO := Lib.hid ho
  have HU := Lib.hid (fun w1 (hb : Below w.heap.size w w1) => used_any (h.below hb))
  have hroom := h.wf.room
  have hused := Nat.le_trans h.wf.used h.wf.room
  obtain ⟨M, X, rfl, hx⟩ := h
  have hx1 : DiskX (w.alloc (.cells #[.string b] 9)) p M X s := hx.kept fun q hq => bx.block q (hx.lt q hq)
  obtain ⟨c0, c1, c2, c3, c4⟩ := cells5 hx1.blk
  have hnil : nm.data.toList ≠ [] := fun e => ha (.inl e)
  have hnl : nm.toList ≠ [] := fun e => hnil (toList_nil.2 e)
  have hne : nm.toList.isEmpty = false := by simpa using hnl
  obtain ⟨room, hrm⟩ : ∃ r, s.room = r := ⟨_, rfl⟩
  obtain ⟨U, hU⟩ : ∃ r, usedL s.L = r := ⟨_, rfl⟩
  rw [hrm] at hr hroom
  rw [hU] at hr hused HU
  have hb : b.size ≤ 4194304 := by omega
  have hbI : (b.size : Int) ≤ 4194304 := by omega
  have hwr : IntKind.i64.wrap ((U : Int) + (b.size : Int)) = (U : Int) + (b.size : Int) := IntWalk.i64_in _ (by omega)
  have hrr : (U : Int) + (b.size : Int) ≤ (room : Int) := by omega
  have plt : p < w.heap.size := heap_lt hx.blk
  have hrU : usedL s.L + b.size ≤ s.room := by omega
  have nfoot : w.heap.size ∉ p :: M :: footOf X ∧ w.heap.size + 1 ∉ p :: M :: footOf X := ⟨fun hm => by have := hx.lt _ hm; omega, fun hm => by have := hx.lt _ hm; omega⟩
  have HNF := Lib.hid nfoot; have HRU := Lib.hid hrU; have HB := Lib.hid hb
  clear c0 c2 c3 c4
  cases hf : findF s.L nm.data.toList with
  | none =>
    have hl := hx1.look_none nm hf hs2 _ rfl
    have h4 : s.L.length < 4 := by
      rw [hf] at ha
      have : ¬ 4 ≤ s.L.length := fun h => ha (.inr ⟨rfl, h⟩)
      omega
    obtain ⟨q1, q2, q3, q4⟩ := box2 hx b (.pointer none)
    have hlen := fun ty => q2.map.len Try.underlying57 ty
    rw [q2.size] at hlen
    obtain ⟨N, hN⟩ : ∃ N, s.L.length = N := ⟨_, rfl⟩
    have H4 := Lib.hid h4
    rw [hN] at h4 hlen
    have h4' : (N : Int) < 4 := by omega
    obtain ⟨d0, d1, d2, d3, d4⟩ := cells5 q2.blk
    have b0 := cells1 q3
    have f0 := cells1 q4
    rw [hrm] at d0
    have HQ1 := Lib.hid q1; have HX := Lib.hid hx; have HF := Lib.hid hf; have H3 := Lib.hid q3; have HQ4 := Lib.hid q4; have HS := Lib.hid hs
    have HWF : Hid (withF s nm.data.toList = { s with L := putF s.L nm.data.toList }) := by
      show withF s nm.data.toList = _
      unfold withF
      rw [hf]
      rfl
    have HPREP := Lib.hid (fun w1 h1 => new_prep hx nm b hf (by omega) hs hrU (w1 := w1) h1)
    clear ho hd bx e hnil ha hx hx1 hN hs hs2 h4 q1 q2 q3 q4 d2 d3 d4 hf hU hrm hr hbl hroom hused hb hnl2 nfoot hrU
    go_enter Try.func16, Try.ntmps16
    go_wp2_with fail
    refine HO.out.mono ?_
    rintro e w1 ⟨rfl, rfl⟩
    go_wp2_with fail
    go_region_held3 (fun w' => w'.cell? ⟨p, 0, none⟩ = some (.int .i64 (room : Int)) ∧ w'.cell? ⟨w.heap.size, 0, none⟩ = some (.string b) ∧ w'.cell? ⟨w.heap.size + 1, 0, none⟩ = some (.pointer none))
      (first
        | (refine ⟨?_, ?_, ?_⟩ <;> assumption)
        | go_keep)
      ((go_at_call 39; refine (HU.out _ (HQ1.out.trans (Below.refl _ _).drew)).mono ?_; rintro e w1 ⟨rfl, hb1⟩; have g0 := (World.cell?_of_block (a := ⟨p, 0, none⟩) (hb1.block p (by simp <;> omega))).trans d0; have g1 := (World.cell?_of_block (a := ⟨w.heap.size, 0, none⟩) (hb1.block w.heap.size (by simp <;> omega))).trans b0; have gB := (hb1.block (w.heap.size + 1) (by simp <;> omega)).trans HQ4.out; have g2 := cells1 gB; have g3 := soft0 gB; have gP := (World.cell?_of_block (a := ⟨p, 1, none⟩) (hb1.block p (by simp; omega))).trans d1; have hlt1 : w.heap.size + 1 < w1.heap.size := heap_lt gB; have HB2 := Lib.hid ((Below.refl (w.heap.size + 2) _).drew.trans (hb1.mono (by simp <;> omega))); clear hb1 gB))
    obtain ⟨W5, hrun, hloop⟩ := HPREP.out w1 HB2.out
    obtain ⟨st0, X0, c00, hl0⟩ := hloop
    have gW := cells1 hl0.hbb
    have HLOOP := Lib.hid hl0; clear hl0
    have gA : ∀ o, (w1.alloc o).cell? ⟨w.heap.size + 1, 0, none⟩ = some (.pointer none) := fun o => (World.cell?_of_block (a := ⟨w.heap.size + 1, 0, none⟩) (Below.heap_alloc w1 o _ hlt1)).trans g2
    have gF : ∀ o, (w1.alloc o).frozen? ⟨w.heap.size + 1, 0, none⟩ = false := fun o => (World.frozen?_of_block (a := ⟨w.heap.size + 1, 0, none⟩) (Below.heap_alloc w1 o _ hlt1)).trans (g3 0)
    have pne : p ≠ w.heap.size + 1 := by omega
    have plt1 : p < w1.heap.size := by omega
    have gC : ∀ o v, ((w1.alloc o).setCell ⟨w.heap.size + 1, 0, none⟩ v).cell? ⟨p, 1, none⟩ = some (.map (some M)) := fun o v => (World.cell?_of_block (a := ⟨p, 1, none⟩) ((heap_set_other v pne).trans (Below.heap_alloc w1 o p plt1))).trans gP
    clear hlt1 pne plt1
    go_wp2_with fail
    go_region
    go_wp2_with fail
    go_loopw [57] (fun v wr => ∃ j st X' c', j ≤ b.size ∧ v = .int .i64 ((j : Nat) : Int) ∧ LoopX w (p :: M :: footOf X) p M (withF s nm.data.toList) nm.data.toList w1.heap.size (w.heap.size + 1) w.heap.size b st X' c' j wr) (fun v _ => b.size - (intOf v).toNat)
    case atStart => exact ⟨0, st0, X0, c00, Nat.zero_le _, rfl, HLOOP.out⟩
    case round =>
      obtain ⟨j, st, X', c', hj, rfl, hlx⟩ := hrel
      have HLX := Lib.hid hlx
      clear hlx
      clear g0 g1 g2 g3 gP gA gF gC hrun gW
      by_cases hlt : j < b.size
      · have hji : (j : Int) < (b.size : Int) := by omega
        have hj0 : (0 : Int) ≤ (j : Int) := by omega
        cases hoff : isOff st with
        | true =>
          have hst := off_app HLX.out hlt hoff (.func (.func 41) #[] #[.pointer (some ⟨w.heap.size + 1, 0, none⟩), .pointer (some ⟨w.heap.size, 0, none⟩), .pointer (some ⟨wr.heap.size, 0, none⟩)])
          have HSTP := Lib.hid hst
          clear hst hoff
          go_wp2_with fail
          refine HSTP.out.mono ?_
          rintro e w5 ⟨rfl, hend⟩
          have HEND := Lib.hid hend; clear hend
          go_wp2_with fail
          go_ret
          exact HEND.out
        | false =>
          have hst := step_app HLX.out hlt HB.out hoff
          have HSTP := Lib.hid hst
          clear hst hoff
          go_wp2_with fail
          refine HSTP.out.mono ?_
          rintro e w5 ⟨rfl, hnext⟩
          have HN := Lib.hid hnext; clear hnext
          go_wp2_with fail
          go_roundw
          case rel =>
            obtain ⟨st', X2, c2, hn⟩ := HN.out
            exact ⟨j + 1, st', X2, c2, hlt, by first | rfl | (congr 1; omega), hn⟩
          case measure =>
            show b.size - ((j : Int) + 1).toNat < b.size - (j : Int).toNat
            omega
      · have hge : (b.size : Int) ≤ (j : Int) := by omega
        have HEND := Lib.hid (HLX.out.fin (by omega))
        go_wp2_with fail
        go_ret
        exact HEND.out
  | some f =>
    obtain ⟨c, hc, e1, e2⟩ := hx.find hf
    have hl := hx1.look_some hc nm e2.symm hs2 _ rfl
    obtain ⟨q1, q2, q3, q4⟩ := box2 hx b (.pointer (some ⟨c.f, 0, none⟩))
    have hstart : ∀ w1, Below (w.heap.size + 2) ((w.alloc (.cells #[.string b] 9)).alloc (.cells #[.pointer (some ⟨c.f, 0, none⟩)] 67)) w1 → LoopX w (p :: M :: footOf X) p M (withF s nm.data.toList) nm.data.toList c.f (w.heap.size + 1) w.heap.size b s X c 0 w1 := fun w1 h1 => by
      have ew : withF s nm.data.toList = s := by unfold withF; rw [hf]; rfl
      refine ⟨q2.kept fun k hk => h1.block k (by have := hx.lt k hk; omega), hc, rfl, e2, by omega, by rw [ew]; rfl, Turns.of_below (q1.trans (h1.mono (by omega))), (h1.block _ (by omega)).trans q4, (h1.block _ (by omega)).trans q3, nfoot.2, nfoot.1⟩
    have HST := Lib.hid hstart
    obtain ⟨g, hg⟩ : ∃ g, c.f = g := ⟨_, rfl⟩
    rw [hg] at hl q1 q2 q3 q4 HST
    obtain ⟨d0, d1, d2, d3, d4⟩ := cells5 q2.blk
    have b0 := cells1 q3
    have f0 := cells1 q4
    rw [hrm] at d0
    have HQ1 := Lib.hid q1; have HQ4 := Lib.hid q4
    clear ho hd bx e hnil ha hx1 hs hs2 q1 q2 q3 q4 d2 d3 d4 hf hU hrm hr hbl hroom hused hb e1 e2 hg hnl2 nfoot hrU hstart hx hc
    go_enter Try.func16, Try.ntmps16
    go_wp2_with fail
    refine HO.out.mono ?_
    rintro e w1 ⟨rfl, rfl⟩
    go_wp2_with fail
    go_region_held3 (fun w' => w'.cell? ⟨p, 0, none⟩ = some (.int .i64 (room : Int)) ∧ w'.cell? ⟨w.heap.size, 0, none⟩ = some (.string b) ∧ w'.cell? ⟨w.heap.size + 1, 0, none⟩ = some (.pointer (some ⟨g, 0, none⟩)))
      (first
        | (refine ⟨?_, ?_, ?_⟩ <;> assumption)
        | go_keep)
      ((go_at_call 39; refine (HU.out _ (HQ1.out.trans (Below.refl _ _).drew)).mono ?_; rintro e w1 ⟨rfl, hb1⟩; have g0 := (World.cell?_of_block (a := ⟨p, 0, none⟩) (hb1.block p (by simp <;> omega))).trans d0; have g1 := (World.cell?_of_block (a := ⟨w.heap.size, 0, none⟩) (hb1.block w.heap.size (by simp <;> omega))).trans b0; have gB := (hb1.block (w.heap.size + 1) (by simp <;> omega)).trans HQ4.out; have g2 := cells1 gB; have g3 := soft0 gB; have gP := (World.cell?_of_block (a := ⟨p, 1, none⟩) (hb1.block p (by simp; omega))).trans d1; have hlt1 : w.heap.size + 1 < w1.heap.size := heap_lt gB; have HB2 := Lib.hid ((Below.refl (w.heap.size + 2) _).drew.trans (hb1.mono (by simp <;> omega))); clear hb1 gB))
    go_wp2_with fail
    go_loopw [57] (fun v wr => ∃ j st X' c', j ≤ b.size ∧ v = .int .i64 ((j : Nat) : Int) ∧ LoopX w (p :: M :: footOf X) p M (withF s nm.data.toList) nm.data.toList g (w.heap.size + 1) w.heap.size b st X' c' j wr) (fun v _ => b.size - (intOf v).toNat)
    case atStart => exact ⟨0, _, _, _, Nat.zero_le _, rfl, HST.out _ HB2.out⟩
    case round =>
      obtain ⟨j, st, X', c', hj, rfl, hlx⟩ := hrel
      have HLX := Lib.hid hlx
      clear hlx
      clear g0 g1 g2 g3 gP
      by_cases hlt : j < b.size
      · have hji : (j : Int) < (b.size : Int) := by omega
        have hj0 : (0 : Int) ≤ (j : Int) := by omega
        cases hoff : isOff st with
        | true =>
          have hst := off_app HLX.out hlt hoff (.func (.func 41) #[] #[.pointer (some ⟨w.heap.size + 1, 0, none⟩), .pointer (some ⟨w.heap.size, 0, none⟩), .pointer (some ⟨wr.heap.size, 0, none⟩)])
          have HSTP := Lib.hid hst
          clear hst hoff
          go_wp2_with fail
          refine HSTP.out.mono ?_
          rintro e w5 ⟨rfl, hend⟩
          have HEND := Lib.hid hend; clear hend
          go_wp2_with fail
          go_ret
          exact HEND.out
        | false =>
          have hst := step_app HLX.out hlt HB.out hoff
          have HSTP := Lib.hid hst
          clear hst hoff
          go_wp2_with fail
          refine HSTP.out.mono ?_
          rintro e w5 ⟨rfl, hnext⟩
          have HN := Lib.hid hnext; clear hnext
          go_wp2_with fail
          go_roundw
          case rel =>
            obtain ⟨st', X2, c2, hn⟩ := HN.out
            exact ⟨j + 1, st', X2, c2, hlt, by first | rfl | (congr 1; omega), hn⟩
          case measure =>
            show b.size - ((j : Int) + 1).toNat < b.size - (j : Int).toNat
            omega
      · have hge : (b.size : Int) ≤ (j : Int) := by omega
        have HEND := Lib.hid (HLX.out.fin (by omega))
        go_wp2_with fail
        go_ret
        exact HEND.out
/-- Append. -/
theorem append_any {w : World} {p : Nat} {s : Ds} {S : List Nat} (h : DiskAt w p s S) (nm b : ByteArray) (hs : nm.size ≤ 140737488351232) (hb : b.size ≤ 140737488351232) :
    Calls Try.prog 16 #[.pointer (some ⟨p, 0, none⟩), .string nm, .string b] w (Ends w p S (appendS s nm.data.toList b.data.toList)) := by
  have hs2 : nm.size ≤ maxLen := by unfold maxLen; omega
  cases hd : s.dead with
  | true => exact append_dead h nm b hd
  | false =>
    by_cases ha : nm.data.toList = [] ∨ ((findF s.L nm.data.toList).isNone ∧ 4 ≤ s.L.length)
    · exact append_arg h nm b hs2 hd ha
    · by_cases hr : s.room < usedL s.L + b.data.toList.length
      · exact append_full h nm b hs2 hb hd ha hr
      · exact append_main h nm b hs hd ha hr
theorem append_nil (nm b : ByteArray) (w : World) : Calls Try.prog 16 #[.pointer none, .string nm, .string b] w fun e w' => e = .returned (.int .u16 21) ∧ Below w.heap.size w w' := by
  have ho := dead_nil (w.alloc (.cells #[.string b] 9))
  have HO := Lib.hid ho
  have HB := Lib.hid ((Below.refl w.heap.size w).alloc (Nat.le_refl _) (.cells #[.string b] 9))
  clear ho
  go_enter Try.func16, Try.ntmps16
  go_wp2_with fail
  refine HO.out.mono ?_
  rintro e w1 ⟨rfl, rfl⟩
  go_wp2_with fail
  go_ret
  exact ⟨rfl, HB.out⟩
end Go.Proofs.Ytcbfghncdclonaa

/-
  Read, Lasting, at every disk and at none.
-/
namespace Go.Proofs.Ytcbfghncdclonaa
open Go.RowKit Go.Maps
set_option linter.unusedSimpArgs false
set_option linter.unusedVariables false
/-- A row of a file, or a front of it, turned to a text. -/
theorem conv_b {w : World} {v : Value} {bs : List UInt8} {r : Option Nat} (h : OwnB w v bs r) (k : Nat) (hk : k ≤ bs.length) (w' : World) (hw : w'.heap = w.heap) :
    ∃ ao cap, v = .slice ao bs.length cap ∧ bs.length ≤ cap ∧ ((ao = none ∧ bs.length = 0 ∧ cap = 0) ∨ ∃ g, ao = some ⟨g, 0, none⟩) ∧ (convert 38 9 (.slice ao k cap)).run Try.prog w' = .ok (.string (bsL (bs.take k))) w' := by
  have hl : (bs.take k).length = k := by rw [List.length_take]; omega
  rcases h with ⟨rfl, rfl, rfl⟩ | ⟨g, cap, cur, rfl, rfl, hg, q1, q2, q3, q4⟩
  · have hk0 : k = 0 := by simpa using hk
    subst hk0
    exact ⟨none, 0, rfl, Nat.le_refl _, .inl ⟨rfl, rfl, rfl⟩, by kernel_rfl⟩
  · refine ⟨_, cap, rfl, q1, .inr ⟨g, rfl⟩, ?_⟩
    have hs : (bsL (bs.take k)).size = k := by rw [bsL_size, hl]
    have hc := Lib.run_convert_whole (P := Try.prog) w' 38 5 9 Try.underlying38 Try.underlying5 Try.underlying9 g 0 (bsL (bs.take k)) (by
      intro i hi
      rw [hs] at hi
      have e1 : w'.cell? ⟨g, 0 + i, none⟩ = cur[i]? := by rw [Nat.zero_add]; exact cell_of_row w' g i cur 5 (0, 0) (by rw [hw]; exact hg)
      rw [e1]
      have e2 : cur.toList[i]? = (u8c bs)[i]? := by
        rw [← q4, List.getElem?_take, if_pos (by omega)]
      rw [Array.getElem?_toList] at e2
      rw [e2]
      unfold u8c
      rw [List.getElem?_map, List.getElem?_eq_getElem (by omega)]
      have e3 : (bsL (bs.take k))[i]'(by rw [hs]; exact hi) = bs[i]'(by omega) := by
        have : (bsL (bs.take k))[i]'(by rw [hs]; exact hi) = (bs.take k)[i]'(by rw [hl]; exact hi) := rfl
        rw [this, List.getElem_take]
      rw [e3]
      rfl) cap
    rw [hs] at hc
    exact hc
set_option maxRecDepth 100000 in
theorem read_any {w : World} {p : Nat} {s : Ds} {S : List Nat} (h : DiskAt w p s S) (nm : ByteArray) (hs : nm.size ≤ maxLen) :
    Calls Try.prog 18 #[.pointer (some ⟨p, 0, none⟩), .string nm] w fun e w' => e = .returned (.string (bsL (readS s nm.data.toList))) ∧ w = w' := by
  unfold readS
  cases hd : s.dead with
  | true =>
    have HO := Lib.hid (of_dead h hd nm)
    clear hd h
    go_enter Try.func18, Try.ntmps18
    go_wp2_with fail
    refine HO.out.mono ?_
    rintro e w1 ⟨rfl, rfl⟩
    go_wp2_with fail
    go_ret
    exact ⟨rfl, rfl⟩
  | false =>
    cases hf : findF s.L nm.data.toList with
    | none =>
      have HO := Lib.hid (of_none h hd nm hs hf)
      clear hd h hf
      go_enter Try.func18, Try.ntmps18
      go_wp2_with fail
      refine HO.out.mono ?_
      rintro e w1 ⟨rfl, rfl⟩
      go_wp2_with fail
      go_ret
      exact ⟨rfl, rfl⟩
    | some f =>
      obtain ⟨M, X, rfl, hx⟩ := h
      obtain ⟨c, hc, e1, e2⟩ := hx.find hf
      have HO := Lib.hid (of_some hx hd nm hs hc e2.symm)
      obtain ⟨v, hv, ho⟩ := hx.file c hc
      obtain ⟨ao, cap, rfl, hcap, _, hcv⟩ := conv_b ho c.x.b.length (Nat.le_refl _) w rfl
      rw [List.take_length] at hcv
      obtain ⟨c0, c1⟩ := cells2 hv
      rw [e1] at hcv c0
      obtain ⟨g, hg⟩ : ∃ g, c.f = g := ⟨_, rfl⟩
      rw [hg] at c0 HO
      obtain ⟨Z, hZ⟩ : ∃ Z, f.b = Z := ⟨_, rfl⟩
      rw [hZ] at hcv c0
      clear hd hf hx hc e1 e2 hv ho c1 hg
      show Calls Try.prog 18 #[.pointer (some ⟨p, 0, none⟩), .string nm] w fun e w' => e = .returned (.string (bsL f.b)) ∧ w = w'
      rw [hZ]
      clear hZ
      go_enter Try.func18, Try.ntmps18
      go_wp2_with fail
      refine HO.out.mono ?_
      rintro e w1 ⟨rfl, rfl⟩
      go_wp2_with fail
      go_ret
      exact ⟨rfl, rfl⟩
set_option maxRecDepth 100000 in
theorem read_nil (nm : ByteArray) (w : World) : Calls Try.prog 18 #[.pointer none, .string nm] w fun e w' => e = .returned (.string ⟨#[]⟩) ∧ w = w' := by
  have ho : Calls Try.prog 44 #[.pointer none, .string nm] w fun e w' => e = .returned (.tuple #[.pointer none, .int .u16 21]) ∧ w = w' := by
    have HD := Lib.hid (dead_nil w)
    go_enter Try.func44, Try.ntmps44
    go_wp2_with fail
    refine HD.out.mono ?_
    rintro e w1 ⟨rfl, rfl⟩
    go_wp2_with fail
    go_ret2
    exact ⟨rfl, rfl⟩
  have HO := Lib.hid ho
  clear ho
  go_enter Try.func18, Try.ntmps18
  go_wp2_with fail
  refine HO.out.mono ?_
  rintro e w1 ⟨rfl, rfl⟩
  go_wp2_with fail
  go_ret
  exact ⟨rfl, rfl⟩
set_option maxRecDepth 100000 in
theorem last_any {w : World} {p : Nat} {s : Ds} {S : List Nat} (h : DiskAt w p s S) (nm : ByteArray) (hs : nm.size ≤ maxLen) :
    Calls Try.prog 51 #[.pointer (some ⟨p, 0, none⟩), .string nm] w fun e w' => e = .returned (.string (bsL (lastS s nm.data.toList))) ∧ Below w.heap.size w w' := by
  unfold lastS
  obtain ⟨M, X, rfl, hx⟩ := h
  obtain ⟨c0, c1, c2, c3, c4⟩ := cells5 hx.blk
  cases hf : findF s.L nm.data.toList with
  | none =>
    have hl := hx.look_none nm hf hs w rfl
    clear hx hf c0 c2 c3 c4
    go_enter Try.func51, Try.ntmps51
    go_wp2_with fail
    go_ret
    exact ⟨rfl, Below.refl _ _⟩
  | some f =>
    obtain ⟨c, hc, e1, e2⟩ := hx.find hf
    have hl := hx.look_some hc nm e2.symm hs w rfl
    obtain ⟨v, hv, ho⟩ := hx.file c hc
    have hin := hx.perm.mem_iff.1 (List.mem_map_of_mem hc)
    have hln := hx.wf.lasts _ hin
    have hlen := len_room hx.wf hin
    obtain ⟨ao, cap, rfl, hcap, hao, hcv⟩ := conv_b ho c.x.n hln w.drew rfl
    have hmax : cap ≤ maxLen := by
      obtain ⟨_, _, hq, _, hm⟩ := ho.form
      cases hq
      exact hm
    unfold maxLen at hmax
    obtain ⟨d0, d1⟩ := cells2 hv
    rw [e1] at hcv d0 d1 hln hlen hcap hao
    obtain ⟨g, hg⟩ : ∃ g, c.f = g := ⟨_, rfl⟩
    rw [hg] at d0 d1 hl
    obtain ⟨Z, hZ⟩ : ∃ Z, bsL (f.b.take f.n) = Z := ⟨_, rfl⟩
    obtain ⟨N, hN⟩ : ∃ N, f.b.length = N := ⟨_, rfl⟩
    obtain ⟨K, hK⟩ : ∃ K, f.n = K := ⟨_, rfl⟩
    rw [hZ] at hcv
    rw [hN] at d0 hln hlen hcap hao
    rw [hK] at d1 hln hcv
    show Calls Try.prog 51 #[.pointer (some ⟨p, 0, none⟩), .string nm] w fun e w' => e = .returned (.string (bsL (f.b.take f.n))) ∧ Below w.heap.size w w'
    rw [hZ]
    have hk0 : (0 : Int) ≤ (K : Int) := by omega
    have hk1 : (K : Int) ≤ (N : Int) := by omega
    have hk2 : (N : Int) ≤ (cap : Int) := by omega
    clear hf hx hc e1 e2 hv ho hg hZ hN hK c0 c2 c3 c4 hin
    rcases hao with ⟨rfl, rfl, rfl⟩ | ⟨q, rfl⟩
    · obtain rfl : K = 0 := by omega
      clear hk0 hk1 hk2 hln hlen hcap
      go_enter Try.func51, Try.ntmps51
      go_wp2_with fail
      go_region
      go_wp2_with fail
      go_ret
      exact ⟨rfl, (Below.refl _ _).drew⟩
    · go_enter Try.func51, Try.ntmps51
      go_wp2_with fail
      go_region
      go_wp2_with fail
      go_ret
      exact ⟨rfl, (Below.refl _ _).drew⟩
set_option maxRecDepth 100000 in
theorem last_nil (nm : ByteArray) (w : World) : Calls Try.prog 51 #[.pointer none, .string nm] w fun e w' => e = .returned (.string ⟨#[]⟩) ∧ Below w.heap.size w w' := by
  go_enter Try.func51, Try.ntmps51
  go_wp2_with fail
  go_ret
  exact ⟨rfl, Below.refl _ _⟩
set_option maxRecDepth 100000 in
theorem sync_nil (nm : ByteArray) (w : World) : Calls Try.prog 35 #[.pointer none, .string nm] w fun e w' => e = .returned (.int .u16 21) ∧ w = w' := by
  have ho : Calls Try.prog 44 #[.pointer none, .string nm] w fun e w' => e = .returned (.tuple #[.pointer none, .int .u16 21]) ∧ w = w' := by
    have HD := Lib.hid (dead_nil w)
    go_enter Try.func44, Try.ntmps44
    go_wp2_with fail
    refine HD.out.mono ?_
    rintro e w1 ⟨rfl, rfl⟩
    go_wp2_with fail
    go_ret2
    exact ⟨rfl, rfl⟩
  have HO := Lib.hid ho
  clear ho
  go_enter Try.func35, Try.ntmps35
  go_wp2_with fail
  refine HO.out.mono ?_
  rintro e w1 ⟨rfl, rfl⟩
  go_wp2_with fail
  go_ret
  exact ⟨rfl, rfl⟩
set_option maxRecDepth 100000 in
theorem cut_nil (nm : ByteArray) (k : Int) (w : World) : Calls Try.prog 33 #[.pointer none, .string nm, .int .i64 k] w fun e w' => e = .returned (.int .u16 21) ∧ Below w.heap.size w w' := by
  have ho : ∀ w, Calls Try.prog 44 #[.pointer none, .string nm] w fun e w' => e = .returned (.tuple #[.pointer none, .int .u16 21]) ∧ w = w' := by
    intro w
    have HD := Lib.hid (dead_nil w)
    go_enter Try.func44, Try.ntmps44
    go_wp2_with fail
    refine HD.out.mono ?_
    rintro e w1 ⟨rfl, rfl⟩
    go_wp2_with fail
    go_ret2
    exact ⟨rfl, rfl⟩
  have HO := Lib.hid ho
  have HB := Lib.hid (((Below.refl w.heap.size w).alloc (Nat.le_refl _) (.cells #[.int .i64 k] 3)).alloc (by simp) (.cells #[.pointer none] 67))
  clear ho
  go_enter Try.func33, Try.ntmps33
  go_wp2_with fail
  refine (HO.out _).mono ?_
  rintro e w1 ⟨rfl, rfl⟩
  go_wp2_with fail
  go_ret
  exact ⟨rfl, HB.out⟩
set_option maxRecDepth 100000 in
theorem used_nil (w : World) : Calls Try.prog 39 #[.pointer none] w fun e w' => e = .returned (.int .i64 0) ∧ w = w' := by
  go_enter Try.func39, Try.ntmps39
  go_wp2_with fail
  go_ret
  exact ⟨rfl, rfl⟩
set_option maxRecDepth 100000 in
theorem crash_nil (k : Int) (w : World) : Calls Try.prog 20 #[.pointer none, .int .i64 k] w fun e w' => e = .returned (.tuple #[]) ∧ w = w' := by
  go_enter Try.func20, Try.ntmps20
  go_wp2_with fail
  exact bodyPost_ret (v := .tuple #[]) (by simp [results, Try.results20, go_sem]) rfl ⟨rfl, rfl⟩
end Go.Proofs.Ytcbfghncdclonaa

/-
  A row of bytes in new memory: slices.Clone.
-/
namespace Go.Proofs.Ytcbfghncdclonaa
open Go.RowKit Go.Maps Go.Lib
set_option linter.unusedSimpArgs false
set_option linter.unusedVariables false
/-- A new row. -/
def Cloned (w : World) (bs : List UInt8) (e : Ending) (w' : World) : Prop := ∃ ao cap r, e = .returned (.slice ao bs.length cap) ∧ OwnB w' (.slice ao bs.length cap) bs r ∧ (r = none ∨ ∃ k, r = some k ∧ w.heap.size ≤ k) ∧ Below w.heap.size w w'
set_option maxRecDepth 100000 in
theorem clone_nil (w : World) : Calls Try.prog 46 #[.slice none 0 0] w (Cloned w []) := by
  have hnil := fun w : World => Lib.run_eql_slice_nil (P := Try.prog) w 38 5 none 0 0 0 0 Try.underlying38
  simp only [Option.isNone_none] at hnil
  go_enter Try.func46, Try.ntmps46
  go_wp2_with fail
  go_ret
  exact ⟨none, 0, none, rfl, .inl ⟨rfl, rfl, rfl⟩, .inl rfl, Below.refl _ _⟩
set_option maxRecDepth 100000 in
theorem clone_some {w : World} {g cap : Nat} {cur : Array Value} {bs : List UInt8} (hg : w.heap[g]? = some (.cells cur 5 (0, 0))) (hl : 0 < bs.length) (hmax : bs.length ≤ 100000000) (ht : cur.toList.take bs.length = u8c bs) :
    Calls Try.prog 46 #[.slice (some ⟨g, 0, none⟩) bs.length cap] w (Cloned w bs) := by
  obtain ⟨i, hi, hz, hs, hby⟩ := info_parts info5
  have hcell : ∀ j u, (u8c bs)[j]? = some u → w.cell? ((⟨g, 0, none⟩ : Addr).add j) = some u := fun j u hj => by
    have hadd : (⟨g, 0, none⟩ : Addr).add j = ⟨g, j, none⟩ := by unfold Addr.add; split <;> simp_all
    rw [hadd, cell_of_row w g j cur 5 (0, 0) hg]
    rw [← ht, List.getElem?_take] at hj
    split at hj
    · simpa using hj
    · cases hj
  have h1 : ∀ u ∈ u8c bs, u.oneCell' = true := by
    intro u hu
    obtain ⟨c, _, rfl⟩ := List.mem_map.1 hu
    rfl
  have HC := Lib.hid hcell; have H1 := Lib.hid h1; have HL := Lib.hid hl
  have hglt := heap_lt hg
  clear hcell h1 ht hg
  have hnil := fun w : World => Lib.run_eql_slice_nil (P := Try.prog) w 38 5 (some ⟨g, 0, none⟩) bs.length cap 0 0 Try.underlying38
  simp only [Option.isNone_some] at hnil
  go_enter Try.func46, Try.ntmps46
  go_wp2_with (at_builtin; refine wpList_append_grows _ rfl _ _ 38 rfl 5 i (.int .u8 0) 1 1 Try.underlying38 hi hz hs hby rfl (by decide) (some ⟨w.heap.size, 0, none⟩) 0 0 [] rfl (fun h => by cases h) rfl (fun b _ j u h => by simp at h) ⟨g, 0, none⟩ bs.length cap (u8c bs) rfl (by rw [u8c_length]; omega) (fun j u hj => (World.cell?_of_block (Below.heap_alloc _ _ _ (by simpa [Addr.add_lit] using hglt))).trans (HC.out j u hj)) H1.out (by simpa using HL.out) (by unfold maxLen; omega) (by omega) ?_; intro v' w1 ho hgr)
  rw [Nat.zero_add, List.nil_append] at ho
  obtain ⟨q, hob, hbq, _⟩ := OwnB.of_owns ho hl
  obtain ⟨ao, cp, rfl, _, _⟩ := hob.form
  have hq : w.heap.size ≤ q := by have : (w.alloc (Obj.cells #[] 5)).heap.size = w.heap.size + 1 := World.size_alloc _ _; omega
  have HH : Hid (Cloned w bs (.returned (.slice ao bs.length cp)) w1) := ⟨ao, cp, some q, rfl, hob, .inr ⟨q, rfl, hq⟩, ((Below.refl _ _).alloc (Nat.le_refl _) _).grown hgr (by simp) (fun k h => by cases h)⟩
  clear ho hgr hob
  go_ret
  exact HH.out
/-- slices.Clone of a file's row, or of a front of it. -/
theorem clone_any {w : World} {v : Value} {bs : List UInt8} {r : Option Nat} (h : OwnB w v bs r) (k : Nat) (hk : k ≤ bs.length) (hmax : bs.length ≤ 100000000) : ∃ ao cap, v = .slice ao bs.length cap ∧ ((ao = none ∧ bs.length = 0 ∧ cap = 0) ∨ ∃ g, ao = some ⟨g, 0, none⟩) ∧ bs.length ≤ cap ∧
    ∀ w', (∀ g, r = some g → w'.heap[g]? = w.heap[g]?) → Calls Try.prog 46 #[.slice ao k cap] w' (Cloned w' (bs.take k)) := by
  have hl : (bs.take k).length = k := by rw [List.length_take]; omega
  rcases h with ⟨rfl, rfl, rfl⟩ | ⟨g, cap, cur, rfl, rfl, hg, q1, q2, q3, q4⟩
  · have hk0 : k = 0 := by simpa using hk
    subst hk0
    exact ⟨none, 0, rfl, .inl ⟨rfl, rfl, rfl⟩, Nat.le_refl _, fun w' _ => clone_nil w'⟩
  · refine ⟨_, cap, rfl, .inr ⟨g, rfl⟩, q1, fun w' hw => ?_⟩
    have hg' := (hw g rfl).trans hg
    by_cases hk0 : k = 0
    · subst hk0
      rw [List.take_zero]
      have hnil := fun w : World => Lib.run_eql_slice_nil (P := Try.prog) w 38 5 (some ⟨g, 0, none⟩) 0 cap 0 0 Try.underlying38
      simp only [Option.isNone_some] at hnil
      have HH : Hid (Cloned w' [] (.returned (.slice (some ⟨w'.heap.size, 0, none⟩) 0 0)) (w'.alloc (.cells #[] 5))) :=
        ⟨_, 0, some w'.heap.size, rfl, .inr ⟨w'.heap.size, 0, #[], rfl, rfl, heap_alloc_new w' _, Nat.le_refl _, Nat.le_refl _, Nat.zero_le _, rfl⟩, .inr ⟨_, rfl, Nat.le_refl _⟩, (Below.refl _ _).alloc (Nat.le_refl _) _⟩
      clear hg hg' hw q1 q2 q3 q4 hk hmax hl
      go_enter Try.func46, Try.ntmps46
      go_wp2_with fail
      go_ret
      exact HH.out
    · have h1 := clone_some (bs := bs.take k) (cap := cap) hg' (by omega) (by omega) (by
        rw [hl]
        have : (cur.toList.take bs.length).take k = (u8c bs).take k := by rw [q4]
        rw [List.take_take, Nat.min_eq_left hk] at this
        rw [this]
        unfold u8c
        rw [List.map_take])
      rw [hl] at h1
      exact h1
end Go.Proofs.Ytcbfghncdclonaa

/-
  DERIVED: THE SHELF's CONTRACTS AT THIS DUMP, IN PLAIN WORDS (tools/lay-plain.mjs out of 'TryShelf.lean', which tools/lay-shelf.mjs wrote): THE SAME DECLARATIONS UNDER THE SAME NAMES: 'import', 'namespace', 'open', 'def', 'theorem' AND NOTHING ELSE: no command of the shelf's: FOR A HAND-IN. Each laying: the table of numbers ('.._ren') and one theorem, a field a fact of the dump's own or the kernel's comparison; each contract: ONE APPLICATION.
-/
namespace Go.Proofs
open Go.Shelf
def Try.lays128_ren : Go.Shelf.Ren := ⟨fun | 128 => 88 | n => n, fun | 51 => 72 | 3 => 3 | 4 => 4 | 46 => 89 | 5 => 5 | 9 => 9 | n => n, fun | n => n⟩
theorem Try.lays128 : Go.Proofs.Lays.n128 Try.prog Try.lays128_ren := {
  mixed := by kernel_rfl
  f128 := Try.func88.trans (congrArg some (by kernel_rfl))
  t3 := Try.underlying3
  a3 := Try.isAgg3
  z3 := Try.sizeOf3
  v3 := Try.zeroValue3
  t4 := Try.underlying4
  a4 := Try.isAgg4
  z4 := Try.sizeOf4
  v4 := Try.zeroValue4
  t5 := Try.underlying5
  a5 := Try.isAgg5
  z5 := Try.sizeOf5
  v5 := Try.zeroValue5
  t9 := Try.underlying9
  a9 := Try.isAgg9
  z9 := Try.sizeOf9
  v9 := Try.zeroValue9
  t46 := Try.underlying89
  a46 := Try.isAgg89
  z46 := Try.sizeOf89
  v46 := Try.zeroValue89
  t51 := Try.underlying72
  a51 := Try.isAgg72
  z51 := Try.sizeOf72
  v51 := Try.zeroValue72 }
/-- bits.Len32: "Len32 returns the minimum number of bits required to represent x; the result is 0 for x == 0.": IT RETURNS 'Lib.bitLen x'; the world is as it was. ('h0', 'h1': x is a uint32.) (LAID: no walk: one application.) -/
theorem Try.bits_Len32 (x : Int) (w : World) (h0 : 0 ≤ x) (h1 : x ≤ 4294967295) :
    Calls Try.prog 88 #[.int .u32 x] w fun e w' => e = .returned (.int .i64 (Lib.bitLen x.toNat)) ∧ w' = w := Any.bits_Len32 Try.lays128 x w h0 h1
def Try.lays125_ren : Go.Shelf.Ren := ⟨fun | 125 => 75 | 128 => 88 | 129 => 89 | n => n, fun | 46 => 89 | 3 => 3 | 51 => 72 | 53 => 116 | 4 => 4 | 5 => 5 | 9 => 9 | n => n, fun | n => n⟩
theorem Try.lays125 : Go.Proofs.Lays.n125 Try.prog Try.lays125_ren := {
  mixed := by kernel_rfl
  f125 := Try.func75.trans (congrArg some (by kernel_rfl))
  f128 := Try.func88.trans (congrArg some (by kernel_rfl))
  f129 := Try.func89.trans (congrArg some (by kernel_rfl))
  t3 := Try.underlying3
  a3 := Try.isAgg3
  z3 := Try.sizeOf3
  v3 := Try.zeroValue3
  t4 := Try.underlying4
  a4 := Try.isAgg4
  z4 := Try.sizeOf4
  v4 := Try.zeroValue4
  t5 := Try.underlying5
  a5 := Try.isAgg5
  z5 := Try.sizeOf5
  v5 := Try.zeroValue5
  t9 := Try.underlying9
  a9 := Try.isAgg9
  z9 := Try.sizeOf9
  v9 := Try.zeroValue9
  t46 := Try.underlying89
  a46 := Try.isAgg89
  z46 := Try.sizeOf89
  v46 := Try.zeroValue89
  t51 := Try.underlying72
  a51 := Try.isAgg72
  z51 := Try.sizeOf72
  v51 := Try.zeroValue72
  t53 := Try.underlying116
  a53 := Try.isAgg116
  z53 := Try.sizeOf116
  v53 := Try.zeroValue116 }
/-- bits.Len: "Len returns the minimum number of bits required to represent x; the result is 0 for x == 0.": IT RETURNS 'Lib.bitLen x'; the world is as it was. (A uint has 64 bits in the model.) ITS CALLEE bits.Len64 IS MET BY ITS OWN CONTRACT OFF THE SHELF (lay that first). (LAID: no walk: one application.) -/
theorem Try.bits_Len (x : Int) (w : World) (h0 : 0 ≤ x) (h1 : x ≤ 18446744073709551615) :
    Calls Try.prog 75 #[.int .u64 x] w fun e w' => e = .returned (.int .i64 (Lib.bitLen x.toNat)) ∧ w' = w := Any.bits_Len Try.lays125 x w h0 h1
def Try.lays129_ren : Go.Shelf.Ren := ⟨fun | 129 => 89 | n => n, fun | 53 => 116 | 3 => 3 | 4 => 4 | 46 => 89 | 5 => 5 | 9 => 9 | n => n, fun | n => n⟩
theorem Try.lays129 : Go.Proofs.Lays.n129 Try.prog Try.lays129_ren := {
  mixed := by kernel_rfl
  f129 := Try.func89.trans (congrArg some (by kernel_rfl))
  t3 := Try.underlying3
  a3 := Try.isAgg3
  z3 := Try.sizeOf3
  v3 := Try.zeroValue3
  t4 := Try.underlying4
  a4 := Try.isAgg4
  z4 := Try.sizeOf4
  v4 := Try.zeroValue4
  t5 := Try.underlying5
  a5 := Try.isAgg5
  z5 := Try.sizeOf5
  v5 := Try.zeroValue5
  t9 := Try.underlying9
  a9 := Try.isAgg9
  z9 := Try.sizeOf9
  v9 := Try.zeroValue9
  t46 := Try.underlying89
  a46 := Try.isAgg89
  z46 := Try.sizeOf89
  v46 := Try.zeroValue89
  t53 := Try.underlying116
  a53 := Try.isAgg116
  z53 := Try.sizeOf116
  v53 := Try.zeroValue116 }
/-- bits.Len64: "Len64 returns the minimum number of bits required to represent x; the result is 0 for x == 0.": IT RETURNS 'Lib.bitLen x'; the world is as it was. ('h0', 'h1': x is a uint64.) (LAID: no walk: one application.) -/
theorem Try.bits_Len64 (x : Int) (w : World) (h0 : 0 ≤ x) (h1 : x ≤ 18446744073709551615) :
    Calls Try.prog 89 #[.int .u64 x] w fun e w' => e = .returned (.int .i64 (Lib.bitLen x.toNat)) ∧ w' = w := Any.bits_Len64 Try.lays129 x w h0 h1
def Try.lays190_ren : Go.Shelf.Ren := ⟨fun | 190 => 63 | 125 => 75 | 258 => 74 | 128 => 88 | 129 => 89 | 302 => 79 | 303 => 80 | 304 => 81 | 305 => 82 | 306 => 83 | 307 => 84 | 308 => 85 | 309 => 86 | 310 => 87 | 333 => 91 | 329 => 92 | 330 => 93 | 334 => 94 | 335 => 95 | 336 => 96 | 344 => 97 | n => n, fun | 31 => 26 | 9 => 9 | 3 => 3 | 46 => 89 | 0 => 0 | 51 => 72 | 53 => 116 | 4 => 4 | 183 => 107 | 182 => 106 | 131 => 112 | 5 => 5 | 218 => 117 | 222 => 121 | 228 => 123 | 229 => 124 | n => n, fun | n => n⟩
theorem Try.lays190 : Go.Proofs.Lays.n190 Try.prog Try.lays190_ren := {
  mixed := by kernel_rfl
  f125 := Try.func75.trans (congrArg some (by kernel_rfl))
  f128 := Try.func88.trans (congrArg some (by kernel_rfl))
  f129 := Try.func89.trans (congrArg some (by kernel_rfl))
  f190 := Try.func63.trans (congrArg some (by kernel_rfl))
  f258 := Try.func74.trans (congrArg some (by kernel_rfl))
  f302 := Try.func79.trans (congrArg some (by kernel_rfl))
  f303 := Try.func80.trans (congrArg some (by kernel_rfl))
  f304 := Try.func81.trans (congrArg some (by kernel_rfl))
  f305 := Try.func82.trans (congrArg some (by kernel_rfl))
  f306 := Try.func83.trans (congrArg some (by kernel_rfl))
  f307 := Try.func84.trans (congrArg some (by kernel_rfl))
  f308 := Try.func85.trans (congrArg some (by kernel_rfl))
  f309 := Try.func86.trans (congrArg some (by kernel_rfl))
  f310 := Try.func87.trans (congrArg some (by kernel_rfl))
  f329 := Try.func92.trans (congrArg some (by kernel_rfl))
  f330 := Try.func93.trans (congrArg some (by kernel_rfl))
  f333 := Try.func91.trans (congrArg some (by kernel_rfl))
  f334 := Try.func94.trans (congrArg some (by kernel_rfl))
  f335 := Try.func95.trans (congrArg some (by kernel_rfl))
  f336 := Try.func96.trans (congrArg some (by kernel_rfl))
  f344 := Try.func97.trans (congrArg some (by kernel_rfl))
  t0 := Try.underlying0
  a0 := Try.isAgg0
  z0 := Try.sizeOf0
  v0 := Try.zeroValue0
  t3 := Try.underlying3
  a3 := Try.isAgg3
  z3 := Try.sizeOf3
  v3 := Try.zeroValue3
  t4 := Try.underlying4
  a4 := Try.isAgg4
  z4 := Try.sizeOf4
  v4 := Try.zeroValue4
  t5 := Try.underlying5
  a5 := Try.isAgg5
  z5 := Try.sizeOf5
  v5 := Try.zeroValue5
  t9 := Try.underlying9
  a9 := Try.isAgg9
  z9 := Try.sizeOf9
  v9 := Try.zeroValue9
  t31 := Try.underlying26
  a31 := Try.isAgg26
  z31 := Try.sizeOf26
  v31 := Try.zeroValue26
  t46 := Try.underlying89
  a46 := Try.isAgg89
  z46 := Try.sizeOf89
  v46 := Try.zeroValue89
  t51 := Try.underlying72
  a51 := Try.isAgg72
  z51 := Try.sizeOf72
  v51 := Try.zeroValue72
  t53 := Try.underlying116
  a53 := Try.isAgg116
  z53 := Try.sizeOf116
  v53 := Try.zeroValue116
  t131 := Try.underlying112
  a131 := Try.isAgg112
  z131 := Try.sizeOf112
  v131 := Try.zeroValue112
  t182 := Try.underlying106
  a182 := Try.isAgg106
  z182 := Try.sizeOf106
  v182 := Try.zeroValue106
  t183 := Try.underlying107
  a183 := Try.isAgg107
  z183 := Try.sizeOf107
  v183 := Try.zeroValue107
  t218 := Try.underlying117
  a218 := Try.isAgg117
  z218 := Try.sizeOf117
  v218 := Try.zeroValue117
  t222 := Try.underlying121
  a222 := Try.isAgg121
  z222 := Try.sizeOf121
  v222 := Try.zeroValue121
  t228 := Try.underlying123
  a228 := Try.isAgg123
  z228 := Try.sizeOf123
  v228 := Try.zeroValue123
  t229 := Try.underlying124
  a229 := Try.isAgg124
  z229 := Try.sizeOf124
  v229 := Try.zeroValue124 }
open Go.Sort Go.RowKit in
theorem Try.slices_Sort_string (blk off cap : Nat) (ss : List (List UInt8)) (w : World) (hH : Holds encStr w blk off ss.toArray) (hblk : blk < w.heap.size) (hsz : ss.length < 4611686018427387904) :
    Calls Try.prog 63 #[.slice (some ⟨blk, off, none⟩) ss.length cap] w fun e w' =>
      e = .returned (.tuple #[]) ∧ ∃ n os, w' = grow (putRow encStr (Sort.ahead w n) blk off (ss.mergeSort fun x y => decide (x ≤ y)).toArray) os := Any.slices_Sort_string Try.lays190 blk off cap ss w hH hblk hsz
open Go.RowKit Go.Sort in
/-- .. and plain. (LAID: no walk: one application.) -/
theorem Try.slices_Sort_string_none (p : Option Addr) (cap : Nat) (w : World) :
    Calls Try.prog 63 #[.slice p 0 cap] w fun e w' => e = .returned (.tuple #[]) ∧ w' = w := Any.slices_Sort_string_none Try.lays190 p cap w
end Go.Proofs

/-
  The names of all files, rising.
-/
namespace Go.Proofs.Ytcbfghncdclonaa
open Go.RowKit Go.Maps Go.Lib Go.Sort
set_option linter.unusedSimpArgs false
set_option linter.unusedVariables false
theorem info9 : (Try.prog.info? 9).map (fun i => (i.zero, i.size, i.bytes)) = some (some (.string ByteArray.empty), 1, 16) := by kernel_rfl
def nmStrs (l : List Nm) : List Value := l.map fun s => Value.string (bsL s)
theorem nmStrs_length (l : List Nm) : (nmStrs l).length = l.length := List.length_map _
/-- A row of names: nil, or the front of a block of its own. -/
def OwnN (w : World) (base : Nat) (v : Value) (l : List Nm) : Prop :=
  (v = .slice none 0 0 ∧ l = []) ∨ ∃ g cap, v = .slice (some ⟨g, 0, none⟩) l.length cap ∧ base ≤ g ∧ g < w.heap.size ∧ ∀ j (h : j < l.length), w.cell? ⟨g, j, none⟩ = some (.string (bsL l[j]))
theorem sorted_names {L : List Fl} {out : List Nm} (hp : L.Pairwise fun a b => a.nm < b.nm) (h : out.Perm (L.map (·.nm))) : (out.mergeSort fun x y => decide (x ≤ y)) = L.map (·.nm) := by
  have h1 : (out.mergeSort fun x y => decide (x ≤ y)).Pairwise (fun x y => x ≤ y) := by
    have := List.pairwise_mergeSort (le := fun x y : Nm => decide (x ≤ y)) (fun a b c h1 h2 => by
      simp only [decide_eq_true_eq] at *
      exact List.le_trans h1 h2) (fun a b => by
      simp only [Bool.or_eq_true, decide_eq_true_eq]
      exact List.le_total a b) out
    exact this.imp fun h => by simpa using h
  have h2 : (L.map (·.nm)).Pairwise (fun x y : Nm => x ≤ y) := List.pairwise_map.2 (hp.imp fun h => List.le_of_lt h)
  have h3 : (out.mergeSort fun x y => decide (x ≤ y)).Perm (L.map (·.nm)) := (List.mergeSort_perm _ _).trans h
  exact h3.eq_of_pairwise (fun a b _ _ h1 h2 => List.le_antisymm h1 h2) h1 h2
theorem sort_any {w : World} {g cap : Nat} {out : List Nm} {cur : Array Value} (hg : w.heap[g]? = some (.cells cur 9 (0, 0))) (ho : cur.toList.take out.length = nmStrs out) (hl : out.length ≤ 4) :
    Calls Try.prog 63 #[.slice (some ⟨g, 0, none⟩) out.length cap] w fun e w' => e = .returned (.tuple #[]) ∧ (∀ j (h : j < out.length), w'.cell? ⟨g, j, none⟩ = some (.string (bsL ((out.mergeSort fun x y => decide (x ≤ y))[j]'(by rw [List.length_mergeSort]; exact h))))) ∧ Turns [g] [] w w' := by
  have hcell : ∀ j (h : j < out.length), w.cell? ⟨g, j, none⟩ = some (.string (bsL out[j])) := fun j h => by
    rw [cell_of_row w g j cur 9 (0, 0) hg]
    have e : cur.toList[j]? = (nmStrs out)[j]? := by rw [← ho, List.getElem?_take, if_pos h]
    rw [Array.getElem?_toList] at e
    rw [e]
    unfold nmStrs
    rw [List.getElem?_map, List.getElem?_eq_getElem h]
    rfl
  have hH : Holds encStr w g 0 out.toArray := fun j hj => by
    have hj' : j < out.length := by simpa using hj
    refine ⟨?_, soft0 hg _⟩
    rw [Nat.zero_add, hcell j hj']
    congr 1
    show Value.string (bsL out[j]) = encStr (out.toArray[j]!)
    rw [getElem!_pos _ j hj]
    rfl
  refine (Try.slices_Sort_string g 0 cap out w hH (heap_lt hg) (by omega)).mono ?_
  rintro e w' ⟨he, n, os, hw⟩
  subst hw
  have hlen : (out.mergeSort fun x y => decide (x ≤ y)).length = out.length := List.length_mergeSort _
  have hsz : (putRow encStr (Sort.ahead w n) g 0 (out.mergeSort fun x y => decide (x ≤ y)).toArray).heap.size = w.heap.size := by simp [putRow, mapBlock, Sort.ahead]
  have hglt := heap_lt hg
  refine ⟨he, ?_, ⟨rfl, rfl, rfl, ?_, fun k hk hne => ?_, fun _ h => by cases h⟩⟩
  · intro j h
    rw [cell?_grow _ _ _ (by rw [hsz]; exact hglt)]
    have := cell?_putRow encStr (Sort.ahead w n) g 0 out.toArray (out.mergeSort fun x y => decide (x ≤ y)).toArray (holds_ahead _ _ _ _ _ _ hH) (by simp [hlen]) j (by simp [hlen]; exact h)
    rw [Nat.zero_add] at this
    rw [this]
    congr 1
    rw [getElem!_pos _ j (by simp [hlen]; exact h)]
    rfl
  · rw [size_grow, hsz]
    omega
  · rw [heap_grow_old _ _ (by rw [hsz]; exact hk)]
    have hkg : g ≠ k := fun e => hne (by simp [e])
    simp only [putRow, mapBlock, Sort.ahead, Array.getElem?_modify]
    rw [if_neg hkg]
theorem OwnN.kept {w w' : World} {base : Nat} {v : Value} {l : List Nm} (h : OwnN w base v l) (hk : ∀ k, base ≤ k → k < w.heap.size → w'.heap[k]? = w.heap[k]?) (hs : w.heap.size ≤ w'.heap.size) : OwnN w' base v l := by
  rcases h with h | ⟨g, cap, h1, h2, h3, h4⟩
  · exact .inl h
  · exact .inr ⟨g, cap, h1, h2, by omega, fun j hj => (World.cell?_of_block (hk g h2 h3)).trans (h4 j hj)⟩
def NamesOut (w : World) (L : List Fl) (e : Ending) (w' : World) : Prop := ∃ v, e = .returned v ∧ OwnN w' w.heap.size v (L.map (·.nm)) ∧ Below w.heap.size w w'
theorem nmStrs_snoc (l : List Nm) (s : ByteArray) : nmStrs (l ++ [s.data.toList]) = nmStrs l ++ [.string s] := by
  unfold nmStrs
  rw [List.map_append]
  show _ ++ [Value.string (bsL s.data.toList)] = _
  rw [bsL_data]
set_option maxRecDepth 100000 in
set_option maxHeartbeats 1000000 in
theorem names_any {w : World} {p : Nat} {s : Ds} {S : List Nat} (h : DiskAt w p s S) : Calls Try.prog 45 #[.pointer (some ⟨p, 0, none⟩)] w (NamesOut w s.L) := by
  obtain ⟨M, X, rfl, h⟩ := h
  obtain ⟨c0, c1, c2, c3, c4⟩ := cells5 h.blk
  have hown := h.map
  have hn := h.names
  have hperm : (X.map (·.x.nm)).Perm (s.L.map (·.nm)) := by have := h.perm.map (fun f : Fl => f.nm); rw [List.map_map] at this; exact this
  have hlen : X.length ≤ 4 := by have := h.perm.length_eq; rw [List.length_map] at this; have := h.wf.few; omega
  have hrise := h.wf.rise
  have HN := Lib.hid hn; have HP := Lib.hid hperm; have HL := Lib.hid hlen; have HR := Lib.hid hrise
  obtain ⟨i, hi, hz, hs, hby⟩ := info_parts info9
  have hMlt := hown.lt
  have HM := Lib.hid hMlt
  clear c0 c2 c3 c4 h hn hperm hlen hrise hMlt
  go_enter Try.func45, Try.ntmps45
  go_wp2_with (at_range; refine wpList_range_own _ rfl _ 57 rfl 9 67 keyed9 Try.underlying57 _ M X.length (Dof X) rfl hown ?_; intro w0 hrg0 hg0 hs0)
  go_frame
  clear hown c1
  go_loopw [3] (fun v wr => ∃ left cnt out, wr.ranges Try.prog 9 RP M w.heap.size X.length (Dof X) left cnt ∧ wr.ownsRow (w.heap.size + 1) 9 1 v out.length (nmStrs out) ∧ (out ++ (leftF X left).map (·.x.nm)).Perm (X.map (·.x.nm)) ∧ Below w.heap.size w wr ∧ w.heap.size + 1 ≤ wr.heap.size) (fun _ wr => wr.rangeLeft M w.heap.size)
  case atStart => exact ⟨_, _, [], hrg0, World.ownsRow_nil _ _ _ _, by rw [leftF_all HN.out]; exact List.Perm.refl _, (Below.refl _ _).grown hg0 (Nat.le_refl _) (fun k h => by cases h), by omega⟩
  case round =>
    obtain ⟨left, cnt, out, hrg, hrow, hpm, hb, hsz⟩ := hrel
    clear hrg0 hg0 hs0
    have HPM := Lib.hid hpm; have HB := Lib.hid hb; have HROW := Lib.hid hrow; have HSZ := Lib.hid hsz
    clear hpm hb hrow hsz
    go_wp2_with (at_next; refine wpList_next_ranges _ rfl _ rfl 9 keyed9 RP mkS mkP inv_key inv_val M w.heap.size X.length (Dof X) left cnt rfl hrg ?_ ?_)
    · intro hc0 hl0
      have hz0 : leftF X left = [] := by unfold leftF; rw [List.filter_eq_nil_iff]; intro c _; rw [hl0]; simp
      have hp2 := HPM.out
      rw [hz0, List.map_nil, List.append_nil] at hp2
      have hol : out.length ≤ 4 := by have := hp2.length_eq; rw [List.length_map] at this; have := HL.out; omega
      have hsort := sorted_names HR.out (hp2.trans HP.out)
      rcases HROW.out.2 with ⟨rfl, h0⟩ | ⟨g, cap, cur, rfl, hbg, hg, q1, q2, q3, q4⟩
      · have hnil : s.L.map (·.nm) = [] := by
          have : out = [] := List.length_eq_zero_iff.1 h0
          rw [← hsort, this]
          exact List.mergeSort_nil
        have hso := fun w => Try.slices_Sort_string_none none 0 w
        have HSO := Lib.hid hso
        have HNIL := Lib.hid hnil
        clear hso hnil hsort h0 hp2 hz0
        go_wp2_with fail
        refine (HSO.out _).mono ?_
        rintro e w2 ⟨rfl, rfl⟩
        go_wp2_with fail
        go_ret
        exact ⟨_, rfl, .inl ⟨rfl, HNIL.out⟩, HB.out⟩
      · have ho := sort_any (w := wr) (cap := cap) hg (by rw [← q4, Nat.mul_one]) hol
        have HO := Lib.hid ho; have HS2 := Lib.hid hsort; have HG := Lib.hid hg; have HBG := Lib.hid hbg
        clear ho hsort hg hbg q1 q2 q3 q4 hp2 hz0 hol
        go_wp2_with fail
        refine HO.out.mono ?_
        rintro e w2 ⟨rfl, hcells, ht⟩
        have HC := Lib.hid hcells; have HT := Lib.hid ht; clear hcells ht
        go_wp2_with fail
        go_ret
        have hlm : (out.mergeSort fun x y => decide (x ≤ y)).length = out.length := List.length_mergeSort _
        have hb2 : Below w.heap.size w w2 := HB.out.trans (HT.out.below (fun k hk => by rw [List.mem_singleton.1 hk]; have := HBG.out; omega) HB.out.size)
        refine ⟨_, rfl, .inr ⟨g, cap, ?_, by have := HBG.out; omega, Nat.lt_of_lt_of_le (heap_lt HG.out) HT.out.size, ?_⟩, hb2⟩
        · show Value.slice (some ⟨g, 0, none⟩) out.length cap = _
          rw [← HS2.out, hlm]
        · rw [← HS2.out]
          intro j hj
          exact HC.out j (by rw [hlm] at hj; exact hj)
    · intro sk o kl y1 y2 w1 cnt1 hk hlk hv hat hrg1 hlt hg1 hs1 hen
      obtain ⟨c, hc, e1, rfl, e2⟩ := came HN.out hk hv hat
      have hb1 : Below w.heap.size w w1 := HB.out.grown hg1 HB.out.size (fun k h => by cases h; exact Nat.le_refl _)
      have hrow1 : w1.ownsRow (w.heap.size + 1) 9 1 _ out.length (nmStrs out) := HROW.out.kept hg1 (by
        cases hv : Value.ownBlock _ with
        | none => exact .inl rfl
        | some k => right; have := HROW.out.lt k hv; intro e; cases e; omega)
      have hp := (leftF_perm HN.out hc hlk).map (fun c : Rc => c.x.nm)
      rw [List.map_cons] at hp
      have hpm1 : ((out ++ [sk.data.toList]) ++ (leftF X fun z => left z && !z.sameKey (keyL c.x.nm)).map (·.x.nm)).Perm (X.map (·.x.nm)) := by
        rw [List.append_assoc, e1]
        exact (hp.symm.append_left out).trans HPM.out
      have hol : out.length ≤ 4 := by have := HPM.out.length_eq; rw [List.length_append, List.length_map, List.length_map] at this; have := HL.out; omega
      have hsz1 : w.heap.size + 1 ≤ w1.heap.size := by have := HSZ.out; omega
      rw [e2] at hen ⊢
      obtain ⟨q, hq⟩ : ∃ q, c.f = q := ⟨_, rfl⟩
      rw [hq] at hen ⊢
      have HPM1 := Lib.hid hpm1; have HB1 := Lib.hid hb1; have HROW1 := Lib.hid hrow1; have HOL := Lib.hid hol; have HSZ1 := Lib.hid hsz1
      clear hk hv hat hq e1 e2 hp hpm1 hb1 hrow1 hol hsz1 hg1 hs1
      unfold mkS at hen ⊢
      go_wp2_with (at_builtin; refine wpList_append_lies _ rfl _ _ 26 rfl (w.heap.size + 1) 9 i _ 1 16 Try.underlying26 hi hz hs hby rfl (by decide) _ out.length (nmStrs out) rfl (HROW1.out.alloc _) ⟨w1.heap.size, 0, none⟩ 1 1 [.string sk] rfl rfl (World.news_of_block (cs := #[.string sk]) (t := 9) (fr := (0, 0)) (heap_alloc_new w1 _)) (by simp [Value.oneCell']) (by decide) (by have := HOL.out; unfold maxLen; omega) (by have := HOL.out; omega) (by have := HSZ1.out; simp; omega) (w1.heap.size + 1) (by simp) ?_; intro gg cp w3 hown3 hgr3 hat3 hlt3)
      have hrg3 := (hrg1.alloc (.cells #[.string sk] 9)).kept hgr3 (by
        intro e
        have := HROW1.out.lt M e.symm
        have := HM.out
        omega) (by
        intro e
        have := HROW1.out.lt _ e.symm
        omega)
      have hln : (out ++ [sk.data.toList]).length = out.length + 1 := by simp
      refine ⟨⟨_, cnt1, out ++ [sk.data.toList], hrg3, ?_, HPM1.out, (HB1.out.alloc HB1.out.size _).grown hgr3 (by have := HB1.out.size; simp; omega) (fun k hk => by have := HROW1.out.lt k hk; omega), ?_⟩, ?_⟩
      · rw [hln, nmStrs_snoc]
        exact hown3
      · have h1 := hgr3.size
        have h2 := HSZ1.out
        rw [World.size_alloc] at h1
        omega
      · rw [hrg3.left_eq, hrg.left_eq]
        exact hlt
end Go.Proofs.Ytcbfghncdclonaa

/-
  Crash, at every disk.
-/
namespace Go.Proofs.Ytcbfghncdclonaa
open Go.RowKit Go.Maps Go.Lib
set_option linter.unusedSimpArgs false
set_option linter.unusedVariables false
theorem crash_split (L : List Fl) (K : Nat) (f : Fl) (t : List Fl) (h : L = f :: t) : crashL L K = keepF (min K (f.b.length - f.n)) f :: crashL t (K - min K (f.b.length - f.n)) := by subst h; rfl
/-- Crash under way: the files up to the j-th are done. -/
structure CrashX (w : World) (S : List Nat) (p M : Nat) (s : Ds) (K0 : Nat) (g : Option Nat) (st : Ds) (X : List Rc) (A : List Fl) (K j : Nat) (wr : World) : Prop where
  disk : DiskX wr p M X st
  state : st = { s with L := A ++ s.L.drop j }
  alen : A.length = j
  names : A.map (·.nm) = (s.L.take j).map (·.nm)
  left : crashL s.L K0 = A ++ crashL (s.L.drop j) K
  turns : Turns S (p :: M :: footOf X) w wr
  row : ∀ q, g = some q → q ∉ p :: M :: footOf X ∧ q < wr.heap.size ∧ ∀ i (h : i < s.L.length), wr.cell? ⟨q, i, none⟩ = some (.string (bsL s.L[i].nm))
theorem setF_mid {A B : List Fl} {f : Fl} {g : Fl → Fl} (hA : ∀ x ∈ A, x.nm ≠ f.nm) (hB : ∀ x ∈ B, x.nm ≠ f.nm) : setF (A ++ f :: B) f.nm g = A ++ g f :: B := by
  have h1 : ∀ P Q : List Fl, setF (P ++ f :: Q) f.nm g = setF P f.nm g ++ g f :: setF Q f.nm g := fun P Q => by
    unfold setF
    rw [List.map_append, List.map_cons, if_pos rfl]
  rw [h1, map_eq_self hA, map_eq_self hB]
theorem CrashX.next {f : Nat} {x : Fl} {w : World} {S : List Nat} {p M : Nat} {s : Ds} {K0 : Nat} {g : Option Nat} {st : Ds} {X : List Rc} {A : List Fl} {K j : Nat} {wr w' : World} (h : CrashX w S p M s K0 g st X A K j wr) (hj : j < s.L.length) (hwf : WF s)
    (hq : TurnedX wr p M st f x (p :: M :: footOf X) (s.L[j]).nm (keepF (min K ((s.L[j]).b.length - (s.L[j]).n))) w') : ∃ st' X' A', CrashX w S p M s K0 g st' X' A' (K - min K ((s.L[j]).b.length - (s.L[j]).n)) (j + 1) w' := by
  obtain ⟨X', c', h1, h2, h3, h4, h5⟩ := hq
  have hd : s.L.drop j = s.L[j] :: s.L.drop (j + 1) := List.drop_eq_getElem_cons hj
  have hrise := hwf.rise
  have hsplit : s.L = s.L.take j ++ s.L[j] :: s.L.drop (j + 1) := by rw [← hd, List.take_append_drop]
  rw [hsplit, List.pairwise_append] at hrise
  obtain ⟨r1, r2, r3⟩ := hrise
  obtain ⟨r4, r5⟩ := List.pairwise_cons.1 r2
  have hA : ∀ x ∈ A, x.nm ≠ (s.L[j]).nm := fun x hx => by
    have hm : x.nm ∈ (s.L.take j).map (·.nm) := by rw [← h.names]; exact List.mem_map_of_mem hx
    obtain ⟨y, hy, e⟩ := List.mem_map.1 hm
    rw [← e]
    exact nm_ne (r3 y hy _ (List.mem_cons_self ..))
  have hB : ∀ x ∈ s.L.drop (j + 1), x.nm ≠ (s.L[j]).nm := fun x hx => (nm_ne (r4 x hx)).symm
  have hst : turnS st (s.L[j]).nm (keepF (min K ((s.L[j]).b.length - (s.L[j]).n))) = { s with L := (A ++ [keepF (min K ((s.L[j]).b.length - (s.L[j]).n)) s.L[j]]) ++ s.L.drop (j + 1) } := by
    unfold turnS
    rw [h.state, hd]
    show { s with L := setF (A ++ s.L[j] :: s.L.drop (j + 1)) (s.L[j]).nm _ } = _
    rw [setF_mid hA hB, List.append_assoc]
    rfl
  refine ⟨_, X', A ++ [keepF (min K ((s.L[j]).b.length - (s.L[j]).n)) s.L[j]], h1, hst, by rw [List.length_append, h.alen]; rfl, ?_, ?_, h.turns.trans h5, fun q hq => ?_⟩
  · rw [List.map_append, h.names, List.take_succ_eq_append_getElem hj, List.map_append]
    rfl
  · rw [h.left, crash_split _ K _ _ hd, List.append_assoc]
    rfl
  · obtain ⟨q1, q2, q3⟩ := h.row q hq
    refine ⟨fun hm => ?_, Nat.lt_of_lt_of_le q2 h5.size, fun i hi => (h5.cell q2 q1).trans (q3 i hi)⟩
    rcases h5.foot q hm with h6 | h6
    · exact q1 h6
    · omega
theorem wf_keep {s : Ds} (h : WF s) {nm : Nm} {f : Fl} (hf : findF s.L nm = some f) (k : Nat) (hk : f.n + k ≤ f.b.length) : WF (turnS s nm (keepF k)) :=
  h.turn (fun _ => rfl) hf (by unfold keepF; simp only [List.length_take]; omega) (by unfold keepF; simp only [List.length_take]; have := h.used; omega)
/-- What a round makes of its file. -/
theorem crash_turn {e : Ending} {wr w1 : World} {p M : Nat} {X : List Rc} {st : Ds} (h : DiskX wr p M X st) {c : Rc} (hc : c ∈ X) {k : Nat} (hk : c.x.n + k ≤ c.x.b.length) {v : Value} (hv : wr.heap[c.f]? = some (.cells #[v, .int .i64 (c.x.n : Int)] 69 (0, 0)))
    {w0 : World} (hb0 : Below wr.heap.size wr w0) (hcl : Cloned w0 (c.x.b.take (c.x.n + k)) e w1) {ao : Option Addr} {cap : Nat} (he : e = .returned (.slice ao (c.x.n + k) cap)) (d : Nat) :
    TurnedX wr p M st c.f c.x (p :: M :: footOf X) c.x.nm (keepF k) (((w1.setCell ⟨c.f, 0, none⟩ (.slice ao (c.x.n + k) cap)).setCell ⟨c.f, 1, none⟩ (.int .i64 ((c.x.n + k : Nat) : Int))).drewN d) := by
  obtain ⟨ao', cap', r', he', ho, hr', hb1⟩ := hcl
  have hlen : (c.x.b.take (c.x.n + k)).length = c.x.n + k := by rw [List.length_take]; omega
  rw [hlen] at he' ho
  have e1 : (.slice ao (c.x.n + k) cap : Value) = .slice ao' (c.x.n + k) cap' := by rw [he] at he'; exact Ending.returned.inj he'
  rw [← e1] at ho
  have hin := h.perm.mem_iff.1 (List.mem_map_of_mem hc)
  have hfd : findF st.L c.x.nm = some c.x := find_of h.wf.rise hin
  have hflt := heap_lt hv
  have hb : Below wr.heap.size wr w1 := hb0.trans (hb1.mono hb0.size)
  have hv1 : w1.heap[c.f]? = _ := (hb.block _ hflt).trans hv
  have hrf : ∀ q, r' = some q → q ≠ c.f := fun q hq e => by
    rcases hr' with h1 | ⟨k', h1, h2⟩
    · rw [h1] at hq; cases hq
    · rw [h1] at hq; cases hq; have := hb0.size; omega
  refine turn_atX h hc rfl (fun _ => rfl) r' (wf_keep h.wf hfd k hk) ?_ ⟨?_, ?_, ?_, ?_, fun q h1 h2 => ?_, fun _ h => by cases h⟩ ⟨.slice ao (c.x.n + k) cap, ?_, ?_⟩
  · rcases hr' with h1 | ⟨k', h1, h2⟩
    · exact .inl h1
    · exact .inr (.inr ⟨k', h1, Nat.le_trans hb0.size h2⟩)
  · exact hb.os
  · exact hb.tape
  · exact hb.output
  · show wr.heap.size ≤ ((w1.setCell _ _).setCell _ _).heap.size
    have := hb.size
    simp [World.setCell]
    omega
  · have hq : q ≠ c.f := fun e => h2 (by rw [e]; exact List.mem_cons_self ..)
    show ((w1.setCell _ _).setCell _ _).heap[q]? = _
    rw [heap_set_other _ hq, heap_set_other _ hq, hb.block q h1]
  · show ((w1.setCell _ _).setCell _ _).heap[c.f]? = _
    rw [heap_set (heap_set hv1 _) _]
    rfl
  · refine OwnB.kept (w := w1) ?_ fun q hq => ?_
    · show OwnB w1 _ (c.x.b.take (c.x.n + k)) r'
      exact ho
    · show ((w1.setCell _ _).setCell _ _).heap[q]? = _
      rw [heap_set_other _ (hrf q hq), heap_set_other _ (hrf q hq)]
theorem CrashX.fin {w : World} {S : List Nat} {p M : Nat} {s : Ds} {keep : Int} {g : Option Nat} {st : Ds} {X : List Rc} {A : List Fl} {K j : Nat} {wr : World} (h : CrashX w S p M s (max keep 0).toNat g st X A K j wr) (hj : s.L.length ≤ j) :
    ∃ S', DiskAt (((wr.setCell ⟨p, 4, none⟩ (.bool false)).setCell ⟨p, 2, none⟩ (.bool false)).setCell ⟨p, 3, none⟩ (.int .i64 0)) p (crashS s keep) S' ∧ Turns S S' w (((wr.setCell ⟨p, 4, none⟩ (.bool false)).setCell ⟨p, 2, none⟩ (.bool false)).setCell ⟨p, 3, none⟩ (.int .i64 0)) := by
  have hd : s.L.drop j = [] := List.drop_eq_nil_of_le hj
  have hl := h.left
  rw [hd] at hl
  have hL : st.L = crashL s.L (max keep 0).toNat := by
    rw [h.state, hd, hl]
    rfl
  have hwf : WF (crashS s keep) := by
    have h1 := h.disk.wf
    exact ⟨by have := h1.room; rw [h.state] at this; exact this, by have := h1.used; rw [hL, h.state] at this; exact this, by have := h1.few; rw [hL] at this; exact this, by have := h1.rise; rw [hL] at this; exact this, by have := h1.lasts; rw [hL] at this; exact this, (by show (0 : Nat) ≤ _; omega), by have := h1.name; rw [hL] at this; exact this⟩
  have hb := h.disk.blk
  have ho : ∀ k, k ≠ p → (((wr.setCell ⟨p, 4, none⟩ (.bool false)).setCell ⟨p, 2, none⟩ (.bool false)).setCell ⟨p, 3, none⟩ (.int .i64 0)).heap[k]? = wr.heap[k]? := fun k hk => by rw [heap_set_other _ hk, heap_set_other _ hk, heap_set_other _ hk]
  refine ⟨p :: M :: footOf X, ⟨M, X, rfl, turn_blk (s' := crashS s keep) h.disk hL.symm hwf ?_ ho⟩, h.turns.trans ⟨rfl, rfl, rfl, by simp [World.setCell], fun k _ hk => ho k (fun e => hk (by simp [e])), fun _ h => .inl h⟩⟩
  rw [heap_set (heap_set (heap_set hb _) _) _, h.state]
  rfl
end Go.Proofs.Ytcbfghncdclonaa

/-
  Crash, at every disk: the walk.
-/
namespace Go.Proofs.Ytcbfghncdclonaa
open Go.RowKit Go.Maps Go.Lib
set_option linter.unusedSimpArgs false
set_option linter.unusedVariables false
def CrashEnd (w : World) (p : Nat) (S : List Nat) (s : Ds) (keep : Int) (e : Ending) (w' : World) : Prop := e = .returned (.tuple #[]) ∧ ∃ S', DiskAt w' p (crashS s keep) S' ∧ Turns S S' w w'
set_option maxRecDepth 100000 in
set_option maxHeartbeats 2000000 in
theorem crash_any {w : World} {p : Nat} {s : Ds} {S : List Nat} (h : DiskAt w p s S) (keep : Int) (hk0 : -9223372036854775808 ≤ keep) (hk1 : keep ≤ 9223372036854775807) :
    Calls Try.prog 20 #[.pointer (some ⟨p, 0, none⟩), .int .i64 keep] w (CrashEnd w p S s keep) := by
  have hnm := names_any h
  have HNM := Lib.hid hnm
  have hlt := h.lt
  have hwf := h.wf
  have HWF := Lib.hid hwf
  obtain ⟨M, X, rfl, hx⟩ := h
  have hlen : s.L.length ≤ 4 := hwf.few
  have hstart : ∀ (w1 : World) (v : Value), OwnN w1 w.heap.size v (s.L.map (·.nm)) → Below w.heap.size w w1 → ∃ ao cap, v = .slice ao s.L.length cap ∧ (s.L.length = 0 ∨ ∃ g, ao = some ⟨g, 0, none⟩ ∧ CrashX w (p :: M :: footOf X) p M s (max keep 0).toNat (some g) s X [] (max keep 0).toNat 0 w1) ∧ CrashX w (p :: M :: footOf X) p M s (max keep 0).toNat none s X [] (max keep 0).toNat 0 w1 := by
    intro w1 v ho hb
    have hd1 : DiskX w1 p M X s := hx.kept fun k hk => hb.block k (hx.lt k hk)
    have base : ∀ g : Option Nat, (∀ q, g = some q → q ∉ p :: M :: footOf X ∧ q < w1.heap.size ∧ ∀ i (h : i < s.L.length), w1.cell? ⟨q, i, none⟩ = some (.string (bsL s.L[i].nm))) → CrashX w (p :: M :: footOf X) p M s (max keep 0).toNat g s X [] (max keep 0).toNat 0 w1 := fun g hg =>
      ⟨hd1, by rw [List.nil_append, List.drop_zero], rfl, rfl, by rw [List.nil_append, List.drop_zero], Turns.of_below hb, hg⟩
    rcases ho with ⟨rfl, hnil⟩ | ⟨g, cap, rfl, hbg, hgl, hc⟩
    · have h0 : s.L.length = 0 := by have := congrArg List.length hnil; rw [List.length_map] at this; exact this
      exact ⟨none, 0, by rw [h0], .inl h0, base none (fun q hq => by cases hq)⟩
    · rw [List.length_map] at *
      refine ⟨some ⟨g, 0, none⟩, cap, rfl, .inr ⟨g, rfl, base (some g) fun q hq => ?_⟩, base none (fun q hq => by cases hq)⟩
      cases hq
      refine ⟨fun hm => by have := hx.lt _ hm; omega, hgl, fun i hi => ?_⟩
      rw [hc i (by rw [List.length_map]; exact hi), List.getElem_map]
  have HST := Lib.hid hstart
  have hkeep : max keep 0 ≤ 9223372036854775807 := by omega
  clear hnm hlt hwf hx hstart
  go_enter Try.func20, Try.ntmps20
  go_wp2_with fail
  refine HNM.out.mono ?_
  rintro e w1 ⟨v, rfl, ho, hb⟩
  obtain ⟨ao, cap, rfl, hrow, hx0⟩ := HST.out w1 v ho hb
  clear ho hb
  obtain ⟨N, hN⟩ : ∃ N, s.L.length = N := ⟨_, rfl⟩
  have HNN := Lib.hid hN
  rw [hN] at hlen
  simp only [hN] at hrow ⊢
  clear hN
  rcases hrow with rfl | ⟨g, rfl, hx1⟩
  · have HX0 := Lib.hid (hx0.fin (by rw [HNN.out]; exact Nat.zero_le _))
    have hdisk := hx0.disk
    obtain ⟨d0, d1, d2, d3, d4⟩ := cells5 hdisk.blk
    have hfz := soft0 hdisk.blk
    clear hdisk hx0
    go_wp2_with fail
    refine wp_loop_rounds 1 ?_
    rw [rounds_succ]
    go_wp2_with fail
    go_end0
    exact ⟨rfl, HX0.out⟩
  · have HX1 := Lib.hid hx1
    clear hx0 hx1
    go_wp2_with fail
    go_loopw [1, 15] (fun v i wr => ∃ j st X' A K, j ≤ N ∧ v = .int .i64 ((K : Nat) : Int) ∧ i = .int .i64 ((j : Nat) : Int) ∧ K ≤ 9223372036854775807 ∧ CrashX w (p :: M :: footOf X) p M s (max keep 0).toNat (some g) st X' A K j wr) (fun _ i _ => N - (intOf i).toNat)
    case atStart => exact ⟨0, _, _, _, (max keep 0).toNat, Nat.zero_le _, by congr 1; omega, rfl, by omega, HX1.out⟩
    case round =>
      obtain ⟨j, st, X', A, K, hj, rfl, rfl, hK, hcx⟩ := hrel
      have HCX := Lib.hid hcx
      clear hcx HX1
      by_cases hlt : j < N
      · have hjs : j < s.L.length := by rw [HNN.out]; exact hlt
        obtain ⟨q1, q2, q3⟩ := HCX.out.row g rfl
        have hcell := q3 j hjs
        obtain ⟨x, hxx⟩ : ∃ x, s.L[j] = x := ⟨_, rfl⟩
        rw [hxx] at hcell
        have hstL : st.L = A ++ s.L.drop j := by rw [HCX.out.state]
        have hin : x ∈ st.L := by
          rw [hstL, ← hxx]
          exact List.mem_append_right _ (by rw [List.drop_eq_getElem_cons hjs]; exact List.mem_cons_self ..)
        obtain ⟨c, hc, hcx⟩ := HCX.out.disk.find (find_of HCX.out.disk.wf.rise hin)
        have hdisk := HCX.out.disk
        have hl := hdisk.look_some hc (bsL x.nm) (by rw [bsL_toList]; exact hcx.2.symm) (by rw [bsL_size]; have := hdisk.wf.name x hin; unfold maxLen; omega) wr rfl
        obtain ⟨v, hv, hov⟩ := hdisk.file c hc
        have hlast := hdisk.wf.lasts x hin
        have hroom := len_room hdisk.wf hin
        have hblk := cells5 hdisk.blk
        obtain ⟨d0, d1, d2, d3, d4⟩ := hblk
        obtain ⟨hcx1, hcx2⟩ := hcx
        obtain ⟨f, hf⟩ : ∃ f, c.f = f := ⟨_, rfl⟩
        obtain ⟨m, hm⟩ : ∃ m, x.n = m := ⟨_, rfl⟩
        obtain ⟨B, hB⟩ : ∃ B, x.b.length = B := ⟨_, rfl⟩
        obtain ⟨kk, hkk⟩ : ∃ kk, min K (B - m) = kk := ⟨_, rfl⟩
        rw [hm, hB] at hlast
        rw [hB] at hroom
        have hkb : m + kk ≤ B := by omega
        have hkK : kk ≤ K := by omega
        have hturn : ∀ (e : Ending) (w0 w1 : World) (ao : Option Addr) (cap : Nat), Below wr.heap.size wr w0 → Cloned w0 (x.b.take (m + kk)) e w1 → e = .returned (.slice ao (m + kk) cap) → ∀ d, ∃ st' X' A', CrashX w (p :: M :: footOf X) p M s (max keep 0).toNat (some g) st' X' A' (K - kk) (j + 1) (((w1.setCell ⟨f, 0, none⟩ (.slice ao (m + kk) cap)).setCell ⟨f, 1, none⟩ (.int .i64 ((m + kk : Nat) : Int))).drewN d) := by
          intro e w0 w1 ao cap hb0 hcl he d
          have ht := crash_turn hdisk hc (k := kk) (by rw [hcx1, hm, hB]; exact hkb) hv hb0 (e := e) (w1 := w1) (by rw [hcx1, hm]; exact hcl) (ao := ao) (cap := cap) (by rw [hcx1, hm]; exact he) d
          rw [hcx1, hm, hf] at ht
          have hkk2 : min K ((s.L[j]).b.length - (s.L[j]).n) = kk := by rw [hxx, hm, hB, hkk]
          have := HCX.out.next hjs HWF.out (f := f) (x := x) (w' := (((w1.setCell ⟨f, 0, none⟩ (.slice ao (m + kk) cap)).setCell ⟨f, 1, none⟩ (.int .i64 ((m + kk : Nat) : Int))).drewN d)) (by rw [hkk2, hxx]; exact ht)
          rw [hkk2] at this
          exact this
        obtain ⟨ao2, cap2, rfl, hao2, hcap2, hcl⟩ := clone_any hov (m + kk) (by rw [hcx1, hB]; exact hkb) (by rw [hcx1, hB]; omega)
        rw [hcx1] at hcl hv
        rw [hm, hB] at hv
        rw [hf] at hv hl
        rw [hcx1, hB] at hao2 hcap2
        have hmax : cap2 ≤ maxLen := by
          obtain ⟨_, _, hq, _, hmm⟩ := hov.form
          cases hq
          exact hmm
        unfold maxLen at hmax
        obtain ⟨f0, f1⟩ := cells2 hv
        have hclone : ∀ w0, Below wr.heap.size wr w0 → w0.heap = wr.heap → Calls Try.prog 46 #[.slice ao2 (m + kk) cap2] w0 fun e w' => (∃ ao cap, e = .returned (.slice ao (m + kk) cap) ∧ Cloned w0 (x.b.take (m + kk)) e w') ∧ w'.heap[f]? = some (.cells #[.slice ao2 B cap2, .int .i64 (m : Int)] 69 (0, 0)) := fun w0 hb0 hw0 => by
          refine (hcl w0 fun q hq => by rw [hw0]).mono fun e w' hc' => ⟨?_, ?_⟩
          · obtain ⟨ao, cap, r, he, ho, hr, hb⟩ := hc'
            have hlen : (x.b.take (m + kk)).length = m + kk := by rw [List.length_take]; omega
            rw [hlen] at he
            exact ⟨ao, cap, he, ⟨ao, cap, r, by rw [hlen]; exact he, ho, hr, hb⟩⟩
          · obtain ⟨ao, cap, r, he, ho, hr, hb⟩ := hc'
            exact (hb.block f (by rw [hw0]; exact heap_lt hv)).trans ((congrArg (fun h : Array Obj => h[f]?) hw0).trans hv)
        have HTURN := Lib.hid hturn; have HCLONE := Lib.hid hclone
        have hji : (j : Int) < (N : Int) := by omega
        have hj0 : (0 : Int) ≤ (j : Int) := by omega
        have w1' : IntKind.i64.wrap ((B : Int) - (m : Int)) = (B : Int) - (m : Int) := IntWalk.i64_in _ (by omega)
        have w2' : IntKind.i64.wrap ((m : Int) + (kk : Int)) = (m : Int) + (kk : Int) := IntWalk.i64_in _ (by omega)
        have w3' : ((m : Int) + (kk : Int)).toNat = m + kk := by omega
        have w4' : min (K : Int) ((B : Int) - (m : Int)) = (kk : Int) := by omega
        have w5' : (0 : Int) ≤ (m : Int) + (kk : Int) := by omega
        have w6' : (m : Int) + (kk : Int) ≤ (cap2 : Int) := by omega
        have w7' : (kk : Int) ≤ (K : Int) := by omega
        have w8' : (K : Int) ≤ 9223372036854775807 := by omega
        clear hturn hclone hcl hov hv hc hcx1 hcx2 hf hm hB hkk hin hstL hxx q1 q2 q3 d0 d2 d3 d4 hdisk hlast hkb hkK hj
        rcases hao2 with ⟨rfl, rfl, rfl⟩ | ⟨q, rfl⟩
        · obtain ⟨rfl, rfl⟩ : m = 0 ∧ kk = 0 := by omega
          have hcl0 : ∀ w0, Below wr.heap.size wr w0 → w0.heap = wr.heap → Calls Try.prog 46 #[.slice none 0 0] w0 fun e w' => (∃ ao cap, e = .returned (.slice ao 0 cap) ∧ Cloned w0 (x.b.take 0) e w') ∧ w'.heap[f]? = some (.cells #[.slice none 0 0, .int .i64 0] 69 (0, 0)) := HCLONE.out
          have HCL0 := Lib.hid hcl0
          have f0' : wr.cell? ⟨f, 0, none⟩ = some (.slice none 0 0) := f0
          have f1' : wr.cell? ⟨f, 1, none⟩ = some (.int .i64 0) := f1
          have w4'' : min (K : Int) 0 = 0 := by omega
          clear w1' w2' w3' w4' w5' w6' w7' hcl0 f0 f1 HCLONE
          go_wp2_with fail
          go_region
          go_wp2_with fail
          go_region_with ((go_at_call 46; refine (HCL0.out _ ((Below.refl _ _).drew.drew) rfl).mono ?_; rintro e w2 ⟨⟨ao3, cap3, rfl, hcl3⟩, hf3⟩; have HCL3 := Lib.hid hcl3; have HF3 := Lib.hid hf3; have z0 := (cells2 hf3).1; have zf := soft0 hf3; clear hcl3 hf3))
          all_goals
            go_wp2_with fail
            refine (fsync_any (m := (0 : Int)) (by rw [heap_set HF3.out]; rfl)).mono ?_
            rintro e w3 ⟨rfl, rfl⟩
            go_wp2_with fail
            obtain ⟨st', X2, A2, hn⟩ := HTURN.out _ _ _ _ _ ((Below.refl _ _).drew.drew) HCL3.out rfl 0
            refine ⟨⟨j + 1, st', X2, A2, K, hlt, by first | rfl | (congr 1; omega), by first | rfl | (congr 1; omega), by omega, ?_⟩, ?_⟩
            · exact hn
            · show N - ((j : Int) + 1).toNat < N - (j : Int).toNat
              omega
        · skip
          go_wp2_with fail
          go_region
          go_wp2_with fail
          go_region_with ((go_at_call 46; refine (HCLONE.out _ ((Below.refl _ _).drew.drew) rfl).mono ?_; rintro e w2 ⟨⟨ao3, cap3, rfl, hcl3⟩, hf3⟩; have HCL3 := Lib.hid hcl3; have HF3 := Lib.hid hf3; have z0 := (cells2 hf3).1; have zf := soft0 hf3; clear hcl3 hf3))
          all_goals
            go_wp2_with fail
            refine (fsync_any (m := (m : Int)) (by rw [heap_set HF3.out]; rfl)).mono ?_
            rintro e w3 ⟨rfl, rfl⟩
            go_wp2_with fail
            obtain ⟨st', X2, A2, hn⟩ := HTURN.out _ _ _ _ _ ((Below.refl _ _).drew.drew) HCL3.out rfl 0
            refine ⟨⟨j + 1, st', X2, A2, K - kk, hlt, by congr 1; omega, by first | rfl | (congr 1; omega), by omega, ?_⟩, ?_⟩
            · rw [show ((m : Int) + (kk : Int)) = ((m + kk : Nat) : Int) from by omega]
              exact hn
            · show N - ((j : Int) + 1).toNat < N - (j : Int).toNat
              omega
      · have hge : (N : Int) ≤ (j : Int) := by omega
        have HFIN := Lib.hid (HCX.out.fin (by rw [HNN.out]; omega))
        have hdisk := HCX.out.disk
        obtain ⟨d0, d1, d2, d3, d4⟩ := cells5 hdisk.blk
        have hfz := soft0 hdisk.blk
        clear hdisk
        go_wp2_with fail
        go_end0
        exact ⟨rfl, HFIN.out⟩
end Go.Proofs.Ytcbfghncdclonaa

/-
  A disk that a call has made for itself: what each call comes to on it.
-/
namespace Go.Proofs.Ytcbfghncdclonaa
open Go.RowKit Go.Maps Go.Lib
set_option linter.unusedSimpArgs false
set_option linter.unusedVariables false
/-- Append by what it comes to. -/
theorem append_is {w : World} {p : Nat} {s s' : Ds} {k : Nat} {S : List Nat} (h : DiskAt w p s S) (nm b : ByteArray) (hs : nm.size ≤ 140737488351232) (hb : b.size ≤ 140737488351232) {N B : List UInt8} (hN : nm.data.toList = N) (hB : b.data.toList = B) (he : appendS s N B = (s', k)) :
    Calls Try.prog 16 #[.pointer (some ⟨p, 0, none⟩), .string nm, .string b] w (Ends w p S (s', k)) := by
  have := append_any h nm b hs hb
  rw [hN, hB, he] at this
  exact this
theorem sync_is {w : World} {p : Nat} {s s' : Ds} {k : Nat} {S : List Nat} (h : DiskAt w p s S) (nm : ByteArray) (hs : nm.size ≤ maxLen) {N : List UInt8} (hN : nm.data.toList = N) (he : syncS s N = (s', k)) :
    Calls Try.prog 35 #[.pointer (some ⟨p, 0, none⟩), .string nm] w (Ends w p S (s', k)) := by
  have := sync_any h nm hs
  rw [hN, he] at this
  exact this
theorem cut_is {w : World} {p : Nat} {s s' : Ds} {k : Nat} {S : List Nat} (h : DiskAt w p s S) (nm : ByteArray) (hs : nm.size ≤ maxLen) (n : Int) (hk0 : -9223372036854775808 ≤ n) (hk1 : n ≤ 9223372036854775807) {N : List UInt8} (hN : nm.data.toList = N) (he : cutS s N n = (s', k)) :
    Calls Try.prog 33 #[.pointer (some ⟨p, 0, none⟩), .string nm, .int .i64 n] w (Ends w p S (s', k)) := by
  have := cut_any h nm hs n hk0 hk1
  rw [hN, he] at this
  exact this
theorem crash_is {w : World} {p : Nat} {s s' : Ds} {S : List Nat} (h : DiskAt w p s S) (n : Int) (hk0 : -9223372036854775808 ≤ n) (hk1 : n ≤ 9223372036854775807) (he : crashS s n = s') :
    Calls Try.prog 20 #[.pointer (some ⟨p, 0, none⟩), .int .i64 n] w fun e w' => e = .returned (.tuple #[]) ∧ ∃ S', DiskAt w' p s' S' ∧ Turns S S' w w' := by
  have := crash_any h n hk0 hk1
  unfold CrashEnd at this
  rw [he] at this
  exact this
theorem read_is {w : World} {p : Nat} {s : Ds} {S : List Nat} (h : DiskAt w p s S) (nm : ByteArray) (hs : nm.size ≤ maxLen) {N B : List UInt8} (hN : nm.data.toList = N) (he : readS s N = B) :
    Calls Try.prog 18 #[.pointer (some ⟨p, 0, none⟩), .string nm] w fun e w' => e = .returned (.string (bsL B)) ∧ w = w' := by
  have := read_any h nm hs
  rw [hN, he] at this
  exact this
theorem last_is {w : World} {p : Nat} {s : Ds} {S : List Nat} (h : DiskAt w p s S) (nm : ByteArray) (hs : nm.size ≤ maxLen) {N B : List UInt8} (hN : nm.data.toList = N) (he : lastS s N = B) :
    Calls Try.prog 51 #[.pointer (some ⟨p, 0, none⟩), .string nm] w fun e w' => e = .returned (.string (bsL B)) ∧ Below w.heap.size w w' := by
  have := last_any h nm hs
  rw [hN, he] at this
  exact this
/-- A disk that a call has made for itself: what it turns lies above. -/
def Mine (B : Nat) (w : World) (p : Nat) (s : Ds) (w' : World) : Prop := ∃ S, DiskAt w' p s S ∧ (∀ k ∈ S, B ≤ k) ∧ Below B w w'
theorem Mine.made {B : Nat} {w0 w : World} {s : Ds} {e : Ending} {w' : World} (h0 : Below B w0 w) (hB : B ≤ w.heap.size) (h : Made s w e w') : ∃ p, e = .returned (.pointer (some ⟨p, 0, none⟩)) ∧ Mine B w0 p s w' := by
  obtain ⟨p, S, he, hd, ht⟩ := h
  refine ⟨p, he, S, hd, fun k hk => ?_, h0.trans (ht.below (fun k h => by cases h) hB)⟩
  rcases ht.foot k hk with h1 | h1
  · cases h1
  · omega
theorem Mine.step {B : Nat} {w0 w w' : World} {p : Nat} {s' : Ds} {S S' : List Nat} (hm : (∀ k ∈ S, B ≤ k) ∧ Below B w0 w) (hB : B ≤ w.heap.size) (hd : DiskAt w' p s' S') (ht : Turns S S' w w') : Mine B w0 p s' w' := by
  refine ⟨S', hd, fun k hk => ?_, hm.2.trans (ht.below hm.1 hB)⟩
  rcases ht.foot k hk with h1 | h1
  · exact hm.1 k h1
  · omega
theorem Mine.keep {B : Nat} {w0 w w' : World} {p : Nat} {s : Ds} (h : Mine B w0 p s w) (hB : B ≤ w.heap.size) (hb : Below w.heap.size w w') : Mine B w0 p s w' := by
  obtain ⟨S, h1, h2, h3⟩ := h
  exact ⟨S, h1.below hb, h2, h3.trans (hb.mono hB)⟩
theorem Mine.size {B : Nat} {w0 w : World} {p : Nat} {s : Ds} (h : Mine B w0 p s w) (hB : B ≤ w0.heap.size) : B ≤ w.heap.size := by
  obtain ⟨S, h1, h2, h3⟩ := h
  exact Nat.le_trans hB h3.size
/-- What each call comes to on such a disk. -/
theorem Mine.append {B : Nat} {w0 w : World} {p : Nat} {s s' : Ds} {k : Nat} (h : Mine B w0 p s w) (hB : B ≤ w0.heap.size) (nm b : ByteArray) (hs : nm.size ≤ 140737488351232) (hb : b.size ≤ 140737488351232) {N C : List UInt8} (hN : nm.data.toList = N) (hC : b.data.toList = C) (he : appendS s N C = (s', k)) :
    Calls Try.prog 16 #[.pointer (some ⟨p, 0, none⟩), .string nm, .string b] w fun e w' => e = .returned (.int .u16 (k : Int)) ∧ Mine B w0 p s' w' := by
  have hsz := h.size hB
  obtain ⟨S, h1, h2, h3⟩ := h
  exact (append_is h1 nm b hs hb hN hC he).mono fun e w' ⟨q1, S', q2, q3⟩ => ⟨q1, Mine.step ⟨h2, h3⟩ hsz q2 q3⟩
theorem Mine.sync {B : Nat} {w0 w : World} {p : Nat} {s s' : Ds} {k : Nat} (h : Mine B w0 p s w) (hB : B ≤ w0.heap.size) (nm : ByteArray) (hs : nm.size ≤ maxLen) {N : List UInt8} (hN : nm.data.toList = N) (he : syncS s N = (s', k)) :
    Calls Try.prog 35 #[.pointer (some ⟨p, 0, none⟩), .string nm] w fun e w' => e = .returned (.int .u16 (k : Int)) ∧ Mine B w0 p s' w' := by
  have hsz := h.size hB
  obtain ⟨S, h1, h2, h3⟩ := h
  exact (sync_is h1 nm hs hN he).mono fun e w' ⟨q1, S', q2, q3⟩ => ⟨q1, Mine.step ⟨h2, h3⟩ hsz q2 q3⟩
theorem Mine.cut {B : Nat} {w0 w : World} {p : Nat} {s s' : Ds} {k : Nat} (h : Mine B w0 p s w) (hB : B ≤ w0.heap.size) (nm : ByteArray) (hs : nm.size ≤ maxLen) (n : Int) (hk0 : -9223372036854775808 ≤ n) (hk1 : n ≤ 9223372036854775807) {N : List UInt8} (hN : nm.data.toList = N) (he : cutS s N n = (s', k)) :
    Calls Try.prog 33 #[.pointer (some ⟨p, 0, none⟩), .string nm, .int .i64 n] w fun e w' => e = .returned (.int .u16 (k : Int)) ∧ Mine B w0 p s' w' := by
  have hsz := h.size hB
  obtain ⟨S, h1, h2, h3⟩ := h
  exact (cut_is h1 nm hs n hk0 hk1 hN he).mono fun e w' ⟨q1, S', q2, q3⟩ => ⟨q1, Mine.step ⟨h2, h3⟩ hsz q2 q3⟩
theorem Mine.crash {B : Nat} {w0 w : World} {p : Nat} {s s' : Ds} (h : Mine B w0 p s w) (hB : B ≤ w0.heap.size) (n : Int) (hk0 : -9223372036854775808 ≤ n) (hk1 : n ≤ 9223372036854775807) (he : crashS s n = s') :
    Calls Try.prog 20 #[.pointer (some ⟨p, 0, none⟩), .int .i64 n] w fun e w' => e = .returned (.tuple #[]) ∧ Mine B w0 p s' w' := by
  have hsz := h.size hB
  obtain ⟨S, h1, h2, h3⟩ := h
  exact (crash_is h1 n hk0 hk1 he).mono fun e w' ⟨q1, S', q2, q3⟩ => ⟨q1, Mine.step ⟨h2, h3⟩ hsz q2 q3⟩
theorem Mine.fuse {B : Nat} {w0 w : World} {p : Nat} {s s' : Ds} (h : Mine B w0 p s w) (hB : B ≤ w0.heap.size) (n : Int) (hk0 : -9223372036854775808 ≤ n) (hk1 : n ≤ 9223372036854775807) (he : fuseS s n = s') :
    Calls Try.prog 19 #[.pointer (some ⟨p, 0, none⟩), .int .i64 n] w fun e w' => e = .returned (.tuple #[]) ∧ Mine B w0 p s' w' := by
  have hsz := h.size hB
  obtain ⟨S, h1, h2, h3⟩ := h
  subst he
  exact (fuse_any h1 n hk0 hk1).mono fun e w' ⟨q1, q2, q3⟩ => ⟨q1, Mine.step ⟨h2, h3⟩ hsz q2 q3⟩
theorem Mine.read {B : Nat} {w0 w : World} {p : Nat} {s : Ds} (h : Mine B w0 p s w) (nm : ByteArray) (hs : nm.size ≤ maxLen) {N C : List UInt8} (hN : nm.data.toList = N) (he : readS s N = C) :
    Calls Try.prog 18 #[.pointer (some ⟨p, 0, none⟩), .string nm] w fun e w' => e = .returned (.string (bsL C)) ∧ Mine B w0 p s w' := by
  obtain ⟨S, h1, h2, h3⟩ := h
  exact (read_is h1 nm hs hN he).mono fun e w' ⟨q1, q2⟩ => ⟨q1, q2 ▸ ⟨S, h1, h2, h3⟩⟩
theorem Mine.last {B : Nat} {w0 w : World} {p : Nat} {s : Ds} (h : Mine B w0 p s w) (hB : B ≤ w0.heap.size) (nm : ByteArray) (hs : nm.size ≤ maxLen) {N C : List UInt8} (hN : nm.data.toList = N) (he : lastS s N = C) :
    Calls Try.prog 51 #[.pointer (some ⟨p, 0, none⟩), .string nm] w fun e w' => e = .returned (.string (bsL C)) ∧ Mine B w0 p s w' := by
  have hsz := h.size hB
  have h' := h
  obtain ⟨S, h1, h2, h3⟩ := h
  exact (last_is h1 nm hs hN he).mono fun e w' ⟨q1, q2⟩ => ⟨q1, h'.keep hsz q2⟩
theorem Mine.dead {B : Nat} {w0 w : World} {p : Nat} {s : Ds} (h : Mine B w0 p s w) {d : Bool} (he : s.dead = d) :
    Calls Try.prog 27 #[.pointer (some ⟨p, 0, none⟩)] w fun e w' => e = .returned (.bool d) ∧ Mine B w0 p s w' := by
  obtain ⟨S, h1, h2, h3⟩ := h
  subst he
  exact (dead_any h1).mono fun e w' ⟨q1, q2⟩ => ⟨q1, q2 ▸ ⟨S, h1, h2, h3⟩⟩
theorem Mine.used {B : Nat} {w0 w : World} {p : Nat} {s : Ds} (h : Mine B w0 p s w) (hB : B ≤ w0.heap.size) {n : Nat} (he : usedL s.L = n) :
    Calls Try.prog 39 #[.pointer (some ⟨p, 0, none⟩)] w fun e w' => e = .returned (.int .i64 (n : Int)) ∧ Mine B w0 p s w' := by
  have hsz := h.size hB
  have h' := h
  obtain ⟨S, h1, h2, h3⟩ := h
  subst he
  exact (used_any h1).mono fun e w' ⟨q1, q2⟩ => ⟨q1, h'.keep hsz q2⟩
theorem Mine.new {B : Nat} {w0 w : World} (h0 : Below B w0 w) (hB : B ≤ w.heap.size) (room : Int) {s : Ds} (he : newS room = s) :
    Calls Try.prog 11 #[.int .i64 room] w fun e w' => ∃ p, e = .returned (.pointer (some ⟨p, 0, none⟩)) ∧ Mine B w0 p s w' := by
  subst he
  exact (new_any room w).mono fun e w' h => Mine.made h0 hB h
theorem Mine.below {B : Nat} {w0 w : World} {p : Nat} {s : Ds} (h : Mine B w0 p s w) : Below B w0 w := by
  obtain ⟨S, h1, h2, h3⟩ := h
  exact h3
theorem bsL_tl (l : List UInt8) : (bsL l).toList = l := by rw [ByteArray.toList_eq, bsL_toList]
theorem below_trs {B : Nat} {w w1 w2 : World} (h : Below B w w1) (hB : B ≤ w.heap.size) (h2 : Below w1.heap.size w1 w2) : Below B w w2 := h.trans (h2.mono (Nat.le_trans hB h.size))
end Go.Proofs.Ytcbfghncdclonaa

/-
  A disk of one file, in plain words: what each call makes of it.
-/
namespace Go.Proofs.Ytcbfghncdclonaa
set_option linter.unusedSimpArgs false
set_option linter.unusedVariables false
def S1 (nm : Nm) (R : Nat) (x : List UInt8) (n : Nat) (fu : Bool) (l : Nat) (d : Bool) : Ds := ⟨R, [⟨nm, x, n⟩], fu, l, d⟩
theorem bytes_free (nm : Nm) (R n l : Nat) : ∀ (b x : List UInt8), bytesS (S1 nm R x n false l false) nm b = (S1 nm R (x ++ b) n false l false, 0)
  | [], x => by rw [List.append_nil]; rfl
  | c :: t, x => by
    have h : bytesS (S1 nm R x n false l false) nm (c :: t) = bytesS (turnS (stepS (S1 nm R x n false l false)) nm (addC c)) nm t := rfl
    have h2 : turnS (stepS (S1 nm R x n false l false)) nm (addC c) = S1 nm R (x ++ [c]) n false l false := by
      unfold turnS stepS S1 setF addC
      simp
    rw [h, h2, bytes_free nm R n l t, List.append_assoc]
    rfl
theorem bytes_fuse (nm : Nm) (R n : Nat) : ∀ (b x : List UInt8) (l : Nat), bytesS (S1 nm R x n true l false) nm b = if b.length ≤ l then (S1 nm R (x ++ b) n true (l - b.length) false, 0) else (S1 nm R (x ++ b.take l) n true 0 true, 21)
  | [], x, l => by rw [List.append_nil, if_pos (show ([] : List UInt8).length ≤ l from Nat.zero_le _)]; rfl
  | c :: t, x, 0 => by
    rw [if_neg (by simp), List.take_zero, List.append_nil]
    rfl
  | c :: t, x, l + 1 => by
    have h : bytesS (S1 nm R x n true (l + 1) false) nm (c :: t) = bytesS (turnS (stepS (S1 nm R x n true (l + 1) false)) nm (addC c)) nm t := rfl
    have h2 : turnS (stepS (S1 nm R x n true (l + 1) false)) nm (addC c) = S1 nm R (x ++ [c]) n true l false := by
      unfold turnS stepS S1 setF addC
      simp
    rw [h, h2, bytes_fuse nm R n t, List.append_assoc]
    by_cases hl : t.length ≤ l
    · rw [if_pos hl, if_pos (by rw [List.length_cons]; omega), List.length_cons, show l + 1 - (t.length + 1) = l - t.length from by omega]
      rfl
    · rw [if_neg hl, if_neg (by rw [List.length_cons]; omega), List.append_assoc]
      rfl
theorem find_one (nm : Nm) (x : List UInt8) (n : Nat) : findF [⟨nm, x, n⟩] nm = some ⟨nm, x, n⟩ := by unfold findF; simp
theorem used_one (nm : Nm) (x : List UInt8) (n : Nat) : usedL [⟨nm, x, n⟩] = x.length := by unfold usedL; simp
theorem append_new (nm : Nm) (hn : nm ≠ []) (R l : Nat) (fu : Bool) (b : List UInt8) (hb : b.length ≤ R) : appendS ⟨R, [], fu, l, false⟩ nm b = bytesS (S1 nm R [] 0 fu l false) nm b := by
  have h1 : findF ([] : List Fl) nm = none := rfl
  unfold appendS
  rw [if_neg (by simp), if_neg (by
    rintro (h | ⟨_, h⟩)
    · exact hn h
    · have : ([] : List Fl).length = 0 := rfl
      rw [this] at h
      omega), if_neg (by
    have : usedL ([] : List Fl) = 0 := rfl
    rw [this]
    show ¬ R < 0 + b.length
    omega)]
  rfl
theorem append_old (nm : Nm) (hn : nm ≠ []) (R n l : Nat) (fu : Bool) (x b : List UInt8) (hb : x.length + b.length ≤ R) : appendS (S1 nm R x n fu l false) nm b = bytesS (S1 nm R x n fu l false) nm b := by
  have h1 : findF (S1 nm R x n fu l false).L nm = some ⟨nm, x, n⟩ := find_one nm x n
  have h2 : usedL (S1 nm R x n fu l false).L = x.length := used_one nm x n
  have h3 : withF (S1 nm R x n fu l false) nm = S1 nm R x n fu l false := by
    unfold withF
    rw [h1]
    rfl
  unfold appendS
  rw [if_neg (by show ¬ false = true; simp), if_neg (by
    rintro (h | ⟨h, _⟩)
    · exact hn h
    · rw [h1] at h
      cases h), if_neg (by rw [h2]; show ¬ R < _; omega), h3]
theorem append_off (nm : Nm) (R n l : Nat) (fu : Bool) (x b : List UInt8) (nm' : Nm) : appendS (S1 nm R x n fu l true) nm' b = (S1 nm R x n fu l true, 21) := rfl
theorem sync_one (nm : Nm) (R n l : Nat) (x : List UInt8) : syncS (S1 nm R x n false l false) nm = (S1 nm R x x.length false l false, 0) := by
  have h1 : findF (S1 nm R x n false l false).L nm = some ⟨nm, x, n⟩ := find_one nm x n
  unfold syncS
  rw [h1, if_neg (by show ¬ false = true; simp), if_neg (by simp)]
  unfold doS
  rw [if_neg (by show ¬ (false || (false && _)) = true; simp)]
  unfold turnS stepS S1 setF syncF
  simp
theorem sync_left (nm : Nm) (R n l : Nat) (x : List UInt8) : syncS (S1 nm R x n true (l + 1) false) nm = (S1 nm R x x.length true l false, 0) := by
  have h1 : findF (S1 nm R x n true (l + 1) false).L nm = some ⟨nm, x, n⟩ := find_one nm x n
  unfold syncS
  rw [h1, if_neg (by show ¬ false = true; simp), if_neg (by simp)]
  unfold doS
  rw [if_neg (by show ¬ (false || (true && (l + 1 == 0))) = true; simp)]
  unfold turnS stepS S1 setF syncF
  simp
theorem sync_none (nm : Nm) (R n : Nat) (x : List UInt8) : syncS (S1 nm R x n true 0 false) nm = (S1 nm R x n true 0 true, 21) := by
  have h1 : findF (S1 nm R x n true 0 false).L nm = some ⟨nm, x, n⟩ := find_one nm x n
  unfold syncS
  rw [h1, if_neg (by show ¬ false = true; simp), if_neg (by simp)]
  rfl
theorem sync_off (nm : Nm) (R n l : Nat) (fu : Bool) (x : List UInt8) (nm' : Nm) : syncS (S1 nm R x n fu l true) nm' = (S1 nm R x n fu l true, 21) := rfl
theorem cut_one (nm : Nm) (R n l k : Nat) (x : List UInt8) (hk : k ≤ x.length) : cutS (S1 nm R x n false l false) nm (k : Int) = (S1 nm R (x.take k) (min n k) false l false, 0) := by
  have h1 : findF (S1 nm R x n false l false).L nm = some ⟨nm, x, n⟩ := find_one nm x n
  unfold cutS
  rw [h1, if_neg (by show ¬ false = true; simp)]
  show (if (k : Int) < 0 ∨ (x.length : Int) < (k : Int) then _ else doS _ nm (cutF (k : Int).toNat)) = _
  rw [if_neg (by omega), Int.toNat_natCast]
  unfold doS
  rw [if_neg (by show ¬ (false || (false && _)) = true; simp)]
  unfold turnS stepS S1 setF cutF
  simp
theorem cut_left (nm : Nm) (R n l k : Nat) (x : List UInt8) (hk : k ≤ x.length) : cutS (S1 nm R x n true (l + 1) false) nm (k : Int) = (S1 nm R (x.take k) (min n k) true l false, 0) := by
  have h1 : findF (S1 nm R x n true (l + 1) false).L nm = some ⟨nm, x, n⟩ := find_one nm x n
  unfold cutS
  rw [h1, if_neg (by show ¬ false = true; simp)]
  show (if (k : Int) < 0 ∨ (x.length : Int) < (k : Int) then _ else doS _ nm (cutF (k : Int).toNat)) = _
  rw [if_neg (by omega), Int.toNat_natCast]
  unfold doS
  rw [if_neg (by show ¬ (false || (true && (l + 1 == 0))) = true; simp)]
  unfold turnS stepS S1 setF cutF
  simp
theorem cut_none (nm : Nm) (R n k : Nat) (x : List UInt8) (hk : k ≤ x.length) : cutS (S1 nm R x n true 0 false) nm (k : Int) = (S1 nm R x n true 0 true, 21) := by
  have h1 : findF (S1 nm R x n true 0 false).L nm = some ⟨nm, x, n⟩ := find_one nm x n
  unfold cutS
  rw [h1, if_neg (by show ¬ false = true; simp)]
  show (if (k : Int) < 0 ∨ (x.length : Int) < (k : Int) then _ else doS _ nm (cutF (k : Int).toNat)) = _
  rw [if_neg (by omega)]
  rfl
theorem cut_off (nm : Nm) (R n l : Nat) (fu : Bool) (x : List UInt8) (nm' : Nm) (k : Int) : cutS (S1 nm R x n fu l true) nm' k = (S1 nm R x n fu l true, 21) := rfl
theorem crash_one (nm : Nm) (R n l k : Nat) (fu d : Bool) (x : List UInt8) : crashS (S1 nm R x n fu l d) (k : Int) = S1 nm R (x.take (n + min k (x.length - n))) (n + min k (x.length - n)) false 0 false := by
  unfold crashS S1
  rw [show (max (k : Int) 0).toNat = k from by omega]
  rfl
theorem fuse_one (nm : Nm) (R n l k : Nat) (fu d : Bool) (x : List UInt8) : fuseS (S1 nm R x n fu l d) (k : Int) = S1 nm R x n true k d := by
  unfold fuseS S1
  rw [show (max (k : Int) 0).toNat = k from by omega, decide_eq_true (by omega)]
theorem read_one (nm : Nm) (R n l : Nat) (fu : Bool) (x : List UInt8) : readS (S1 nm R x n fu l false) nm = x := by
  have h1 : findF (S1 nm R x n fu l false).L nm = some ⟨nm, x, n⟩ := find_one nm x n
  unfold readS
  rw [h1]
  rfl
theorem last_one (nm : Nm) (R n l : Nat) (fu d : Bool) (x : List UInt8) : lastS (S1 nm R x n fu l d) nm = x.take n := by
  have h1 : findF (S1 nm R x n fu l d).L nm = some ⟨nm, x, n⟩ := find_one nm x n
  unfold lastS
  rw [h1]
theorem dl (s : ByteArray) : s.data.toList.length = s.size := Array.length_toList
theorem app_dl (x y : ByteArray) : (x ++ y).data.toList = x.data.toList ++ y.data.toList := by rw [ByteArray.data_append, Array.toList_append]
theorem extract_bs (s : ByteArray) (i j : Nat) : s.extract i j = bsL ((s.data.toList.take j).drop i) := by
  apply ByteArray.ext
  apply Array.toList_inj.mp
  rw [ByteArray.data_extract, Array.toList_extract, List.extract_eq_take_drop, bsL_toList, List.drop_take]
end Go.Proofs.Ytcbfghncdclonaa
