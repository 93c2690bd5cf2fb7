/-
  Texts of this session, merged in build order: Reg, Reg2, PTurn, PTurn2, PSome, PConcat, Reg3, PChange, PChange2.
-/
import Derived.Test.YtkdicgendcdooaaDoorZC0
import Derived.Orders
import Derived.RegionTactic
import Derived.BigCall
import Derived.Test.YtkdicgendcdooaaDoorZC1
import Derived.RangeFuncNested
import Derived.RangeFuncBound
import Derived.RangeFuncCalls
import Derived.Shelf.RegionOpen
import Derived.BigGuardIn
import Derived.OwnWalkIn
import Derived.TacticsInMore
import Derived.LoopNIn
import Derived.LoopIn
import Derived.BigRegionIn
import Derived.RangeFuncFrom
import Derived.Lib.SlicesS
set_option linter.unusedVariables false
set_option linter.unusedSimpArgs false
/-
  A region that draws its order and whose operations each make a value (calls, loads, moves, allocations), the last one resting on all others: each operation shown once, in whatever order they come.
-/
namespace Go.Proofs.YtkdicgendcdooaaDoor
open Go.RowKit Go.Lib
set_option linter.unusedSimpArgs false
set_option linter.unusedVariables false
section
variable {P : Program} {ops : Array Oper} {Q : Exit → Act → World → Prop} {md : Region.Mode}
theorem cnt_list : ∀ (l : List Bool) (i : Nat), l[i]? = some false → ((l.set i true).filter id).length = (l.filter id).length + 1
  | [], i, h => by simp at h
  | c :: l, 0, h => by
    obtain rfl : c = false := by simpa using h
    simp
  | c :: l, i + 1, h => by
    have := cnt_list l i (by simpa using h)
    cases c <;> simp [this]
theorem cnt_set (listed : Array Bool) (i : Nat) (h : listed.getD i true = false) : ((listed.setIfInBounds i true).toList.filter id).length = (listed.toList.filter id).length + 1 := by
  rw [Array.toList_setIfInBounds]
  refine cnt_list _ _ ?_
  by_cases hi : i < listed.size
  · rw [Array.getElem?_toList, Array.getElem?_eq_getElem hi]
    simpa [Array.getD, hi] using h
  · simp [Array.getD, hi] at h
/-- In whatever order: what each operation keeps holds behind all of them. -/
theorem any_inv (I : Array Bool → Act → World → Prop)
    (hstep : ∀ listed a w i, I listed a w → i ∈ Region.ready md ops listed → wpOp P ops Q i (fun a' w' => I (listed.setIfInBounds i true) a' w') a w)
    (hend : ∀ listed a w, I listed a w → Region.ready md ops listed = [] → Q .normal a w)
    (hlast : ∀ listed a w, I listed a w → ops.size ≤ (listed.toList.filter id).length → Region.ready md ops listed = []) :
    ∀ (fuel : Nat) (listed : Array Bool) (a : Act) (w : World), ops.size ≤ fuel + (listed.toList.filter id).length → I listed a w → wpAny P md ops Q fuel listed a w
  | 0, listed, a, w, hf, hI => ⟨hlast _ _ _ hI (by omega), hend _ _ _ hI (hlast _ _ _ hI (by omega))⟩
  | fuel + 1, listed, a, w, hf, hI => ⟨fun h => hend _ _ _ hI h, fun i hi =>
      wpOp_mono (fun a' w' h => any_inv I hstep hend hlast fuel _ a' w' (by rw [cnt_set _ _ (mem_ready.1 hi).1]; omega) h) (hstep _ _ _ _ hI hi)⟩
def dstOf (ops : Array Oper) (i : Nat) : Option Nat := (ops[i]?).bind (·.dst)
def dstsOf (ops : Array Oper) : List (Option Nat) := ops.toList.map (·.dst)
def bindsOn (md : Region.Mode) (ops : Array Oper) (i j : Nat) : Bool := ((ops[i]?).map (·.after.any fun e => Region.binds md e && e.on == j)).getD false
def fillT : List (Option Nat) → List Value → Array Value → Array Value
  | some d :: ds, v :: vs, t => (fillT ds vs t).setIfInBounds d v
  | none :: ds, _ :: vs, t => fillT ds vs t
  | _, _, t => t
def apartD : List (Option Nat) → Bool
  | some d :: ds => !ds.contains (some d) && apartD ds
  | none :: ds => apartD ds
  | [] => true
def regOK (md : Region.Mode) (ops : Array Oper) (n L : Nat) : Bool :=
  ops.size == L + 1 && apartD (dstsOf ops) && (dstsOf ops).all (fun o => match o with | some d => decide (d < n) | none => true)
    && (List.range ops.size).all (fun i => ((ops[i]?).map (·.after.all fun e => !Region.binds md e || decide (e.on < i))).getD true)
    && (List.range L).all (fun j => bindsOn md ops L j)
theorem fillT_size : ∀ (ds : List (Option Nat)) (vs : List Value) (t : Array Value), (fillT ds vs t).size = t.size
  | some d :: ds, v :: vs, t => by simp [fillT, fillT_size ds vs t]
  | none :: ds, _ :: vs, t => by simp [fillT, fillT_size ds vs t]
  | [], _, t => rfl
  | some _ :: _, [], t => rfl
  | none :: _, [], t => rfl
theorem fillT_keep : ∀ (ds : List (Option Nat)) (vs : List Value) (t : Array Value) (d : Nat), some d ∉ ds → (fillT ds vs t).getD d undef = t.getD d undef
  | some e :: ds, v :: vs, t, d, h => by
    have h1 : d ≠ e := fun he => h (by rw [he]; exact List.mem_cons_self)
    have h2 := fillT_keep ds vs t d (fun hm => h (List.mem_cons_of_mem _ hm))
    rw [fillT]
    simp only [Array.getD_eq_getD_getElem?] at h2 ⊢
    rw [Array.getElem?_setIfInBounds_ne (fun he => h1 he.symm)]
    exact h2
  | none :: ds, _ :: vs, t, d, h => fillT_keep ds vs t d (fun hm => h (List.mem_cons_of_mem _ hm))
  | [], _, t, _, _ => rfl
  | some _ :: _, [], t, _, _ => rfl
  | none :: _, [], t, _, _ => rfl
theorem fillT_get : ∀ (ds : List (Option Nat)) (vs : List Value) (t : Array Value) (i d : Nat), apartD ds = true → ds[i]? = some (some d) → vs.length = ds.length → d < t.size → (fillT ds vs t).getD d undef = vs.getD i undef
  | some e :: ds, v :: vs, t, 0, d, _, hi, _, hd => by
    obtain rfl : e = d := by simpa using hi
    rw [fillT]
    simp [Array.getD_eq_getD_getElem?, fillT_size, hd]
  | some e :: ds, v :: vs, t, i + 1, d, ha, hi, hl, hd => by
    have hi' : ds[i]? = some (some d) := by simpa using hi
    have h1 : e ≠ d := fun he => by
      have hm : some d ∈ ds := List.mem_of_getElem? hi'
      simp [apartD, he, hm] at ha
    rw [fillT]
    have h2 := fillT_get ds vs t i d (by simp [apartD] at ha; exact ha.2) hi' (by simpa using hl) hd
    simp only [Array.getD_eq_getD_getElem?] at h2 ⊢
    rw [Array.getElem?_setIfInBounds_ne h1, h2]
    simp
  | none :: ds, v :: vs, t, 0, d, _, hi, _, _ => by simp at hi
  | none :: ds, v :: vs, t, i + 1, d, ha, hi, hl, hd => by
    rw [fillT, fillT_get ds vs t i d (by simpa [apartD] using ha) (by simpa using hi) (by simpa using hl) hd]
    simp
  | [], _, t, i, d, _, hi, _, _ => by simp at hi
  | some _ :: _, [], _, _, _, _, _, hl, _ => by simp at hl
  | none :: _, [], _, _, _, _, _, hl, _ => by simp at hl
theorem fillT_set : ∀ (ds : List (Option Nat)) (vs : List Value) (t : Array Value) (i d : Nat) (v : Value), apartD ds = true → ds[i]? = some (some d) → vs.length = ds.length → (fillT ds vs t).setIfInBounds d v = fillT ds (vs.set i v) t
  | some e :: ds, u :: vs, t, 0, d, v, _, hi, _ => by
    obtain rfl : e = d := by simpa using hi
    rw [List.set_cons_zero, fillT, fillT]
    simp
  | some e :: ds, u :: vs, t, i + 1, d, v, ha, hi, hl => by
    have hi' : ds[i]? = some (some d) := by simpa using hi
    have h1 : e ≠ d := fun he => by
      have hm : some d ∈ ds := List.mem_of_getElem? hi'
      simp [apartD, he, hm] at ha
    rw [List.set_cons_succ, fillT, fillT, ← fillT_set ds vs t i d v (by simp [apartD] at ha; exact ha.2) hi' (by simpa using hl)]
    exact Array.setIfInBounds_comm _ _ h1
  | none :: ds, u :: vs, t, 0, d, v, _, hi, _ => by simp at hi
  | none :: ds, u :: vs, t, i + 1, d, v, ha, hi, hl => by
    rw [List.set_cons_succ, fillT, fillT]
    exact fillT_set ds vs t i d v (by simpa [apartD] using ha) (by simpa using hi) (by simpa using hl)
  | [], _, t, i, d, _, _, hi, _ => by simp at hi
  | some _ :: _, [], _, _, _, _, _, _, hl => by simp at hl
  | none :: _, [], _, _, _, _, _, _, hl => by simp at hl
theorem fillT_init : ∀ (ds : List (Option Nat)) (t : Array Value), fillT ds (ds.map fun o => match o with | some d => t.getD d undef | none => undef) t = t
  | [], t => rfl
  | some d :: ds, t => by
    rw [List.map_cons, fillT, fillT_init ds t]
    apply Array.ext
    · simp
    · intro i h1 h2
      rw [Array.getElem_setIfInBounds h2]
      split
      · rename_i he; subst he; simp [Array.getD, h2]
      · rfl
  | none :: ds, t => by
    rw [List.map_cons, fillT, fillT_init ds t]
/-- Blocks that the region has made, each with a tag. -/
def Owned := List (Nat × Nat)
def Owned.has (o : Owned) (k t : Nat) : Prop := List.Mem (k, t) o
instance : Membership Nat Owned where
  mem o k := ∃ t, Owned.has o k t
def Owned.none : Owned := ([] : List (Nat × Nat))
def Owned.add (o : Owned) (k t : Nat) : Owned := List.cons (k, t) o
theorem Owned.not_none (k : Nat) : k ∉ Owned.none := by
  rintro ⟨t, h⟩
  cases h
theorem Owned.has_add (o : Owned) (k t : Nat) : (o.add k t).has k t := List.Mem.head _
theorem Owned.has_more {o : Owned} {k t k' t' : Nat} (h : o.has k t) : (o.add k' t').has k t := List.Mem.tail _ h
theorem Owned.of_add {o : Owned} {k t k' t' : Nat} (h : (o.add k' t').has k t) : (k = k' ∧ t = t') ∨ o.has k t := by
  unfold Owned.has Owned.add at h
  cases h with
  | head => exact .inl ⟨rfl, rfl⟩
  | tail _ h => exact .inr h
def Own (w0 : World) (own : Owned) (W : World) : Prop := (∀ k ∈ own, w0.heap.size ≤ k ∧ k < W.heap.size) ∧ ∀ k t t', own.has k t → own.has k t' → t = t'
def Grows (own own' : Owned) (W : World) : Prop := (∀ k t, own.has k t → own'.has k t) ∧ ∀ k ∈ own', k ∈ own ∨ W.heap.size ≤ k
theorem Own.none (w0 W : World) : Own w0 Owned.none W := ⟨fun k hk => absurd hk (Owned.not_none k), fun k t t' h => by cases h⟩
def Makes (P : Program) (ops : Array Oper) (Q : Exit → Act → World → Prop) (md : Region.Mode) (a0 : Act) (w0 : World) (Pre : Nat → Owned → World → Value → Prop) (i : Nat) : Prop :=
  ∀ own a W, Below w0.heap.size w0 W → Own w0 own W → (∀ d, some d ∉ dstsOf ops → a.tmps.getD d undef = a0.tmps.getD d undef) →
    (∀ j d, bindsOn md ops i j = true → dstOf ops j = some d → Pre j own W (a.tmps.getD d undef)) →
    wpOp P ops Q i (fun a' W' => ∃ v own', a' = a.put (dstOf ops i) v ∧ Pre i own' W' v ∧ Below W.heap.size W W' ∧ Own w0 own' W' ∧ Grows own own' W) a W
theorem dsts_get (i : Nat) : (dstsOf ops)[i]? = (ops[i]?).map (·.dst) := by simp [dstsOf]
theorem dstOf_get {i d : Nat} (h : dstOf ops i = some d) : (dstsOf ops)[i]? = some (some d) := by
  rw [dsts_get]
  unfold dstOf at h
  cases ho : ops[i]? with
  | none => rw [ho] at h; simp at h
  | some o => rw [ho] at h; simpa using h
theorem region_makes (a0 : Act) (w0 : World) (Pre : Nat → Owned → World → Value → Prop) (L : Nat) (hchk : regOK md ops a0.tmps.size L = true)
    (hstable : ∀ i own own' W W' v, Pre i own W v → Below W.heap.size W W' → Grows own own' W → Pre i own' W' v)
    (hstep : ∀ i, i < L → Makes P ops Q md a0 w0 Pre i)
    (hend : ∀ own vs W, Below w0.heap.size w0 W → Own w0 own W → (∀ i, i < L → Pre i own W (vs.getD i undef)) → vs.length = L + 1 →
      wpOp P ops Q L (fun a' W' => Q .normal a' W') ⟨fillT (dstsOf ops) vs a0.tmps, a0.defers⟩ W) :
    wpAny P md ops Q ops.size (Array.replicate ops.size false) a0 w0 := by
  unfold regOK at hchk
  simp only [Bool.and_eq_true, beq_iff_eq, List.all_eq_true, List.mem_range] at hchk
  obtain ⟨⟨⟨⟨hsz, hap⟩, hbd⟩, hrank⟩, hlast⟩ := hchk
  have hlen : (dstsOf ops).length = L + 1 := by simp [dstsOf, hsz]
  have hdlt : ∀ i d, (dstsOf ops)[i]? = some (some d) → d < a0.tmps.size := fun i d h => by
    have := hbd _ (List.mem_of_getElem? h)
    simpa using this
  refine any_inv (fun listed a W => listed.size = L + 1 ∧ ((listed.getD L false = true ∧ (∀ j, j < L → listed.getD j false = true) ∧ Q .normal a W) ∨
    (listed.getD L false = false ∧ ∃ own vs, a = ⟨fillT (dstsOf ops) vs a0.tmps, a0.defers⟩ ∧ vs.length = L + 1 ∧ Below w0.heap.size w0 W ∧ Own w0 own W ∧ (∀ i, i < L → listed.getD i false = true → Pre i own W (vs.getD i undef))))) ?_ ?_ ?_ _ _ _ _ ?_ ?_
  · rintro listed a W i ⟨hls, hI⟩ hi
    obtain ⟨hi0, o, ho, hdep⟩ := mem_ready.1 hi
    have hil : i < L + 1 := hsz ▸ (Array.getElem?_eq_some_iff.1 ho).1
    have hif : listed.getD i false = false := by
      have hlt : i < listed.size := by omega
      simp [Array.getD, hlt] at hi0 ⊢; exact hi0
    rcases hI with ⟨hL, hall, _⟩ | ⟨hL, own, vs, rfl, hvl, hB, hO, hPre⟩
    · exfalso
      by_cases hiL : i = L
      · rw [hiL, hL] at hif; cases hif
      · rw [hall i (by omega)] at hif; cases hif
    · by_cases hiL : i = L
      · subst hiL
        have hall : ∀ j, j < i → listed.getD j false = true := fun j hj => by
          have hb := hlast j hj
          unfold bindsOn at hb
          rw [ho] at hb
          simp only [Option.map_some, Option.getD_some, Array.any_eq_true', Bool.and_eq_true, beq_iff_eq] at hb
          obtain ⟨e, he, hbe, rfl⟩ := hb
          exact hdep e he hbe
        refine wpOp_mono (fun a' W' h => ⟨by simpa using hls, .inl ⟨?_, fun j hj => getD_set_true (hall j hj), h⟩⟩) (hend own vs W hB hO (fun j hj => hPre j hj (hall j hj)) hvl)
        have hlt : i < listed.size := by omega
        simp [hlt]
      · have hiL' : i < L := by omega
        refine wpOp_mono (fun a' W' h => ?_) (hstep i hiL' own _ W hB hO (fun d hd => fillT_keep _ _ _ _ hd) (fun j d hb hj => ?_))
        · obtain ⟨v, own', rfl, hp, hbw, hO', hg⟩ := h
          refine ⟨by simpa using hls, .inr ⟨(getD_set_ne false hiL).trans hL, own', vs.set i v, ?_, by simpa using hvl, hB.trans (hbw.mono hB.size), hO', fun j hj hlj => ?_⟩⟩
          · cases hd : dstOf ops i with
            | none =>
              have hdn : (dstsOf ops)[i]? = some none := by
                rw [dsts_get, ho]
                unfold dstOf at hd
                rw [ho] at hd
                simpa using hd
              show (⟨_, _⟩ : Act) = ⟨_, _⟩
              congr 1
              clear hstep hend hPre hp hbw
              have key : ∀ (ds : List (Option Nat)) (vs : List Value) (i : Nat), ds[i]? = some none → fillT ds vs a0.tmps = fillT ds (vs.set i v) a0.tmps := by
                intro ds
                induction ds with
                | nil => intro vs i h; simp at h
                | cons o ds ih =>
                  intro vs i h
                  cases vs with
                  | nil => simp
                  | cons u vs =>
                    cases i with
                    | zero =>
                      obtain rfl : o = none := by simpa using h
                      rfl
                    | succ i =>
                      rw [List.set_cons_succ]
                      cases o with
                      | none => exact ih vs i (by simpa using h)
                      | some d => rw [fillT, fillT, ih vs i (by simpa using h)]
              exact key _ _ _ hdn
            | some d =>
              show (⟨_, _⟩ : Act) = ⟨_, _⟩
              congr 1
              exact fillT_set _ _ _ i d v hap (dstOf_get hd) (by omega)
          · by_cases hji : j = i
            · subst hji
              have hlt : j < vs.length := by omega
              simpa [List.getD_eq_getElem?_getD, hlt] using hp
            · have := hPre j hj ((getD_set_ne false (fun e => hji e.symm)).symm.trans hlj)
              have h2 := hstable j own own' W W' _ this hbw hg
              simpa [List.getD_eq_getElem?_getD, List.getElem?_set_ne (fun e => hji e.symm)] using h2
        · have hji : j < i := by
            have hr := hrank i (by omega)
            rw [ho] at hr
            simp only [Option.map_some, Option.getD_some] at hr
            unfold bindsOn at hb
            rw [ho] at hb
            simp only [Option.map_some, Option.getD_some, Array.any_eq_true', Bool.and_eq_true, beq_iff_eq] at hb
            obtain ⟨e, he, hbe, rfl⟩ := hb
            have h3 := (Array.all_eq_true_iff_forall_mem.1 hr) e he
            simpa [hbe] using h3
          have hlj : listed.getD j false = true := by
            unfold bindsOn at hb
            rw [ho] at hb
            simp only [Option.map_some, Option.getD_some, Array.any_eq_true', Bool.and_eq_true, beq_iff_eq] at hb
            obtain ⟨e, he, hbe, rfl⟩ := hb
            exact hdep e he hbe
          have := hPre j (by omega) hlj
          show Pre j own W ((fillT (dstsOf ops) vs a0.tmps).getD d undef)
          rw [fillT_get _ _ _ j d hap (dstOf_get hj) (by omega) (hdlt j d (dstOf_get hj))]
          exact this
  · rintro listed a W ⟨hls, hI⟩ hnil
    rcases hI with ⟨_, _, h⟩ | ⟨hL, _⟩
    · exact h
    · exfalso
      have key : ∀ n i, i ≤ n → i ≤ L → listed.getD i false = false → False := by
        intro n
        induction n using Nat.strongRecOn with
        | _ n ih =>
          intro i hin hiL hif
          have hlt : i < listed.size := by omega
          have hi0 : listed.getD i true = false := by
            simp [Array.getD, hlt] at hif ⊢; exact hif
          have hos : i < ops.size := by omega
          have hr : i ∉ Region.ready md ops listed := by rw [hnil]; simp
          apply hr
          refine mem_ready.2 ⟨hi0, ops[i], Array.getElem?_eq_getElem hos, fun e he hb => ?_⟩
          cases hle : listed.getD e.on false with
          | true => rfl
          | false =>
            exfalso
            have hrk := hrank i hos
            rw [Array.getElem?_eq_getElem hos] at hrk
            simp only [Option.map_some, Option.getD_some] at hrk
            have h3 := (Array.all_eq_true_iff_forall_mem.1 hrk) e he
            have h4 : e.on < i := by simpa [hb] using h3
            exact ih e.on (by omega) e.on (Nat.le_refl _) (by omega) hle
      exact key L L (Nat.le_refl _) (Nat.le_refl _) hL
  · rintro listed a W ⟨hls, _⟩ hc
    have hall : ∀ x ∈ listed.toList, id x = true := by
      apply List.length_filter_eq_length_iff.1
      have := List.length_filter_le id listed.toList
      have : listed.toList.length = listed.size := by simp
      omega
    apply List.eq_nil_iff_forall_not_mem.2
    intro i hi
    have hi0 := (mem_ready.1 hi).1
    have hlt : i < listed.size := by
      rcases Nat.lt_or_ge i listed.size with h | h
      · exact h
      · simp [Array.getD, Nat.not_lt.2 h] at hi0
    simp [Array.getD, hlt] at hi0
    have := hall listed[i] (by simp)
    simp [hi0] at this
  · exact Nat.le_add_right _ _
  · refine ⟨by simp [hsz], .inr ⟨by simp [hsz], Owned.none, (dstsOf ops).map (fun o => match o with | some d => a0.tmps.getD d undef | none => undef), ?_, by simp [hlen], Below.refl _ _, Own.none _ _, fun i hi h => ?_⟩⟩
    · rw [fillT_init]
    · exfalso
      simp [hsz, Nat.lt_succ_of_lt hi] at h
end
end Go.Proofs.YtkdicgendcdooaaDoor

/-
  The makers of values of the package api: loads, moves, calls, an allocation and the store behind all of them.
-/
namespace Go.Proofs.YtkdicgendcdooaaDoor
open Go.RowKit Go.Lib
set_option linter.unusedSimpArgs false
set_option linter.unusedVariables false
def NV (own : Owned) (W : World) (z : V) (v : Value) : Prop := VF W (fun k => k < W.heap.size ∧ k ∉ own) z v
def Box0 (tag : Nat) (own : Owned) (W : World) (v : Value) : Prop := ∃ p, v = .pointer (some ⟨p, 0, none⟩) ∧ own.has p tag ∧ W.heap[p]? = some (.cells #[.int .i64 0, .int .i64 0, .string ⟨#[]⟩, .slice none 0 0, .slice none 0 0] 27 (0, 0))
def BoxT (t : TypeId) (z : Array Value) (own : Owned) (W : World) (v : Value) : Prop := ∃ p, v = .pointer (some ⟨p, 0, none⟩) ∧ own.has p 0 ∧ W.heap[p]? = some (.cells z t (0, 0))
inductive PK where
  | val (v : Value)
  | nv (z : V)
  | got (r : Option V)
  | boxn (tag : Nat)
  | boxt (t : TypeId) (z : Array Value)
  | own (p : World → Value → Prop) (h : ∀ W W' v, p W v → Below W.heap.size W W' → p W' v)
  | any
abbrev PK.box0 : PK := .boxn 0
def PK.sat (p : PK) (own : Owned) (W : World) (v : Value) : Prop := match p with
  | .val u => v = u
  | .nv z => NV own W z v
  | .got r => ∃ u, v = .tuple #[u, .bool r.isSome] ∧ NV own W (r.getD zV) u
  | .boxn t => Box0 t own W v
  | .boxt t z => BoxT t z own W v
  | .own p _ => p W v
  | .any => True
theorem NV.stable {own own' : Owned} {W W' : World} {z : V} {v : Value} (h : NV own W z v) (hb : Below W.heap.size W W') (hg : Grows own own' W) : NV own' W' z v :=
  (VF.below h hb).mono (fun k hk => ⟨Nat.lt_of_lt_of_le hk.1 hb.size, fun hm => (hg.2 k hm).elim hk.2 (fun h => absurd hk.1 (Nat.not_lt.2 h))⟩)
theorem PK.stable (p : PK) (own own' : Owned) (W W' : World) (v : Value) (h : p.sat own W v) (hb : Below W.heap.size W W') (hg : Grows own own' W) : p.sat own' W' v := by
  cases p with
  | val u => exact h
  | nv z => exact NV.stable h hb hg
  | got r =>
    obtain ⟨u, rfl, h⟩ := h
    exact ⟨u, rfl, h.stable hb hg⟩
  | boxn t =>
    obtain ⟨p, rfl, hm, hc⟩ := h
    exact ⟨p, rfl, hg.1 p _ hm, (hb.block _ (Array.getElem?_eq_some_iff.1 hc).1).trans hc⟩
  | boxt t z =>
    obtain ⟨p, rfl, hm, hc⟩ := h
    exact ⟨p, rfl, hg.1 p _ hm, (hb.block _ (Array.getElem?_eq_some_iff.1 hc).1).trans hc⟩
  | own p hp => exact hp _ _ _ h hb
  | any => trivial
theorem NV.old {w0 W : World} {own : Owned} {z : V} {v : Value} (h : VF w0 (fun k => k < w0.heap.size) z v) (hb : Below w0.heap.size w0 W) (hO : Own w0 own W) : NV own W z v :=
  (h.below hb).mono (fun k hk => ⟨Nat.lt_of_lt_of_le hk hb.size, fun hm => absurd hk (Nat.not_lt.2 (hO.1 k hm).1)⟩)
theorem NV.made {W W' : World} {own : Owned} {z : V} {v : Value} {w0 : World} (h : VF W' (Old W (fun k => k < W.heap.size ∧ k ∉ own)) z v) (hO : Own w0 own W) (hb : Below W.heap.size W W') : NV own W' z v :=
  h.bound.mono (fun k hk => ⟨hk.2, fun hm => hk.1.elim (fun h => h.2 hm) (fun h => absurd (hO.1 k hm).2 (Nat.not_lt.2 h))⟩)
theorem Own.mono {w0 W W' : World} {own : Owned} (h : Own w0 own W) (hb : Below W.heap.size W W') : Own w0 own W' := ⟨fun k hk => ⟨(h.1 k hk).1, Nat.lt_of_lt_of_le (h.1 k hk).2 hb.size⟩, h.2⟩
theorem Own.put {w0 W W' : World} {own : Owned} {tag : Nat} (hO : Own w0 own W) (hB : w0.heap.size ≤ W.heap.size) (hs : W.heap.size < W'.heap.size) : Own w0 (own.add W.heap.size tag) W' := by
  refine ⟨?_, ?_⟩
  · rintro k ⟨t, h⟩
    rcases Owned.of_add h with ⟨rfl, _⟩ | h
    · exact ⟨hB, hs⟩
    · have := hO.1 k ⟨t, h⟩
      exact ⟨this.1, Nat.lt_trans this.2 hs⟩
  · intro k t t' h h'
    rcases Owned.of_add h with ⟨rfl, rfl⟩ | h
    · rcases Owned.of_add h' with ⟨_, rfl⟩ | h'
      · rfl
      · exact absurd (hO.1 _ ⟨_, h'⟩).2 (Nat.lt_irrefl _)
    · rcases Owned.of_add h' with ⟨rfl, _⟩ | h'
      · exact absurd (hO.1 _ ⟨_, h⟩).2 (Nat.lt_irrefl _)
      · exact hO.2 k t t' h h'
theorem Grows.put (own : Owned) (W : World) (tag : Nat) : Grows own (own.add W.heap.size tag) W := by
  refine ⟨fun k t h => Owned.has_more h, ?_⟩
  rintro k ⟨t, h⟩
  rcases Owned.of_add h with ⟨rfl, _⟩ | h
  · exact .inr (Nat.le_refl _)
  · exact .inl ⟨t, h⟩
theorem Grows.refl (own : Owned) (W : World) : Grows own own W := ⟨fun _ _ h => h, fun _ h => .inl h⟩
theorem BoxOf.new {w : World} {ok : Nat → Prop} {z : V} {A3 A4 : Option Addr} {c3 c4 : Nat} (h : VF w ok z (.agg #[.int .i64 z.f0, .int .i64 z.f1, .string z.f2, .slice A3 z.f3.length c3, .slice A4 z.f4.length c4])) :
    BoxOf (w.alloc (.cells #[.int .i64 z.f0, .int .i64 z.f1, .string z.f2, .slice A3 z.f3.length c3, .slice A4 z.f4.length c4] 27)) w.heap.size Any z :=
  ⟨A3, c3, A4, c4, heap_alloc_new _ _, h.any.below ((Below.refl _ w).alloc (Nat.le_refl _) _)⟩
theorem BoxOf.any {W : World} {p : Nat} {ok : Nat → Prop} {x : V} (h : BoxOf W p ok x) : BoxOf W p Any x := by
  obtain ⟨A3, c3, A4, c4, h1, h2⟩ := h
  exact ⟨A3, c3, A4, c4, h1, h2.any⟩
theorem BoxOf.lt {W : World} {p : Nat} {ok : Nat → Prop} {x : V} (h : BoxOf W p ok x) : p < W.heap.size := by
  obtain ⟨A3, c3, A4, c4, h1, h2⟩ := h
  exact (Array.getElem?_eq_some_iff.1 h1).1
theorem BoxOf.read {W : World} {p : Nat} {ok : Nat → Prop} {x : V} (h : BoxOf W p ok x) : ∃ A3 c3 A4 c4, (W.cell? ⟨p, 0, none⟩ = some (.int .i64 x.f0) ∧ W.cell? ⟨p, 1, none⟩ = some (.int .i64 x.f1) ∧ W.cell? ⟨p, 2, none⟩ = some (.string x.f2) ∧ W.cell? ⟨p, 3, none⟩ = some (.slice A3 x.f3.length c3) ∧ W.cell? ⟨p, 4, none⟩ = some (.slice A4 x.f4.length c4)) ∧ VF W (fun k => k < W.heap.size) x (.agg #[.int .i64 x.f0, .int .i64 x.f1, .string x.f2, .slice A3 x.f3.length c3, .slice A4 x.f4.length c4]) := by
  obtain ⟨A3, c3, A4, c4, h1, h2⟩ := h
  exact ⟨A3, c3, A4, c4, cells5v h1, h2.bound.mono (fun k hk => hk.2)⟩
theorem BoxOf.readD {W : World} {p : Nat} {ok : Nat → Prop} {x : V} (h : BoxOf W p ok x) : ∃ A3 c3 A4 c4, (W.drew.cell? ⟨p, 0, none⟩ = some (.int .i64 x.f0) ∧ W.drew.cell? ⟨p, 1, none⟩ = some (.int .i64 x.f1) ∧ W.drew.cell? ⟨p, 2, none⟩ = some (.string x.f2) ∧ W.drew.cell? ⟨p, 3, none⟩ = some (.slice A3 x.f3.length c3) ∧ W.drew.cell? ⟨p, 4, none⟩ = some (.slice A4 x.f4.length c4)) ∧ VF W.drew (fun k => k < W.drew.heap.size) x (.agg #[.int .i64 x.f0, .int .i64 x.f1, .string x.f2, .slice A3 x.f3.length c3, .slice A4 x.f4.length c4]) := by
  obtain ⟨A3, c3, A4, c4, h1, h2⟩ := h
  exact ⟨A3, c3, A4, c4, cells5v h1, (h2.bound.mono (fun k hk => hk.2)).below ((Below.refl _ W).drew)⟩
theorem len_cons {α : Type} {l : List α} {n : Nat} (h : l.length = n + 1) : ∃ a t, l = a :: t ∧ t.length = n := by
  cases l with
  | nil => cases h
  | cons a t => exact ⟨a, t, rfl, by simpa using h⟩
theorem eg18 (args : Array Value) (w : World) : (callFunc 18 args).run Tryd.prog w = .ok (.enter 18 args) w := enters_of Tryd.func18 (by rfl) (by rfl) args w
theorem eg19 (args : Array Value) (w : World) : (callFunc 19 args).run Tryd.prog w = .ok (.enter 19 args) w := enters_of Tryd.func19 (by rfl) (by rfl) args w
theorem eg21 (args : Array Value) (w : World) : (callFunc 21 args).run Tryd.prog w = .ok (.enter 21 args) w := enters_of Tryd.func21 (by rfl) (by rfl) args w
theorem eg20 (args : Array Value) (w : World) : (callFunc 20 args).run Tryd.prog w = .ok (.enter 20 args) w := enters_of Tryd.func20 (by rfl) (by rfl) args w
section
variable {ops : Array Oper} {Q : Exit → Act → World → Prop} {md : Region.Mode} {a0 : Act} {w0 : World} {pks : List PK}
abbrev MakesV (ops : Array Oper) (Q : Exit → Act → World → Prop) (md : Region.Mode) (a0 : Act) (w0 : World) (pks : List PK) (i : Nat) : Prop := Makes Tryd.prog ops Q md a0 w0 (fun i => (pks.getD i .any).sat) i
theorem wpOp_plain {P : Program} {i : Nat} {o : Oper} {a : Act} {w : World} {K : Act → World → Prop} (hi : ops[i]? = some o) (hg : o.guard = none) (h : o.wp P a w K Q) : wpOp P ops Q i K a w := by
  unfold wpOp
  simp [hi, Region.wanted, hg, h]
theorem wpv_val {P : Program} {o : Oper} {a : Act} {w w' : World} {K : Act → World → Prop} {v : Value} (h : (execOp a.eval o).run P w = .ok (.value v) w') (hk : K (a.put o.dst v) w') : o.wp P a w K Q := by
  unfold Oper.wp
  rw [h, Oper.upon_value]
  exact hk
theorem wpv_skip {P : Program} {o : Oper} {a : Act} {w w' : World} {K : Act → World → Prop} (h : (execOp a.eval o).run P w = .ok .skip w') (hk : K (a.put o.dst undef) w') : o.wp P a w K Q := by
  unfold Oper.wp
  rw [h, Oper.upon_skip]
  exact hk
theorem wpv_enter {P : Program} {o : Oper} {a : Act} {w w' : World} {K : Act → World → Prop} {f : FuncId} {args : Array Value} (h : (execOp a.eval o).run P w = .ok (.enter f args) w')
    (hk : Calls P f args w' fun e w'' => ∃ v, e = .returned v ∧ K (a.put o.dst v) w'') : o.wp P a w K Q := by
  unfold Oper.wp
  rw [h, Oper.upon_enter]
  refine hk.mono ?_
  rintro e w'' ⟨v, rfl, hv⟩
  exact hv
theorem dst_is {i : Nat} {o : Oper} (ho : ops[i]? = some o) : dstOf ops i = o.dst := by unfold dstOf; rw [ho]; rfl
/-- A value that is moved. -/
theorem mk_move {i : Nat} {o : Oper} {s : Nat} {v : Value} (ho : ops[i]? = some o) (hop : o.op = .move (.tmp s)) (hg : o.guard = none) (hv : a0.tmps.getD s undef = v) (hs : (dstsOf ops).contains (some s) = false) (hp : pks.getD i .any = .val v) :
    MakesV ops Q md a0 w0 pks i := by
  intro own a W hB hO hK hD
  refine wpOp_plain ho hg (wpv_val (w' := W) (v := v) ?_ ⟨v, own, by rw [dst_is ho], by show (pks.getD i .any).sat own W v; rw [hp]; rfl, Below.refl _ _, hO, Grows.refl _ _⟩)
  have h1 : a.eval (.tmp s) = v := (hK s (by simpa using hs)).trans hv
  unfold execOp
  rw [hop]
  show Sem.run _ (pure (Next.value (a.eval (.tmp s)))) W = _
  rw [h1]
  rfl
/-- A value that is there in whatever world. -/
theorem mk_val {i : Nat} {o : Oper} {v : Value} (ho : ops[i]? = some o) (hg : o.guard = none) (hrun : ∀ (a : Act) W, (execOp a.eval o).run Tryd.prog W = .ok (.value v) W) (hp : pks.getD i .any = .val v) :
    MakesV ops Q md a0 w0 pks i := by
  intro own a W hB hO hK hD
  exact wpOp_plain ho hg (wpv_val (w' := W) (v := v) (hrun a W) ⟨v, own, by rw [dst_is ho], by show (pks.getD i .any).sat own W v; rw [hp]; rfl, Below.refl _ _, hO, Grows.refl _ _⟩)
/-- A call of a function of Go. -/
theorem mk_call {i : Nat} {o : Oper} {f : FuncId} {xs : Array Operand} {ats : Array TypeId} (ho : ops[i]? = some o) (hop : o.op = .call { callee := .value (.func f), args := xs, argTypes := ats }) (hg : o.guard = none)
    (eg : ∀ args w, (callFunc f args).run Tryd.prog w = .ok (.enter f args) w)
    (h : ∀ own (a : Act) W, Below w0.heap.size w0 W → Own w0 own W → (∀ d, some d ∉ dstsOf ops → a.tmps.getD d undef = a0.tmps.getD d undef) →
      (∀ j d, bindsOn md ops i j = true → dstOf ops j = some d → (pks.getD j .any).sat own W (a.tmps.getD d undef)) →
      Calls Tryd.prog f (xs.toList.map a.eval).toArray W (fun e W' => ∃ v, e = .returned v ∧ (pks.getD i .any).sat own W' v ∧ Below W.heap.size W W')) :
    MakesV ops Q md a0 w0 pks i := by
  intro own a W hB hO hK hD
  refine wpOp_plain ho hg (wpv_enter (f := f) (args := (xs.toList.map a.eval).toArray) (w' := W) ?_ ((h own a W hB hO hK hD).mono ?_))
  · unfold execOp
    rw [hop]
    show (callFunc f (#[] ++ xs.map a.eval ++ #[])).run _ W = _
    have e : (#[] ++ xs.map a.eval ++ #[]) = (xs.toList.map a.eval).toArray := by apply Array.ext'; simp
    rw [e]
    exact eg _ _
  · rintro e W' ⟨v, rfl, hv, hb⟩
    exact ⟨v, rfl, v, own, by rw [dst_is ho], hv, hb, hO.mono hb, Grows.refl _ _⟩
/-- A value that comes of others. -/
theorem mk_run {i : Nat} {o : Oper} {v : Value} (ho : ops[i]? = some o) (hg : o.guard = none) (hp : pks.getD i .any = .val v)
    (h : ∀ own (a : Act) W, Below w0.heap.size w0 W → (∀ d, some d ∉ dstsOf ops → a.tmps.getD d undef = a0.tmps.getD d undef) →
      (∀ j d, bindsOn md ops i j = true → dstOf ops j = some d → (pks.getD j .any).sat own W (a.tmps.getD d undef)) → (execOp a.eval o).run Tryd.prog W = .ok (.value v) W) :
    MakesV ops Q md a0 w0 pks i := by
  intro own a W hB hO hK hD
  exact wpOp_plain ho hg (wpv_val (w' := W) (v := v) (h own a W hB hK hD) ⟨v, own, by rw [dst_is ho], by show (pks.getD i .any).sat own W v; rw [hp]; rfl, Below.refl _ _, hO, Grows.refl _ _⟩)
/-- A value that is made, with memory of its own. -/
theorem mk_make {i : Nat} {o : Oper} (ho : ops[i]? = some o) (hg : o.guard = none)
    (h : ∀ own (a : Act) W, Below w0.heap.size w0 W → (∀ d, some d ∉ dstsOf ops → a.tmps.getD d undef = a0.tmps.getD d undef) →
      (∀ j d, bindsOn md ops i j = true → dstOf ops j = some d → (pks.getD j .any).sat own W (a.tmps.getD d undef)) → ∃ v W', (execOp a.eval o).run Tryd.prog W = .ok (.value v) W' ∧ (pks.getD i .any).sat own W' v ∧ Below W.heap.size W W') :
    MakesV ops Q md a0 w0 pks i := by
  intro own a W hB hO hK hD
  obtain ⟨v, W', hr, hv, hb⟩ := h own a W hB hK hD
  exact wpOp_plain ho hg (wpv_val (w' := W') (v := v) hr ⟨v, own, by rw [dst_is ho], hv, hb, hO.mono hb, Grows.refl _ _⟩)
/-- A new box of whatever type. -/
theorem mk_boxt {i : Nat} {o : Oper} {t : TypeId} {z : Array Value} (ho : ops[i]? = some o) (hop : o.op = .alloc t) (hg : o.guard = none) (hp : pks.getD i .any = .boxt t z)
    (hz : ∀ w, (do pure (Next.value (← Instr.alloc t true (.tuple #[]))) : Sem Next).run Tryd.prog w = .ok (.value (.pointer (some ⟨w.heap.size, 0, none⟩))) (w.alloc (.cells z t))) : MakesV ops Q md a0 w0 pks i := by
  intro own a W hB hO hK hD
  have hb : Below W.heap.size W (W.alloc (.cells z t)) := (Below.refl _ W).alloc (Nat.le_refl _) _
  refine wpOp_plain ho hg (wpv_val (w' := W.alloc (.cells z t)) (v := .pointer (some ⟨W.heap.size, 0, none⟩)) ?_
    ⟨_, own.add W.heap.size 0, by rw [dst_is ho], ?_, hb, Own.put hO hB.size (by simp), Grows.put _ _ _⟩)
  · unfold execOp
    rw [hop]
    exact hz W
  · show (pks.getD i .any).sat _ _ _
    rw [hp]
    exact ⟨_, rfl, Owned.has_add _ _ _, heap_alloc_new _ _⟩
/-- A new box. -/
theorem mk_box {i : Nat} {o : Oper} {tag : Nat} (ho : ops[i]? = some o) (hop : o.op = .alloc 27) (hg : o.guard = none) (hp : pks.getD i .any = .boxn tag) : MakesV ops Q md a0 w0 pks i := by
  intro own a W hB hO hK hD
  have hz : ∀ w, (do pure (Next.value (← Instr.alloc 27 true (.tuple #[]))) : Sem Next).run Tryd.prog w = .ok (.value (.pointer (some ⟨w.heap.size, 0, none⟩))) (w.alloc (.cells #[.int .i64 0, .int .i64 0, .string ⟨#[]⟩, .slice none 0 0, .slice none 0 0] 27)) := fun w => by kernel_rfl
  have hb : Below W.heap.size W (W.alloc (.cells #[.int .i64 0, .int .i64 0, .string ⟨#[]⟩, .slice none 0 0, .slice none 0 0] 27)) := (Below.refl _ W).alloc (Nat.le_refl _) _
  refine wpOp_plain ho hg (wpv_val (w' := W.alloc (.cells #[.int .i64 0, .int .i64 0, .string ⟨#[]⟩, .slice none 0 0, .slice none 0 0] 27)) (v := .pointer (some ⟨W.heap.size, 0, none⟩)) ?_
    ⟨_, own.add W.heap.size tag, by rw [dst_is ho], ?_, hb, Own.put hO hB.size (by simp), Grows.put _ _ _⟩)
  · unfold execOp
    rw [hop]
    exact hz W
  · show (pks.getD i .any).sat _ _ _
    rw [hp]
    exact ⟨_, rfl, Owned.has_add _ _ _, heap_alloc_new _ _⟩
/-- A box that is read. -/
theorem mk_load {i : Nat} {o : Oper} {s p : Nat} {a b c d e : Value} (ho : ops[i]? = some o) (hop : o.op = .load 27 (.tmp s)) (hg : o.guard = none) (hv : a0.tmps.getD s undef = .pointer (some ⟨p, 0, none⟩)) (hs : (dstsOf ops).contains (some s) = false)
    (hc : w0.cell? ⟨p, 0, none⟩ = some a ∧ w0.cell? ⟨p, 1, none⟩ = some b ∧ w0.cell? ⟨p, 2, none⟩ = some c ∧ w0.cell? ⟨p, 3, none⟩ = some d ∧ w0.cell? ⟨p, 4, none⟩ = some e) (h1 : a.oneCell' = true ∧ b.oneCell' = true ∧ c.oneCell' = true ∧ d.oneCell' = true ∧ e.oneCell' = true) (hp : pks.getD i .any = .val (.agg #[a, b, c, d, e])) :
    MakesV ops Q md a0 w0 pks i := by
  intro own a' W hB hO hK hD
  have hlt : p < w0.heap.size := World.block_lt_of_cell? w0 _ hc.1
  obtain ⟨c0, c1, c2, c3, c4⟩ := hc
  replace c0 := (hB.cell (p := ⟨p, 0, none⟩) hlt).trans c0
  replace c1 := (hB.cell (p := ⟨p, 1, none⟩) hlt).trans c1
  replace c2 := (hB.cell (p := ⟨p, 2, none⟩) hlt).trans c2
  replace c3 := (hB.cell (p := ⟨p, 3, none⟩) hlt).trans c3
  replace c4 := (hB.cell (p := ⟨p, 4, none⟩) hlt).trans c4
  refine wpOp_plain ho hg (wpv_val (w' := W) (v := .agg #[a, b, c, d, e]) ?_ ⟨_, own, by rw [dst_is ho], by show (pks.getD i .any).sat own W _; rw [hp]; rfl, Below.refl _ _, hO, Grows.refl _ _⟩)
  have h2 : a'.eval (.tmp s) = .pointer (some ⟨p, 0, none⟩) := (hK s (by simpa using hs)).trans hv
  unfold execOp
  rw [hop]
  show Sem.run _ (do pure (Next.value (← Instr.loadAt 27 (a'.eval (.tmp s))))) W = _
  rw [h2]
  go_simp
theorem region_vals {id : Nat} {w : World} (pks : List PK) (L : Nat) (hm : Tryd.prog.follows .mixedOrders = true) (hchk : regOK .any ops a0.tmps.size L = true) (hstep : ∀ i, i < L → MakesV ops Q .any a0 w.drew pks i)
    (hend : ∀ own vs W, Below w.heap.size w W → Own w.drew own W → (∀ i, i < L → (pks.getD i .any).sat own W (vs.getD i undef)) → vs.length = L + 1 → wpOp Tryd.prog ops Q L (fun a' W' => Q .normal a' W') ⟨fillT (dstsOf ops) vs a0.tmps, a0.defers⟩ W) :
    (Code.region id ops true).wp Tryd.prog Q a0 w :=
  wp_region_any hm (region_makes a0 w.drew (fun i => (pks.getD i .any).sat) L hchk (fun i => (pks.getD i .any).stable) hstep (fun own vs W hB hO hP hl => hend own vs W (((Below.refl w.heap.size w).drew).trans (show Below w.heap.size w.drew W from hB)) hO hP hl))
/-- The whole: a new box, with a value that the region's calls make. -/
theorem region_box {id : Nat} {w : World} {L i8 i27 d8 d27 : Nat} {oL : Oper} {z : V} (hm : Tryd.prog.follows .mixedOrders = true) (hchk : regOK .any ops a0.tmps.size L = true) (h8 : dstOf ops i8 = some d8) (h27 : dstOf ops i27 = some d27) (hi8 : i8 < L) (hi27 : i27 < L)
    (hL : ops[L]? = some oL) (hop : oL.op = .store 27 (.tmp d8) (.tmp d27)) (hg : oL.guard = none) (hd : oL.dst = none) (hp8 : pks.getD i8 .any = .boxn 0) (hp27 : pks.getD i27 .any = .nv z)
    (hstep : ∀ i, i < L → MakesV ops Q .any a0 w.drew pks i)
    (hQ : ∀ vs p W, vs.length = L + 1 → vs.getD i8 undef = .pointer (some ⟨p, 0, none⟩) → Below w.heap.size w W → w.heap.size ≤ p → p < W.heap.size → BoxOf W p (fun k => k ≠ p) z → Q .normal ⟨fillT (dstsOf ops) vs a0.tmps, a0.defers⟩ W) :
    (Code.region id ops true).wp Tryd.prog Q a0 w := by
  refine wp_region_any hm (region_makes a0 w.drew (fun i => (pks.getD i .any).sat) L hchk (fun i => (pks.getD i .any).stable) hstep ?_)
  intro own vs W hB hO hPre hvl
  have hck := hchk
  unfold regOK at hck
  simp only [Bool.and_eq_true, beq_iff_eq, List.all_eq_true, List.mem_range] at hck
  obtain ⟨⟨⟨⟨hsz, hap⟩, hbd⟩, _⟩, _⟩ := hck
  have hlen : (dstsOf ops).length = L + 1 := by simp [dstsOf, hsz]
  have hdlt : ∀ i d, (dstsOf ops)[i]? = some (some d) → d < a0.tmps.size := fun i d h => by
    have := hbd _ (List.mem_of_getElem? h)
    simpa using this
  obtain ⟨p, e8, hpo, hc⟩ := (show Box0 0 own W (vs.getD i8 undef) by have := hPre i8 hi8; simp only [hp8] at this; exact this)
  have hz := (show NV own W z (vs.getD i27 undef) by have := hPre i27 hi27; simp only [hp27] at this; exact this)
  obtain ⟨A3, c3, A4, c4, e27, _⟩ := hz.open_
  have hz' : VF W (fun k => k ≠ p) z (.agg #[.int .i64 z.f0, .int .i64 z.f1, .string z.f2, .slice A3 z.f3.length c3, .slice A4 z.f4.length c4]) := by
    rw [← e27]
    exact VF.mono hz (fun k hk e => hk.2 (e ▸ ⟨_, hpo⟩))
  have g8 : (fillT (dstsOf ops) vs a0.tmps).getD d8 undef = .pointer (some ⟨p, 0, none⟩) := by
    rw [fillT_get _ _ _ i8 d8 hap (dstOf_get h8) (by omega) (hdlt _ _ (dstOf_get h8)), e8]
  have g27 : (fillT (dstsOf ops) vs a0.tmps).getD d27 undef = .agg #[.int .i64 z.f0, .int .i64 z.f1, .string z.f2, .slice A3 z.f3.length c3, .slice A4 z.f4.length c4] := by
    rw [fillT_get _ _ _ i27 d27 hap (dstOf_get h27) (by omega) (hdlt _ _ (dstOf_get h27)), e27]
  generalize hF : fillT (dstsOf ops) vs a0.tmps = F at g8 g27
  have vs8 := softv hc
  obtain ⟨k0, k1, k2, k3, k4⟩ := cells5v hc
  have hlt : p < W.heap.size := (Array.getElem?_eq_some_iff.1 hc).1
  have hp0 : w.heap.size ≤ p := (hO.1 p ⟨_, hpo⟩).1
  refine wpOp_plain hL hg (wpv_skip (w' := ((((W.setCell ⟨p, 0, none⟩ (.int .i64 z.f0)).setCell ⟨p, 1, none⟩ (.int .i64 z.f1)).setCell ⟨p, 2, none⟩ (.string z.f2)).setCell ⟨p, 3, none⟩ (.slice A3 z.f3.length c3)).setCell ⟨p, 4, none⟩ (.slice A4 z.f4.length c4)) ?_ ?_)
  · unfold execOp
    rw [hop]
    show Sem.run _ (do Instr.storeAt 27 (Act.eval ⟨F, a0.defers⟩ (.tmp d8)) (Act.eval ⟨F, a0.defers⟩ (.tmp d27)); pure Next.skip) W = _
    rw [show Act.eval ⟨F, a0.defers⟩ (.tmp d8) = _ from g8, show Act.eval ⟨F, a0.defers⟩ (.tmp d27) = _ from g27]
    go_simp
  · rw [hd]
    show Q .normal ⟨F, a0.defers⟩ _
    rw [← hF]
    have hO5 := off5 W p (.int .i64 z.f0) (.int .i64 z.f1) (.string z.f2) (.slice A3 z.f3.length c3) (.slice A4 z.f4.length c4)
    refine hQ vs p _ hvl e8 (Off.below (((Below.refl w.heap.size w).drew).trans (show Below w.heap.size w.drew W from hB)) hO5 (by simpa using hp0)) hp0 (by rw [hO5.size]; exact hlt) ⟨A3, c3, A4, c4, heap_setv (heap_setv (heap_setv (heap_setv (heap_setv hc _) _) _) _) _, hO5.vf hz' (fun k hk _ hm => by simp at hm; exact hk hm)⟩
end
end Go.Proofs.YtkdicgendcdooaaDoor

/-
  A key that two contents have not alike, and what is asked of it: the closures of Change.
-/
namespace Go.Proofs.YtkdicgendcdooaaDoor
open Go.RowKit Go.Lib Go.Proofs.YtkdicgendcdooaaDoorW.PrintWords
set_option linter.unusedSimpArgs false
set_option linter.unusedVariables false
structure TT where
  key : ByteArray
  o : Option Int
  n : Option Int
def lvV (o : Option Int) : Value := .agg #[.int .i64 (o.getD 0), .bool o.isSome]
def encT (t : TT) : Value := .agg #[.string t.key, .int .i64 (t.o.getD 0), .bool t.o.isSome, .int .i64 (t.n.getD 0), .bool t.n.isSome]
def overB (lv : Int) (t : TT) : Bool := aboveO t.o lv || aboveO t.n lv
def highB (lv : Int) (me : ByteArray) (t : TT) : Bool := !(decide (t.key = me)) && t.o.isSome && decide (lv ≤ t.o.getD 0)
def givesB (lv : Int) (t : TT) : Bool := aboveO t.n lv
set_option maxRecDepth 100000 in
theorem over_any {W : World} {Bl : Nat} {lv : Int} (hl : W.cell? ⟨Bl, 0, none⟩ = some (.int .i64 lv)) (t : TT) : Calls Tryd.prog 52 #[encT t, .pointer (some ⟨Bl, 0, none⟩)] W (EndI W (.bool (overB lv t))) := by
  obtain ⟨k, o, n⟩ := t
  have H1 := Lib.hid (fun w => above_any o lv w)
  have H2 := Lib.hid (fun w => above_any n lv w)
  unfold encT overB
  dsimp only
  have hlt := World.block_lt_of_cell? W _ hl
  go_enter Tryd.func52, Tryd.ntmps52
  go_wp2_with fail
  refine (H1.out _).mono ?_
  rintro e w1 ⟨rfl, hb⟩
  have hl1 := (((Below.refl W.heap.size W).alloc (Nat.le_refl _) _).trans (hb.mono (by simp))).cell (p := ⟨Bl, 0, none⟩) hlt |>.trans hl
  have hc := cells5v ((hb.block W.heap.size (by simp)).trans (heap_alloc_new W (.cells #[.string k, .int .i64 (o.getD 0), .bool o.isSome, .int .i64 (n.getD 0), .bool n.isSome] 75)))
  obtain ⟨c0, c1, c2, c3, c4⟩ := hc
  have HB := Lib.hid (((Below.refl W.heap.size W).alloc (Nat.le_refl _) (.cells #[.string k, .int .i64 (o.getD 0), .bool o.isSome, .int .i64 (n.getD 0), .bool n.isSome] 75)).trans (hb.mono (by simp)))
  clear hb
  cases ho : aboveO o lv with
  | true =>
    go_wp2_with fail
    go_ret
    exact ⟨by simp [ho], HB.out⟩
  | false =>
    go_wp2_with fail
    refine (H2.out _).mono ?_
    rintro e w2 ⟨rfl, hb⟩
    go_wp2_with fail
    go_ret
    exact ⟨by simp [ho], HB.out.trans (hb.mono HB.out.size)⟩
set_option maxRecDepth 100000 in
theorem gives_any {W : World} {Bl : Nat} {lv : Int} (hl : W.cell? ⟨Bl, 0, none⟩ = some (.int .i64 lv)) (t : TT) : Calls Tryd.prog 56 #[encT t, .pointer (some ⟨Bl, 0, none⟩)] W (EndI W (.bool (givesB lv t))) := by
  obtain ⟨k, o, n⟩ := t
  have H2 := Lib.hid (fun w => above_any n lv w)
  unfold encT givesB
  dsimp only
  have hlt := World.block_lt_of_cell? W _ hl
  go_enter Tryd.func56, Tryd.ntmps56
  go_wp2_with fail
  refine (H2.out _).mono ?_
  rintro e w2 ⟨rfl, hb⟩
  have HB := Lib.hid (((Below.refl W.heap.size W).alloc (Nat.le_refl _) (.cells #[.string k, .int .i64 (o.getD 0), .bool o.isSome, .int .i64 (n.getD 0), .bool n.isSome] 75)).trans (hb.mono (by simp)))
  clear hb
  go_wp2_with fail
  go_ret
  exact ⟨rfl, HB.out⟩
set_option maxRecDepth 100000 in
theorem high_any {W : World} {Bl Bs : Nat} {lv : Int} {me : ByteArray} (hl : W.cell? ⟨Bl, 0, none⟩ = some (.int .i64 lv)) (hs : W.cell? ⟨Bs, 0, none⟩ = some (.string me)) (t : TT) : Calls Tryd.prog 55 #[encT t, .pointer (some ⟨Bs, 0, none⟩), .pointer (some ⟨Bl, 0, none⟩)] W (EndI W (.bool (highB lv me t))) := by
  obtain ⟨k, o, n⟩ := t
  unfold encT highB
  dsimp only
  have hlt := World.block_lt_of_cell? W _ hl
  have hst := World.block_lt_of_cell? W _ hs
  by_cases hk : k = me
  · have q0 : k.toList = me.toList := by rw [hk]
    go_enter Tryd.func55, Tryd.ntmps55
    go_wp2_with fail
    go_ret
    exact ⟨by simp [hk], (Below.refl _ W).alloc (Nat.le_refl _) _⟩
  · have q0 : ¬ k.toList = me.toList := fun e => hk ((Lib.bytes_beq_iff k me).1 (by rw [e]; exact beq_self_eq_true _))
    have q1 : (k.toList == me.toList) = false := beq_eq_false_iff_ne.2 q0
    cases ho : o.isSome with
    | false =>
      go_enter Tryd.func55, Tryd.ntmps55
      go_wp2_with fail
      go_ret
      exact ⟨by simp, (Below.refl _ W).alloc (Nat.le_refl _) _⟩
    | true =>
      by_cases h : lv ≤ o.getD 0
      · have e := eq_true h
        go_enter Tryd.func55, Tryd.ntmps55
        go_wp2_with fail
        go_ret
        exact ⟨by simp [hk, h], (Below.refl _ W).alloc (Nat.le_refl _) _⟩
      · have e := eq_false h
        go_enter Tryd.func55, Tryd.ntmps55
        go_wp2_with fail
        go_ret
        exact ⟨by simp [h], (Below.refl _ W).alloc (Nat.le_refl _) _⟩
end Go.Proofs.YtkdicgendcdooaaDoor

/-
  The iterator of what two contents have not alike, over some keys.
-/
namespace Go.Proofs.YtkdicgendcdooaaDoor
open Go.RowKit Go.Lib Go.Shelf Go.Proofs.YtkdicgendcdooaaDoorW.PrintWords
attribute [local go_sem] Oper.semAt_some
set_option linter.unusedSimpArgs false
set_option linter.unusedVariables false
def turnOf (x y : V) (k : ByteArray) : TT := ⟨k, atV x k, atV y k⟩
def turnedB (t : TT) : Bool := !(decide (t.o = t.n))
def turnsL (x y : V) (keys : List ByteArray) : List TT := (keys.map (turnOf x y)).filter turnedB
theorem turnsL_take (x y : V) (keys : List ByteArray) (k : Nat) (h : k < keys.length) : turnsL x y (keys.take (k + 1)) = turnsL x y (keys.take k) ++ (if turnedB (turnOf x y keys[k]) then [turnOf x y keys[k]] else []) := by
  unfold turnsL
  rw [← List.take_append_getElem h, List.map_append, List.filter_append]
  congr 1
  simp only [List.map_cons, List.map_nil, List.filter_cons, List.filter_nil]
theorem turnsL_pre (x y : V) (keys : List ByteArray) (k : Nat) : turnsL x y (keys.take k) <+: turnsL x y keys := by
  unfold turnsL
  exact ((List.take_prefix k keys).map _).filter _
theorem turnsL_len (x y : V) (keys : List ByteArray) : (turnsL x y keys).length ≤ keys.length := by
  unfold turnsL
  exact Nat.le_trans (List.length_filter_le _ _) (by simp)
theorem grown_of {W W' : World} (h : Below W.heap.size W W') : W.grownBy W' none := ⟨h.os, h.tape, h.output, h.size, fun k hk _ => h.block k hk⟩
theorem BoxOf.belowN {n₀ p : Nat} {W W' : World} {x : V} (h : BoxOf W p (fun k => k < n₀) x) (hp : p < n₀) (hb : Below n₀ W W') : BoxOf W' p (fun k => k < n₀) x := by
  obtain ⟨A3, c3, A4, c4, h1, h2⟩ := h
  exact ⟨A3, c3, A4, c4, (hb.block _ hp).trans h1, h2.step (fun k hk _ => hb.block k hk)⟩
abbrev zTurn : Array Value := #[.string ⟨#[]⟩, .int .i64 0, .bool false, .int .i64 0, .bool false]
theorem eg31 (args : Array Value) (w : World) : (callFunc 31 args).run Tryd.prog w = .ok (.enter 31 args) w := enters_of Tryd.func31 (by rfl) (by rfl) args w
set_option maxRecDepth 100000 in
set_option maxHeartbeats 1000000 in
theorem turns1_in (n : Nat) (hn : 1 ≤ n) (l Bk Bo Bn n₀ : Nat) (x y : V) (keys : List ByteArray) (A : Option Addr) (c : Nat) (J Jx : List TT → World → Prop)
    (hJ : ∀ p W1 W2, J p W1 → W1.grownBy W2 none → J p W2)
    (hY : ∀ pre t W, J pre W → pre.length < keys.length → YieldAt Fence.wide (n - 1) Tryd.prog l #[encT t] W fun e W' =>
      (e = .returned (.bool true) ∧ J (pre ++ [t]) W' ∧ Below n₀ W W') ∨ (e = .returned (.bool false) ∧ Jx (pre ++ [t]) W'))
    (W : World) (hk : W.cell? ⟨Bk, 0, none⟩ = some (.slice A keys.length c)) (hBk : Bk < n₀) (hks : Kd.F Kd.string W (fun k => k < n₀) A keys.length keys) (hkl : keys.length ≤ 140737488351232)
    (ho : BoxOf W Bo (fun k => k < n₀) x) (hBo : Bo < n₀) (hy : BoxOf W Bn (fun k => k < n₀) y) (hBn : Bn < n₀) (hn0 : n₀ ≤ W.heap.size) (hfx : Fit x) (hfy : Fit y) (h0 : J [] W) :
    CallsIn Fence.wide n Tryd.prog 76 #[.func (.yield l) #[] #[], .pointer (some ⟨Bk, 0, none⟩), .pointer (some ⟨Bo, 0, none⟩), .pointer (some ⟨Bn, 0, none⟩)] W fun e W' => (∃ v, e = .returned v) ∧
      ((∃ xs, xs = turnsL x y keys ∧ J xs W') ∨ (∃ pre, pre <+: turnsL x y keys ∧ Jx pre W')) := by
  have HO := Lib.hid ho; have HN := Lib.hid hy; have HKS := Lib.hid hks; have HJ := Lib.hid hJ; have HY := Lib.hid hY; have HFX := Lib.hid hfx; have HFY := Lib.hid hfy; have H0 := Lib.hid h0; have HK := Lib.hid hk
  clear ho hy hks hJ hY hfx hfy h0
  refine callsIn_of_wp Tryd.func76 rfl trivial ?_ rfl
  simp only [Tryd.ntmps76, List.size_toArray, List.length_cons, List.length_nil, Nat.reduceAdd, Nat.reduceSub, Array.replicate_succ, Array.replicate_zero, List.push_toArray, List.append_toArray, List.nil_append, List.cons_append]
  gi_wp2_with fail
  gi_loopw [10] (fun i wr => ∃ k : Nat, k ≤ keys.length ∧ i = .int .i64 (k : Int) ∧ J (turnsL x y (keys.take k)) wr ∧ Below n₀ W wr) (fun i _ => keys.length - (intOf i).toNat)
  case atStart => exact ⟨0, Nat.zero_le _, rfl, by simpa [turnsL] using H0.out, Below.refl _ _⟩
  case round =>
    obtain ⟨k, hkk, rfl, hJs, hnx⟩ := hrel
    have HJS := Lib.hid hJs; have HNX := Lib.hid hnx
    clear hJs hnx
    by_cases hlt : k < keys.length
    · obtain ⟨g, o, rfl, hg, _, hc⟩ := strs_at HKS.out (by omega)
      have hcell := (HNX.out.cell (p := ⟨g, o + k, none⟩) hg).trans (hc k hlt)
      obtain ⟨key, hkey⟩ : ∃ key, keys[k] = key := ⟨_, rfl⟩
      rw [hkey] at hcell
      have HKEY := Lib.hid hkey
      clear hkey hc hk
      gi_wp2_with fail
      refine wpIn_wide.2 ?_
      have HO1 := Lib.hid (HO.out.belowN hBo HNX.out)
      have HN1 := Lib.hid (HN.out.belowN hBn HNX.out)
      obtain ⟨A1, a1, C1, c1, hc1, hv1⟩ := HO1.out.readD
      obtain ⟨A2, a2, C2, c2, hc2, hv2⟩ := HN1.out.readD
      refine region_vals [PK.val (.string key), .val (.agg #[.int .i64 x.f0, .int .i64 x.f1, .string x.f2, .slice A1 x.f3.length a1, .slice C1 x.f4.length c1]), .val (.string key), .val (lvV (atV x key)), .val (.agg #[.int .i64 y.f0, .int .i64 y.f1, .string y.f2, .slice A2 y.f3.length a2, .slice C2 y.f4.length c2]), .val (.string key), .val (lvV (atV y key)), .val (encT (turnOf x y key)), .boxt 75 zTurn] 9 (by kernel_rfl) (by kernel_rfl) ?_ ?_
      · intro i hi
        have : i = 0 ∨ i = 1 ∨ i = 2 ∨ i = 3 ∨ i = 4 ∨ i = 5 ∨ i = 6 ∨ i = 7 ∨ i = 8 := by omega
        rcases this with rfl | rfl | rfl | rfl | rfl | rfl | rfl | rfl | rfl
        · exact mk_move rfl rfl rfl rfl (by kernel_rfl) rfl
        · exact mk_load rfl rfl rfl rfl (by kernel_rfl) hc1 ⟨rfl, rfl, rfl, rfl, rfl⟩ rfl
        · exact mk_move rfl rfl rfl rfl (by kernel_rfl) rfl
        · refine mk_call rfl rfl rfl eg31 (fun own a W hB hO hK hD => ?_)
          have g1 : a.tmps.getD 15 undef = _ := hD 1 15 (by kernel_rfl) rfl
          have g2 : a.tmps.getD 16 undef = _ := hD 2 16 (by kernel_rfl) rfl
          show Calls _ _ #[a.tmps.getD 15 undef, a.tmps.getD 16 undef] W _
          rw [g1, g2]
          refine (at_any (NV.old hv1 hB hO) HFX.out key).mono ?_
          rintro e W' ⟨rfl, hb⟩
          exact ⟨_, rfl, rfl, hb⟩
        · exact mk_load rfl rfl rfl rfl (by kernel_rfl) hc2 ⟨rfl, rfl, rfl, rfl, rfl⟩ rfl
        · exact mk_move rfl rfl rfl rfl (by kernel_rfl) rfl
        · refine mk_call rfl rfl rfl eg31 (fun own a W hB hO hK hD => ?_)
          have g1 : a.tmps.getD 18 undef = _ := hD 4 18 (by kernel_rfl) rfl
          have g2 : a.tmps.getD 19 undef = _ := hD 5 19 (by kernel_rfl) rfl
          show Calls _ _ #[a.tmps.getD 18 undef, a.tmps.getD 19 undef] W _
          rw [g1, g2]
          refine (at_any (NV.old hv2 hB hO) HFY.out key).mono ?_
          rintro e W' ⟨rfl, hb⟩
          exact ⟨_, rfl, rfl, hb⟩
        · refine mk_run rfl rfl rfl (fun own a W hB hK hD => ?_)
          have g1 : a.tmps.getD 14 undef = _ := hD 0 14 (by kernel_rfl) rfl
          have g2 : a.tmps.getD 17 undef = _ := hD 3 17 (by kernel_rfl) rfl
          have g3 : a.tmps.getD 20 undef = _ := hD 6 20 (by kernel_rfl) rfl
          show Sem.run _ (do pure (Next.value (← Instr.build 75 (#[(0, Operand.tmp 14), (1, Operand.tmp 17), (2, Operand.tmp 20)].map fun (i, x) => (i, a.eval x))))) W = _
          simp only [List.map_toArray, List.map_cons, List.map_nil, Act.eval]
          rw [g1, g2, g3]
          kernel_rfl
        · exact mk_boxt rfl rfl rfl rfl (fun w => by kernel_rfl)
      · intro own vs W3 hB hO hPre hvl
        obtain ⟨u0, t0, rfl, hq0⟩ := len_cons hvl
        obtain ⟨u1, t1, rfl, hq1⟩ := len_cons hq0
        obtain ⟨u2, t2, rfl, hq2⟩ := len_cons hq1
        obtain ⟨u3, t3, rfl, hq3⟩ := len_cons hq2
        obtain ⟨u4, t4, rfl, hq4⟩ := len_cons hq3
        obtain ⟨u5, t5, rfl, hq5⟩ := len_cons hq4
        obtain ⟨u6, t6, rfl, hq6⟩ := len_cons hq5
        obtain ⟨u7, t7, rfl, hq7⟩ := len_cons hq6
        obtain ⟨u8, t8, rfl, hq8⟩ := len_cons hq7
        obtain ⟨u9, t9, rfl, hq9⟩ := len_cons hq8
        obtain rfl := List.length_eq_zero_iff.1 hq9
        have e7 : u7 = encT (turnOf x y key) := hPre 7 (by decide)
        obtain ⟨p, e8, hpo, hc⟩ : BoxT 75 zTurn own W3 u8 := hPre 8 (by decide)
        subst e7 e8
        have hp0 := (hO.1 p ⟨_, hpo⟩).1
        have hlp : p < W3.heap.size := (Array.getElem?_eq_some_iff.1 hc).1
        have vs8 := softv hc
        obtain ⟨k0, k1, k2, k3, k4⟩ := cells5v hc
        simp only [dstsOf, List.map_cons, List.map_nil, fillT, List.setIfInBounds_toArray, List.set_cons_zero, List.set_cons_succ]
        refine wpOp_step rfl (fun K hK => ?_)
        have HK := Lib.hid hK
        clear hK hPre hq0 hq1 hq2 hq3 hq4 hq5 hq6 hq7 hq8 hq9 hvl
        unfold encT
        go_simp
        refine HK.out _ _ ?_
        have hO5 := off5 W3 p (.string (turnOf x y key).key) (.int .i64 ((turnOf x y key).o.getD 0)) (.bool (turnOf x y key).o.isSome) (.int .i64 ((turnOf x y key).n.getD 0)) (.bool (turnOf x y key).n.isSome)
        have hb4 := Off.below hB hO5 (by simpa using hp0)
        have hc4 := heap_setv (j := 4) (heap_setv (j := 3) (heap_setv (j := 2) (heap_setv (j := 1) (heap_setv (j := 0) hc (.string (turnOf x y key).key)) (.int .i64 ((turnOf x y key).o.getD 0))) (.bool (turnOf x y key).o.isSome)) (.int .i64 ((turnOf x y key).n.getD 0))) (.bool (turnOf x y key).n.isSome)
        have hc4 : _ = some (Obj.cells #[.string (turnOf x y key).key, .int .i64 ((turnOf x y key).o.getD 0), .bool (turnOf x y key).o.isSome, .int .i64 ((turnOf x y key).n.getD 0), .bool (turnOf x y key).n.isSome] 75 (0, 0)) := hc4
        obtain ⟨W4, hW4⟩ : ∃ W4, (((((W3.setCell ⟨p, 0, none⟩ (.string (turnOf x y key).key)).setCell ⟨p, 1, none⟩ (.int .i64 ((turnOf x y key).o.getD 0))).setCell ⟨p, 2, none⟩ (.bool (turnOf x y key).o.isSome)).setCell ⟨p, 3, none⟩ (.int .i64 ((turnOf x y key).n.getD 0))).setCell ⟨p, 4, none⟩ (.bool (turnOf x y key).n.isSome)) = W4 := ⟨_, rfl⟩
        rw [hW4] at hb4 hc4 ⊢
        clear hW4 hO5 hc k0 k1 k2 k3 k4 vs8 hO hB hlp hp0 HK hc1 hv1 hc2 hv2 HO1 HN1 hcell
        obtain ⟨k0, k1, k2, k3, k4⟩ := cells5v hc4
        clear hc4
        have hJ4 := Lib.hid (HJ.out _ _ _ HJS.out (grown_of hb4))
        have hN4 := Lib.hid (HNX.out.trans (hb4.mono (Nat.le_trans hn0 HNX.out.size)))
        have hTk := Lib.hid (turnsL_take x y keys k hlt)
        rw [HKEY.out] at hTk
        obtain ⟨t, ht⟩ : ∃ t, turnOf x y key = t := ⟨_, rfl⟩
        rw [ht] at k0 k1 k2 k3 k4 hTk ⊢
        have HTT := Lib.hid ht
        clear ht hb4
        obtain ⟨tk, o, n'⟩ := t
        cases o with
        | none =>
          cases n' with
          | none =>
            simp only [Option.getD_none, Option.isSome_none] at k0 k1 k2 k3 k4 ⊢
            replace hTk := Lib.hid (hTk.out.trans (by rw [if_neg (by unfold turnedB; simp), List.append_nil]))
            gi_wp2_with fail
            repeat (refine ⟨fun f h => (by cases h), ?_⟩; gi_wp2_with fail)
            go_roundw
            case rel => exact ⟨k + 1, by omega, by simp, by rw [hTk.out]; exact hJ4.out, hN4.out⟩
            case measure => simp [intOf]; omega
          | some c' =>
            simp only [Option.getD_none, Option.isSome_none, Option.getD_some, Option.isSome_some] at k0 k1 k2 k3 k4 ⊢
            have hb : turnedB ⟨tk, none, some c'⟩ = true := by first | rfl | (unfold turnedB; simp [hac])
            replace hTk := Lib.hid (hTk.out.trans (by rw [if_pos hb]))
            obtain ⟨fn, tmps, assign, body, hy, hR⟩ := HY.out _ ⟨tk, none, some c'⟩ W4 hJ4.out (by have := turnsL_len x y (keys.take k); rw [List.length_take] at this; omega)
            simp only [encT, Option.getD_none, Option.isSome_none, Option.getD_some, Option.isSome_some] at hy
            have HRR := Lib.hid hR
            clear hR hb
            gi_wp2_with fail
            refine HRR.out.mono ?_
            rintro e W5 (⟨rfl, hJ5, hk5⟩ | ⟨rfl, hJx5⟩)
            · have HJ5 := Lib.hid hJ5; have HK5 := Lib.hid (hN4.out.trans hk5)
              clear hJ5 hk5 k0 k1 k2 k3 k4
              gi_wp2_with fail
              go_roundw
              case rel => exact ⟨k + 1, by omega, by simp, by rw [hTk.out]; exact HJ5.out, HK5.out⟩
              case measure => simp [intOf]; omega
            · have HJ5 := Lib.hid hJx5
              clear hJx5 k0 k1 k2 k3 k4
              gi_wp2_with fail
              refine bodyPost_ret (results_none rfl _ _ _) rfl ?_
              exact ⟨⟨_, rfl⟩, .inr ⟨_, by rw [← hTk.out]; exact turnsL_pre x y keys (k + 1), HJ5.out⟩⟩
        | some a' =>
          cases n' with
          | none =>
            simp only [Option.getD_none, Option.isSome_none, Option.getD_some, Option.isSome_some] at k0 k1 k2 k3 k4 ⊢
            have hb : turnedB ⟨tk, some a', none⟩ = true := by first | rfl | (unfold turnedB; simp [hac])
            replace hTk := Lib.hid (hTk.out.trans (by rw [if_pos hb]))
            obtain ⟨fn, tmps, assign, body, hy, hR⟩ := HY.out _ ⟨tk, some a', none⟩ W4 hJ4.out (by have := turnsL_len x y (keys.take k); rw [List.length_take] at this; omega)
            simp only [encT, Option.getD_none, Option.isSome_none, Option.getD_some, Option.isSome_some] at hy
            have HRR := Lib.hid hR
            clear hR hb
            gi_wp2_with fail
            refine HRR.out.mono ?_
            rintro e W5 (⟨rfl, hJ5, hk5⟩ | ⟨rfl, hJx5⟩)
            · have HJ5 := Lib.hid hJ5; have HK5 := Lib.hid (hN4.out.trans hk5)
              clear hJ5 hk5 k0 k1 k2 k3 k4
              gi_wp2_with fail
              go_roundw
              case rel => exact ⟨k + 1, by omega, by simp, by rw [hTk.out]; exact HJ5.out, HK5.out⟩
              case measure => simp [intOf]; omega
            · have HJ5 := Lib.hid hJx5
              clear hJx5 k0 k1 k2 k3 k4
              gi_wp2_with fail
              refine bodyPost_ret (results_none rfl _ _ _) rfl ?_
              exact ⟨⟨_, rfl⟩, .inr ⟨_, by rw [← hTk.out]; exact turnsL_pre x y keys (k + 1), HJ5.out⟩⟩
          | some c' =>
            simp only [Option.getD_some, Option.isSome_some] at k0 k1 k2 k3 k4 ⊢
            by_cases hac : a' = c'
            · subst hac
              replace hTk := Lib.hid (hTk.out.trans (by rw [if_neg (by unfold turnedB; simp), List.append_nil]))
              gi_wp2_with fail
              repeat (refine ⟨fun f h => (by cases h), ?_⟩; gi_wp2_with fail)
              go_roundw
              case rel => exact ⟨k + 1, by omega, by simp, by rw [hTk.out]; exact hJ4.out, hN4.out⟩
              case measure => simp [intOf]; omega
            · have hac' := eq_false hac
              have hb : turnedB ⟨tk, some a', some c'⟩ = true := by first | rfl | (unfold turnedB; simp [hac])
              replace hTk := Lib.hid (hTk.out.trans (by rw [if_pos hb]))
              obtain ⟨fn, tmps, assign, body, hy, hR⟩ := HY.out _ ⟨tk, some a', some c'⟩ W4 hJ4.out (by have := turnsL_len x y (keys.take k); rw [List.length_take] at this; omega)
              simp only [encT, Option.getD_none, Option.isSome_none, Option.getD_some, Option.isSome_some] at hy
              have HRR := Lib.hid hR
              clear hR hb
              gi_wp2_with fail
              refine HRR.out.mono ?_
              rintro e W5 (⟨rfl, hJ5, hk5⟩ | ⟨rfl, hJx5⟩)
              · have HJ5 := Lib.hid hJ5; have HK5 := Lib.hid (hN4.out.trans hk5)
                clear hJ5 hk5 k0 k1 k2 k3 k4
                gi_wp2_with fail
                go_roundw
                case rel => exact ⟨k + 1, by omega, by simp, by rw [hTk.out]; exact HJ5.out, HK5.out⟩
                case measure => simp [intOf]; omega
              · have HJ5 := Lib.hid hJx5
                clear hJx5 k0 k1 k2 k3 k4
                gi_wp2_with fail
                refine bodyPost_ret (results_none rfl _ _ _) rfl ?_
                exact ⟨⟨_, rfl⟩, .inr ⟨_, by rw [← hTk.out]; exact turnsL_pre x y keys (k + 1), HJ5.out⟩⟩
    · gi_wp2_with fail
      go_end0
      exact ⟨⟨_, rfl⟩, .inl ⟨_, rfl, by have := HJS.out; rw [show k = keys.length by omega, List.take_length] at this; exact this⟩⟩
end Go.Proofs.YtkdicgendcdooaaDoor

/-
  The function some, called on an iterator of turns and on a closure that says yes or no of each, says whether one of them is so.
-/
namespace Go.Proofs.YtkdicgendcdooaaDoor
open Go.RowKit Go.Lib Go.Shelf Go.Proofs.YtkdicgendcdooaaDoorW.PrintWords
attribute [local go_sem] Oper.semAt_some
set_option linter.unusedSimpArgs false
set_option linter.unusedVariables false
abbrev cellsT (t : TT) : Array Value := #[.string t.key, .int .i64 (t.o.getD 0), .bool t.o.isSome, .int .i64 (t.n.getD 0), .bool t.n.isSome]
/-- What lies there for an iterator of turns: its three boxes. -/
structure SeqAt (w : World) (Bk Bo Bn : Nat) (x y : V) (keys : List ByteArray) : Prop where
  row : ∃ A c, w.cell? ⟨Bk, 0, none⟩ = some (.slice A keys.length c) ∧ Kd.F Kd.string w (fun k => k < w.heap.size) A keys.length keys
  len : keys.length ≤ 140737488351232
  o : BoxOf w Bo (fun k => k < w.heap.size) x
  n : BoxOf w Bn (fun k => k < w.heap.size) y
  fx : Fit x
  fy : Fit y
theorem SeqAt.below {w W : World} {Bk Bo Bn : Nat} {x y : V} {keys : List ByteArray} (h : SeqAt w Bk Bo Bn x y keys) (hb : Below w.heap.size w W) : SeqAt W Bk Bo Bn x y keys := by
  obtain ⟨⟨A, c, h1, h2⟩, h3, h4, h5, h6, h7⟩ := h
  have hm : ∀ z p, BoxOf w p (fun k => k < w.heap.size) z → BoxOf W p (fun k => k < W.heap.size) z := fun z p h => by
    obtain ⟨A3, c3, A4, c4, e1, e2⟩ := h.below hb
    exact ⟨A3, c3, A4, c4, e1, e2.mono (fun k hk => Nat.lt_of_lt_of_le hk hb.size)⟩
  refine ⟨⟨A, c, (hb.cell (p := ⟨Bk, 0, none⟩) (World.block_lt_of_cell? w _ h1)).trans h1, Kd.F_mono (Kd.F_below h2 hb) (fun k hk => Nat.lt_of_lt_of_le hk hb.size)⟩, h3, hm _ _ h4, hm _ _ h5, h6, h7⟩
theorem seq_stops (n : Nat) (hn : 1 ≤ n) {w : World} {Bk Bo Bn : Nat} {x y : V} {keys : List ByteArray} (h : SeqAt w Bk Bo Bn x y keys) :
    SeqStopsK Fence.wide n Tryd.prog 76 #[.pointer (some ⟨Bk, 0, none⟩), .pointer (some ⟨Bo, 0, none⟩), .pointer (some ⟨Bn, 0, none⟩)] (fun t : TT => #[encT t]) (Below w.heap.size) (fun xs => xs = turnsL x y keys) (fun pre => pre <+: turnsL x y keys) keys.length w := fun l J Jx W hW hJ _ hY h0 => by
  obtain ⟨⟨A, c, h1, h2⟩, h3, h4, h5, h6, h7⟩ := h
  exact turns1_in n hn l Bk Bo Bn w.heap.size x y keys A c J Jx (fun p W1 W2 hp hg => hJ p W1 W2 none hp hg (fun r e => by cases e)) hY W
    ((hW.cell (p := ⟨Bk, 0, none⟩) (World.block_lt_of_cell? w _ h1)).trans h1) (World.block_lt_of_cell? w _ h1) (Kd.F_below h2 hW) h3 (h4.below hW) h4.lt (h5.below hW) h5.lt hW.size h6 h7 h0
theorem keeps_of {B : Nat} {W W' : World} (h : Below W.heap.size W W') : KeepsFrom B W W' := ⟨h.size, fun k o _ hk _ => (h.block k (Array.getElem?_eq_some_iff.1 hk).1).trans hk⟩
theorem Boxed.far {W W' : World} {B : Nat} {t : TypeId} {v : Value} (h : Boxed W B t v) (hb : Below W.heap.size W W') : Boxed W' B t v := (hb.block B h.lt).trans h
set_option maxRecDepth 100000 in
set_option maxHeartbeats 2000000 in
theorem some_in {w : World} {Bk Bo Bn : Nat} {x y : V} {keys : List ByteArray} (h : SeqAt w Bk Bo Bn x y keys) (G : Nat) (cap : Array Value) (pf : TT → Bool) (eg : ∀ args w, (callFunc G args).run Tryd.prog w = .ok (.enter G args) w)
    (hG : ∀ t W, Below w.heap.size w W → Calls Tryd.prog G (#[encT t] ++ cap) W (EndI W (.bool (pf t)))) :
    CallsIn Fence.wide 6 Tryd.prog 54 #[.func (.func 76) #[] #[.pointer (some ⟨Bk, 0, none⟩), .pointer (some ⟨Bo, 0, none⟩), .pointer (some ⟨Bn, 0, none⟩)], .func (.func G) #[] cap] w (EndI w (.bool ((turnsL x y keys).any pf))) := by
  refine callsIn_of_wp_marks Tryd.func54 rfl trivial ?_ rfl
  simp only [Tryd.ntmps54, List.size_toArray, List.length_cons, List.length_nil, Nat.reduceAdd, Nat.reduceSub, Array.replicate_succ, Array.replicate_zero, List.push_toArray, List.append_toArray, List.nil_append, List.cons_append]
  have HG := Lib.hid hG; have HS := Lib.hid h
  clear hG h
  gi_wp2_with fail
  obtain ⟨W0, hW0⟩ : ∃ W0, (w.alloc (.cells #[.func (.func G) #[] cap] 77)).alloc (.cells #[.bool false] 4) = W0 := ⟨_, rfl⟩
  have hs0 : W0.heap.size = w.heap.size + 2 := by rw [← hW0]; simp
  have hB0 : Boxed W0 w.heap.size 77 (.func (.func G) #[] cap) := by
    rw [← hW0]; exact (Boxed.new w 77 (.func (.func G) #[] cap)).alloc _
  have hB1 : Boxed W0 (w.heap.size + 1) 4 (.bool false) := by
    rw [← hW0]; have := Boxed.new (w.alloc (.cells #[.func (.func G) #[] cap] 77)) 4 (.bool false); rwa [World.size_alloc] at this
  have hBW : Below w.heap.size w W0 := by rw [← hW0]; exact ((Below.refl _ w).alloc (Nat.le_refl _) _).alloc (by simp) _
  rw [hW0]
  clear hW0
  refine wpIn_rangeFunc_ownH rfl (by omega) (gf := 76) (lb := #[.pointer (some ⟨Bk, 0, none⟩), .pointer (some ⟨Bo, 0, none⟩), .pointer (some ⟨Bn, 0, none⟩)]) rfl trivial (enters_of Tryd.func76 (by kernel_rfl) rfl)
    (seq_stops 5 (by omega) HS.out) belowK_t (belowK_b (by omega)) hBW (fun _ => rfl)
    (fun pre W => ((∀ t ∈ pre, pf t = false) ∧ Boxed W w.heap.size 77 (.func (.func G) #[] cap) ∧ Boxed W (w.heap.size + 1) 4 (.bool false)) ∧ Below w.heap.size w W)
    (fun c pre W => (c = .ret ∧ (∃ t ∈ pre, pf t = true) ∧ Boxed W (w.heap.size + 1) 4 (.bool true)) ∧ Below w.heap.size w W)
    (OwnFrom.and (Own.from (fun s A B row hs hg hr => ⟨hs.1, boxed_own _ _ (fun (_ : Unit) => _) () A B row hs.2.1 hg hr, boxed_own _ _ (fun (_ : Unit) => _) () A B row hs.2.2 hg hr⟩) _) (ownFrom_below (Nat.le_refl _) (by omega)))
    (fun c => OwnFrom.and (Own.from (fun s A B row hs hg hr => ⟨hs.1, hs.2.1, boxed_own _ _ (fun (_ : Unit) => _) () A B row hs.2.2 hg hr⟩) _) (ownFrom_below (Nat.le_refl _) (by omega)))
    ⟨⟨by simp, hB0, hB1⟩, hBW⟩
    (fun t a' W => ∃ Bx, w.heap.size + 1 < Bx ∧ W.heap[Bx]? = some (.cells (cellsT t) 75 (0, 0)) ∧ a' = { tmps := #[.func (.func 76) #[] #[.pointer (some ⟨Bk, 0, none⟩), .pointer (some ⟨Bo, 0, none⟩), .pointer (some ⟨Bn, 0, none⟩)], .func (.func G) #[] cap, undef, .pointer (some ⟨w.heap.size, 0, none⟩), .pointer (some ⟨w.heap.size + 1, 0, none⟩), .pointer (some ⟨Bx, 0, none⟩), .func (.func 76) #[] #[.pointer (some ⟨Bk, 0, none⟩), .pointer (some ⟨Bo, 0, none⟩), .pointer (some ⟨Bn, 0, none⟩)], encT t, undef, undef, undef], defers := [] })
    (fun t a' _ X Y row hs hg hr => by
      obtain ⟨Bx, h1, h2, h3⟩ := hs
      refine ⟨Bx, h1, (hg.block Bx (Array.getElem?_eq_some_iff.1 h2).1 (fun e => ?_)).trans h2, h3⟩
      obtain ⟨o, ho, hc⟩ := (hr Bx e.symm).2
      rw [h2] at ho; cases ho; simp [Obj.isCells] at hc)
    ?assign ?body ?done ?stop
  case assign =>
    rintro l pre t W K ⟨⟨hp, bF, bR⟩, hB⟩ hK
    unfold encT at hK ⊢
    gi_wp2_with fail
    exact hK _ _ ((KeepsOthers.alloc _ _).from _) ((Below.refl _ W).alloc hB.size _) ⟨⟨hp, bF.alloc _, bR.alloc _⟩, hB.alloc hB.size _⟩ ⟨W.heap.size, bR.lt, heap_alloc_new W _, rfl⟩
  case body =>
    rintro l pre t a' W hl hr ⟨⟨hp, bF, bR⟩, hB⟩ ⟨Bx, hBx, bX, rfl⟩ hlt
    have HGG := Lib.hid (HG.out t W hB)
    obtain ⟨c0, c1, c2, c3, c4⟩ := cells5v bX
    have cF := bF.cell
    have HP := Lib.hid hp; have HF : Hid (Boxed W w.heap.size 77 (.func (.func G) #[] cap)) := Lib.hid bF; have HR : Hid (Boxed W (w.heap.size + 1) 4 (.bool false)) := Lib.hid bR; have HB := Lib.hid hB
    clear hp bF bR hB bX hr
    unfold encT at HGG ⊢
    gi_wp2_with fail
    refine ⟨trivial, ?_⟩
    refine (CallsIn.inRound l (callsIn_wide.2 HGG.out)).mono ?_
    rintro e W6 ⟨rfl, hb⟩
    have bR6 := Boxed.far HR.out hb
    have cR := bR6.cell
    have fR := bR6.frozen
    have HB6 := Lib.hid hb
    have HR6 : Hid (Boxed W6 (w.heap.size + 1) 4 (.bool false)) := Lib.hid bR6
    clear hb bR6 c0 c1 c2 c3 c4 cF
    cases hpf : pf t with
    | true =>
      gi_wp2_with fail
      refine ⟨(keeps_of HB6.out).trans ((KeepsOthers.setCell _ _ _).from _), ⟨rfl, ⟨t, by simp, hpf⟩, Boxed.set _ HR6.out⟩, (HB.out.trans (HB6.out.mono HB.out.size)).setCell (p := ⟨w.heap.size + 1, 0, none⟩) (by simp) _⟩
    | false =>
      gi_wp2_with fail
      exact ⟨keeps_of HB6.out, HB6.out.mono HB.out.size, ⟨fun u hu => (List.mem_append.1 hu).elim (HP.out u) (fun e => by simp at e; subst e; exact hpf), Boxed.far HF.out HB6.out, HR6.out⟩, HB.out.trans (HB6.out.mono HB.out.size)⟩
  case done =>
    rintro D xs W hD rfl ⟨⟨hp, bF, bR⟩, hB⟩ hK
    have cR := bR.cell
    have fR := bR.frozen
    gi_wp2_with fail
    have hK' := (KeepsOthers.setCell W ⟨w.heap.size + 1, 0, none⟩ (.bool false)).same D _ hK rfl
    refine ⟨by simp, .inl ⟨_, _, rfl, run_takeDeferred hK', ?_⟩⟩
    have hc5 := cell_kept (bR.set (.bool false)).cell (grownBy_putObj' _ D (.deferred none)) (fun r e => by cases e; exact ⟨_, hK', rfl⟩)
    refine ⟨.bool false, ?_, ?_, (hB.setCell (p := ⟨w.heap.size + 1, 0, none⟩) (by simp) _).trans (belowK_b (w := w) (Nat.le_refl _) _ D _ _ (by omega) hK' rfl rfl)⟩
    · simp [results, Tryd.results54, go_sem, hc5]
    · have : (turnsL x y keys).any pf = false := List.any_eq_false.2 fun t ht => by rw [hp t ht]; decide
      rw [this]
  case stop =>
    rintro D c pre W hD hpre ⟨⟨rfl, ⟨t, ht, hpf⟩, bR⟩, hB⟩ hK
    gi_wp2_with fail
    refine ⟨by simp, .inl ⟨_, _, rfl, run_takeDeferred hK, ?_⟩⟩
    have hc5 := cell_kept bR.cell (grownBy_putObj' _ D (.deferred none)) (fun r e => by cases e; exact ⟨_, hK, rfl⟩)
    refine ⟨.bool true, ?_, ?_, hB.trans (belowK_b (w := w) (Nat.le_refl _) W D _ _ (by omega) hK rfl rfl)⟩
    · simp [results, Tryd.results54, go_sem, hc5]
    · have : (turnsL x y keys).any pf = true := List.any_eq_true.2 ⟨t, hpre.subset ht, hpf⟩
      rw [this]
theorem some_any {w : World} {Bk Bo Bn : Nat} {x y : V} {keys : List ByteArray} (h : SeqAt w Bk Bo Bn x y keys) (G : Nat) (cap : Array Value) (pf : TT → Bool) (eg : ∀ args w, (callFunc G args).run Tryd.prog w = .ok (.enter G args) w)
    (hG : ∀ t W, Below w.heap.size w W → Calls Tryd.prog G (#[encT t] ++ cap) W (EndI W (.bool (pf t)))) :
    Calls Tryd.prog 54 #[.func (.func 76) #[] #[.pointer (some ⟨Bk, 0, none⟩), .pointer (some ⟨Bo, 0, none⟩), .pointer (some ⟨Bn, 0, none⟩)], .func (.func G) #[] cap] w (EndI w (.bool ((turnsL x y keys).any pf))) :=
  callsIn_wide.1 (some_in h G cap pf eg hG)
end Go.Proofs.YtkdicgendcdooaaDoor

/-
  slices.Concat at two rows of texts.
-/
namespace Go.Proofs.YtkdicgendcdooaaDoor
open Go.RowKit Go.Lib Go.Shelf Go.Proofs.YtkdicgendcdooaaDoorW.PrintWords Go.Proofs.YtkdicgendcdooaaDoorW.PrintLast Go.Proofs.YtkdicgendcdooaaDoorW.PrintMore
set_option linter.unusedSimpArgs false
set_option linter.unusedVariables false
theorem own_cut {W : World} {base : Nat} {v : Value} {n : Nat} {xs : List Value} {g c : Nat} (hv : v = .slice (some ⟨g, 0, none⟩) n c) (h : W.ownsRow base 9 1 v n xs) : W.ownsRow base 9 1 (.slice (some ⟨g, 0, none⟩) 0 c) 0 [] := by
  obtain ⟨_, h2⟩ := h
  rcases h2 with ⟨e, _⟩ | ⟨g', cap, cur, e, hg, hh, hn, hm, hs, _⟩
  · rw [hv] at e; cases e
  · rw [hv] at e
    injection e with e1 _ e3
    injection e1 with e1
    injection e1 with e1
    subst e1 e3
    exact ⟨rfl, .inr ⟨g, c, cur, rfl, hg, hh, Nat.zero_le _, hm, hs, by simp⟩⟩
set_option maxRecDepth 100000 in
theorem grow_nil (n : Nat) (hn : n ≤ 1000000) (w : World) : Calls Tryd.prog 77 #[.slice none 0 0, .int .i64 (n : Int)] w fun e w' => ∃ v, e = .returned v ∧ Kd.string.R 9 w' w.heap.size Any v [] ∧ Below w.heap.size w w' := by
  by_cases h0 : n = 0
  · subst h0
    go_enter Tryd.func77, Tryd.ntmps77
    go_wp2_with fail
    go_ret
    exact ⟨_, rfl, Kd.R_nil _ _ _ _ _, Below.refl _ _⟩
  · have info9 : (Tryd.prog.info? 9).map (fun i => (i.zero, i.size, i.bytes)) = some (some (.string ⟨#[]⟩), 1, 16) := by kernel_rfl
    have h1 : (0 : Int) < (n : Int) := by omega
    have hN := Lib.hid (show True from trivial)
    go_enter Tryd.func77, Tryd.ntmps77
    go_wp2_with (at_builtin; refine Kd.N_append_zeros Kd.string (w0 := w) w.heap.size rfl (.tmp 20) (.tmp 21) 24 3 9 (.string ⟨#[]⟩) 16 rfl Tryd.underlying24 Tryd.underlying3 info9 rfl (by decide) (by decide) (.slice none 0 0) [] (⟨#[]⟩ : ByteArray) (n : Int) Any rfl rfl (fun _ _ => rfl) (fun _ _ => trivial) (Kd.N_nil _ _ _ _ _) (by omega) (Below.refl _ _) (Nat.le_refl _) (by simp; omega) ?_; intro v1 w1 hN1 hb1 hg hat; obtain ⟨_, rows, hlr, hR, _⟩ := hN1; have hlen : rows.length = n := (by rw [hlr]; simp); obtain ⟨g, cap, hv1, hbg, hlt, _⟩ := Kd.R_form hR (by omega); obtain ⟨inner, hown⟩ := Kd.R_own hR; have HOWN := Lib.hid (own_cut hv1 hown); have HB := Lib.hid hb1; clear hb1 hg hat hR hown hlr; subst hv1)
    go_ret
    exact ⟨_, rfl, Kd.R_of_own HOWN.out (fun _ _ => trivial), HB.out⟩
def catCells (A1 A2 : Option Addr) (n1 n2 c1 c2 : Nat) : Array Value := #[.slice A1 n1 c1, .slice A2 n2 c2]
set_option maxRecDepth 100000 in
set_option maxHeartbeats 1000000 in
theorem concat_any {w : World} {p : Nat} {A1 A2 : Option Addr} {c1 c2 : Nat} {l1 l2 : List ByteArray} (hp : w.heap[p]? = some (.cells #[.slice A1 l1.length c1, .slice A2 l2.length c2] 24 (0, 0)))
    (h1 : Kd.F Kd.string w Any A1 l1.length l1) (h2 : Kd.F Kd.string w Any A2 l2.length l2) (hl1 : l1.length ≤ 100000) (hl2 : l2.length ≤ 100000) :
    Calls Tryd.prog 51 #[.slice (some ⟨p, 0, none⟩) 2 2] w fun e w' => ∃ v, e = .returned v ∧ Kd.string.R 9 w' w.heap.size Any v (l1 ++ l2) ∧ Below w.heap.size w w' := by
  have info9 : (Tryd.prog.info? 9).map (fun i => (i.zero, i.size, i.bytes)) = some (some (.string ⟨#[]⟩), 1, 16) := by kernel_rfl
  have hlt : p < w.heap.size := (Array.getElem?_eq_some_iff.1 hp).1
  obtain ⟨k0, k1⟩ := cells2v hp
  have HG := Lib.hid (grow_nil (l1.length + l2.length) (by omega) w)
  have H1 := Lib.hid h1; have H2 := Lib.hid h2
  obtain ⟨n1, hn1⟩ : ∃ n, l1.length = n := ⟨_, rfl⟩
  obtain ⟨n2, hn2⟩ : ∃ n, l2.length = n := ⟨_, rfl⟩
  rw [hn1] at hl1 k0
  rw [hn2] at hl2 k1
  rw [hn1, hn2] at HG
  have HN1 := Lib.hid hn1; have HN2 := Lib.hid hn2
  clear h1 h2 hp hn1 hn2
  go_enter Tryd.func51, Tryd.ntmps51
  go_wp2_with fail
  refine wp_loop_rounds 3 ?_
  rw [rounds_succ]
  go_wp2_with fail
  rw [rounds_succ]
  go_wp2_with fail
  rw [rounds_succ]
  go_wp2_with fail
  have hg := HG.out
  rw [Int.natCast_add] at hg
  refine hg.mono ?_
  clear hg HG
  rintro e w1 ⟨v, rfl, hR, hb⟩
  have HR1 := Lib.hid hR; have HB1 := Lib.hid hb
  have k0 := (hb.cell (p := ⟨p, 0, none⟩) hlt).trans k0
  have k1 := (hb.cell (p := ⟨p, 1, none⟩) hlt).trans k1
  clear hR hb
  go_wp2_with fail
  refine wp_loop_rounds 3 ?_
  rw [rounds_succ]
  have hN1 := HN1.out; have hN2 := HN2.out
  subst hN1 hN2
  go_wp2_with (at_builtin; refine Kd.R_append_row Value.string ⟨#[]⟩ (h1 := fun _ => rfl) (w0 := w) w.heap.size rfl (.tmp 31) (.tmp 32) 24 9 (.string ⟨#[]⟩) 16 rfl Tryd.underlying24 info9 rfl (by decide) v [] l1 A1 l1.length c1 Any rfl rfl (fun _ _ => trivial) HR1.out (Kd.F_now (Kd.F_below H1.out HB1.out)) HB1.out HB1.out.size (by simp; omega) ?_; intro v2 w2 hR hb hg hat)
  have HR2 := Lib.hid hR; have HB2 := Lib.hid hb
  have k1 := ((HB2.out).cell (p := ⟨p, 1, none⟩) hlt).trans ‹w.cell? ⟨p, 1, none⟩ = _›
  clear hR hb hg hat
  go_wp2_with fail
  rw [rounds_succ]
  go_wp2_with (at_builtin; refine Kd.R_append_row Value.string ⟨#[]⟩ (h1 := fun _ => rfl) (w0 := w) w.heap.size rfl (.tmp 31) (.tmp 32) 24 9 (.string ⟨#[]⟩) 16 rfl Tryd.underlying24 info9 rfl (by decide) v2 ([] ++ l1) l2 A2 l2.length c2 Any rfl rfl (fun _ _ => trivial) HR2.out (Kd.F_now (Kd.F_below H2.out HB2.out)) HB2.out HB2.out.size (by simp; omega) ?_; intro v3 w3 hR hb hg hat)
  have HR3 := Lib.hid hR; have HB3 := Lib.hid hb
  clear hR hb hg hat
  go_wp2_with fail
  rw [rounds_succ]
  go_wp2_with fail
  go_ret
  exact ⟨_, rfl, by have := HR3.out; rw [List.nil_append] at this; exact this, HB3.out⟩
end Go.Proofs.YtkdicgendcdooaaDoor

/-
  Regions of makers with several operations behind all of them (the stores of 'a, b := f(), g()').
-/
namespace Go.Proofs.YtkdicgendcdooaaDoor
open Go.RowKit Go.Lib
set_option linter.unusedSimpArgs false
set_option linter.unusedVariables false
section
variable {P : Program} {ops : Array Oper} {Q : Exit → Act → World → Prop} {md : Region.Mode}
def needs (md : Region.Mode) (ops : Array Oper) : Nat → Nat → Nat → Bool
  | 0, i, j => bindsOn md ops i j
  | f + 1, i, j => bindsOn md ops i j || (List.range ops.size).any (fun k => bindsOn md ops i k && needs md ops f k j)
def regOK2 (md : Region.Mode) (ops : Array Oper) (n L : Nat) : Bool :=
  decide (L ≤ ops.size) && apartD (dstsOf ops) && (dstsOf ops).all (fun o => match o with | some d => decide (d < n) | none => true)
    && (List.range L).all (fun i => ((ops[i]?).map (·.after.all fun e => !Region.binds md e || decide (e.on < i))).getD true)
    && (List.range ops.size).all (fun i => decide (i < L) || (List.range L).all (fun j => needs md ops L i j))
def leftL (L : Nat) (listed : Array Bool) : Nat := ((List.range L).filter (fun i => !listed.getD i false)).length
def maskL (n L : Nat) : Array Bool := (List.replicate L true ++ List.replicate (n - L) false).toArray
theorem filter_less {p q : Nat → Bool} (h : ∀ x, q x = true → p x = true) : ∀ (l : List Nat), (l.filter q).length ≤ (l.filter p).length
  | [] => Nat.le_refl _
  | a :: l => by
    have ih := filter_less h l
    rw [List.filter_cons, List.filter_cons]
    by_cases hq : q a = true
    · rw [if_pos hq, if_pos (h a hq)]; simp; exact ih
    · rw [if_neg hq]
      split
      · simp; omega
      · exact ih
theorem filter_lt {p q : Nat → Bool} (h : ∀ x, q x = true → p x = true) {i : Nat} (hp : p i = true) (hq : q i = false) : ∀ (l : List Nat), i ∈ l → (l.filter q).length < (l.filter p).length
  | a :: l, hm => by
    rw [List.filter_cons, List.filter_cons]
    rcases List.mem_cons.1 hm with rfl | hm
    · rw [if_pos hp, if_neg (by rw [hq]; decide)]
      have := filter_less h l
      simp; omega
    · have ih := filter_lt h hp hq l hm
      by_cases hqa : q a = true
      · rw [if_pos hqa, if_pos (h a hqa)]; simp; exact ih
      · rw [if_neg hqa]
        split
        · simp; omega
        · exact ih
theorem left_set {L i : Nat} {listed : Array Bool} (hi : i < L) (hf : listed.getD i false = false) (hsz : i < listed.size) : leftL L (listed.setIfInBounds i true) < leftL L listed := by
  refine filter_lt (fun x hx => ?_) (i := i) (by rw [hf]; rfl) (by simp [hsz]) _ (List.mem_range.2 hi)
  by_cases hx' : listed.getD x false = true
  · rw [getD_set_true hx'] at hx; cases hx
  · simp at hx' ⊢; exact hx'
theorem needs_all {listed : Array Bool} (hdown : ∀ i j, listed.getD i false = true → bindsOn md ops i j = true → listed.getD j false = true) :
    ∀ (f i j : Nat), needs md ops f i j = true → (∀ k, bindsOn md ops i k = true → listed.getD k false = true) → listed.getD j false = true
  | 0, i, j, h, hi => hi j h
  | f + 1, i, j, h, hi => by
    unfold needs at h
    rcases Bool.or_eq_true_iff.1 h with h | h
    · exact hi j h
    · obtain ⟨k, _, hk⟩ := List.any_eq_true.1 h
      obtain ⟨h1, h2⟩ := Bool.and_eq_true_iff.1 hk
      exact needs_all hdown f k j h2 (fun m hm => hdown k m (hi k h1) hm)
theorem binds_iff {i j : Nat} {o : Oper} (ho : ops[i]? = some o) : bindsOn md ops i j = true ↔ ∃ e ∈ o.after, Region.binds md e = true ∧ e.on = j := by
  unfold bindsOn
  rw [ho]
  simp only [Option.map_some, Option.getD_some, Array.any_eq_true', Bool.and_eq_true, beq_iff_eq]
theorem region_makes2 (a0 : Act) (w0 : World) (Pre : Nat → Owned → World → Value → Prop) (L : Nat) (hchk : regOK2 md ops a0.tmps.size L = true)
    (hstable : ∀ i own own' W W' v, Pre i own W v → Below W.heap.size W W' → Grows own own' W → Pre i own' W' v)
    (hstep : ∀ i, i < L → Makes P ops Q md a0 w0 Pre i)
    (hend : ∀ own vs W fuel, Below w0.heap.size w0 W → Own w0 own W → (∀ i, i < L → Pre i own W (vs.getD i undef)) → vs.length = ops.size → ops.size - L ≤ fuel →
      wpAny P md ops Q fuel (maskL ops.size L) ⟨fillT (dstsOf ops) vs a0.tmps, a0.defers⟩ W) :
    wpAny P md ops Q ops.size (Array.replicate ops.size false) a0 w0 := by
  unfold regOK2 at hchk
  simp only [Bool.and_eq_true, decide_eq_true_eq, List.all_eq_true, List.mem_range] at hchk
  obtain ⟨⟨⟨⟨hsz, hap⟩, hbd⟩, hrank⟩, hlast⟩ := hchk
  have hlen : (dstsOf ops).length = ops.size := by simp [dstsOf]
  have hdlt : ∀ i d, (dstsOf ops)[i]? = some (some d) → d < a0.tmps.size := fun i d h => by
    have := hbd _ (List.mem_of_getElem? h)
    simpa using this
  have main : ∀ m fuel (listed : Array Bool) own vs W, leftL L listed ≤ m → m + (ops.size - L) ≤ fuel → listed.size = ops.size → (∀ j, L ≤ j → listed.getD j false = false) →
      (∀ i j, listed.getD i false = true → bindsOn md ops i j = true → listed.getD j false = true) → vs.length = ops.size → Below w0.heap.size w0 W → Own w0 own W →
      (∀ i, i < L → listed.getD i false = true → Pre i own W (vs.getD i undef)) → wpAny P md ops Q fuel listed ⟨fillT (dstsOf ops) vs a0.tmps, a0.defers⟩ W := by
    intro m
    induction m with
    | zero =>
      intro fuel listed own vs W hm hfu hls hhi hdown hvl hB hO hPre
      have hall : ∀ j, j < L → listed.getD j false = true := fun j hj => by
        cases h : listed.getD j false with
        | true => rfl
        | false =>
          exfalso
          have : j ∈ (List.range L).filter (fun i => !listed.getD i false) := List.mem_filter.2 ⟨List.mem_range.2 hj, by rw [h]; rfl⟩
          have := List.length_pos_of_mem this
          unfold leftL at hm
          omega
      have he : listed = maskL ops.size L := by
        unfold maskL
        apply Array.ext
        · simp [hls]; omega
        · intro i h1 h2
          have hg : listed.getD i false = listed[i] := by simp [Array.getD, h1]
          show listed[i] = (List.replicate L true ++ List.replicate (ops.size - L) false)[i]'(by simpa using h2)
          by_cases hi : i < L
          · rw [List.getElem_append_left (by simpa using hi), List.getElem_replicate, ← hg, hall i hi]
          · rw [List.getElem_append_right (by simpa using hi), List.getElem_replicate, ← hg, hhi i (by omega)]
      rw [he]
      exact hend own vs W fuel hB hO (fun i hi => hPre i hi (hall i hi)) hvl (by omega)
    | succ m ih =>
      intro fuel listed own vs W hm hfu hls hhi hdown hvl hB hO hPre
      by_cases hdone : ∀ j, j < L → listed.getD j false = true
      · refine ih fuel listed own vs W ?_ (by omega) hls hhi hdown hvl hB hO hPre
        have : (List.range L).filter (fun i => !listed.getD i false) = [] := List.filter_eq_nil_iff.2 fun j hj => by rw [hdone j (List.mem_range.1 hj)]; decide
        unfold leftL
        rw [this]
        exact Nat.zero_le _
      · obtain ⟨fuel, rfl⟩ : ∃ f, fuel = f + 1 := ⟨fuel - 1, by omega⟩
        refine ⟨fun hnil => ?_, fun i hi => ?_⟩
        · exfalso
          apply hdone
          intro j
          induction j using Nat.strongRecOn with
          | _ j ihj =>
            intro hj
            cases hjf : listed.getD j false with
            | true => rfl
            | false =>
              exfalso
              have hlt : j < listed.size := by omega
              have hi0 : listed.getD j true = false := by
                simp [Array.getD, hlt] at hjf ⊢; exact hjf
              have hos : j < ops.size := by omega
              have hr : j ∉ Region.ready md ops listed := by rw [hnil]; simp
              apply hr
              refine mem_ready.2 ⟨hi0, ops[j], Array.getElem?_eq_getElem hos, fun e he hb => ?_⟩
              have hrk := hrank j hj
              rw [Array.getElem?_eq_getElem hos] at hrk
              simp only [Option.map_some, Option.getD_some] at hrk
              have h3 := (Array.all_eq_true_iff_forall_mem.1 hrk) e he
              have h4 : e.on < j := by simpa [hb] using h3
              exact ihj e.on h4 (by omega)
        · obtain ⟨hi0, o, ho, hdep⟩ := mem_ready.1 hi
          have hil : i < ops.size := (Array.getElem?_eq_some_iff.1 ho).1
          have hif : listed.getD i false = false := by
            have hlt : i < listed.size := by omega
            simp [Array.getD, hlt] at hi0 ⊢; exact hi0
          have hib : ∀ k, bindsOn md ops i k = true → listed.getD k false = true := fun k hk => by
            obtain ⟨e, he, hbe, rfl⟩ := (binds_iff ho).1 hk
            exact hdep e he hbe
          have hiL : i < L := by
            rcases Nat.lt_or_ge i L with h | h
            · exact h
            · exfalso
              apply hdone
              intro j hj
              have h5 := hlast i hil
              rcases Bool.or_eq_true_iff.1 h5 with h6 | h6
              · have := of_decide_eq_true h6; omega
              · exact needs_all hdown L i j (List.all_eq_true.1 h6 j (List.mem_range.2 hj)) hib
          refine wpOp_mono (fun a' W' h => ?_) (hstep i hiL own _ W hB hO (fun d hd => fillT_keep _ _ _ _ hd) (fun j d hb hj => ?_))
          · obtain ⟨v, own', rfl, hp, hbw, hO', hg⟩ := h
            have hfill : (⟨fillT (dstsOf ops) vs a0.tmps, a0.defers⟩ : Act).put (dstOf ops i) v = ⟨fillT (dstsOf ops) (vs.set i v) a0.tmps, a0.defers⟩ := by
              cases hd : dstOf ops i with
              | none =>
                have hdn : (dstsOf ops)[i]? = some none := by
                  rw [dsts_get, ho]
                  unfold dstOf at hd
                  rw [ho] at hd
                  simpa using hd
                show (⟨_, _⟩ : Act) = ⟨_, _⟩
                congr 1
                have key : ∀ (ds : List (Option Nat)) (vs : List Value) (i : Nat), ds[i]? = some none → fillT ds vs a0.tmps = fillT ds (vs.set i v) a0.tmps := by
                  intro ds
                  induction ds with
                  | nil => intro vs i h; simp at h
                  | cons o ds ih =>
                    intro vs i h
                    cases vs with
                    | nil => simp
                    | cons u vs =>
                      cases i with
                      | zero =>
                        obtain rfl : o = none := by simpa using h
                        rfl
                      | succ i =>
                        rw [List.set_cons_succ]
                        cases o with
                        | none => exact ih vs i (by simpa using h)
                        | some d => rw [fillT, fillT, ih vs i (by simpa using h)]
                exact key _ _ _ hdn
              | some d =>
                show (⟨_, _⟩ : Act) = ⟨_, _⟩
                congr 1
                exact fillT_set _ _ _ i d v hap (dstOf_get hd) (by omega)
            rw [hfill]
            refine ih fuel _ own' (vs.set i v) W' ?_ (by omega) (by simpa using hls) (fun j hj => (getD_set_ne false (by omega)).trans (hhi j hj)) (fun a b ha hb => ?_) (by simpa using hvl) (hB.trans (hbw.mono hB.size)) hO' (fun j hj hlj => ?_)
            · have := left_set hiL hif (by omega : i < listed.size)
              omega
            · by_cases hai : a = i
              · subst hai
                exact getD_set_true (hib b hb)
              · exact getD_set_true (hdown a b ((getD_set_ne false (fun e => hai e.symm)).symm.trans ha) hb)
            · by_cases hji : j = i
              · subst hji
                have hlt : j < vs.length := by omega
                simpa [List.getD_eq_getElem?_getD, hlt] using hp
              · have := hPre j hj ((getD_set_ne false (fun e => hji e.symm)).symm.trans hlj)
                have h2 := hstable j own own' W W' _ this hbw hg
                simpa [List.getD_eq_getElem?_getD, List.getElem?_set_ne (fun e => hji e.symm)] using h2
          · have hlj := hib j hb
            have hjL : j < L := by
              rcases Nat.lt_or_ge j L with h | h
              · exact h
              · rw [hhi j h] at hlj; cases hlj
            have := hPre j hjL hlj
            show Pre j own W ((fillT (dstsOf ops) vs a0.tmps).getD d undef)
            rw [fillT_get _ _ _ j d hap (dstOf_get hj) (by omega) (hdlt j d (dstOf_get hj))]
            exact this
  have h0 := main L ops.size (Array.replicate ops.size false) Owned.none ((dstsOf ops).map (fun o => match o with | some d => a0.tmps.getD d undef | none => undef)) w0
    (by unfold leftL; exact Nat.le_trans (List.length_filter_le _ _) (by simp)) (by omega) (by simp) (fun j hj => by simp [Array.getD]) (fun i j h => by simp [Array.getD] at h) (by simp [hlen]) (Below.refl _ _) (Own.none _ _) (fun i hi h => by simp [Array.getD] at h)
  have e : fillT (dstsOf ops) ((dstsOf ops).map (fun o => match o with | some d => a0.tmps.getD d undef | none => undef)) a0.tmps = a0.tmps := fillT_init _ _
  rw [e] at h0
  exact h0
end
section
variable {ops : Array Oper} {Q : Exit → Act → World → Prop} {a0 : Act}
theorem region_vals2 {id : Nat} {w : World} (pks : List PK) (L : Nat) (hm : Tryd.prog.follows .mixedOrders = true) (hchk : regOK2 .any ops a0.tmps.size L = true) (hstep : ∀ i, i < L → MakesV ops Q .any a0 w.drew pks i)
    (hend : ∀ own vs W fuel, Below w.heap.size w W → Own w.drew own W → (∀ i, i < L → (pks.getD i .any).sat own W (vs.getD i undef)) → vs.length = ops.size → ops.size - L ≤ fuel → wpAny Tryd.prog .any ops Q fuel (maskL ops.size L) ⟨fillT (dstsOf ops) vs a0.tmps, a0.defers⟩ W) :
    (Code.region id ops true).wp Tryd.prog Q a0 w :=
  wp_region_any hm (region_makes2 a0 w.drew (fun i => (pks.getD i .any).sat) L hchk (fun i => (pks.getD i .any).stable) hstep (fun own vs W fuel hB hO hP hl hf => hend own vs W fuel (((Below.refl w.heap.size w).drew).trans (show Below w.heap.size w.drew W from hB)) hO hP hl hf))
end
end Go.Proofs.YtkdicgendcdooaaDoor

/-
  The function Change of the package power: what it answers of two contents, a level and a sender.
-/
namespace Go.Proofs.YtkdicgendcdooaaDoor
open Go.RowKit Go.Lib Go.Shelf Go.Proofs.YtkdicgendcdooaaDoorW.PrintWords Go.Proofs.YtkdicgendcdooaaDoorW.PrintLast Go.Proofs.YtkdicgendcdooaaDoorW.PrintMore
set_option linter.unusedSimpArgs false
set_option linter.unusedVariables false
/-- An iterator of turns that is told. -/
def SeqEnd (w : World) (x y : V) (keys : List ByteArray) (e : Ending) (w' : World) : Prop :=
  ∃ Bk Bo Bn, e = .returned (.func (.func 76) #[] #[.pointer (some ⟨Bk, 0, none⟩), .pointer (some ⟨Bo, 0, none⟩), .pointer (some ⟨Bn, 0, none⟩)]) ∧ SeqAt w' Bk Bo Bn x y keys ∧ Below w.heap.size w w'
set_option maxRecDepth 100000 in
theorem turns_any {w : World} {x y : V} {v u : Value} {keys : List ByteArray} {A : Option Addr} {c : Nat} (hx : VF w Any x v) (hfx : Fit x) (hy : VF w Any y u) (hfy : Fit y) (hk : Kd.F Kd.string w Any A keys.length keys) (hl : keys.length ≤ 140737488351232) :
    Calls Tryd.prog 50 #[v, u, .slice A keys.length c] w (SeqEnd w x y keys) := by
  have hmf : ∀ (fn : Fn) (first cap : Array Value) (w : World), (Instr.makeFunc fn first cap).run Tryd.prog w = .ok (.func fn first cap) w := fun _ _ _ _ => rfl
  obtain ⟨A1, a1, C1, b1, rfl, _⟩ := hx.open_
  obtain ⟨A2, a2, C2, b2, rfl, _⟩ := hy.open_
  have HX := Lib.hid hx; have HY := Lib.hid hy; have HK := Lib.hid hk
  clear hx hy hk
  go_enter Tryd.func50, Tryd.ntmps50
  go_wp2_with fail
  go_ret
  obtain ⟨o1, ho1⟩ : ∃ o, Obj.cells #[.int .i64 x.f0, .int .i64 x.f1, .string x.f2, .slice A1 x.f3.length a1, .slice C1 x.f4.length b1] 27 = o := ⟨_, rfl⟩
  obtain ⟨o2, ho2⟩ : ∃ o, Obj.cells #[.int .i64 y.f0, .int .i64 y.f1, .string y.f2, .slice A2 y.f3.length a2, .slice C2 y.f4.length b2] 27 = o := ⟨_, rfl⟩
  obtain ⟨o3, ho3⟩ : ∃ o, Obj.cells #[.slice A keys.length c] 24 = o := ⟨_, rfl⟩
  have hb : Below w.heap.size w (((w.alloc o1).alloc o2).alloc o3) := (((Below.refl _ w).alloc (Nat.le_refl _) _).alloc (by simp) _).alloc (by simp; omega) _
  have hs : (((w.alloc o1).alloc o2).alloc o3).heap.size = w.heap.size + 3 := by simp
  have h1 : (((w.alloc o1).alloc o2).alloc o3).heap[w.heap.size]? = some o1 := by rw [heap_alloc_old _ _ (by simp; omega), heap_alloc_old _ _ (by simp), heap_alloc_new]
  have h2 : (((w.alloc o1).alloc o2).alloc o3).heap[w.heap.size + 1]? = some o2 := by rw [heap_alloc_old _ _ (by simp), ← World.size_alloc w o1, heap_alloc_new]
  have h3 : (((w.alloc o1).alloc o2).alloc o3).heap[w.heap.size + 1 + 1]? = some o3 := by
    have := heap_alloc_new ((w.alloc o1).alloc o2) o3
    simpa using this
  rw [ho1, ho2, ho3]
  obtain ⟨W, hW⟩ : ∃ W, ((w.alloc o1).alloc o2).alloc o3 = W := ⟨_, rfl⟩
  rw [hW] at hb hs h1 h2 h3 ⊢
  subst ho1 ho2 ho3
  refine ⟨w.heap.size + 1 + 1, w.heap.size, w.heap.size + 1, rfl, ⟨⟨A, c, ?_, Kd.F_mono (Kd.F_bound (Kd.F_below HK.out hb)) (fun k hk => hk.2)⟩, hl, ⟨A1, a1, C1, b1, h1, (HX.out.below hb).bound.mono (fun k hk => hk.2)⟩, ⟨A2, a2, C2, b2, h2, (HY.out.below hb).bound.mono (fun k hk => hk.2)⟩, hfx, hfy⟩, hb⟩
  unfold World.cell?
  simp only [h3]
  rfl
theorem eg32 (args : Array Value) (w : World) : (callFunc 32 args).run Tryd.prog w = .ok (.enter 32 args) w := enters_of Tryd.func32 (by rfl) (by rfl) args w
theorem eg50 (args : Array Value) (w : World) : (callFunc 50 args).run Tryd.prog w = .ok (.enter 50 args) w := enters_of Tryd.func50 (by rfl) (by rfl) args w
theorem eg51 (args : Array Value) (w : World) : (callFunc 51 args).run Tryd.prog w = .ok (.enter 51 args) w := enters_of Tryd.func51 (by rfl) (by rfl) args w
theorem VF.keys {w : World} {ok : Nat → Prop} {x : V} {A3 A4 : Option Addr} {n3 n4 c3 c4 : Nat} {i0 i1 s2 : Value} (h : VF w ok x (.agg #[i0, i1, s2, .slice A3 n3 c3, .slice A4 n4 c4])) : Kd.F Kd.string w ok A3 x.f3.length x.f3 := by
  obtain ⟨B3, d3, B4, d4, he, _, h3, _⟩ := h.open_
  injection he with he
  injection he with he
  injection he with _ he
  injection he with _ he
  injection he with _ he
  injection he with e3 he
  injection e3 with e3 _ _
  subst e3
  exact h3
def StrRow (l : List ByteArray) (W : World) (v : Value) : Prop := ∃ A c, v = .slice A l.length c ∧ Kd.F Kd.string W (fun k => k < W.heap.size) A l.length l
theorem StrRow.stable (l : List ByteArray) (W W' : World) (v : Value) (h : StrRow l W v) (hb : Below W.heap.size W W') : StrRow l W' v := by
  obtain ⟨A, c, rfl, h⟩ := h
  exact ⟨A, c, rfl, Kd.F_mono (Kd.F_below h hb) (fun k hk => Nat.lt_of_lt_of_le hk hb.size)⟩
def TwoRows (u1 u2 : Value) (W : World) (v : Value) : Prop := ∃ p, v = .slice (some ⟨p, 0, none⟩) 2 2 ∧ W.heap[p]? = some (.cells #[u1, u2] 24 (0, 0))
theorem TwoRows.stable (u1 u2 : Value) (W W' : World) (v : Value) (h : TwoRows u1 u2 W v) (hb : Below W.heap.size W W') : TwoRows u1 u2 W' v := by
  obtain ⟨p, rfl, h⟩ := h
  exact ⟨p, rfl, (hb.block _ (Array.getElem?_eq_some_iff.1 h).1).trans h⟩
def SeqV (x y : V) (keys : List ByteArray) (W : World) (v : Value) : Prop := ∃ Bk Bo Bn, v = .func (.func 76) #[] #[.pointer (some ⟨Bk, 0, none⟩), .pointer (some ⟨Bo, 0, none⟩), .pointer (some ⟨Bn, 0, none⟩)] ∧ SeqAt W Bk Bo Bn x y keys
theorem SeqV.stable (x y : V) (keys : List ByteArray) (W W' : World) (v : Value) (h : SeqV x y keys W v) (hb : Below W.heap.size W W') : SeqV x y keys W' v := by
  obtain ⟨Bk, Bo, Bn, rfl, h⟩ := h
  exact ⟨Bk, Bo, Bn, rfl, h.below hb⟩
set_option maxRecDepth 100000 in
set_option maxHeartbeats 1000000 in
theorem of_key {w : World} {p q : Nat} {x y : V} (hx : BoxOf w p Any x) (hfx : Fit x) (hy : BoxOf w q Any y) (hfy : Fit y) (key : ByteArray) :
    Calls Tryd.prog 49 #[.string key, .pointer (some ⟨p, 0, none⟩), .pointer (some ⟨q, 0, none⟩)] w (SeqEnd w (inV x key) (inV y key) ((inV x key).f3 ++ (inV y key).f3)) := by
  obtain ⟨a, ha⟩ : ∃ a, inV x key = a := ⟨_, rfl⟩
  obtain ⟨b, hb⟩ : ∃ b, inV y key = b := ⟨_, rfl⟩
  have hfa : Fit a := ha ▸ inV_fit hfx key
  have hfb : Fit b := hb ▸ inV_fit hfy key
  rw [ha, hb]
  have HA := Lib.hid ha; have HBB := Lib.hid hb; have HFA := Lib.hid hfa; have HFB := Lib.hid hfb; have HX := Lib.hid hfx; have HY := Lib.hid hfy
  obtain ⟨A1, a1, C1, c1, hc1, hv1⟩ := hx.readD
  obtain ⟨A2, a2, C2, c2, hc2, hv2⟩ := hy.readD
  clear ha hb hx hy hfa hfb hfx hfy
  go_enter Tryd.func49, Tryd.ntmps49
  go_wp2_with fail
  refine region_vals2 [.val (.agg #[.int .i64 x.f0, .int .i64 x.f1, .string x.f2, .slice A1 x.f3.length a1, .slice C1 x.f4.length c1]), .val (.string key), .nv a, .val (.agg #[.int .i64 y.f0, .int .i64 y.f1, .string y.f2, .slice A2 y.f3.length a2, .slice C2 y.f4.length c2]), .val (.string key), .nv b, .boxn 0, .boxn 1] 8 (by kernel_rfl) (by kernel_rfl) ?_ ?_
  · intro i hi
    have : i = 0 ∨ i = 1 ∨ i = 2 ∨ i = 3 ∨ i = 4 ∨ i = 5 ∨ i = 6 ∨ i = 7 := by omega
    rcases this with rfl | rfl | rfl | rfl | rfl | rfl | rfl | rfl
    · exact mk_load rfl rfl rfl rfl (by kernel_rfl) hc1 ⟨rfl, rfl, rfl, rfl, rfl⟩ rfl
    · exact mk_move rfl rfl rfl rfl (by kernel_rfl) rfl
    · refine mk_call rfl rfl rfl eg32 (fun own a' W hB hO hK hD => ?_)
      have g1 : a'.tmps.getD 7 undef = _ := hD 0 7 (by kernel_rfl) rfl
      have g2 : a'.tmps.getD 8 undef = _ := hD 1 8 (by kernel_rfl) rfl
      show Calls _ _ #[a'.tmps.getD 7 undef, a'.tmps.getD 8 undef] W _
      rw [g1, g2]
      refine (in_any (NV.old hv1 hB hO) HX.out key).mono ?_
      rintro e W' ⟨v, rfl, hv, hb⟩
      rw [HA.out] at hv
      exact ⟨v, rfl, NV.made hv hO hb, hb⟩
    · exact mk_load rfl rfl rfl rfl (by kernel_rfl) hc2 ⟨rfl, rfl, rfl, rfl, rfl⟩ rfl
    · exact mk_move rfl rfl rfl rfl (by kernel_rfl) rfl
    · refine mk_call rfl rfl rfl eg32 (fun own a' W hB hO hK hD => ?_)
      have g1 : a'.tmps.getD 10 undef = _ := hD 3 10 (by kernel_rfl) rfl
      have g2 : a'.tmps.getD 11 undef = _ := hD 4 11 (by kernel_rfl) rfl
      show Calls _ _ #[a'.tmps.getD 10 undef, a'.tmps.getD 11 undef] W _
      rw [g1, g2]
      refine (in_any (NV.old hv2 hB hO) HY.out key).mono ?_
      rintro e W' ⟨v, rfl, hv, hb⟩
      rw [HBB.out] at hv
      exact ⟨v, rfl, NV.made hv hO hb, hb⟩
    · exact mk_box rfl rfl rfl rfl
    · exact mk_box rfl rfl rfl rfl
  · intro own vs W fuel hB hO hPre hvl hfu
    obtain ⟨u0, t0, rfl, hq0⟩ := len_cons hvl
    obtain ⟨u1, t1, rfl, hq1⟩ := len_cons hq0
    obtain ⟨u2, t2, rfl, hq2⟩ := len_cons hq1
    obtain ⟨u3, t3, rfl, hq3⟩ := len_cons hq2
    obtain ⟨u4, t4, rfl, hq4⟩ := len_cons hq3
    obtain ⟨u5, t5, rfl, hq5⟩ := len_cons hq4
    obtain ⟨u6, t6, rfl, hq6⟩ := len_cons hq5
    obtain ⟨u7, t7, rfl, hq7⟩ := len_cons hq6
    obtain ⟨u8, t8, rfl, hq8⟩ := len_cons hq7
    obtain ⟨u9, t9, rfl, hq9⟩ := len_cons hq8
    obtain rfl := List.length_eq_zero_iff.1 hq9
    have n2 : NV own W a u2 := hPre 2 (by decide)
    have n5 : NV own W b u5 := hPre 5 (by decide)
    obtain ⟨p5, e6, ho5, hk5⟩ : Box0 0 own W u6 := hPre 6 (by decide)
    obtain ⟨p6, e7, ho6, hk6⟩ : Box0 1 own W u7 := hPre 7 (by decide)
    subst e6 e7
    obtain ⟨f, rfl⟩ : ∃ f, fuel = f + 1 + 1 := ⟨fuel - 2, by
      have : 2 ≤ fuel := hfu
      omega⟩
    have hne : p5 ≠ p6 := fun e => by
      subst e
      exact absurd (hO.2 _ _ _ ho5 ho6) (by decide)
    have l5 := hO.1 p5 ⟨_, ho5⟩
    have l6 := hO.1 p6 ⟨_, ho6⟩
    obtain ⟨E1, s1, G1, q1, rfl, _⟩ := n2.open_
    obtain ⟨E2, s2, G2, q2, rfl, _⟩ := n5.open_
    have vs5 := softv hk5
    have vs6 := softv hk6
    obtain ⟨k0, k1, k2, k3, k4⟩ := cells5v hk5
    obtain ⟨j0, j1, j2, j3, j4⟩ := cells5v hk6
    have HN2 := Lib.hid n2; have HN5 := Lib.hid n5
    simp only [dstsOf, List.map_cons, List.map_nil, fillT, List.setIfInBounds_toArray, List.set_cons_zero, List.set_cons_succ]
    clear hPre hq0 hq1 hq2 hq3 hq4 hq5 hq6 hq7 hq8 hq9 hvl hfu n2 n5
    refine wpAny_ready (rs := [8]) (by kernel_rfl) (by simp) ?_
    refine AllReady.cons rfl (fun K hK => ?_) AllReady.nil
    have HK := Lib.hid hK
    clear hK
    go_simp
    refine HK.out _ _ ?_
    clear HK K
    have hO5 := off5 W p5 (.int .i64 a.f0) (.int .i64 a.f1) (.string a.f2) (.slice E1 a.f3.length s1) (.slice G1 a.f4.length q1)
    have b5 : BoxOf (((((W.setCell ⟨p5, 0, none⟩ (.int .i64 a.f0)).setCell ⟨p5, 1, none⟩ (.int .i64 a.f1)).setCell ⟨p5, 2, none⟩ (.string a.f2)).setCell ⟨p5, 3, none⟩ (.slice E1 a.f3.length s1)).setCell ⟨p5, 4, none⟩ (.slice G1 a.f4.length q1)) p5 (fun k => k ≠ p5 ∧ k ≠ p6) a :=
      ⟨E1, s1, G1, q1, heap_setv (heap_setv (heap_setv (heap_setv (heap_setv hk5 _) _) _) _) _, hO5.vf (VF.mono HN2.out (fun k hk => ⟨fun e => hk.2 (e ▸ ⟨_, ho5⟩), fun e => hk.2 (e ▸ ⟨_, ho6⟩)⟩)) (fun k hk _ hm => by simp at hm; exact hk.1 hm)⟩
    have n5 := hO5.vf (VF.mono (ok' := fun k => k ≠ p5 ∧ k ≠ p6) HN5.out (fun k hk => ⟨fun e => hk.2 (e ▸ ⟨_, ho5⟩), fun e => hk.2 (e ▸ ⟨_, ho6⟩)⟩)) (fun k hk _ hm => by simp at hm; exact hk.1 hm)
    have bb := Off.below hB hO5 (by simpa using l5.1)
    have hk6' := (hO5.block p6 (by simpa using hne.symm)).trans hk6
    have hsz := hO5.size
    obtain ⟨W5, hW5⟩ : ∃ W5, (((((W.setCell ⟨p5, 0, none⟩ (.int .i64 a.f0)).setCell ⟨p5, 1, none⟩ (.int .i64 a.f1)).setCell ⟨p5, 2, none⟩ (.string a.f2)).setCell ⟨p5, 3, none⟩ (.slice E1 a.f3.length s1)).setCell ⟨p5, 4, none⟩ (.slice G1 a.f4.length q1)) = W5 := ⟨_, rfl⟩
    rw [hW5] at b5 n5 bb hk6' hsz ⊢
    have L6 := Lib.hid l6; have HO5 := Lib.hid (show w.heap.size ≤ p5 ∧ p5 < W5.heap.size from ⟨l5.1, by rw [hsz]; exact l5.2⟩)
    have HSZ := Lib.hid hsz
    clear hW5 hO5 k0 k1 k2 k3 k4 j0 j1 j2 j3 j4 vs5 vs6 hk5 hk6 HN2 HN5 hB hO l5 l6 hsz ho5 ho6
    have vs6 := softv hk6'
    obtain ⟨j0, j1, j2, j3, j4⟩ := cells5v hk6'
    refine wpAny_ready (rs := [9]) (by kernel_rfl) (by simp) ?_
    refine AllReady.cons rfl (fun K hK => ?_) AllReady.nil
    have HK := Lib.hid hK
    clear hK
    go_simp
    refine HK.out _ _ ?_
    clear HK K
    have hO6 := off5 W5 p6 (.int .i64 b.f0) (.int .i64 b.f1) (.string b.f2) (.slice E2 b.f3.length s2) (.slice G2 b.f4.length q2)
    have b6 : BoxOf (((((W5.setCell ⟨p6, 0, none⟩ (.int .i64 b.f0)).setCell ⟨p6, 1, none⟩ (.int .i64 b.f1)).setCell ⟨p6, 2, none⟩ (.string b.f2)).setCell ⟨p6, 3, none⟩ (.slice E2 b.f3.length s2)).setCell ⟨p6, 4, none⟩ (.slice G2 b.f4.length q2)) p6 (fun k => k ≠ p5 ∧ k ≠ p6) b :=
      ⟨E2, s2, G2, q2, heap_setv (heap_setv (heap_setv (heap_setv (heap_setv hk6' _) _) _) _) _, hO6.vf n5 (fun k hk _ hm => by simp at hm; exact hk.2 hm)⟩
    have b5' := b5.off hO6 hne (fun h => h.2 rfl)
    have bb' := Off.below bb hO6 (by simpa using L6.out.1)
    obtain ⟨W6, hW6⟩ : ∃ W6, (((((W5.setCell ⟨p6, 0, none⟩ (.int .i64 b.f0)).setCell ⟨p6, 1, none⟩ (.int .i64 b.f1)).setCell ⟨p6, 2, none⟩ (.string b.f2)).setCell ⟨p6, 3, none⟩ (.slice E2 b.f3.length s2)).setCell ⟨p6, 4, none⟩ (.slice G2 b.f4.length q2)) = W6 := ⟨_, rfl⟩
    rw [hW6] at b6 b5' bb' ⊢
    clear hW6 hO6 n5 bb hk6' vs6 j0 j1 j2 j3 j4 b5
    refine wpAny_done (by kernel_rfl) ?_ _
    obtain ⟨A5, a5, C5, d5, hc5, hv5⟩ := b5'.any.readD
    obtain ⟨A6, a6, C6, d6, hc6, hv6⟩ := b6.any.readD
    have HBB := Lib.hid bb'
    clear b5' b6 bb'
    go_wp2_with fail
    refine region_vals [.val (.agg #[.int .i64 a.f0, .int .i64 a.f1, .string a.f2, .slice A5 a.f3.length a5, .slice C5 a.f4.length d5]), .val (.agg #[.int .i64 b.f0, .int .i64 b.f1, .string b.f2, .slice A6 b.f3.length a6, .slice C6 b.f4.length d6]), .val (.pointer (some ⟨p5, 3, none⟩)), .val (.slice A5 a.f3.length a5), .val (.pointer (some ⟨p6, 3, none⟩)), .val (.slice A6 b.f3.length a6), .own (TwoRows (.slice A5 a.f3.length a5) (.slice A6 b.f3.length a6)) (TwoRows.stable _ _), .own (StrRow (a.f3 ++ b.f3)) (StrRow.stable _), .own (SeqV a b (a.f3 ++ b.f3)) (SeqV.stable _ _ _)] 9 (by kernel_rfl) (by kernel_rfl) ?_ ?_
    · intro i hi
      have : i = 0 ∨ i = 1 ∨ i = 2 ∨ i = 3 ∨ i = 4 ∨ i = 5 ∨ i = 6 ∨ i = 7 ∨ i = 8 := by omega
      rcases this with rfl | rfl | rfl | rfl | rfl | rfl | rfl | rfl | rfl
      · exact mk_load rfl rfl rfl rfl (by kernel_rfl) hc5 ⟨rfl, rfl, rfl, rfl, rfl⟩ rfl
      · exact mk_load rfl rfl rfl rfl (by kernel_rfl) hc6 ⟨rfl, rfl, rfl, rfl, rfl⟩ rfl
      · refine mk_run rfl rfl rfl (fun own a' W' hB hK hD => ?_)
        have g : a'.tmps.getD 5 undef = .pointer (some ⟨p5, 0, none⟩) := hK 5 (by decide)
        show Sem.run _ (do pure (Next.value (← Instr.fieldAt 27 (a'.tmps.getD 5 undef) 3))) W' = _
        rw [g]
        go_simp
      · refine mk_run rfl rfl rfl (fun own a' W' hB hK hD => ?_)
        have g : a'.tmps.getD 15 undef = .pointer (some ⟨p5, 3, none⟩) := hD 2 15 (by kernel_rfl) rfl
        have hc := (hB.cell (p := ⟨p5, 3, none⟩) (World.block_lt_of_cell? _ _ hc5.2.2.2.1)).trans hc5.2.2.2.1
        show Sem.run _ (do pure (Next.value (← Instr.loadAt 24 (a'.tmps.getD 15 undef)))) W' = _
        rw [g]
        go_simp
      · refine mk_run rfl rfl rfl (fun own a' W' hB hK hD => ?_)
        have g : a'.tmps.getD 6 undef = .pointer (some ⟨p6, 0, none⟩) := hK 6 (by decide)
        show Sem.run _ (do pure (Next.value (← Instr.fieldAt 27 (a'.tmps.getD 6 undef) 3))) W' = _
        rw [g]
        go_simp
      · refine mk_run rfl rfl rfl (fun own a' W' hB hK hD => ?_)
        have g : a'.tmps.getD 17 undef = .pointer (some ⟨p6, 3, none⟩) := hD 4 17 (by kernel_rfl) rfl
        have hc := (hB.cell (p := ⟨p6, 3, none⟩) (World.block_lt_of_cell? _ _ hc6.2.2.2.1)).trans hc6.2.2.2.1
        show Sem.run _ (do pure (Next.value (← Instr.loadAt 24 (a'.tmps.getD 17 undef)))) W' = _
        rw [g]
        go_simp
      · refine mk_make rfl rfl (fun own a' W' hB hK hD => ?_)
        have g1 : a'.tmps.getD 16 undef = _ := hD 3 16 (by kernel_rfl) rfl
        have g2 : a'.tmps.getD 18 undef = _ := hD 5 18 (by kernel_rfl) rfl
        refine ⟨.slice (some ⟨W'.heap.size, 0, none⟩) 2 2, W'.alloc (.cells #[.slice A5 a.f3.length a5, .slice A6 b.f3.length a6] 24), ?_, ⟨W'.heap.size, rfl, heap_alloc_new _ _⟩, (Below.refl _ W').alloc (Nat.le_refl _) _⟩
        show Sem.run _ (do pure (Next.value (← Instr.buildSlice 94 2 (#[(0, Operand.tmp 16), (1, Operand.tmp 18)].map fun (i, x) => (i, a'.eval x))))) W' = _
        simp only [List.map_toArray, List.map_cons, List.map_nil, Act.eval]
        rw [g1, g2]
        kernel_rfl
      · refine mk_call rfl rfl rfl eg51 (fun own a' W' hB hO hK hD => ?_)
        obtain ⟨pt, g, hct⟩ : TwoRows _ _ W' (a'.tmps.getD 19 undef) := hD 6 19 (by kernel_rfl) rfl
        show Calls _ _ #[a'.tmps.getD 19 undef] W' _
        rw [g]
        refine (concat_any hct (Kd.F_mono (Kd.F_below hv5.keys hB) (fun _ _ => trivial)) (Kd.F_mono (Kd.F_below hv6.keys hB) (fun _ _ => trivial)) HFA.out.keys HFB.out.keys).mono ?_
        rintro e W7 ⟨v, rfl, hR, hb⟩
        obtain ⟨A, c, rfl, hl, hF⟩ := row_read hR
        exact ⟨_, rfl, ⟨A, c, rfl, Kd.F_mono hF (fun k hk => hk.2)⟩, hb⟩
      · refine mk_call rfl rfl rfl eg50 (fun own a' W' hB hO hK hD => ?_)
        have g1 : a'.tmps.getD 13 undef = _ := hD 0 13 (by kernel_rfl) rfl
        have g2 : a'.tmps.getD 14 undef = _ := hD 1 14 (by kernel_rfl) rfl
        obtain ⟨A, c, g3, hF⟩ : StrRow _ W' (a'.tmps.getD 20 undef) := hD 7 20 (by kernel_rfl) rfl
        show Calls _ _ #[a'.tmps.getD 13 undef, a'.tmps.getD 14 undef, a'.tmps.getD 20 undef] W' _
        rw [g1, g2, g3]
        refine (turns_any (VF.any (hv5.below hB)) HFA.out (VF.any (hv6.below hB)) HFB.out (Kd.F_mono hF (fun _ _ => trivial)) (by have h1 := HFA.out.keys; have h2 := HFB.out.keys; rw [List.length_append]; omega)).mono ?_
        rintro e W7 ⟨Bk, Bo, Bn, rfl, hs, hb⟩
        exact ⟨_, rfl, ⟨Bk, Bo, Bn, rfl, hs⟩, hb⟩
    · intro own vs W9 hB hO hPre hvl
      obtain ⟨v0, t0, rfl, hq0⟩ := len_cons hvl
      obtain ⟨v1, t1, rfl, hq1⟩ := len_cons hq0
      obtain ⟨v2, t2, rfl, hq2⟩ := len_cons hq1
      obtain ⟨v3, t3, rfl, hq3⟩ := len_cons hq2
      obtain ⟨v4, t4, rfl, hq4⟩ := len_cons hq3
      obtain ⟨v5, t5, rfl, hq5⟩ := len_cons hq4
      obtain ⟨v6, t6, rfl, hq6⟩ := len_cons hq5
      obtain ⟨v7, t7, rfl, hq7⟩ := len_cons hq6
      obtain ⟨v8, t8, rfl, hq8⟩ := len_cons hq7
      obtain ⟨v9, t9, rfl, hq9⟩ := len_cons hq8
      obtain rfl := List.length_eq_zero_iff.1 hq9
      obtain ⟨Bk, Bo, Bn, e8, hs⟩ : SeqV a b (a.f3 ++ b.f3) W9 v8 := hPre 8 (by decide)
      subst e8
      simp only [dstsOf, List.map_cons, List.map_nil, fillT, List.setIfInBounds_toArray, List.set_cons_zero, List.set_cons_succ]
      clear hPre hq0 hq1 hq2 hq3 hq4 hq5 hq6 hq7 hq8 hq9 hvl
      refine wpOp_step rfl (fun K hK => ?_)
      have HK := Lib.hid hK
      have HS := Lib.hid hs
      have HBZ := Lib.hid (HBB.out.trans (hB.mono HBB.out.size))
      clear hK hs hB hO
      go_simp
      refine HK.out _ _ ?_
      go_wp2_with fail
      go_ret
      exact ⟨Bk, Bo, Bn, rfl, HS.out, HBZ.out⟩
end Go.Proofs.YtkdicgendcdooaaDoor

/-
  The function Change, called.
-/
namespace Go.Proofs.YtkdicgendcdooaaDoor
open Go.RowKit Go.Lib Go.Shelf Go.Proofs.YtkdicgendcdooaaDoorW.PrintWords Go.Proofs.YtkdicgendcdooaaDoorW.PrintLast Go.Proofs.YtkdicgendcdooaaDoorW.PrintMore
set_option linter.unusedSimpArgs false
set_option linter.unusedVariables false
def turnsIn (x y : V) (key : ByteArray) : List TT := turnsL (inV x key) (inV y key) ((inV x key).f3 ++ (inV y key).f3)
def changeV (x y : V) (lv : Int) (me : ByteArray) : Int :=
  if (turnsL x y plainL).any (overB lv) = true then 1
  else if (turnsIn x y bEvents).any (overB lv) = true then 2
  else if (turnsIn x y bUsers).any (highB lv me) = true then 3
  else if (turnsIn x y bUsers).any (givesB lv) = true then 4
  else 0
theorem eg54 (args : Array Value) (w : World) : (callFunc 54 args).run Tryd.prog w = .ok (.enter 54 args) w := enters_of Tryd.func54 (by rfl) (by rfl) args w
theorem eg34 (args : Array Value) (w : World) : (callFunc 34 args).run Tryd.prog w = .ok (.enter 34 args) w := enters_of Tryd.func34 (by rfl) (by rfl) args w
theorem eg52 (args : Array Value) (w : World) : (callFunc 52 args).run Tryd.prog w = .ok (.enter 52 args) w := enters_of Tryd.func52 (by rfl) (by rfl) args w
theorem eg55 (args : Array Value) (w : World) : (callFunc 55 args).run Tryd.prog w = .ok (.enter 55 args) w := enters_of Tryd.func55 (by rfl) (by rfl) args w
theorem eg56 (args : Array Value) (w : World) : (callFunc 56 args).run Tryd.prog w = .ok (.enter 56 args) w := enters_of Tryd.func56 (by rfl) (by rfl) args w
theorem plain_row (w : World) : StrRow plainL (w.alloc (.cells #[.string bBan, .string bEventsDefault, .string bInviteK, .string bKick, .string bStateDefault, .string bUsersDefault] 9)) (.slice (some ⟨w.heap.size, 0, none⟩) 6 6) := by
  have ho : (w.alloc (.cells #[.string bBan, .string bEventsDefault, .string bInviteK, .string bKick, .string bStateDefault, .string bUsersDefault] 9)).ownsRow w.heap.size 9 1 (.slice (some ⟨w.heap.size, 0, none⟩) 6 6) 6 (encs Value.string plainL) :=
    ⟨rfl, .inr ⟨w.heap.size, 6, _, rfl, Nat.le_refl _, heap_alloc_new _ _, Nat.le_refl _, by decide, rfl, rfl⟩⟩
  have hR : Kd.string.R 9 _ w.heap.size Any _ plainL := Kd.R_of_own (h1 := fun _ => rfl) ho (fun _ _ => trivial)
  obtain ⟨A, c, e, hl, hF⟩ := row_read hR
  exact ⟨A, c, e, Kd.F_mono hF (fun k hk => hk.2)⟩
theorem app1 (a b : Value) : (#[a] ++ #[b] : Array Value) = #[a, b] := by simp
theorem app2 (a b c : Value) : (#[a] ++ #[b, c] : Array Value) = #[a, b, c] := by simp
theorem over_app {W : World} {Bl : Nat} {lv : Int} (hl : W.cell? ⟨Bl, 0, none⟩ = some (.int .i64 lv)) (t : TT) : Calls Tryd.prog 52 (#[encT t] ++ #[.pointer (some ⟨Bl, 0, none⟩)]) W (EndI W (.bool (overB lv t))) := by
  rw [app1]; exact over_any hl t
theorem gives_app {W : World} {Bl : Nat} {lv : Int} (hl : W.cell? ⟨Bl, 0, none⟩ = some (.int .i64 lv)) (t : TT) : Calls Tryd.prog 56 (#[encT t] ++ #[.pointer (some ⟨Bl, 0, none⟩)]) W (EndI W (.bool (givesB lv t))) := by
  rw [app1]; exact gives_any hl t
theorem high_app {W : World} {Bl Bs : Nat} {lv : Int} {me : ByteArray} (hl : W.cell? ⟨Bl, 0, none⟩ = some (.int .i64 lv)) (hs : W.cell? ⟨Bs, 0, none⟩ = some (.string me)) (t : TT) : Calls Tryd.prog 55 (#[encT t] ++ #[.pointer (some ⟨Bs, 0, none⟩), .pointer (some ⟨Bl, 0, none⟩)]) W (EndI W (.bool (highB lv me t))) := by
  rw [app2]; exact high_any hl hs t
/-- What lies there while Change asks. -/
structure ChSt (w0 : World) (p q r s : Nat) (x y : V) (lv : Int) (me : ByteArray) (w : World) : Prop where
  x : BoxOf w p Any x
  y : BoxOf w q Any y
  lv : w.cell? ⟨r, 0, none⟩ = some (.int .i64 lv)
  me : w.cell? ⟨s, 0, none⟩ = some (.string me)
  below : Below w0.heap.size w0 w
theorem ChSt.next {w0 w W : World} {p q r s : Nat} {x y : V} {lv : Int} {me : ByteArray} (h : ChSt w0 p q r s x y lv me w) (hb : Below w.heap.size w W) : ChSt w0 p q r s x y lv me W :=
  ⟨h.x.below hb, h.y.below hb, (hb.cell (p := ⟨r, 0, none⟩) (World.block_lt_of_cell? w _ h.lv)).trans h.lv, (hb.cell (p := ⟨s, 0, none⟩) (World.block_lt_of_cell? w _ h.me)).trans h.me, h.below.trans (hb.mono h.below.size)⟩
set_option maxRecDepth 100000 in
set_option maxHeartbeats 2000000 in
theorem change_any {w : World} {x y : V} {v u : Value} (hx : VF w Any x v) (hfx : Fit x) (hy : VF w Any y u) (hfy : Fit y) (lv : Int) (me : ByteArray) (hT : Tabs w) :
    Calls Tryd.prog 28 #[v, u, .int .i64 lv, .string me] w (EndI w (.int .i64 (changeV x y lv me))) := by
  have hmf : ∀ (fn : Fn) (first cap : Array Value) (w : World), (Instr.makeFunc fn first cap).run Tryd.prog w = .ok (.func fn first cap) w := fun _ _ _ _ => rfl
  obtain ⟨A1, a1, C1, b1, rfl, _⟩ := hx.open_
  obtain ⟨A2, a2, C2, b2, rfl, _⟩ := hy.open_
  have HX := Lib.hid hx; have HY := Lib.hid hy; have HFX := Lib.hid hfx; have HFY := Lib.hid hfy; have HT := Lib.hid hT
  clear hx hy hfx hfy hT
  go_enter Tryd.func28, Tryd.ntmps28
  go_wp2_with fail
  obtain ⟨W0, hW0⟩ : ∃ W0, (((w.alloc (.cells #[.int .i64 x.f0, .int .i64 x.f1, .string x.f2, .slice A1 x.f3.length a1, .slice C1 x.f4.length b1] 27)).alloc (.cells #[.int .i64 y.f0, .int .i64 y.f1, .string y.f2, .slice A2 y.f3.length a2, .slice C2 y.f4.length b2] 27)).alloc (.cells #[.int .i64 lv] 2)).alloc (.cells #[.string me] 9) = W0 := ⟨_, rfl⟩
  have hst : ChSt w w.heap.size (w.heap.size + 1) (w.heap.size + 1 + 1) (w.heap.size + 1 + 1 + 1) x y lv me W0 := by
    rw [← hW0]
    obtain ⟨o1, ho1⟩ : ∃ o, Obj.cells #[.int .i64 x.f0, .int .i64 x.f1, .string x.f2, .slice A1 x.f3.length a1, .slice C1 x.f4.length b1] 27 = o := ⟨_, rfl⟩
    obtain ⟨o2, ho2⟩ : ∃ o, Obj.cells #[.int .i64 y.f0, .int .i64 y.f1, .string y.f2, .slice A2 y.f3.length a2, .slice C2 y.f4.length b2] 27 = o := ⟨_, rfl⟩
    obtain ⟨o3, ho3⟩ : ∃ o, Obj.cells #[.int .i64 lv] 2 = o := ⟨_, rfl⟩
    obtain ⟨o4, ho4⟩ : ∃ o, Obj.cells #[.string me] 9 = o := ⟨_, rfl⟩
    rw [ho1, ho2, ho3, ho4]
    have hb : Below w.heap.size w ((((w.alloc o1).alloc o2).alloc o3).alloc o4) := ((((Below.refl _ w).alloc (Nat.le_refl _) _).alloc (by simp) _).alloc (by simp; omega) _).alloc (by simp; omega) _
    have h1 : ((((w.alloc o1).alloc o2).alloc o3).alloc o4).heap[w.heap.size]? = some o1 := by rw [heap_alloc_old _ _ (by simp <;> omega), heap_alloc_old _ _ (by simp <;> omega), heap_alloc_old _ _ (by simp <;> omega), heap_alloc_new]
    have h2 : ((((w.alloc o1).alloc o2).alloc o3).alloc o4).heap[w.heap.size + 1]? = some o2 := by rw [heap_alloc_old _ _ (by simp <;> omega), heap_alloc_old _ _ (by simp <;> omega), ← World.size_alloc w o1, heap_alloc_new]
    have h3 : ((((w.alloc o1).alloc o2).alloc o3).alloc o4).heap[w.heap.size + 1 + 1]? = some o3 := by
      rw [heap_alloc_old _ _ (by simp)]
      have := heap_alloc_new ((w.alloc o1).alloc o2) o3
      simpa using this
    have h4 : ((((w.alloc o1).alloc o2).alloc o3).alloc o4).heap[w.heap.size + 1 + 1 + 1]? = some o4 := by
      have := heap_alloc_new (((w.alloc o1).alloc o2).alloc o3) o4
      simpa using this
    obtain ⟨W, hW⟩ : ∃ W, (((w.alloc o1).alloc o2).alloc o3).alloc o4 = W := ⟨_, rfl⟩
    rw [hW] at hb h1 h2 h3 h4 ⊢
    subst ho1 ho2 ho3 ho4
    exact ⟨⟨A1, a1, C1, b1, h1, HX.out.below hb⟩, ⟨A2, a2, C2, b2, h2, HY.out.below hb⟩, cells1v h3, cells1v h4, hb⟩
  rw [hW0]
  obtain ⟨p, hp⟩ : ∃ p, w.heap.size = p := ⟨_, rfl⟩
  obtain ⟨q, hq⟩ : ∃ q, w.heap.size + 1 = q := ⟨_, rfl⟩
  obtain ⟨r, hr⟩ : ∃ r, w.heap.size + 1 + 1 = r := ⟨_, rfl⟩
  obtain ⟨s, hs⟩ : ∃ s, w.heap.size + 1 + 1 + 1 = s := ⟨_, rfl⟩
  rw [hs, hr, hq] at hst ⊢
  have hst : ChSt w p q r s x y lv me W0 := hp ▸ hst
  rw [show (⟨w.heap.size, 0, none⟩ : Addr) = ⟨p, 0, none⟩ by rw [hp]]
  have HS := Lib.hid hst
  have HT0 := Lib.hid (HT.out.below hst.below (Nat.le_refl _))
  clear hW0 hst hp hq hr hs HX HY HT
  obtain ⟨A5, a5, C5, d5, hc5, hv5⟩ := HS.out.x.readD
  obtain ⟨A6, a6, C6, d6, hc6, hv6⟩ := HS.out.y.readD
  obtain ⟨t1, h1⟩ : ∃ t, (turnsL x y plainL).any (overB lv) = t := ⟨_, rfl⟩
  have HT1 := Lib.hid h1
  clear h1
  refine region_vals2 [.val (.agg #[.int .i64 x.f0, .int .i64 x.f1, .string x.f2, .slice A5 x.f3.length a5, .slice C5 x.f4.length d5]), .val (.agg #[.int .i64 y.f0, .int .i64 y.f1, .string y.f2, .slice A6 y.f3.length a6, .slice C6 y.f4.length d6]), .own (StrRow plainL) (StrRow.stable _), .own (SeqV x y plainL) (SeqV.stable _ _ _), .val (.func (.func 52) #[] #[.pointer (some ⟨r, 0, none⟩)]), .val (.bool t1)] 6 (by kernel_rfl) (by kernel_rfl) ?_ ?_
  · intro i hi
    have : i = 0 ∨ i = 1 ∨ i = 2 ∨ i = 3 ∨ i = 4 ∨ i = 5 := by omega
    rcases this with rfl | rfl | rfl | rfl | rfl | rfl
    · exact mk_load rfl rfl rfl rfl (by kernel_rfl) hc5 ⟨rfl, rfl, rfl, rfl, rfl⟩ rfl
    · exact mk_load rfl rfl rfl rfl (by kernel_rfl) hc6 ⟨rfl, rfl, rfl, rfl, rfl⟩ rfl
    · refine mk_call rfl rfl rfl eg34 (fun own a' W' hB hO hK hD => ?_)
      refine (fields_plain W' (Tabs.below (w := W0.drew) (Tabs.below HT0.out ((Below.refl W0.heap.size W0).drew) (Nat.le_refl _)) hB (Nat.le_refl _))).mono ?_
      rintro e W7 ⟨rfl, rfl⟩
      exact ⟨_, rfl, plain_row W', (Below.refl _ W').alloc (Nat.le_refl _) _⟩
    · refine mk_call rfl rfl rfl eg50 (fun own a' W' hB hO hK hD => ?_)
      have g1 : a'.tmps.getD 14 undef = _ := hD 0 14 (by kernel_rfl) rfl
      have g2 : a'.tmps.getD 15 undef = _ := hD 1 15 (by kernel_rfl) rfl
      obtain ⟨A, c, g3, hF⟩ : StrRow _ W' (a'.tmps.getD 16 undef) := hD 2 16 (by kernel_rfl) rfl
      show Calls _ _ #[a'.tmps.getD 14 undef, a'.tmps.getD 15 undef, a'.tmps.getD 16 undef] W' _
      rw [g1, g2, g3]
      refine (turns_any (VF.any (hv5.below hB)) HFX.out (VF.any (hv6.below hB)) HFY.out (Kd.F_mono hF (fun _ _ => trivial)) (by decide)).mono ?_
      rintro e W7 ⟨Bk, Bo, Bn, rfl, hs, hb⟩
      exact ⟨_, rfl, ⟨Bk, Bo, Bn, rfl, hs⟩, hb⟩
    · exact mk_move rfl rfl rfl rfl (by kernel_rfl) rfl
    · refine mk_call rfl rfl rfl eg54 (fun own a' W' hB hO hK hD => ?_)
      obtain ⟨Bk, Bo, Bn, g1, hs⟩ : SeqV x y plainL W' (a'.tmps.getD 17 undef) := hD 3 17 (by kernel_rfl) rfl
      have g2 : a'.tmps.getD 18 undef = _ := hD 4 18 (by kernel_rfl) rfl
      show Calls _ _ #[a'.tmps.getD 17 undef, a'.tmps.getD 18 undef] W' _
      rw [g1, g2]
      have hW' := (HS.out.next ((Below.refl W0.heap.size W0).drew)).next hB
      refine (some_any hs 52 #[.pointer (some ⟨r, 0, none⟩)] (overB lv) eg52 (fun t W hb => over_app ((hW'.next hb).lv) t)).mono ?_
      rintro e W7 ⟨rfl, hb⟩
      exact ⟨_, rfl, congrArg Value.bool HT1.out, hb⟩
  · intro own vs W1 fuel hB hO hPre hvl hfu
    obtain ⟨v0, l0, rfl, hq0⟩ := len_cons hvl
    obtain ⟨v1, l1, rfl, hq1⟩ := len_cons hq0
    obtain ⟨v2, l2, rfl, hq2⟩ := len_cons hq1
    obtain ⟨v3, l3, rfl, hq3⟩ := len_cons hq2
    obtain ⟨v4, l4, rfl, hq4⟩ := len_cons hq3
    obtain ⟨v5, l5, rfl, hq5⟩ := len_cons hq4
    obtain ⟨v6, l6, rfl, hq6⟩ := len_cons hq5
    obtain rfl := List.length_eq_zero_iff.1 hq6
    have e5 : v5 = .bool t1 := hPre 5 (by decide)
    subst e5
    obtain ⟨f, rfl⟩ : ∃ f, fuel = f + 1 := ⟨fuel - 1, by
      have : 1 ≤ fuel := hfu
      omega⟩
    simp only [dstsOf, List.map_cons, List.map_nil, fillT, List.setIfInBounds_toArray, List.set_cons_zero, List.set_cons_succ]
    have HS1 := Lib.hid (HS.out.next hB)
    clear hPre hq0 hq1 hq2 hq3 hq4 hq5 hq6 hvl hfu hB hO hc5 hv5 hc6 hv6 HS HT0
    refine wpAny_ready (rs := [6]) (by kernel_rfl) (by simp) ?_
    refine AllReady.cons rfl (fun K hK => ?_) AllReady.nil
    have HK := Lib.hid hK
    clear hK
    go_simp
    refine HK.out _ _ ?_
    clear HK K
    refine wpAny_done (by kernel_rfl) ?_ _
    have hch : changeV x y lv me = if t1 = true then 1 else if (turnsIn x y bEvents).any (overB lv) = true then 2 else if (turnsIn x y bUsers).any (highB lv me) = true then 3 else if (turnsIn x y bUsers).any (givesB lv) = true then 4 else 0 := by
      unfold changeV
      rw [HT1.out]
    have HCH := Lib.hid hch
    clear hch HT1
    cases t1 with
    | true =>
      go_wp2_with fail
      go_ret
      exact ⟨by rw [HCH.out]; rfl, HS1.out.below⟩
    | false =>
      have ce := of_key HS1.out.x HFX.out HS1.out.y HFY.out bEvents
      go_wp2_with fail
      refine ce.mono ?_
      clear ce
      rintro e W2 ⟨Bk, Bo, Bn, rfl, hs, hb⟩
      have HS2 := Lib.hid (HS1.out.next hb)
      have ce := some_any hs 52 #[.pointer (some ⟨r, 0, none⟩)] (overB lv) eg52 (fun t W hb => over_app ((HS2.out.next hb).lv) t)
      clear hs hb HS1
      go_wp2_with fail
      refine ce.mono ?_
      clear ce
      rintro e W3 ⟨rfl, hb⟩
      have HS3 := Lib.hid (HS2.out.next hb)
      clear hb HS2
      obtain ⟨t2, h2⟩ : ∃ t, (turnsIn x y bEvents).any (overB lv) = t := ⟨_, rfl⟩
      rw [h2] at HCH
      rw [show (turnsL (inV x bEvents) (inV y bEvents) ((inV x bEvents).f3 ++ (inV y bEvents).f3)).any (overB lv) = t2 from h2]
      clear h2
      cases t2 with
      | true =>
        go_wp2_with fail
        go_ret
        exact ⟨by rw [HCH.out]; rfl, HS3.out.below⟩
      | false =>
        have ce := of_key HS3.out.x HFX.out HS3.out.y HFY.out bUsers
        go_wp2_with fail
        refine ce.mono ?_
        clear ce
        rintro e W4 ⟨Bk, Bo, Bn, rfl, hs, hb⟩
        have HS4 := Lib.hid (HS3.out.next hb)
        have ce := some_any hs 55 #[.pointer (some ⟨s, 0, none⟩), .pointer (some ⟨r, 0, none⟩)] (highB lv me) eg55 (fun t W hb => high_app ((HS4.out.next hb).lv) ((HS4.out.next hb).me) t)
        clear hs hb HS3
        go_wp2_with fail
        refine ce.mono ?_
        clear ce
        rintro e W5 ⟨rfl, hb⟩
        have HS5 := Lib.hid (HS4.out.next hb)
        clear hb HS4
        obtain ⟨t3, h3⟩ : ∃ t, (turnsIn x y bUsers).any (highB lv me) = t := ⟨_, rfl⟩
        rw [h3] at HCH
        rw [show (turnsL (inV x bUsers) (inV y bUsers) ((inV x bUsers).f3 ++ (inV y bUsers).f3)).any (highB lv me) = t3 from h3]
        clear h3
        cases t3 with
        | true =>
          go_wp2_with fail
          go_ret
          exact ⟨by rw [HCH.out]; rfl, HS5.out.below⟩
        | false =>
          have ce := of_key HS5.out.x HFX.out HS5.out.y HFY.out bUsers
          go_wp2_with fail
          refine ce.mono ?_
          clear ce
          rintro e W6 ⟨Bk, Bo, Bn, rfl, hs, hb⟩
          have HS6 := Lib.hid (HS5.out.next hb)
          have ce := some_any hs 56 #[.pointer (some ⟨r, 0, none⟩)] (givesB lv) eg56 (fun t W hb => gives_app ((HS6.out.next hb).lv) t)
          clear hs hb HS5
          go_wp2_with fail
          refine ce.mono ?_
          clear ce
          rintro e W7 ⟨rfl, hb⟩
          have HS7 := Lib.hid (HS6.out.next hb)
          clear hb HS6
          obtain ⟨t4, h4⟩ : ∃ t, (turnsIn x y bUsers).any (givesB lv) = t := ⟨_, rfl⟩
          rw [h4] at HCH
          rw [show (turnsL (inV x bUsers) (inV y bUsers) ((inV x bUsers).f3 ++ (inV y bUsers).f3)).any (givesB lv) = t4 from h4]
          clear h4
          cases t4 with
          | true =>
            go_wp2_with fail
            go_ret
            exact ⟨by rw [HCH.out]; rfl, HS7.out.below⟩
          | false =>
            go_wp2_with fail
            go_ret
            exact ⟨by rw [HCH.out]; rfl, HS7.out.below⟩
end Go.Proofs.YtkdicgendcdooaaDoor
