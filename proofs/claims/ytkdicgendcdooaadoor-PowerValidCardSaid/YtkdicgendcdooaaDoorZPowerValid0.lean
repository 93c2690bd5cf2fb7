/-
  Texts of this session, merged in build order: Reg, Reg2, PVal, RPowerValid.
-/
import Derived.Test.YtkdicgendcdooaaDoorZC0
import Derived.Orders
import Derived.RegionTactic
import Derived.BigCall
import Derived.Test.YtkdicgendcdooaaDoorZC1
import Derived.Deep.RegionHeld
import Derived.Deep.RegionHeld3
import Derived.Deep.DeepCutAuto
import Derived.Test.YtkdicgendcdooaaDoorRows
import Derived.Test.YtkdicgendcdooaaDoorCards
import Derived.Test.YtkdicgendcdooaaDoorTie
import Derived.LaidMore
import Derived.Lay
import Derived.SevenTiedAt
import Derived.Stop.Joined
set_option linter.unusedVariables false
set_option linter.unusedSimpArgs false
/-
  A region that draws its order and whose operations each make a value (calls, loads, moves, allocations), the last one resting on all others: each operation shown once, in whatever order they come.
-/
namespace Go.Proofs.YtkdicgendcdooaaDoor
open Go.RowKit Go.Lib
set_option linter.unusedSimpArgs false
set_option linter.unusedVariables false
section
variable {P : Program} {ops : Array Oper} {Q : Exit → Act → World → Prop} {md : Region.Mode}
theorem cnt_list : ∀ (l : List Bool) (i : Nat), l[i]? = some false → ((l.set i true).filter id).length = (l.filter id).length + 1
  | [], i, h => by simp at h
  | c :: l, 0, h => by
    obtain rfl : c = false := by simpa using h
    simp
  | c :: l, i + 1, h => by
    have := cnt_list l i (by simpa using h)
    cases c <;> simp [this]
theorem cnt_set (listed : Array Bool) (i : Nat) (h : listed.getD i true = false) : ((listed.setIfInBounds i true).toList.filter id).length = (listed.toList.filter id).length + 1 := by
  rw [Array.toList_setIfInBounds]
  refine cnt_list _ _ ?_
  by_cases hi : i < listed.size
  · rw [Array.getElem?_toList, Array.getElem?_eq_getElem hi]
    simpa [Array.getD, hi] using h
  · simp [Array.getD, hi] at h
/-- In whatever order: what each operation keeps holds behind all of them. -/
theorem any_inv (I : Array Bool → Act → World → Prop)
    (hstep : ∀ listed a w i, I listed a w → i ∈ Region.ready md ops listed → wpOp P ops Q i (fun a' w' => I (listed.setIfInBounds i true) a' w') a w)
    (hend : ∀ listed a w, I listed a w → Region.ready md ops listed = [] → Q .normal a w)
    (hlast : ∀ listed a w, I listed a w → ops.size ≤ (listed.toList.filter id).length → Region.ready md ops listed = []) :
    ∀ (fuel : Nat) (listed : Array Bool) (a : Act) (w : World), ops.size ≤ fuel + (listed.toList.filter id).length → I listed a w → wpAny P md ops Q fuel listed a w
  | 0, listed, a, w, hf, hI => ⟨hlast _ _ _ hI (by omega), hend _ _ _ hI (hlast _ _ _ hI (by omega))⟩
  | fuel + 1, listed, a, w, hf, hI => ⟨fun h => hend _ _ _ hI h, fun i hi =>
      wpOp_mono (fun a' w' h => any_inv I hstep hend hlast fuel _ a' w' (by rw [cnt_set _ _ (mem_ready.1 hi).1]; omega) h) (hstep _ _ _ _ hI hi)⟩
def dstOf (ops : Array Oper) (i : Nat) : Option Nat := (ops[i]?).bind (·.dst)
def dstsOf (ops : Array Oper) : List (Option Nat) := ops.toList.map (·.dst)
def bindsOn (md : Region.Mode) (ops : Array Oper) (i j : Nat) : Bool := ((ops[i]?).map (·.after.any fun e => Region.binds md e && e.on == j)).getD false
def fillT : List (Option Nat) → List Value → Array Value → Array Value
  | some d :: ds, v :: vs, t => (fillT ds vs t).setIfInBounds d v
  | none :: ds, _ :: vs, t => fillT ds vs t
  | _, _, t => t
def apartD : List (Option Nat) → Bool
  | some d :: ds => !ds.contains (some d) && apartD ds
  | none :: ds => apartD ds
  | [] => true
def regOK (md : Region.Mode) (ops : Array Oper) (n L : Nat) : Bool :=
  ops.size == L + 1 && apartD (dstsOf ops) && (dstsOf ops).all (fun o => match o with | some d => decide (d < n) | none => true)
    && (List.range ops.size).all (fun i => ((ops[i]?).map (·.after.all fun e => !Region.binds md e || decide (e.on < i))).getD true)
    && (List.range L).all (fun j => bindsOn md ops L j)
theorem fillT_size : ∀ (ds : List (Option Nat)) (vs : List Value) (t : Array Value), (fillT ds vs t).size = t.size
  | some d :: ds, v :: vs, t => by simp [fillT, fillT_size ds vs t]
  | none :: ds, _ :: vs, t => by simp [fillT, fillT_size ds vs t]
  | [], _, t => rfl
  | some _ :: _, [], t => rfl
  | none :: _, [], t => rfl
theorem fillT_keep : ∀ (ds : List (Option Nat)) (vs : List Value) (t : Array Value) (d : Nat), some d ∉ ds → (fillT ds vs t).getD d undef = t.getD d undef
  | some e :: ds, v :: vs, t, d, h => by
    have h1 : d ≠ e := fun he => h (by rw [he]; exact List.mem_cons_self)
    have h2 := fillT_keep ds vs t d (fun hm => h (List.mem_cons_of_mem _ hm))
    rw [fillT]
    simp only [Array.getD_eq_getD_getElem?] at h2 ⊢
    rw [Array.getElem?_setIfInBounds_ne (fun he => h1 he.symm)]
    exact h2
  | none :: ds, _ :: vs, t, d, h => fillT_keep ds vs t d (fun hm => h (List.mem_cons_of_mem _ hm))
  | [], _, t, _, _ => rfl
  | some _ :: _, [], t, _, _ => rfl
  | none :: _, [], t, _, _ => rfl
theorem fillT_get : ∀ (ds : List (Option Nat)) (vs : List Value) (t : Array Value) (i d : Nat), apartD ds = true → ds[i]? = some (some d) → vs.length = ds.length → d < t.size → (fillT ds vs t).getD d undef = vs.getD i undef
  | some e :: ds, v :: vs, t, 0, d, _, hi, _, hd => by
    obtain rfl : e = d := by simpa using hi
    rw [fillT]
    simp [Array.getD_eq_getD_getElem?, fillT_size, hd]
  | some e :: ds, v :: vs, t, i + 1, d, ha, hi, hl, hd => by
    have hi' : ds[i]? = some (some d) := by simpa using hi
    have h1 : e ≠ d := fun he => by
      have hm : some d ∈ ds := List.mem_of_getElem? hi'
      simp [apartD, he, hm] at ha
    rw [fillT]
    have h2 := fillT_get ds vs t i d (by simp [apartD] at ha; exact ha.2) hi' (by simpa using hl) hd
    simp only [Array.getD_eq_getD_getElem?] at h2 ⊢
    rw [Array.getElem?_setIfInBounds_ne h1, h2]
    simp
  | none :: ds, v :: vs, t, 0, d, _, hi, _, _ => by simp at hi
  | none :: ds, v :: vs, t, i + 1, d, ha, hi, hl, hd => by
    rw [fillT, fillT_get ds vs t i d (by simpa [apartD] using ha) (by simpa using hi) (by simpa using hl) hd]
    simp
  | [], _, t, i, d, _, hi, _, _ => by simp at hi
  | some _ :: _, [], _, _, _, _, _, hl, _ => by simp at hl
  | none :: _, [], _, _, _, _, _, hl, _ => by simp at hl
theorem fillT_set : ∀ (ds : List (Option Nat)) (vs : List Value) (t : Array Value) (i d : Nat) (v : Value), apartD ds = true → ds[i]? = some (some d) → vs.length = ds.length → (fillT ds vs t).setIfInBounds d v = fillT ds (vs.set i v) t
  | some e :: ds, u :: vs, t, 0, d, v, _, hi, _ => by
    obtain rfl : e = d := by simpa using hi
    rw [List.set_cons_zero, fillT, fillT]
    simp
  | some e :: ds, u :: vs, t, i + 1, d, v, ha, hi, hl => by
    have hi' : ds[i]? = some (some d) := by simpa using hi
    have h1 : e ≠ d := fun he => by
      have hm : some d ∈ ds := List.mem_of_getElem? hi'
      simp [apartD, he, hm] at ha
    rw [List.set_cons_succ, fillT, fillT, ← fillT_set ds vs t i d v (by simp [apartD] at ha; exact ha.2) hi' (by simpa using hl)]
    exact Array.setIfInBounds_comm _ _ h1
  | none :: ds, u :: vs, t, 0, d, v, _, hi, _ => by simp at hi
  | none :: ds, u :: vs, t, i + 1, d, v, ha, hi, hl => by
    rw [List.set_cons_succ, fillT, fillT]
    exact fillT_set ds vs t i d v (by simpa [apartD] using ha) (by simpa using hi) (by simpa using hl)
  | [], _, t, i, d, _, _, hi, _ => by simp at hi
  | some _ :: _, [], _, _, _, _, _, _, hl => by simp at hl
  | none :: _, [], _, _, _, _, _, _, hl => by simp at hl
theorem fillT_init : ∀ (ds : List (Option Nat)) (t : Array Value), fillT ds (ds.map fun o => match o with | some d => t.getD d undef | none => undef) t = t
  | [], t => rfl
  | some d :: ds, t => by
    rw [List.map_cons, fillT, fillT_init ds t]
    apply Array.ext
    · simp
    · intro i h1 h2
      rw [Array.getElem_setIfInBounds h2]
      split
      · rename_i he; subst he; simp [Array.getD, h2]
      · rfl
  | none :: ds, t => by
    rw [List.map_cons, fillT, fillT_init ds t]
def Own (w0 : World) (own : List Nat) (W : World) : Prop := ∀ k ∈ own, w0.heap.size ≤ k ∧ k < W.heap.size
def Grows (own own' : List Nat) (W : World) : Prop := (∀ k ∈ own, k ∈ own') ∧ ∀ k ∈ own', k ∈ own ∨ W.heap.size ≤ k
def Makes (P : Program) (ops : Array Oper) (Q : Exit → Act → World → Prop) (md : Region.Mode) (a0 : Act) (w0 : World) (Pre : Nat → List Nat → World → Value → Prop) (i : Nat) : Prop :=
  ∀ own a W, Below w0.heap.size w0 W → Own w0 own W → (∀ d, some d ∉ dstsOf ops → a.tmps.getD d undef = a0.tmps.getD d undef) →
    (∀ j d, bindsOn md ops i j = true → dstOf ops j = some d → Pre j own W (a.tmps.getD d undef)) →
    wpOp P ops Q i (fun a' W' => ∃ v own', a' = a.put (dstOf ops i) v ∧ Pre i own' W' v ∧ Below W.heap.size W W' ∧ Own w0 own' W' ∧ Grows own own' W) a W
theorem dsts_get (i : Nat) : (dstsOf ops)[i]? = (ops[i]?).map (·.dst) := by simp [dstsOf]
theorem dstOf_get {i d : Nat} (h : dstOf ops i = some d) : (dstsOf ops)[i]? = some (some d) := by
  rw [dsts_get]
  unfold dstOf at h
  cases ho : ops[i]? with
  | none => rw [ho] at h; simp at h
  | some o => rw [ho] at h; simpa using h
theorem region_makes (a0 : Act) (w0 : World) (Pre : Nat → List Nat → World → Value → Prop) (L : Nat) (hchk : regOK md ops a0.tmps.size L = true)
    (hstable : ∀ i own own' W W' v, Pre i own W v → Below W.heap.size W W' → Grows own own' W → Pre i own' W' v)
    (hstep : ∀ i, i < L → Makes P ops Q md a0 w0 Pre i)
    (hend : ∀ own vs W, Below w0.heap.size w0 W → Own w0 own W → (∀ i, i < L → Pre i own W (vs.getD i undef)) → vs.length = L + 1 →
      wpOp P ops Q L (fun a' W' => Q .normal a' W') ⟨fillT (dstsOf ops) vs a0.tmps, a0.defers⟩ W) :
    wpAny P md ops Q ops.size (Array.replicate ops.size false) a0 w0 := by
  unfold regOK at hchk
  simp only [Bool.and_eq_true, beq_iff_eq, List.all_eq_true, List.mem_range] at hchk
  obtain ⟨⟨⟨⟨hsz, hap⟩, hbd⟩, hrank⟩, hlast⟩ := hchk
  have hlen : (dstsOf ops).length = L + 1 := by simp [dstsOf, hsz]
  have hdlt : ∀ i d, (dstsOf ops)[i]? = some (some d) → d < a0.tmps.size := fun i d h => by
    have := hbd _ (List.mem_of_getElem? h)
    simpa using this
  refine any_inv (fun listed a W => listed.size = L + 1 ∧ ((listed.getD L false = true ∧ (∀ j, j < L → listed.getD j false = true) ∧ Q .normal a W) ∨
    (listed.getD L false = false ∧ ∃ own vs, a = ⟨fillT (dstsOf ops) vs a0.tmps, a0.defers⟩ ∧ vs.length = L + 1 ∧ Below w0.heap.size w0 W ∧ Own w0 own W ∧ (∀ i, i < L → listed.getD i false = true → Pre i own W (vs.getD i undef))))) ?_ ?_ ?_ _ _ _ _ ?_ ?_
  · rintro listed a W i ⟨hls, hI⟩ hi
    obtain ⟨hi0, o, ho, hdep⟩ := mem_ready.1 hi
    have hil : i < L + 1 := hsz ▸ (Array.getElem?_eq_some_iff.1 ho).1
    have hif : listed.getD i false = false := by
      have hlt : i < listed.size := by omega
      simp [Array.getD, hlt] at hi0 ⊢; exact hi0
    rcases hI with ⟨hL, hall, _⟩ | ⟨hL, own, vs, rfl, hvl, hB, hO, hPre⟩
    · exfalso
      by_cases hiL : i = L
      · rw [hiL, hL] at hif; cases hif
      · rw [hall i (by omega)] at hif; cases hif
    · by_cases hiL : i = L
      · subst hiL
        have hall : ∀ j, j < i → listed.getD j false = true := fun j hj => by
          have hb := hlast j hj
          unfold bindsOn at hb
          rw [ho] at hb
          simp only [Option.map_some, Option.getD_some, Array.any_eq_true', Bool.and_eq_true, beq_iff_eq] at hb
          obtain ⟨e, he, hbe, rfl⟩ := hb
          exact hdep e he hbe
        refine wpOp_mono (fun a' W' h => ⟨by simpa using hls, .inl ⟨?_, fun j hj => getD_set_true (hall j hj), h⟩⟩) (hend own vs W hB hO (fun j hj => hPre j hj (hall j hj)) hvl)
        have hlt : i < listed.size := by omega
        simp [hlt]
      · have hiL' : i < L := by omega
        refine wpOp_mono (fun a' W' h => ?_) (hstep i hiL' own _ W hB hO (fun d hd => fillT_keep _ _ _ _ hd) (fun j d hb hj => ?_))
        · obtain ⟨v, own', rfl, hp, hbw, hO', hg⟩ := h
          refine ⟨by simpa using hls, .inr ⟨(getD_set_ne false hiL).trans hL, own', vs.set i v, ?_, by simpa using hvl, hB.trans (hbw.mono hB.size), hO', fun j hj hlj => ?_⟩⟩
          · cases hd : dstOf ops i with
            | none =>
              have hdn : (dstsOf ops)[i]? = some none := by
                rw [dsts_get, ho]
                unfold dstOf at hd
                rw [ho] at hd
                simpa using hd
              show (⟨_, _⟩ : Act) = ⟨_, _⟩
              congr 1
              clear hstep hend hPre hp hbw
              have key : ∀ (ds : List (Option Nat)) (vs : List Value) (i : Nat), ds[i]? = some none → fillT ds vs a0.tmps = fillT ds (vs.set i v) a0.tmps := by
                intro ds
                induction ds with
                | nil => intro vs i h; simp at h
                | cons o ds ih =>
                  intro vs i h
                  cases vs with
                  | nil => simp
                  | cons u vs =>
                    cases i with
                    | zero =>
                      obtain rfl : o = none := by simpa using h
                      rfl
                    | succ i =>
                      rw [List.set_cons_succ]
                      cases o with
                      | none => exact ih vs i (by simpa using h)
                      | some d => rw [fillT, fillT, ih vs i (by simpa using h)]
              exact key _ _ _ hdn
            | some d =>
              show (⟨_, _⟩ : Act) = ⟨_, _⟩
              congr 1
              exact fillT_set _ _ _ i d v hap (dstOf_get hd) (by omega)
          · by_cases hji : j = i
            · subst hji
              have hlt : j < vs.length := by omega
              simpa [List.getD_eq_getElem?_getD, hlt] using hp
            · have := hPre j hj ((getD_set_ne false (fun e => hji e.symm)).symm.trans hlj)
              have h2 := hstable j own own' W W' _ this hbw hg
              simpa [List.getD_eq_getElem?_getD, List.getElem?_set_ne (fun e => hji e.symm)] using h2
        · have hji : j < i := by
            have hr := hrank i (by omega)
            rw [ho] at hr
            simp only [Option.map_some, Option.getD_some] at hr
            unfold bindsOn at hb
            rw [ho] at hb
            simp only [Option.map_some, Option.getD_some, Array.any_eq_true', Bool.and_eq_true, beq_iff_eq] at hb
            obtain ⟨e, he, hbe, rfl⟩ := hb
            have h3 := (Array.all_eq_true_iff_forall_mem.1 hr) e he
            simpa [hbe] using h3
          have hlj : listed.getD j false = true := by
            unfold bindsOn at hb
            rw [ho] at hb
            simp only [Option.map_some, Option.getD_some, Array.any_eq_true', Bool.and_eq_true, beq_iff_eq] at hb
            obtain ⟨e, he, hbe, rfl⟩ := hb
            exact hdep e he hbe
          have := hPre j (by omega) hlj
          show Pre j own W ((fillT (dstsOf ops) vs a0.tmps).getD d undef)
          rw [fillT_get _ _ _ j d hap (dstOf_get hj) (by omega) (hdlt j d (dstOf_get hj))]
          exact this
  · rintro listed a W ⟨hls, hI⟩ hnil
    rcases hI with ⟨_, _, h⟩ | ⟨hL, _⟩
    · exact h
    · exfalso
      have key : ∀ n i, i ≤ n → i ≤ L → listed.getD i false = false → False := by
        intro n
        induction n using Nat.strongRecOn with
        | _ n ih =>
          intro i hin hiL hif
          have hlt : i < listed.size := by omega
          have hi0 : listed.getD i true = false := by
            simp [Array.getD, hlt] at hif ⊢; exact hif
          have hos : i < ops.size := by omega
          have hr : i ∉ Region.ready md ops listed := by rw [hnil]; simp
          apply hr
          refine mem_ready.2 ⟨hi0, ops[i], Array.getElem?_eq_getElem hos, fun e he hb => ?_⟩
          cases hle : listed.getD e.on false with
          | true => rfl
          | false =>
            exfalso
            have hrk := hrank i hos
            rw [Array.getElem?_eq_getElem hos] at hrk
            simp only [Option.map_some, Option.getD_some] at hrk
            have h3 := (Array.all_eq_true_iff_forall_mem.1 hrk) e he
            have h4 : e.on < i := by simpa [hb] using h3
            exact ih e.on (by omega) e.on (Nat.le_refl _) (by omega) hle
      exact key L L (Nat.le_refl _) (Nat.le_refl _) hL
  · rintro listed a W ⟨hls, _⟩ hc
    have hall : ∀ x ∈ listed.toList, id x = true := by
      apply List.length_filter_eq_length_iff.1
      have := List.length_filter_le id listed.toList
      have : listed.toList.length = listed.size := by simp
      omega
    apply List.eq_nil_iff_forall_not_mem.2
    intro i hi
    have hi0 := (mem_ready.1 hi).1
    have hlt : i < listed.size := by
      rcases Nat.lt_or_ge i listed.size with h | h
      · exact h
      · simp [Array.getD, Nat.not_lt.2 h] at hi0
    simp [Array.getD, hlt] at hi0
    have := hall listed[i] (by simp)
    simp [hi0] at this
  · exact Nat.le_add_right _ _
  · refine ⟨by simp [hsz], .inr ⟨by simp [hsz], [], (dstsOf ops).map (fun o => match o with | some d => a0.tmps.getD d undef | none => undef), ?_, by simp [hlen], Below.refl _ _, fun _ h => (by cases h), fun i hi h => ?_⟩⟩
    · rw [fillT_init]
    · exfalso
      simp [hsz, Nat.lt_succ_of_lt hi] at h
end
end Go.Proofs.YtkdicgendcdooaaDoor

/-
  The makers of values of the package api: loads, moves, calls, an allocation and the store behind all of them.
-/
namespace Go.Proofs.YtkdicgendcdooaaDoor
open Go.RowKit Go.Lib
set_option linter.unusedSimpArgs false
set_option linter.unusedVariables false
def NV (own : List Nat) (W : World) (z : V) (v : Value) : Prop := VF W (fun k => k < W.heap.size ∧ k ∉ own) z v
def Box0 (own : List Nat) (W : World) (v : Value) : Prop := ∃ p, v = .pointer (some ⟨p, 0, none⟩) ∧ p ∈ own ∧ W.heap[p]? = some (.cells #[.int .i64 0, .int .i64 0, .string ⟨#[]⟩, .slice none 0 0, .slice none 0 0] 27 (0, 0))
inductive PK where
  | val (v : Value)
  | nv (z : V)
  | got (r : Option V)
  | box0
  | any
def PK.sat (p : PK) (own : List Nat) (W : World) (v : Value) : Prop := match p with
  | .val u => v = u
  | .nv z => NV own W z v
  | .got r => ∃ u, v = .tuple #[u, .bool r.isSome] ∧ NV own W (r.getD zV) u
  | .box0 => Box0 own W v
  | .any => True
theorem NV.stable {own own' : List Nat} {W W' : World} {z : V} {v : Value} (h : NV own W z v) (hb : Below W.heap.size W W') (hg : Grows own own' W) : NV own' W' z v :=
  (VF.below h hb).mono (fun k hk => ⟨Nat.lt_of_lt_of_le hk.1 hb.size, fun hm => (hg.2 k hm).elim hk.2 (fun h => absurd hk.1 (Nat.not_lt.2 h))⟩)
theorem PK.stable (p : PK) (own own' : List Nat) (W W' : World) (v : Value) (h : p.sat own W v) (hb : Below W.heap.size W W') (hg : Grows own own' W) : p.sat own' W' v := by
  cases p with
  | val u => exact h
  | nv z => exact NV.stable h hb hg
  | got r =>
    obtain ⟨u, rfl, h⟩ := h
    exact ⟨u, rfl, h.stable hb hg⟩
  | box0 =>
    obtain ⟨p, rfl, hm, hc⟩ := h
    exact ⟨p, rfl, hg.1 p hm, (hb.block _ (Array.getElem?_eq_some_iff.1 hc).1).trans hc⟩
  | any => trivial
theorem NV.old {w0 W : World} {own : List Nat} {z : V} {v : Value} (h : VF w0 (fun k => k < w0.heap.size) z v) (hb : Below w0.heap.size w0 W) (hO : Own w0 own W) : NV own W z v :=
  (h.below hb).mono (fun k hk => ⟨Nat.lt_of_lt_of_le hk hb.size, fun hm => absurd hk (Nat.not_lt.2 (hO k hm).1)⟩)
theorem NV.made {W W' : World} {own : List Nat} {z : V} {v : Value} {w0 : World} (h : VF W' (Old W (fun k => k < W.heap.size ∧ k ∉ own)) z v) (hO : Own w0 own W) (hb : Below W.heap.size W W') : NV own W' z v :=
  h.bound.mono (fun k hk => ⟨hk.2, fun hm => hk.1.elim (fun h => h.2 hm) (fun h => absurd (hO k hm).2 (Nat.not_lt.2 h))⟩)
theorem Own.mono {w0 W W' : World} {own : List Nat} (h : Own w0 own W) (hb : Below W.heap.size W W') : Own w0 own W' := fun k hk => ⟨(h k hk).1, Nat.lt_of_lt_of_le (h k hk).2 hb.size⟩
theorem Grows.refl (own : List Nat) (W : World) : Grows own own W := ⟨fun _ h => h, fun _ h => .inl h⟩
theorem BoxOf.new {w : World} {ok : Nat → Prop} {z : V} {A3 A4 : Option Addr} {c3 c4 : Nat} (h : VF w ok z (.agg #[.int .i64 z.f0, .int .i64 z.f1, .string z.f2, .slice A3 z.f3.length c3, .slice A4 z.f4.length c4])) :
    BoxOf (w.alloc (.cells #[.int .i64 z.f0, .int .i64 z.f1, .string z.f2, .slice A3 z.f3.length c3, .slice A4 z.f4.length c4] 27)) w.heap.size Any z :=
  ⟨A3, c3, A4, c4, heap_alloc_new _ _, h.any.below ((Below.refl _ w).alloc (Nat.le_refl _) _)⟩
theorem BoxOf.any {W : World} {p : Nat} {ok : Nat → Prop} {x : V} (h : BoxOf W p ok x) : BoxOf W p Any x := by
  obtain ⟨A3, c3, A4, c4, h1, h2⟩ := h
  exact ⟨A3, c3, A4, c4, h1, h2.any⟩
theorem BoxOf.lt {W : World} {p : Nat} {ok : Nat → Prop} {x : V} (h : BoxOf W p ok x) : p < W.heap.size := by
  obtain ⟨A3, c3, A4, c4, h1, h2⟩ := h
  exact (Array.getElem?_eq_some_iff.1 h1).1
theorem BoxOf.read {W : World} {p : Nat} {ok : Nat → Prop} {x : V} (h : BoxOf W p ok x) : ∃ A3 c3 A4 c4, (W.cell? ⟨p, 0, none⟩ = some (.int .i64 x.f0) ∧ W.cell? ⟨p, 1, none⟩ = some (.int .i64 x.f1) ∧ W.cell? ⟨p, 2, none⟩ = some (.string x.f2) ∧ W.cell? ⟨p, 3, none⟩ = some (.slice A3 x.f3.length c3) ∧ W.cell? ⟨p, 4, none⟩ = some (.slice A4 x.f4.length c4)) ∧ VF W (fun k => k < W.heap.size) x (.agg #[.int .i64 x.f0, .int .i64 x.f1, .string x.f2, .slice A3 x.f3.length c3, .slice A4 x.f4.length c4]) := by
  obtain ⟨A3, c3, A4, c4, h1, h2⟩ := h
  exact ⟨A3, c3, A4, c4, cells5v h1, h2.bound.mono (fun k hk => hk.2)⟩
theorem BoxOf.readD {W : World} {p : Nat} {ok : Nat → Prop} {x : V} (h : BoxOf W p ok x) : ∃ A3 c3 A4 c4, (W.drew.cell? ⟨p, 0, none⟩ = some (.int .i64 x.f0) ∧ W.drew.cell? ⟨p, 1, none⟩ = some (.int .i64 x.f1) ∧ W.drew.cell? ⟨p, 2, none⟩ = some (.string x.f2) ∧ W.drew.cell? ⟨p, 3, none⟩ = some (.slice A3 x.f3.length c3) ∧ W.drew.cell? ⟨p, 4, none⟩ = some (.slice A4 x.f4.length c4)) ∧ VF W.drew (fun k => k < W.drew.heap.size) x (.agg #[.int .i64 x.f0, .int .i64 x.f1, .string x.f2, .slice A3 x.f3.length c3, .slice A4 x.f4.length c4]) := by
  obtain ⟨A3, c3, A4, c4, h1, h2⟩ := h
  exact ⟨A3, c3, A4, c4, cells5v h1, (h2.bound.mono (fun k hk => hk.2)).below ((Below.refl _ W).drew)⟩
theorem len_cons {α : Type} {l : List α} {n : Nat} (h : l.length = n + 1) : ∃ a t, l = a :: t ∧ t.length = n := by
  cases l with
  | nil => cases h
  | cons a t => exact ⟨a, t, rfl, by simpa using h⟩
theorem eg18 (args : Array Value) (w : World) : (callFunc 18 args).run Tryd.prog w = .ok (.enter 18 args) w := enters_of Tryd.func18 (by rfl) (by rfl) args w
theorem eg19 (args : Array Value) (w : World) : (callFunc 19 args).run Tryd.prog w = .ok (.enter 19 args) w := enters_of Tryd.func19 (by rfl) (by rfl) args w
theorem eg21 (args : Array Value) (w : World) : (callFunc 21 args).run Tryd.prog w = .ok (.enter 21 args) w := enters_of Tryd.func21 (by rfl) (by rfl) args w
theorem eg20 (args : Array Value) (w : World) : (callFunc 20 args).run Tryd.prog w = .ok (.enter 20 args) w := enters_of Tryd.func20 (by rfl) (by rfl) args w
section
variable {ops : Array Oper} {Q : Exit → Act → World → Prop} {md : Region.Mode} {a0 : Act} {w0 : World} {pks : List PK}
abbrev MakesV (ops : Array Oper) (Q : Exit → Act → World → Prop) (md : Region.Mode) (a0 : Act) (w0 : World) (pks : List PK) (i : Nat) : Prop := Makes Tryd.prog ops Q md a0 w0 (fun i => (pks.getD i .any).sat) i
theorem wpOp_plain {P : Program} {i : Nat} {o : Oper} {a : Act} {w : World} {K : Act → World → Prop} (hi : ops[i]? = some o) (hg : o.guard = none) (h : o.wp P a w K Q) : wpOp P ops Q i K a w := by
  unfold wpOp
  simp [hi, Region.wanted, hg, h]
theorem wpv_val {P : Program} {o : Oper} {a : Act} {w w' : World} {K : Act → World → Prop} {v : Value} (h : (execOp a.eval o).run P w = .ok (.value v) w') (hk : K (a.put o.dst v) w') : o.wp P a w K Q := by
  unfold Oper.wp
  rw [h, Oper.upon_value]
  exact hk
theorem wpv_skip {P : Program} {o : Oper} {a : Act} {w w' : World} {K : Act → World → Prop} (h : (execOp a.eval o).run P w = .ok .skip w') (hk : K (a.put o.dst undef) w') : o.wp P a w K Q := by
  unfold Oper.wp
  rw [h, Oper.upon_skip]
  exact hk
theorem wpv_enter {P : Program} {o : Oper} {a : Act} {w w' : World} {K : Act → World → Prop} {f : FuncId} {args : Array Value} (h : (execOp a.eval o).run P w = .ok (.enter f args) w')
    (hk : Calls P f args w' fun e w'' => ∃ v, e = .returned v ∧ K (a.put o.dst v) w'') : o.wp P a w K Q := by
  unfold Oper.wp
  rw [h, Oper.upon_enter]
  refine hk.mono ?_
  rintro e w'' ⟨v, rfl, hv⟩
  exact hv
theorem dst_is {i : Nat} {o : Oper} (ho : ops[i]? = some o) : dstOf ops i = o.dst := by unfold dstOf; rw [ho]; rfl
/-- A value that is moved. -/
theorem mk_move {i : Nat} {o : Oper} {s : Nat} {v : Value} (ho : ops[i]? = some o) (hop : o.op = .move (.tmp s)) (hg : o.guard = none) (hv : a0.tmps.getD s undef = v) (hs : (dstsOf ops).contains (some s) = false) (hp : pks.getD i .any = .val v) :
    MakesV ops Q md a0 w0 pks i := by
  intro own a W hB hO hK hD
  refine wpOp_plain ho hg (wpv_val (w' := W) (v := v) ?_ ⟨v, own, by rw [dst_is ho], by show (pks.getD i .any).sat own W v; rw [hp]; rfl, Below.refl _ _, hO, Grows.refl _ _⟩)
  have h1 : a.eval (.tmp s) = v := (hK s (by simpa using hs)).trans hv
  unfold execOp
  rw [hop]
  show Sem.run _ (pure (Next.value (a.eval (.tmp s)))) W = _
  rw [h1]
  rfl
/-- A value that is there in whatever world. -/
theorem mk_val {i : Nat} {o : Oper} {v : Value} (ho : ops[i]? = some o) (hg : o.guard = none) (hrun : ∀ (a : Act) W, (execOp a.eval o).run Tryd.prog W = .ok (.value v) W) (hp : pks.getD i .any = .val v) :
    MakesV ops Q md a0 w0 pks i := by
  intro own a W hB hO hK hD
  exact wpOp_plain ho hg (wpv_val (w' := W) (v := v) (hrun a W) ⟨v, own, by rw [dst_is ho], by show (pks.getD i .any).sat own W v; rw [hp]; rfl, Below.refl _ _, hO, Grows.refl _ _⟩)
/-- A call of a function of Go. -/
theorem mk_call {i : Nat} {o : Oper} {f : FuncId} {xs : Array Operand} {ats : Array TypeId} (ho : ops[i]? = some o) (hop : o.op = .call { callee := .value (.func f), args := xs, argTypes := ats }) (hg : o.guard = none)
    (eg : ∀ args w, (callFunc f args).run Tryd.prog w = .ok (.enter f args) w)
    (h : ∀ own (a : Act) W, Below w0.heap.size w0 W → Own w0 own W → (∀ d, some d ∉ dstsOf ops → a.tmps.getD d undef = a0.tmps.getD d undef) →
      (∀ j d, bindsOn md ops i j = true → dstOf ops j = some d → (pks.getD j .any).sat own W (a.tmps.getD d undef)) →
      Calls Tryd.prog f (xs.toList.map a.eval).toArray W (fun e W' => ∃ v, e = .returned v ∧ (pks.getD i .any).sat own W' v ∧ Below W.heap.size W W')) :
    MakesV ops Q md a0 w0 pks i := by
  intro own a W hB hO hK hD
  refine wpOp_plain ho hg (wpv_enter (f := f) (args := (xs.toList.map a.eval).toArray) (w' := W) ?_ ((h own a W hB hO hK hD).mono ?_))
  · unfold execOp
    rw [hop]
    show (callFunc f (#[] ++ xs.map a.eval ++ #[])).run _ W = _
    have e : (#[] ++ xs.map a.eval ++ #[]) = (xs.toList.map a.eval).toArray := by apply Array.ext'; simp
    rw [e]
    exact eg _ _
  · rintro e W' ⟨v, rfl, hv, hb⟩
    exact ⟨v, rfl, v, own, by rw [dst_is ho], hv, hb, hO.mono hb, Grows.refl _ _⟩
/-- A new box. -/
theorem mk_box {i : Nat} {o : Oper} (ho : ops[i]? = some o) (hop : o.op = .alloc 27) (hg : o.guard = none) (hp : pks.getD i .any = .box0) : MakesV ops Q md a0 w0 pks i := by
  intro own a W hB hO hK hD
  have hz : ∀ w, (do pure (Next.value (← Instr.alloc 27 true (.tuple #[]))) : Sem Next).run Tryd.prog w = .ok (.value (.pointer (some ⟨w.heap.size, 0, none⟩))) (w.alloc (.cells #[.int .i64 0, .int .i64 0, .string ⟨#[]⟩, .slice none 0 0, .slice none 0 0] 27)) := fun w => by kernel_rfl
  have hb : Below W.heap.size W (W.alloc (.cells #[.int .i64 0, .int .i64 0, .string ⟨#[]⟩, .slice none 0 0, .slice none 0 0] 27)) := (Below.refl _ W).alloc (Nat.le_refl _) _
  refine wpOp_plain ho hg (wpv_val (w' := W.alloc (.cells #[.int .i64 0, .int .i64 0, .string ⟨#[]⟩, .slice none 0 0, .slice none 0 0] 27)) (v := .pointer (some ⟨W.heap.size, 0, none⟩)) ?_
    ⟨_, W.heap.size :: own, by rw [dst_is ho], ?_, hb, ?_, ⟨fun k hk => List.mem_cons_of_mem _ hk, fun k hk => ?_⟩⟩)
  · unfold execOp
    rw [hop]
    exact hz W
  · show (pks.getD i .any).sat _ _ _
    rw [hp]
    exact ⟨_, rfl, List.mem_cons_self, heap_alloc_new _ _⟩
  · intro k hk
    rcases List.mem_cons.1 hk with rfl | hk
    · exact ⟨hB.size, by simp⟩
    · exact (hO.mono hb) k hk
  · rcases List.mem_cons.1 hk with rfl | hk
    · exact .inr (Nat.le_refl _)
    · exact .inl hk
/-- A box that is read. -/
theorem mk_load {i : Nat} {o : Oper} {s p : Nat} {a b c d e : Value} (ho : ops[i]? = some o) (hop : o.op = .load 27 (.tmp s)) (hg : o.guard = none) (hv : a0.tmps.getD s undef = .pointer (some ⟨p, 0, none⟩)) (hs : (dstsOf ops).contains (some s) = false)
    (hc : w0.cell? ⟨p, 0, none⟩ = some a ∧ w0.cell? ⟨p, 1, none⟩ = some b ∧ w0.cell? ⟨p, 2, none⟩ = some c ∧ w0.cell? ⟨p, 3, none⟩ = some d ∧ w0.cell? ⟨p, 4, none⟩ = some e) (h1 : a.oneCell' = true ∧ b.oneCell' = true ∧ c.oneCell' = true ∧ d.oneCell' = true ∧ e.oneCell' = true) (hp : pks.getD i .any = .val (.agg #[a, b, c, d, e])) :
    MakesV ops Q md a0 w0 pks i := by
  intro own a' W hB hO hK hD
  have hlt : p < w0.heap.size := World.block_lt_of_cell? w0 _ hc.1
  obtain ⟨c0, c1, c2, c3, c4⟩ := hc
  replace c0 := (hB.cell (p := ⟨p, 0, none⟩) hlt).trans c0
  replace c1 := (hB.cell (p := ⟨p, 1, none⟩) hlt).trans c1
  replace c2 := (hB.cell (p := ⟨p, 2, none⟩) hlt).trans c2
  replace c3 := (hB.cell (p := ⟨p, 3, none⟩) hlt).trans c3
  replace c4 := (hB.cell (p := ⟨p, 4, none⟩) hlt).trans c4
  refine wpOp_plain ho hg (wpv_val (w' := W) (v := .agg #[a, b, c, d, e]) ?_ ⟨_, own, by rw [dst_is ho], by show (pks.getD i .any).sat own W _; rw [hp]; rfl, Below.refl _ _, hO, Grows.refl _ _⟩)
  have h2 : a'.eval (.tmp s) = .pointer (some ⟨p, 0, none⟩) := (hK s (by simpa using hs)).trans hv
  unfold execOp
  rw [hop]
  show Sem.run _ (do pure (Next.value (← Instr.loadAt 27 (a'.eval (.tmp s))))) W = _
  rw [h2]
  go_simp
/-- The whole: a new box, with a value that the region's calls make. -/
theorem region_box {id : Nat} {w : World} {L i8 i27 d8 d27 : Nat} {oL : Oper} {z : V} (hm : Tryd.prog.follows .mixedOrders = true) (hchk : regOK .any ops a0.tmps.size L = true) (h8 : dstOf ops i8 = some d8) (h27 : dstOf ops i27 = some d27) (hi8 : i8 < L) (hi27 : i27 < L)
    (hL : ops[L]? = some oL) (hop : oL.op = .store 27 (.tmp d8) (.tmp d27)) (hg : oL.guard = none) (hd : oL.dst = none) (hp8 : pks.getD i8 .any = .box0) (hp27 : pks.getD i27 .any = .nv z)
    (hstep : ∀ i, i < L → MakesV ops Q .any a0 w.drew pks i)
    (hQ : ∀ vs p W, vs.length = L + 1 → vs.getD i8 undef = .pointer (some ⟨p, 0, none⟩) → Below w.heap.size w W → w.heap.size ≤ p → p < W.heap.size → BoxOf W p (fun k => k ≠ p) z → Q .normal ⟨fillT (dstsOf ops) vs a0.tmps, a0.defers⟩ W) :
    (Code.region id ops true).wp Tryd.prog Q a0 w := by
  refine wp_region_any hm (region_makes a0 w.drew (fun i => (pks.getD i .any).sat) L hchk (fun i => (pks.getD i .any).stable) hstep ?_)
  intro own vs W hB hO hPre hvl
  have hck := hchk
  unfold regOK at hck
  simp only [Bool.and_eq_true, beq_iff_eq, List.all_eq_true, List.mem_range] at hck
  obtain ⟨⟨⟨⟨hsz, hap⟩, hbd⟩, _⟩, _⟩ := hck
  have hlen : (dstsOf ops).length = L + 1 := by simp [dstsOf, hsz]
  have hdlt : ∀ i d, (dstsOf ops)[i]? = some (some d) → d < a0.tmps.size := fun i d h => by
    have := hbd _ (List.mem_of_getElem? h)
    simpa using this
  obtain ⟨p, e8, hpo, hc⟩ := (show Box0 own W (vs.getD i8 undef) by have := hPre i8 hi8; simp only [hp8] at this; exact this)
  have hz := (show NV own W z (vs.getD i27 undef) by have := hPre i27 hi27; simp only [hp27] at this; exact this)
  obtain ⟨A3, c3, A4, c4, e27, _⟩ := hz.open_
  have hz' : VF W (fun k => k ≠ p) z (.agg #[.int .i64 z.f0, .int .i64 z.f1, .string z.f2, .slice A3 z.f3.length c3, .slice A4 z.f4.length c4]) := by
    rw [← e27]
    exact VF.mono hz (fun k hk e => hk.2 (e ▸ hpo))
  have g8 : (fillT (dstsOf ops) vs a0.tmps).getD d8 undef = .pointer (some ⟨p, 0, none⟩) := by
    rw [fillT_get _ _ _ i8 d8 hap (dstOf_get h8) (by omega) (hdlt _ _ (dstOf_get h8)), e8]
  have g27 : (fillT (dstsOf ops) vs a0.tmps).getD d27 undef = .agg #[.int .i64 z.f0, .int .i64 z.f1, .string z.f2, .slice A3 z.f3.length c3, .slice A4 z.f4.length c4] := by
    rw [fillT_get _ _ _ i27 d27 hap (dstOf_get h27) (by omega) (hdlt _ _ (dstOf_get h27)), e27]
  generalize hF : fillT (dstsOf ops) vs a0.tmps = F at g8 g27
  have vs8 := softv hc
  obtain ⟨k0, k1, k2, k3, k4⟩ := cells5v hc
  have hlt : p < W.heap.size := (Array.getElem?_eq_some_iff.1 hc).1
  have hp0 : w.heap.size ≤ p := (hO p hpo).1
  refine wpOp_plain hL hg (wpv_skip (w' := ((((W.setCell ⟨p, 0, none⟩ (.int .i64 z.f0)).setCell ⟨p, 1, none⟩ (.int .i64 z.f1)).setCell ⟨p, 2, none⟩ (.string z.f2)).setCell ⟨p, 3, none⟩ (.slice A3 z.f3.length c3)).setCell ⟨p, 4, none⟩ (.slice A4 z.f4.length c4)) ?_ ?_)
  · unfold execOp
    rw [hop]
    show Sem.run _ (do Instr.storeAt 27 (Act.eval ⟨F, a0.defers⟩ (.tmp d8)) (Act.eval ⟨F, a0.defers⟩ (.tmp d27)); pure Next.skip) W = _
    rw [show Act.eval ⟨F, a0.defers⟩ (.tmp d8) = _ from g8, show Act.eval ⟨F, a0.defers⟩ (.tmp d27) = _ from g27]
    go_simp
  · rw [hd]
    show Q .normal ⟨F, a0.defers⟩ _
    rw [← hF]
    have hO5 := off5 W p (.int .i64 z.f0) (.int .i64 z.f1) (.string z.f2) (.slice A3 z.f3.length c3) (.slice A4 z.f4.length c4)
    refine hQ vs p _ hvl e8 (Off.below (((Below.refl w.heap.size w).drew).trans (show Below w.heap.size w.drew W from hB)) hO5 (by simpa using hp0)) hp0 (by rw [hO5.size]; exact hlt) ⟨A3, c3, A4, c4, heap_setv (heap_setv (heap_setv (heap_setv (heap_setv hc _) _) _) _) _, hO5.vf hz' (fun k hk _ hm => by simp at hm; exact hk hm)⟩
end
end Go.Proofs.YtkdicgendcdooaaDoor

/-
  The law PowerValid, walked .
-/
namespace Go.Proofs.YtkdicgendcdooaaDoor
open Go.RowKit Go.Lib Go.Proofs.YtkdicgendcdooaaDoorW.PrintWords
set_option linter.unusedSimpArgs false
set_option linter.unusedVariables false
def key8 (i : Nat) : ByteArray := if i < 6 then plainB i else if i = 6 then bUsers else bEvents
def key8Cells : Array Value := #[.string bBan, .string bEventsDefault, .string bInvite, .string bKick, .string bStateDefault, .string bUsersDefault, .string bUsers, .string bEvents]
theorem key8_at {W : World} {p : Nat} (h : W.heap[p]? = some (.cells key8Cells 9 (0, 0))) {r : Nat} (hr : r < 8) : W.cell? ⟨p, r, none⟩ = some (.string (key8 r)) := by
  have : r = 0 ∨ r = 1 ∨ r = 2 ∨ r = 3 ∨ r = 4 ∨ r = 5 ∨ r = 6 ∨ r = 7 := by omega
  rcases this with rfl | rfl | rfl | rfl | rfl | rfl | rfl | rfl <;> (unfold World.cell?; simp only [h]; rfl)
theorem key8_tab (r : Nat) (h : r < 8) (h' : r < ([.string bBan, .string bEventsDefault, .string bInviteK, .string bKick, .string bStateDefault, .string bUsersDefault, .string bUsers, .string bEvents] : List Value).length) :
    ([.string bBan, .string bEventsDefault, .string bInviteK, .string bKick, .string bStateDefault, .string bUsersDefault, .string bUsers, .string bEvents] : List Value)[r]'h' = .string (key8 r) := by
  have : r = 0 ∨ r = 1 ∨ r = 2 ∨ r = 3 ∨ r = 4 ∨ r = 5 ∨ r = 6 ∨ r = 7 := by omega
  rcases this with rfl | rfl | rfl | rfl | rfl | rfl | rfl | rfl <;> rfl
theorem key8_size (r : Nat) : (key8 r).size ≤ 100 := by unfold key8 plainB; repeat (first | decide | split)
theorem str_cell (s : ByteArray) (w : World) : Calls Tryd.prog 21 #[.string s] w (EndI w (.agg #[.int .i64 (strV s).f0, .int .i64 (strV s).f1, .string (strV s).f2, .slice none (strV s).f3.length 0, .slice none (strV s).f4.length 0])) := by
  show Calls Tryd.prog 21 #[.string s] w (EndI w (.agg #[.int .i64 3, .int .i64 0, .string s, .slice none 0 0, .slice none 0 0]))
  go_enter Tryd.func21, Tryd.ntmps21
  go_wp2_with fail
  refine bodyPost_ret (v := .agg #[.int .i64 3, .int .i64 0, .string s, .slice none 0 0, .slice none 0 0]) (by simp [results, Tryd.results21, go_sem]) rfl ⟨rfl, ?_⟩
  first | exact Below.refl _ w | exact (Below.refl _ w).alloc (Nat.le_refl _) _
theorem getV_obj {x y : V} {key : ByteArray} (h : getV x key = some y) : x.f0 = 5 := by
  unfold getV at h
  split at h
  · rename_i hc; exact hc.1
  · cases h
theorem put_obj (x : V) (key : ByteArray) (y : V) : (putV x key y).f0 = 5 := by
  unfold putV
  split
  · split <;> rfl
  · rfl
theorem put_in (x : V) (key : ByteArray) (y : V) (h : x.f0 = 5 → WF x) : key ∈ (putV x key y).f3 ∧ y ∈ (putV x key y).f4 := by
  by_cases hx : x.f0 = 5
  · obtain ⟨i, o, hi, e, _⟩ := put_form (h hx) key y
    rw [e]
    constructor
    · show key ∈ x.f3.take i ++ [key] ++ x.f3.drop (i + o); simp
    · show y ∈ x.f4.take i ++ [y] ++ x.f4.drop (i + o); simp
  · unfold putV
    rw [if_neg hx]
    exact ⟨List.mem_singleton.2 rfl, List.mem_singleton.2 rfl⟩
theorem getD_wf {P : ByteArray → Prop} {r : Option V} (h : ∀ y, r = some y → Tab P y) : (r.getD zV).f0 = 5 → WF (r.getD zV) := by
  cases r with
  | none => intro e; exact absurd (show (0 : Int) = 5 from e) (by decide)
  | some y => exact fun _ => (h y rfl).wf
theorem getD_fit {x : V} {key : ByteArray} (hf : Fit x) : Fit ((getV x key).getD zV) := by
  cases h : getV x key with
  | none => exact Fit.zero
  | some y => exact getV_fit hf h
theorem table_bad {x y : V} {key : ByteArray} {pf : ByteArray → Bool} (hg : getV x key = some y) (h : y.f0 ≠ 5 ∨ (∃ z ∈ y.f4, z.f0 ≠ 2) ∨ ∃ k ∈ y.f3, pf k = false) : tableV x pf key = false := by
  unfold tableV
  rw [hg]
  show (decide (y.f0 = 5) && !(y.f4.any notInt) && !(y.f3.any fun k => !pf k)) = false
  rcases h with h | ⟨z, hz, h⟩ | ⟨k, hk, h⟩
  · rw [decide_eq_false h]; rfl
  · have : y.f4.any notInt = true := List.any_eq_true.2 ⟨z, hz, by unfold notInt; simp [h]⟩
    rw [this]; simp
  · have : (y.f3.any fun k => !pf k) = true := List.any_eq_true.2 ⟨k, hk, by rw [h]; rfl⟩
    rw [this]; simp
theorem key8_is (r : Nat) : key8 r ∈ plainL ∨ key8 r = bUsers ∨ key8 r = bEvents := by
  unfold key8
  split
  · left
    unfold plainB plainL
    repeat (first | (split) | simp)
  · split
    · exact .inr (.inl rfl)
    · exact .inr (.inr rfl)
theorem val_bad {x : V} (h : Lev x) {key : ByteArray} (hk : key ∈ plainL ∨ key = bUsers ∨ key = bEvents) (s : ByteArray) : validV (putV x key (strV s)) uokB = false := by
  have hg := put_same h.wf key (strV s)
  unfold validV
  rcases hk with hk | rfl | rfl
  · have h1 : okKey (putV x key (strV s)) key = false := by
      unfold okKey atV
      rw [hg]
      simp [strV]
    have : plainL.all (okKey (putV x key (strV s))) = false := List.all_eq_false.2 ⟨key, hk, by rw [h1]; decide⟩
    rw [this]; rfl
  · rw [table_bad (pf := uokB) hg (.inl (by show ¬ (3 : Int) = 5; decide))]; simp
  · rw [table_bad (pf := fun _ => true) hg (.inl (by show ¬ (3 : Int) = 5; decide))]; simp
theorem val_other {x : V} (h : Lev x) : validV (putV x bUsers (putV ((getV x bUsers).getD zV) ⟨#[97, 58, 115]⟩ (numV 1))) uokB = false := by
  have hm := (put_in ((getV x bUsers).getD zV) ⟨#[97, 58, 115]⟩ (numV 1) (getD_wf h.users)).1
  unfold validV
  rw [table_bad (pf := uokB) (put_same h.wf _ _) (.inr (.inr ⟨_, hm, by decide⟩))]; simp
theorem val_third {x : V} (h : Lev x) : validV (putV x bEvents (putV ((getV x bEvents).getD zV) ⟨#[116]⟩ zV)) uokB = false := by
  have hm := (put_in ((getV x bEvents).getD zV) ⟨#[116]⟩ zV (getD_wf h.events)).2
  unfold validV
  rw [table_bad (pf := fun _ => true) (put_same h.wf _ _) (.inr (.inl ⟨_, hm, by decide⟩))]; simp
theorem val_more {x : V} (h : Lev x) (y : V) : validV (putV x ⟨#[109, 111, 114, 101]⟩ y) uokB = true := by
  have hw := put_wf h.wf ⟨#[109, 111, 114, 101]⟩ y
  have hg : ∀ k, k ≠ ⟨#[109, 111, 114, 101]⟩ → getV (putV x ⟨#[109, 111, 114, 101]⟩ y) k = getV x k := fun k hk => put_other h.wf hk y
  have hp : ∀ k ∈ plainL, okKey (putV x ⟨#[109, 111, 114, 101]⟩ y) k = true := fun k hk => by
    have hne : k ≠ ⟨#[109, 111, 114, 101]⟩ := by
      unfold plainL at hk
      simp only [List.mem_cons, List.not_mem_nil, or_false] at hk
      rcases hk with rfl | rfl | rfl | rfl | rfl | rfl <;> decide
    have h1 := h.ok (plainL_ne k hk).1 (plainL_ne k hk).2
    unfold okKey atV at h1 ⊢
    rw [hg k hne]
    exact h1
  have e := h.valid uok_user
  unfold validV at e ⊢
  unfold tableV at e ⊢
  rw [List.all_eq_true.2 hp, hg bUsers (by decide), hg bEvents (by decide), decide_eq_true hw.obj]
  rw [decide_eq_true h.wf.obj] at e
  simp only [Bool.and_eq_true] at e ⊢
  exact ⟨⟨⟨trivial, trivial⟩, e.1.2⟩, e.2⟩
theorem valid_calls {w : World} {ok : Nat → Prop} {x : V} {v : Value} (h : VF w ok x v) (hf : Fit x) (hT : Tabs w) : Calls Tryd.prog 16 #[v] w (EndI w (.bool (validV x uokB))) := valid_any h hf hT uokB (uok_any hf w)
set_option maxRecDepth 100000 in
set_option maxHeartbeats 1000000 in
theorem val_go (a0 : Option Addr) (cap0 : Nat) (l : List UInt8) (k : Nat) (hk : k ≤ 255) (W : World) (hl : l.length ≤ 140737488351232) (y : Bytes8 W a0 l) (hT : Tabs W) :
    Calls Tryd.prog 5 #[.slice a0 l.length cap0, .int .u8 (k : Int)] W (EndI W (.bool true)) := by
  have HL := Lib.hid (levels_any (cap := cap0) y hl)
  have hLev := Lib.hid (levels_lev l)
  have hFit := Lib.hid (levels_fit l)
  have hSub := Lib.hid (levels_subs l)
  have HT := Lib.hid hT
  obtain ⟨x, hx⟩ : ∃ x, levelsV l = x := ⟨_, rfl⟩
  rw [hx] at HL hLev hFit hSub
  obtain ⟨n, hn⟩ : ∃ n, l.length = n := ⟨_, rfl⟩
  rw [hn] at HL ⊢
  have hk8 : k % 8 < 8 := Nat.mod_lt _ (by decide)
  have hm : (k : Int).tmod 8 = ((k % 8 : Nat) : Int) := by rw [Int.tmod_eq_emod_of_nonneg (by omega)]; omega
  clear hT hx hn hl y
  go_enter Tryd.func5, Tryd.ntmps5
  go_wp2_with fail
  refine HL.out.mono ?_
  clear HL
  rintro e w1 ⟨v, rfl, hv, hb⟩
  obtain ⟨E3, e3, E4, e4, rfl, _⟩ := hv.open_
  replace HT := Lib.hid (HT.out.below hb (Nat.le_refl _))
  have HBW := Lib.hid hb
  clear hb
  go_wp2_with fail
  rw [key8_tab _ hk8]
  obtain ⟨key, hkey⟩ : ∃ key, key8 (k % 8) = key := ⟨_, rfl⟩
  have hks : key.size ≤ 100000 := hkey ▸ Nat.le_trans (key8_size _) (by decide)
  have hkin : Hid (key ∈ plainL ∨ key = bUsers ∨ key = bEvents) := Lib.hid (hkey ▸ key8_is _)
  rw [hkey]
  clear hkey
  have HB5 := Lib.hid (BoxOf.new hv)
  have hb := (Below.refl w1.heap.size w1).alloc (Nat.le_refl _) (.cells #[.int .i64 x.f0, .int .i64 x.f1, .string x.f2, .slice E3 x.f3.length e3, .slice E4 x.f4.length e4] 27)
  replace HB5 := Lib.hid (HB5.out.below ((Below.refl _ _).alloc (Nat.le_refl _) (.cells key8Cells 9)))
  replace hb := hb.alloc (by simp) (.cells key8Cells 9)
  rw [show #[Value.string bBan, .string bEventsDefault, .string bInviteK, .string bKick, .string bStateDefault, .string bUsersDefault, .string bUsers, .string bEvents] = key8Cells from rfl]
  generalize hW : (w1.alloc (.cells #[.int .i64 x.f0, .int .i64 x.f1, .string x.f2, .slice E3 x.f3.length e3, .slice E4 x.f4.length e4] 27)).alloc (.cells key8Cells 9) = W2 at HB5 hb ⊢
  clear hW hv
  replace HT := Lib.hid (HT.out.below hb (Nat.le_refl _))
  replace HBW := Lib.hid (HBW.out.trans (Below.mono hb HBW.out.size))
  clear hb
  obtain ⟨z8, hz⟩ : ∃ z8, putV x key (strV ⟨#[53, 48]⟩) = z8 := ⟨_, rfl⟩
  have HZ8 := Lib.hid hz
  clear hz
  obtain ⟨A5, a5, C5, c5, hc5, hv5⟩ := HB5.out.readD
  refine region_box (L := 5) (i8 := 4) (i27 := 3) (d8 := 8) (d27 := 27) (z := z8) (pks := [.val (.agg #[.int .i64 x.f0, .int .i64 x.f1, .string x.f2, .slice A5 x.f3.length a5, .slice C5 x.f4.length c5]), .val (.string key), .nv (strV ⟨#[53, 48]⟩), .nv z8, .box0]) (by kernel_rfl) (by kernel_rfl) rfl rfl (by decide) (by decide) rfl rfl rfl rfl rfl rfl ?_ ?_
  · intro i hi
    have : i = 0 ∨ i = 1 ∨ i = 2 ∨ i = 3 ∨ i = 4 := by omega
    rcases this with rfl | rfl | rfl | rfl | rfl
    · exact mk_load rfl rfl rfl rfl (by kernel_rfl) hc5 ⟨rfl, rfl, rfl, rfl, rfl⟩ rfl
    · exact mk_move rfl rfl rfl rfl (by kernel_rfl) rfl
    · refine mk_call rfl rfl rfl eg21 (fun own a W hB hO hK hD => ?_)
      refine (str_any ⟨#[53, 48]⟩ (fun k => k < W.heap.size ∧ k ∉ own) W).mono ?_
      rintro e W' ⟨v, rfl, hv, hb⟩
      exact ⟨v, rfl, NV.made hv hO hb, hb⟩
    · refine mk_call rfl rfl rfl eg18 (fun own a W hB hO hK hD => ?_)
      have g0 : a.tmps.getD 24 undef = _ := hD 0 24 (by kernel_rfl) rfl
      have g1 : a.tmps.getD 25 undef = _ := hD 1 25 (by kernel_rfl) rfl
      have g2 := hD 2 26 (by kernel_rfl) rfl
      show Calls _ _ #[a.tmps.getD 24 undef, a.tmps.getD 25 undef, a.tmps.getD 26 undef] W _
      rw [g0, g1]
      refine (put_any (ok := fun k => k < W.heap.size ∧ k ∉ own) (NV.old hv5 hB hO) hFit.out.1 g2 key hks).mono ?_
      rintro e W' ⟨v, rfl, hv, hb⟩
      rw [HZ8.out] at hv
      exact ⟨v, rfl, NV.made hv hO hb, hb⟩
    · exact mk_box rfl rfl rfl rfl
  intro vs p8 W8 hvl e8 hb hp0 hlt hBn
  obtain ⟨u8_0, t0, rfl, hq0⟩ := len_cons hvl
  obtain ⟨u8_1, t1, rfl, hq1⟩ := len_cons hq0
  obtain ⟨u8_2, t2, rfl, hq2⟩ := len_cons hq1
  obtain ⟨u8_3, t3, rfl, hq3⟩ := len_cons hq2
  obtain ⟨u8_4, t4, rfl, hq4⟩ := len_cons hq3
  obtain ⟨u8_5, t5, rfl, hq5⟩ := len_cons hq4
  obtain rfl := List.length_eq_zero_iff.1 hq5
  have e8 : u8_4 = .pointer (some ⟨p8, 0, none⟩) := e8
  subst e8
  simp only [dstsOf, List.map_cons, List.map_nil, fillT, List.setIfInBounds_toArray, List.set_cons_zero, List.set_cons_succ]
  have HB8 := Lib.hid hBn.any
  clear hBn hlt hp0 hvl
  clear hc5 hv5
  replace HT := Lib.hid (HT.out.below hb (Nat.le_refl _))
  replace HBW := Lib.hid (HBW.out.trans (Below.mono hb HBW.out.size))
  replace HB5 := Lib.hid (HB5.out.below hb)
  clear hb
  obtain ⟨A5, a5, C5, c5, hc5, hv5⟩ := HB5.out.read
  have hget := rget_any hv5 bUsers
  obtain ⟨d0, d1, d2, d3, d4⟩ := hc5
  clear hv5
  go_wp2_with fail
  refine hget.mono ?_
  clear hget d0 d1 d2 d3 d4
  rintro e w5 ⟨v, rfl, hv, hb⟩
  have HFu := Lib.hid (getD_fitk hSub.out.1)
  obtain ⟨u, hu⟩ : ∃ u, (getV x bUsers).getD zV = u := ⟨_, rfl⟩
  rw [hu] at hv HFu
  have HUu := Lib.hid hu
  clear hu
  obtain ⟨E3, e3, E4, e4, rfl, _⟩ := hv.open_
  replace HT := Lib.hid (HT.out.below hb (Nat.le_refl _))
  replace HBW := Lib.hid (HBW.out.trans (Below.mono hb HBW.out.size))
  replace HB5 := Lib.hid (HB5.out.below hb)
  replace HB8 := Lib.hid (HB8.out.below hb)
  clear hb
  go_wp2_with fail
  have HB9 := Lib.hid (BoxOf.new hv)
  have hb := (Below.refl w5.heap.size w5).alloc (Nat.le_refl _) (.cells #[.int .i64 u.f0, .int .i64 u.f1, .string u.f2, .slice E3 u.f3.length e3, .slice E4 u.f4.length e4] 27)
  generalize hW : w5.alloc (.cells #[.int .i64 u.f0, .int .i64 u.f1, .string u.f2, .slice E3 u.f3.length e3, .slice E4 u.f4.length e4] 27) = W9 at HB9 hb ⊢
  clear hW hv
  replace HT := Lib.hid (HT.out.below hb (Nat.le_refl _))
  replace HBW := Lib.hid (HBW.out.trans (Below.mono hb HBW.out.size))
  replace HB5 := Lib.hid (HB5.out.below hb)
  replace HB8 := Lib.hid (HB8.out.below hb)
  clear hb
  obtain ⟨y6, hy⟩ : ∃ y, putV u ⟨#[97, 58, 115]⟩ (numV 1) = y := ⟨_, rfl⟩
  have HY6 := Lib.hid hy
  clear hy
  obtain ⟨z11, hz⟩ : ∃ z, putV x bUsers y6 = z := ⟨_, rfl⟩
  have HZ11 := Lib.hid hz
  clear hz
  obtain ⟨A5, a5, C5, c5, hc5, hv5⟩ := HB5.out.readD
  obtain ⟨A9, a9, C9, c9, hc9, hv9⟩ := HB9.out.readD
  refine region_box (L := 6) (i8 := 5) (i27 := 4) (d8 := 11) (d27 := 37) (z := z11) (pks := [.val (.agg #[.int .i64 x.f0, .int .i64 x.f1, .string x.f2, .slice A5 x.f3.length a5, .slice C5 x.f4.length c5]), .val (.agg #[.int .i64 u.f0, .int .i64 u.f1, .string u.f2, .slice A9 u.f3.length a9, .slice C9 u.f4.length c9]), .nv (numV 1), .nv y6, .nv z11, .box0]) (by kernel_rfl) (by kernel_rfl) rfl rfl (by decide) (by decide) rfl rfl rfl rfl rfl rfl ?_ ?_
  · intro i hi
    have : i = 0 ∨ i = 1 ∨ i = 2 ∨ i = 3 ∨ i = 4 ∨ i = 5 := by omega
    rcases this with rfl | rfl | rfl | rfl | rfl | rfl
    · exact mk_load rfl rfl rfl rfl (by kernel_rfl) hc5 ⟨rfl, rfl, rfl, rfl, rfl⟩ rfl
    · exact mk_load rfl rfl rfl rfl (by kernel_rfl) hc9 ⟨rfl, rfl, rfl, rfl, rfl⟩ rfl
    · refine mk_call rfl rfl rfl eg19 (fun own a W hB hO hK hD => ?_)
      refine (num_any 1 (fun k => k < W.heap.size ∧ k ∉ own) W).mono ?_
      rintro e W' ⟨v, rfl, hv, hb⟩
      exact ⟨v, rfl, NV.made hv hO hb, hb⟩
    · refine mk_call rfl rfl rfl eg18 (fun own a W hB hO hK hD => ?_)
      have g1 : a.tmps.getD 34 undef = _ := hD 1 34 (by kernel_rfl) rfl
      have g2 := hD 2 35 (by kernel_rfl) rfl
      show Calls _ _ #[a.tmps.getD 34 undef, .string ⟨#[97, 58, 115]⟩, a.tmps.getD 35 undef] W _
      rw [g1]
      refine (put_any (ok := fun k => k < W.heap.size ∧ k ∉ own) (NV.old hv9 hB hO) HFu.out.1 g2 ⟨#[97, 58, 115]⟩ (by decide)).mono ?_
      rintro e W' ⟨v, rfl, hv, hb⟩
      rw [HY6.out] at hv
      exact ⟨v, rfl, NV.made hv hO hb, hb⟩
    · refine mk_call rfl rfl rfl eg18 (fun own a W hB hO hK hD => ?_)
      have g0 : a.tmps.getD 33 undef = _ := hD 0 33 (by kernel_rfl) rfl
      have g3 := hD 3 36 (by kernel_rfl) rfl
      show Calls _ _ #[a.tmps.getD 33 undef, .string bUsers, a.tmps.getD 36 undef] W _
      rw [g0]
      refine (put_any (ok := fun k => k < W.heap.size ∧ k ∉ own) (NV.old hv5 hB hO) hFit.out.1 g3 bUsers (by decide)).mono ?_
      rintro e W' ⟨v, rfl, hv, hb⟩
      rw [HZ11.out] at hv
      exact ⟨v, rfl, NV.made hv hO hb, hb⟩
    · exact mk_box rfl rfl rfl rfl
  intro vs p11 W11 hvl e8 hb hp0 hlt hBn
  obtain ⟨u11_0, t0, rfl, hq0⟩ := len_cons hvl
  obtain ⟨u11_1, t1, rfl, hq1⟩ := len_cons hq0
  obtain ⟨u11_2, t2, rfl, hq2⟩ := len_cons hq1
  obtain ⟨u11_3, t3, rfl, hq3⟩ := len_cons hq2
  obtain ⟨u11_4, t4, rfl, hq4⟩ := len_cons hq3
  obtain ⟨u11_5, t5, rfl, hq5⟩ := len_cons hq4
  obtain ⟨u11_6, t6, rfl, hq6⟩ := len_cons hq5
  obtain rfl := List.length_eq_zero_iff.1 hq6
  have e8 : u11_5 = .pointer (some ⟨p11, 0, none⟩) := e8
  subst e8
  simp only [dstsOf, List.map_cons, List.map_nil, fillT, List.setIfInBounds_toArray, List.set_cons_zero, List.set_cons_succ]
  have HB11 := Lib.hid hBn.any
  clear hBn hlt hp0 hvl
  clear hc5 hv5
  clear hc9 hv9
  replace HT := Lib.hid (HT.out.below hb (Nat.le_refl _))
  replace HBW := Lib.hid (HBW.out.trans (Below.mono hb HBW.out.size))
  replace HB5 := Lib.hid (HB5.out.below hb)
  replace HB8 := Lib.hid (HB8.out.below hb)
  replace HB9 := Lib.hid (HB9.out.below hb)
  clear hb
  clear HB9
  obtain ⟨A5, a5, C5, c5, hc5, hv5⟩ := HB5.out.read
  have hget := rget_any hv5 bEvents
  obtain ⟨d0, d1, d2, d3, d4⟩ := hc5
  clear hv5
  go_wp2_with fail
  refine hget.mono ?_
  clear hget d0 d1 d2 d3 d4
  rintro e w7 ⟨v, rfl, hv, hb⟩
  have HFe1 := Lib.hid (getD_fitk hSub.out.2)
  obtain ⟨e1, hu⟩ : ∃ u, (getV x bEvents).getD zV = u := ⟨_, rfl⟩
  rw [hu] at hv HFe1
  have HUe1 := Lib.hid hu
  clear hu
  obtain ⟨E3, e3, E4, e4, rfl, _⟩ := hv.open_
  replace HT := Lib.hid (HT.out.below hb (Nat.le_refl _))
  replace HBW := Lib.hid (HBW.out.trans (Below.mono hb HBW.out.size))
  replace HB5 := Lib.hid (HB5.out.below hb)
  replace HB8 := Lib.hid (HB8.out.below hb)
  replace HB11 := Lib.hid (HB11.out.below hb)
  clear hb
  go_wp2_with fail
  have HB12 := Lib.hid (BoxOf.new hv)
  have hb := (Below.refl w7.heap.size w7).alloc (Nat.le_refl _) (.cells #[.int .i64 e1.f0, .int .i64 e1.f1, .string e1.f2, .slice E3 e1.f3.length e3, .slice E4 e1.f4.length e4] 27)
  generalize hW : w7.alloc (.cells #[.int .i64 e1.f0, .int .i64 e1.f1, .string e1.f2, .slice E3 e1.f3.length e3, .slice E4 e1.f4.length e4] 27) = W12 at HB12 hb ⊢
  clear hW hv
  replace HT := Lib.hid (HT.out.below hb (Nat.le_refl _))
  replace HBW := Lib.hid (HBW.out.trans (Below.mono hb HBW.out.size))
  replace HB5 := Lib.hid (HB5.out.below hb)
  replace HB8 := Lib.hid (HB8.out.below hb)
  replace HB11 := Lib.hid (HB11.out.below hb)
  clear hb
  obtain ⟨y8, hy⟩ : ∃ y, putV e1 ⟨#[116]⟩ zV = y := ⟨_, rfl⟩
  have HY8 := Lib.hid hy
  clear hy
  obtain ⟨z14, hz⟩ : ∃ z, putV x bEvents y8 = z := ⟨_, rfl⟩
  have HZ14 := Lib.hid hz
  clear hz
  obtain ⟨A5, a5, C5, c5, hc5, hv5⟩ := HB5.out.readD
  obtain ⟨A12, a12, C12, c12, hc12, hv12⟩ := HB12.out.readD
  refine region_box (L := 6) (i8 := 5) (i27 := 4) (d8 := 14) (d27 := 47) (z := z14) (pks := [.val (.agg #[.int .i64 x.f0, .int .i64 x.f1, .string x.f2, .slice A5 x.f3.length a5, .slice C5 x.f4.length c5]), .val (.agg #[.int .i64 e1.f0, .int .i64 e1.f1, .string e1.f2, .slice A12 e1.f3.length a12, .slice C12 e1.f4.length c12]), .val (.agg #[.int .i64 0, .int .i64 0, .string ⟨#[]⟩, .slice none 0 0, .slice none 0 0]), .nv y8, .nv z14, .box0]) (by kernel_rfl) (by kernel_rfl) rfl rfl (by decide) (by decide) rfl rfl rfl rfl rfl rfl ?_ ?_
  · intro i hi
    have : i = 0 ∨ i = 1 ∨ i = 2 ∨ i = 3 ∨ i = 4 ∨ i = 5 := by omega
    rcases this with rfl | rfl | rfl | rfl | rfl | rfl
    · exact mk_load rfl rfl rfl rfl (by kernel_rfl) hc5 ⟨rfl, rfl, rfl, rfl, rfl⟩ rfl
    · exact mk_load rfl rfl rfl rfl (by kernel_rfl) hc12 ⟨rfl, rfl, rfl, rfl, rfl⟩ rfl
    · exact mk_val rfl rfl (fun a W => by kernel_rfl) rfl
    · refine mk_call rfl rfl rfl eg18 (fun own a W hB hO hK hD => ?_)
      have g1 : a.tmps.getD 44 undef = _ := hD 1 44 (by kernel_rfl) rfl
      have g2 : a.tmps.getD 45 undef = _ := hD 2 45 (by kernel_rfl) rfl
      show Calls _ _ #[a.tmps.getD 44 undef, .string ⟨#[116]⟩, a.tmps.getD 45 undef] W _
      rw [g1, g2]
      refine (put_any (ok := fun k => k < W.heap.size ∧ k ∉ own) (NV.old hv12 hB hO) HFe1.out.1 (VF.zero W _) ⟨#[116]⟩ (by decide)).mono ?_
      rintro e W' ⟨v, rfl, hv, hb⟩
      rw [HY8.out] at hv
      exact ⟨v, rfl, NV.made hv hO hb, hb⟩
    · refine mk_call rfl rfl rfl eg18 (fun own a W hB hO hK hD => ?_)
      have g0 : a.tmps.getD 43 undef = _ := hD 0 43 (by kernel_rfl) rfl
      have g3 := hD 3 46 (by kernel_rfl) rfl
      show Calls _ _ #[a.tmps.getD 43 undef, .string bEvents, a.tmps.getD 46 undef] W _
      rw [g0]
      refine (put_any (ok := fun k => k < W.heap.size ∧ k ∉ own) (NV.old hv5 hB hO) hFit.out.1 g3 bEvents (by decide)).mono ?_
      rintro e W' ⟨v, rfl, hv, hb⟩
      rw [HZ14.out] at hv
      exact ⟨v, rfl, NV.made hv hO hb, hb⟩
    · exact mk_box rfl rfl rfl rfl
  intro vs p14 W14 hvl e8 hb hp0 hlt hBn
  obtain ⟨u14_0, t0, rfl, hq0⟩ := len_cons hvl
  obtain ⟨u14_1, t1, rfl, hq1⟩ := len_cons hq0
  obtain ⟨u14_2, t2, rfl, hq2⟩ := len_cons hq1
  obtain ⟨u14_3, t3, rfl, hq3⟩ := len_cons hq2
  obtain ⟨u14_4, t4, rfl, hq4⟩ := len_cons hq3
  obtain ⟨u14_5, t5, rfl, hq5⟩ := len_cons hq4
  obtain ⟨u14_6, t6, rfl, hq6⟩ := len_cons hq5
  obtain rfl := List.length_eq_zero_iff.1 hq6
  have e8 : u14_5 = .pointer (some ⟨p14, 0, none⟩) := e8
  subst e8
  simp only [dstsOf, List.map_cons, List.map_nil, fillT, List.setIfInBounds_toArray, List.set_cons_zero, List.set_cons_succ]
  have HB14 := Lib.hid hBn.any
  clear hBn hlt hp0 hvl
  clear hc5 hv5
  clear hc12 hv12
  replace HT := Lib.hid (HT.out.below hb (Nat.le_refl _))
  replace HBW := Lib.hid (HBW.out.trans (Below.mono hb HBW.out.size))
  replace HB5 := Lib.hid (HB5.out.below hb)
  replace HB8 := Lib.hid (HB8.out.below hb)
  replace HB11 := Lib.hid (HB11.out.below hb)
  replace HB12 := Lib.hid (HB12.out.below hb)
  clear hb
  clear HB12
  obtain ⟨z15, hz⟩ : ∃ z, putV x ⟨#[109, 111, 114, 101]⟩ (strV ⟨#[120]⟩) = z := ⟨_, rfl⟩
  have HZ15 := Lib.hid hz
  clear hz
  obtain ⟨A5, a5, C5, c5, hc5, hv5⟩ := HB5.out.readD
  go_wp2_with fail
  refine region_box (L := 4) (i8 := 3) (i27 := 2) (d8 := 15) (d27 := 50) (z := z15) (pks := [.val (.agg #[.int .i64 x.f0, .int .i64 x.f1, .string x.f2, .slice A5 x.f3.length a5, .slice C5 x.f4.length c5]), .nv (strV ⟨#[120]⟩), .nv z15, .box0]) (by kernel_rfl) (by kernel_rfl) rfl rfl (by decide) (by decide) rfl rfl rfl rfl rfl rfl ?_ ?_
  · intro i hi
    have : i = 0 ∨ i = 1 ∨ i = 2 ∨ i = 3 := by omega
    rcases this with rfl | rfl | rfl | rfl
    · exact mk_load rfl rfl rfl rfl (by kernel_rfl) hc5 ⟨rfl, rfl, rfl, rfl, rfl⟩ rfl
    · refine mk_call rfl rfl rfl eg21 (fun own a W hB hO hK hD => ?_)
      refine (str_any ⟨#[120]⟩ (fun k => k < W.heap.size ∧ k ∉ own) W).mono ?_
      rintro e W' ⟨v, rfl, hv, hb⟩
      exact ⟨v, rfl, NV.made hv hO hb, hb⟩
    · refine mk_call rfl rfl rfl eg18 (fun own a W hB hO hK hD => ?_)
      have g0 : a.tmps.getD 48 undef = _ := hD 0 48 (by kernel_rfl) rfl
      have g1 := hD 1 49 (by kernel_rfl) rfl
      show Calls _ _ #[a.tmps.getD 48 undef, .string ⟨#[109, 111, 114, 101]⟩, a.tmps.getD 49 undef] W _
      rw [g0]
      refine (put_any (ok := fun k => k < W.heap.size ∧ k ∉ own) (NV.old hv5 hB hO) hFit.out.1 g1 ⟨#[109, 111, 114, 101]⟩ (by decide)).mono ?_
      rintro e W' ⟨v, rfl, hv, hb⟩
      rw [HZ15.out] at hv
      exact ⟨v, rfl, NV.made hv hO hb, hb⟩
    · exact mk_box rfl rfl rfl rfl
  intro vs p15 W15 hvl e8 hb hp0 hlt hBn
  obtain ⟨u15_0, t0, rfl, hq0⟩ := len_cons hvl
  obtain ⟨u15_1, t1, rfl, hq1⟩ := len_cons hq0
  obtain ⟨u15_2, t2, rfl, hq2⟩ := len_cons hq1
  obtain ⟨u15_3, t3, rfl, hq3⟩ := len_cons hq2
  obtain ⟨u15_4, t4, rfl, hq4⟩ := len_cons hq3
  obtain rfl := List.length_eq_zero_iff.1 hq4
  have e8 : u15_3 = .pointer (some ⟨p15, 0, none⟩) := e8
  subst e8
  simp only [dstsOf, List.map_cons, List.map_nil, fillT, List.setIfInBounds_toArray, List.set_cons_zero, List.set_cons_succ]
  have HB15 := Lib.hid hBn.any
  clear hBn hlt hp0 hvl
  clear hc5 hv5
  replace HT := Lib.hid (HT.out.below hb (Nat.le_refl _))
  replace HBW := Lib.hid (HBW.out.trans (Below.mono hb HBW.out.size))
  replace HB5 := Lib.hid (HB5.out.below hb)
  replace HB8 := Lib.hid (HB8.out.below hb)
  replace HB11 := Lib.hid (HB11.out.below hb)
  replace HB14 := Lib.hid (HB14.out.below hb)
  clear hb
  go_wp2_with fail
  refine (known_any _ HT.out).mono ?_
  rintro e w_1 ⟨rfl, hb⟩
  replace HT := Lib.hid (HT.out.below hb (Nat.le_refl _))
  replace HBW := Lib.hid (HBW.out.trans (Below.mono hb HBW.out.size))
  replace HB5 := Lib.hid (HB5.out.below hb)
  replace HB8 := Lib.hid (HB8.out.below hb)
  replace HB11 := Lib.hid (HB11.out.below hb)
  replace HB14 := Lib.hid (HB14.out.below hb)
  replace HB15 := Lib.hid (HB15.out.below hb)
  clear hb
  obtain ⟨A5, a5, C5, c5, hc5, hv5⟩ := HB5.out.read
  have hval := valid_calls hv5 hFit.out.1 HT.out
  rw [hLev.out.valid uok_user] at hval
  obtain ⟨d0, d1, d2, d3, d4⟩ := hc5
  clear hv5
  go_wp2_with fail
  refine hval.mono ?_
  clear hval d0 d1 d2 d3 d4
  rintro e w_2 ⟨rfl, hb⟩
  replace HT := Lib.hid (HT.out.below hb (Nat.le_refl _))
  replace HBW := Lib.hid (HBW.out.trans (Below.mono hb HBW.out.size))
  replace HB5 := Lib.hid (HB5.out.below hb)
  replace HB8 := Lib.hid (HB8.out.below hb)
  replace HB11 := Lib.hid (HB11.out.below hb)
  replace HB14 := Lib.hid (HB14.out.below hb)
  replace HB15 := Lib.hid (HB15.out.below hb)
  clear hb
  obtain ⟨A8, a8, C8, c8, hc8, hv8⟩ := HB8.out.read
  have hval := valid_calls hv8 (by rw [← HZ8.out]; exact (putV_fit hFit.out (by omega) hks (strV_fit (by decide))).1) HT.out
  rw [show validV z8 uokB = false by rw [← HZ8.out]; exact val_bad hLev.out hkin.out _] at hval
  obtain ⟨d0, d1, d2, d3, d4⟩ := hc8
  clear hv8
  go_wp2_with fail
  refine hval.mono ?_
  clear hval d0 d1 d2 d3 d4
  rintro e w_3 ⟨rfl, hb⟩
  replace HT := Lib.hid (HT.out.below hb (Nat.le_refl _))
  replace HBW := Lib.hid (HBW.out.trans (Below.mono hb HBW.out.size))
  replace HB5 := Lib.hid (HB5.out.below hb)
  replace HB8 := Lib.hid (HB8.out.below hb)
  replace HB11 := Lib.hid (HB11.out.below hb)
  replace HB14 := Lib.hid (HB14.out.below hb)
  replace HB15 := Lib.hid (HB15.out.below hb)
  clear hb
  obtain ⟨A11, a11, C11, c11, hc11, hv11⟩ := HB11.out.read
  have hval := valid_calls hv11 (by rw [← HZ11.out]; exact (putV_fit hFit.out (by omega) (by decide) (by rw [← HY6.out]; exact (putV_fit HFu.out (by omega) (by decide) (numV_fit (by decide) (by decide))).1)).1) HT.out
  rw [show validV z11 uokB = false by rw [← HZ11.out, ← HY6.out, ← HUu.out]; exact val_other hLev.out] at hval
  obtain ⟨d0, d1, d2, d3, d4⟩ := hc11
  clear hv11
  go_wp2_with fail
  refine hval.mono ?_
  clear hval d0 d1 d2 d3 d4
  rintro e w_4 ⟨rfl, hb⟩
  replace HT := Lib.hid (HT.out.below hb (Nat.le_refl _))
  replace HBW := Lib.hid (HBW.out.trans (Below.mono hb HBW.out.size))
  replace HB5 := Lib.hid (HB5.out.below hb)
  replace HB8 := Lib.hid (HB8.out.below hb)
  replace HB11 := Lib.hid (HB11.out.below hb)
  replace HB14 := Lib.hid (HB14.out.below hb)
  replace HB15 := Lib.hid (HB15.out.below hb)
  clear hb
  obtain ⟨A14, a14, C14, c14, hc14, hv14⟩ := HB14.out.read
  have hval := valid_calls hv14 (by rw [← HZ14.out]; exact (putV_fit hFit.out (by omega) (by decide) (by rw [← HY8.out]; exact (putV_fit HFe1.out (by omega) (by decide) Fit.zero).1)).1) HT.out
  rw [show validV z14 uokB = false by rw [← HZ14.out, ← HY8.out, ← HUe1.out]; exact val_third hLev.out] at hval
  obtain ⟨d0, d1, d2, d3, d4⟩ := hc14
  clear hv14
  go_wp2_with fail
  refine hval.mono ?_
  clear hval d0 d1 d2 d3 d4
  rintro e w_5 ⟨rfl, hb⟩
  replace HT := Lib.hid (HT.out.below hb (Nat.le_refl _))
  replace HBW := Lib.hid (HBW.out.trans (Below.mono hb HBW.out.size))
  replace HB5 := Lib.hid (HB5.out.below hb)
  replace HB8 := Lib.hid (HB8.out.below hb)
  replace HB11 := Lib.hid (HB11.out.below hb)
  replace HB14 := Lib.hid (HB14.out.below hb)
  replace HB15 := Lib.hid (HB15.out.below hb)
  clear hb
  obtain ⟨A15, a15, C15, c15, hc15, hv15⟩ := HB15.out.read
  have hval := valid_calls hv15 (by rw [← HZ15.out]; exact (putV_fit hFit.out (by omega) (by decide) (strV_fit (by decide))).1) HT.out
  rw [show validV z15 uokB = true by rw [← HZ15.out]; exact val_more hLev.out _] at hval
  obtain ⟨d0, d1, d2, d3, d4⟩ := hc15
  clear hv15
  go_wp2_with fail
  refine hval.mono ?_
  clear hval d0 d1 d2 d3 d4
  rintro e w_6 ⟨rfl, hb⟩
  replace HT := Lib.hid (HT.out.below hb (Nat.le_refl _))
  replace HBW := Lib.hid (HBW.out.trans (Below.mono hb HBW.out.size))
  replace HB5 := Lib.hid (HB5.out.below hb)
  replace HB8 := Lib.hid (HB8.out.below hb)
  replace HB11 := Lib.hid (HB11.out.below hb)
  replace HB14 := Lib.hid (HB14.out.below hb)
  replace HB15 := Lib.hid (HB15.out.below hb)
  clear hb
  go_wp2_with fail
  go_ret
  exact ⟨rfl, HBW.out⟩
set_option maxRecDepth 100000 in
theorem powerValid_walk (a0 : Option Addr) (len0 cap0 : Nat) (z0 : List Int) (a1 : Int) (W : World)
    (x0 : z0.length = len0) (y0 : RowAt W a0 (z0.map (.int .u8))) (u0 : ∀ z ∈ z0, (Lit.int .u8 z).wf = true) (b0 : len0 * 1 ≤ 140737488351232) (c0 : len0 ≤ cap0) (m0 : cap0 ≤ maxLen) (u1 : (Lit.int .u8 a1).wf = true) (hT : Tabs W) :
    Calls Tryd.prog 5 #[.slice a0 len0 cap0, .int .u8 a1] W fun e w' => e = .returned (.bool true) ∧ Below W.heap.size W w' := by
  obtain ⟨l, hl, hy⟩ := bytes8_row y0 u0
  obtain ⟨k, rfl, hk⟩ := u8_int u1
  have h := val_go a0 cap0 l k hk W (by omega) hy hT
  rw [hl, x0] at h
  exact h
end Go.Proofs.YtkdicgendcdooaaDoor

/-
  The row of the law PowerValid: whatever the input, it answers true and leaves its arguments as they were; out of its walk.
-/
namespace Go.Proofs.YtkdicgendcdooaaDoor.powerValid
open Go.ChangeShapes Go.WideShapes Go.ChangeAt Go.RowKit
open Go.ChangeMaps (open_string shut_string)
theorem own : ownKnob Tryd.prog.godebug = none := by kernel_rfl
theorem laidOut : laidOutB Tryd.prog = true := by kernel_rfl
set_option maxRecDepth 100000 in
theorem lifted (os : Os) (started : os.Started) (H : Type) (enc : TypeId × Value → H) :
    ReturnsInHanded {} Tryd.checked os 5 .any (fun w args => (Rows.powerValidSpec.pre enc Tryd.prog Tryd.f5 Rows.powerValidRow.domain false w args ∧ laidMetH Tryd.prog Rows.powerValidRow.laid w) ∧ sizedMet enc Tryd.prog Tryd.f5 (OpenSpec.ofChange Rows.powerValidSpec) false w args)
      (Rows.powerValidSpec.post enc Tryd.prog Tryd.f5 false true false false) := by
  refine returnsInHanded_of_change_and (C := Tryd.checked) (X := fun w _ => laidMetH Tryd.prog Rows.powerValidRow.laid w) (fun _ _ _ hh h => h.of_heap hh) own started (by kernel_rfl) Tryd.func5
    (ChangeSpec.witness_shaped (enc := enc) (C := Tryd.checked) (os := os) (X := fun w _ => laidMetH Tryd.prog Rows.powerValidRow.laid w) false (World.laidAll Tryd.prog os Rows.powerValidRow.laid) #[.slice none 0 0, .int .u8 0] 8 (World.laidAll_os _ _ _)
      (World.shaped_of_ZipB (by kernel_rfl) (by kernel_rfl)) (by kernel_rfl) (by kernel_rfl) (by kernel_rfl)
      (by rw [MakeChecks.laidMetH_plain _ _ _ (by kernel_rfl)]; exact laidMet_laidAll _ (by kernel_rfl) (by kernel_rfl))) ?_
  intro W base args ds gs before hval0 hW _ hsz0 hL _
  have hsz : (DataW.weightsEach Tryd.prog (Tryd.f5.params.toList ++ Rows.powerValidSpec.plain.varTypes Tryd.prog) (ds ++ gs)).all (· ≤ reachBytes) = true := hsz0
  have hval : ∀ (j : Nat) t v, Tryd.f5.params[j]? = some t → args[j]? = some v → Value.okWide Tryd.prog W .any base t v := hval0
  have hW' := hW
  obtain ⟨p, q, hA0, hV, rfl, hfz, hnd⟩ := hW
  have hA : DataW.TrodAll enc Tryd.prog W 0 (fun _ => true) true Tryd.f5.params.toList args.toList ds p := hA0
  rw [Tryd.params5] at hA hval hsz
  obtain ⟨v0, vs0, d0, ds0, p0, q0, hargs, rfl, rfl, h0, r0⟩ := trodAll_cons hA
  obtain ⟨v1, vs1, d1, ds1, p1, q1, rfl, rfl, rfl, h1, r1⟩ := trodAll_cons r0
  obtain ⟨rfl, rfl, rfl⟩ := trodAll_nil r1
  obtain rfl : args = #[v0, v1] := by cases args; simp_all
  obtain ⟨rfl, rfl⟩ := trodVars_none hV
  obtain ⟨a0, len0, cap0, rfl⟩ := okWide_slice Tryd.underlying22 (hval 0 22 v0 rfl rfl)
  have k0 := h0
  have lt0 : ∀ x ∈ p0, x.block < W.heap.size := by obtain ⟨m, hm⟩ := k0; exact DataW.trod_lt m _ _ _ hm
  obtain ⟨z0, x0, y0, u0, b0, c0, m0⟩ := open_nums hsz (j := 0) (t := 22) rfl rfl Tryd.underlying22 Tryd.underlying5 (by kernel_rfl) (B := 1) (by kernel_rfl) h0
  obtain ⟨a1, rfl, rfl, rfl, w1⟩ := open_int Tryd.underlying5 (hval 1 5 v1 rfl rfl) h1
  have hLF := tabs_laid hL
  refine (powerValid_walk a0 len0 cap0 z0 a1 W x0 y0 u0 b0 c0 m0 w1 hLF).mono fun e W' ⟨he, bel⟩ => ?_
  subst he
  exact ⟨_, rfl, _, _, _, [], _, [], hW', trodAll_mk1 (shut_bool Tryd.underlying4 _), (trodAll_cons_mk (Below.trod laidOut (by kernel_rfl) (of_decide_eq_true (by kernel_rfl)) k0 bel lt0) (trodAll_cons_mk (shut_int Tryd.underlying5 w1) trodAll_mk0)), rfl, bel.frame _, fun h => by cases h⟩
theorem over : Rows.powerValidRow.holds Tryd.pinned (OpenSpec.ofChange Rows.powerValidSpec) :=
  OpenClaim.holds_of_wide 5 Tryd.f5 rfl rfl rfl rfl rfl rfl rfl ⟨rfl, rfl, rfl, rfl, rfl⟩ rfl rfl rfl rfl rfl (by kernel_rfl) Tryd.func5 (by kernel_rfl)
    (of_decide_eq_true (by kernel_rfl)) (by unfold Func.isWrapper; first | (rw [if_pos (by decide +kernel)]; kernel_rfl) | (rw [if_neg (by decide +kernel)]; exact ⟨rfl, rfl⟩))
    (fun os started H enc _ => lifted os started H enc)
theorem card : Rows.PowerValidCardSaid :=
  Claim7.holds_tied_plain_at .later [] [.listed, .data] true (true, "4f1c08a675811627051cff13577676a97a6e49129b751d86a50caffb64183432") false over (fun _ h => by cases h) (by kernel_rfl) (fun _ h => by cases h) powerValid_row_tie rfl ⟨rfl, rfl⟩ (by kernel_rfl) rfl
    (fun f fn hf hfn => by
      obtain rfl : f = 5 := Option.some.inj ((show Tryd.prog.funcNamed "heliast/heliastlaw14.PowerValid" = some 5 by kernel_rfl).symm.trans hf) |>.symm
      obtain rfl : fn = Tryd.f5 := (Option.some.inj (Tryd.func5.symm.trans hfn)).symm
      exact ⟨by kernel_rfl, fun j t ht => by
        rw [Tryd.params5] at ht
        have hm : t ∈ [22, 5] := by simpa using Array.mem_of_getElem? ht
        have hall : ([22, 5].all fun u => !Tryd.prog.wantsStandIn u) = true := by kernel_rfl
        exact (show Tryd.prog.wantsStandIn t = false by simpa using List.all_eq_true.1 hall t hm)⟩)
    (by kernel_rfl)
end Go.Proofs.YtkdicgendcdooaaDoor.powerValid
namespace Go.Proofs.YtkdicgendcdooaaDoor
/-- The row, under a short name. -/
theorem powerValid_holds : Rows.PowerValidCardSaid := powerValid.card
#print axioms powerValid_holds
end Go.Proofs.YtkdicgendcdooaaDoor

