/-
  Texts of this session, merged in build order: Reg, Reg2, RCut, PNamL, PNamed, RPowerNamed.
-/
import Derived.Test.YtkdicgendcdooaaDoorZC0
import Derived.Orders
import Derived.RegionTactic
import Derived.BigCall
import Derived.Test.YtkdicgendcdooaaDoorZC1
import Derived.Test.YtkdicgendcdooaaDoorRows
import Derived.Test.YtkdicgendcdooaaDoorCards
import Derived.Test.YtkdicgendcdooaaDoorTie
import Derived.LaidMore
import Derived.Lay
import Derived.SevenTiedAt
import Derived.Stop.Joined
set_option linter.unusedVariables false
set_option linter.unusedSimpArgs false
/-
  A region that draws its order and whose operations each make a value (calls, loads, moves, allocations), the last one resting on all others: each operation shown once, in whatever order they come.
-/
namespace Go.Proofs.YtkdicgendcdooaaDoor
open Go.RowKit Go.Lib
set_option linter.unusedSimpArgs false
set_option linter.unusedVariables false
section
variable {P : Program} {ops : Array Oper} {Q : Exit → Act → World → Prop} {md : Region.Mode}
theorem cnt_list : ∀ (l : List Bool) (i : Nat), l[i]? = some false → ((l.set i true).filter id).length = (l.filter id).length + 1
  | [], i, h => by simp at h
  | c :: l, 0, h => by
    obtain rfl : c = false := by simpa using h
    simp
  | c :: l, i + 1, h => by
    have := cnt_list l i (by simpa using h)
    cases c <;> simp [this]
theorem cnt_set (listed : Array Bool) (i : Nat) (h : listed.getD i true = false) : ((listed.setIfInBounds i true).toList.filter id).length = (listed.toList.filter id).length + 1 := by
  rw [Array.toList_setIfInBounds]
  refine cnt_list _ _ ?_
  by_cases hi : i < listed.size
  · rw [Array.getElem?_toList, Array.getElem?_eq_getElem hi]
    simpa [Array.getD, hi] using h
  · simp [Array.getD, hi] at h
/-- In whatever order: what each operation keeps holds behind all of them. -/
theorem any_inv (I : Array Bool → Act → World → Prop)
    (hstep : ∀ listed a w i, I listed a w → i ∈ Region.ready md ops listed → wpOp P ops Q i (fun a' w' => I (listed.setIfInBounds i true) a' w') a w)
    (hend : ∀ listed a w, I listed a w → Region.ready md ops listed = [] → Q .normal a w)
    (hlast : ∀ listed a w, I listed a w → ops.size ≤ (listed.toList.filter id).length → Region.ready md ops listed = []) :
    ∀ (fuel : Nat) (listed : Array Bool) (a : Act) (w : World), ops.size ≤ fuel + (listed.toList.filter id).length → I listed a w → wpAny P md ops Q fuel listed a w
  | 0, listed, a, w, hf, hI => ⟨hlast _ _ _ hI (by omega), hend _ _ _ hI (hlast _ _ _ hI (by omega))⟩
  | fuel + 1, listed, a, w, hf, hI => ⟨fun h => hend _ _ _ hI h, fun i hi =>
      wpOp_mono (fun a' w' h => any_inv I hstep hend hlast fuel _ a' w' (by rw [cnt_set _ _ (mem_ready.1 hi).1]; omega) h) (hstep _ _ _ _ hI hi)⟩
def dstOf (ops : Array Oper) (i : Nat) : Option Nat := (ops[i]?).bind (·.dst)
def dstsOf (ops : Array Oper) : List (Option Nat) := ops.toList.map (·.dst)
def bindsOn (md : Region.Mode) (ops : Array Oper) (i j : Nat) : Bool := ((ops[i]?).map (·.after.any fun e => Region.binds md e && e.on == j)).getD false
def fillT : List (Option Nat) → List Value → Array Value → Array Value
  | some d :: ds, v :: vs, t => (fillT ds vs t).setIfInBounds d v
  | none :: ds, _ :: vs, t => fillT ds vs t
  | _, _, t => t
def apartD : List (Option Nat) → Bool
  | some d :: ds => !ds.contains (some d) && apartD ds
  | none :: ds => apartD ds
  | [] => true
def regOK (md : Region.Mode) (ops : Array Oper) (n L : Nat) : Bool :=
  ops.size == L + 1 && apartD (dstsOf ops) && (dstsOf ops).all (fun o => match o with | some d => decide (d < n) | none => true)
    && (List.range ops.size).all (fun i => ((ops[i]?).map (·.after.all fun e => !Region.binds md e || decide (e.on < i))).getD true)
    && (List.range L).all (fun j => bindsOn md ops L j)
theorem fillT_size : ∀ (ds : List (Option Nat)) (vs : List Value) (t : Array Value), (fillT ds vs t).size = t.size
  | some d :: ds, v :: vs, t => by simp [fillT, fillT_size ds vs t]
  | none :: ds, _ :: vs, t => by simp [fillT, fillT_size ds vs t]
  | [], _, t => rfl
  | some _ :: _, [], t => rfl
  | none :: _, [], t => rfl
theorem fillT_keep : ∀ (ds : List (Option Nat)) (vs : List Value) (t : Array Value) (d : Nat), some d ∉ ds → (fillT ds vs t).getD d undef = t.getD d undef
  | some e :: ds, v :: vs, t, d, h => by
    have h1 : d ≠ e := fun he => h (by rw [he]; exact List.mem_cons_self)
    have h2 := fillT_keep ds vs t d (fun hm => h (List.mem_cons_of_mem _ hm))
    rw [fillT]
    simp only [Array.getD_eq_getD_getElem?] at h2 ⊢
    rw [Array.getElem?_setIfInBounds_ne (fun he => h1 he.symm)]
    exact h2
  | none :: ds, _ :: vs, t, d, h => fillT_keep ds vs t d (fun hm => h (List.mem_cons_of_mem _ hm))
  | [], _, t, _, _ => rfl
  | some _ :: _, [], t, _, _ => rfl
  | none :: _, [], t, _, _ => rfl
theorem fillT_get : ∀ (ds : List (Option Nat)) (vs : List Value) (t : Array Value) (i d : Nat), apartD ds = true → ds[i]? = some (some d) → vs.length = ds.length → d < t.size → (fillT ds vs t).getD d undef = vs.getD i undef
  | some e :: ds, v :: vs, t, 0, d, _, hi, _, hd => by
    obtain rfl : e = d := by simpa using hi
    rw [fillT]
    simp [Array.getD_eq_getD_getElem?, fillT_size, hd]
  | some e :: ds, v :: vs, t, i + 1, d, ha, hi, hl, hd => by
    have hi' : ds[i]? = some (some d) := by simpa using hi
    have h1 : e ≠ d := fun he => by
      have hm : some d ∈ ds := List.mem_of_getElem? hi'
      simp [apartD, he, hm] at ha
    rw [fillT]
    have h2 := fillT_get ds vs t i d (by simp [apartD] at ha; exact ha.2) hi' (by simpa using hl) hd
    simp only [Array.getD_eq_getD_getElem?] at h2 ⊢
    rw [Array.getElem?_setIfInBounds_ne h1, h2]
    simp
  | none :: ds, v :: vs, t, 0, d, _, hi, _, _ => by simp at hi
  | none :: ds, v :: vs, t, i + 1, d, ha, hi, hl, hd => by
    rw [fillT, fillT_get ds vs t i d (by simpa [apartD] using ha) (by simpa using hi) (by simpa using hl) hd]
    simp
  | [], _, t, i, d, _, hi, _, _ => by simp at hi
  | some _ :: _, [], _, _, _, _, _, hl, _ => by simp at hl
  | none :: _, [], _, _, _, _, _, hl, _ => by simp at hl
theorem fillT_set : ∀ (ds : List (Option Nat)) (vs : List Value) (t : Array Value) (i d : Nat) (v : Value), apartD ds = true → ds[i]? = some (some d) → vs.length = ds.length → (fillT ds vs t).setIfInBounds d v = fillT ds (vs.set i v) t
  | some e :: ds, u :: vs, t, 0, d, v, _, hi, _ => by
    obtain rfl : e = d := by simpa using hi
    rw [List.set_cons_zero, fillT, fillT]
    simp
  | some e :: ds, u :: vs, t, i + 1, d, v, ha, hi, hl => by
    have hi' : ds[i]? = some (some d) := by simpa using hi
    have h1 : e ≠ d := fun he => by
      have hm : some d ∈ ds := List.mem_of_getElem? hi'
      simp [apartD, he, hm] at ha
    rw [List.set_cons_succ, fillT, fillT, ← fillT_set ds vs t i d v (by simp [apartD] at ha; exact ha.2) hi' (by simpa using hl)]
    exact Array.setIfInBounds_comm _ _ h1
  | none :: ds, u :: vs, t, 0, d, v, _, hi, _ => by simp at hi
  | none :: ds, u :: vs, t, i + 1, d, v, ha, hi, hl => by
    rw [List.set_cons_succ, fillT, fillT]
    exact fillT_set ds vs t i d v (by simpa [apartD] using ha) (by simpa using hi) (by simpa using hl)
  | [], _, t, i, d, _, _, hi, _ => by simp at hi
  | some _ :: _, [], _, _, _, _, _, _, hl => by simp at hl
  | none :: _, [], _, _, _, _, _, _, hl => by simp at hl
theorem fillT_init : ∀ (ds : List (Option Nat)) (t : Array Value), fillT ds (ds.map fun o => match o with | some d => t.getD d undef | none => undef) t = t
  | [], t => rfl
  | some d :: ds, t => by
    rw [List.map_cons, fillT, fillT_init ds t]
    apply Array.ext
    · simp
    · intro i h1 h2
      rw [Array.getElem_setIfInBounds h2]
      split
      · rename_i he; subst he; simp [Array.getD, h2]
      · rfl
  | none :: ds, t => by
    rw [List.map_cons, fillT, fillT_init ds t]
def Own (w0 : World) (own : List Nat) (W : World) : Prop := ∀ k ∈ own, w0.heap.size ≤ k ∧ k < W.heap.size
def Grows (own own' : List Nat) (W : World) : Prop := (∀ k ∈ own, k ∈ own') ∧ ∀ k ∈ own', k ∈ own ∨ W.heap.size ≤ k
def Makes (P : Program) (ops : Array Oper) (Q : Exit → Act → World → Prop) (md : Region.Mode) (a0 : Act) (w0 : World) (Pre : Nat → List Nat → World → Value → Prop) (i : Nat) : Prop :=
  ∀ own a W, Below w0.heap.size w0 W → Own w0 own W → (∀ d, some d ∉ dstsOf ops → a.tmps.getD d undef = a0.tmps.getD d undef) →
    (∀ j d, bindsOn md ops i j = true → dstOf ops j = some d → Pre j own W (a.tmps.getD d undef)) →
    wpOp P ops Q i (fun a' W' => ∃ v own', a' = a.put (dstOf ops i) v ∧ Pre i own' W' v ∧ Below W.heap.size W W' ∧ Own w0 own' W' ∧ Grows own own' W) a W
theorem dsts_get (i : Nat) : (dstsOf ops)[i]? = (ops[i]?).map (·.dst) := by simp [dstsOf]
theorem dstOf_get {i d : Nat} (h : dstOf ops i = some d) : (dstsOf ops)[i]? = some (some d) := by
  rw [dsts_get]
  unfold dstOf at h
  cases ho : ops[i]? with
  | none => rw [ho] at h; simp at h
  | some o => rw [ho] at h; simpa using h
theorem region_makes (a0 : Act) (w0 : World) (Pre : Nat → List Nat → World → Value → Prop) (L : Nat) (hchk : regOK md ops a0.tmps.size L = true)
    (hstable : ∀ i own own' W W' v, Pre i own W v → Below W.heap.size W W' → Grows own own' W → Pre i own' W' v)
    (hstep : ∀ i, i < L → Makes P ops Q md a0 w0 Pre i)
    (hend : ∀ own vs W, Below w0.heap.size w0 W → Own w0 own W → (∀ i, i < L → Pre i own W (vs.getD i undef)) → vs.length = L + 1 →
      wpOp P ops Q L (fun a' W' => Q .normal a' W') ⟨fillT (dstsOf ops) vs a0.tmps, a0.defers⟩ W) :
    wpAny P md ops Q ops.size (Array.replicate ops.size false) a0 w0 := by
  unfold regOK at hchk
  simp only [Bool.and_eq_true, beq_iff_eq, List.all_eq_true, List.mem_range] at hchk
  obtain ⟨⟨⟨⟨hsz, hap⟩, hbd⟩, hrank⟩, hlast⟩ := hchk
  have hlen : (dstsOf ops).length = L + 1 := by simp [dstsOf, hsz]
  have hdlt : ∀ i d, (dstsOf ops)[i]? = some (some d) → d < a0.tmps.size := fun i d h => by
    have := hbd _ (List.mem_of_getElem? h)
    simpa using this
  refine any_inv (fun listed a W => listed.size = L + 1 ∧ ((listed.getD L false = true ∧ (∀ j, j < L → listed.getD j false = true) ∧ Q .normal a W) ∨
    (listed.getD L false = false ∧ ∃ own vs, a = ⟨fillT (dstsOf ops) vs a0.tmps, a0.defers⟩ ∧ vs.length = L + 1 ∧ Below w0.heap.size w0 W ∧ Own w0 own W ∧ (∀ i, i < L → listed.getD i false = true → Pre i own W (vs.getD i undef))))) ?_ ?_ ?_ _ _ _ _ ?_ ?_
  · rintro listed a W i ⟨hls, hI⟩ hi
    obtain ⟨hi0, o, ho, hdep⟩ := mem_ready.1 hi
    have hil : i < L + 1 := hsz ▸ (Array.getElem?_eq_some_iff.1 ho).1
    have hif : listed.getD i false = false := by
      have hlt : i < listed.size := by omega
      simp [Array.getD, hlt] at hi0 ⊢; exact hi0
    rcases hI with ⟨hL, hall, _⟩ | ⟨hL, own, vs, rfl, hvl, hB, hO, hPre⟩
    · exfalso
      by_cases hiL : i = L
      · rw [hiL, hL] at hif; cases hif
      · rw [hall i (by omega)] at hif; cases hif
    · by_cases hiL : i = L
      · subst hiL
        have hall : ∀ j, j < i → listed.getD j false = true := fun j hj => by
          have hb := hlast j hj
          unfold bindsOn at hb
          rw [ho] at hb
          simp only [Option.map_some, Option.getD_some, Array.any_eq_true', Bool.and_eq_true, beq_iff_eq] at hb
          obtain ⟨e, he, hbe, rfl⟩ := hb
          exact hdep e he hbe
        refine wpOp_mono (fun a' W' h => ⟨by simpa using hls, .inl ⟨?_, fun j hj => getD_set_true (hall j hj), h⟩⟩) (hend own vs W hB hO (fun j hj => hPre j hj (hall j hj)) hvl)
        have hlt : i < listed.size := by omega
        simp [hlt]
      · have hiL' : i < L := by omega
        refine wpOp_mono (fun a' W' h => ?_) (hstep i hiL' own _ W hB hO (fun d hd => fillT_keep _ _ _ _ hd) (fun j d hb hj => ?_))
        · obtain ⟨v, own', rfl, hp, hbw, hO', hg⟩ := h
          refine ⟨by simpa using hls, .inr ⟨(getD_set_ne false hiL).trans hL, own', vs.set i v, ?_, by simpa using hvl, hB.trans (hbw.mono hB.size), hO', fun j hj hlj => ?_⟩⟩
          · cases hd : dstOf ops i with
            | none =>
              have hdn : (dstsOf ops)[i]? = some none := by
                rw [dsts_get, ho]
                unfold dstOf at hd
                rw [ho] at hd
                simpa using hd
              show (⟨_, _⟩ : Act) = ⟨_, _⟩
              congr 1
              clear hstep hend hPre hp hbw
              have key : ∀ (ds : List (Option Nat)) (vs : List Value) (i : Nat), ds[i]? = some none → fillT ds vs a0.tmps = fillT ds (vs.set i v) a0.tmps := by
                intro ds
                induction ds with
                | nil => intro vs i h; simp at h
                | cons o ds ih =>
                  intro vs i h
                  cases vs with
                  | nil => simp
                  | cons u vs =>
                    cases i with
                    | zero =>
                      obtain rfl : o = none := by simpa using h
                      rfl
                    | succ i =>
                      rw [List.set_cons_succ]
                      cases o with
                      | none => exact ih vs i (by simpa using h)
                      | some d => rw [fillT, fillT, ih vs i (by simpa using h)]
              exact key _ _ _ hdn
            | some d =>
              show (⟨_, _⟩ : Act) = ⟨_, _⟩
              congr 1
              exact fillT_set _ _ _ i d v hap (dstOf_get hd) (by omega)
          · by_cases hji : j = i
            · subst hji
              have hlt : j < vs.length := by omega
              simpa [List.getD_eq_getElem?_getD, hlt] using hp
            · have := hPre j hj ((getD_set_ne false (fun e => hji e.symm)).symm.trans hlj)
              have h2 := hstable j own own' W W' _ this hbw hg
              simpa [List.getD_eq_getElem?_getD, List.getElem?_set_ne (fun e => hji e.symm)] using h2
        · have hji : j < i := by
            have hr := hrank i (by omega)
            rw [ho] at hr
            simp only [Option.map_some, Option.getD_some] at hr
            unfold bindsOn at hb
            rw [ho] at hb
            simp only [Option.map_some, Option.getD_some, Array.any_eq_true', Bool.and_eq_true, beq_iff_eq] at hb
            obtain ⟨e, he, hbe, rfl⟩ := hb
            have h3 := (Array.all_eq_true_iff_forall_mem.1 hr) e he
            simpa [hbe] using h3
          have hlj : listed.getD j false = true := by
            unfold bindsOn at hb
            rw [ho] at hb
            simp only [Option.map_some, Option.getD_some, Array.any_eq_true', Bool.and_eq_true, beq_iff_eq] at hb
            obtain ⟨e, he, hbe, rfl⟩ := hb
            exact hdep e he hbe
          have := hPre j (by omega) hlj
          show Pre j own W ((fillT (dstsOf ops) vs a0.tmps).getD d undef)
          rw [fillT_get _ _ _ j d hap (dstOf_get hj) (by omega) (hdlt j d (dstOf_get hj))]
          exact this
  · rintro listed a W ⟨hls, hI⟩ hnil
    rcases hI with ⟨_, _, h⟩ | ⟨hL, _⟩
    · exact h
    · exfalso
      have key : ∀ n i, i ≤ n → i ≤ L → listed.getD i false = false → False := by
        intro n
        induction n using Nat.strongRecOn with
        | _ n ih =>
          intro i hin hiL hif
          have hlt : i < listed.size := by omega
          have hi0 : listed.getD i true = false := by
            simp [Array.getD, hlt] at hif ⊢; exact hif
          have hos : i < ops.size := by omega
          have hr : i ∉ Region.ready md ops listed := by rw [hnil]; simp
          apply hr
          refine mem_ready.2 ⟨hi0, ops[i], Array.getElem?_eq_getElem hos, fun e he hb => ?_⟩
          cases hle : listed.getD e.on false with
          | true => rfl
          | false =>
            exfalso
            have hrk := hrank i hos
            rw [Array.getElem?_eq_getElem hos] at hrk
            simp only [Option.map_some, Option.getD_some] at hrk
            have h3 := (Array.all_eq_true_iff_forall_mem.1 hrk) e he
            have h4 : e.on < i := by simpa [hb] using h3
            exact ih e.on (by omega) e.on (Nat.le_refl _) (by omega) hle
      exact key L L (Nat.le_refl _) (Nat.le_refl _) hL
  · rintro listed a W ⟨hls, _⟩ hc
    have hall : ∀ x ∈ listed.toList, id x = true := by
      apply List.length_filter_eq_length_iff.1
      have := List.length_filter_le id listed.toList
      have : listed.toList.length = listed.size := by simp
      omega
    apply List.eq_nil_iff_forall_not_mem.2
    intro i hi
    have hi0 := (mem_ready.1 hi).1
    have hlt : i < listed.size := by
      rcases Nat.lt_or_ge i listed.size with h | h
      · exact h
      · simp [Array.getD, Nat.not_lt.2 h] at hi0
    simp [Array.getD, hlt] at hi0
    have := hall listed[i] (by simp)
    simp [hi0] at this
  · exact Nat.le_add_right _ _
  · refine ⟨by simp [hsz], .inr ⟨by simp [hsz], [], (dstsOf ops).map (fun o => match o with | some d => a0.tmps.getD d undef | none => undef), ?_, by simp [hlen], Below.refl _ _, fun _ h => (by cases h), fun i hi h => ?_⟩⟩
    · rw [fillT_init]
    · exfalso
      simp [hsz, Nat.lt_succ_of_lt hi] at h
end
end Go.Proofs.YtkdicgendcdooaaDoor

/-
  The makers of values of the package api: loads, moves, calls, an allocation and the store behind all of them.
-/
namespace Go.Proofs.YtkdicgendcdooaaDoor
open Go.RowKit Go.Lib
set_option linter.unusedSimpArgs false
set_option linter.unusedVariables false
def NV (own : List Nat) (W : World) (z : V) (v : Value) : Prop := VF W (fun k => k < W.heap.size ∧ k ∉ own) z v
def Box0 (own : List Nat) (W : World) (v : Value) : Prop := ∃ p, v = .pointer (some ⟨p, 0, none⟩) ∧ p ∈ own ∧ W.heap[p]? = some (.cells #[.int .i64 0, .int .i64 0, .string ⟨#[]⟩, .slice none 0 0, .slice none 0 0] 27 (0, 0))
inductive PK where
  | val (v : Value)
  | nv (z : V)
  | got (r : Option V)
  | box0
  | any
def PK.sat (p : PK) (own : List Nat) (W : World) (v : Value) : Prop := match p with
  | .val u => v = u
  | .nv z => NV own W z v
  | .got r => ∃ u, v = .tuple #[u, .bool r.isSome] ∧ NV own W (r.getD zV) u
  | .box0 => Box0 own W v
  | .any => True
theorem NV.stable {own own' : List Nat} {W W' : World} {z : V} {v : Value} (h : NV own W z v) (hb : Below W.heap.size W W') (hg : Grows own own' W) : NV own' W' z v :=
  (VF.below h hb).mono (fun k hk => ⟨Nat.lt_of_lt_of_le hk.1 hb.size, fun hm => (hg.2 k hm).elim hk.2 (fun h => absurd hk.1 (Nat.not_lt.2 h))⟩)
theorem PK.stable (p : PK) (own own' : List Nat) (W W' : World) (v : Value) (h : p.sat own W v) (hb : Below W.heap.size W W') (hg : Grows own own' W) : p.sat own' W' v := by
  cases p with
  | val u => exact h
  | nv z => exact NV.stable h hb hg
  | got r =>
    obtain ⟨u, rfl, h⟩ := h
    exact ⟨u, rfl, h.stable hb hg⟩
  | box0 =>
    obtain ⟨p, rfl, hm, hc⟩ := h
    exact ⟨p, rfl, hg.1 p hm, (hb.block _ (Array.getElem?_eq_some_iff.1 hc).1).trans hc⟩
  | any => trivial
theorem NV.old {w0 W : World} {own : List Nat} {z : V} {v : Value} (h : VF w0 (fun k => k < w0.heap.size) z v) (hb : Below w0.heap.size w0 W) (hO : Own w0 own W) : NV own W z v :=
  (h.below hb).mono (fun k hk => ⟨Nat.lt_of_lt_of_le hk hb.size, fun hm => absurd hk (Nat.not_lt.2 (hO k hm).1)⟩)
theorem NV.made {W W' : World} {own : List Nat} {z : V} {v : Value} {w0 : World} (h : VF W' (Old W (fun k => k < W.heap.size ∧ k ∉ own)) z v) (hO : Own w0 own W) (hb : Below W.heap.size W W') : NV own W' z v :=
  h.bound.mono (fun k hk => ⟨hk.2, fun hm => hk.1.elim (fun h => h.2 hm) (fun h => absurd (hO k hm).2 (Nat.not_lt.2 h))⟩)
theorem Own.mono {w0 W W' : World} {own : List Nat} (h : Own w0 own W) (hb : Below W.heap.size W W') : Own w0 own W' := fun k hk => ⟨(h k hk).1, Nat.lt_of_lt_of_le (h k hk).2 hb.size⟩
theorem Grows.refl (own : List Nat) (W : World) : Grows own own W := ⟨fun _ h => h, fun _ h => .inl h⟩
theorem BoxOf.new {w : World} {ok : Nat → Prop} {z : V} {A3 A4 : Option Addr} {c3 c4 : Nat} (h : VF w ok z (.agg #[.int .i64 z.f0, .int .i64 z.f1, .string z.f2, .slice A3 z.f3.length c3, .slice A4 z.f4.length c4])) :
    BoxOf (w.alloc (.cells #[.int .i64 z.f0, .int .i64 z.f1, .string z.f2, .slice A3 z.f3.length c3, .slice A4 z.f4.length c4] 27)) w.heap.size Any z :=
  ⟨A3, c3, A4, c4, heap_alloc_new _ _, h.any.below ((Below.refl _ w).alloc (Nat.le_refl _) _)⟩
theorem BoxOf.any {W : World} {p : Nat} {ok : Nat → Prop} {x : V} (h : BoxOf W p ok x) : BoxOf W p Any x := by
  obtain ⟨A3, c3, A4, c4, h1, h2⟩ := h
  exact ⟨A3, c3, A4, c4, h1, h2.any⟩
theorem BoxOf.lt {W : World} {p : Nat} {ok : Nat → Prop} {x : V} (h : BoxOf W p ok x) : p < W.heap.size := by
  obtain ⟨A3, c3, A4, c4, h1, h2⟩ := h
  exact (Array.getElem?_eq_some_iff.1 h1).1
theorem BoxOf.read {W : World} {p : Nat} {ok : Nat → Prop} {x : V} (h : BoxOf W p ok x) : ∃ A3 c3 A4 c4, (W.cell? ⟨p, 0, none⟩ = some (.int .i64 x.f0) ∧ W.cell? ⟨p, 1, none⟩ = some (.int .i64 x.f1) ∧ W.cell? ⟨p, 2, none⟩ = some (.string x.f2) ∧ W.cell? ⟨p, 3, none⟩ = some (.slice A3 x.f3.length c3) ∧ W.cell? ⟨p, 4, none⟩ = some (.slice A4 x.f4.length c4)) ∧ VF W (fun k => k < W.heap.size) x (.agg #[.int .i64 x.f0, .int .i64 x.f1, .string x.f2, .slice A3 x.f3.length c3, .slice A4 x.f4.length c4]) := by
  obtain ⟨A3, c3, A4, c4, h1, h2⟩ := h
  exact ⟨A3, c3, A4, c4, cells5v h1, h2.bound.mono (fun k hk => hk.2)⟩
theorem BoxOf.readD {W : World} {p : Nat} {ok : Nat → Prop} {x : V} (h : BoxOf W p ok x) : ∃ A3 c3 A4 c4, (W.drew.cell? ⟨p, 0, none⟩ = some (.int .i64 x.f0) ∧ W.drew.cell? ⟨p, 1, none⟩ = some (.int .i64 x.f1) ∧ W.drew.cell? ⟨p, 2, none⟩ = some (.string x.f2) ∧ W.drew.cell? ⟨p, 3, none⟩ = some (.slice A3 x.f3.length c3) ∧ W.drew.cell? ⟨p, 4, none⟩ = some (.slice A4 x.f4.length c4)) ∧ VF W.drew (fun k => k < W.drew.heap.size) x (.agg #[.int .i64 x.f0, .int .i64 x.f1, .string x.f2, .slice A3 x.f3.length c3, .slice A4 x.f4.length c4]) := by
  obtain ⟨A3, c3, A4, c4, h1, h2⟩ := h
  exact ⟨A3, c3, A4, c4, cells5v h1, (h2.bound.mono (fun k hk => hk.2)).below ((Below.refl _ W).drew)⟩
theorem len_cons {α : Type} {l : List α} {n : Nat} (h : l.length = n + 1) : ∃ a t, l = a :: t ∧ t.length = n := by
  cases l with
  | nil => cases h
  | cons a t => exact ⟨a, t, rfl, by simpa using h⟩
theorem eg18 (args : Array Value) (w : World) : (callFunc 18 args).run Tryd.prog w = .ok (.enter 18 args) w := enters_of Tryd.func18 (by rfl) (by rfl) args w
theorem eg19 (args : Array Value) (w : World) : (callFunc 19 args).run Tryd.prog w = .ok (.enter 19 args) w := enters_of Tryd.func19 (by rfl) (by rfl) args w
theorem eg21 (args : Array Value) (w : World) : (callFunc 21 args).run Tryd.prog w = .ok (.enter 21 args) w := enters_of Tryd.func21 (by rfl) (by rfl) args w
theorem eg20 (args : Array Value) (w : World) : (callFunc 20 args).run Tryd.prog w = .ok (.enter 20 args) w := enters_of Tryd.func20 (by rfl) (by rfl) args w
section
variable {ops : Array Oper} {Q : Exit → Act → World → Prop} {md : Region.Mode} {a0 : Act} {w0 : World} {pks : List PK}
abbrev MakesV (ops : Array Oper) (Q : Exit → Act → World → Prop) (md : Region.Mode) (a0 : Act) (w0 : World) (pks : List PK) (i : Nat) : Prop := Makes Tryd.prog ops Q md a0 w0 (fun i => (pks.getD i .any).sat) i
theorem wpOp_plain {P : Program} {i : Nat} {o : Oper} {a : Act} {w : World} {K : Act → World → Prop} (hi : ops[i]? = some o) (hg : o.guard = none) (h : o.wp P a w K Q) : wpOp P ops Q i K a w := by
  unfold wpOp
  simp [hi, Region.wanted, hg, h]
theorem wpv_val {P : Program} {o : Oper} {a : Act} {w w' : World} {K : Act → World → Prop} {v : Value} (h : (execOp a.eval o).run P w = .ok (.value v) w') (hk : K (a.put o.dst v) w') : o.wp P a w K Q := by
  unfold Oper.wp
  rw [h, Oper.upon_value]
  exact hk
theorem wpv_skip {P : Program} {o : Oper} {a : Act} {w w' : World} {K : Act → World → Prop} (h : (execOp a.eval o).run P w = .ok .skip w') (hk : K (a.put o.dst undef) w') : o.wp P a w K Q := by
  unfold Oper.wp
  rw [h, Oper.upon_skip]
  exact hk
theorem wpv_enter {P : Program} {o : Oper} {a : Act} {w w' : World} {K : Act → World → Prop} {f : FuncId} {args : Array Value} (h : (execOp a.eval o).run P w = .ok (.enter f args) w')
    (hk : Calls P f args w' fun e w'' => ∃ v, e = .returned v ∧ K (a.put o.dst v) w'') : o.wp P a w K Q := by
  unfold Oper.wp
  rw [h, Oper.upon_enter]
  refine hk.mono ?_
  rintro e w'' ⟨v, rfl, hv⟩
  exact hv
theorem dst_is {i : Nat} {o : Oper} (ho : ops[i]? = some o) : dstOf ops i = o.dst := by unfold dstOf; rw [ho]; rfl
/-- A value that is moved. -/
theorem mk_move {i : Nat} {o : Oper} {s : Nat} {v : Value} (ho : ops[i]? = some o) (hop : o.op = .move (.tmp s)) (hg : o.guard = none) (hv : a0.tmps.getD s undef = v) (hs : (dstsOf ops).contains (some s) = false) (hp : pks.getD i .any = .val v) :
    MakesV ops Q md a0 w0 pks i := by
  intro own a W hB hO hK hD
  refine wpOp_plain ho hg (wpv_val (w' := W) (v := v) ?_ ⟨v, own, by rw [dst_is ho], by show (pks.getD i .any).sat own W v; rw [hp]; rfl, Below.refl _ _, hO, Grows.refl _ _⟩)
  have h1 : a.eval (.tmp s) = v := (hK s (by simpa using hs)).trans hv
  unfold execOp
  rw [hop]
  show Sem.run _ (pure (Next.value (a.eval (.tmp s)))) W = _
  rw [h1]
  rfl
/-- A value that is there in whatever world. -/
theorem mk_val {i : Nat} {o : Oper} {v : Value} (ho : ops[i]? = some o) (hg : o.guard = none) (hrun : ∀ (a : Act) W, (execOp a.eval o).run Tryd.prog W = .ok (.value v) W) (hp : pks.getD i .any = .val v) :
    MakesV ops Q md a0 w0 pks i := by
  intro own a W hB hO hK hD
  exact wpOp_plain ho hg (wpv_val (w' := W) (v := v) (hrun a W) ⟨v, own, by rw [dst_is ho], by show (pks.getD i .any).sat own W v; rw [hp]; rfl, Below.refl _ _, hO, Grows.refl _ _⟩)
/-- A call of a function of Go. -/
theorem mk_call {i : Nat} {o : Oper} {f : FuncId} {xs : Array Operand} {ats : Array TypeId} (ho : ops[i]? = some o) (hop : o.op = .call { callee := .value (.func f), args := xs, argTypes := ats }) (hg : o.guard = none)
    (eg : ∀ args w, (callFunc f args).run Tryd.prog w = .ok (.enter f args) w)
    (h : ∀ own (a : Act) W, Below w0.heap.size w0 W → Own w0 own W → (∀ d, some d ∉ dstsOf ops → a.tmps.getD d undef = a0.tmps.getD d undef) →
      (∀ j d, bindsOn md ops i j = true → dstOf ops j = some d → (pks.getD j .any).sat own W (a.tmps.getD d undef)) →
      Calls Tryd.prog f (xs.toList.map a.eval).toArray W (fun e W' => ∃ v, e = .returned v ∧ (pks.getD i .any).sat own W' v ∧ Below W.heap.size W W')) :
    MakesV ops Q md a0 w0 pks i := by
  intro own a W hB hO hK hD
  refine wpOp_plain ho hg (wpv_enter (f := f) (args := (xs.toList.map a.eval).toArray) (w' := W) ?_ ((h own a W hB hO hK hD).mono ?_))
  · unfold execOp
    rw [hop]
    show (callFunc f (#[] ++ xs.map a.eval ++ #[])).run _ W = _
    have e : (#[] ++ xs.map a.eval ++ #[]) = (xs.toList.map a.eval).toArray := by apply Array.ext'; simp
    rw [e]
    exact eg _ _
  · rintro e W' ⟨v, rfl, hv, hb⟩
    exact ⟨v, rfl, v, own, by rw [dst_is ho], hv, hb, hO.mono hb, Grows.refl _ _⟩
/-- A new box. -/
theorem mk_box {i : Nat} {o : Oper} (ho : ops[i]? = some o) (hop : o.op = .alloc 27) (hg : o.guard = none) (hp : pks.getD i .any = .box0) : MakesV ops Q md a0 w0 pks i := by
  intro own a W hB hO hK hD
  have hz : ∀ w, (do pure (Next.value (← Instr.alloc 27 true (.tuple #[]))) : Sem Next).run Tryd.prog w = .ok (.value (.pointer (some ⟨w.heap.size, 0, none⟩))) (w.alloc (.cells #[.int .i64 0, .int .i64 0, .string ⟨#[]⟩, .slice none 0 0, .slice none 0 0] 27)) := fun w => by kernel_rfl
  have hb : Below W.heap.size W (W.alloc (.cells #[.int .i64 0, .int .i64 0, .string ⟨#[]⟩, .slice none 0 0, .slice none 0 0] 27)) := (Below.refl _ W).alloc (Nat.le_refl _) _
  refine wpOp_plain ho hg (wpv_val (w' := W.alloc (.cells #[.int .i64 0, .int .i64 0, .string ⟨#[]⟩, .slice none 0 0, .slice none 0 0] 27)) (v := .pointer (some ⟨W.heap.size, 0, none⟩)) ?_
    ⟨_, W.heap.size :: own, by rw [dst_is ho], ?_, hb, ?_, ⟨fun k hk => List.mem_cons_of_mem _ hk, fun k hk => ?_⟩⟩)
  · unfold execOp
    rw [hop]
    exact hz W
  · show (pks.getD i .any).sat _ _ _
    rw [hp]
    exact ⟨_, rfl, List.mem_cons_self, heap_alloc_new _ _⟩
  · intro k hk
    rcases List.mem_cons.1 hk with rfl | hk
    · exact ⟨hB.size, by simp⟩
    · exact (hO.mono hb) k hk
  · rcases List.mem_cons.1 hk with rfl | hk
    · exact .inr (Nat.le_refl _)
    · exact .inl hk
/-- A box that is read. -/
theorem mk_load {i : Nat} {o : Oper} {s p : Nat} {a b c d e : Value} (ho : ops[i]? = some o) (hop : o.op = .load 27 (.tmp s)) (hg : o.guard = none) (hv : a0.tmps.getD s undef = .pointer (some ⟨p, 0, none⟩)) (hs : (dstsOf ops).contains (some s) = false)
    (hc : w0.cell? ⟨p, 0, none⟩ = some a ∧ w0.cell? ⟨p, 1, none⟩ = some b ∧ w0.cell? ⟨p, 2, none⟩ = some c ∧ w0.cell? ⟨p, 3, none⟩ = some d ∧ w0.cell? ⟨p, 4, none⟩ = some e) (h1 : a.oneCell' = true ∧ b.oneCell' = true ∧ c.oneCell' = true ∧ d.oneCell' = true ∧ e.oneCell' = true) (hp : pks.getD i .any = .val (.agg #[a, b, c, d, e])) :
    MakesV ops Q md a0 w0 pks i := by
  intro own a' W hB hO hK hD
  have hlt : p < w0.heap.size := World.block_lt_of_cell? w0 _ hc.1
  obtain ⟨c0, c1, c2, c3, c4⟩ := hc
  replace c0 := (hB.cell (p := ⟨p, 0, none⟩) hlt).trans c0
  replace c1 := (hB.cell (p := ⟨p, 1, none⟩) hlt).trans c1
  replace c2 := (hB.cell (p := ⟨p, 2, none⟩) hlt).trans c2
  replace c3 := (hB.cell (p := ⟨p, 3, none⟩) hlt).trans c3
  replace c4 := (hB.cell (p := ⟨p, 4, none⟩) hlt).trans c4
  refine wpOp_plain ho hg (wpv_val (w' := W) (v := .agg #[a, b, c, d, e]) ?_ ⟨_, own, by rw [dst_is ho], by show (pks.getD i .any).sat own W _; rw [hp]; rfl, Below.refl _ _, hO, Grows.refl _ _⟩)
  have h2 : a'.eval (.tmp s) = .pointer (some ⟨p, 0, none⟩) := (hK s (by simpa using hs)).trans hv
  unfold execOp
  rw [hop]
  show Sem.run _ (do pure (Next.value (← Instr.loadAt 27 (a'.eval (.tmp s))))) W = _
  rw [h2]
  go_simp
/-- The whole: a new box, with a value that the region's calls make. -/
theorem region_box {id : Nat} {w : World} {L i8 i27 d8 d27 : Nat} {oL : Oper} {z : V} (hm : Tryd.prog.follows .mixedOrders = true) (hchk : regOK .any ops a0.tmps.size L = true) (h8 : dstOf ops i8 = some d8) (h27 : dstOf ops i27 = some d27) (hi8 : i8 < L) (hi27 : i27 < L)
    (hL : ops[L]? = some oL) (hop : oL.op = .store 27 (.tmp d8) (.tmp d27)) (hg : oL.guard = none) (hd : oL.dst = none) (hp8 : pks.getD i8 .any = .box0) (hp27 : pks.getD i27 .any = .nv z)
    (hstep : ∀ i, i < L → MakesV ops Q .any a0 w.drew pks i)
    (hQ : ∀ vs p W, vs.length = L + 1 → vs.getD i8 undef = .pointer (some ⟨p, 0, none⟩) → Below w.heap.size w W → w.heap.size ≤ p → p < W.heap.size → BoxOf W p (fun k => k ≠ p) z → Q .normal ⟨fillT (dstsOf ops) vs a0.tmps, a0.defers⟩ W) :
    (Code.region id ops true).wp Tryd.prog Q a0 w := by
  refine wp_region_any hm (region_makes a0 w.drew (fun i => (pks.getD i .any).sat) L hchk (fun i => (pks.getD i .any).stable) hstep ?_)
  intro own vs W hB hO hPre hvl
  have hck := hchk
  unfold regOK at hck
  simp only [Bool.and_eq_true, beq_iff_eq, List.all_eq_true, List.mem_range] at hck
  obtain ⟨⟨⟨⟨hsz, hap⟩, hbd⟩, _⟩, _⟩ := hck
  have hlen : (dstsOf ops).length = L + 1 := by simp [dstsOf, hsz]
  have hdlt : ∀ i d, (dstsOf ops)[i]? = some (some d) → d < a0.tmps.size := fun i d h => by
    have := hbd _ (List.mem_of_getElem? h)
    simpa using this
  obtain ⟨p, e8, hpo, hc⟩ := (show Box0 own W (vs.getD i8 undef) by have := hPre i8 hi8; simp only [hp8] at this; exact this)
  have hz := (show NV own W z (vs.getD i27 undef) by have := hPre i27 hi27; simp only [hp27] at this; exact this)
  obtain ⟨A3, c3, A4, c4, e27, _⟩ := hz.open_
  have hz' : VF W (fun k => k ≠ p) z (.agg #[.int .i64 z.f0, .int .i64 z.f1, .string z.f2, .slice A3 z.f3.length c3, .slice A4 z.f4.length c4]) := by
    rw [← e27]
    exact VF.mono hz (fun k hk e => hk.2 (e ▸ hpo))
  have g8 : (fillT (dstsOf ops) vs a0.tmps).getD d8 undef = .pointer (some ⟨p, 0, none⟩) := by
    rw [fillT_get _ _ _ i8 d8 hap (dstOf_get h8) (by omega) (hdlt _ _ (dstOf_get h8)), e8]
  have g27 : (fillT (dstsOf ops) vs a0.tmps).getD d27 undef = .agg #[.int .i64 z.f0, .int .i64 z.f1, .string z.f2, .slice A3 z.f3.length c3, .slice A4 z.f4.length c4] := by
    rw [fillT_get _ _ _ i27 d27 hap (dstOf_get h27) (by omega) (hdlt _ _ (dstOf_get h27)), e27]
  generalize hF : fillT (dstsOf ops) vs a0.tmps = F at g8 g27
  have vs8 := softv hc
  obtain ⟨k0, k1, k2, k3, k4⟩ := cells5v hc
  have hlt : p < W.heap.size := (Array.getElem?_eq_some_iff.1 hc).1
  have hp0 : w.heap.size ≤ p := (hO p hpo).1
  refine wpOp_plain hL hg (wpv_skip (w' := ((((W.setCell ⟨p, 0, none⟩ (.int .i64 z.f0)).setCell ⟨p, 1, none⟩ (.int .i64 z.f1)).setCell ⟨p, 2, none⟩ (.string z.f2)).setCell ⟨p, 3, none⟩ (.slice A3 z.f3.length c3)).setCell ⟨p, 4, none⟩ (.slice A4 z.f4.length c4)) ?_ ?_)
  · unfold execOp
    rw [hop]
    show Sem.run _ (do Instr.storeAt 27 (Act.eval ⟨F, a0.defers⟩ (.tmp d8)) (Act.eval ⟨F, a0.defers⟩ (.tmp d27)); pure Next.skip) W = _
    rw [show Act.eval ⟨F, a0.defers⟩ (.tmp d8) = _ from g8, show Act.eval ⟨F, a0.defers⟩ (.tmp d27) = _ from g27]
    go_simp
  · rw [hd]
    show Q .normal ⟨F, a0.defers⟩ _
    rw [← hF]
    have hO5 := off5 W p (.int .i64 z.f0) (.int .i64 z.f1) (.string z.f2) (.slice A3 z.f3.length c3) (.slice A4 z.f4.length c4)
    refine hQ vs p _ hvl e8 (Off.below (((Below.refl w.heap.size w).drew).trans (show Below w.heap.size w.drew W from hB)) hO5 (by simpa using hp0)) hp0 (by rw [hO5.size]; exact hlt) ⟨A3, c3, A4, c4, heap_setv (heap_setv (heap_setv (heap_setv (heap_setv hc _) _) _) _) _, hO5.vf hz' (fun k hk _ hm => by simp at hm; exact hk hm)⟩
end
end Go.Proofs.YtkdicgendcdooaaDoor

/-
  Without: the document's answer.
-/
namespace Go.Proofs.YtkdicgendcdooaaDoor
open Go.RowKit Go.Lib Go.Proofs.YtkdicgendcdooaaDoorW.PrintWords
set_option linter.unusedSimpArgs false
set_option linter.unusedVariables false
set_option maxRecDepth 100000 in
theorem cut_any {w : World} {ok : Nat → Prop} {x : V} {v : Value} (h : VF w ok x v) (hf : Fit x) (key : ByteArray) :
    Calls Tryd.prog 20 #[v, .string key] w (EndV w ok (cutV x key)) := by
  have HX := Lib.hid h.bound
  obtain ⟨A3, c3, A4, c4, rfl, l3, f3, l4, f4⟩ := h.open_
  have HP := Lib.hid (fun w' (hb : Below w.heap.size w w') => rplace_any (HX.out.below hb) key)
  cases hg : getV x key with
  | none =>
    have HPL := Lib.hid (getV_none hg)
    have HT := Lib.hid (show cutV x key = x by unfold cutV; rw [HPL.out, if_pos (by decide)])
    clear h f3 f4 l3 l4 hg hf
    go_enter Tryd.func20, Tryd.ntmps20
    go_wp2_with fail
    refine calls_box2 ?_
    intro W1 hx1 hr1 hs1 hb1
    refine (HP.out _ hb1).mono ?_
    rintro e w1 ⟨rfl, hb⟩
    rw [HPL.out]
    obtain ⟨d0, d1, d2, d3, d4⟩ := cells5v ((hb.block _ (by omega)).trans hx1)
    have hr2 := (hb.block _ (by omega)).trans hr1
    obtain ⟨r0, r1, r2, r3, r4⟩ := cells5v hr2
    have rs := softv hr2
    have HB1 := Lib.hid (hb1.trans (hb.mono (by omega)))
    clear hx1 hr1 hs1 hb1 hb hr2
    go_wp2_with fail
    have hO := off5 w1 (w.heap.size + 1) (.int .i64 x.f0) (.int .i64 x.f1) (.string x.f2) (.slice A3 x.f3.length c3) (.slice A4 x.f4.length c4)
    refine bodyPost_ret (v := .agg #[.int .i64 x.f0, .int .i64 x.f1, .string x.f2, .slice A3 x.f3.length c3, .slice A4 x.f4.length c4]) (by simp [results, Tryd.results20, go_sem, r0, r1, r2, r3, r4]) rfl ⟨_, rfl, ?_, Off.below HB1.out hO (by simp)⟩
    rw [HT.out]
    refine (hO.vf (HX.out.below HB1.out) (fun k hk _ hm => ?_)).mono (fun k hk => .inl hk.1)
    simp at hm
    have := hk.2
    omega
  | some y =>
    obtain ⟨i, hi4, hpl, _⟩ := getV_some hg
    have HPL := Lib.hid hpl
    have HI := Lib.hid (show i + 1 ≤ min x.f3.length x.f4.length by
      unfold placeV at hpl
      split at hpl
      · rename_i hc
        obtain ⟨_, h1, h2⟩ := hc
        omega
      · omega)
    have HT := Lib.hid (show cutV x key = withV x i 1 [] [] by unfold cutV; rw [HPL.out, if_neg (by omega)]; rfl)
    have HF := Lib.hid hf
    clear h f3 f4 l3 l4 hg hf hpl
    go_enter Tryd.func20, Tryd.ntmps20
    go_wp2_with fail
    refine calls_box2 ?_
    intro W1 hx1 hr1 hs1 hb1
    refine (HP.out _ hb1).mono ?_
    rintro e w1 ⟨rfl, hb⟩
    rw [HPL.out]
    obtain ⟨d0, d1, d2, d3, d4⟩ := cells5v ((hb.block _ (by omega)).trans hx1)
    have HR2 := Lib.hid ((hb.block _ (by omega)).trans hr1)
    have HB1 := Lib.hid (hb1.trans (hb.mono (by omega)))
    have HZ := Lib.hid (show w.heap.size + 2 ≤ w1.heap.size by have := hb.size; omega)
    clear hx1 hr1 hs1 hb1 hb
    go_wp2_with fail
    have hc := with_any (HX.out.below HB1.out) HF.out i 1 (ks := []) (ys := []) (ck := 0) (cv := 0) (Kd.F_nil _ _ _) (Nat.le_refl _) (Kd.F_nil _ _ _) (Nat.le_refl _) HI.out (by simp) (by simp)
    refine hc.mono ?_
    clear hc
    rintro e w3 ⟨v3, rfl, hv3, hb3⟩
    obtain ⟨z, hz⟩ : ∃ z, withV x i 1 [] [] = z := ⟨_, rfl⟩
    rw [hz] at hv3 HT
    obtain ⟨D3, q3, D4, q4, rfl, _⟩ := hv3.open_
    have hz1 := HZ.out
    have hr3 := (hb3.block _ (by omega)).trans HR2.out
    obtain ⟨r0, r1, r2, r3, r4⟩ := cells5v hr3
    have rs := softv hr3
    have HV3 := Lib.hid hv3
    have HB3 := Lib.hid (HB1.out.trans (hb3.mono HB1.out.size))
    clear hv3 hb3 hr3 hz hz1 d0 d1 d2 d3 d4
    go_wp2_with fail
    have hz1 := HZ.out
    have hO := off5 w3 (w.heap.size + 1) (.int .i64 z.f0) (.int .i64 z.f1) (.string z.f2) (.slice D3 z.f3.length q3) (.slice D4 z.f4.length q4)
    refine bodyPost_ret (v := .agg #[.int .i64 z.f0, .int .i64 z.f1, .string z.f2, .slice D3 z.f3.length q3, .slice D4 z.f4.length q4]) (by simp [results, Tryd.results20, go_sem, r0, r1, r2, r3, r4]) rfl ⟨_, rfl, ?_, Off.below HB3.out hO (by simp)⟩
    rw [HT.out]
    refine (hO.vf HV3.out (fun k hk _ hm => ?_)).mono (fun k hk => ?_)
    · simp at hm
      rcases hk with h | h
      · have := h.2
        omega
      · omega
    · rcases hk with h | h
      · exact .inl h.1
      · exact .inr (by omega)
end Go.Proofs.YtkdicgendcdooaaDoor

/-
  What is told by name behind a put, and behind a cut: plain laws.
-/
namespace Go.Proofs.YtkdicgendcdooaaDoor
open Go.RowKit Go.Lib
set_option linter.unusedSimpArgs false
set_option linter.unusedVariables false
theorem put_obj (x : V) (key : ByteArray) (y : V) : (putV x key y).f0 = 5 := by
  unfold putV
  split
  · split <;> rfl
  · rfl
theorem put_fresh {x : V} (h : x.f0 ≠ 5) (key : ByteArray) (y : V) : putV x key y = ⟨5, 0, ⟨#[]⟩, [key], [y]⟩ := by unfold putV; rw [if_neg h]
theorem put_same' {x : V} (h : x.f0 = 5 → WF x) (key : ByteArray) (y : V) : getV (putV x key y) key = some y := by
  by_cases hx : x.f0 = 5
  · exact put_same (h hx) key y
  · rw [put_fresh hx]
    simp [getV, posK]
theorem put_other' {x : V} (h : x.f0 = 5 → WF x) {key k : ByteArray} (hk : k ≠ key) (y : V) : getV (putV x key y) k = getV x k := by
  by_cases hx : x.f0 = 5
  · exact put_other (h hx) hk y
  · rw [put_fresh hx]
    have h1 : getV x k = none := by unfold getV; exact if_neg (fun hc => hx hc.1)
    rw [h1]
    simp [getV, posK]
    exact fun e => hk e.symm
theorem getD_wf {P : ByteArray → Prop} {r : Option V} (h : ∀ y, r = some y → Tab P y) : (r.getD zV).f0 = 5 → WF (r.getD zV) := by
  cases r with
  | none => intro e; exact absurd (show (0 : Int) = 5 from e) (by decide)
  | some y => exact fun _ => (h y rfl).wf
/-! Keys that stand once. -/
theorem put_nodup {x : V} (h : WF x) (hn : x.f3.Nodup) (key : ByteArray) (y : V) : (putV x key y).f3.Nodup := by
  have hl := h.len
  unfold putV
  rw [if_pos h.obj]
  unfold placeV
  by_cases hp : posK x.f3 key < x.f3.length
  · rw [if_pos (⟨h.obj, hp, by omega⟩ : x.f0 = 5 ∧ posK x.f3 key < x.f3.length ∧ posK x.f3 key < x.f4.length), if_pos (by omega), Int.toNat_natCast, withV_f h]
    have e3 : x.f3 = x.f3.take (posK x.f3 key) ++ [key] ++ x.f3.drop (posK x.f3 key + 1) := by
      conv => lhs; rw [← List.take_append_drop (posK x.f3 key) x.f3, List.drop_eq_getElem_cons hp, posK_get]
      simp
    show (x.f3.take (posK x.f3 key) ++ [key] ++ x.f3.drop (posK x.f3 key + 1)).Nodup
    rw [← e3]
    exact hn
  · have hm : key ∉ x.f3 := fun hm => hp (posK_mem _ _ hm)
    rw [show (if x.f0 = 5 ∧ posK x.f3 key < x.f3.length ∧ posK x.f3 key < x.f4.length then ((posK x.f3 key : Nat) : Int) else -1) = -1 from if_neg (fun hc => hp hc.2.1), if_neg (by decide), withV_f h]
    obtain ⟨i, hi⟩ : ∃ i, insP (x.f3.take (min x.f3.length x.f4.length)) key = i := ⟨_, rfl⟩
    rw [hi]
    show (x.f3.take i ++ [key] ++ x.f3.drop (i + 0)).Nodup
    rw [Nat.add_zero, List.append_assoc]
    have hp2 : (x.f3.take i ++ ([key] ++ x.f3.drop i)).Perm (key :: x.f3) := by
      have := (List.perm_middle (a := key) (l₁ := x.f3.take i) (l₂ := x.f3.drop i))
      rw [List.take_append_drop] at this
      exact this
    exact hp2.nodup_iff.2 (List.nodup_cons.2 ⟨hm, hn⟩)
theorem levels_once (c : List UInt8) : (levelsV c).f3.Nodup := by
  have h : ∀ k, ((goLv c k).v.f3.Nodup ∧ True) := by
    intro k
    induction k with
    | zero => exact ⟨List.nodup_nil, trivial⟩
    | succ k ih =>
      have ht := goLv_tab c k
      unfold goLv stepLv
      split
      · exact ⟨put_nodup ht.v.wf ih.1 _ _, trivial⟩
      · split
        · exact ih
        · exact ih
  have h0 := (h (roundsLv c.length)).1
  have ht := goLv_tab c (roundsLv c.length)
  unfold levelsV
  obtain ⟨s, hs⟩ : ∃ s, goLv c (roundsLv c.length) = s := ⟨_, rfl⟩
  rw [hs] at h0 ht ⊢
  have w1 : WF (if 0 < c.length % 3 then putV s.v bUsers s.u else s.v) ∧ (if 0 < c.length % 3 then putV s.v bUsers s.u else s.v).f3.Nodup := by
    split
    · exact ⟨put_wf ht.v.wf _ _, put_nodup ht.v.wf h0 _ _⟩
    · exact ⟨ht.v.wf, h0⟩
  show (if 0 < c.length % 5 then putV (if 0 < c.length % 3 then putV s.v bUsers s.u else s.v) bEvents s.e else (if 0 < c.length % 3 then putV s.v bUsers s.u else s.v)).f3.Nodup
  obtain ⟨x, hx⟩ : ∃ x, (if 0 < c.length % 3 then putV s.v bUsers s.u else s.v) = x := ⟨_, rfl⟩
  rw [hx] at w1 ⊢
  split
  · exact put_nodup w1.1 w1.2 _ _
  · exact w1.2
theorem cut_form {x : V} (h : WF x) (key : ByteArray) (hm : posK x.f3 key < x.f3.length) : cutV x key = ⟨5, x.f1, x.f2, x.f3.take (posK x.f3 key) ++ x.f3.drop (posK x.f3 key + 1), x.f4.take (posK x.f3 key) ++ x.f4.drop (posK x.f3 key + 1)⟩ := by
  have hl := h.len
  unfold cutV placeV
  rw [if_pos (⟨h.obj, hm, by omega⟩ : x.f0 = 5 ∧ posK x.f3 key < x.f3.length ∧ posK x.f3 key < x.f4.length), if_neg (by omega), Int.toNat_natCast, withV_f h]
  simp
theorem cut_none {x : V} (h : WF x) (key : ByteArray) (hm : ¬ posK x.f3 key < x.f3.length) : cutV x key = x := by
  have hp : placeV x key = -1 := by unfold placeV; exact if_neg (fun hc => hm hc.2.1)
  unfold cutV
  rw [hp, if_pos (by decide)]
theorem cut_wf {x : V} (h : WF x) (key : ByteArray) : WF (cutV x key) := by
  have hl := h.len
  by_cases hm : posK x.f3 key < x.f3.length
  · rw [cut_form h key hm]
    exact ⟨rfl, by simp; omega⟩
  · rw [cut_none h key hm]; exact h
theorem cut_same {x : V} (h : WF x) (hn : x.f3.Nodup) (key : ByteArray) : getV (cutV x key) key = none := by
  have hl := h.len
  have hw := cut_wf h key
  rw [getV_lk hw]
  by_cases hm : posK x.f3 key < x.f3.length
  · rw [cut_form h key hm]
    refine lk_not _ _ _ ?_
    show key ∉ x.f3.take (posK x.f3 key) ++ x.f3.drop (posK x.f3 key + 1)
    have e3 : x.f3 = x.f3.take (posK x.f3 key) ++ (key :: x.f3.drop (posK x.f3 key + 1)) := by
      conv => lhs; rw [← List.take_append_drop (posK x.f3 key) x.f3, List.drop_eq_getElem_cons hm, posK_get]
    rw [e3] at hn
    have h2 := (List.nodup_append.1 hn)
    intro hmem
    rcases List.mem_append.1 hmem with h3 | h3
    · exact posK_take _ _ h3
    · exact (List.nodup_cons.1 h2.2.1).1 h3
  · rw [cut_none h key hm]
    exact lk_not _ _ _ (fun hmem => hm (posK_mem _ _ hmem))
theorem cut_other {x : V} (h : WF x) {key k : ByteArray} (hk : k ≠ key) : getV (cutV x key) k = getV x k := by
  have hl := h.len
  have hw := cut_wf h key
  rw [getV_lk hw, getV_lk h]
  by_cases hm : posK x.f3 key < x.f3.length
  · rw [cut_form h key hm]
    have e3 : x.f3 = x.f3.take (posK x.f3 key) ++ (key :: x.f3.drop (posK x.f3 key + 1)) := by
      conv => lhs; rw [← List.take_append_drop (posK x.f3 key) x.f3, List.drop_eq_getElem_cons hm, posK_get]
    have hp4 : posK x.f3 key < x.f4.length := by omega
    have e4 : x.f4 = x.f4.take (posK x.f3 key) ++ (x.f4[posK x.f3 key] :: x.f4.drop (posK x.f3 key + 1)) := by
      conv => lhs; rw [← List.take_append_drop (posK x.f3 key) x.f4, List.drop_eq_getElem_cons hp4]
    have e : lk x.f3 x.f4 k = lk (x.f3.take (posK x.f3 key) ++ (key :: x.f3.drop (posK x.f3 key + 1))) (x.f4.take (posK x.f3 key) ++ (x.f4[posK x.f3 key] :: x.f4.drop (posK x.f3 key + 1))) k := by
      rw [← e3, ← e4]
    have a1 := lk_app (x.f3.take (posK x.f3 key)) (x.f4.take (posK x.f3 key)) (x.f3.drop (posK x.f3 key + 1)) (x.f4.drop (posK x.f3 key + 1)) k (by rw [List.length_take, List.length_take]; omega)
    have a2 := lk_app (x.f3.take (posK x.f3 key)) (x.f4.take (posK x.f3 key)) (key :: x.f3.drop (posK x.f3 key + 1)) (x.f4[posK x.f3 key] :: x.f4.drop (posK x.f3 key + 1)) k (by rw [List.length_take, List.length_take]; omega)
    rw [lk_cons, if_neg (fun e => hk e.symm)] at a2
    exact a1.trans (a2.symm.trans e.symm)
  · rw [cut_none h key hm]
/-! What levels tell behind such changes. -/
theorem at_num {x : V} {key : ByteArray} {n : Int} (h : getV x key = some (numV n)) : atV x key = some n := by
  unfold atV
  rw [h]
  rfl
theorem at_none {x : V} {key : ByteArray} (h : getV x key = none) : atV x key = none := by
  unfold atV
  rw [h]
theorem in_some {x y : V} {key : ByteArray} (h : getV x key = some y) (hy : y.f0 = 5) : inV x key = y := by
  unfold inV
  rw [h]
  exact if_pos hy
theorem in_none {x : V} {key : ByteArray} (h : getV x key = none) : inV x key = zObj := by
  unfold inV
  rw [h]
theorem at_zObj (key : ByteArray) : atV zObj key = none := by simp [atV, getV, zObj, posK]
theorem named_level {x : V} (h : Lev x) (user creator : ByteArray) (n : Int) : levelV (putV x bUsers (putV ((getV x bUsers).getD zV) user (numV n))) true creator user = n := by
  unfold levelV
  rw [if_pos rfl, in_some (put_same h.wf _ _) (put_obj _ _ _), at_num (put_same' (getD_wf h.users) user (numV n))]
  rfl
theorem named_gone {x : V} (h : Lev x) (hn : x.f3.Nodup) (user creator : ByteArray) (n : Int) : levelV (cutV (putV x bUsersDefault (numV n)) bUsers) true creator user = n := by
  have hw := put_wf h.wf bUsersDefault (numV n)
  have hd := put_nodup h.wf hn bUsersDefault (numV n)
  unfold levelV
  rw [if_pos rfl, in_none (cut_same hw hd bUsers), at_zObj, at_num ((cut_other hw (by decide)).trans (put_same h.wf _ _))]
  rfl
theorem named_need {x : V} (h : Lev x) (kind : ByteArray) (is : Bool) (n : Int) : needV (putV x bEvents (putV ((getV x bEvents).getD zV) kind (numV n))) true kind is = n := by
  unfold needV
  rw [if_neg (by decide), in_some (put_same h.wf _ _) (put_obj _ _ _), at_num (put_same' (getD_wf h.events) kind (numV n))]
  rfl
theorem named_none {x : V} (h : Lev x) (hn : x.f3.Nodup) (kind : ByteArray) (is : Bool) (n : Int) : needV (cutV (putV (putV x bStateDefault (numV n)) bEventsDefault (numV n)) bEvents) true kind is = n := by
  have hw1 := put_wf h.wf bStateDefault (numV n)
  have hd1 := put_nodup h.wf hn bStateDefault (numV n)
  have hw := put_wf hw1 bEventsDefault (numV n)
  have hd := put_nodup hw1 hd1 bEventsDefault (numV n)
  unfold needV
  rw [if_neg (by decide), in_none (cut_same hw hd bEvents), at_zObj, at_num ((cut_other hw (by decide)).trans (put_same hw1 _ _)), at_num ((cut_other hw (by decide)).trans ((put_other hw1 (by decide) _).trans (put_same h.wf _ _)))]
  cases is <;> rfl
end Go.Proofs.YtkdicgendcdooaaDoor

/-
  The law PowerNamed, walked.
-/
namespace Go.Proofs.YtkdicgendcdooaaDoor
open Go.RowKit Go.Lib Go.Proofs.YtkdicgendcdooaaDoorW.PrintWords
set_option linter.unusedSimpArgs false
set_option linter.unusedVariables false
set_option maxRecDepth 100000 in
set_option maxHeartbeats 2000000 in
theorem named_go (a0 : Option Addr) (cap0 : Nat) (l : List UInt8) (n : Int) (user kind : ByteArray) (is : Bool) (W : World) (hs : user.size + kind.size ≤ 100) (hn1 : -9223372036854775808 ≤ n) (hn2 : n ≤ 9223372036854775807) (hl : l.length ≤ 140737488351232) (y : Bytes8 W a0 l) (hT : Tabs W) :
    Calls Tryd.prog 4 #[.slice a0 l.length cap0, .int .i64 n, .string user, .string kind, .bool is] W (EndI W (.bool true)) := by
  have HL := Lib.hid (levels_any (cap := cap0) y hl)
  have hLev := Lib.hid (levels_lev l)
  have hOnce := Lib.hid (levels_once l)
  have hFit := Lib.hid (levels_fit l)
  have hSub := Lib.hid (levels_subs l)
  have HT := Lib.hid hT
  obtain ⟨x, hx⟩ : ∃ x, levelsV l = x := ⟨_, rfl⟩
  rw [hx] at HL hLev hFit hSub hOnce
  obtain ⟨m, hm⟩ : ∃ m, l.length = m := ⟨_, rfl⟩
  rw [hm] at HL ⊢
  have HU8 : Hid (user.size ≤ 100000) := Lib.hid (by omega)
  have HK8 : Hid (kind.size ≤ 100000) := Lib.hid (by omega)
  have HNF : Hid (Fit (numV n)) := Lib.hid (numV_fit hn1 hn2)
  have hsi : ¬ ((100 : Int) < (user.size : Int) + (kind.size : Int)) := by omega
  clear hT hx hm hl y hs hn1 hn2
  go_enter Tryd.func4, Tryd.ntmps4
  go_wp2_with fail
  refine HL.out.mono ?_
  clear HL
  rintro e w1 ⟨v, rfl, hv, hb⟩
  obtain ⟨E3, e3, E4, e4, rfl, _⟩ := hv.open_
  replace HT := Lib.hid (HT.out.below hb (Nat.le_refl _))
  have HBW := Lib.hid hb
  clear hb
  go_wp2_with fail
  have HB11 := Lib.hid (BoxOf.new hv)
  have hget := rget_any ((hv.bound.mono (ok' := fun k => k < w1.heap.size) (fun k hk => hk.2)).below ((Below.refl w1.heap.size w1).alloc (Nat.le_refl _) (.cells #[.int .i64 x.f0, .int .i64 x.f1, .string x.f2, .slice E3 x.f3.length e3, .slice E4 x.f4.length e4] 27))) bUsers
  have hb1 := (Below.refl w1.heap.size w1).alloc (Nat.le_refl _) (.cells #[.int .i64 x.f0, .int .i64 x.f1, .string x.f2, .slice E3 x.f3.length e3, .slice E4 x.f4.length e4] 27)
  generalize hW : w1.alloc (.cells #[.int .i64 x.f0, .int .i64 x.f1, .string x.f2, .slice E3 x.f3.length e3, .slice E4 x.f4.length e4] 27) = W2 at HB11 hget hb1 ⊢
  clear hW hv
  replace HT := Lib.hid (HT.out.below hb1 (Nat.le_refl _))
  replace HBW := Lib.hid (HBW.out.trans (Below.mono hb1 HBW.out.size))
  clear hb1
  refine hget.mono ?_
  clear hget
  rintro e w5 ⟨v, rfl, hv, hb⟩
  have HFu := Lib.hid (getD_fitk hSub.out.1)
  obtain ⟨u, hu⟩ : ∃ u, (getV x bUsers).getD zV = u := ⟨_, rfl⟩
  rw [hu] at hv HFu
  have HUu := Lib.hid hu
  clear hu
  obtain ⟨E3, e3, E4, e4, rfl, _⟩ := hv.open_
  replace HT := Lib.hid (HT.out.below hb (Nat.le_refl _))
  replace HBW := Lib.hid (HBW.out.trans (Below.mono hb HBW.out.size))
  replace HB11 := Lib.hid (HB11.out.below hb)
  clear hb
  go_wp2_with fail
  have HB12 := Lib.hid (BoxOf.new hv)
  have hb := (Below.refl w5.heap.size w5).alloc (Nat.le_refl _) (.cells #[.int .i64 u.f0, .int .i64 u.f1, .string u.f2, .slice E3 u.f3.length e3, .slice E4 u.f4.length e4] 27)
  generalize hW : w5.alloc (.cells #[.int .i64 u.f0, .int .i64 u.f1, .string u.f2, .slice E3 u.f3.length e3, .slice E4 u.f4.length e4] 27) = W5 at HB12 hb ⊢
  clear hW hv
  replace HT := Lib.hid (HT.out.below hb (Nat.le_refl _))
  replace HBW := Lib.hid (HBW.out.trans (Below.mono hb HBW.out.size))
  replace HB11 := Lib.hid (HB11.out.below hb)
  clear hb
  obtain ⟨y5, hz⟩ : ∃ z, putV u user (numV n) = z := ⟨_, rfl⟩
  have Hy5 := Lib.hid hz
  clear hz
  obtain ⟨z14, hz⟩ : ∃ z, putV x bUsers y5 = z := ⟨_, rfl⟩
  have Hz14 := Lib.hid hz
  clear hz
  obtain ⟨A11, a11, C11, c11, hc11, hv11⟩ := HB11.out.readD
  obtain ⟨A12, a12, C12, c12, hc12, hv12⟩ := HB12.out.readD
  refine region_box (L := 8) (i8 := 7) (i27 := 6) (d8 := 14) (d27 := 40) (z := z14) (pks := [.val (.agg #[.int .i64 x.f0, .int .i64 x.f1, .string x.f2, .slice A11 x.f3.length a11, .slice C11 x.f4.length c11]), .val (.agg #[.int .i64 u.f0, .int .i64 u.f1, .string u.f2, .slice A12 u.f3.length a12, .slice C12 u.f4.length c12]), .val (.string user), .val (.int .i64 n), .nv (numV n), .nv y5, .nv z14, .box0]) (by kernel_rfl) (by kernel_rfl) rfl rfl (by decide) (by decide) rfl rfl rfl rfl rfl rfl ?_ ?_
  · intro i hi
    have : i = 0 ∨ i = 1 ∨ i = 2 ∨ i = 3 ∨ i = 4 ∨ i = 5 ∨ i = 6 ∨ i = 7 := by omega
    rcases this with rfl | rfl | rfl | rfl | rfl | rfl | rfl | rfl
    · exact mk_load rfl rfl rfl rfl (by kernel_rfl) hc11 ⟨rfl, rfl, rfl, rfl, rfl⟩ rfl
    · exact mk_load rfl rfl rfl rfl (by kernel_rfl) hc12 ⟨rfl, rfl, rfl, rfl, rfl⟩ rfl
    · exact mk_move rfl rfl rfl rfl (by kernel_rfl) rfl
    · exact mk_move rfl rfl rfl rfl (by kernel_rfl) rfl
    · refine mk_call rfl rfl rfl eg19 (fun own a W hB hO hK hD => ?_)
      have g3 : a.tmps.getD 37 undef = _ := hD 3 37 (by kernel_rfl) rfl
      show Calls _ _ #[a.tmps.getD 37 undef] W _
      rw [g3]
      refine (num_any n (fun k => k < W.heap.size ∧ k ∉ own) W).mono ?_
      rintro e W' ⟨v, rfl, hv, hb⟩
      exact ⟨v, rfl, NV.made hv hO hb, hb⟩
    · refine mk_call rfl rfl rfl eg18 (fun own a W hB hO hK hD => ?_)
      have g1 : a.tmps.getD 35 undef = _ := hD 1 35 (by kernel_rfl) rfl
      have g2 : a.tmps.getD 36 undef = _ := hD 2 36 (by kernel_rfl) rfl
      have g4 := hD 4 38 (by kernel_rfl) rfl
      show Calls _ _ #[a.tmps.getD 35 undef, a.tmps.getD 36 undef, a.tmps.getD 38 undef] W _
      rw [g1, g2]
      refine (put_any (ok := fun k => k < W.heap.size ∧ k ∉ own) (NV.old hv12 hB hO) HFu.out.1 g4 user HU8.out).mono ?_
      rintro e W' ⟨v, rfl, hv, hb⟩
      rw [Hy5.out] at hv
      exact ⟨v, rfl, NV.made hv hO hb, hb⟩
    · refine mk_call rfl rfl rfl eg18 (fun own a W hB hO hK hD => ?_)
      have g0 : a.tmps.getD 34 undef = _ := hD 0 34 (by kernel_rfl) rfl
      have g5 := hD 5 39 (by kernel_rfl) rfl
      show Calls _ _ #[a.tmps.getD 34 undef, .string bUsers, a.tmps.getD 39 undef] W _
      rw [g0]
      refine (put_any (ok := fun k => k < W.heap.size ∧ k ∉ own) (NV.old hv11 hB hO) hFit.out.1 g5 bUsers (by decide)).mono ?_
      rintro e W' ⟨v, rfl, hv, hb⟩
      rw [Hz14.out] at hv
      exact ⟨v, rfl, NV.made hv hO hb, hb⟩
    · exact mk_box rfl rfl rfl rfl
  intro vs p14 W14 hvl e8 hb hp0 hlt hBn
  obtain ⟨u14_0, t0, rfl, hq0⟩ := len_cons hvl
  obtain ⟨u14_1, t1, rfl, hq1⟩ := len_cons hq0
  obtain ⟨u14_2, t2, rfl, hq2⟩ := len_cons hq1
  obtain ⟨u14_3, t3, rfl, hq3⟩ := len_cons hq2
  obtain ⟨u14_4, t4, rfl, hq4⟩ := len_cons hq3
  obtain ⟨u14_5, t5, rfl, hq5⟩ := len_cons hq4
  obtain ⟨u14_6, t6, rfl, hq6⟩ := len_cons hq5
  obtain ⟨u14_7, t7, rfl, hq7⟩ := len_cons hq6
  obtain ⟨u14_8, t8, rfl, hq8⟩ := len_cons hq7
  obtain rfl := List.length_eq_zero_iff.1 hq8
  have e8 : u14_7 = .pointer (some ⟨p14, 0, none⟩) := e8
  subst e8
  simp only [dstsOf, List.map_cons, List.map_nil, fillT, List.setIfInBounds_toArray, List.set_cons_zero, List.set_cons_succ]
  have HB14 := Lib.hid hBn.any
  clear hBn hlt hp0 hvl
  clear hc11 hv11
  clear hc12 hv12
  replace HT := Lib.hid (HT.out.below hb (Nat.le_refl _))
  replace HBW := Lib.hid (HBW.out.trans (Below.mono hb HBW.out.size))
  replace HB11 := Lib.hid (HB11.out.below hb)
  replace HB12 := Lib.hid (HB12.out.below hb)
  clear hb
  clear HB12
  obtain ⟨y6, hz⟩ : ∃ z, putV x bUsersDefault (numV n) = z := ⟨_, rfl⟩
  have Hy6 := Lib.hid hz
  clear hz
  obtain ⟨z15, hz⟩ : ∃ z, cutV y6 bUsers = z := ⟨_, rfl⟩
  have Hz15 := Lib.hid hz
  clear hz
  have HFy6 : Hid (FitK 21 y6) := Lib.hid (by rw [← Hy6.out]; exact putV_fit hFit.out (by omega) (by decide) HNF.out)
  go_wp2_with fail
  obtain ⟨A11, a11, C11, c11, hc11, hv11⟩ := HB11.out.readD
  refine region_box (L := 6) (i8 := 5) (i27 := 4) (d8 := 15) (d27 := 45) (z := z15) (pks := [.val (.agg #[.int .i64 x.f0, .int .i64 x.f1, .string x.f2, .slice A11 x.f3.length a11, .slice C11 x.f4.length c11]), .val (.int .i64 n), .nv (numV n), .nv y6, .nv z15, .box0]) (by kernel_rfl) (by kernel_rfl) rfl rfl (by decide) (by decide) rfl rfl rfl rfl rfl rfl ?_ ?_
  · intro i hi
    have : i = 0 ∨ i = 1 ∨ i = 2 ∨ i = 3 ∨ i = 4 ∨ i = 5 := by omega
    rcases this with rfl | rfl | rfl | rfl | rfl | rfl
    · exact mk_load rfl rfl rfl rfl (by kernel_rfl) hc11 ⟨rfl, rfl, rfl, rfl, rfl⟩ rfl
    · exact mk_move rfl rfl rfl rfl (by kernel_rfl) rfl
    · refine mk_call rfl rfl rfl eg19 (fun own a W hB hO hK hD => ?_)
      have g1 : a.tmps.getD 42 undef = _ := hD 1 42 (by kernel_rfl) rfl
      show Calls _ _ #[a.tmps.getD 42 undef] W _
      rw [g1]
      refine (num_any n (fun k => k < W.heap.size ∧ k ∉ own) W).mono ?_
      rintro e W' ⟨v, rfl, hv, hb⟩
      exact ⟨v, rfl, NV.made hv hO hb, hb⟩
    · refine mk_call rfl rfl rfl eg18 (fun own a W hB hO hK hD => ?_)
      have g0 : a.tmps.getD 41 undef = _ := hD 0 41 (by kernel_rfl) rfl
      have g2 := hD 2 43 (by kernel_rfl) rfl
      show Calls _ _ #[a.tmps.getD 41 undef, .string bUsersDefault, a.tmps.getD 43 undef] W _
      rw [g0]
      refine (put_any (ok := fun k => k < W.heap.size ∧ k ∉ own) (NV.old hv11 hB hO) hFit.out.1 g2 bUsersDefault (by decide)).mono ?_
      rintro e W' ⟨v, rfl, hv, hb⟩
      rw [Hy6.out] at hv
      exact ⟨v, rfl, NV.made hv hO hb, hb⟩
    · refine mk_call rfl rfl rfl eg20 (fun own a W hB hO hK hD => ?_)
      have g3 := hD 3 44 (by kernel_rfl) rfl
      show Calls _ _ #[a.tmps.getD 44 undef, .string bUsers] W _
      refine (cut_any (ok := fun k => k < W.heap.size ∧ k ∉ own) g3 HFy6.out.1 bUsers).mono ?_
      rintro e W' ⟨v, rfl, hv, hb⟩
      rw [Hz15.out] at hv
      exact ⟨v, rfl, NV.made hv hO hb, hb⟩
    · exact mk_box rfl rfl rfl rfl
  intro vs p15 W15 hvl e8 hb hp0 hlt hBn
  obtain ⟨u15_0, t0, rfl, hq0⟩ := len_cons hvl
  obtain ⟨u15_1, t1, rfl, hq1⟩ := len_cons hq0
  obtain ⟨u15_2, t2, rfl, hq2⟩ := len_cons hq1
  obtain ⟨u15_3, t3, rfl, hq3⟩ := len_cons hq2
  obtain ⟨u15_4, t4, rfl, hq4⟩ := len_cons hq3
  obtain ⟨u15_5, t5, rfl, hq5⟩ := len_cons hq4
  obtain ⟨u15_6, t6, rfl, hq6⟩ := len_cons hq5
  obtain rfl := List.length_eq_zero_iff.1 hq6
  have e8 : u15_5 = .pointer (some ⟨p15, 0, none⟩) := e8
  subst e8
  simp only [dstsOf, List.map_cons, List.map_nil, fillT, List.setIfInBounds_toArray, List.set_cons_zero, List.set_cons_succ]
  have HB15 := Lib.hid hBn.any
  clear hBn hlt hp0 hvl
  clear hc11 hv11
  replace HT := Lib.hid (HT.out.below hb (Nat.le_refl _))
  replace HBW := Lib.hid (HBW.out.trans (Below.mono hb HBW.out.size))
  replace HB11 := Lib.hid (HB11.out.below hb)
  replace HB14 := Lib.hid (HB14.out.below hb)
  clear hb
  obtain ⟨A11, a11, C11, c11, hc11, hv11⟩ := HB11.out.read
  have hget := rget_any hv11 bEvents
  obtain ⟨d0, d1, d2, d3, d4⟩ := hc11
  clear hv11
  go_wp2_with fail
  refine hget.mono ?_
  clear hget d0 d1 d2 d3 d4
  rintro e w7 ⟨v, rfl, hv, hb⟩
  have HFt := Lib.hid (getD_fitk hSub.out.2)
  obtain ⟨t, hu⟩ : ∃ u, (getV x bEvents).getD zV = u := ⟨_, rfl⟩
  rw [hu] at hv HFt
  have HUt := Lib.hid hu
  clear hu
  obtain ⟨E3, e3, E4, e4, rfl, _⟩ := hv.open_
  replace HT := Lib.hid (HT.out.below hb (Nat.le_refl _))
  replace HBW := Lib.hid (HBW.out.trans (Below.mono hb HBW.out.size))
  replace HB11 := Lib.hid (HB11.out.below hb)
  replace HB14 := Lib.hid (HB14.out.below hb)
  replace HB15 := Lib.hid (HB15.out.below hb)
  clear hb
  go_wp2_with fail
  have HB16 := Lib.hid (BoxOf.new hv)
  have hb := (Below.refl w7.heap.size w7).alloc (Nat.le_refl _) (.cells #[.int .i64 t.f0, .int .i64 t.f1, .string t.f2, .slice E3 t.f3.length e3, .slice E4 t.f4.length e4] 27)
  generalize hW : w7.alloc (.cells #[.int .i64 t.f0, .int .i64 t.f1, .string t.f2, .slice E3 t.f3.length e3, .slice E4 t.f4.length e4] 27) = W7 at HB16 hb ⊢
  clear hW hv
  replace HT := Lib.hid (HT.out.below hb (Nat.le_refl _))
  replace HBW := Lib.hid (HBW.out.trans (Below.mono hb HBW.out.size))
  replace HB11 := Lib.hid (HB11.out.below hb)
  replace HB14 := Lib.hid (HB14.out.below hb)
  replace HB15 := Lib.hid (HB15.out.below hb)
  clear hb
  obtain ⟨y8, hz⟩ : ∃ z, putV t kind (numV n) = z := ⟨_, rfl⟩
  have Hy8 := Lib.hid hz
  clear hz
  obtain ⟨z18, hz⟩ : ∃ z, putV x bEvents y8 = z := ⟨_, rfl⟩
  have Hz18 := Lib.hid hz
  clear hz
  obtain ⟨A11, a11, C11, c11, hc11, hv11⟩ := HB11.out.readD
  obtain ⟨A16, a16, C16, c16, hc16, hv16⟩ := HB16.out.readD
  refine region_box (L := 8) (i8 := 7) (i27 := 6) (d8 := 18) (d27 := 57) (z := z18) (pks := [.val (.agg #[.int .i64 x.f0, .int .i64 x.f1, .string x.f2, .slice A11 x.f3.length a11, .slice C11 x.f4.length c11]), .val (.agg #[.int .i64 t.f0, .int .i64 t.f1, .string t.f2, .slice A16 t.f3.length a16, .slice C16 t.f4.length c16]), .val (.string kind), .val (.int .i64 n), .nv (numV n), .nv y8, .nv z18, .box0]) (by kernel_rfl) (by kernel_rfl) rfl rfl (by decide) (by decide) rfl rfl rfl rfl rfl rfl ?_ ?_
  · intro i hi
    have : i = 0 ∨ i = 1 ∨ i = 2 ∨ i = 3 ∨ i = 4 ∨ i = 5 ∨ i = 6 ∨ i = 7 := by omega
    rcases this with rfl | rfl | rfl | rfl | rfl | rfl | rfl | rfl
    · exact mk_load rfl rfl rfl rfl (by kernel_rfl) hc11 ⟨rfl, rfl, rfl, rfl, rfl⟩ rfl
    · exact mk_load rfl rfl rfl rfl (by kernel_rfl) hc16 ⟨rfl, rfl, rfl, rfl, rfl⟩ rfl
    · exact mk_move rfl rfl rfl rfl (by kernel_rfl) rfl
    · exact mk_move rfl rfl rfl rfl (by kernel_rfl) rfl
    · refine mk_call rfl rfl rfl eg19 (fun own a W hB hO hK hD => ?_)
      have g3 : a.tmps.getD 54 undef = _ := hD 3 54 (by kernel_rfl) rfl
      show Calls _ _ #[a.tmps.getD 54 undef] W _
      rw [g3]
      refine (num_any n (fun k => k < W.heap.size ∧ k ∉ own) W).mono ?_
      rintro e W' ⟨v, rfl, hv, hb⟩
      exact ⟨v, rfl, NV.made hv hO hb, hb⟩
    · refine mk_call rfl rfl rfl eg18 (fun own a W hB hO hK hD => ?_)
      have g1 : a.tmps.getD 52 undef = _ := hD 1 52 (by kernel_rfl) rfl
      have g2 : a.tmps.getD 53 undef = _ := hD 2 53 (by kernel_rfl) rfl
      have g4 := hD 4 55 (by kernel_rfl) rfl
      show Calls _ _ #[a.tmps.getD 52 undef, a.tmps.getD 53 undef, a.tmps.getD 55 undef] W _
      rw [g1, g2]
      refine (put_any (ok := fun k => k < W.heap.size ∧ k ∉ own) (NV.old hv16 hB hO) HFt.out.1 g4 kind HK8.out).mono ?_
      rintro e W' ⟨v, rfl, hv, hb⟩
      rw [Hy8.out] at hv
      exact ⟨v, rfl, NV.made hv hO hb, hb⟩
    · refine mk_call rfl rfl rfl eg18 (fun own a W hB hO hK hD => ?_)
      have g0 : a.tmps.getD 51 undef = _ := hD 0 51 (by kernel_rfl) rfl
      have g5 := hD 5 56 (by kernel_rfl) rfl
      show Calls _ _ #[a.tmps.getD 51 undef, .string bEvents, a.tmps.getD 56 undef] W _
      rw [g0]
      refine (put_any (ok := fun k => k < W.heap.size ∧ k ∉ own) (NV.old hv11 hB hO) hFit.out.1 g5 bEvents (by decide)).mono ?_
      rintro e W' ⟨v, rfl, hv, hb⟩
      rw [Hz18.out] at hv
      exact ⟨v, rfl, NV.made hv hO hb, hb⟩
    · exact mk_box rfl rfl rfl rfl
  intro vs p18 W18 hvl e8 hb hp0 hlt hBn
  obtain ⟨u18_0, t0, rfl, hq0⟩ := len_cons hvl
  obtain ⟨u18_1, t1, rfl, hq1⟩ := len_cons hq0
  obtain ⟨u18_2, t2, rfl, hq2⟩ := len_cons hq1
  obtain ⟨u18_3, t3, rfl, hq3⟩ := len_cons hq2
  obtain ⟨u18_4, t4, rfl, hq4⟩ := len_cons hq3
  obtain ⟨u18_5, t5, rfl, hq5⟩ := len_cons hq4
  obtain ⟨u18_6, t6, rfl, hq6⟩ := len_cons hq5
  obtain ⟨u18_7, t7, rfl, hq7⟩ := len_cons hq6
  obtain ⟨u18_8, t8, rfl, hq8⟩ := len_cons hq7
  obtain rfl := List.length_eq_zero_iff.1 hq8
  have e8 : u18_7 = .pointer (some ⟨p18, 0, none⟩) := e8
  subst e8
  simp only [dstsOf, List.map_cons, List.map_nil, fillT, List.setIfInBounds_toArray, List.set_cons_zero, List.set_cons_succ]
  have HB18 := Lib.hid hBn.any
  clear hBn hlt hp0 hvl
  clear hc11 hv11
  clear hc16 hv16
  replace HT := Lib.hid (HT.out.below hb (Nat.le_refl _))
  replace HBW := Lib.hid (HBW.out.trans (Below.mono hb HBW.out.size))
  replace HB11 := Lib.hid (HB11.out.below hb)
  replace HB14 := Lib.hid (HB14.out.below hb)
  replace HB15 := Lib.hid (HB15.out.below hb)
  replace HB16 := Lib.hid (HB16.out.below hb)
  clear hb
  clear HB16
  obtain ⟨y9, hz⟩ : ∃ z, putV x bStateDefault (numV n) = z := ⟨_, rfl⟩
  have Hy9 := Lib.hid hz
  clear hz
  obtain ⟨x9, hz⟩ : ∃ z, putV y9 bEventsDefault (numV n) = z := ⟨_, rfl⟩
  have Hx9 := Lib.hid hz
  clear hz
  obtain ⟨z19, hz⟩ : ∃ z, cutV x9 bEvents = z := ⟨_, rfl⟩
  have Hz19 := Lib.hid hz
  clear hz
  have HFy9 : Hid (FitK 21 y9) := Lib.hid (by rw [← Hy9.out]; exact putV_fit hFit.out (by omega) (by decide) HNF.out)
  have HFx9 : Hid (FitK 22 x9) := Lib.hid (by rw [← Hx9.out]; exact putV_fit HFy9.out (by omega) (by decide) HNF.out)
  go_wp2_with fail
  obtain ⟨A11, a11, C11, c11, hc11, hv11⟩ := HB11.out.readD
  refine region_box (L := 9) (i8 := 8) (i27 := 7) (d8 := 19) (d27 := 65) (z := z19) (pks := [.val (.agg #[.int .i64 x.f0, .int .i64 x.f1, .string x.f2, .slice A11 x.f3.length a11, .slice C11 x.f4.length c11]), .val (.int .i64 n), .nv (numV n), .nv y9, .val (.int .i64 n), .nv (numV n), .nv x9, .nv z19, .box0]) (by kernel_rfl) (by kernel_rfl) rfl rfl (by decide) (by decide) rfl rfl rfl rfl rfl rfl ?_ ?_
  · intro i hi
    have : i = 0 ∨ i = 1 ∨ i = 2 ∨ i = 3 ∨ i = 4 ∨ i = 5 ∨ i = 6 ∨ i = 7 ∨ i = 8 := by omega
    rcases this with rfl | rfl | rfl | rfl | rfl | rfl | rfl | rfl | rfl
    · exact mk_load rfl rfl rfl rfl (by kernel_rfl) hc11 ⟨rfl, rfl, rfl, rfl, rfl⟩ rfl
    · exact mk_move rfl rfl rfl rfl (by kernel_rfl) rfl
    · refine mk_call rfl rfl rfl eg19 (fun own a W hB hO hK hD => ?_)
      have g1 : a.tmps.getD 59 undef = _ := hD 1 59 (by kernel_rfl) rfl
      show Calls _ _ #[a.tmps.getD 59 undef] W _
      rw [g1]
      refine (num_any n (fun k => k < W.heap.size ∧ k ∉ own) W).mono ?_
      rintro e W' ⟨v, rfl, hv, hb⟩
      exact ⟨v, rfl, NV.made hv hO hb, hb⟩
    · refine mk_call rfl rfl rfl eg18 (fun own a W hB hO hK hD => ?_)
      have g0 : a.tmps.getD 58 undef = _ := hD 0 58 (by kernel_rfl) rfl
      have g2 := hD 2 60 (by kernel_rfl) rfl
      show Calls _ _ #[a.tmps.getD 58 undef, .string bStateDefault, a.tmps.getD 60 undef] W _
      rw [g0]
      refine (put_any (ok := fun k => k < W.heap.size ∧ k ∉ own) (NV.old hv11 hB hO) hFit.out.1 g2 bStateDefault (by decide)).mono ?_
      rintro e W' ⟨v, rfl, hv, hb⟩
      rw [Hy9.out] at hv
      exact ⟨v, rfl, NV.made hv hO hb, hb⟩
    · exact mk_move rfl rfl rfl rfl (by kernel_rfl) rfl
    · refine mk_call rfl rfl rfl eg19 (fun own a W hB hO hK hD => ?_)
      have g4 : a.tmps.getD 62 undef = _ := hD 4 62 (by kernel_rfl) rfl
      show Calls _ _ #[a.tmps.getD 62 undef] W _
      rw [g4]
      refine (num_any n (fun k => k < W.heap.size ∧ k ∉ own) W).mono ?_
      rintro e W' ⟨v, rfl, hv, hb⟩
      exact ⟨v, rfl, NV.made hv hO hb, hb⟩
    · refine mk_call rfl rfl rfl eg18 (fun own a W hB hO hK hD => ?_)
      have g3 := hD 3 61 (by kernel_rfl) rfl
      have g5 := hD 5 63 (by kernel_rfl) rfl
      show Calls _ _ #[a.tmps.getD 61 undef, .string bEventsDefault, a.tmps.getD 63 undef] W _
      refine (put_any (ok := fun k => k < W.heap.size ∧ k ∉ own) g3 HFy9.out.1 g5 bEventsDefault (by decide)).mono ?_
      rintro e W' ⟨v, rfl, hv, hb⟩
      rw [Hx9.out] at hv
      exact ⟨v, rfl, NV.made hv hO hb, hb⟩
    · refine mk_call rfl rfl rfl eg20 (fun own a W hB hO hK hD => ?_)
      have g6 := hD 6 64 (by kernel_rfl) rfl
      show Calls _ _ #[a.tmps.getD 64 undef, .string bEvents] W _
      refine (cut_any (ok := fun k => k < W.heap.size ∧ k ∉ own) g6 HFx9.out.1 bEvents).mono ?_
      rintro e W' ⟨v, rfl, hv, hb⟩
      rw [Hz19.out] at hv
      exact ⟨v, rfl, NV.made hv hO hb, hb⟩
    · exact mk_box rfl rfl rfl rfl
  intro vs p19 W19 hvl e8 hb hp0 hlt hBn
  obtain ⟨u19_0, t0, rfl, hq0⟩ := len_cons hvl
  obtain ⟨u19_1, t1, rfl, hq1⟩ := len_cons hq0
  obtain ⟨u19_2, t2, rfl, hq2⟩ := len_cons hq1
  obtain ⟨u19_3, t3, rfl, hq3⟩ := len_cons hq2
  obtain ⟨u19_4, t4, rfl, hq4⟩ := len_cons hq3
  obtain ⟨u19_5, t5, rfl, hq5⟩ := len_cons hq4
  obtain ⟨u19_6, t6, rfl, hq6⟩ := len_cons hq5
  obtain ⟨u19_7, t7, rfl, hq7⟩ := len_cons hq6
  obtain ⟨u19_8, t8, rfl, hq8⟩ := len_cons hq7
  obtain ⟨u19_9, t9, rfl, hq9⟩ := len_cons hq8
  obtain rfl := List.length_eq_zero_iff.1 hq9
  have e8 : u19_8 = .pointer (some ⟨p19, 0, none⟩) := e8
  subst e8
  simp only [dstsOf, List.map_cons, List.map_nil, fillT, List.setIfInBounds_toArray, List.set_cons_zero, List.set_cons_succ]
  have HB19 := Lib.hid hBn.any
  clear hBn hlt hp0 hvl
  clear hc11 hv11
  replace HT := Lib.hid (HT.out.below hb (Nat.le_refl _))
  replace HBW := Lib.hid (HBW.out.trans (Below.mono hb HBW.out.size))
  replace HB11 := Lib.hid (HB11.out.below hb)
  replace HB14 := Lib.hid (HB14.out.below hb)
  replace HB15 := Lib.hid (HB15.out.below hb)
  replace HB18 := Lib.hid (HB18.out.below hb)
  clear hb
  go_wp2_with fail
  refine (known_any _ HT.out).mono ?_
  rintro e w_1 ⟨rfl, hb⟩
  replace HT := Lib.hid (HT.out.below hb (Nat.le_refl _))
  replace HBW := Lib.hid (HBW.out.trans (Below.mono hb HBW.out.size))
  replace HB11 := Lib.hid (HB11.out.below hb)
  replace HB14 := Lib.hid (HB14.out.below hb)
  replace HB15 := Lib.hid (HB15.out.below hb)
  replace HB18 := Lib.hid (HB18.out.below hb)
  replace HB19 := Lib.hid (HB19.out.below hb)
  clear hb
  obtain ⟨A14, a14, C14, c14, hc14, hv14⟩ := HB14.out.read
  have hval := level_has hv14 (by rw [← Hz14.out, ← Hy5.out]; exact (putV_fit hFit.out (by omega) (by decide) (putV_fit HFu.out (by omega) HU8.out HNF.out).1).1) ⟨#[]⟩ user
  rw [show levelV z14 true ⟨#[]⟩ user = n by rw [← Hz14.out, ← Hy5.out, ← HUu.out]; exact named_level hLev.out _ _ _] at hval
  obtain ⟨d0, d1, d2, d3, d4⟩ := hc14
  clear hv14
  go_wp2_with fail
  refine hval.mono ?_
  clear hval d0 d1 d2 d3 d4
  rintro e w_2 ⟨rfl, hb⟩
  replace HT := Lib.hid (HT.out.below hb (Nat.le_refl _))
  replace HBW := Lib.hid (HBW.out.trans (Below.mono hb HBW.out.size))
  replace HB11 := Lib.hid (HB11.out.below hb)
  replace HB14 := Lib.hid (HB14.out.below hb)
  replace HB15 := Lib.hid (HB15.out.below hb)
  replace HB18 := Lib.hid (HB18.out.below hb)
  replace HB19 := Lib.hid (HB19.out.below hb)
  clear hb
  obtain ⟨A15, a15, C15, c15, hc15, hv15⟩ := HB15.out.read
  have hval := level_has hv15 (by rw [← Hz15.out]; exact (cutV_fit HFy6.out (by omega)).1) user user
  rw [show levelV z15 true user user = n by rw [← Hz15.out, ← Hy6.out]; exact named_gone hLev.out hOnce.out _ _ _] at hval
  obtain ⟨d0, d1, d2, d3, d4⟩ := hc15
  clear hv15
  go_wp2_with fail
  refine hval.mono ?_
  clear hval d0 d1 d2 d3 d4
  rintro e w_3 ⟨rfl, hb⟩
  replace HT := Lib.hid (HT.out.below hb (Nat.le_refl _))
  replace HBW := Lib.hid (HBW.out.trans (Below.mono hb HBW.out.size))
  replace HB11 := Lib.hid (HB11.out.below hb)
  replace HB14 := Lib.hid (HB14.out.below hb)
  replace HB15 := Lib.hid (HB15.out.below hb)
  replace HB18 := Lib.hid (HB18.out.below hb)
  replace HB19 := Lib.hid (HB19.out.below hb)
  clear hb
  obtain ⟨A18, a18, C18, c18, hc18, hv18⟩ := HB18.out.read
  have hval := need_is hv18 (by rw [← Hz18.out, ← Hy8.out]; exact (putV_fit hFit.out (by omega) (by decide) (putV_fit HFt.out (by omega) HK8.out HNF.out).1).1) kind is
  rw [show needV z18 true kind is = n by rw [← Hz18.out, ← Hy8.out, ← HUt.out]; exact named_need hLev.out _ _ _] at hval
  obtain ⟨d0, d1, d2, d3, d4⟩ := hc18
  clear hv18
  go_wp2_with fail
  refine hval.mono ?_
  clear hval d0 d1 d2 d3 d4
  rintro e w_4 ⟨rfl, hb⟩
  replace HT := Lib.hid (HT.out.below hb (Nat.le_refl _))
  replace HBW := Lib.hid (HBW.out.trans (Below.mono hb HBW.out.size))
  replace HB11 := Lib.hid (HB11.out.below hb)
  replace HB14 := Lib.hid (HB14.out.below hb)
  replace HB15 := Lib.hid (HB15.out.below hb)
  replace HB18 := Lib.hid (HB18.out.below hb)
  replace HB19 := Lib.hid (HB19.out.below hb)
  clear hb
  obtain ⟨A19, a19, C19, c19, hc19, hv19⟩ := HB19.out.read
  have hval := need_is hv19 (by rw [← Hz19.out]; exact (cutV_fit HFx9.out (by omega)).1) kind is
  rw [show needV z19 true kind is = n by rw [← Hz19.out, ← Hx9.out, ← Hy9.out]; exact named_none hLev.out hOnce.out _ _ _] at hval
  obtain ⟨d0, d1, d2, d3, d4⟩ := hc19
  clear hv19
  go_wp2_with fail
  refine hval.mono ?_
  clear hval d0 d1 d2 d3 d4
  rintro e w_5 ⟨rfl, hb⟩
  replace HT := Lib.hid (HT.out.below hb (Nat.le_refl _))
  replace HBW := Lib.hid (HBW.out.trans (Below.mono hb HBW.out.size))
  replace HB11 := Lib.hid (HB11.out.below hb)
  replace HB14 := Lib.hid (HB14.out.below hb)
  replace HB15 := Lib.hid (HB15.out.below hb)
  replace HB18 := Lib.hid (HB18.out.below hb)
  replace HB19 := Lib.hid (HB19.out.below hb)
  clear hb
  go_wp2_with fail
  go_ret
  exact ⟨rfl, HBW.out⟩
set_option maxRecDepth 100000 in
theorem powerNamed_walk (a0 : Option Addr) (len0 cap0 : Nat) (z0 : List Int) (a1 : Int) (a2 a3 : ByteArray) (a4 : Bool) (W : World)
    (x0 : z0.length = len0) (y0 : RowAt W a0 (z0.map (.int .u8))) (u0 : ∀ z ∈ z0, (Lit.int .u8 z).wf = true) (b0 : len0 * 1 ≤ 140737488351232) (c0 : len0 ≤ cap0) (m0 : cap0 ≤ maxLen) (u1 : (Lit.int .i64 a1).wf = true) (s2 : a2.size ≤ 140737488351232) (s3 : a3.size ≤ 140737488351232) (hT : Tabs W) :
    Calls Tryd.prog 4 #[.slice a0 len0 cap0, .int .i64 a1, .string a2, .string a3, .bool a4] W fun e w' => e = .returned (.bool true) ∧ Below W.heap.size W w' := by
  obtain ⟨l, hl, hy⟩ := bytes8_row y0 u0
  have hn : -9223372036854775808 ≤ a1 ∧ a1 ≤ 9223372036854775807 := by simpa [Lit.wf, IntKind.min, IntKind.max, IntKind.signed, IntKind.bits] using u1
  by_cases hs : a2.size + a3.size ≤ 100
  · have h := named_go a0 cap0 l a1 a2 a3 a4 W hs hn.1 hn.2 (by omega) hy hT
    rw [hl, x0] at h
    exact h
  · have hsi : (100 : Int) < (a2.size : Int) + (a3.size : Int) := by omega
    have HK := Lib.hid (known_any W hT)
    clear hy u0 y0 hl hs u1 hn
    go_enter Tryd.func4, Tryd.ntmps4
    go_wp2_with fail
    refine HK.out.mono ?_
    rintro e w1 ⟨rfl, hb⟩
    go_wp2_with fail
    go_ret
    exact ⟨rfl, hb⟩
end Go.Proofs.YtkdicgendcdooaaDoor

/-
  The row of the law PowerNamed: whatever the input, it answers true and leaves its arguments as they were; out of its walk.
-/
namespace Go.Proofs.YtkdicgendcdooaaDoor.powerNamed
open Go.ChangeShapes Go.WideShapes Go.ChangeAt Go.RowKit
open Go.ChangeMaps (open_string shut_string)
theorem own : ownKnob Tryd.prog.godebug = none := by kernel_rfl
theorem laidOut : laidOutB Tryd.prog = true := by kernel_rfl
set_option maxRecDepth 100000 in
theorem lifted (os : Os) (started : os.Started) (H : Type) (enc : TypeId × Value → H) :
    ReturnsInHanded {} Tryd.checked os 4 .any (fun w args => (Rows.powerNamedSpec.pre enc Tryd.prog Tryd.f4 Rows.powerNamedRow.domain false w args ∧ laidMetH Tryd.prog Rows.powerNamedRow.laid w) ∧ sizedMet enc Tryd.prog Tryd.f4 (OpenSpec.ofChange Rows.powerNamedSpec) false w args)
      (Rows.powerNamedSpec.post enc Tryd.prog Tryd.f4 false true false false) := by
  refine returnsInHanded_of_change_and (C := Tryd.checked) (X := fun w _ => laidMetH Tryd.prog Rows.powerNamedRow.laid w) (fun _ _ _ hh h => h.of_heap hh) own started (by kernel_rfl) Tryd.func4
    (ChangeSpec.witness_shaped (enc := enc) (C := Tryd.checked) (os := os) (X := fun w _ => laidMetH Tryd.prog Rows.powerNamedRow.laid w) false (World.laidAll Tryd.prog os Rows.powerNamedRow.laid) #[.slice none 0 0, .int .i64 0, .string ByteArray.empty, .string ByteArray.empty, .bool false] 8 (World.laidAll_os _ _ _)
      (World.shaped_of_ZipB (by kernel_rfl) (by kernel_rfl)) (by kernel_rfl) (by kernel_rfl) (by kernel_rfl)
      (by rw [MakeChecks.laidMetH_plain _ _ _ (by kernel_rfl)]; exact laidMet_laidAll _ (by kernel_rfl) (by kernel_rfl))) ?_
  intro W base args ds gs before hval0 hW _ hsz0 hL _
  have hsz : (DataW.weightsEach Tryd.prog (Tryd.f4.params.toList ++ Rows.powerNamedSpec.plain.varTypes Tryd.prog) (ds ++ gs)).all (· ≤ reachBytes) = true := hsz0
  have hval : ∀ (j : Nat) t v, Tryd.f4.params[j]? = some t → args[j]? = some v → Value.okWide Tryd.prog W .any base t v := hval0
  have hW' := hW
  obtain ⟨p, q, hA0, hV, rfl, hfz, hnd⟩ := hW
  have hA : DataW.TrodAll enc Tryd.prog W 0 (fun _ => true) true Tryd.f4.params.toList args.toList ds p := hA0
  rw [Tryd.params4] at hA hval hsz
  obtain ⟨v0, vs0, d0, ds0, p0, q0, hargs, rfl, rfl, h0, r0⟩ := trodAll_cons hA
  obtain ⟨v1, vs1, d1, ds1, p1, q1, rfl, rfl, rfl, h1, r1⟩ := trodAll_cons r0
  obtain ⟨v2, vs2, d2, ds2, p2, q2, rfl, rfl, rfl, h2, r2⟩ := trodAll_cons r1
  obtain ⟨v3, vs3, d3, ds3, p3, q3, rfl, rfl, rfl, h3, r3⟩ := trodAll_cons r2
  obtain ⟨v4, vs4, d4, ds4, p4, q4, rfl, rfl, rfl, h4, r4⟩ := trodAll_cons r3
  obtain ⟨rfl, rfl, rfl⟩ := trodAll_nil r4
  obtain rfl : args = #[v0, v1, v2, v3, v4] := by cases args; simp_all
  obtain ⟨rfl, rfl⟩ := trodVars_none hV
  obtain ⟨a0, len0, cap0, rfl⟩ := okWide_slice Tryd.underlying22 (hval 0 22 v0 rfl rfl)
  have k0 := h0
  have lt0 : ∀ x ∈ p0, x.block < W.heap.size := by obtain ⟨m, hm⟩ := k0; exact DataW.trod_lt m _ _ _ hm
  obtain ⟨z0, x0, y0, u0, b0, c0, m0⟩ := open_nums hsz (j := 0) (t := 22) rfl rfl Tryd.underlying22 Tryd.underlying5 (by kernel_rfl) (B := 1) (by kernel_rfl) h0
  obtain ⟨a1, rfl, rfl, rfl, w1⟩ := open_int Tryd.underlying2 (hval 1 2 v1 rfl rfl) h1
  obtain ⟨a2, rfl, rfl, rfl, y2⟩ := open_string Tryd.underlying9 (hval 2 9 v2 rfl rfl) h2
  have w2 : a2.size ≤ 140737488351232 := by
    have z := sized_string hsz (j := 2) (t := 9) rfl rfl
    rw [Array.length_toList] at z
    exact z
  obtain ⟨a3, rfl, rfl, rfl, y3⟩ := open_string Tryd.underlying9 (hval 3 9 v3 rfl rfl) h3
  have w3 : a3.size ≤ 140737488351232 := by
    have z := sized_string hsz (j := 3) (t := 9) rfl rfl
    rw [Array.length_toList] at z
    exact z
  obtain ⟨a4, rfl, rfl, rfl⟩ := open_bool Tryd.underlying4 (hval 4 4 v4 rfl rfl) h4
  have hLF := tabs_laid hL
  refine (powerNamed_walk a0 len0 cap0 z0 a1 a2 a3 a4 W x0 y0 u0 b0 c0 m0 w1 w2 w3 hLF).mono fun e W' ⟨he, bel⟩ => ?_
  subst he
  exact ⟨_, rfl, _, _, _, [], _, [], hW', trodAll_mk1 (shut_bool Tryd.underlying4 _), (trodAll_cons_mk (Below.trod laidOut (by kernel_rfl) (of_decide_eq_true (by kernel_rfl)) k0 bel lt0) (trodAll_cons_mk (shut_int Tryd.underlying2 w1) (trodAll_cons_mk (shut_string Tryd.underlying9 y2) (trodAll_cons_mk (shut_string Tryd.underlying9 y3) (trodAll_cons_mk (shut_bool Tryd.underlying4 _) trodAll_mk0))))), rfl, bel.frame _, fun h => by cases h⟩
theorem over : Rows.powerNamedRow.holds Tryd.pinned (OpenSpec.ofChange Rows.powerNamedSpec) :=
  OpenClaim.holds_of_wide 4 Tryd.f4 rfl rfl rfl rfl rfl rfl rfl ⟨rfl, rfl, rfl, rfl, rfl⟩ rfl rfl rfl rfl rfl (by kernel_rfl) Tryd.func4 (by kernel_rfl)
    (of_decide_eq_true (by kernel_rfl)) (by unfold Func.isWrapper; first | (rw [if_pos (by decide +kernel)]; kernel_rfl) | (rw [if_neg (by decide +kernel)]; exact ⟨rfl, rfl⟩))
    (fun os started H enc _ => lifted os started H enc)
theorem card : Rows.PowerNamedCardSaid :=
  Claim7.holds_tied_plain_at .later [] [.listed, .data] true (true, "4f1c08a675811627051cff13577676a97a6e49129b751d86a50caffb64183432") false over (fun _ h => by cases h) (by kernel_rfl) (fun _ h => by cases h) powerNamed_row_tie rfl ⟨rfl, rfl⟩ (by kernel_rfl) rfl
    (fun f fn hf hfn => by
      obtain rfl : f = 4 := Option.some.inj ((show Tryd.prog.funcNamed "heliast/heliastlaw14.PowerNamed" = some 4 by kernel_rfl).symm.trans hf) |>.symm
      obtain rfl : fn = Tryd.f4 := (Option.some.inj (Tryd.func4.symm.trans hfn)).symm
      exact ⟨by kernel_rfl, fun j t ht => by
        rw [Tryd.params4] at ht
        have hm : t ∈ [22, 2, 9, 9, 4] := by simpa using Array.mem_of_getElem? ht
        have hall : ([22, 2, 9, 9, 4].all fun u => !Tryd.prog.wantsStandIn u) = true := by kernel_rfl
        exact (show Tryd.prog.wantsStandIn t = false by simpa using List.all_eq_true.1 hall t hm)⟩)
    (by kernel_rfl)
end Go.Proofs.YtkdicgendcdooaaDoor.powerNamed
namespace Go.Proofs.YtkdicgendcdooaaDoor
/-- The row, under a short name. -/
theorem powerNamed_holds : Rows.PowerNamedCardSaid := powerNamed.card
#print axioms powerNamed_holds
end Go.Proofs.YtkdicgendcdooaaDoor

