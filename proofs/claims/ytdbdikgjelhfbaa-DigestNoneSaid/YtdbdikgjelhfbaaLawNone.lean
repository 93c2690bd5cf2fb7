/-
  The law DigestNone, walked: whatever the bytes and the byte, it answers true.
-/
import Derived.Test.YtdbdikgjelhfbaaLawBytes
namespace Go.Proofs.Ytdbdikgjelhfbaa
open Go.RowKit Go.Shelf Sha Go.Proofs.YtdbdikgjelhfbaaW.PrintWords Go.Proofs.YtdbdikgjelhfbaaW.PrintLast
set_option linter.unusedSimpArgs false
/-- A byte of a row of the call's own is written: the row's block is all that turns. -/
theorem OwnB.cellAt {w : World} {base g n c : Nat} {l : List UInt8} (h : OwnB w base (.slice (some ⟨g, 0, none⟩) n c) l) (i : Nat) (hi : i < l.length) : w.cell? ⟨g, i, none⟩ = some (.int .u8 ((l.getD i 0).toNat : Int)) ∧ w.frozen? ⟨g, i, none⟩ = false := by
  have hn : n = l.length := by have := (Kd.R_reads' h).1; rwa [intsB_length] at this
  have := Kd.R_celln (0 : Int) h (i : Int) (by omega) (by omega)
  rw [Int.toNat_natCast] at this
  refine ⟨?_, this.2⟩
  rw [this.1]
  have e : rdOf 0 (intsB l) (i : Int) = rd (intsB l) (i : Int) := rfl
  rw [e, rd_intsB]
theorem OwnB.put {w : World} {base g n c : Nat} {l : List UInt8} (h : OwnB w base (.slice (some ⟨g, 0, none⟩) n c) l) (i : Nat) (x : UInt8) : OwnB (w.setCell ⟨g, i, none⟩ (.int .u8 (x.toNat : Int))) base (.slice (some ⟨g, 0, none⟩) n c) (l.set i x) := by
  have := Kd.R_putn h (i : Int) (x.toNat : Int)
  rw [Int.toNat_natCast] at this
  unfold OwnB
  have e : intsB (l.set i x) = (intsB l).set i (x.toNat : Int) := by simp [intsB, List.map_set]
  rw [e]; exact this
theorem Rd.set {w : World} {a : Option Addr} {l : List UInt8} (h : Rd w a l) (g i : Nat) (v : Value) (hne : ∀ b, a = some b → 0 < l.length → b.block ≠ g) : Rd (w.setCell ⟨g, i, none⟩ v) a l :=
  h.grown (grownBy_set w g i v) (fun b e hp => by simpa using hne b e hp)
theorem OwnB.setOther {w : World} {base : Nat} {v u : Value} {l : List UInt8} (h : OwnB w base v l) (g i : Nat) (hne : ∀ k, v.ownBlock = some k → k ≠ g) : OwnB (w.setCell ⟨g, i, none⟩ u) base v l :=
  h.kept (grownBy_set w g i u) (fun k hk => by simpa using hne k hk)
/-- As Holds; what is kept lies from a place on. -/
def HoldsFrom (B : Nat) (W : World) (p : Nat) (d : List UInt8) : Prop :=
  ∃ (al : Option Addr) (cl : Nat), HashAt W p (run init d (d.length / 64)) (.slice al (d.drop (64 * (d.length / 64))).length cl) d.length ∧ Rd W al (d.drop (64 * (d.length / 64))) ∧ ∀ a, al = some a → a.block ≠ p ∧ a.block < W.heap.size ∧ B ≤ a.block
theorem HoldsFrom.holds {B : Nat} {W : World} {p : Nat} {d : List UInt8} (h : HoldsFrom B W p d) : Holds W p d := by
  obtain ⟨al, cl, h1, h2, h3⟩ := h
  exact ⟨al, cl, h1, h2, fun a e => ⟨(h3 a e).1, (h3 a e).2.1⟩⟩
theorem HoldsFrom.set {B : Nat} {W : World} {p : Nat} {d : List UInt8} (h : HoldsFrom B W p d) (g i : Nat) (v : Value) (hg : g < B) (hgp : g ≠ p) : HoldsFrom B (W.setCell ⟨g, i, none⟩ v) p d := by
  obtain ⟨al, cl, h1, h2, h3⟩ := h
  refine ⟨al, cl, h1.of_heap (World.setCell_heap_ne i v (Ne.symm hgp)), h2.set g i v (fun b e _ => by have := (h3 b e).2.2; omega), fun a e => ?_⟩
  have := h3 a e
  exact ⟨this.1, by simpa [World.setCell] using this.2.1, this.2.2⟩
theorem write_from (p : Nat) (d b : List UInt8) (ab : Option Addr) (cb : Nat) (w : World) (h : Holds w p d) (hb : Rd w ab b) (hab : ∀ a, ab = some a → 0 < b.length → a.block ≠ p) (hlen : d.length + b.length ≤ 1099511627776) :
    Calls Try.prog 11 #[.pointer (some ⟨p, 0, none⟩), .slice ab b.length cb] w fun e w' => e = .returned (.int .i64 b.length) ∧ HoldsFrom w.heap.size w' p (d ++ b) ∧ w.grownBy w' (some p) := by
  obtain ⟨al, cl, hp, hl, hal⟩ := h
  refine callsIn_wide.1 ((write_in p _ al cl _ b d.length ab cb w hp hl hb (fun a e => (hal a e).1) hab (by rw [List.length_drop]; omega) (by omega)).mono ?_)
  rintro e w' ⟨rfl, v, h1, h2, h3⟩
  have hq : 64 * (d.length / 64) ≤ d.length := by omega
  rw [← run_append init d b _ hq] at h1
  rw [← drop_append d b _ hq] at h2
  rw [← List.length_append] at h1
  obtain ⟨a2, c2, rfl, hc2, hr2⟩ := h2.reads
  refine ⟨rfl, ⟨a2, c2, h1, hr2, fun a e => ?_⟩, h3⟩
  have := h2.form.2.2 a e
  have hpl := hp.lt
  exact ⟨by omega, this.2, this.1⟩
theorem OwnB.form0 {w : World} {base : Nat} {a : Option Addr} {n c : Nat} {l : List UInt8} (h : OwnB w base (.slice a n c) l) (hp : 0 < l.length) : ∃ g, a = some ⟨g, 0, none⟩ ∧ base ≤ g ∧ g < w.heap.size := by
  obtain ⟨_, h2, h3⟩ := h.form
  obtain ⟨g, rfl⟩ := h2 hp
  exact ⟨g, rfl, h3 _ rfl⟩
set_option maxRecDepth 100000 in
set_option maxHeartbeats 1000000 in
theorem digestNone_walk (a0 : Option Addr) (len0 cap0 : Nat) (z0 : List Int) (a1 : Int) (W : World) (x0 : z0.length = len0) (y0 : RowAt W a0 (z0.map (.int .u8))) (u0 : ∀ z ∈ z0, (Lit.int .u8 z).wf = true) (_b0 : len0 * 1 ≤ 140737488351232) (c0 : len0 ≤ cap0) (m0 : cap0 ≤ maxLen) (w1 : (Lit.int .u8 a1).wf = true) :
    Calls Try.prog 7 #[.slice a0 len0 cap0, .int .u8 a1] W fun e w' => e = .returned (.bool true) ∧ Below W.heap.size W w' := by
  unfold maxLen at m0
  obtain ⟨l, hll, hr⟩ := rd_of_row y0 u0 (by omega)
  obtain rfl : l.length = len0 := by omega
  clear x0 y0 u0 hll z0 _b0
  obtain ⟨cc, rfl⟩ := byte_wf w1
  clear w1
  have hcc := cc.toNat_lt
  by_cases hbig : 200 < l.length
  · go_enter Try.func7, Try.ntmps7
    go_wp2_with fail
    refine (known_any _).mono ?_
    rintro e w1 ⟨rfl, hb1⟩
    go_wp2_with fail
    go_ret
    exact ⟨rfl, hb1⟩
  · obtain ⟨n, hn⟩ : ∃ n, l.length = n := ⟨_, rfl⟩
    rw [hn] at hbig c0 ⊢
    have HR := Lib.hid hr; have HN := Lib.hid hn
    clear hr hn
    go_enter Try.func7, Try.ntmps7
    go_wp2_with (at_builtin; refine Kd.R_append_row (Value.int .u8) (0 : Int) (h1 := fun _ => rfl) (w0 := W) W.heap.size rfl _ _ 22 5 (.int .u8 0) 1 rfl Try.underlying22 infoB rfl (by decide) (.slice none 0 0) [] (intsB l) a0 n cap0 (fun _ => True) rfl rfl (fun _ _ => trivial) ?k1 ?k2 ?k3 ?k4 ?k5 ?_)
    case k1 => exact Kd.R_nil _ _ _ _ _
    case k2 => rw [← HN.out]; exact HR.out
    case k3 => exact Below.refl _ _
    case k4 => exact Nat.le_refl _
    case k5 => simp; omega
    intro v1 w1 hR hB1 _ _
    have ho : OwnB w1 W.heap.size v1 l := hR
    obtain ⟨ao, co, rfl, hco, hro⟩ := ho.reads
    rw [HN.out] at ho
    have HO := Lib.hid ho; have HB1 := Lib.hid hB1; have HRO := Lib.hid hro
    rw [HN.out] at hco ⊢
    clear hR hB1 ho hro
    obtain ⟨S, hS⟩ : ∃ S, Sha.sum l = S := ⟨_, rfl⟩
    have hSl : S.length ≤ 32 := by rw [← hS, Sha.sum_length]; omega
    have hS32 : S.length = 32 := by rw [← hS, Sha.sum_length]
    have HS := Lib.hid hS; have HS32 := Lib.hid hS32
    clear hS hS32
    have hdg : ∀ (W' : World) (a : Option Addr) (c : Nat), Rd W' a l → Calls Try.prog 14 #[.slice a n c] W' fun e w' => ∃ a c, e = .returned (.slice a S.length c) ∧ OwnB w' W'.heap.size (.slice a S.length c) S ∧ Below W'.heap.size W' w' := fun W' a c h => by
      have := digest_sum_any a c l W' h (by rw [HN.out]; omega)
      rw [HN.out, HS.out] at this
      refine this.mono ?_
      rintro e w' ⟨v, rfl, ho, hb⟩
      obtain ⟨a', c', rfl, _, _⟩ := ho.reads
      exact ⟨a', c', rfl, ho, hb⟩
    have HDG := Lib.hid hdg
    clear hdg
    go_wp2_with fail
    refine (HDG.out w1 ao co HRO.out).mono ?_
    rintro e w2 ⟨asl, cs, rfl, hos, hb2⟩
    have HOS := Lib.hid hos; have HB2 := Lib.hid (below_trans HB1.out hb2); have HO2 := Lib.hid (HO.out.below hb2); have HRO2 := Lib.hid (HRO.out.below hb2)
    have hsz12 := hb2.size
    clear hos hb2
    go_wp2_with fail
    refine (HDG.out w2 ao co HRO2.out).mono ?_
    rintro e w3 ⟨atl, ct, rfl, hot, hb3⟩
    have HOT := Lib.hid hot; have HB3 := Lib.hid (below_trans HB2.out hb3); have HO3 := Lib.hid (HO2.out.below hb3); have HRO3 := Lib.hid (HRO2.out.below hb3); have HOS3 := Lib.hid (HOS.out.below hb3)
    have hsz23 := hb3.size
    clear hot hb3
    obtain ⟨gs, rfl, hgs1, hgs2⟩ := HOS.out.form0 (by rw [HS32.out]; omega)
    obtain ⟨gt, rfl, hgt1, hgt2⟩ := HOT.out.form0 (by rw [HS32.out]; omega)
    have hob := HO.out.form.2.2
    have HOB := Lib.hid hob
    clear hob
    have hw1 : W.heap.size ≤ w1.heap.size := HB1.out.size
    go_wp2_with fail
    go_loopw [9] (fun i wr => ∃ (j : Nat) (m : List UInt8), j ≤ S.length ∧ i = .int .i64 j ∧ m.length = S.length ∧ OwnB wr w1.heap.size (.slice (some ⟨gs, 0, none⟩) S.length cs) m ∧ OwnB wr W.heap.size (.slice ao n co) l ∧ OwnB wr w2.heap.size (.slice (some ⟨gt, 0, none⟩) S.length ct) S ∧ Below W.heap.size W wr ∧ w3.heap.size ≤ wr.heap.size) (fun i _ => S.length - (intOf i).toNat)
    case atStart => exact ⟨0, S, by omega, rfl, rfl, HOS3.out, HO3.out, HOT.out, HB3.out, Nat.le_refl _⟩
    case round =>
      obtain ⟨j, m, hj, rfl, hml, hs1, hs2, hs3, hb4, hz4⟩ := hrel
      have HS1 := Lib.hid hs1; have HS2 := Lib.hid hs2; have HS3 := Lib.hid hs3; have HB4 := Lib.hid hb4; have HML := Lib.hid hml
      clear hs1 hs2 hs3 hb4 hml
      by_cases hlt : j < S.length
      · obtain ⟨hc, hf⟩ := HS1.out.cellAt j (by rw [HML.out]; exact hlt)
        go_wp2_with fail
        go_roundw
        case rel =>
          refine ⟨j + 1, m.set j cc, by omega, by go_num, by rw [List.length_set, HML.out], HS1.out.put j cc, HS2.out.setOther _ _ (fun k hk => ?_), HS3.out.setOther _ _ (fun k hk => ?_), HB4.out.setCell (p := ⟨gs, j, none⟩) (by simp; omega) _, by simpa [World.setCell] using hz4⟩
          · cases ao with
            | none => simp [Value.ownBlock] at hk
            | some q =>
              have := (HOB.out q rfl).2
              simp [Value.ownBlock] at hk
              omega
          · simp [Value.ownBlock] at hk
            omega
        case measure => simp [intOf]; omega
      · obtain rfl : j = S.length := by omega
        go_wp2_with fail
        refine (new_any _).mono ?_
        rintro e w5 ⟨p, rfl, hh5, hp, hb5⟩
        have HH5 := Lib.hid hh5; have HB5 := Lib.hid (below_trans HB4.out hb5); have HO5 := Lib.hid (HS2.out.below hb5); have HT5 := Lib.hid (HS3.out.below hb5)
        have hz5 := hb5.size
        clear hh5 hb5
        go_wp2_with fail
        have hro5 := (Kd.R_reads' HO5.out).2.2
        rw [intsB_length] at hro5
        have hwr := write_from p [] l ao co w5 HH5.out hro5 (fun ad e hz => by have := HOB.out ad e; omega) (by rw [HN.out]; simp; omega)
        rw [HN.out, List.nil_append] at hwr
        have HWR := Lib.hid hwr
        clear hwr hro5
        refine HWR.out.mono ?_
        rintro e w6 ⟨rfl, hh6, hg6⟩
        have hpl := HH5.out.lt
        have HO6 := Lib.hid (HO5.out.kept hg6 (fun q hq e => by
          have := own_base (Kd.own_of_R HO5.out) q hq
          cases ao with
          | none => simp [Value.ownBlock] at hq
          | some a => 
            have := (HOB.out a rfl).2
            simp [Value.ownBlock] at hq
            cases e; omega))
        have HT6 := Lib.hid (HT5.out.kept hg6 (fun q hq e => by
          simp [Value.ownBlock] at hq
          cases e; omega))
        have HB6 := Lib.hid (below_grown HB5.out hg6 (by omega))
        have HH6 := Lib.hid hh6
        have hz6 := hg6.size
        clear hh6 hg6 HWR
        go_wp2_with fail
        have hsg : IntKind.u8.signed = false := rfl
        have hmx : IntKind.u8.max = 255 := rfl
        go_loopw [11] (fun i wr => ∃ (j : Nat) (m : List Int), j ≤ n ∧ i = .int .i64 j ∧ m.length = n ∧ Kd.R (Kd.int .u8) 5 wr W.heap.size (fun _ => True) (.slice ao n co) m ∧ OwnB wr w2.heap.size (.slice (some ⟨gt, 0, none⟩) S.length ct) S ∧ HoldsFrom w5.heap.size wr p l ∧ Below W.heap.size W wr) (fun i _ => n - (intOf i).toNat)
        case atStart => exact ⟨0, intsB l, by omega, rfl, by rw [intsB_length, HN.out], HO6.out, HT6.out, HH6.out, HB6.out⟩
        case round =>
          obtain ⟨j, m, hj, rfl, hml, hs1, hs2, hs3, hb4⟩ := hrel
          have HQ1 := Lib.hid hs1; have HQ2 := Lib.hid hs2; have HQ3 := Lib.hid hs3; have HQB := Lib.hid hb4; have HQL := Lib.hid hml
          clear hs1 hs2 hs3 hb4 hml
          by_cases hlt : j < n
          · obtain ⟨go, rfl⟩ : ∃ go, ao = some ⟨go, 0, none⟩ := by
              have := HO.out.form.2.1 (by rw [HN.out]; omega)
              exact this
            have hgo := HOB.out _ rfl
            have hcf := Kd.R_celln (0 : Int) HQ1.out (j : Int) (by omega) (by omega)
            rw [Int.toNat_natCast] at hcf
            obtain ⟨z, hz⟩ : ∃ z, rdOf 0 m (j : Int) = z := ⟨_, rfl⟩
            rw [hz] at hcf
            obtain ⟨hc, hf⟩ := hcf
            have hgp : go ≠ p := by have := hgo.2; simp at this; omega
            have hgb : go < w5.heap.size := by have := hgo.2; simp at this; omega
            have hgg : go ≠ gt := by have := hgo.2; simp at this; omega
            clear hz
            go_wp2_with fail
            go_roundw
            case rel =>
              have hput := Kd.R_putn HQ1.out (j : Int) (bits .xor .u8 255 z)
              rw [Int.toNat_natCast] at hput
              refine ⟨j + 1, m.set j (bits .xor .u8 255 z), by omega, by go_num, by rw [List.length_set, HQL.out], hput, HQ2.out.setOther _ _ (fun k hk => ?_), HQ3.out.set go j _ hgb hgp, HQB.out.setCell (p := ⟨go, j, none⟩) (by have := hgo.1; simpa using this) _⟩
              simp [Value.ownBlock] at hk
              omega
            case measure => simp [intOf]; omega
          · obtain rfl : j = n := by omega
            go_wp2_with fail
            have hz7 := HQB.out.size
            refine (known_any _).mono ?_
            rintro e w7 ⟨rfl, hb7⟩
            have HB7 := Lib.hid (below_trans HQB.out hb7); have HT7 := Lib.hid (HQ2.out.below hb7); have HH7 := Lib.hid (HQ3.out.holds.below hb7)
            clear hb7
            go_wp2_with fail
            refine (write_nil _ a0 j cap0 rfl w7).mono ?_
            rintro e w8 ⟨rfl, hb8⟩
            have HB8 := Lib.hid (below_trans HB7.out hb8); have HT8 := Lib.hid (HT7.out.below hb8); have HH8 := Lib.hid (HH7.out.below hb8)
            clear hb8
            go_wp2_with fail
            refine (long_nil w8).mono ?_
            rintro e _ ⟨rfl, rfl⟩
            go_wp2_with fail
            obtain ⟨E, hE⟩ : ∃ E, Sha.sum [] = E := ⟨_, rfl⟩
            have hEl : E.length ≤ 32 := by rw [← hE, Sha.sum_length]; omega
            have hn1 := hsum_nil w8
            have hn2 : ∀ W', Calls Try.prog 14 #[.slice none 0 0] W' fun e w' => ∃ v, e = .returned v ∧ OwnB w' W'.heap.size v (Sha.sum []) ∧ Below W'.heap.size W' w' := fun W' => digest_sum_any none 0 [] W' (Rd.nil W') (by simp)
            rw [hE] at hn1 hn2
            have HN1 := Lib.hid hn1; have HN2 := Lib.hid hn2; have HE := Lib.hid hE
            clear hn1 hn2 hE
            refine HN1.out.mono ?_
            rintro e w9 ⟨v9, rfl, ho9, hb9⟩
            obtain ⟨a9, c9, rfl, hc9, hr9⟩ := ho9.reads
            have HB9 := Lib.hid (below_trans HB8.out hb9); have HT9 := Lib.hid (HT8.out.below hb9); have HH9 := Lib.hid (HH8.out.below hb9); have HR9 := Lib.hid hr9
            clear hb9 ho9 hr9
            go_wp2_with fail
            refine (HN2.out w9).mono ?_
            rintro e w10 ⟨v10, rfl, ho10, hb10⟩
            obtain ⟨a10, c10, rfl, hc10, hr10⟩ := ho10.reads
            have HB10 := Lib.hid (below_trans HB9.out hb10); have HT10 := Lib.hid (HT9.out.below hb10); have HH10 := Lib.hid (HH9.out.below hb10); have HR10 := Lib.hid hr10; have HR9' := Lib.hid (HR9.out.below hb10)
            clear hb10 ho10 hr10
            go_wp2_with fail
            refine (same_yes a9 a10 c9 c10 E w10 HR9'.out hc9 HR10.out hc10 (by omega)).mono ?_
            rintro e w11 ⟨rfl, q11, hq11⟩
            have hb11 : Below w10.heap.size w10 w11 := by rw [hq11]; exact drewN_below w10 q11
            have HB11 := Lib.hid (below_trans HB10.out hb11); have HT11 := Lib.hid (HT10.out.below hb11); have HH11 := Lib.hid (HH10.out.below hb11)
            clear hb11 hq11
            go_wp2_with fail
            refine (HDG.out w11 a0 cap0 (HR.out.below HB11.out)).mono ?_
            rintro e w12 ⟨a12, c12, rfl, ho12, hb12⟩
            obtain ⟨-, hc12, hr12⟩ := Kd.R_reads' ho12
            rw [intsB_length] at hr12
            have HB12 := Lib.hid (below_trans HB11.out hb12); have HT12 := Lib.hid (HT11.out.below hb12); have HH12 := Lib.hid (HH11.out.below hb12); have HR12 := Lib.hid hr12
            clear hb12 ho12 hr12
            go_wp2_with fail
            obtain ⟨-, hct, hrt⟩ := Kd.R_reads' HT12.out
            rw [intsB_length] at hrt
            refine (same_yes _ a12 ct c12 S w12 hrt hct HR12.out hc12 (by omega)).mono ?_
            rintro e w13 ⟨rfl, q13, hq13⟩
            have hb13 : Below w12.heap.size w12 w13 := by rw [hq13]; exact drewN_below w12 q13
            have HB13 := Lib.hid (below_trans HB12.out hb13); have HH13 := Lib.hid (HH12.out.below hb13)
            clear hb13 hq13 hrt
            go_wp2_with fail
            have hd1 := hsum_any p l w13 HH13.out (by rw [HN.out]; omega)
            rw [HS.out] at hd1
            have HD1 := Lib.hid hd1
            clear hd1
            refine HD1.out.mono ?_
            rintro e w14 ⟨v14, rfl, ho14, hb14⟩
            obtain ⟨a14, c14, rfl, hc14, hr14⟩ := ho14.reads
            have HB14 := Lib.hid (below_trans HB13.out hb14); have HR14 := Lib.hid hr14
            clear hb14 ho14 hr14 HD1
            go_wp2_with fail
            refine (HDG.out w14 a0 cap0 (HR.out.below HB14.out)).mono ?_
            rintro e w15 ⟨a15, c15, rfl, ho15, hb15⟩
            obtain ⟨-, hc15, hr15⟩ := Kd.R_reads' ho15
            rw [intsB_length] at hr15
            have HB15 := Lib.hid (below_trans HB14.out hb15); have HR15 := Lib.hid hr15; have HR14' := Lib.hid (HR14.out.below hb15)
            clear hb15 ho15 hr15
            go_wp2_with fail
            refine (same_yes a14 a15 c14 c15 S w15 HR14'.out hc14 HR15.out hc15 (by omega)).mono ?_
            rintro e w16 ⟨rfl, q16, hq16⟩
            have hb16 : Below w15.heap.size w15 w16 := by rw [hq16]; exact drewN_below w15 q16
            clear hq16
            go_wp2_with fail
            go_ret
            exact ⟨rfl, below_trans HB15.out hb16⟩
end Go.Proofs.Ytdbdikgjelhfbaa
