/-
  The law FrameBack, walked: whatever the row of texts and the rest, it answers true.
-/
import Derived.Test.YtfjighamaamkcaaFront
namespace Go.Proofs.Ytfjighamaamkcaa
open Go.RowKit

/-- How long the frames of some texts are. -/
def tot (l : List ByteArray) : Nat := (l.map fun s => 8 + s.size).sum
def flat (l : List ByteArray) : List UInt8 := (l.map fun s => frameL s.data.toList).flatten
theorem tot_snoc (l : List ByteArray) (s : ByteArray) : tot (l ++ [s]) = tot l + (8 + s.size) := by simp [tot]
theorem flat_snoc (l : List ByteArray) (s : ByteArray) : flat (l ++ [s]) = flat l ++ frameL s.data.toList := by simp [flat]
theorem tot_take_le (l : List ByteArray) (k : Nat) : tot (l.take k) ≤ tot l := by
  have h : l.take k ++ l.drop k = l := List.take_append_drop k l
  have : tot l = tot (l.take k) + tot (l.drop k) := by
    conv => lhs; rw [← h]
    unfold tot
    rw [List.map_append, List.sum_append]
  omega
theorem tot_mem {l : List ByteArray} {s : ByteArray} (h : s ∈ l) : s.size ≤ tot l := by
  induction l with
  | nil => simp at h
  | cons a l ih =>
    rcases List.mem_cons.1 h with rfl | h
    · simp [tot]; omega
    · have := ih h; simp [tot] at this ⊢; omega
theorem flat_length : ∀ {l : List ByteArray}, (∀ s ∈ l, s.size ≤ 131072) → (flat l).length = tot l
  | [], _ => rfl
  | s :: l, h => by
    have h1 := h s (by simp)
    have ih := flat_length (l := l) fun x hx => h x (by simp [hx])
    have h2 : (frameL s.data.toList).length = s.size + 8 := by rw [frameL_length (by rw [len_data]; omega), len_data]
    simp [flat, tot] at ih ⊢
    rw [h2, ih]; omega
theorem flat_all : ∀ {l : List ByteArray} {r : List UInt8}, (∀ s ∈ l, s.size ≤ 131072) → r.length < 8 → allL (flat l ++ r) = (l.map (fun s => s.data.toList), tot l)
  | [], r, _, hr => by
    show allL ([] ++ r) = ([], 0)
    exact allL_stop (by rw [List.nil_append, next_short hr])
  | s :: l, r, h, hr => by
    have h1 := h s (by simp)
    have ih := flat_all (l := l) (r := r) (fun x hx => h x (by simp [hx])) hr
    have e : flat (s :: l) ++ r = frameL s.data.toList ++ (flat l ++ r) := by simp [flat]
    rw [e, all_frame _ _ (by rw [len_data]; omega), ih, len_data]
    simp [tot]; omega

set_option maxRecDepth 100000 in
set_option maxHeartbeats 1000000 in
theorem frameBack_walk (a : Option Addr) (len cap : Nat) (z : List ByteArray) (r : ByteArray) (W : World) (hl : z.length = len) (hrow : RowAt W a (z.map .string)) (hsz : ∀ s ∈ z, s.size ≤ 140737488351232) (hb : len * 16 ≤ 140737488351232) (wr : r.size ≤ 140737488351232) :
    Calls Try.prog 8 #[.slice a len cap, .string r] W fun e w' => e = .returned (.bool true) ∧ Below W.heap.size W w' := by
  have HL := Lib.hid hl; have HROW := Lib.hid hrow; have HSZ := Lib.hid hsz
  have hbl : len ≤ 8796093022000 := by omega
  clear hl hrow hsz hb
  go_enter Try.func8, Try.ntmps8
  go_wp2_with fail
  go_loop [5, 6] (fun n i => ∃ k : Nat, k ≤ len ∧ i = .int .i64 k ∧ n = .int .i64 ((r.size + tot (z.take k) : Nat) : Int) ∧ (k = 0 ∨ r.size + tot (z.take k) ≤ 140737488351232 + 500)) (fun _ i => len - (intOf i).toNat)
  case atStart => exact ⟨0, by omega, rfl, by simp [tot], .inl rfl⟩
  case round =>
    obtain ⟨k, hk, rfl, rfl, hN⟩ := hrel
    obtain ⟨m, hm⟩ : ∃ m, r.size + tot (z.take k) = m := ⟨_, rfl⟩
    rw [hm] at hN ⊢
    have HM := Lib.hid hm
    have hml : m ≤ 140737488351232 + 500 := by
      rcases hN with rfl | h
      · simp [tot] at hm; omega
      · exact h
    clear hm hN
    by_cases hlt : k < len
    · by_cases h400 : m ≤ 400
      · obtain ⟨b1, o1, rfl, _, hc1⟩ := HROW.out (by rw [List.length_map, HL.out]; omega)
        have k1 : k < z.length := by rw [HL.out]; exact hlt
        have f1 : W.cell? ⟨b1, o1 + k, none⟩ = some (.string z[k]) := by rw [hc1 k (by rw [List.length_map]; exact k1)]; simp
        have p1 : z.take (k + 1) = z.take k ++ [z[k]] := List.take_succ_eq_append_getElem k1
        obtain ⟨s1, hs1⟩ : ∃ s1, z[k] = s1 := ⟨_, rfl⟩
        have zs : s1.size ≤ 140737488351232 := by rw [← hs1]; exact HSZ.out _ (List.getElem_mem _)
        rw [hs1] at f1 p1
        have P1 := Lib.hid p1
        clear hc1 p1 hs1
        have hki : (k : Int) < (len : Int) := by omega
        have hk0 : (0 : Int) ≤ (k : Int) := by omega
        have hmi : (m : Int) ≤ 400 := by omega
        have hw1 : IntKind.i64.wrap (8 + (s1.size : Int)) = 8 + (s1.size : Int) := i64_small _ (by omega) (by omega)
        have hw2 : IntKind.i64.wrap ((m : Int) + (8 + (s1.size : Int))) = (m : Int) + (8 + (s1.size : Int)) := i64_small _ (by omega) (by omega)
        go_wp2_with fail
        have e1 : r.size + tot (z.take (k + 1)) = m + (8 + s1.size) := by rw [P1.out, tot_snoc, ← HM.out]; omega
        exact ⟨⟨k + 1, by omega, by go_num, by rw [e1]; simp, .inr (by rw [e1]; omega)⟩, by simp [intOf]; omega⟩
      · have hmf : decide ((m : Int) ≤ 400) = false := by simp; omega
        have hki : (k : Int) < (len : Int) := by omega
        have hmg : (400 : Int) < (m : Int) := by omega
        go_wp2_with fail
        refine (known_any _).mono ?_
        rintro e w1 ⟨rfl, hB1⟩
        go_wp2_with fail
        go_ret
        exact ⟨rfl, hB1⟩
    · obtain rfl : k = len := by omega
      have hki : ¬ (k : Int) < (k : Int) := by omega
      have hkd : decide ((k : Int) < (k : Int)) = false := by simp
      by_cases h400 : 400 < m
      · have hmg : (400 : Int) < (m : Int) := by omega
        go_wp2_with fail
        refine (known_any _).mono ?_
        rintro e w1 ⟨rfl, hB1⟩
        go_wp2_with fail
        go_ret
        exact ⟨rfl, hB1⟩
      · by_cases h7 : 7 < r.size
        · have hmg : ¬ (400 : Int) < (m : Int) := by omega
          have hmd : decide ((400 : Int) < (m : Int)) = false := by simp; omega
          have h7d : decide ((7 : Int) < (r.size : Int)) = true := by simp; omega
          go_wp2_with fail
          refine (known_any _).mono ?_
          rintro e w1 ⟨rfl, hB1⟩
          go_wp2_with fail
          go_ret
          exact ⟨rfl, hB1⟩
        · have hmg : ¬ (400 : Int) < (m : Int) := by omega
          have hmd : decide ((400 : Int) < (m : Int)) = false := by simp; omega
          have h7d : decide ((7 : Int) < (r.size : Int)) = false := by simp; omega
          have hz : z.take k = z := List.take_of_length_le (by rw [HL.out]; omega)
          have hm2 := HM.out
          rw [hz] at hm2
          have htot : tot z ≤ 400 := by omega
          have HZ : Hid (∀ s ∈ z, s.size ≤ 131072) := Lib.hid fun s hs => by have := tot_mem hs; omega
          clear hm2 hz
          go_wp2_with fail
          go_loopw [7, 8] (fun s i wr => ∃ j : Nat, j ≤ k ∧ i = .int .i64 j ∧ s = .string (bs (flat (z.take j))) ∧ Below W.heap.size W wr) (fun _ i _ => k - (intOf i).toNat)
          case atStart => exact ⟨0, by omega, rfl, rfl, Below.refl _ _⟩
          case round =>
            obtain ⟨j, hj, rfl, rfl, hbel⟩ := hrel
            have HBEL := Lib.hid hbel; clear hbel
            obtain ⟨G, hG⟩ : ∃ G, flat (z.take j) = G := ⟨_, rfl⟩
            have hGl : G.length = tot (z.take j) := by rw [← hG]; exact flat_length fun s hs => HZ.out s (List.mem_of_mem_take hs)
            have zG : (bs G).size ≤ 400 := by rw [bs_size, hGl]; have := tot_take_le z j; omega
            have HG := Lib.hid hG
            rw [hG]
            clear hG
            by_cases hlt : j < k
            · clear hki hkd
              obtain ⟨b1, o1, rfl, _, hc1⟩ := (HROW.out.below HBEL.out) (by rw [List.length_map, HL.out]; omega)
              have k1 : j < z.length := by rw [HL.out]; exact hlt
              have f1 : wr.cell? ⟨b1, o1 + j, none⟩ = some (.string z[j]) := by rw [hc1 j (by rw [List.length_map]; exact k1)]; simp
              have p1 : z.take (j + 1) = z.take j ++ [z[j]] := List.take_succ_eq_append_getElem k1
              obtain ⟨s1, hs1⟩ : ∃ s1, z[j] = s1 := ⟨_, rfl⟩
              have zs : s1.size ≤ 400 := by have := tot_mem (List.getElem_mem k1); rw [hs1] at this; omega
              rw [hs1] at f1 p1
              have P1 := Lib.hid p1
              clear hc1 p1 hs1
              have hki : (j : Int) < (k : Int) := by omega
              have hk0 : (0 : Int) ≤ (j : Int) := by omega
              go_wp2_with fail
              refine (frame_any s1 _ (by omega)).mono ?_
              rintro e w1 ⟨rfl, hB1⟩
              have HB1 := Lib.hid hB1; clear hB1
              have zF : (bs (frameL s1.data.toList)).size = s1.size + 8 := by rw [bs_size, frameL_length (by rw [len_data]; omega), len_data]
              go_wp2_with fail
              go_roundw
              case rel => exact ⟨j + 1, by omega, by go_num, by rw [P1.out, flat_snoc, HG.out, bs_append], HBEL.out.trans (HB1.out.mono HBEL.out.size)⟩
              case measure => simp [intOf]; omega
            · obtain rfl : j = k := by omega
              have hz : z.take j = z := List.take_of_length_le (by rw [HL.out]; omega)
              have hGz := HG.out
              rw [hz] at hGz hGl
              have hall : allL (G ++ r.data.toList) = (z.map (fun s => s.data.toList), tot z) := by
                rw [← hGz]
                exact flat_all HZ.out (by rw [len_data]; omega)
              have HALL := Lib.hid hall
              have zG2 : (bs G).size = tot z := by rw [bs_size, hGl]
              clear hGz hall hGl
              go_wp2_with fail
              refine (all_any _ _ (by simp; omega)).mono ?_
              rintro e w3 ⟨v3, rfl, ho3, hB3⟩
              rw [append_toList, bs_toList, HALL.out] at ho3 ⊢
              have HB3 := Lib.hid hB3; clear hB3
              have T3 := Lib.hid (texts_own ho3 (by simp [HL.out]; omega))
              clear ho3
              go_wp2_with fail
              refine (known_any _).mono ?_
              rintro e w5 ⟨rfl, hB5⟩
              have T5 := Lib.hid (T3.out.below hB5)
              have HB5 := Lib.hid hB5; clear hB5
              have TA : Hid (Texts w5 (.slice a j cap) z) := Lib.hid ⟨a, cap, by rw [HL.out], ((HROW.out.below HBEL.out).below HB3.out).below HB5.out, by rw [HL.out]; omega⟩
              have htt : ((tot z : Int) == (tot z : Int)) = true := by simp
              go_wp2_with fail
              refine (same_any _ _ z z _ (by have := T5.out; simpa [bs_data, Function.comp_def] using this) TA.out).mono ?_
              rintro e w6 ⟨rfl, q, rfl⟩
              rw [decide_eq_true (rfl : z = z)]
              go_wp2_with fail
              go_ret
              exact ⟨rfl, below_drewN ((HBEL.out.trans (HB3.out.mono HBEL.out.size)).trans (HB5.out.mono (Nat.le_trans HBEL.out.size HB3.out.size))) q⟩
