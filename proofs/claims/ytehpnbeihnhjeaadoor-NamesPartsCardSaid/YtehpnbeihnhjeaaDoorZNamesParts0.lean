/-
  Texts of this session, merged in build order: NLParts, RNamesParts.
-/
import Derived.Test.YtehpnbeihnhjeaaDoorZC0
import Derived.Test.YtehpnbeihnhjeaaDoorRows
import Derived.Test.YtehpnbeihnhjeaaDoorCards
import Derived.Test.YtehpnbeihnhjeaaDoorTie
import Derived.LaidMore
import Derived.Lay
import Derived.SevenTiedAt
import Derived.Stop.Joined
set_option linter.unusedVariables false
set_option linter.unusedSimpArgs false
/-
  The law NamesParts, walked: a user's, and a room's, name are a sign, a local name, a colon, and a server's: no longer, and no shorter.
-/
namespace Go.Proofs.YtehpnbeihnhjeaaDoor
open Go.RowKit Go.Proofs.YtehpnbeihnhjeaaDoorW.PrintWords Go.Proofs.YtehpnbeihnhjeaaDoorW.PrintLast
set_option linter.unusedSimpArgs false
set_option linter.unusedVariables false
def LT : List UInt8 := [97, 98, 99, 95, 61, 47, 46, 45, 57]
def HT : List UInt8 := [97, 57, 46, 45, 122]
def loL (k : Nat) : List UInt8 := (List.range k).map fun i => LT.getD (i % 9) 0
def hoL (k : Nat) : List UInt8 := (List.range k).map fun i => HT.getD (i % 5) 0
theorem loL_length (k : Nat) : (loL k).length = k := by simp [loL]
theorem hoL_length (k : Nat) : (hoL k).length = k := by simp [hoL]
theorem lo_piece : ∀ j, j < 9 → (⟨#[97, 98, 99, 95, 61, 47, 46, 45, 57]⟩ : ByteArray).extract j (j + 1) = bsL [LT.getD j 0] := by
  intro j hj
  have : j = 0 ∨ j = 1 ∨ j = 2 ∨ j = 3 ∨ j = 4 ∨ j = 5 ∨ j = 6 ∨ j = 7 ∨ j = 8 := by omega
  rcases this with rfl | rfl | rfl | rfl | rfl | rfl | rfl | rfl | rfl <;> rfl
theorem ho_piece : ∀ j, j < 5 → (⟨#[97, 57, 46, 45, 122]⟩ : ByteArray).extract j (j + 1) = bsL [HT.getD j 0] := by
  intro j hj
  have : j = 0 ∨ j = 1 ∨ j = 2 ∨ j = 3 ∨ j = 4 := by omega
  rcases this with rfl | rfl | rfl | rfl | rfl <;> rfl
theorem bsL_app (a b : List UInt8) : bsL a ++ bsL b = bsL (a ++ b) := by
  apply ByteArray.ext
  simp [bsL]
theorem lo_succ (i : Nat) : bsL (loL i) ++ (⟨#[97, 98, 99, 95, 61, 47, 46, 45, 57]⟩ : ByteArray).extract (i % 9) (i % 9 + 1) = bsL (loL (i + 1)) := by
  rw [lo_piece _ (Nat.mod_lt _ (by omega)), bsL_app]
  simp [loL, List.range_succ]
theorem ho_succ (i : Nat) : bsL (hoL i) ++ (⟨#[97, 57, 46, 45, 122]⟩ : ByteArray).extract (i % 5) (i % 5 + 1) = bsL (hoL (i + 1)) := by
  rw [ho_piece _ (Nat.mod_lt _ (by omega)), bsL_app]
  simp [hoL, List.range_succ]
theorem lo_in : ∀ j, j < 9 → inB ML (LT.getD j 0) = true ∧ LT.getD j 0 ≠ 58 := by decide
theorem ho_in : ∀ j, j < 5 → inB PL (HT.getD j 0) = true := by decide
theorem lo_of (k : Nat) : ofL ML (loL k) = (decide (1 ≤ k) && decide (k ≤ 40)) := by
  unfold ofL
  have h : (loL k).all (inB ML) = true := by
    rw [List.all_eq_true]
    intro x hx
    obtain ⟨i, _, rfl⟩ := List.mem_map.1 hx
    exact (lo_in _ (Nat.mod_lt _ (by omega))).1
  rw [h, loL_length, Bool.and_true]
  congr 1
  cases k with
  | zero => rfl
  | succ k => simp [loL, List.range_succ_eq_map]
theorem ho_of (k : Nat) : ofL PL (hoL k) = (decide (1 ≤ k) && decide (k ≤ 40)) := by
  unfold ofL
  have h : (hoL k).all (inB PL) = true := by
    rw [List.all_eq_true]
    intro x hx
    obtain ⟨i, _, rfl⟩ := List.mem_map.1 hx
    exact ho_in _ (Nat.mod_lt _ (by omega))
  rw [h, hoL_length, Bool.and_true]
  congr 1
  cases k with
  | zero => rfl
  | succ k => simp [hoL, List.range_succ_eq_map]
theorem lo_colon (k : Nat) : ∀ x ∈ loL k, x ≠ 58 := by
  intro x hx
  obtain ⟨i, _, rfl⟩ := List.mem_map.1 hx
  exact (lo_in _ (Nat.mod_lt _ (by omega))).2
def okP (n m : Nat) : Bool := (decide (1 ≤ n) && decide (n ≤ 40)) && (decide (1 ≤ m) && decide (m ≤ 40))
theorem user_parts (g : UInt8) (n m : Nat) : userL (g :: (loL n ++ 58 :: hoL m)) = (decide (g = 64) && okP n m) := by
  unfold userL
  rw [partsL_told _ _ _ _ (lo_colon n)]
  by_cases h : g = 64
  · rw [if_pos h, decide_eq_true h]
    show (ofL ML (loL n) && ofL PL (hoL m)) = _
    rw [lo_of, ho_of]
    rfl
  · rw [if_neg h, decide_eq_false h]
    rfl
theorem room_parts (g : UInt8) (n m : Nat) : roomL (g :: (loL n ++ 58 :: hoL m)) = (decide (g = 33) && okP n m) := by
  unfold roomL
  rw [partsL_told _ _ _ _ (lo_colon n)]
  by_cases h : g = 33
  · rw [if_pos h, decide_eq_true h]
    show (ofL ML (loL n) && ofL PL (hoL m)) = _
    rw [lo_of, ho_of]
    rfl
  · rw [if_neg h, decide_eq_false h]
    rfl
theorem server_parts (room : Bool) (n m : Nat) : serverL ((if room then 33 else 64) :: (loL n ++ 58 :: hoL m)) = if okP n m then hoL m else [] := by
  have h1 := user_parts (if room then 33 else 64) n m
  have h2 := room_parts (if room then 33 else 64) n m
  unfold userL at h1
  unfold roomL at h2
  unfold serverL
  rw [h1, h2]
  cases room with
  | true =>
    simp only [if_true, show decide ((33 : UInt8) = 64) = false from by decide, Bool.false_and, Bool.false_eq_true, if_false, decide_true, Bool.true_and]
    rw [partsL_told _ _ _ _ (lo_colon n), if_pos rfl]
  | false =>
    simp only [Bool.false_eq_true, if_false, decide_true, Bool.true_and, show decide ((64 : UInt8) = 33) = false from by decide, Bool.false_and]
    rw [partsL_told _ _ _ _ (lo_colon n), if_pos rfl]
set_option maxRecDepth 100000 in
set_option maxHeartbeats 2000000 in
theorem namesParts_walk (a0 : Int) (a1 : Int) (a2 : Bool) (W : World) (w0 : (Lit.int .u8 a0).wf = true) (w1 : (Lit.int .u8 a1).wf = true) :
    Calls Tryd.prog 5 #[.int .u8 a0, .int .u8 a1, .bool a2] W fun e w' => e = .returned (.bool true) ∧ Below W.heap.size W w' := by
  have hw0 := u8_range w0
  have hw1 := u8_range w1
  obtain ⟨n0, rfl⟩ : ∃ n : Nat, a0 = n := ⟨a0.toNat, by omega⟩
  obtain ⟨m0, rfl⟩ : ∃ n : Nat, a1 = n := ⟨a1.toNat, by omega⟩
  clear w0 w1
  obtain ⟨n, hn⟩ : ∃ n, n0 % 50 = n := ⟨_, rfl⟩
  obtain ⟨m, hm⟩ : ∃ n, m0 % 50 = n := ⟨_, rfl⟩
  have hn50 : n < 50 := by omega
  have hm50 : m < 50 := by omega
  have e1 : (n0 : Int) % 50 = (n : Int) := by omega
  have e2 : (m0 : Int) % 50 = (m : Int) := by omega
  clear hn hm
  go_enter Tryd.func5, Tryd.ntmps5
  go_wp2_with fail
  go_loopw [7, 9] (fun pv iv wr => ∃ i q : Nat, i ≤ n ∧ iv = .int .i64 i ∧ pv = .string (bsL (loL i)) ∧ wr = W.drewN q) (fun _ iv _ => 50 - (intOf iv).toNat)
  case atStart => exact ⟨0, 0, by omega, rfl, rfl, rfl⟩
  case round =>
    obtain ⟨i, q, hi, rfl, rfl, rfl⟩ := hrel
    by_cases hlt : i < n
    · have hms := lo_succ i
      have hmz : (bsL (loL i)).size = i := by rw [bsL_size, loL_length]
      obtain ⟨M, hM⟩ : ∃ M, bsL (loL i) = M := ⟨_, rfl⟩
      rw [hM] at hms hmz ⊢
      obtain ⟨j, hj⟩ : ∃ j, i % 9 = j := ⟨_, rfl⟩
      rw [hj] at hms
      have hj9 : j < 9 := by omega
      have e3 : (i : Int) % 9 = (j : Int) := by omega
      have hji : (j : Int) < 9 := by omega
      have hjj : (j : Int) + 1 ≤ 9 := by omega
      have hMz : M.size ≤ 100 := by omega
      have hX1 : ((⟨#[97, 98, 99, 95, 61, 47, 46, 45, 57]⟩ : ByteArray).extract j (j + 1)).size = 1 := by rw [lo_piece j hj9]; rfl
      obtain ⟨X, hX⟩ : ∃ X, (⟨#[97, 98, 99, 95, 61, 47, 46, 45, 57]⟩ : ByteArray).extract j (j + 1) = X := ⟨_, rfl⟩
      rw [hX] at hms hX1
      have hsl : ∀ wx, (Instr.slice 9 (.string (⟨#[97, 98, 99, 95, 61, 47, 46, 45, 57]⟩ : ByteArray)) (some (.int .i64 (j : Int))) (some (.int .i64 ((j : Int) + 1))) none).run Tryd.prog wx = .ok (.string X) wx := fun wx => by
        rw [run_slice_string (P := Tryd.prog) wx 9 (⟨#[97, 98, 99, 95, 61, 47, 46, 45, 57]⟩ : ByteArray) .i64 .i64 (j : Int) ((j : Int) + 1) Tryd.underlying9 (by omega) (by omega) (by show (j : Int) + 1 ≤ (9 : Int); omega), show ((j : Int) + 1).toNat = j + 1 from by omega, Int.toNat_natCast, hX]
      have hXz : X.size ≤ 10 := by omega
      have HMS := Lib.hid hms
      clear hms hmz hM hj hX hX1
      go_wp2_with fail
      go_roundw
      case rel => exact ⟨i + 1, _, by omega, by go_num, by rw [← HMS.out], rfl⟩
      case measure => simp [intOf]; omega
    · obtain rfl : i = n := by omega
      go_wp2_with fail
      go_loopw [8, 10] (fun pv iv wr => ∃ k q : Nat, k ≤ m ∧ iv = .int .i64 k ∧ pv = .string (bsL (hoL k)) ∧ wr = W.drewN q) (fun _ iv _ => 50 - (intOf iv).toNat)
      case atStart => exact ⟨0, q, by omega, rfl, rfl, rfl⟩
      case round =>
        obtain ⟨k, q, hk, rfl, rfl, rfl⟩ := hrel
        by_cases hlt2 : k < m
        · have hms := ho_succ k
          have hmz : (bsL (hoL k)).size = k := by rw [bsL_size, hoL_length]
          obtain ⟨M, hM⟩ : ∃ M, bsL (hoL k) = M := ⟨_, rfl⟩
          rw [hM] at hms hmz ⊢
          obtain ⟨j, hj⟩ : ∃ j, k % 5 = j := ⟨_, rfl⟩
          rw [hj] at hms
          have hj9 : j < 5 := by omega
          have e3 : (k : Int) % 5 = (j : Int) := by omega
          have hji : (j : Int) < 5 := by omega
          have hjj : (j : Int) + 1 ≤ 5 := by omega
          have hMz : M.size ≤ 100 := by omega
          have hX1 : ((⟨#[97, 57, 46, 45, 122]⟩ : ByteArray).extract j (j + 1)).size = 1 := by rw [ho_piece j hj9]; rfl
          obtain ⟨X, hX⟩ : ∃ X, (⟨#[97, 57, 46, 45, 122]⟩ : ByteArray).extract j (j + 1) = X := ⟨_, rfl⟩
          rw [hX] at hms hX1
          have hsl : ∀ wx, (Instr.slice 9 (.string (⟨#[97, 57, 46, 45, 122]⟩ : ByteArray)) (some (.int .i64 (j : Int))) (some (.int .i64 ((j : Int) + 1))) none).run Tryd.prog wx = .ok (.string X) wx := fun wx => by
            rw [run_slice_string (P := Tryd.prog) wx 9 (⟨#[97, 57, 46, 45, 122]⟩ : ByteArray) .i64 .i64 (j : Int) ((j : Int) + 1) Tryd.underlying9 (by omega) (by omega) (by show (j : Int) + 1 ≤ (5 : Int); omega), show ((j : Int) + 1).toNat = j + 1 from by omega, Int.toNat_natCast, hX]
          have hXz : X.size ≤ 10 := by omega
          have HMS := Lib.hid hms
          clear hms hmz hM hj hX hX1
          go_wp2_with fail
          go_roundw
          case rel => exact ⟨k + 1, _, by omega, by go_num, by rw [← HMS.out], rfl⟩
          case measure => simp [intOf]; omega
        · obtain rfl : k = m := by omega
          have hLs : (bsL (loL i)).size = i := by rw [bsL_size, loL_length]
          have hHs : (bsL (hoL k)).size = k := by rw [bsL_size, hoL_length]
          have sz1 : (⟨#[64]⟩ : ByteArray).size = 1 := rfl
          have sz2 : (⟨#[33]⟩ : ByteArray).size = 1 := rfl
          have sz3 : (⟨#[58]⟩ : ByteArray).size = 1 := rfl
          have hd : ∀ g : UInt8, (bsL [g] ++ bsL (loL i) ++ bsL [58] ++ bsL (hoL k)) = bsL (g :: (loL i ++ 58 :: hoL k)) := fun g => by
            rw [bsL_app, bsL_app, bsL_app]
            simp
          have hz : ∀ g : UInt8, (bsL [g] ++ bsL (loL i) ++ bsL [58] ++ bsL (hoL k)).size ≤ 200 := fun g => by
            rw [hd, bsL_size, List.length_cons, List.length_append, List.length_cons, loL_length, hoL_length]
            omega
          have hU : ∀ (g : UInt8) w, Calls Tryd.prog 20 #[.string (bsL [g] ++ bsL (loL i) ++ bsL [58] ++ bsL (hoL k))] w fun e w' => e = .returned (.bool (decide (g = 64) && okP i k)) ∧ Below w.heap.size w w' := fun g w => by
            have h := user_any (bsL [g] ++ bsL (loL i) ++ bsL [58] ++ bsL (hoL k)) (by have := hz g; omega) w
            rw [hd, bsL_toList, user_parts] at h
            rw [hd]
            exact h
          have hR : ∀ (g : UInt8) w, Calls Tryd.prog 21 #[.string (bsL [g] ++ bsL (loL i) ++ bsL [58] ++ bsL (hoL k))] w fun e w' => e = .returned (.bool (decide (g = 33) && okP i k)) ∧ Below w.heap.size w w' := fun g w => by
            have h := room_any (bsL [g] ++ bsL (loL i) ++ bsL [58] ++ bsL (hoL k)) (by have := hz g; omega) w
            rw [hd, bsL_toList, room_parts] at h
            rw [hd]
            exact h
          have hS : ∀ (b : Bool) w, Calls Tryd.prog 22 #[.string (bsL [if b then 33 else 64] ++ bsL (loL i) ++ bsL [58] ++ bsL (hoL k))] w fun e w' => e = .returned (.string (bsL (if okP i k then hoL k else []))) ∧ Below w.heap.size w w' := fun b w => by
            have h := server_any (bsL [if b then 33 else 64] ++ bsL (loL i) ++ bsL [58] ++ bsL (hoL k)) (by have := hz (if b then 33 else 64); omega) w
            rw [hd, bsL_toList, server_parts] at h
            rw [hd]
            exact h
          have hH : ∀ w, Calls Tryd.prog 23 #[.string (bsL (hoL k))] w fun e w' => e = .returned (.bool (decide (1 ≤ k) && decide (k ≤ 40))) ∧ Below w.heap.size w w' := fun w => by
            have h := host_any (bsL (hoL k)) (by omega) w
            rw [bsL_toList, ho_of] at h
            exact h
          have hUt := hU 33; have hUf := hU 64; have hRt := hR 33; have hRf := hR 64; have hSt := hS true; have hSf := hS false
          obtain ⟨LO, hLO⟩ : ∃ t, bsL (loL i) = t := ⟨_, rfl⟩
          obtain ⟨HO, hHO⟩ : ∃ t, bsL (hoL k) = t := ⟨_, rfl⟩
          have hsv : bsL (if okP i k then hoL k else []) = if okP i k then HO else ⟨#[]⟩ := by
            rw [← hHO]
            cases okP i k <;> rfl
          rw [hsv] at hSt hSf
          simp only [if_true, Bool.false_eq_true, if_false] at hSt hSf
          rw [hLO, hHO] at hUt hUf hRt hRf hSt hSf
          rw [hHO] at hH hHs ⊢
          rw [hLO] at hLs ⊢
          have q33 : bsL [33] = ⟨#[33]⟩ := rfl
          have q64 : bsL [64] = ⟨#[64]⟩ := rfl
          have q58 : bsL [58] = ⟨#[58]⟩ := rfl
          rw [q33, q58, show decide ((33 : UInt8) = 64) = false from by decide] at hUt
          rw [q64, q58, show decide ((64 : UInt8) = 64) = true from by decide] at hUf
          rw [q33, q58, show decide ((33 : UInt8) = 33) = true from by decide] at hRt
          rw [q64, q58, show decide ((64 : UInt8) = 33) = false from by decide] at hRf
          rw [q33, q58] at hSt
          rw [q64, q58] at hSf
          clear q33 q64 q58
          have HB := Lib.hid (below_drewN W q)
          obtain ⟨W0, hW0⟩ : ∃ W0, W.drewN q = W0 := ⟨_, rfl⟩
          rw [hW0] at HB ⊢
          clear hU hR hS hd hz hsv hLO hHO hW0
          obtain ⟨o, ho⟩ : ∃ o, okP i k = o := ⟨_, rfl⟩
          rw [ho] at hUt hUf hRt hRf hSt hSf
          obtain ⟨t1, h1⟩ : ∃ o, decide (1 ≤ i) = o := ⟨_, rfl⟩
          obtain ⟨t2, h2⟩ : ∃ o, decide (i ≤ 40) = o := ⟨_, rfl⟩
          obtain ⟨t3, h3⟩ : ∃ o, decide (1 ≤ k) = o := ⟨_, rfl⟩
          obtain ⟨t4, h4⟩ : ∃ o, decide (k ≤ 40) = o := ⟨_, rfl⟩
          rw [h3, h4] at hH
          unfold okP at ho
          rw [h1, h2, h3, h4] at ho
          have HUt := Lib.hid hUt; have HUf := Lib.hid hUf; have HRt := Lib.hid hRt; have HRf := Lib.hid hRf; have HSt := Lib.hid hSt; have HSf := Lib.hid hSf; have HH := Lib.hid hH
          clear hUt hUf hRt hRf hSt hSf hH
          cases t1 <;> cases t2 <;> cases t3 <;> cases t4 <;> simp only [decide_eq_true_eq, decide_eq_false_iff_not] at h1 h2 h3 h4 <;> first | (exact absurd h1 (by omega)) | (exact absurd h3 (by omega)) | skip
          all_goals subst ho
          all_goals
            try have i1 : (1 : Int) ≤ (i : Int) := by omega
            try have i1 : (i : Int) < 1 := by omega
            try have i2 : (i : Int) ≤ 40 := by omega
            try have i2 : (40 : Int) < (i : Int) := by omega
            try have i3 : (1 : Int) ≤ (k : Int) := by omega
            try have i3 : (k : Int) < 1 := by omega
            try have i4 : (k : Int) ≤ 40 := by omega
            try have i4 : (40 : Int) < (k : Int) := by omega
            try have j4 : decide ((k : Int) ≤ 40) = false := decide_eq_false (by omega)
            try have j2 : decide ((i : Int) ≤ 40) = false := decide_eq_false (by omega)
            clear h1 h2 h3 h4
          all_goals cases a2
          all_goals
            go_wp2_with fail
            refine (known_any _).mono ?_
            rintro e w4 ⟨rfl, hb4⟩
            have HB4 := Lib.hid (below_trs HB.out hb4); clear hb4 HB
            go_wp2_with fail
            first | (with_reducible refine (HUf.out _).mono ?_) | (with_reducible refine (HUt.out _).mono ?_)
            rintro e w5 ⟨rfl, hb5⟩
            have HB5 := Lib.hid (below_trs HB4.out hb5); clear hb5 HB4
            go_wp2_with fail
            first | (with_reducible refine (HRf.out _).mono ?_) | (with_reducible refine (HRt.out _).mono ?_)
            rintro e w6 ⟨rfl, hb6⟩
            have HB6 := Lib.hid (below_trs HB5.out hb6); clear hb6 HB5
            go_wp2_with fail
            first | (with_reducible refine (HSf.out _).mono ?_) | (with_reducible refine (HSt.out _).mono ?_)
            rintro e w7 ⟨rfl, hb7⟩
            have HB7 := Lib.hid (below_trs HB6.out hb7); clear hb7 HB6
            go_wp2_with fail
            refine (HH.out _).mono ?_
            rintro e w8 ⟨rfl, hb8⟩
            have HB8 := Lib.hid (below_trs HB7.out hb8); clear hb8 HB7
            go_wp2_with fail
            go_ret
            exact ⟨rfl, HB8.out⟩
end Go.Proofs.YtehpnbeihnhjeaaDoor

/-
  The row of the law NamesParts: whatever the input, it answers true and leaves its arguments as they were; out of its walk.
-/
namespace Go.Proofs.YtehpnbeihnhjeaaDoor.namesParts
open Go.ChangeShapes Go.WideShapes Go.ChangeAt Go.RowKit
open Go.ChangeMaps (open_string shut_string)
theorem own : ownKnob Tryd.prog.godebug = none := by kernel_rfl
set_option maxRecDepth 100000 in
theorem lifted (os : Os) (started : os.Started) (H : Type) (enc : TypeId × Value → H) :
    ReturnsInHanded {} Tryd.checked os 5 .any (fun w args => (Rows.namesPartsSpec.pre enc Tryd.prog Tryd.f5 Rows.namesPartsRow.domain false w args ∧ laidMetH Tryd.prog Rows.namesPartsRow.laid w) ∧ sizedMet enc Tryd.prog Tryd.f5 (OpenSpec.ofChange Rows.namesPartsSpec) false w args)
      (Rows.namesPartsSpec.post enc Tryd.prog Tryd.f5 false true false false) := by
  refine returnsInHanded_of_change_and (C := Tryd.checked) (X := fun w _ => laidMetH Tryd.prog Rows.namesPartsRow.laid w) (fun _ _ _ hh h => h.of_heap hh) own started (by kernel_rfl) Tryd.func5
    (ChangeSpec.witness_shaped (enc := enc) (C := Tryd.checked) (os := os) (X := fun w _ => laidMetH Tryd.prog Rows.namesPartsRow.laid w) false (World.laidAll Tryd.prog os Rows.namesPartsRow.laid) #[.int .u8 0, .int .u8 0, .bool false] 8 (World.laidAll_os _ _ _)
      (World.shaped_of_ZipB (by kernel_rfl) (by kernel_rfl)) (by kernel_rfl) (by kernel_rfl) (by kernel_rfl)
      (by rw [MakeChecks.laidMetH_plain _ _ _ (by kernel_rfl)]; exact laidMet_laidAll _ (by kernel_rfl) (by kernel_rfl))) ?_
  intro W base args ds gs before hval0 hW _ _ hL _
  have hval : ∀ (j : Nat) t v, Tryd.f5.params[j]? = some t → args[j]? = some v → Value.okWide Tryd.prog W .any base t v := hval0
  have hW' := hW
  obtain ⟨p, q, hA0, hV, rfl, hfz, hnd⟩ := hW
  have hA : DataW.TrodAll enc Tryd.prog W 0 (fun _ => true) true Tryd.f5.params.toList args.toList ds p := hA0
  rw [Tryd.params5] at hA hval
  obtain ⟨v0, vs0, d0, ds0, p0, q0, hargs, rfl, rfl, h0, r0⟩ := trodAll_cons hA
  obtain ⟨v1, vs1, d1, ds1, p1, q1, rfl, rfl, rfl, h1, r1⟩ := trodAll_cons r0
  obtain ⟨v2, vs2, d2, ds2, p2, q2, rfl, rfl, rfl, h2, r2⟩ := trodAll_cons r1
  obtain ⟨rfl, rfl, rfl⟩ := trodAll_nil r2
  obtain rfl : args = #[v0, v1, v2] := by cases args; simp_all
  obtain ⟨rfl, rfl⟩ := trodVars_none hV
  obtain ⟨a0, rfl, rfl, rfl, w0⟩ := open_int Tryd.underlying5 (hval 0 5 v0 rfl rfl) h0
  obtain ⟨a1, rfl, rfl, rfl, w1⟩ := open_int Tryd.underlying5 (hval 1 5 v1 rfl rfl) h1
  obtain ⟨a2, rfl, rfl, rfl⟩ := open_bool Tryd.underlying4 (hval 2 4 v2 rfl rfl) h2
  refine (namesParts_walk a0 a1 a2 W w0 w1).mono fun e W' ⟨he, bel⟩ => ?_
  subst he
  exact ⟨_, rfl, _, _, _, [], _, [], hW', trodAll_mk1 (shut_bool Tryd.underlying4 _), (trodAll_cons_mk (shut_int Tryd.underlying5 w0) (trodAll_cons_mk (shut_int Tryd.underlying5 w1) (trodAll_cons_mk (shut_bool Tryd.underlying4 _) trodAll_mk0))), rfl, bel.frame _, fun h => by cases h⟩
theorem over : Rows.namesPartsRow.holds Tryd.pinned (OpenSpec.ofChange Rows.namesPartsSpec) :=
  OpenClaim.holds_of_wide 5 Tryd.f5 rfl rfl rfl rfl rfl rfl rfl ⟨rfl, rfl, rfl, rfl, rfl⟩ rfl rfl rfl rfl rfl (by kernel_rfl) Tryd.func5 (by kernel_rfl)
    (of_decide_eq_true (by kernel_rfl)) (by unfold Func.isWrapper; first | (rw [if_pos (by decide +kernel)]; kernel_rfl) | (rw [if_neg (by decide +kernel)]; exact ⟨rfl, rfl⟩))
    (fun os started H enc _ => lifted os started H enc)
theorem card : Rows.NamesPartsCardSaid :=
  Claim7.holds_tied_plain_at .later [] [.data, .pinned] true (true, "f9907188933ece87b77b1618cb57b030d9a50f3daf99862c9f01d8c3d7d29cbc") false over (fun _ h => by cases h) (by kernel_rfl) (fun _ h => by cases h) namesParts_row_tie rfl ⟨rfl, rfl⟩ (by kernel_rfl) rfl
    (fun f fn hf hfn => by
      obtain rfl : f = 5 := Option.some.inj ((show Tryd.prog.funcNamed "heliast/heliastlaw06.NamesParts" = some 5 by kernel_rfl).symm.trans hf) |>.symm
      obtain rfl : fn = Tryd.f5 := (Option.some.inj (Tryd.func5.symm.trans hfn)).symm
      exact ⟨by kernel_rfl, fun j t ht => by
        rw [Tryd.params5] at ht
        have hm : t ∈ [5, 5, 4] := by simpa using Array.mem_of_getElem? ht
        have hall : ([5, 5, 4].all fun u => !Tryd.prog.wantsStandIn u) = true := by kernel_rfl
        exact (show Tryd.prog.wantsStandIn t = false by simpa using List.all_eq_true.1 hall t hm)⟩)
    (by kernel_rfl)
end Go.Proofs.YtehpnbeihnhjeaaDoor.namesParts
namespace Go.Proofs.YtehpnbeihnhjeaaDoor
/-- The row, under a short name. -/
theorem namesParts_holds : Rows.NamesPartsCardSaid := namesParts.card
#print axioms namesParts_holds
end Go.Proofs.YtehpnbeihnhjeaaDoor

