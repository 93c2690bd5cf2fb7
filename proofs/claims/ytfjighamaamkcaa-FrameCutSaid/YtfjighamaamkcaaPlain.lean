/-
  Frames in plain words: what Next and All tell of a frame, of a frame that is cut and of one with another byte.
-/
import Derived.Test.YtfjighamaamkcaaAsked
namespace Go.Proofs.Ytfjighamaamkcaa
open Go.RowKit

/-! ### Frames, in plain words -/
theorem next_frame (A S : List UInt8) (h : ¬ 131072 < A.length) : nextL (frameL A ++ S) = (A, A.length + 8) := by
  obtain ⟨N, hN⟩ : ∃ N, Crc.sum (fourB A.length ++ A) = N := ⟨_, rfl⟩
  have e : frameL A ++ S = fourB A.length ++ (fourB N.toNat ++ (A ++ S)) := by rw [frameL_short h, hN]; simp
  have hn : numB (frameL A ++ S) = A.length := by rw [e, numB_fourB _ (by omega)]
  have d4 : (frameL A ++ S).drop 4 = fourB N.toNat ++ (A ++ S) := by rw [e]; rfl
  have d8 : (frameL A ++ S).drop 8 = A ++ S := by rw [e]; rfl
  have t4 : (frameL A ++ S).take 4 = fourB A.length := by rw [e]; rfl
  have hl : (frameL A ++ S).length = A.length + 8 + S.length := by rw [List.length_append, frameL_length h]
  unfold nextL
  rw [if_neg (by omega), if_neg (by rw [hn]; omega), hn, d4, d8, t4, List.take_left, hN, numB_fourB _ N.isLt, if_pos rfl]
  simp; omega
theorem all_frame (A S : List UInt8) (h : ¬ 131072 < A.length) : allL (frameL A ++ S) = (A :: (allL S).1, (A.length + 8) + (allL S).2) := by
  have hn := next_frame A S h
  rw [allL_go (by rw [hn]; simp), hn]
  have : (frameL A ++ S).drop (A.length + 8) = S := by rw [← frameL_length h, List.drop_left]
  simp only [this]
theorem next_short {s : List UInt8} (h : s.length < 8) : nextL s = ([], 0) := by unfold nextL; rw [if_pos h]
theorem next_none {s : List UInt8} (h : s.length - 8 < numB s) : nextL s = ([], 0) := by
  unfold nextL
  split
  · rfl
  · rw [if_pos (.inr h)]
theorem numB_take (s : List UInt8) (k : Nat) (h : 4 ≤ k) : numB (s.take k) = numB s := by
  unfold numB; rw [List.take_take, Nat.min_eq_left h]
theorem next_cut (A : List UInt8) (k : Nat) (h : ¬ 131072 < A.length) (hk : k < A.length + 8) : nextL ((frameL A).take k) = ([], 0) := by
  have hl := frameL_length h
  by_cases h8 : k < 8
  · exact next_short (by simp; omega)
  · refine next_none ?_
    rw [numB_take _ _ (by omega)]
    have : numB (frameL A) = A.length := by
      rw [frameL_short h, List.append_assoc, numB_fourB _ (by omega)]
    rw [this]; simp; omega
/-- One byte of a frame's sum, or of its bytes, another one: it is none. -/
theorem next_other (A : List UInt8) (i : Nat) (c : UInt8) (h : ¬ 131072 < A.length) (h4 : 4 ≤ i) (hi : i < A.length + 8) (hc : (frameL A)[i]? ≠ some c) :
    nextL ((frameL A).take i ++ [c] ++ (frameL A).drop (i + 1)) = ([], 0) := by
  have hl := frameL_length h
  obtain ⟨F, hF⟩ : ∃ F, frameL A = F := ⟨_, rfl⟩
  rw [hF] at hl hc ⊢
  obtain ⟨N, hN⟩ : ∃ N, Crc.sum (fourB A.length ++ A) = N := ⟨_, rfl⟩
  have e : F = fourB A.length ++ (fourB N.toNat ++ A) := by rw [← hF, frameL_short h, hN]; simp
  obtain ⟨G, hG⟩ : ∃ G, F.take i ++ [c] ++ F.drop (i + 1) = G := ⟨_, rfl⟩
  have hGl : G.length = A.length + 8 := by rw [← hG]; simp; omega
  have g4 : G.take 4 = fourB A.length := by
    rw [← hG, List.append_assoc, List.take_append_of_le_length (by simp; omega), List.take_take, Nat.min_eq_left h4, e]; rfl
  have hGn : numB G = A.length := by
    rw [← numB_take G 4 (by omega), g4]
    have := numB_fourB A.length (by omega) []
    simpa using this
  rw [hG]
  unfold nextL
  rw [if_neg (by omega), if_neg (by rw [hGn]; omega), hGn, g4, if_neg ?_]
  intro heq
  have hsub : ∀ j, j ≠ i → G[j]? = F[j]? := by
    intro j hj
    rw [← hG]
    by_cases hji : j < i
    · rw [List.append_assoc, List.getElem?_append_left (by simp; omega), List.getElem?_take_of_lt hji]
    · have : i < j := by omega
      rw [List.getElem?_append_right (by simp; omega), List.getElem?_drop]
      congr 1
      simp; omega
  have hGi : G[i]? = some c := by
    rw [← hG, List.append_assoc, List.getElem?_append_right (by simp; omega)]
    simp
    rw [Nat.min_eq_left (by omega)]; simp
  by_cases h8 : i < 8
  · -- the sum has turned, its bytes have not
    have eb : (G.drop 8).take A.length = A := by
      have : G.drop 8 = A := by
        apply List.ext_getElem?
        intro j
        rw [List.getElem?_drop, hsub _ (by omega), e, show fourB A.length ++ (fourB N.toNat ++ A) = (fourB A.length ++ fourB N.toNat) ++ A by simp, List.getElem?_append_right (by simp [fourB])]
        congr 1
        simp [fourB]
      rw [this, List.take_length]
    rw [eb, hN] at heq
    have hs := congrArg fourB heq
    rw [fourB_numB _ (by simp; omega)] at hs
    have := congrArg (fun l => l[i - 4]?) hs
    rw [List.getElem?_take_of_lt (by omega), List.getElem?_drop, show 4 + (i - 4) = i by omega, hGi] at this
    apply hc
    rw [this, e]
    match i, h4, h8 with
    | 4, _, _ => rfl
    | 5, _, _ => rfl
    | 6, _, _ => rfl
    | 7, _, _ => rfl
  · -- its bytes have turned, the sum has not
    have hd : numB (G.drop 4) = N.toNat := by
      have : (G.drop 4).take 4 = fourB N.toNat := by
        apply List.ext_getElem?
        intro j
        by_cases hj : j < 4
        · rw [List.getElem?_take_of_lt hj, List.getElem?_drop, hsub _ (by omega), e]
          match j, hj with
          | 0, _ => rfl
          | 1, _ => rfl
          | 2, _ => rfl
          | 3, _ => rfl
        · rw [List.getElem?_eq_none (by simp; omega), List.getElem?_eq_none (by simp [fourB]; omega)]
      rw [← numB_take _ 4 (by omega), this]
      have := numB_fourB N.toNat N.isLt []
      simpa using this
    have hA : A = A.take (i - 8) ++ A[i - 8]'(by omega) :: A.drop (i - 8 + 1) := by simp
    have hB : (G.drop 8).take A.length = A.take (i - 8) ++ c :: A.drop (i - 8 + 1) := by
      have hB1 : G.drop 8 = A.take (i - 8) ++ c :: A.drop (i - 8 + 1) := by
        apply List.ext_getElem?
        intro j
        rw [List.getElem?_drop]
        by_cases hj : j = i - 8
        · subst hj
          rw [show 8 + (i - 8) = i by omega, hGi, List.getElem?_append_right (by simp; omega), List.length_take, Nat.min_eq_left (by omega)]
          simp
        · rw [hsub _ (by omega), e, show fourB A.length ++ (fourB N.toNat ++ A) = (fourB A.length ++ fourB N.toNat) ++ A by simp, List.getElem?_append_right (by simp [fourB])]
          have : 8 + j - (fourB A.length ++ fourB N.toNat).length = j := by simp [fourB]
          rw [this]
          by_cases hjl : j < i - 8
          · rw [List.getElem?_append_left (by simp; omega), List.getElem?_take_of_lt hjl]
          · rw [List.getElem?_append_right (by simp; omega), List.length_take, Nat.min_eq_left (by omega)]
            obtain ⟨m, rfl⟩ : ∃ m, j = i - 8 + 1 + m := ⟨j - (i - 8 + 1), by omega⟩
            rw [show i - 8 + 1 + m - (i - 8) = m + 1 by omega, List.getElem?_cons_succ, List.getElem?_drop]
      rw [hB1, List.take_of_length_le]
      simp; omega
    rw [hd, hB, ← hN] at heq
    have h1 : Crc.sum (fourB A.length ++ A) = Crc.sum (fourB A.length ++ (A.take (i - 8) ++ c :: A.drop (i - 8 + 1))) := BitVec.eq_of_toNat_eq heq
    rw [hA] at h1
    simp only [← hA] at h1
    have h2 := Crc.sum_other (l := fourB A.length ++ A.take (i - 8)) (m := A.drop (i - 8 + 1)) (c := A[i - 8]'(by omega)) (d := c) (by
      rw [List.append_assoc, List.append_assoc, ← hA]; exact h1)
    apply hc
    rw [e, show fourB A.length ++ (fourB N.toNat ++ A) = (fourB A.length ++ fourB N.toNat) ++ A by simp, List.getElem?_append_right (by simp [fourB]; omega)]
    have : i - (fourB A.length ++ fourB N.toNat).length = i - 8 := by simp [fourB]
    rw [this, List.getElem?_eq_getElem (by omega), h2]
