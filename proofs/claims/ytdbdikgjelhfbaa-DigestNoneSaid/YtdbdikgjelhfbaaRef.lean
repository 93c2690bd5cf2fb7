/-
  The reference's Sum, Same and Tail of chapter 4, as the print tells them, tell the plain sum, the plain tail and whether two rows are the same.
-/
import Derived.Test.YtdbdikgjelhfbaaRfx
import Derived.Test.YtdbdikgjelhfbaaTail
import Derived.Test.YtdbdikgjelhfbaaDig
namespace Go.Proofs.Ytdbdikgjelhfbaa
set_option linter.unusedVariables false
set_option linter.unusedSimpArgs false
open Sha Go.RowKit Go.Proofs.YtdbdikgjelhfbaaW.PrintWords Go.Proofs.YtdbdikgjelhfbaaW.PrintLast Go.Proofs.YtdbdikgjelhfbaaW.PrintMore Go.Proofs.Ytdbdikgjelhfbaa.Rf
/-- Words as numbers. -/
def intsW (l : List Sha.W) : List Int := l.map fun x => (x.toNat : Int)
theorem intsW_length (l : List Sha.W) : (intsW l).length = l.length := by simp [intsW]
theorem rd_getD (l : List Int) (i : Nat) : rd l (i : Int) = l.getD i 0 := by simp [rd]
theorem rd_intsW (l : List Sha.W) (i : Nat) : rd (intsW l) (i : Int) = ((l.getD i 0).toNat : Int) := by
  rw [rd_getD, intsW, List.getD_eq_getElem?_getD, List.getElem?_map, List.getD_eq_getElem?_getD]
  cases l[i]? <;> simp
theorem rd_intsB (l : List UInt8) (i : Nat) : rd (intsB l) (i : Int) = ((l.getD i 0).toNat : Int) := by
  rw [rd_getD, intsB, List.getD_eq_getElem?_getD, List.getElem?_map, List.getD_eq_getElem?_getD]
  cases l[i]? <;> simp
theorem ref_turn (x : Sha.W) (n : Nat) (h : n ≤ 32) : heliastref04_turn.f (x.toNat : Int) (n : Int) = some ((turn x n).toNat : Int) := by
  unfold heliastref04_turn.f
  have e1 : IntKind.u64.wrap (32 - (n : Int)) = ((32 - n : Nat) : Int) := by rw [IntKind.wrap_u64]; omega
  have e2 : shr .u32 (x.toNat : Int) (n : Int) = ((x >>> n).toNat : Int) := by
    unfold shr
    rw [Int.toNat_natCast, show IntKind.bits .u32 = 32 from rfl, Nat.min_eq_left h, BitVec.toNat_ushiftRight, Nat.shiftRight_eq_div_pow]
    simp
  have e3 : shl .u32 (x.toNat : Int) ((32 - n : Nat) : Int) = ((x <<< (32 - n)).toNat : Int) := by
    unfold shl
    rw [Int.toNat_natCast, show IntKind.bits .u32 = 32 from rfl, Nat.min_eq_left (by omega), IntKind.wrap_u32, BitVec.toNat_shiftLeft, Nat.shiftLeft_eq]
    simp
  rw [e1, if_pos (by omega), if_pos (by omega), e2, e3, or_nat, BitVec.or_comm]
  rfl
theorem rturn_2 (x : Sha.W) : heliastref04_turn.f (x.toNat : Int) 2 = some ((turn x 2).toNat : Int) := by
  have h := ref_turn x 2 (by decide)
  rwa [show ((2 : Nat) : Int) = 2 from rfl] at h
theorem rturn_6 (x : Sha.W) : heliastref04_turn.f (x.toNat : Int) 6 = some ((turn x 6).toNat : Int) := by
  have h := ref_turn x 6 (by decide)
  rwa [show ((6 : Nat) : Int) = 6 from rfl] at h
theorem rturn_7 (x : Sha.W) : heliastref04_turn.f (x.toNat : Int) 7 = some ((turn x 7).toNat : Int) := by
  have h := ref_turn x 7 (by decide)
  rwa [show ((7 : Nat) : Int) = 7 from rfl] at h
theorem rturn_11 (x : Sha.W) : heliastref04_turn.f (x.toNat : Int) 11 = some ((turn x 11).toNat : Int) := by
  have h := ref_turn x 11 (by decide)
  rwa [show ((11 : Nat) : Int) = 11 from rfl] at h
theorem rturn_13 (x : Sha.W) : heliastref04_turn.f (x.toNat : Int) 13 = some ((turn x 13).toNat : Int) := by
  have h := ref_turn x 13 (by decide)
  rwa [show ((13 : Nat) : Int) = 13 from rfl] at h
theorem rturn_17 (x : Sha.W) : heliastref04_turn.f (x.toNat : Int) 17 = some ((turn x 17).toNat : Int) := by
  have h := ref_turn x 17 (by decide)
  rwa [show ((17 : Nat) : Int) = 17 from rfl] at h
theorem rturn_18 (x : Sha.W) : heliastref04_turn.f (x.toNat : Int) 18 = some ((turn x 18).toNat : Int) := by
  have h := ref_turn x 18 (by decide)
  rwa [show ((18 : Nat) : Int) = 18 from rfl] at h
theorem rturn_19 (x : Sha.W) : heliastref04_turn.f (x.toNat : Int) 19 = some ((turn x 19).toNat : Int) := by
  have h := ref_turn x 19 (by decide)
  rwa [show ((19 : Nat) : Int) = 19 from rfl] at h
theorem rturn_22 (x : Sha.W) : heliastref04_turn.f (x.toNat : Int) 22 = some ((turn x 22).toNat : Int) := by
  have h := ref_turn x 22 (by decide)
  rwa [show ((22 : Nat) : Int) = 22 from rfl] at h
theorem rturn_25 (x : Sha.W) : heliastref04_turn.f (x.toNat : Int) 25 = some ((turn x 25).toNat : Int) := by
  have h := ref_turn x 25 (by decide)
  rwa [show ((25 : Nat) : Int) = 25 from rfl] at h
theorem or_sum (a b i : Nat) (h : b < 2 ^ i) : a * 2 ^ i ||| b = a * 2 ^ i + b := by
  have := Nat.two_pow_add_eq_or_of_lt h a
  rw [Nat.mul_comm] at this
  exact this.symm
theorem push_toNat (w : Sha.W) (c : UInt8) (h : w.toNat < 2 ^ 24) : (push w c).toNat = w.toNat * 256 + c.toNat := by
  have hc := c.toNat_lt
  have h1 := push_nat w c
  have e1 : (w.toNat : Int) * 256 % 4294967296 = ((w.toNat * 256 : Nat) : Int) := by omega
  rw [e1, u32_or_nat _ _ (by omega) (by omega)] at h1
  have h2 : w.toNat * 256 ||| c.toNat = w.toNat * 256 + c.toNat := or_sum w.toNat c.toNat 8 (by omega)
  omega
theorem four_toNat (c0 c1 c2 c3 : UInt8) : (four [c0, c1, c2, c3]).toNat = c0.toNat * 16777216 + c1.toNat * 65536 + c2.toNat * 256 + c3.toNat := by
  have h0 := c0.toNat_lt; have h1 := c1.toNat_lt; have h2 := c2.toNat_lt; have h3 := c3.toNat_lt
  have e : four [c0, c1, c2, c3] = push (push (push (push 0 c0) c1) c2) c3 := rfl
  have p0 := push_toNat 0 c0 (by decide)
  rw [show (0 : Sha.W).toNat = 0 from rfl] at p0
  have p1 := push_toNat (push 0 c0) c1 (by omega)
  have p2 := push_toNat (push (push 0 c0) c1) c2 (by omega)
  have p3 := push_toNat (push (push (push 0 c0) c1) c2) c3 (by omega)
  rw [e, p3, p2, p1, p0]; omega
theorem four_int (c0 c1 c2 c3 : UInt8) : Go.bits .or .u32 (Go.bits .or .u32 (Go.bits .or .u32 ((((c0.toNat : Int) % 4294967296) * 16777216) % 4294967296) ((((c1.toNat : Int) % 4294967296) * 65536) % 4294967296)) ((((c2.toNat : Int) % 4294967296) * 256) % 4294967296)) ((c3.toNat : Int) % 4294967296) = ((four [c0, c1, c2, c3]).toNat : Int) := by
  have h0 := c0.toNat_lt; have h1 := c1.toNat_lt; have h2 := c2.toNat_lt; have h3 := c3.toNat_lt
  have e0 : (((c0.toNat : Int) % 4294967296) * 16777216) % 4294967296 = ((c0.toNat * 2 ^ 24 : Nat) : Int) := by omega
  have e1 : (((c1.toNat : Int) % 4294967296) * 65536) % 4294967296 = ((c1.toNat * 65536 : Nat) : Int) := by omega
  have e2 : (((c2.toNat : Int) % 4294967296) * 256) % 4294967296 = ((c2.toNat * 256 : Nat) : Int) := by omega
  have e3 : (c3.toNat : Int) % 4294967296 = (c3.toNat : Int) := by omega
  have s1 := or_sum c0.toNat (c1.toNat * 65536) 24 (by omega)
  have s2 := or_sum (c0.toNat * 256 + c1.toNat) (c2.toNat * 256) 16 (by omega)
  have s3 := or_sum (c0.toNat * 65536 + c1.toNat * 256 + c2.toNat) c3.toNat 8 (by omega)
  rw [e0, e1, e2, e3, u32_or_nat _ _ (by omega) (by omega), s1, show c0.toNat * 2 ^ 24 + c1.toNat * 65536 = (c0.toNat * 256 + c1.toNat) * 2 ^ 16 by omega, u32_or_nat _ _ (by omega) (by omega), s2,
    show (c0.toNat * 256 + c1.toNat) * 2 ^ 16 + c2.toNat * 256 = (c0.toNat * 65536 + c1.toNat * 256 + c2.toNat) * 2 ^ 8 by omega, u32_or_nat _ _ (by omega) (by omega), s3, four_toNat]
  omega
theorem take4 (b : List UInt8) (t : Nat) (h : 4 * t + 4 ≤ b.length) : (b.drop (4 * t)).take 4 = [b.getD (4 * t) 0, b.getD (4 * t + 1) 0, b.getD (4 * t + 2) 0, b.getD (4 * t + 3) 0] := by
  have e : ∀ i, i < 4 → b.getD (4 * t + i) 0 = (b.drop (4 * t)).getD i 0 := fun i _ => by simp [List.getD_eq_getElem?_getD]
  rw [← Nat.add_zero (4 * t)] 
  rw [show 4 * t + 0 + 1 = 4 * t + 1 by omega, show 4 * t + 0 + 2 = 4 * t + 2 by omega, show 4 * t + 0 + 3 = 4 * t + 3 by omega, e 0 (by omega), e 1 (by omega), e 2 (by omega), e 3 (by omega), Nat.add_zero]
  have hl : 4 ≤ (b.drop (4 * t)).length := by rw [List.length_drop]; omega
  match hd : b.drop (4 * t), hl with
  | x0 :: x1 :: x2 :: x3 :: l, _ => rfl
theorem ref_words_l1 (b : List UInt8) : ∀ d t k : Nat, 16 ≤ t → t + d = 64 → d < k → heliastref04_words.l1 k (intsW (upto b t)) (t : Int) = some (intsW (words b)) := by
  intro d
  induction d with
  | zero =>
    intro t k h16 hj hk
    obtain ⟨k, rfl⟩ : ∃ m, k = m + 1 := ⟨k - 1, by omega⟩
    obtain rfl : t = 64 := by omega
    simp only [heliastref04_words.l1]
    rw [if_neg (by omega)]
    rfl
  | succ d ih =>
    intro t k h16 hj hk
    obtain ⟨k, rfl⟩ : ∃ m, k = m + 1 := ⟨k - 1, by omega⟩
    have hl : (upto b t).length = t := upto_length b t
    have e15 : wrap64 ((t : Int) - 15) = ((t - 15 : Nat) : Int) := by rw [wrap64_small (by omega) (by omega)]; omega
    have e2 : wrap64 ((t : Int) - 2) = ((t - 2 : Nat) : Int) := by rw [wrap64_small (by omega) (by omega)]; omega
    have e7 : wrap64 ((t : Int) - 7) = ((t - 7 : Nat) : Int) := by rw [wrap64_small (by omega) (by omega)]; omega
    have e16 : wrap64 ((t : Int) - 16) = ((t - 16 : Nat) : Int) := by rw [wrap64_small (by omega) (by omega)]; omega
    have e1 : wrap64 ((t : Int) + 1) = ((t + 1 : Nat) : Int) := by rw [wrap64_small (by omega) (by omega)]; omega
    simp only [heliastref04_words.l1]
    simp only [e15, e2, e7, e16, e1, rd_intsW, intsW_length, hl, rturn_7, rturn_18, rturn_17, rturn_19, Option.bind_some]
    clear e15 e2 e7 e16 e1
    rw [if_pos (by omega), if_pos (by omega), if_pos (by omega), if_pos (by omega), if_pos (by omega), if_pos (by omega), if_pos (by omega), if_pos (by omega), if_pos (by omega), if_pos (by omega)]
    have s1 := small_nat ((upto b t).getD (t - 2) 0) 17 19 10 1024 (by decide)
    have s2 := small_nat ((upto b t).getD (t - 15) 0) 7 18 3 8 (by decide)
    simp only [Int.cast_ofNat_Int] at s1 s2
    rw [s1, s2, add_nat, add_nat, add_nat]
    have hn : small ((upto b t).getD (t - 2) 0) 17 19 10 + (upto b t).getD (t - 7) 0 + small ((upto b t).getD (t - 15) 0) 7 18 3 + (upto b t).getD (t - 16) 0 = next (upto b t) := by
      unfold next; rw [hl]
    rw [hn]
    have hu : intsW (upto b t) ++ [((next (upto b t)).toNat : Int)] = intsW (upto b (t + 1)) := by rw [upto_more b t h16]; simp [intsW]
    rw [hu]
    exact ih (t + 1) k (by omega) (by omega) (by omega)
theorem ref_words_l0 (b : List UInt8) (hb : b.length = 64) : ∀ d t k : Nat, t + d = 16 → d + 60 < k → heliastref04_words.l0 k (intsB b) (intsW (upto b t)) (t : Int) = some (intsW (words b)) := by
  intro d
  induction d with
  | zero =>
    intro t k hj hk
    obtain ⟨k, rfl⟩ : ∃ m, k = m + 1 := ⟨k - 1, by omega⟩
    obtain rfl : t = 16 := by omega
    simp only [heliastref04_words.l0]
    rw [if_neg (by omega)]
    exact ref_words_l1 b 48 16 k (by omega) (by omega) (by omega)
  | succ d ih =>
    intro t k hj hk
    obtain ⟨k, rfl⟩ : ∃ m, k = m + 1 := ⟨k - 1, by omega⟩
    have e4 : wrap64 (4 * (t : Int)) = ((4 * t : Nat) : Int) := by rw [wrap64_small (by omega) (by omega)]; omega
    have e41 : wrap64 (((4 * t : Nat) : Int) + 1) = ((4 * t + 1 : Nat) : Int) := by rw [wrap64_small (by omega) (by omega)]; omega
    have e42 : wrap64 (((4 * t : Nat) : Int) + 2) = ((4 * t + 2 : Nat) : Int) := by rw [wrap64_small (by omega) (by omega)]; omega
    have e43 : wrap64 (((4 * t : Nat) : Int) + 3) = ((4 * t + 3 : Nat) : Int) := by rw [wrap64_small (by omega) (by omega)]; omega
    have e1 : wrap64 ((t : Int) + 1) = ((t + 1 : Nat) : Int) := by rw [wrap64_small (by omega) (by omega)]; omega
    simp only [heliastref04_words.l0]
    rw [e4, e41, e42, e43, e1, rd_intsB, rd_intsB, rd_intsB, rd_intsB, intsB_length, intsW_length, upto_length, hb, if_pos (by omega), if_pos (by omega), if_pos (by omega), if_pos (by omega), if_pos (by omega), if_pos (by omega), if_pos (by omega), if_pos (by omega), if_pos (by omega), if_pos (by omega), four_int, ← take4 b t (by omega)]
    have hu : intsW (upto b t) ++ [((four ((b.drop (4 * t)).take 4)).toNat : Int)] = intsW (upto b (t + 1)) := by rw [upto_first b t (by omega)]; simp [intsW]
    rw [hu]
    exact ih (t + 1) k (by omega) (by omega)
theorem ref_words (b : List UInt8) (hb : b.length = 64) (k : Nat) (hk : 80 ≤ k) : heliastref04_words.f k (intsB b) = some (intsW (words b)) :=
  ref_words_l0 b hb 16 0 k (by omega) (by omega)
theorem ref_keys : heliastref04_keys.f = some (intsW keys) := rfl
theorem ref_block_l1 (x y : St) : ∀ d j k : Nat, j + d = 8 → d < k → heliastref04_block.l1 k (intsW x.list) (intsW (mixed y.list x.list j)) (j : Int) = some (intsW (y.add x).list) := by
  intro d
  induction d with
  | zero =>
    intro j k hj hk
    obtain ⟨k, rfl⟩ : ∃ m, k = m + 1 := ⟨k - 1, by omega⟩
    obtain rfl : j = 8 := by omega
    simp only [heliastref04_block.l1]
    rw [if_neg (by omega), mixed_all]
  | succ d ih =>
    intro j k hj hk
    obtain ⟨k, rfl⟩ : ∃ m, k = m + 1 := ⟨k - 1, by omega⟩
    have e1 : wrap64 ((j : Int) + 1) = ((j + 1 : Nat) : Int) := by rw [wrap64_small (by omega) (by omega)]; omega
    simp only [heliastref04_block.l1]
    rw [e1, rd_intsW, rd_intsW, add_nat, intsW_length, intsW_length, mixed_length, show y.list.length = 8 from rfl, show x.list.length = 8 from rfl, if_pos (by omega), if_pos (by omega), if_pos (by omega), if_pos (by omega), Int.toNat_natCast]
    have hm : (intsW (mixed y.list x.list j)).set j (((mixed y.list x.list j).getD j 0 + x.list.getD j 0).toNat : Int) = intsW (mixed y.list x.list (j + 1)) := by
      rw [mixed]; simp [intsW, List.map_set]
    rw [hm]
    exact ih (j + 1) k (by omega) (by omega)
theorem ref_block_l0 (x : St) (b : List UInt8) : ∀ d t k : Nat, t + d = 64 → d + 20 < k → heliastref04_block.l0 k (intsW x.list) (intsW (words b)) (intsW keys) (intsW (rounds x b t).list) (t : Int) = some (intsW (take x b).list) := by
  intro d
  induction d with
  | zero =>
    intro t k hj hk
    obtain ⟨k, rfl⟩ : ∃ m, k = m + 1 := ⟨k - 1, by omega⟩
    obtain rfl : t = 64 := by omega
    simp only [heliastref04_block.l0]
    rw [if_neg (by omega)]
    exact ref_block_l1 x (rounds x b 64) 8 0 k (by omega) (by omega)
  | succ d ih =>
    intro t k hj hk
    obtain ⟨k, rfl⟩ : ∃ m, k = m + 1 := ⟨k - 1, by omega⟩
    obtain ⟨y, hy⟩ : ∃ y, rounds x b t = y := ⟨_, rfl⟩
    have hsucc : rounds x b (t + 1) = round y (keys.getD t 0) ((words b).getD t 0) := by rw [rounds, hy]
    rw [hy]
    obtain ⟨A, B, C, D, E, F, G, H⟩ := y
    have r0 : rd (intsW (St.list ⟨A, B, C, D, E, F, G, H⟩)) 0 = (A.toNat : Int) := rfl
    have r1 : rd (intsW (St.list ⟨A, B, C, D, E, F, G, H⟩)) 1 = (B.toNat : Int) := rfl
    have r2 : rd (intsW (St.list ⟨A, B, C, D, E, F, G, H⟩)) 2 = (C.toNat : Int) := rfl
    have r3 : rd (intsW (St.list ⟨A, B, C, D, E, F, G, H⟩)) 3 = (D.toNat : Int) := rfl
    have r4 : rd (intsW (St.list ⟨A, B, C, D, E, F, G, H⟩)) 4 = (E.toNat : Int) := rfl
    have r5 : rd (intsW (St.list ⟨A, B, C, D, E, F, G, H⟩)) 5 = (F.toNat : Int) := rfl
    have r6 : rd (intsW (St.list ⟨A, B, C, D, E, F, G, H⟩)) 6 = (G.toNat : Int) := rfl
    have r7 : rd (intsW (St.list ⟨A, B, C, D, E, F, G, H⟩)) 7 = (H.toNat : Int) := rfl
    have hl8 : (intsW (St.list ⟨A, B, C, D, E, F, G, H⟩)).length = 8 := rfl
    have e1 : wrap64 ((t : Int) + 1) = ((t + 1 : Nat) : Int) := by rw [wrap64_small (by omega) (by omega)]; omega
    have hwl : (words b).length = 64 := upto_length b 64
    have hkl : keys.length = 64 := rfl
    simp only [heliastref04_block.l0]
    simp only [r0, r1, r2, r3, r4, r5, r6, r7, hl8, e1, rd_intsW, intsW_length, hwl, hkl, rturn_6, rturn_11, rturn_25, rturn_2, rturn_13, rturn_22, Option.bind_some]
    clear e1 r0 r1 r2 r3 r4 r5 r6 r7
    rw [if_pos (by omega), if_pos (by omega), if_pos (by omega), if_pos (by omega), if_pos (by omega), if_pos (by omega), if_pos (by omega), if_pos (by omega), if_pos (by omega), if_pos (by omega), if_pos (by omega), if_pos (by omega)]
    obtain ⟨kw, hkw⟩ : ∃ kw, keys.getD t 0 = kw := ⟨_, rfl⟩
    obtain ⟨ww, hww⟩ : ∃ ww, (words b).getD t 0 = ww := ⟨_, rfl⟩
    rw [hkw, hww] at hsucc ⊢
    have g1 := great_nat E 6 11 25
    have g2 := great_nat A 2 13 22
    rw [g1, g2]
    simp only [and_nat, not_nat, xor_nat, add_nat]
    have hr : [(((H + great E 6 11 25 + ((E &&& F) ^^^ (~~~E &&& G)) + kw + ww + (great A 2 13 22 + ((A &&& B) ^^^ (A &&& C) ^^^ (B &&& C)))).toNat : Nat) : Int), (A.toNat : Int), (B.toNat : Int), (C.toNat : Int), ((D + (H + great E 6 11 25 + ((E &&& F) ^^^ (~~~E &&& G)) + kw + ww)).toNat : Int), (E.toNat : Int), (F.toNat : Int), (G.toNat : Int)] = intsW (rounds x b (t + 1)).list := by
      rw [hsucc]; rfl
    rw [hr]
    exact ih (t + 1) k (by omega) (by omega)
theorem ref_block (x : St) (b : List UInt8) (hb : b.length = 64) (k : Nat) (hk : 100 ≤ k) : heliastref04_block.f k (intsW x.list) (intsB b) = some (intsW (take x b).list) := by
  unfold heliastref04_block.f
  rw [ref_words b hb k (by omega), Option.bind_some, ref_keys, Option.bind_some, if_pos (by rw [intsW_length, show x.list.length = 8 from rfl]; decide), List.nil_append]
  exact ref_block_l0 x b 64 0 k (by omega) (by omega)
theorem vals_take (n d : Nat) (h : d < 8) : (vals n 8).take (8 - (d + 1)) ++ [vb n d] = (vals n 8).take (8 - d) := by
  have : d = 0 ∨ d = 1 ∨ d = 2 ∨ d = 3 ∨ d = 4 ∨ d = 5 ∨ d = 6 ∨ d = 7 := by omega
  rcases this with rfl | rfl | rfl | rfl | rfl | rfl | rfl | rfl <;> rfl
theorem ref_tail_l1 (n : Nat) (A : List Int) (hA : A.length ≤ 200) : ∀ (d k : Nat) (x : Int), d ≤ 8 → x = (d : Int) - 1 → d < k → heliastref04_Tail.l1 k (A ++ (vals n 8).take (8 - d)) (IntKind.u64.wrap ((n : Int) * 8)) x = some (A ++ vals n 8) := by
  intro d
  induction d with
  | zero =>
    intro k x hd hx hk
    obtain ⟨k, rfl⟩ : ∃ m, k = m + 1 := ⟨k - 1, by omega⟩
    simp only [heliastref04_Tail.l1]
    rw [if_neg (by omega), List.take_of_length_le (by rw [vals_length]; omega)]
  | succ d ih =>
    intro k x hd hx hk
    obtain ⟨k, rfl⟩ : ∃ m, k = m + 1 := ⟨k - 1, by omega⟩
    obtain rfl : x = (d : Int) := by omega
    clear hx
    have hl : (A ++ (vals n 8).take (8 - (d + 1))).length ≤ 208 := by
      rw [List.length_append, List.length_take, vals_length]; omega
    have e1 : IntKind.u64.wrap (wrap64 (8 * (d : Int))) = ((8 * d : Nat) : Int) := by rw [wrap64_small (by omega) (by omega), IntKind.wrap_u64]; omega
    have e2 : wrap64 ((d : Int) - 1) = (d : Int) - 1 := wrap64_small (by omega) (by omega)
    simp only [heliastref04_Tail.l1]
    rw [e1, e2, shr_vb n d (by omega), List.append_assoc, vals_take n d (by omega)]
    clear e1 e2
    rw [if_pos (by omega), if_pos (by omega), if_pos (by omega)]
    exact ih k _ (by omega) rfl (by omega)
theorem ref_tail_l0 (n : Nat) (hn : n < 18446744073709551616) : ∀ d j k : Nat, j + d = room n → d + 20 < k → heliastref04_Tail.l0 k n (128 :: List.replicate j 0) = some (intsB (tail n)) := by
  have hr : room n = (119 - n % 64) % 64 := rfl
  intro d
  induction d with
  | zero =>
    intro j k hj hk
    obtain ⟨k, rfl⟩ : ∃ m, k = m + 1 := ⟨k - 1, by omega⟩
    have hc : Int.tmod (IntKind.u64.wrap ((Int.tmod (n : Int) 64) + (IntKind.u64.wrap (((128 :: List.replicate j (0 : Int)).length : Int))))) 64 = 56 := by
      rw [List.length_cons, List.length_replicate, Int.tmod_eq_emod_of_nonneg (a := (n : Int)) (by omega), Int.tmod_eq_emod_of_nonneg (by simp only [IntKind.wrap_u64]; omega)]
      simp only [IntKind.wrap_u64]; omega
    simp only [heliastref04_Tail.l0]
    rw [if_pos hc]
    have h := ref_tail_l1 n (128 :: List.replicate j 0) (by simp; omega) 8 k 7 (by omega) (by omega) (by omega)
    rw [Nat.sub_self, List.take_zero, List.append_nil] at h
    rw [h, vals_8]
    obtain rfl : j = room n := by omega
    simp [tail, intsB, List.map_replicate]
  | succ d ih =>
    intro j k hj hk
    obtain ⟨k, rfl⟩ : ∃ m, k = m + 1 := ⟨k - 1, by omega⟩
    have hc : ¬ Int.tmod (IntKind.u64.wrap ((Int.tmod (n : Int) 64) + (IntKind.u64.wrap (((128 :: List.replicate j (0 : Int)).length : Int))))) 64 = 56 := by
      rw [List.length_cons, List.length_replicate, Int.tmod_eq_emod_of_nonneg (a := (n : Int)) (by omega), Int.tmod_eq_emod_of_nonneg (by simp only [IntKind.wrap_u64]; omega)]
      simp only [IntKind.wrap_u64]; omega
    simp only [heliastref04_Tail.l0]
    rw [if_neg hc, if_pos (by simp; omega)]
    have e : (128 :: List.replicate j (0 : Int)) ++ [0] = 128 :: List.replicate (j + 1) 0 := by rw [List.cons_append, List.replicate_succ']
    rw [e]
    exact ih (j + 1) k (by omega) (by omega)
theorem ref_tail (n : Nat) (hn : n < 18446744073709551616) (k : Nat) (hk : 100 ≤ k) : heliastref04_Tail.f k n = some (intsB (tail n)) := by
  have hr : room n < 64 := Nat.mod_lt _ (by decide)
  exact ref_tail_l0 n hn (room n) 0 k (by omega) (by omega)
theorem ref_sum_l1 (st : St) : ∀ d j k : Nat, j + d = 8 → d < k → heliastref04_Sum.l1 k (intsW st.list) (intsB (outTo st j)) (j : Int) = some (intsB (out st)) := by
  intro d
  induction d with
  | zero =>
    intro j k hj hk
    obtain ⟨k, rfl⟩ : ∃ m, k = m + 1 := ⟨k - 1, by omega⟩
    obtain rfl : j = 8 := by omega
    simp only [heliastref04_Sum.l1]
    rw [if_neg (by omega)]
    rfl
  | succ d ih =>
    intro j k hj hk
    obtain ⟨k, rfl⟩ : ∃ m, k = m + 1 := ⟨k - 1, by omega⟩
    have e1 : wrap64 ((j : Int) + 1) = ((j + 1 : Nat) : Int) := by rw [wrap64_small (by omega) (by omega)]; omega
    simp only [heliastref04_Sum.l1]
    have hy := bytes4_int' (st.list.getD j 0)
    have hb : (((st.list.getD j 0).toNat : Int) / 16777216) % 256 = ((st.list.getD j 0).toNat : Int) / 16777216 := by
      have := (st.list.getD j 0).isLt
      omega
    rw [e1, rd_intsW, intsW_length, show st.list.length = 8 from rfl, hb, ← hy]
    clear e1 hb hy
    rw [if_pos (by omega), if_pos (by omega), if_pos (by omega), Option.bind_some, if_pos (by rw [intsB_length, intsB_length, outTo_length st j (by omega)]; simp [bytes4]; omega), ← intsB_append, ← outTo_succ st j (by omega)]
    exact ih (j + 1) k (by omega) (by omega)
theorem ref_sum_l0 (D : List UInt8) (hD : D.length % 64 = 0) (hDl : D.length ≤ 1099511627776) : ∀ d q k : Nat, q + d = D.length / 64 → d + 200 < k → heliastref04_Sum.l0 k (intsB D) (intsW (run init D q).list) ((64 * q : Nat) : Int) = some (intsB (out (run init D (D.length / 64)))) := by
  intro d
  induction d with
  | zero =>
    intro q k hj hk
    obtain ⟨k, rfl⟩ : ∃ m, k = m + 1 := ⟨k - 1, by omega⟩
    simp only [heliastref04_Sum.l0]
    rw [if_neg (by rw [intsB_length]; omega), show D.length / 64 = q by omega]
    exact ref_sum_l1 (run init D q) 8 0 k (by omega) (by omega)
  | succ d ih =>
    intro q k hj hk
    obtain ⟨k, rfl⟩ : ∃ m, k = m + 1 := ⟨k - 1, by omega⟩
    have e1 : wrap64 (((64 * q : Nat) : Int) + 64) = ((64 * (q + 1) : Nat) : Int) := by rw [wrap64_small (by omega) (by omega)]; omega
    simp only [heliastref04_Sum.l0]
    rw [e1]
    clear e1
    have hs : ((intsB D).take ((64 * (q + 1) : Nat) : Int).toNat).drop ((64 * q : Nat) : Int).toNat = intsB ((D.drop (64 * q)).take 64) := by
      rw [Int.toNat_natCast, Int.toNat_natCast, intsB, ← List.map_take, ← List.map_drop, List.drop_take, show 64 * (q + 1) - 64 * q = 64 by omega]
      rfl
    rw [hs, if_pos (by rw [intsB_length]; omega), if_pos (by omega), if_pos (by omega), if_pos (by rw [intsB_length]; omega),
      ref_block (run init D q) _ (by rw [List.length_take, List.length_drop]; omega) k (by omega), Option.bind_some]
    exact ih (q + 1) k (by omega) (by omega)
theorem ref_sum (l : List UInt8) (h : l.length ≤ 1099511000000) (k : Nat) (hk : l.length + 300 ≤ k) : heliastref04_Sum.f k (intsB l) = some (intsB (Sha.sum l)) := by
  have hr : room l.length < 64 := Nat.mod_lt _ (by decide)
  have ht : (tail l.length).length = room l.length + 9 := tail_length _
  have hw := tail_whole l.length
  unfold heliastref04_Sum.f
  have e1 : IntKind.u64.wrap (((intsB l).length : Int)) = (l.length : Int) := by rw [intsB_length, IntKind.wrap_u64]; omega
  rw [e1]
  clear e1
  rw [if_pos (by rw [intsB_length]; simp; omega), Option.bind_some, ref_tail l.length (by omega) k (by omega), Option.bind_some, List.nil_append, if_pos (by rw [intsB_length, intsB_length]; omega), ← intsB_append]
  have hl : (l ++ tail l.length).length = l.length + (tail l.length).length := List.length_append
  have h := ref_sum_l0 (l ++ tail l.length) (by rw [hl]; exact hw) (by rw [hl]; omega) ((l ++ tail l.length).length / 64) 0 k (by omega) (by rw [hl]; omega)
  rw [hl] at h
  exact h
theorem ref_same_l0 (a b : List UInt8) (hab : a.length = b.length) : ∀ d j k : Nat, j + d = a.length → d < k → a.length ≤ 9223372036854775806 → heliastref04_Same.l0 k (intsB a) (intsB b) (j : Int) = some (decide (a.drop j = b.drop j)) := by
  intro d
  induction d with
  | zero =>
    intro j k hj hk hm
    obtain ⟨k, rfl⟩ : ∃ m, k = m + 1 := ⟨k - 1, by omega⟩
    simp only [heliastref04_Same.l0]
    rw [if_neg (by rw [intsB_length]; omega), List.drop_of_length_le (by omega), List.drop_of_length_le (by omega)]
    simp
  | succ d ih =>
    intro j k hj hk hm
    obtain ⟨k, rfl⟩ : ∃ m, k = m + 1 := ⟨k - 1, by omega⟩
    have e1 : wrap64 ((j : Int) + 1) = ((j + 1 : Nat) : Int) := by rw [wrap64_small (by omega) (by omega)]; omega
    simp only [heliastref04_Same.l0]
    rw [e1, rd_intsB, rd_intsB]
    clear e1
    have ha : a.drop j = a.getD j 0 :: a.drop (j + 1) := by
      rw [List.drop_eq_getElem_cons (by omega)]; simp [List.getD_eq_getElem?_getD, List.getElem?_eq_getElem (show j < a.length by omega)]
    have hb : b.drop j = b.getD j 0 :: b.drop (j + 1) := by
      rw [List.drop_eq_getElem_cons (by omega)]; simp [List.getD_eq_getElem?_getD, List.getElem?_eq_getElem (show j < b.length by omega)]
    rw [if_pos (by rw [intsB_length]; omega), if_pos (by omega), if_pos (by rw [intsB_length]; omega)]
    have hc : (((a.getD j 0).toNat : Int) = ((b.getD j 0).toNat : Int)) ↔ a.getD j 0 = b.getD j 0 := by
      rw [← UInt8.toNat_inj]; omega
    by_cases h : a.getD j 0 = b.getD j 0
    · rw [if_pos (hc.2 h), ih (j + 1) k (by omega) (by omega) hm, ha, hb, h]
      simp
    · rw [if_neg (fun e => h (hc.1 e)), ha, hb]
      exact congrArg some (decide_eq_false (fun e => h (List.cons.inj e).1)).symm
theorem ref_same (a b : List UInt8) (ha : a.length ≤ 9223372036854775806) (k : Nat) (hk : a.length < k) : heliastref04_Same.f k (intsB a) (intsB b) = some (decide (a = b)) := by
  unfold heliastref04_Same.f
  rw [intsB_length, intsB_length]
  by_cases h : a.length = b.length
  · rw [if_pos (by omega), show (0 : Int) = ((0 : Nat) : Int) from rfl, ref_same_l0 a b h a.length 0 k (by omega) hk ha]
    rfl
  · rw [if_neg (by omega)]
    have : a ≠ b := fun e => h (by rw [e])
    simp [this]
theorem same_any (a1 a2 : Option Addr) (c1 c2 : Nat) (l1 l2 : List UInt8) (w : World) (h1 : Rd w a1 l1) (hc1 : l1.length ≤ c1) (h2 : Rd w a2 l2) (hc2 : l2.length ≤ c2) (hl : l1.length ≤ 9223372036854775806) :
    Calls Try.prog 13 #[.slice a1 l1.length c1, .slice a2 l2.length c2] w fun e w' => e = .returned (.bool (decide (l1 = l2))) ∧ ∃ n, w' = w.drewN n := by
  have h := heliastref04_Same.calls (l1.length + 1) a1 c1 (intsB l1) a2 c2 (intsB l2) _ w (by rw [intsB_length]; exact h1) (by rw [intsB_length]; exact hc1) (by rw [intsB_length]; exact h2) (by rw [intsB_length]; exact hc2) (ref_same l1 l2 hl _ (by omega))
  rw [intsB_length, intsB_length] at h
  exact h.mono fun e w' ⟨h1, h2⟩ => ⟨h1, h2.out⟩
theorem same_yes (a1 a2 : Option Addr) (c1 c2 : Nat) (l : List UInt8) (w : World) (h1 : Rd w a1 l) (hc1 : l.length ≤ c1) (h2 : Rd w a2 l) (hc2 : l.length ≤ c2) (hl : l.length ≤ 9223372036854775806) :
    Calls Try.prog 13 #[.slice a1 l.length c1, .slice a2 l.length c2] w fun e w' => e = .returned (.bool true) ∧ ∃ n, w' = w.drewN n := by
  have h := same_any a1 a2 c1 c2 l l w h1 hc1 h2 hc2 hl
  simpa using h
theorem ref_sum_any (a : Option Addr) (c : Nat) (l : List UInt8) (w : World) (h : Rd w a l) (hc : l.length ≤ c) (hl : l.length ≤ 1099511000000) :
    Calls Try.prog 17 #[.slice a l.length c] w fun e w' => ∃ v, e = .returned v ∧ OwnB w' w.heap.size v (Sha.sum l) ∧ Below w.heap.size w w' := by
  have h := heliastref04_Sum.calls (l.length + 300) a c (intsB l) _ w (by rw [intsB_length]; exact h) (by rw [intsB_length]; exact hc) (ref_sum l hl _ (Nat.le_refl _))
  rw [intsB_length] at h
  exact h
theorem ref_tail_any (n : Nat) (hn : n < 18446744073709551616) (w : World) :
    Calls Try.prog 18 #[.int .u64 n] w fun e w' => ∃ v, e = .returned v ∧ OwnB w' w.heap.size v (tail n) ∧ Below w.heap.size w w' :=
  heliastref04_Tail.calls 100 n _ w (ref_tail n hn 100 (Nat.le_refl _))
end Go.Proofs.Ytdbdikgjelhfbaa
