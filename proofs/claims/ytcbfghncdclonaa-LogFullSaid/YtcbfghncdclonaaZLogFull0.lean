/-
  Texts of this session, merged in build order: LLFull, RLogFull.
-/
import Derived.Test.YtcbfghncdclonaaZE0
import Derived.Test.YtcbfghncdclonaaRows
set_option linter.unusedVariables false
set_option linter.unusedSimpArgs false
/-
  The law LogFull, walked.
-/
namespace Go.Proofs.Ytcbfghncdclonaa
open Go.RowKit Go.Maps Go.Lib
set_option linter.unusedSimpArgs false
set_option linter.unusedVariables false
theorem new_room (r : Nat) (h : r ≤ 4194304) : newS (r : Int) = ⟨r, [], false, 0, false⟩ := by
  unfold newS
  rw [show (max 0 (min (r : Int) 4194304)).toNat = r from by omega]
theorem drewN_below {w0 w : World} {B : Nat} (h : Below B w0 w) (n : Nat) : Below B w0 (w.drewN n) := below_drewN h n
theorem LogW.drewN {B : Nat} {w0 w : World} {p : Nat} {s : Ds} {K : List (Nat × Obj)} (h : LogW B w0 p s K w) (hB : B ≤ w0.heap.size) (n : Nat) : LogW B w0 p s K (w.drewN n) := h.below hB (below_drewN (Below.refl _ w) n)
theorem txts_one (a : ByteArray) : [Value.string a] = txts [a.data.toList] := by
  show _ = [Value.string (bs a.data.toList)]
  rw [bs_data]
theorem short_sized {a : ByteArray} (h : a.size ≤ 300) : ¬ 131072 < a.data.toList.length := by rw [dl]; omega
set_option maxRecDepth 100000 in
set_option maxHeartbeats 4000000 in
theorem logFull_11 (r : Nat) (hr : r ≤ 255) (a b : ByteArray) (hab : a.size + b.size ≤ 200) (hfa : a.size + 8 ≤ r) (hfb : (a.size + 8) + (b.size + 8) ≤ r) (W : World) :
    Calls Try.prog 3 #[.int .u8 (r : Int), .string a, .string b] W fun e w' => e = .returned (.bool true) ∧ Below W.heap.size W w' := by
  have H0 := Lib.hid (Nat.le_refl W.heap.size)
  have HK := Lib.hid known_any
  have HN := Lib.hid (Mine.new (Below.refl W.heap.size W) (Nat.le_refl _) (r : Int) (new_room r (by omega)))
  have sa := short_sized (a := a) (by omega)
  have sb := short_sized (a := b) (by omega)
  have la : a.data.toList.length = a.size := dl a
  have lb : b.data.toList.length = b.size := dl b
  have f0 : (frames []).length = 0 := rfl
  have f1 : (frames [a.data.toList]).length = a.size + 8 := by rw [frames_one _ sa, la]
  have PA := Lib.hid (put_own r 0 0 [] a.data.toList sa (by omega))
  have PB := Lib.hid (put_own r (frames [a.data.toList]).length 0 [a.data.toList] b.data.toList sb (by omega))
  have fw : (frames ([a.data.toList] ++ [b.data.toList])).length ≤ r := by
    rw [frames_snoc, List.length_append, frameL_length sb]; omega
  have PO := Lib.hid (mids_own r ((frames ([a.data.toList] ++ [b.data.toList])).length) 0 false ([a.data.toList] ++ [b.data.toList]) (show Shorts [a.data.toList, b.data.toList] from by intro x hx; simp at hx; rcases hx with rfl | rfl; exact sa; exact sb) fw)
  have t1 : ((a.size : Int) + 8 ≤ (r : Int)) = True := eq_true (by omega)
  have t2 : ((b.size : Int) + 8 ≤ (r : Int) - ((a.size : Int) + 8)) = True := eq_true (by omega)
  have t0 : (200 < (a.size : Int) + (b.size : Int)) = False := eq_false (by omega)
  have r1 : (r : Int) ≤ 255 := by omega
  have a1 : (a.size : Int) ≤ 200 := by omega
  have b1 : (b.size : Int) ≤ 200 := by omega
  have ab := Lib.hid (show a.size ≤ 131072 ∧ b.size ≤ 131072 by omega)
  obtain ⟨i0, hi, hz0, hz1, hz2⟩ := info_parts info9
  clear hfa hfb sa sb la lb f0 f1 fw hr hab
  go_enter Try.func3, Try.ntmps3
  go_wp2_with fail
  refine HN.out.mono ?_
  rintro e w1 ⟨p, rfl, hm⟩
  have M1 := Lib.hid (LogW.of_mine hm); clear hm HN
  go_wp2_with fail
  refine (open_ok M1.out H0.out rfl (mids_new r 0 false)).mono ?_
  rintro e w2 ⟨g, v, R, rfl, hr, hm⟩
  have M2 := Lib.hid hm; clear hm M1
  obtain ⟨va, vc, rfl⟩ := hr.slice_len
  clear hr
  go_wp2_with fail
  refine (put_ok g 0 M2.out H0.out a ab.out.1 PA.out (by omega)).mono ?_
  rintro e w3 ⟨rfl, hm⟩
  have M3 := Lib.hid hm; clear hm M2
  go_wp2_with fail
  refine (put_ok g 1 M3.out H0.out b ab.out.2 PB.out (by omega)).mono ?_
  rintro e w4 ⟨rfl, hm⟩
  have M4 := Lib.hid hm; clear hm M3
  go_wp2_with (first | (have za : w4.heap.size ≤ w4.heap.size := (Below.refl w4.heap.size w4).size; at_builtin; refine wpList_append_own _ rfl _ _ 26 rfl w4.heap.size 9 i0 (.string ByteArray.empty) 1 16 Try.underlying26 hi hz0 hz1 hz2 rfl (by decide) _ _ _ rfl ((World.ownsRow_nil w4 w4.heap.size 9 1).alloc _) ⟨w4.heap.size, 0, none⟩ 1 1 [.string a] rfl rfl (cell_one_new _ _ _) (by simp [Value.oneCell']) (by unfold maxLen; omega) (by omega) (by simp <;> omega) ?_; intro va w5a hown hgrow _; have HOa := Lib.hid hown; have HGa := Lib.hid (((Below.refl w4.heap.size w4).alloc za _).grown hgrow (by simp <;> omega) (fun k e => by cases e)); clear hown hgrow; obtain ⟨ga, capa, rfl⟩ := ownsRow_succ HOa.out) | (have zb : w4.heap.size ≤ w5a.heap.size := (HGa.out).size; at_builtin; refine wpList_append_own _ rfl _ _ 26 rfl w4.heap.size 9 i0 (.string ByteArray.empty) 1 16 Try.underlying26 hi hz0 hz1 hz2 rfl (by decide) _ _ _ rfl ((HOa.out).alloc _) ⟨w5a.heap.size, 0, none⟩ 1 1 [.string b] rfl rfl (cell_one_new _ _ _) (by simp [Value.oneCell']) (by unfold maxLen; omega) (by omega) (by simp <;> omega) ?_; intro vb w5b hown hgrow _; have HOb := Lib.hid hown; have HGb := Lib.hid (((HGa.out).alloc zb _).grown hgrow (by simp <;> omega) (own_base HOa.out)); clear hown hgrow; obtain ⟨gb, capb, rfl⟩ := ownsRow_succ HOb.out))
  obtain ⟨RW, hRW, hm⟩ := M4.out.row H0.out (HGb.out) (xs := [a.data.toList, b.data.toList]) (by rw [show txts [a.data.toList, b.data.toList] = [Value.string a] ++ [Value.string b] by rw [txts_one a, txts_one b]; rfl]; exact HOb.out)
  have M5 := Lib.hid hm; have HRW := Lib.hid hRW; clear hm hRW
  refine (open_ok M5.out H0.out rfl PO.out).mono ?_
  rintro e w6 ⟨g2, v2, R2, rfl, hr2, hm⟩
  have M6 := Lib.hid hm; clear hm M5
  obtain ⟨va2, vc2, rfl⟩ := hr2.slice_len
  have HR2 := Lib.hid hr2
  clear hr2
  go_wp2_with fail
  refine (HK.out _).mono ?_
  rintro e w7 ⟨rfl, hb7⟩
  have M7 := Lib.hid (M6.out.below H0.out hb7)
  clear hb7 M6
  go_wp2_with fail
  have hT2 := HR2.out.texts (w := w7) (fun x hx => M7.out.get (g := x.1) (o := x.2) (by simp [hx])) (by simp)
  have hTW := HRW.out.texts (w := w7) (fun x hx => M7.out.get (g := x.1) (o := x.2) (by simp [hx])) (by simp)
  refine (same_any _ _ _ _ _ hT2 hTW).mono ?_
  rintro e w8 ⟨rfl, nn, rfl⟩
  have M8 := Lib.hid (M7.out.drewN H0.out nn)
  have hg8 := Lib.hid (M8.out.get (g := g) (o := .cells #[.pointer (some ⟨p, 0, none⟩), .int .i64 ((2 : Nat) : Int)] 66) (by simp))
  have hdd : ∀ (l1 l2 : List ByteArray), l1 = l2 → decide (l1 = l2) = true := fun _ _ h => decide_eq_true h
  rw [hdd _ _ (by rfl)]
  clear hT2 hTW hdd M7
  go_wp2_with fail
  refine (many_any g 2 _ _ hg8.out).mono ?_
  rintro e w9 ⟨rfl, rfl⟩
  go_wp2_with fail
  go_ret
  exact ⟨rfl, M8.out.belowW⟩
set_option maxRecDepth 100000 in
set_option maxHeartbeats 4000000 in
theorem logFull_10 (r : Nat) (hr : r ≤ 255) (a b : ByteArray) (hab : a.size + b.size ≤ 200) (hfa : a.size + 8 ≤ r) (hfb : r < (a.size + 8) + (b.size + 8)) (W : World) :
    Calls Try.prog 3 #[.int .u8 (r : Int), .string a, .string b] W fun e w' => e = .returned (.bool true) ∧ Below W.heap.size W w' := by
  have H0 := Lib.hid (Nat.le_refl W.heap.size)
  have HK := Lib.hid known_any
  have HN := Lib.hid (Mine.new (Below.refl W.heap.size W) (Nat.le_refl _) (r : Int) (new_room r (by omega)))
  have sa := short_sized (a := a) (by omega)
  have sb := short_sized (a := b) (by omega)
  have la : a.data.toList.length = a.size := dl a
  have lb : b.data.toList.length = b.size := dl b
  have f0 : (frames []).length = 0 := rfl
  have f1 : (frames [a.data.toList]).length = a.size + 8 := by rw [frames_one _ sa, la]
  have PA := Lib.hid (put_own r 0 0 [] a.data.toList sa (by omega))
  have PB := Lib.hid (put_over r (frames [a.data.toList]).length 0 [a.data.toList] b.data.toList sb (by omega))
  have fw : (frames [a.data.toList]).length ≤ r := by
    omega
  have PO := Lib.hid (mids_own r ((frames [a.data.toList]).length) 0 false [a.data.toList] (show Shorts [a.data.toList] from by intro x hx; simp at hx; rw [hx]; exact sa) fw)
  have t1 : ((a.size : Int) + 8 ≤ (r : Int)) = True := eq_true (by omega)
  have t2 : ((b.size : Int) + 8 ≤ (r : Int) - ((a.size : Int) + 8)) = False := eq_false (by omega)
  have t0 : (200 < (a.size : Int) + (b.size : Int)) = False := eq_false (by omega)
  have r1 : (r : Int) ≤ 255 := by omega
  have a1 : (a.size : Int) ≤ 200 := by omega
  have b1 : (b.size : Int) ≤ 200 := by omega
  have ab := Lib.hid (show a.size ≤ 131072 ∧ b.size ≤ 131072 by omega)
  obtain ⟨i0, hi, hz0, hz1, hz2⟩ := info_parts info9
  clear hfa hfb sa sb la lb f0 f1 fw hr hab
  go_enter Try.func3, Try.ntmps3
  go_wp2_with fail
  refine HN.out.mono ?_
  rintro e w1 ⟨p, rfl, hm⟩
  have M1 := Lib.hid (LogW.of_mine hm); clear hm HN
  go_wp2_with fail
  refine (open_ok M1.out H0.out rfl (mids_new r 0 false)).mono ?_
  rintro e w2 ⟨g, v, R, rfl, hr, hm⟩
  have M2 := Lib.hid hm; clear hm M1
  obtain ⟨va, vc, rfl⟩ := hr.slice_len
  clear hr
  go_wp2_with fail
  refine (put_ok g 0 M2.out H0.out a ab.out.1 PA.out (by omega)).mono ?_
  rintro e w3 ⟨rfl, hm⟩
  have M3 := Lib.hid hm; clear hm M2
  go_wp2_with fail
  refine (put_no g 1 M3.out H0.out b ab.out.2 PB.out (by omega)).mono ?_
  rintro e w4 ⟨rfl, hm⟩
  have M4 := Lib.hid hm; clear hm M3
  go_wp2_with (first | (have za : w4.heap.size ≤ w4.heap.size := (Below.refl w4.heap.size w4).size; at_builtin; refine wpList_append_own _ rfl _ _ 26 rfl w4.heap.size 9 i0 (.string ByteArray.empty) 1 16 Try.underlying26 hi hz0 hz1 hz2 rfl (by decide) _ _ _ rfl ((World.ownsRow_nil w4 w4.heap.size 9 1).alloc _) ⟨w4.heap.size, 0, none⟩ 1 1 [.string a] rfl rfl (cell_one_new _ _ _) (by simp [Value.oneCell']) (by unfold maxLen; omega) (by omega) (by simp <;> omega) ?_; intro va w5a hown hgrow _; have HOa := Lib.hid hown; have HGa := Lib.hid (((Below.refl w4.heap.size w4).alloc za _).grown hgrow (by simp <;> omega) (fun k e => by cases e)); clear hown hgrow; obtain ⟨ga, capa, rfl⟩ := ownsRow_succ HOa.out))
  obtain ⟨RW, hRW, hm⟩ := M4.out.row H0.out (HGa.out) (xs := [a.data.toList]) (by rw [← txts_one]; exact HOa.out)
  have M5 := Lib.hid hm; have HRW := Lib.hid hRW; clear hm hRW
  refine (open_ok M5.out H0.out rfl PO.out).mono ?_
  rintro e w6 ⟨g2, v2, R2, rfl, hr2, hm⟩
  have M6 := Lib.hid hm; clear hm M5
  obtain ⟨va2, vc2, rfl⟩ := hr2.slice_len
  have HR2 := Lib.hid hr2
  clear hr2
  go_wp2_with fail
  refine (HK.out _).mono ?_
  rintro e w7 ⟨rfl, hb7⟩
  have M7 := Lib.hid (M6.out.below H0.out hb7)
  clear hb7 M6
  go_wp2_with fail
  have hT2 := HR2.out.texts (w := w7) (fun x hx => M7.out.get (g := x.1) (o := x.2) (by simp [hx])) (by simp)
  have hTW := HRW.out.texts (w := w7) (fun x hx => M7.out.get (g := x.1) (o := x.2) (by simp [hx])) (by simp)
  refine (same_any _ _ _ _ _ hT2 hTW).mono ?_
  rintro e w8 ⟨rfl, nn, rfl⟩
  have M8 := Lib.hid (M7.out.drewN H0.out nn)
  have hg8 := Lib.hid (M8.out.get (g := g) (o := .cells #[.pointer (some ⟨p, 0, none⟩), .int .i64 ((1 : Nat) : Int)] 66) (by simp))
  have hdd : ∀ (l1 l2 : List ByteArray), l1 = l2 → decide (l1 = l2) = true := fun _ _ h => decide_eq_true h
  rw [hdd _ _ (by rfl)]
  clear hT2 hTW hdd M7
  go_wp2_with fail
  refine (many_any g 1 _ _ hg8.out).mono ?_
  rintro e w9 ⟨rfl, rfl⟩
  go_wp2_with fail
  go_ret
  exact ⟨rfl, M8.out.belowW⟩
set_option maxRecDepth 100000 in
set_option maxHeartbeats 4000000 in
theorem logFull_01 (r : Nat) (hr : r ≤ 255) (a b : ByteArray) (hab : a.size + b.size ≤ 200) (hfa : r < a.size + 8) (hfb : 0 + (b.size + 8) ≤ r) (W : World) :
    Calls Try.prog 3 #[.int .u8 (r : Int), .string a, .string b] W fun e w' => e = .returned (.bool true) ∧ Below W.heap.size W w' := by
  have H0 := Lib.hid (Nat.le_refl W.heap.size)
  have HK := Lib.hid known_any
  have HN := Lib.hid (Mine.new (Below.refl W.heap.size W) (Nat.le_refl _) (r : Int) (new_room r (by omega)))
  have sa := short_sized (a := a) (by omega)
  have sb := short_sized (a := b) (by omega)
  have la : a.data.toList.length = a.size := dl a
  have lb : b.data.toList.length = b.size := dl b
  have f0 : (frames []).length = 0 := rfl
  have PA := Lib.hid (put_over r 0 0 [] a.data.toList sa (by omega))
  have PB := Lib.hid (put_own r 0 0 [] b.data.toList sb (by omega))
  have fw : (frames ([] ++ [b.data.toList])).length ≤ r := by
    rw [frames_snoc, List.length_append, frameL_length sb]; omega
  have PO := Lib.hid (mids_own r ((frames ([] ++ [b.data.toList])).length) 0 false ([] ++ [b.data.toList]) (show Shorts [b.data.toList] from by intro x hx; simp at hx; rw [hx]; exact sb) fw)
  have t1 : ((a.size : Int) + 8 ≤ (r : Int)) = False := eq_false (by omega)
  have t2 : ((b.size : Int) + 8 ≤ (r : Int)) = True := eq_true (by omega)
  have t0 : (200 < (a.size : Int) + (b.size : Int)) = False := eq_false (by omega)
  have r1 : (r : Int) ≤ 255 := by omega
  have a1 : (a.size : Int) ≤ 200 := by omega
  have b1 : (b.size : Int) ≤ 200 := by omega
  have ab := Lib.hid (show a.size ≤ 131072 ∧ b.size ≤ 131072 by omega)
  obtain ⟨i0, hi, hz0, hz1, hz2⟩ := info_parts info9
  clear hfa hfb sa sb la lb f0  fw hr hab
  go_enter Try.func3, Try.ntmps3
  go_wp2_with fail
  refine HN.out.mono ?_
  rintro e w1 ⟨p, rfl, hm⟩
  have M1 := Lib.hid (LogW.of_mine hm); clear hm HN
  go_wp2_with fail
  refine (open_ok M1.out H0.out rfl (mids_new r 0 false)).mono ?_
  rintro e w2 ⟨g, v, R, rfl, hr, hm⟩
  have M2 := Lib.hid hm; clear hm M1
  obtain ⟨va, vc, rfl⟩ := hr.slice_len
  clear hr
  go_wp2_with fail
  refine (put_no g 0 M2.out H0.out a ab.out.1 PA.out (by omega)).mono ?_
  rintro e w3 ⟨rfl, hm⟩
  have M3 := Lib.hid hm; clear hm M2
  go_wp2_with fail
  refine (put_ok g 0 M3.out H0.out b ab.out.2 PB.out (by omega)).mono ?_
  rintro e w4 ⟨rfl, hm⟩
  have M4 := Lib.hid hm; clear hm M3
  go_wp2_with (first | (have zb : w4.heap.size ≤ w4.heap.size := (Below.refl w4.heap.size w4).size; at_builtin; refine wpList_append_own _ rfl _ _ 26 rfl w4.heap.size 9 i0 (.string ByteArray.empty) 1 16 Try.underlying26 hi hz0 hz1 hz2 rfl (by decide) _ _ _ rfl ((World.ownsRow_nil w4 w4.heap.size 9 1).alloc _) ⟨w4.heap.size, 0, none⟩ 1 1 [.string b] rfl rfl (cell_one_new _ _ _) (by simp [Value.oneCell']) (by unfold maxLen; omega) (by omega) (by simp <;> omega) ?_; intro vb w5b hown hgrow _; have HOb := Lib.hid hown; have HGb := Lib.hid (((Below.refl w4.heap.size w4).alloc zb _).grown hgrow (by simp <;> omega) (fun k e => by cases e)); clear hown hgrow; obtain ⟨gb, capb, rfl⟩ := ownsRow_succ HOb.out))
  obtain ⟨RW, hRW, hm⟩ := M4.out.row H0.out (HGb.out) (xs := [b.data.toList]) (by rw [← txts_one]; exact HOb.out)
  have M5 := Lib.hid hm; have HRW := Lib.hid hRW; clear hm hRW
  refine (open_ok M5.out H0.out rfl PO.out).mono ?_
  rintro e w6 ⟨g2, v2, R2, rfl, hr2, hm⟩
  have M6 := Lib.hid hm; clear hm M5
  obtain ⟨va2, vc2, rfl⟩ := hr2.slice_len
  have HR2 := Lib.hid hr2
  clear hr2
  go_wp2_with fail
  refine (HK.out _).mono ?_
  rintro e w7 ⟨rfl, hb7⟩
  have M7 := Lib.hid (M6.out.below H0.out hb7)
  clear hb7 M6
  go_wp2_with fail
  have hT2 := HR2.out.texts (w := w7) (fun x hx => M7.out.get (g := x.1) (o := x.2) (by simp [hx])) (by simp)
  have hTW := HRW.out.texts (w := w7) (fun x hx => M7.out.get (g := x.1) (o := x.2) (by simp [hx])) (by simp)
  refine (same_any _ _ _ _ _ hT2 hTW).mono ?_
  rintro e w8 ⟨rfl, nn, rfl⟩
  have M8 := Lib.hid (M7.out.drewN H0.out nn)
  have hg8 := Lib.hid (M8.out.get (g := g) (o := .cells #[.pointer (some ⟨p, 0, none⟩), .int .i64 ((1 : Nat) : Int)] 66) (by simp))
  have hdd : ∀ (l1 l2 : List ByteArray), l1 = l2 → decide (l1 = l2) = true := fun _ _ h => decide_eq_true h
  rw [hdd _ _ (by rfl)]
  clear hT2 hTW hdd M7
  go_wp2_with fail
  refine (many_any g 1 _ _ hg8.out).mono ?_
  rintro e w9 ⟨rfl, rfl⟩
  go_wp2_with fail
  go_ret
  exact ⟨rfl, M8.out.belowW⟩
set_option maxRecDepth 100000 in
set_option maxHeartbeats 4000000 in
theorem logFull_00 (r : Nat) (hr : r ≤ 255) (a b : ByteArray) (hab : a.size + b.size ≤ 200) (hfa : r < a.size + 8) (hfb : r < 0 + (b.size + 8)) (W : World) :
    Calls Try.prog 3 #[.int .u8 (r : Int), .string a, .string b] W fun e w' => e = .returned (.bool true) ∧ Below W.heap.size W w' := by
  have H0 := Lib.hid (Nat.le_refl W.heap.size)
  have HK := Lib.hid known_any
  have HN := Lib.hid (Mine.new (Below.refl W.heap.size W) (Nat.le_refl _) (r : Int) (new_room r (by omega)))
  have sa := short_sized (a := a) (by omega)
  have sb := short_sized (a := b) (by omega)
  have la : a.data.toList.length = a.size := dl a
  have lb : b.data.toList.length = b.size := dl b
  have f0 : (frames []).length = 0 := rfl
  have PA := Lib.hid (put_over r 0 0 [] a.data.toList sa (by omega))
  have PB := Lib.hid (put_over r 0 0 [] b.data.toList sb (by omega))
  have fw : (frames []).length ≤ r := by
    omega
  have PO := Lib.hid (mids_own r (0) 0 false [] (show Shorts [] from fun _ h => by cases h) fw)
  have t1 : ((a.size : Int) + 8 ≤ (r : Int)) = False := eq_false (by omega)
  have t2 : ((b.size : Int) + 8 ≤ (r : Int)) = False := eq_false (by omega)
  have t0 : (200 < (a.size : Int) + (b.size : Int)) = False := eq_false (by omega)
  have r1 : (r : Int) ≤ 255 := by omega
  have a1 : (a.size : Int) ≤ 200 := by omega
  have b1 : (b.size : Int) ≤ 200 := by omega
  have ab := Lib.hid (show a.size ≤ 131072 ∧ b.size ≤ 131072 by omega)
  obtain ⟨i0, hi, hz0, hz1, hz2⟩ := info_parts info9
  clear hfa hfb sa sb la lb f0  fw hr hab
  go_enter Try.func3, Try.ntmps3
  go_wp2_with fail
  refine HN.out.mono ?_
  rintro e w1 ⟨p, rfl, hm⟩
  have M1 := Lib.hid (LogW.of_mine hm); clear hm HN
  go_wp2_with fail
  refine (open_ok M1.out H0.out rfl (mids_new r 0 false)).mono ?_
  rintro e w2 ⟨g, v, R, rfl, hr, hm⟩
  have M2 := Lib.hid hm; clear hm M1
  obtain ⟨va, vc, rfl⟩ := hr.slice_len
  clear hr
  go_wp2_with fail
  refine (put_no g 0 M2.out H0.out a ab.out.1 PA.out (by omega)).mono ?_
  rintro e w3 ⟨rfl, hm⟩
  have M3 := Lib.hid hm; clear hm M2
  go_wp2_with fail
  refine (put_no g 0 M3.out H0.out b ab.out.2 PB.out (by omega)).mono ?_
  rintro e w4 ⟨rfl, hm⟩
  have M4 := Lib.hid hm; clear hm M3
  go_wp2_with fail
  obtain ⟨RW, hRW, hm⟩ := M4.out.row H0.out (Below.refl w4.heap.size w4) (xs := []) (World.ownsRow_nil w4 w4.heap.size 9 1)
  have M5 := Lib.hid hm; have HRW := Lib.hid hRW; clear hm hRW
  refine (open_ok M5.out H0.out rfl PO.out).mono ?_
  rintro e w6 ⟨g2, v2, R2, rfl, hr2, hm⟩
  have M6 := Lib.hid hm; clear hm M5
  obtain ⟨va2, vc2, rfl⟩ := hr2.slice_len
  have HR2 := Lib.hid hr2
  clear hr2
  go_wp2_with fail
  refine (HK.out _).mono ?_
  rintro e w7 ⟨rfl, hb7⟩
  have M7 := Lib.hid (M6.out.below H0.out hb7)
  clear hb7 M6
  go_wp2_with fail
  have hT2 := HR2.out.texts (w := w7) (fun x hx => M7.out.get (g := x.1) (o := x.2) (by simp [hx])) (by simp)
  have hTW := HRW.out.texts (w := w7) (fun x hx => M7.out.get (g := x.1) (o := x.2) (by simp [hx])) (by simp)
  refine (same_any _ _ _ _ _ hT2 hTW).mono ?_
  rintro e w8 ⟨rfl, nn, rfl⟩
  have M8 := Lib.hid (M7.out.drewN H0.out nn)
  have hg8 := Lib.hid (M8.out.get (g := g) (o := .cells #[.pointer (some ⟨p, 0, none⟩), .int .i64 ((0 : Nat) : Int)] 66) (by simp))
  have hdd : ∀ (l1 l2 : List ByteArray), l1 = l2 → decide (l1 = l2) = true := fun _ _ h => decide_eq_true h
  rw [hdd _ _ (by rfl)]
  clear hT2 hTW hdd M7
  go_wp2_with fail
  refine (many_any g 0 _ _ hg8.out).mono ?_
  rintro e w9 ⟨rfl, rfl⟩
  go_wp2_with fail
  go_ret
  exact ⟨rfl, M8.out.belowW⟩
set_option maxRecDepth 100000 in
theorem logFull_walk (a0 : Int) (a1 a2 : ByteArray) (W : World) (i0 : (Lit.int .u8 a0).wf = true) (s1 : a1.size ≤ 140737488351232) (s2 : a2.size ≤ 140737488351232) :
    Calls Try.prog 3 #[.int .u8 a0, .string a1, .string a2] W fun e w' => e = .returned (.bool true) ∧ Below W.heap.size W w' := by
  obtain ⟨r, rfl, hr⟩ := u8_int i0
  by_cases hab : a1.size + a2.size ≤ 200
  · by_cases ha : a1.size + 8 ≤ r
    · by_cases hb : (a1.size + 8) + (a2.size + 8) ≤ r
      · exact logFull_11 r hr a1 a2 hab ha hb W
      · exact logFull_10 r hr a1 a2 hab ha (by omega) W
    · by_cases hb : 0 + (a2.size + 8) ≤ r
      · exact logFull_01 r hr a1 a2 hab (by omega) hb W
      · exact logFull_00 r hr a1 a2 hab (by omega) (by omega) W
  · have HK := Lib.hid known_any
    have t0 : (200 < (a1.size : Int) + (a2.size : Int)) = True := eq_true (by omega)
    have z1 : (a1.size : Int) ≤ 140737488351232 := by omega
    have z2 : (a2.size : Int) ≤ 140737488351232 := by omega
    clear hab s1 s2 i0
    go_enter Try.func3, Try.ntmps3
    go_wp2_with fail
    refine (HK.out _).mono ?_
    rintro e w1 ⟨rfl, hb1⟩
    have B1 := Lib.hid hb1; clear hb1
    go_wp2_with fail
    go_ret
    exact ⟨rfl, B1.out⟩
end Go.Proofs.Ytcbfghncdclonaa

/-
  The row of the law LogFull: whatever the input, it answers true and leaves its arguments as they were; out of its walk.
-/
namespace Go.Proofs.Ytcbfghncdclonaa.logFull
open Go.ChangeShapes Go.WideShapes Go.ChangeAt Go.RowKit
open Go.ChangeMaps (open_string shut_string)
theorem own : ownKnob Try.prog.godebug = none := by kernel_rfl
set_option maxRecDepth 100000 in
theorem lifted (os : Os) (started : os.Started) (H : Type) (enc : TypeId × Value → H) :
    ReturnsInHanded {} Try.checked os 3 .any (Rows.logFullSpec.pre6 enc Try.prog Try.f3 Rows.logFullRow.domain false) (Rows.logFullSpec.post enc Try.prog Try.f3 false true false false) := by
  refine returnsInHanded_of_change_sized (C := Try.checked) own started (by kernel_rfl) Try.func3
    (ChangeSpec.witness6 (enc := enc) (C := Try.checked) false ⟨#[], #[.int .u8 0, .string ByteArray.empty, .string ByteArray.empty], []⟩ 8 (by kernel_rfl) (by kernel_rfl) (by kernel_rfl) (by kernel_rfl)) ?_
  intro W base args ds gs before hval0 hW _ hsz0 _
  have hsz : (DataW.weightsEach Try.prog (Try.f3.params.toList ++ Rows.logFullSpec.plain.varTypes Try.prog) (ds ++ gs)).all (· ≤ reachBytes) = true := hsz0
  have hval : ∀ (j : Nat) t v, Try.f3.params[j]? = some t → args[j]? = some v → Value.okWide Try.prog W .any base t v := hval0
  have hW' := hW
  obtain ⟨p, q, hA0, hV, rfl, hfz, hnd⟩ := hW
  have hA : DataW.TrodAll enc Try.prog W 0 (fun _ => true) true Try.f3.params.toList args.toList ds p := hA0
  rw [Try.params3] at hA hval hsz
  obtain ⟨v0, vs0, d0, ds0, p0, q0, hargs, rfl, rfl, h0, r0⟩ := trodAll_cons hA
  obtain ⟨v1, vs1, d1, ds1, p1, q1, rfl, rfl, rfl, h1, r1⟩ := trodAll_cons r0
  obtain ⟨v2, vs2, d2, ds2, p2, q2, rfl, rfl, rfl, h2, r2⟩ := trodAll_cons r1
  obtain ⟨rfl, rfl, rfl⟩ := trodAll_nil r2
  obtain rfl : args = #[v0, v1, v2] := by cases args; simp_all
  obtain ⟨rfl, rfl⟩ := trodVars_none hV
  obtain ⟨a0, rfl, rfl, rfl, w0⟩ := open_int Try.underlying5 (hval 0 5 v0 rfl rfl) h0
  obtain ⟨a1, rfl, rfl, rfl, y1⟩ := open_string Try.underlying9 (hval 1 9 v1 rfl rfl) h1
  have w1 : a1.size ≤ 140737488351232 := by
    have z := sized_string hsz (j := 1) (t := 9) rfl rfl
    rw [Array.length_toList] at z
    exact z
  obtain ⟨a2, rfl, rfl, rfl, y2⟩ := open_string Try.underlying9 (hval 2 9 v2 rfl rfl) h2
  have w2 : a2.size ≤ 140737488351232 := by
    have z := sized_string hsz (j := 2) (t := 9) rfl rfl
    rw [Array.length_toList] at z
    exact z
  refine (logFull_walk a0 a1 a2 W w0 w1 w2).mono fun e W' ⟨he, bel⟩ => ?_
  subst he
  exact ⟨_, rfl, _, _, _, [], _, [], hW', trodAll_mk1 (shut_bool Try.underlying4 _), (trodAll_cons_mk (shut_int Try.underlying5 w0) (trodAll_cons_mk (shut_string Try.underlying9 y1) (trodAll_cons_mk (shut_string Try.underlying9 y2) trodAll_mk0))), rfl, bel.frame _, fun h => by cases h⟩
theorem over : Rows.logFullRow.holds Try.pinned (OpenSpec.ofChange Rows.logFullSpec) :=
  OpenClaim.holds_of_wide 3 Try.f3 rfl rfl rfl rfl rfl rfl rfl ⟨rfl, rfl, rfl, rfl, rfl⟩ rfl rfl rfl rfl rfl (by kernel_rfl) Try.func3 (by kernel_rfl)
    (of_decide_eq_true (by kernel_rfl)) (by unfold Func.isWrapper; first | (rw [if_pos (by decide +kernel)]; kernel_rfl) | (rw [if_neg (by decide +kernel)]; exact ⟨rfl, rfl⟩))
    (fun os started H enc _ => lifted os started H enc)
end Go.Proofs.Ytcbfghncdclonaa.logFull
namespace Go.Proofs.Ytcbfghncdclonaa
/-- The row, under a short name. -/
theorem logFull_holds : Rows.LogFullSaid := logFull.over
#print axioms logFull_holds
end Go.Proofs.Ytcbfghncdclonaa

