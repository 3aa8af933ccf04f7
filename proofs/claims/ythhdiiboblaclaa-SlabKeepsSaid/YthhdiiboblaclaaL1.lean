/- The walks of the laws on checks and counts. -/
import Derived.Test.YthhdiiboblaclaaW26
namespace Go.Proofs.Ythhdiiboblaclaa
open Go.RowKit Go.Over Go.Slb Go.Seg Go.Grow
theorem few_spec : ∀ {k : Nat} {l : List S}, fewB k l = true → l.length ≤ k ∧ ∀ s ∈ l, s.2.length ≤ 40
  | k, [], _ => ⟨by simp, by simp⟩
  | 0, _ :: _, h => by simp [fewB] at h
  | k + 1, s :: r, h => by
    simp only [fewB, Bool.and_eq_true, decide_eq_true_eq] at h
    have h2 := few_spec h.2
    refine ⟨by simp; omega, fun t ht => ?_⟩
    rcases List.mem_cons.1 ht with rfl | ht
    · exact h.1
    · exact h2.2 t ht
set_option maxRecDepth 100000 in set_option maxHeartbeats 3200000 in
theorem law_checks (o : Int) (a : Option Addr) (l : List S) (n c : Nat) (x : Int) (w : World) (H : Slabs w a l) (hn : l.length = n) :
    Calls Try.prog 3 #[.agg #[.int .i64 o, .slice a n c], .int .i64 x] w fun e w' => e = .returned (.bool true) ∧ Below w.heap.size w w' := by
  have HN := Lib.hid hn
  have b1 := below_box w (.cells #[.int .i64 o, .slice a n c] 24)
  have X1 := Blk.new w 24 #[.int .i64 o, .slice a n c] [.int .i64 o, .slice a n c] rfl
  obtain ⟨w1, hw1⟩ : ∃ W, W = w.alloc (.cells #[.int .i64 o, .slice a n c] 24) := ⟨_, rfl⟩
  rw [← hw1] at b1 X1
  have hfw := few_12 o a l n c w1 (H.below b1) hn
  obtain ⟨fb, hfb⟩ : ∃ fb, fewB 20 l = fb := ⟨_, rfl⟩
  rw [hfb] at hfw
  have HFW := Lib.hid hfw; have HW := Lib.hid hw1; have HFB := Lib.hid hfb
  clear hn hw1 hfw hfb
  obtain ⟨r1, hr1⟩ : ∃ r, (if x < 1 ∨ 32 < x then (0 : Int) else x) = r := ⟨_, rfl⟩
  obtain ⟨r2, hr2⟩ : ∃ r, (if x < 1 ∨ 32 < x then (1 : Int) else 0) = r := ⟨_, rfl⟩
  have HR1 := Lib.hid hr1; have HR2 := Lib.hid hr2
  clear hr1 hr2
  go_enter Try.func3, Try.ntmps3
  go_wp2_with fail
  rw [← HW.out]
  refine (HFW.out).mono ?_
  rintro e w2 ⟨rfl, b2⟩
  have X2 := X1.later b2
  have B2 := below_then b1 b2
  have x0 : w2.cell? ⟨w.heap.size, 0, none⟩ = some (.int .i64 o) := X2.cell 0
  have x1 : w2.cell? ⟨w.heap.size, 1, none⟩ = some (.slice a n c) := X2.cell 1
  clear HW HFW b1 b2 X1
  cases fb with
  | false =>
    go_wp2_with (go_at_call 13; refine (awake_13 _).mono ?_; rintro e w' ⟨rfl, hz⟩)
    go_ret
    exact ⟨rfl, (by repeat (first | with_reducible exact Below.refl _ _ | with_reducible assumption | with_reducible refine below_alloc ?_ _ | with_reducible refine Below.drew ?_ | with_reducible refine below_drewN ?_ _ | with_reducible refine below_then ?_ (by with_reducible assumption)))⟩
  | true =>
    have hfs := few_spec HFB.out
    have hn20 : n ≤ 20 := by have := hfs.1; have := HN.out; omega
    have hl40 := hfs.2
    clear hfs HFB
    go_wp2_with fail
    refine (new_14 x w2).mono ?_
    rintro e w3 ⟨rfl, b3⟩
    rw [HR1.out, HR2.out]
    have X3 := X2.later b3
    have B3 := below_then B2 b3
    clear x0 x1 X2 B2 b3
    go_wp2_with fail
    have X4 := X3.alloc (.cells #[.int .i64 r1, .slice none 0 0] 24)
    have Y4 := Blk.new w3 24 #[.int .i64 r1, .slice none 0 0] [.int .i64 r1, .slice none 0 0] rfl
    have B4 := below_then B3 (below_box w3 (.cells #[.int .i64 r1, .slice none 0 0] 24))
    obtain ⟨w4, hw4⟩ : ∃ W, W = w3.alloc (.cells #[.int .i64 r1, .slice none 0 0] 24) := ⟨_, rfl⟩
    rw [← hw4] at X4 Y4 B4 ⊢
    clear hw4 X3 B3
    refine (new_15 x w4).mono ?_
    rintro e w5 ⟨rfl, b5⟩
    rw [HR1.out, HR2.out]
    have X5 := X4.later b5
    have Y5 := Y4.later b5
    have B5 := below_then B4 b5
    clear X4 Y4 B4 b5
    go_wp2_with fail
    have X6 := X5.alloc (.cells #[.int .i64 r1, .slice none 0 0] 24)
    have Y6 := Y5.alloc (.cells #[.int .i64 r1, .slice none 0 0] 24)
    have Z6 := Blk.new w5 24 #[.int .i64 r1, .slice none 0 0] [.int .i64 r1, .slice none 0 0] rfl
    have B6 := below_then B5 (below_box w5 (.cells #[.int .i64 r1, .slice none 0 0] 24))
    obtain ⟨w6, hw6⟩ : ∃ W, W = w5.alloc (.cells #[.int .i64 r1, .slice none 0 0] 24) := ⟨_, rfl⟩
    rw [← hw6] at X6 Y6 Z6 B6 ⊢
    clear hw6 X5 Y5 B5
    have d16 := fun u => check_16 o a l n c (over w6 u) (H.below (below_then B6 (below_over w6 u))) HN.out (by omega)
    have d17 := fun u => check_17 o a l n c (over w6 u) (H.below (below_then B6 (below_over w6 u))) HN.out (by omega)
    have d18 := fun u => same_18 r1 none none [] 0 0 0 (over w6 u) (no_slabs _) (no_slabs _) rfl (by decide) (by simp)
    have d13 := fun u => awake_13 (over w6 u)
    obtain ⟨R, hR⟩ : ∃ R, check o l = R := ⟨_, rfl⟩
    rw [hR] at d16 d17
    clear hR
    refine wp_region_over (by kernel_rfl) (by kernel_rfl) ?_
    have q0 := fun u => over_cell (X6.cell 0) u
    have q1 := fun u => over_cell (X6.cell 1) u
    have q2 := fun u => over_cell (Y6.cell 0) u
    have q3 := fun u => over_cell (Y6.cell 1) u
    have q4 := fun u => over_cell (Z6.cell 0) u
    have q5 := fun u => over_cell (Z6.cell 1) u
    have t1 : (R == R) = true := by simp
    have t2 : (r2 == r2) = true := by simp
    repeat (go_big_quiet_step (first | (go_at_call 16; exact calls_over (d16 _)) | (go_at_call 17; exact calls_over (d17 _)) | (go_at_call 18; exact calls_over (d18 _)) | (go_at_call 13; exact calls_over (d13 _))))
    refine wpQuiet_nil ?_
    rintro _ ⟨u0, rfl⟩
    have B7 := below_then B6 (below_over w6 u0)
    go_wp2
    go_ret
    exact ⟨rfl, B7⟩
set_option maxRecDepth 100000 in set_option maxHeartbeats 3200000 in
theorem law_counts (o : Int) (a : Option Addr) (l : List S) (n c : Nat) (x : Int) (w : World) (H : Slabs w a l) (hn : l.length = n) (hx1 : -9223372036854775808 ≤ x) (hx2 : x ≤ 9223372036854775807) :
    Calls Try.prog 8 #[.agg #[.int .i64 o, .slice a n c], .int .i64 x] w fun e w' => e = .returned (.bool true) ∧ Below w.heap.size w w' := by
  have HN := Lib.hid hn
  have b1 := below_box w (.cells #[.int .i64 o, .slice a n c] 24)
  have X1 := Blk.new w 24 #[.int .i64 o, .slice a n c] [.int .i64 o, .slice a n c] rfl
  obtain ⟨w1, hw1⟩ : ∃ W, W = w.alloc (.cells #[.int .i64 o, .slice a n c] 24) := ⟨_, rfl⟩
  rw [← hw1] at b1 X1
  have hfw := few_12 o a l n c w1 (H.below b1) hn
  obtain ⟨fb, hfb⟩ : ∃ fb, fewB 20 l = fb := ⟨_, rfl⟩
  rw [hfb] at hfw
  have HFW := Lib.hid hfw; have HW := Lib.hid hw1; have HFB := Lib.hid hfb
  clear hn hw1 hfw hfb
  have hac : ∃ p q r : Int, acc o l = .tuple #[.int .i64 p, .int .i64 q, .int .i64 r] := by
    unfold acc
    split
    · exact ⟨_, _, _, rfl⟩
    · exact ⟨0, 0, 0, rfl⟩
  obtain ⟨p, q, r, hac⟩ := hac
  have HAC := Lib.hid hac
  clear hac
  obtain ⟨M, hM⟩ : ∃ M, needL o l x = M := ⟨_, rfl⟩
  have HM := Lib.hid hM
  obtain ⟨Z, hZ⟩ : ∃ Z, (if check o l = 0 then objs o true l else []) = Z := ⟨_, rfl⟩
  obtain ⟨zn, hzn⟩ : ∃ k, Z.length = k := ⟨_, rfl⟩
  have HZ := Lib.hid hZ; have HZN := Lib.hid hzn
  have hz8 : zn ≤ 1000000 := by
    rw [← hzn, ← hZ]
    split
    · rename_i h
      rw [objs_len]
      have hk := check_ok.1 h
      have h1 := used_le hk.len
      have h2 := ok_count hk
      have h3 := hk.o1
      have h4 := hk.o2
      have h5 := mul_small2 (x := (l.length : Int)) (o := o) (by omega) (by omega) (by omega) h4
      omega
    · simp
  clear hM hZ hzn
  go_enter Try.func8, Try.ntmps8
  go_wp2_with fail
  rw [← HW.out]
  refine (HFW.out).mono ?_
  rintro e w2 ⟨rfl, b2⟩
  have X2 := X1.later b2
  have B2 := below_then b1 b2
  have x0 : w2.cell? ⟨w.heap.size, 0, none⟩ = some (.int .i64 o) := X2.cell 0
  have x1 : w2.cell? ⟨w.heap.size, 1, none⟩ = some (.slice a n c) := X2.cell 1
  clear HW HFW b1 b2 X1
  cases fb with
  | false =>
    go_wp2_with (go_at_call 13; refine (awake_13 _).mono ?_; rintro e w' ⟨rfl, hz⟩)
    go_ret
    exact ⟨rfl, (by repeat (first | with_reducible exact Below.refl _ _ | with_reducible assumption | with_reducible refine below_alloc ?_ _ | with_reducible refine Below.drew ?_ | with_reducible refine below_drewN ?_ _ | with_reducible refine below_then ?_ (by with_reducible assumption)))⟩
  | true =>
    have hfs := few_spec HFB.out
    have hn20 : n ≤ 20 := by have := hfs.1; have := HN.out; omega
    have hl40 := hfs.2
    clear hfs HFB
    go_wp2_with fail
    refine (account_27 o a l n c w2 (H.below B2) HN.out (by omega)).mono ?_
    rintro e w3 ⟨rfl, b3⟩
    rw [HAC.out]
    have X3 := X2.later b3
    have B3 := below_then B2 b3
    clear x0 x1 X2 B2 b3
    have x0 : w3.cell? ⟨w.heap.size, 0, none⟩ = some (.int .i64 o) := X3.cell 0
    have x1 : w3.cell? ⟨w.heap.size, 1, none⟩ = some (.slice a n c) := X3.cell 1
    go_wp2_with fail
    refine (account_28 o a l n c w3 (H.below B3) HN.out (by omega)).mono ?_
    rintro e w4 ⟨rfl, b4⟩
    rw [HAC.out]
    have X4 := X3.later b4
    have B4 := below_then B3 b4
    clear x0 x1 X3 B3 b4
    have x0 : w4.cell? ⟨w.heap.size, 0, none⟩ = some (.int .i64 o) := X4.cell 0
    have x1 : w4.cell? ⟨w.heap.size, 1, none⟩ = some (.slice a n c) := X4.cell 1
    go_wp2_with fail
    have t1 : (p == p) = true := by simp
    have t2 : (q == q) = true := by simp
    have t3 : (r == r) = true := by simp
    have t4 : (M == M) = true := by simp
    refine wp_region_in (fun W => Below w4.heap.size w4 W) [(true, 18), (false, 1), (false, 1), (true, 5), (false, 1), (false, 1), (false, 1), (true, 2), (false, 1), (true, 2)] [0, 1, 2, 3, 4, 5, 6, 7, 8, 9, 10, 11, 12, 13, 14, 15, 17, 18, 16, 19, 20, 21, 22, 23, 25, 24, 26, 27, 28, 29, 30, 31, 32] 99 (by kernel_rfl) (by kernel_rfl) (Below.refl _ _).drew ?_
    intro W hW hWe
    clear hWe
    simp only [wpSegsL, inOrder, List.filterMap_cons, List.filterMap_nil, List.getElem?_cons_zero, List.getElem?_cons_succ, List.take_succ_cons, List.take_zero, List.drop_succ_cons, List.drop_zero]
    have q0 := fun z => cell_later (hold_ok (S0 := fun W => Below w4.heap.size w4 W) hW z) x0
    have q1 := fun z => cell_later (hold_ok (S0 := fun W => Below w4.heap.size w4 W) hW z) x1
    repeat (go_big_quiet_step (fail))
    refine wpQuiet_nil ?_
    go_wp2_with fail
    refine (need_29 o a l n c x W (H.below (below_then B4 hW)) HN.out (by omega) hx1 hx2).mono ?_
    rintro e w5 ⟨rfl, b5⟩
    rw [HM.out]
    have hW5 : Below w4.heap.size w4 w5 := below_then hW b5
    go_wp2
    refine ⟨hold_of hW5, ?_⟩
    go_wp2_with fail
    refine (need_25 o a l n c x w5 (H.below (below_then B4 hW5)) HN.out (by omega) hx1 hx2).mono ?_
    rintro e w6 ⟨rfl, b6⟩
    rw [HM.out]
    have hW6 : Below w4.heap.size w4 w6 := below_then hW5 b6
    go_wp2
    refine ⟨hold_of hW6, ?_⟩
    dsimp only
    repeat (go_big_quiet_step (fail))
    refine wpQuiet_nil ?_
    go_wp2_with fail
    refine (objects_30 o a l n c w6 (H.below (below_then B4 hW6)) HN.out (by omega)).mono ?_
    rintro e w7 ⟨v7, rfl, hI7, b7⟩
    rw [HZ.out] at hI7
    obtain ⟨a7, c7, rfl, _, _, _, J7⟩ := hI7.ints HZN.out
    have hW7 : Below w4.heap.size w4 w7 := below_then hW6 b7
    clear hI7
    go_wp2
    refine ⟨hold_of hW7, ?_⟩
    go_wp2_with fail
    refine (objects_31 o a l n c w7 (H.below (below_then B4 hW7)) HN.out (by omega)).mono ?_
    rintro e w8 ⟨v8, rfl, hI8, b8⟩
    rw [HZ.out] at hI8
    obtain ⟨a8, c8, rfl, _, _, _, J8⟩ := hI8.ints HZN.out
    have J7 := J7.below b8
    have hW8 : Below w4.heap.size w4 w8 := below_then hW7 b8
    clear hI8
    go_wp2
    refine ⟨hold_of hW8, ?_⟩
    go_wp2_with fail
    refine (equal_21 a7 a8 Z zn c7 c8 w8 J7 J8 HZN.out hz8).mono ?_
    rintro e w9 ⟨rfl, b9⟩
    have hW9 : Below w4.heap.size w4 w9 := below_then hW8 b9
    go_wp2
    refine ⟨hold_of hW9, ?_⟩
    dsimp only
    repeat (go_big_quiet_step (fail))
    refine wpQuiet_nil ?_
    go_wp2_with fail
    refine (awake_13 w9).mono ?_
    rintro e w10 ⟨rfl, b10⟩
    have hW10 : Below w4.heap.size w4 w10 := below_then hW9 b10
    go_wp2
    refine ⟨hold_of hW10, ?_⟩
    dsimp only
    repeat (go_big_quiet_step (fail))
    refine wpQuiet_nil ?_
    refine NoPanic.normal ?_
    go_wp2
    go_ret
    exact ⟨rfl, below_then B4 hW10⟩
end Go.Proofs.Ythhdiiboblaclaa
