/- Walks: the check of a zone, of the program. -/
import Derived.Test.YtneibbefkjjlnaaZone6
namespace Go.Proofs.Ytneibbefkjjlnaa
open Go.RowKit Go.Over Go.Bud Go.Grow
theorem idx_0 (s0 s1 s2 s3 s4 : Value) (W : World) : (Instr.index 42 (.agg #[s0, s1, s2, s3, s4]) (.int .i64 0)).run Try.prog W = .ok s0 W := by
  simp [Instr.index, run_underlying Try.underlying42, asIntOf, go_sem]
theorem idx_1 (s0 s1 s2 s3 s4 : Value) (W : World) : (Instr.index 42 (.agg #[s0, s1, s2, s3, s4]) (.int .i64 1)).run Try.prog W = .ok s1 W := by
  simp [Instr.index, run_underlying Try.underlying42, asIntOf, go_sem]
theorem idx_2 (s0 s1 s2 s3 s4 : Value) (W : World) : (Instr.index 42 (.agg #[s0, s1, s2, s3, s4]) (.int .i64 2)).run Try.prog W = .ok s2 W := by
  simp [Instr.index, run_underlying Try.underlying42, asIntOf, go_sem]
theorem idx_3 (s0 s1 s2 s3 s4 : Value) (W : World) : (Instr.index 42 (.agg #[s0, s1, s2, s3, s4]) (.int .i64 3)).run Try.prog W = .ok s3 W := by
  simp [Instr.index, run_underlying Try.underlying42, asIntOf, go_sem]
theorem idx_4 (s0 s1 s2 s3 s4 : Value) (W : World) : (Instr.index 42 (.agg #[s0, s1, s2, s3, s4]) (.int .i64 4)).run Try.prog W = .ok s4 W := by
  simp [Instr.index, run_underlying Try.underlying42, asIntOf, go_sem]
def falses : Array Value := Array.replicate 256 (.bool false)
theorem zero_59 (W : World) : (zeroValue 59).run Try.prog W = .ok (.agg falses) W := by
  have h : (Try.prog.info? 59).map (fun i => i.zero) = some (some (.agg falses)) := by kernel_rfl
  cases hi : Try.prog.info? 59 with
  | none => rw [hi] at h; cases h
  | some i =>
    rw [hi] at h
    simp at h
    simp [zeroValue, typeInfo, hi, h, go_sem]
def markL (C : List Int) : List Value := (List.range 256).map fun (i : Nat) => .bool (C.contains (i : Int))
theorem markL_len (C : List Int) : (markL C).length = 256 := by simp [markL]
theorem markL_get (C : List Int) {i : Nat} (h : i < 256) : (markL C)[i]? = some (.bool (C.contains (i : Int))) := by simp [markL, h]
theorem markL_nil : falses = (markL []).toArray := by
  apply Array.ext'
  unfold falses
  rw [Array.toList_replicate]
  apply List.ext_getElem?
  intro k
  rcases Nat.lt_or_ge k 256 with hk | hk
  · rw [markL_get _ hk, List.getElem?_replicate, if_pos hk]; rfl
  · rw [List.getElem?_eq_none (by rw [List.length_replicate]; exact hk), List.getElem?_eq_none (by rw [markL_len]; exact hk)]
theorem markL_put (C : List Int) {i : Nat} : (markL C).set i (.bool true) = markL (C ++ [(i : Int)]) := by
  apply List.ext_getElem?
  intro k
  rcases Nat.lt_or_ge k 256 with hk | hk
  · rw [markL_get _ hk]
    by_cases hik : i = k
    · subst hik
      rw [List.getElem?_set_self (by rw [markL_len]; exact hk)]
      simp
    · rw [List.getElem?_set_ne hik, markL_get _ hk]
      have : ¬ (k : Int) = (i : Int) := by omega
      simp [this]
  · rw [List.getElem?_eq_none (by rw [List.length_set, markL_len]; exact hk), List.getElem?_eq_none (by rw [markL_len]; exact hk)]
theorem dup_hit {C R : List Int} {x : Int} (h : C.contains x = true) : dup (C ++ x :: R) = true := by
  refine dup_count.2 ⟨x, ?_⟩
  have hm : x ∈ C := by simpa using h
  have := List.count_pos_iff.2 hm
  rw [List.count_append, List.count_cons_self]; omega
theorem dup_more {C : List Int} {x : Int} (h : dup C = false) (hx : C.contains x = false) : dup (C ++ [x]) = false := by
  cases hd : dup (C ++ [x]) with
  | false => rfl
  | true =>
    obtain ⟨y, hy⟩ := dup_count.1 hd
    rw [List.count_append, List.count_singleton] at hy
    by_cases hyx : x = y
    · subst hyx
      have hm : x ∉ C := by simpa using hx
      have := List.count_eq_zero.2 hm
      rw [this] at hy
      simp at hy
    · have e : ¬ (x == y) = true := by simpa using hyx
      rw [if_neg e] at hy
      have := dup_count.2 ⟨y, show 1 < C.count y by omega⟩
      rw [h] at this; cases this
theorem xor_0 {x : Int} (h0 : 0 ≤ x) (h1 : x < 256) (h2 : x % 1 = 0) : bits BinOp.xor IntKind.i64 x 1 = bud 0 x := by
  have key : ∀ n : Fin 256, ((n.val : Nat) : Int) % 1 = 0 → bits BinOp.xor IntKind.i64 ((n.val : Nat) : Int) 1 = bud 0 ((n.val : Nat) : Int) := by decide +kernel
  have h := key ⟨x.toNat, by omega⟩
  rw [show ((x.toNat : Nat) : Int) = x by omega] at h
  exact h h2
theorem bud_two_0 (x : Int) : bud 0 x = x + 1 ∨ bud 0 x = x - 1 := by
  unfold bud
  rw [pw_0]
  split
  · exact .inl rfl
  · exact .inr rfl
theorem xor_1 {x : Int} (h0 : 0 ≤ x) (h1 : x < 256) (h2 : x % 2 = 0) : bits BinOp.xor IntKind.i64 x 2 = bud 1 x := by
  have key : ∀ n : Fin 256, ((n.val : Nat) : Int) % 2 = 0 → bits BinOp.xor IntKind.i64 ((n.val : Nat) : Int) 2 = bud 1 ((n.val : Nat) : Int) := by decide +kernel
  have h := key ⟨x.toNat, by omega⟩
  rw [show ((x.toNat : Nat) : Int) = x by omega] at h
  exact h h2
theorem bud_two_1 (x : Int) : bud 1 x = x + 2 ∨ bud 1 x = x - 2 := by
  unfold bud
  rw [pw_1]
  split
  · exact .inl rfl
  · exact .inr rfl
theorem xor_2 {x : Int} (h0 : 0 ≤ x) (h1 : x < 256) (h2 : x % 4 = 0) : bits BinOp.xor IntKind.i64 x 4 = bud 2 x := by
  have key : ∀ n : Fin 256, ((n.val : Nat) : Int) % 4 = 0 → bits BinOp.xor IntKind.i64 ((n.val : Nat) : Int) 4 = bud 2 ((n.val : Nat) : Int) := by decide +kernel
  have h := key ⟨x.toNat, by omega⟩
  rw [show ((x.toNat : Nat) : Int) = x by omega] at h
  exact h h2
theorem bud_two_2 (x : Int) : bud 2 x = x + 4 ∨ bud 2 x = x - 4 := by
  unfold bud
  rw [pw_2]
  split
  · exact .inl rfl
  · exact .inr rfl
theorem xor_3 {x : Int} (h0 : 0 ≤ x) (h1 : x < 256) (h2 : x % 8 = 0) : bits BinOp.xor IntKind.i64 x 8 = bud 3 x := by
  have key : ∀ n : Fin 256, ((n.val : Nat) : Int) % 8 = 0 → bits BinOp.xor IntKind.i64 ((n.val : Nat) : Int) 8 = bud 3 ((n.val : Nat) : Int) := by decide +kernel
  have h := key ⟨x.toNat, by omega⟩
  rw [show ((x.toNat : Nat) : Int) = x by omega] at h
  exact h h2
theorem bud_two_3 (x : Int) : bud 3 x = x + 8 ∨ bud 3 x = x - 8 := by
  unfold bud
  rw [pw_3]
  split
  · exact .inl rfl
  · exact .inr rfl
theorem any_step {l : List Int} {p : Int → Bool} {j : Nat} {x : Int} (h : l[j]? = some x) : (l.drop j).any p = (p x || (l.drop (j + 1)).any p) := by
  rw [drop_get h]; rfl
set_option maxRecDepth 100000 in set_option maxHeartbeats 3200000 in
theorem check_31 (nd kd st ct mn : Int) (a0 a1 a2 a3 a4 : Option Addr) (l0 l1 l2 l3 l4 : List Int) (n0 n1 n2 n3 n4 c0 c1 c2 c3 c4 : Nat) (w : World) (i0 : -9223372036854775808 ≤ ct) (i1 : ct ≤ 9223372036854775807) (i2 : -9223372036854775808 ≤ st) (i3 : st ≤ 9223372036854775807) (H0 : Ints w a0 l0) (H1 : Ints w a1 l1) (H2 : Ints w a2 l2) (H3 : Ints w a3 l3) (H4 : Ints w a4 l4) (h0 : l0.length = n0) (h1 : l1.length = n1) (h2 : l2.length = n2) (h3 : l3.length = n3) (h4 : l4.length = n4) (m0 : n0 ≤ maxLen) (m1 : n1 ≤ maxLen) (m2 : n2 ≤ maxLen) (m3 : n3 ≤ maxLen) (m4 : n4 ≤ maxLen) :
    Calls Try.prog 31 #[.agg #[.int .i64 nd, .int .i64 kd, .int .i64 st, .int .i64 ct, .int .i64 mn, .slice a0 n0 c0, .slice a1 n1 c1, .slice a2 n2 c2, .slice a3 n3 c3, .slice a4 n4 c4]] w fun e w' => e = .returned (.int .i64 (chk nd kd st ct mn [l0, l1, l2, l3, l4])) ∧ Below w.heap.size w w' := by
  have B1 := below_box w (.cells #[.int .i64 nd, .int .i64 kd, .int .i64 st, .int .i64 ct, .int .i64 mn, .slice a0 n0 c0, .slice a1 n1 c1, .slice a2 n2 c2, .slice a3 n3 c3, .slice a4 n4 c4] 44)
  have z0 : (w.alloc (.cells #[.int .i64 nd, .int .i64 kd, .int .i64 st, .int .i64 ct, .int .i64 mn, .slice a0 n0 c0, .slice a1 n1 c1, .slice a2 n2 c2, .slice a3 n3 c3, .slice a4 n4 c4] 44)).cell? ⟨w.heap.size, 0, none⟩ = some (.int .i64 nd) := zcell w _ _ 0
  have z1 : (w.alloc (.cells #[.int .i64 nd, .int .i64 kd, .int .i64 st, .int .i64 ct, .int .i64 mn, .slice a0 n0 c0, .slice a1 n1 c1, .slice a2 n2 c2, .slice a3 n3 c3, .slice a4 n4 c4] 44)).cell? ⟨w.heap.size, 1, none⟩ = some (.int .i64 kd) := zcell w _ _ 1
  have z2 : (w.alloc (.cells #[.int .i64 nd, .int .i64 kd, .int .i64 st, .int .i64 ct, .int .i64 mn, .slice a0 n0 c0, .slice a1 n1 c1, .slice a2 n2 c2, .slice a3 n3 c3, .slice a4 n4 c4] 44)).cell? ⟨w.heap.size, 2, none⟩ = some (.int .i64 st) := zcell w _ _ 2
  have z3 : (w.alloc (.cells #[.int .i64 nd, .int .i64 kd, .int .i64 st, .int .i64 ct, .int .i64 mn, .slice a0 n0 c0, .slice a1 n1 c1, .slice a2 n2 c2, .slice a3 n3 c3, .slice a4 n4 c4] 44)).cell? ⟨w.heap.size, 3, none⟩ = some (.int .i64 ct) := zcell w _ _ 3
  have z4 : (w.alloc (.cells #[.int .i64 nd, .int .i64 kd, .int .i64 st, .int .i64 ct, .int .i64 mn, .slice a0 n0 c0, .slice a1 n1 c1, .slice a2 n2 c2, .slice a3 n3 c3, .slice a4 n4 c4] 44)).cell? ⟨w.heap.size, 4, none⟩ = some (.int .i64 mn) := zcell w _ _ 4
  have z5 : (w.alloc (.cells #[.int .i64 nd, .int .i64 kd, .int .i64 st, .int .i64 ct, .int .i64 mn, .slice a0 n0 c0, .slice a1 n1 c1, .slice a2 n2 c2, .slice a3 n3 c3, .slice a4 n4 c4] 44)).cell? ⟨w.heap.size, 5, none⟩ = some (.slice a0 n0 c0) := zcell w _ _ 5
  have z6 : (w.alloc (.cells #[.int .i64 nd, .int .i64 kd, .int .i64 st, .int .i64 ct, .int .i64 mn, .slice a0 n0 c0, .slice a1 n1 c1, .slice a2 n2 c2, .slice a3 n3 c3, .slice a4 n4 c4] 44)).cell? ⟨w.heap.size, 6, none⟩ = some (.slice a1 n1 c1) := zcell w _ _ 6
  have z7 : (w.alloc (.cells #[.int .i64 nd, .int .i64 kd, .int .i64 st, .int .i64 ct, .int .i64 mn, .slice a0 n0 c0, .slice a1 n1 c1, .slice a2 n2 c2, .slice a3 n3 c3, .slice a4 n4 c4] 44)).cell? ⟨w.heap.size, 7, none⟩ = some (.slice a2 n2 c2) := zcell w _ _ 7
  have z8 : (w.alloc (.cells #[.int .i64 nd, .int .i64 kd, .int .i64 st, .int .i64 ct, .int .i64 mn, .slice a0 n0 c0, .slice a1 n1 c1, .slice a2 n2 c2, .slice a3 n3 c3, .slice a4 n4 c4] 44)).cell? ⟨w.heap.size, 8, none⟩ = some (.slice a3 n3 c3) := zcell w _ _ 8
  have z9 : (w.alloc (.cells #[.int .i64 nd, .int .i64 kd, .int .i64 st, .int .i64 ct, .int .i64 mn, .slice a0 n0 c0, .slice a1 n1 c1, .slice a2 n2 c2, .slice a3 n3 c3, .slice a4 n4 c4] 44)).cell? ⟨w.heap.size, 9, none⟩ = some (.slice a4 n4 c4) := zcell w _ _ 9
  obtain ⟨w1, hw1⟩ : ∃ W, W = w.alloc (.cells #[.int .i64 nd, .int .i64 kd, .int .i64 st, .int .i64 ct, .int .i64 mn, .slice a0 n0 c0, .slice a1 n1 c1, .slice a2 n2 c2, .slice a3 n3 c3, .slice a4 n4 c4] 44) := ⟨_, rfl⟩
  have hsz1 : w.heap.size < w1.heap.size := by rw [hw1]; simp
  rw [← hw1] at B1 z0 z1 z2 z3 z4 z5 z6 z7 z8 z9
  have Z0 := Lib.hid z0
  have Z1 := Lib.hid z1
  have Z2 := Lib.hid z2
  have Z3 := Lib.hid z3
  have Z4 := Lib.hid z4
  have Z5 := Lib.hid z5
  have Z6 := Lib.hid z6
  have Z7 := Lib.hid z7
  have Z8 := Lib.hid z8
  have Z9 := Lib.hid z9
  have G0 := H0.below B1
  have G1 := H1.below B1
  have G2 := H2.below B1
  have G3 := H3.below B1
  have G4 := H4.below B1
  have N0 := Lib.hid h0
  have N1 := Lib.hid h1
  have N2 := Lib.hid h2
  have N3 := Lib.hid h3
  have N4 := Lib.hid h4
  have HW := Lib.hid hw1
  have M0 := Lib.hid m0
  have M1 := Lib.hid m1
  have M2 := Lib.hid m2
  have M3 := Lib.hid m3
  have M4 := Lib.hid m4
  unfold maxLen at m0 m1 m2 m3 m4
  clear hw1 h0 h1 h2 h3 h4
  obtain ⟨rb, hrb⟩ : ∃ b, rangesB nd kd st ct mn = b := ⟨_, rfl⟩
  have hra := ranges_34 nd kd st ct mn (.slice a0 n0 c0) (.slice a1 n1 c1) (.slice a2 n2 c2) (.slice a3 n3 c3) (.slice a4 n4 c4) w1 i0 i1 i2 i3
  rw [hrb] at hra
  have HRA := Lib.hid hra; have HRB := Lib.hid hrb
  clear hra hrb z0 z1 z2 z3 z4 z5 z6 z7 z8 z9
  go_enter Try.func31, Try.ntmps31
  go_wp2_with fail
  rw [← HW.out]
  clear HW
  refine (HRA.out).mono ?_
  rintro e w2 ⟨rfl, hb⟩
  have z0 := cell_later hb Z0.out
  have z1 := cell_later hb Z1.out
  have z2 := cell_later hb Z2.out
  have z3 := cell_later hb Z3.out
  have z4 := cell_later hb Z4.out
  have z5 := cell_later hb Z5.out
  have z6 := cell_later hb Z6.out
  have z7 := cell_later hb Z7.out
  have z8 := cell_later hb Z8.out
  have z9 := cell_later hb Z9.out
  clear HRA
  cases rb with
  | false =>
    go_wp2
    go_ret
    exact ⟨ret_int (chk_range HRB.out).symm, below_then B1 hb⟩
  | true =>
    obtain ⟨r1, r2, r3, r4⟩ := ranges_r HRB.out
    obtain ⟨E, hE⟩ : ∃ E, le st ct 0 [l0, l1, l2, l3, l4] = E := ⟨_, rfl⟩
    have HE := Lib.hid hE
    clear hE
    go_wp2
    clear z0 z1 z2 z3 z4 z5 z6 z7 z8 z9
    have X0 := idx_0 (.slice a0 n0 c0) (.slice a1 n1 c1) (.slice a2 n2 c2) (.slice a3 n3 c3) (.slice a4 n4 c4)
    have X1 := idx_1 (.slice a0 n0 c0) (.slice a1 n1 c1) (.slice a2 n2 c2) (.slice a3 n3 c3) (.slice a4 n4 c4)
    have X2 := idx_2 (.slice a0 n0 c0) (.slice a1 n1 c1) (.slice a2 n2 c2) (.slice a3 n3 c3) (.slice a4 n4 c4)
    have X3 := idx_3 (.slice a0 n0 c0) (.slice a1 n1 c1) (.slice a2 n2 c2) (.slice a3 n3 c3) (.slice a4 n4 c4)
    have X4 := idx_4 (.slice a0 n0 c0) (.slice a1 n1 c1) (.slice a2 n2 c2) (.slice a3 n3 c3) (.slice a4 n4 c4)
    go_loopg [24] 5 (fun g i0 wr => ∃ (i : Nat), i + g = 5 ∧ i0 = .int .i64 i ∧ E = le st ct i ([l0, l1, l2, l3, l4].drop i) ∧ Below w1.heap.size w1 wr)
    case atStart => exact ⟨0, by omega, rfl, HE.out.symm, hb⟩
    case round =>
      clear hb
      obtain ⟨i, hg, rfl, hEi, hb⟩ := hrel
      have HEI := Lib.hid hEi
      clear hEi
      rcases (show i = 0 ∨ i = 1 ∨ i = 2 ∨ i = 3 ∨ i = 4 ∨ i = 5 by omega) with rfl | rfl | rfl | rfl | rfl | rfl
      · obtain ⟨g, rfl⟩ : ∃ g, gk = g + 1 := ⟨gk - 1, by omega⟩
        have HEL : Hid (E = le st ct 0 (l0 :: [l1, l2, l3, l4])) := Lib.hid HEI.out
        clear HEI
        go_wp2
        go_loopg [30] n0 (fun g2 j0 wi => ∃ (j : Nat), j + g2 = n0 ∧ j0 = .int .i64 j ∧ le1 st ct 0 false 0 l0 = le1 st ct 0 (decide (0 < j)) (l0.getD (j - 1) 0) (l0.drop j) ∧ Below w1.heap.size w1 wi)
        case atStart => exact ⟨0, by omega, rfl, le1_start, hb⟩
        case round =>
          clear hb
          obtain ⟨j, hj, rfl, hl, hb⟩ := hrel
          have z0 := cell_later hb Z0.out
          have z1 := cell_later hb Z1.out
          have z2 := cell_later hb Z2.out
          have z3 := cell_later hb Z3.out
          have z4 := cell_later hb Z4.out
          have z5 := cell_later hb Z5.out
          have z6 := cell_later hb Z6.out
          have z7 := cell_later hb Z7.out
          have z8 := cell_later hb Z8.out
          have z9 := cell_later hb Z9.out
          cases gk with
          | zero =>
            obtain rfl : j = n0 := by omega
            have HOK := Lib.hid (HEL.out.trans (le_ok (hl.trans (le1_end N0.out))))
            clear hj hl
            go_wp2
            go_roundg g
            case rel => exact ⟨0 + 1, by omega, by go_num, HOK.out, hb⟩
            case measure => omega
          | succ g2 =>
            have hjn : j < n0 := by omega
            obtain ⟨x, hx⟩ := get_some N0.out hjn
            have HST := Lib.hid (hl.trans (le1_step hx))
            have hbk := inside_35_0 nd kd st ct mn (.slice a0 n0 c0) (.slice a1 n1 c1) (.slice a2 n2 c2) (.slice a3 n3 c3) (.slice a4 n4 c4) x wr r1 r2 r3 (by omega)
            obtain ⟨t, ht⟩ : ∃ t, insideB st ct x 0 = t := ⟨_, rfl⟩
            rw [ht] at hbk
            obtain ⟨b, off, rfl, cx⟩ := (G0.below hb).at hx
            have HT := Lib.hid ht; have HX := Lib.hid hx; have HJ := Lib.hid hj; have HBK := Lib.hid hbk
            clear ht hx hl hj hbk
            go_wp2_with fail
            refine (HBK.out).mono ?_
            rintro e w3 ⟨rfl, hb3⟩
            have hb2 := below_then hb hb3
            have cx2 := cell_later hb3 cx
            clear HBK z0 z1 z2 z3 z4 z5 z6 z7 z8 z9 hb hb3 cx
            cases t with
            | false =>
              go_wp2
              go_ret
              refine ⟨ret_int ?_, below_then B1 hb2⟩
              have h := HST.out
              rw [if_pos HT.out] at h
              have h2 := HEL.out
              rw [le_bad (by rw [h]; decide), h] at h2
              rw [chk_le HRB.out (by rw [HE.out, h2]; decide), HE.out, h2]
            | true =>
              have hst2 := HST.out
              rw [if_neg (by rw [HT.out]; decide)] at hst2
              have HS2 := Lib.hid hst2
              clear hst2
              by_cases hj0 : j = 0
              · subst hj0
                go_wp2
                go_roundg g2
                case rel => exact ⟨0 + 1, by have := HJ.out; omega, by go_num, by have h := HS2.out; rw [if_neg (by omega)] at h; exact h, hb2⟩
                case measure => omega
              · have hjp : 0 < j := by omega
                obtain ⟨j', rfl⟩ : ∃ j', j = j' + 1 := ⟨j - 1, by omega⟩
                obtain ⟨y, hy⟩ := get_some N0.out (show j' < n0 by omega)
                obtain ⟨_, _, hV, cy⟩ := (G0.below hb2).at hy
                cases hV
                have HY := Lib.hid (show l0.getD (j' + 1 - 1) 0 = y by rw [Nat.add_sub_cancel, List.getD_eq_getElem?_getD, hy]; rfl)
                have ej : ((j' + 1 : Nat) : Int) - 1 = (j' : Int) := by omega
                clear hy
                by_cases hxy : x ≤ y
                · go_wp2
                  go_ret
                  refine ⟨ret_int ?_, below_then B1 hb2⟩
                  have h := HS2.out
                  rw [HY.out, if_pos ⟨hjp, hxy⟩] at h
                  have h2 := HEL.out
                  rw [le_bad (by rw [h]; decide), h] at h2
                  rw [chk_le HRB.out (by rw [HE.out, h2]; decide), HE.out, h2]
                · go_wp2
                  go_roundg g2
                  case rel => exact ⟨j' + 1 + 1, by have := HJ.out; omega, by go_num, by have h := HS2.out; rw [HY.out, if_neg (by omega)] at h; exact h, hb2⟩
                  case measure => omega
      · obtain ⟨g, rfl⟩ : ∃ g, gk = g + 1 := ⟨gk - 1, by omega⟩
        have HEL : Hid (E = le st ct 1 (l1 :: [l2, l3, l4])) := Lib.hid HEI.out
        clear HEI
        go_wp2
        go_loopg [30] n1 (fun g2 j0 wi => ∃ (j : Nat), j + g2 = n1 ∧ j0 = .int .i64 j ∧ le1 st ct 1 false 0 l1 = le1 st ct 1 (decide (0 < j)) (l1.getD (j - 1) 0) (l1.drop j) ∧ Below w1.heap.size w1 wi)
        case atStart => exact ⟨0, by omega, rfl, le1_start, hb⟩
        case round =>
          clear hb
          obtain ⟨j, hj, rfl, hl, hb⟩ := hrel
          have z0 := cell_later hb Z0.out
          have z1 := cell_later hb Z1.out
          have z2 := cell_later hb Z2.out
          have z3 := cell_later hb Z3.out
          have z4 := cell_later hb Z4.out
          have z5 := cell_later hb Z5.out
          have z6 := cell_later hb Z6.out
          have z7 := cell_later hb Z7.out
          have z8 := cell_later hb Z8.out
          have z9 := cell_later hb Z9.out
          cases gk with
          | zero =>
            obtain rfl : j = n1 := by omega
            have HOK := Lib.hid (HEL.out.trans (le_ok (hl.trans (le1_end N1.out))))
            clear hj hl
            go_wp2
            go_roundg g
            case rel => exact ⟨1 + 1, by omega, by go_num, HOK.out, hb⟩
            case measure => omega
          | succ g2 =>
            have hjn : j < n1 := by omega
            obtain ⟨x, hx⟩ := get_some N1.out hjn
            have HST := Lib.hid (hl.trans (le1_step hx))
            have hbk := inside_35_1 nd kd st ct mn (.slice a0 n0 c0) (.slice a1 n1 c1) (.slice a2 n2 c2) (.slice a3 n3 c3) (.slice a4 n4 c4) x wr r1 r2 r3 (by omega)
            obtain ⟨t, ht⟩ : ∃ t, insideB st ct x 1 = t := ⟨_, rfl⟩
            rw [ht] at hbk
            obtain ⟨b, off, rfl, cx⟩ := (G1.below hb).at hx
            have HT := Lib.hid ht; have HX := Lib.hid hx; have HJ := Lib.hid hj; have HBK := Lib.hid hbk
            clear ht hx hl hj hbk
            go_wp2_with fail
            refine (HBK.out).mono ?_
            rintro e w3 ⟨rfl, hb3⟩
            have hb2 := below_then hb hb3
            have cx2 := cell_later hb3 cx
            clear HBK z0 z1 z2 z3 z4 z5 z6 z7 z8 z9 hb hb3 cx
            cases t with
            | false =>
              go_wp2
              go_ret
              refine ⟨ret_int ?_, below_then B1 hb2⟩
              have h := HST.out
              rw [if_pos HT.out] at h
              have h2 := HEL.out
              rw [le_bad (by rw [h]; decide), h] at h2
              rw [chk_le HRB.out (by rw [HE.out, h2]; decide), HE.out, h2]
            | true =>
              have hst2 := HST.out
              rw [if_neg (by rw [HT.out]; decide)] at hst2
              have HS2 := Lib.hid hst2
              clear hst2
              by_cases hj0 : j = 0
              · subst hj0
                go_wp2
                go_roundg g2
                case rel => exact ⟨0 + 1, by have := HJ.out; omega, by go_num, by have h := HS2.out; rw [if_neg (by omega)] at h; exact h, hb2⟩
                case measure => omega
              · have hjp : 0 < j := by omega
                obtain ⟨j', rfl⟩ : ∃ j', j = j' + 1 := ⟨j - 1, by omega⟩
                obtain ⟨y, hy⟩ := get_some N1.out (show j' < n1 by omega)
                obtain ⟨_, _, hV, cy⟩ := (G1.below hb2).at hy
                cases hV
                have HY := Lib.hid (show l1.getD (j' + 1 - 1) 0 = y by rw [Nat.add_sub_cancel, List.getD_eq_getElem?_getD, hy]; rfl)
                have ej : ((j' + 1 : Nat) : Int) - 1 = (j' : Int) := by omega
                clear hy
                by_cases hxy : x ≤ y
                · go_wp2
                  go_ret
                  refine ⟨ret_int ?_, below_then B1 hb2⟩
                  have h := HS2.out
                  rw [HY.out, if_pos ⟨hjp, hxy⟩] at h
                  have h2 := HEL.out
                  rw [le_bad (by rw [h]; decide), h] at h2
                  rw [chk_le HRB.out (by rw [HE.out, h2]; decide), HE.out, h2]
                · go_wp2
                  go_roundg g2
                  case rel => exact ⟨j' + 1 + 1, by have := HJ.out; omega, by go_num, by have h := HS2.out; rw [HY.out, if_neg (by omega)] at h; exact h, hb2⟩
                  case measure => omega
      · obtain ⟨g, rfl⟩ : ∃ g, gk = g + 1 := ⟨gk - 1, by omega⟩
        have HEL : Hid (E = le st ct 2 (l2 :: [l3, l4])) := Lib.hid HEI.out
        clear HEI
        go_wp2
        go_loopg [30] n2 (fun g2 j0 wi => ∃ (j : Nat), j + g2 = n2 ∧ j0 = .int .i64 j ∧ le1 st ct 2 false 0 l2 = le1 st ct 2 (decide (0 < j)) (l2.getD (j - 1) 0) (l2.drop j) ∧ Below w1.heap.size w1 wi)
        case atStart => exact ⟨0, by omega, rfl, le1_start, hb⟩
        case round =>
          clear hb
          obtain ⟨j, hj, rfl, hl, hb⟩ := hrel
          have z0 := cell_later hb Z0.out
          have z1 := cell_later hb Z1.out
          have z2 := cell_later hb Z2.out
          have z3 := cell_later hb Z3.out
          have z4 := cell_later hb Z4.out
          have z5 := cell_later hb Z5.out
          have z6 := cell_later hb Z6.out
          have z7 := cell_later hb Z7.out
          have z8 := cell_later hb Z8.out
          have z9 := cell_later hb Z9.out
          cases gk with
          | zero =>
            obtain rfl : j = n2 := by omega
            have HOK := Lib.hid (HEL.out.trans (le_ok (hl.trans (le1_end N2.out))))
            clear hj hl
            go_wp2
            go_roundg g
            case rel => exact ⟨2 + 1, by omega, by go_num, HOK.out, hb⟩
            case measure => omega
          | succ g2 =>
            have hjn : j < n2 := by omega
            obtain ⟨x, hx⟩ := get_some N2.out hjn
            have HST := Lib.hid (hl.trans (le1_step hx))
            have hbk := inside_35_2 nd kd st ct mn (.slice a0 n0 c0) (.slice a1 n1 c1) (.slice a2 n2 c2) (.slice a3 n3 c3) (.slice a4 n4 c4) x wr r1 r2 r3 (by omega)
            obtain ⟨t, ht⟩ : ∃ t, insideB st ct x 2 = t := ⟨_, rfl⟩
            rw [ht] at hbk
            obtain ⟨b, off, rfl, cx⟩ := (G2.below hb).at hx
            have HT := Lib.hid ht; have HX := Lib.hid hx; have HJ := Lib.hid hj; have HBK := Lib.hid hbk
            clear ht hx hl hj hbk
            go_wp2_with fail
            refine (HBK.out).mono ?_
            rintro e w3 ⟨rfl, hb3⟩
            have hb2 := below_then hb hb3
            have cx2 := cell_later hb3 cx
            clear HBK z0 z1 z2 z3 z4 z5 z6 z7 z8 z9 hb hb3 cx
            cases t with
            | false =>
              go_wp2
              go_ret
              refine ⟨ret_int ?_, below_then B1 hb2⟩
              have h := HST.out
              rw [if_pos HT.out] at h
              have h2 := HEL.out
              rw [le_bad (by rw [h]; decide), h] at h2
              rw [chk_le HRB.out (by rw [HE.out, h2]; decide), HE.out, h2]
            | true =>
              have hst2 := HST.out
              rw [if_neg (by rw [HT.out]; decide)] at hst2
              have HS2 := Lib.hid hst2
              clear hst2
              by_cases hj0 : j = 0
              · subst hj0
                go_wp2
                go_roundg g2
                case rel => exact ⟨0 + 1, by have := HJ.out; omega, by go_num, by have h := HS2.out; rw [if_neg (by omega)] at h; exact h, hb2⟩
                case measure => omega
              · have hjp : 0 < j := by omega
                obtain ⟨j', rfl⟩ : ∃ j', j = j' + 1 := ⟨j - 1, by omega⟩
                obtain ⟨y, hy⟩ := get_some N2.out (show j' < n2 by omega)
                obtain ⟨_, _, hV, cy⟩ := (G2.below hb2).at hy
                cases hV
                have HY := Lib.hid (show l2.getD (j' + 1 - 1) 0 = y by rw [Nat.add_sub_cancel, List.getD_eq_getElem?_getD, hy]; rfl)
                have ej : ((j' + 1 : Nat) : Int) - 1 = (j' : Int) := by omega
                clear hy
                by_cases hxy : x ≤ y
                · go_wp2
                  go_ret
                  refine ⟨ret_int ?_, below_then B1 hb2⟩
                  have h := HS2.out
                  rw [HY.out, if_pos ⟨hjp, hxy⟩] at h
                  have h2 := HEL.out
                  rw [le_bad (by rw [h]; decide), h] at h2
                  rw [chk_le HRB.out (by rw [HE.out, h2]; decide), HE.out, h2]
                · go_wp2
                  go_roundg g2
                  case rel => exact ⟨j' + 1 + 1, by have := HJ.out; omega, by go_num, by have h := HS2.out; rw [HY.out, if_neg (by omega)] at h; exact h, hb2⟩
                  case measure => omega
      · obtain ⟨g, rfl⟩ : ∃ g, gk = g + 1 := ⟨gk - 1, by omega⟩
        have HEL : Hid (E = le st ct 3 (l3 :: [l4])) := Lib.hid HEI.out
        clear HEI
        go_wp2
        go_loopg [30] n3 (fun g2 j0 wi => ∃ (j : Nat), j + g2 = n3 ∧ j0 = .int .i64 j ∧ le1 st ct 3 false 0 l3 = le1 st ct 3 (decide (0 < j)) (l3.getD (j - 1) 0) (l3.drop j) ∧ Below w1.heap.size w1 wi)
        case atStart => exact ⟨0, by omega, rfl, le1_start, hb⟩
        case round =>
          clear hb
          obtain ⟨j, hj, rfl, hl, hb⟩ := hrel
          have z0 := cell_later hb Z0.out
          have z1 := cell_later hb Z1.out
          have z2 := cell_later hb Z2.out
          have z3 := cell_later hb Z3.out
          have z4 := cell_later hb Z4.out
          have z5 := cell_later hb Z5.out
          have z6 := cell_later hb Z6.out
          have z7 := cell_later hb Z7.out
          have z8 := cell_later hb Z8.out
          have z9 := cell_later hb Z9.out
          cases gk with
          | zero =>
            obtain rfl : j = n3 := by omega
            have HOK := Lib.hid (HEL.out.trans (le_ok (hl.trans (le1_end N3.out))))
            clear hj hl
            go_wp2
            go_roundg g
            case rel => exact ⟨3 + 1, by omega, by go_num, HOK.out, hb⟩
            case measure => omega
          | succ g2 =>
            have hjn : j < n3 := by omega
            obtain ⟨x, hx⟩ := get_some N3.out hjn
            have HST := Lib.hid (hl.trans (le1_step hx))
            have hbk := inside_35_3 nd kd st ct mn (.slice a0 n0 c0) (.slice a1 n1 c1) (.slice a2 n2 c2) (.slice a3 n3 c3) (.slice a4 n4 c4) x wr r1 r2 r3 (by omega)
            obtain ⟨t, ht⟩ : ∃ t, insideB st ct x 3 = t := ⟨_, rfl⟩
            rw [ht] at hbk
            obtain ⟨b, off, rfl, cx⟩ := (G3.below hb).at hx
            have HT := Lib.hid ht; have HX := Lib.hid hx; have HJ := Lib.hid hj; have HBK := Lib.hid hbk
            clear ht hx hl hj hbk
            go_wp2_with fail
            refine (HBK.out).mono ?_
            rintro e w3 ⟨rfl, hb3⟩
            have hb2 := below_then hb hb3
            have cx2 := cell_later hb3 cx
            clear HBK z0 z1 z2 z3 z4 z5 z6 z7 z8 z9 hb hb3 cx
            cases t with
            | false =>
              go_wp2
              go_ret
              refine ⟨ret_int ?_, below_then B1 hb2⟩
              have h := HST.out
              rw [if_pos HT.out] at h
              have h2 := HEL.out
              rw [le_bad (by rw [h]; decide), h] at h2
              rw [chk_le HRB.out (by rw [HE.out, h2]; decide), HE.out, h2]
            | true =>
              have hst2 := HST.out
              rw [if_neg (by rw [HT.out]; decide)] at hst2
              have HS2 := Lib.hid hst2
              clear hst2
              by_cases hj0 : j = 0
              · subst hj0
                go_wp2
                go_roundg g2
                case rel => exact ⟨0 + 1, by have := HJ.out; omega, by go_num, by have h := HS2.out; rw [if_neg (by omega)] at h; exact h, hb2⟩
                case measure => omega
              · have hjp : 0 < j := by omega
                obtain ⟨j', rfl⟩ : ∃ j', j = j' + 1 := ⟨j - 1, by omega⟩
                obtain ⟨y, hy⟩ := get_some N3.out (show j' < n3 by omega)
                obtain ⟨_, _, hV, cy⟩ := (G3.below hb2).at hy
                cases hV
                have HY := Lib.hid (show l3.getD (j' + 1 - 1) 0 = y by rw [Nat.add_sub_cancel, List.getD_eq_getElem?_getD, hy]; rfl)
                have ej : ((j' + 1 : Nat) : Int) - 1 = (j' : Int) := by omega
                clear hy
                by_cases hxy : x ≤ y
                · go_wp2
                  go_ret
                  refine ⟨ret_int ?_, below_then B1 hb2⟩
                  have h := HS2.out
                  rw [HY.out, if_pos ⟨hjp, hxy⟩] at h
                  have h2 := HEL.out
                  rw [le_bad (by rw [h]; decide), h] at h2
                  rw [chk_le HRB.out (by rw [HE.out, h2]; decide), HE.out, h2]
                · go_wp2
                  go_roundg g2
                  case rel => exact ⟨j' + 1 + 1, by have := HJ.out; omega, by go_num, by have h := HS2.out; rw [HY.out, if_neg (by omega)] at h; exact h, hb2⟩
                  case measure => omega
      · obtain ⟨g, rfl⟩ : ∃ g, gk = g + 1 := ⟨gk - 1, by omega⟩
        have HEL : Hid (E = le st ct 4 (l4 :: [])) := Lib.hid HEI.out
        clear HEI
        go_wp2
        go_loopg [30] n4 (fun g2 j0 wi => ∃ (j : Nat), j + g2 = n4 ∧ j0 = .int .i64 j ∧ le1 st ct 4 false 0 l4 = le1 st ct 4 (decide (0 < j)) (l4.getD (j - 1) 0) (l4.drop j) ∧ Below w1.heap.size w1 wi)
        case atStart => exact ⟨0, by omega, rfl, le1_start, hb⟩
        case round =>
          clear hb
          obtain ⟨j, hj, rfl, hl, hb⟩ := hrel
          have z0 := cell_later hb Z0.out
          have z1 := cell_later hb Z1.out
          have z2 := cell_later hb Z2.out
          have z3 := cell_later hb Z3.out
          have z4 := cell_later hb Z4.out
          have z5 := cell_later hb Z5.out
          have z6 := cell_later hb Z6.out
          have z7 := cell_later hb Z7.out
          have z8 := cell_later hb Z8.out
          have z9 := cell_later hb Z9.out
          cases gk with
          | zero =>
            obtain rfl : j = n4 := by omega
            have HOK := Lib.hid (HEL.out.trans (le_ok (hl.trans (le1_end N4.out))))
            clear hj hl
            go_wp2
            go_roundg g
            case rel => exact ⟨4 + 1, by omega, by go_num, HOK.out, hb⟩
            case measure => omega
          | succ g2 =>
            have hjn : j < n4 := by omega
            obtain ⟨x, hx⟩ := get_some N4.out hjn
            have HST := Lib.hid (hl.trans (le1_step hx))
            have hbk := inside_35_4 nd kd st ct mn (.slice a0 n0 c0) (.slice a1 n1 c1) (.slice a2 n2 c2) (.slice a3 n3 c3) (.slice a4 n4 c4) x wr r1 r2 r3 (by omega)
            obtain ⟨t, ht⟩ : ∃ t, insideB st ct x 4 = t := ⟨_, rfl⟩
            rw [ht] at hbk
            obtain ⟨b, off, rfl, cx⟩ := (G4.below hb).at hx
            have HT := Lib.hid ht; have HX := Lib.hid hx; have HJ := Lib.hid hj; have HBK := Lib.hid hbk
            clear ht hx hl hj hbk
            go_wp2_with fail
            refine (HBK.out).mono ?_
            rintro e w3 ⟨rfl, hb3⟩
            have hb2 := below_then hb hb3
            have cx2 := cell_later hb3 cx
            clear HBK z0 z1 z2 z3 z4 z5 z6 z7 z8 z9 hb hb3 cx
            cases t with
            | false =>
              go_wp2
              go_ret
              refine ⟨ret_int ?_, below_then B1 hb2⟩
              have h := HST.out
              rw [if_pos HT.out] at h
              have h2 := HEL.out
              rw [le_bad (by rw [h]; decide), h] at h2
              rw [chk_le HRB.out (by rw [HE.out, h2]; decide), HE.out, h2]
            | true =>
              have hst2 := HST.out
              rw [if_neg (by rw [HT.out]; decide)] at hst2
              have HS2 := Lib.hid hst2
              clear hst2
              by_cases hj0 : j = 0
              · subst hj0
                go_wp2
                go_roundg g2
                case rel => exact ⟨0 + 1, by have := HJ.out; omega, by go_num, by have h := HS2.out; rw [if_neg (by omega)] at h; exact h, hb2⟩
                case measure => omega
              · have hjp : 0 < j := by omega
                obtain ⟨j', rfl⟩ : ∃ j', j = j' + 1 := ⟨j - 1, by omega⟩
                obtain ⟨y, hy⟩ := get_some N4.out (show j' < n4 by omega)
                obtain ⟨_, _, hV, cy⟩ := (G4.below hb2).at hy
                cases hV
                have HY := Lib.hid (show l4.getD (j' + 1 - 1) 0 = y by rw [Nat.add_sub_cancel, List.getD_eq_getElem?_getD, hy]; rfl)
                have ej : ((j' + 1 : Nat) : Int) - 1 = (j' : Int) := by omega
                clear hy
                by_cases hxy : x ≤ y
                · go_wp2
                  go_ret
                  refine ⟨ret_int ?_, below_then B1 hb2⟩
                  have h := HS2.out
                  rw [HY.out, if_pos ⟨hjp, hxy⟩] at h
                  have h2 := HEL.out
                  rw [le_bad (by rw [h]; decide), h] at h2
                  rw [chk_le HRB.out (by rw [HE.out, h2]; decide), HE.out, h2]
                · go_wp2
                  go_roundg g2
                  case rel => exact ⟨j' + 1 + 1, by have := HJ.out; omega, by go_num, by have h := HS2.out; rw [HY.out, if_neg (by omega)] at h; exact h, hb2⟩
                  case measure => omega
      · have hE0 : E = 0 := HEI.out
        have hle := HE.out
        rw [hE0] at hle
        clear HEI
        have e0 : le1 st ct 0 false 0 l0 = 0 := by
          rcases Decidable.em (le1 st ct 0 false 0 l0 = 0) with h | h
          · exact h
          · rw [le_bad h] at hle; exact absurd hle h
        rw [le_ok e0] at hle
        have V0 := Lib.hid (le1_val e0)
        clear e0
        have e1 : le1 st ct 1 false 0 l1 = 0 := by
          rcases Decidable.em (le1 st ct 1 false 0 l1 = 0) with h | h
          · exact h
          · rw [le_bad h] at hle; exact absurd hle h
        rw [le_ok e1] at hle
        have V1 := Lib.hid (le1_val e1)
        clear e1
        have e2 : le1 st ct 2 false 0 l2 = 0 := by
          rcases Decidable.em (le1 st ct 2 false 0 l2 = 0) with h | h
          · exact h
          · rw [le_bad h] at hle; exact absurd hle h
        rw [le_ok e2] at hle
        have V2 := Lib.hid (le1_val e2)
        clear e2
        have e3 : le1 st ct 3 false 0 l3 = 0 := by
          rcases Decidable.em (le1 st ct 3 false 0 l3 = 0) with h | h
          · exact h
          · rw [le_bad h] at hle; exact absurd hle h
        rw [le_ok e3] at hle
        have V3 := Lib.hid (le1_val e3)
        clear e3
        have e4 : le1 st ct 4 false 0 l4 = 0 := by
          rcases Decidable.em (le1 st ct 4 false 0 l4 = 0) with h | h
          · exact h
          · rw [le_bad h] at hle; exact absurd hle h
        rw [le_ok e4] at hle
        have V4 := Lib.hid (le1_val e4)
        clear e4
        obtain ⟨T, hT⟩ : ∃ T, covA 0 [l0, l1, l2, l3, l4] = T := ⟨_, rfl⟩
        have HT := Lib.hid hT
        have HLE := Lib.hid (show le st ct 0 [l0, l1, l2, l3, l4] = 0 by rw [HE.out, hE0])
        clear hT hle hE0 HE hg
        have z0 := cell_later hb Z0.out
        have z1 := cell_later hb Z1.out
        have z2 := cell_later hb Z2.out
        have z3 := cell_later hb Z3.out
        have z4 := cell_later hb Z4.out
        have z5 := cell_later hb Z5.out
        have z6 := cell_later hb Z6.out
        have z7 := cell_later hb Z7.out
        have z8 := cell_later hb Z8.out
        have z9 := cell_later hb Z9.out
        have XZ := zero_59
        have hsz := Nat.lt_of_lt_of_le hsz1 hb.size
        go_wp2
        have hM0 : Blk (wr.alloc (.cells falses 59)) wr.heap.size 59 (markL []) := Blk.new wr 59 falses (markL []) markL_nil
        have hbm := below_then hb (below_box wr (.cells falses 59))
        obtain ⟨gB, hgB⟩ : ∃ z, z = wr.heap.size := ⟨_, rfl⟩
        have hgb : w1.heap.size ≤ gB := by rw [hgB]; exact hb.size
        obtain ⟨w4, hw4⟩ : ∃ W, W = wr.alloc (.cells falses 59) := ⟨_, rfl⟩
        rw [← hw4, ← hgB] at hM0
        rw [← hw4] at hbm ⊢
        rw [← hgB]
        clear hw4 hgB hb z0 z1 z2 z3 z4 z5 z6 z7 z8 z9 XZ
        go_loopg [55] 5 (fun g i0 wr => ∃ (i : Nat) (C : List Int), i + g = 5 ∧ i0 = .int .i64 i ∧ T = C ++ covA i ([l0, l1, l2, l3, l4].drop i) ∧ dup C = false ∧ Blk wr gB 59 (markL C) ∧ Below w1.heap.size w1 wr)
        case atStart => exact ⟨0, [], by omega, rfl, HT.out.symm, rfl, hM0, hbm⟩
        case round =>
          clear hM0 hbm
          obtain ⟨i, C, hg, rfl, hEi, hdC, hC, hb⟩ := hrel
          have HEI := Lib.hid hEi
          have HDC := Lib.hid hdC
          clear hEi hdC
          rcases (show i = 0 ∨ i = 1 ∨ i = 2 ∨ i = 3 ∨ i = 4 ∨ i = 5 by omega) with rfl | rfl | rfl | rfl | rfl | rfl
          · obtain ⟨g, rfl⟩ : ∃ g, gk = g + 1 := ⟨gk - 1, by omega⟩
            have HEL : Hid (T = C ++ (covL 0 l0 ++ covA (0 + 1) [l1, l2, l3, l4])) := Lib.hid HEI.out
            clear HEI
            go_wp2
            go_loopg [61] n0 (fun g2 j0 wi => ∃ (j : Nat) (C : List Int), j + g2 = n0 ∧ j0 = .int .i64 j ∧ T = C ++ (covL 0 (l0.drop j) ++ covA (0 + 1) [l1, l2, l3, l4]) ∧ dup C = false ∧ Blk wi gB 59 (markL C) ∧ Below w1.heap.size w1 wi)
            case atStart => exact ⟨0, C, by omega, rfl, HEL.out, HDC.out, hC, hb⟩
            case round =>
              clear hb hC HEL HDC
              obtain ⟨j, C, hj, rfl, hl, hdC, hC, hb⟩ := hrel
              have HDC := Lib.hid hdC
              clear hdC
              cases gk with
              | zero =>
                obtain rfl : j = n0 := by omega
                have HOK := Lib.hid (show T = C ++ covA (0 + 1) [l1, l2, l3, l4] by rw [hl, List.drop_eq_nil_of_le (by rw [N0.out]; exact Nat.le_refl _)]; rfl)
                clear hj hl
                go_wp2
                go_roundg g
                case rel => exact ⟨0 + 1, C, by omega, by go_num, HOK.out, HDC.out, hC, hb⟩
                case measure => omega
              | succ g2 =>
                have hjn : j < n0 := by omega
                obtain ⟨x, hx⟩ := get_some N0.out hjn
                have hxi := ins_range (V0.out.ins x (List.mem_of_getElem? hx)) r1 r4
                rw [pw_0] at hxi
                obtain ⟨hx0, hx1⟩ := hxi
                have HST := Lib.hid (show T = C ++ (cov (x + (0 : Nat)) (1 - 0) ++ (covL 0 (l0.drop (j + 1)) ++ covA (0 + 1) [l1, l2, l3, l4])) by rw [hl, covL_step hx, Int.natCast_zero, Int.add_zero, List.append_assoc])
                have HJ := Lib.hid hj; have HX := Lib.hid hx
                obtain ⟨b, off, rfl, cx⟩ := (G0.below hb).at hx
                clear hl hj hx
                go_wp2
                go_loopg [12] 1 (fun g3 f0 wj => ∃ (i : Nat) (C : List Int), i + g3 = 1 ∧ f0 = .int .i64 (x + (i : Int)) ∧ T = C ++ (cov (x + (i : Nat)) (1 - i) ++ (covL 0 (l0.drop (j + 1)) ++ covA (0 + 1) [l1, l2, l3, l4])) ∧ dup C = false ∧ Blk wj gB 59 (markL C) ∧ Below w1.heap.size w1 wj)
                case atStart => exact ⟨0, C, by omega, by rw [Int.natCast_zero, Int.add_zero], HST.out, HDC.out, hC, hb⟩
                case round =>
                  clear hb hC HST cx HDC
                  obtain ⟨i, C, hi, rfl, hl, hdC, hC, hb⟩ := hrel
                  have HDC := Lib.hid hdC
                  clear hdC
                  cases gk with
                  | zero =>
                    obtain rfl : i = 1 := by omega
                    have HOK := Lib.hid (show T = C ++ (covL 0 (l0.drop (j + 1)) ++ covA (0 + 1) [l1, l2, l3, l4]) by rw [hl]; rfl)
                    clear hi hl
                    go_wp2
                    go_roundg g2
                    case rel => exact ⟨j + 1, C, by have := HJ.out; omega, by go_num, HOK.out, HDC.out, hC, hb⟩
                    case measure => omega
                  | succ g3 =>
                    have hip : i < 1 := by omega
                    rw [cov_step x hip] at hl
                    obtain ⟨y, hy⟩ : ∃ y : Nat, x + (i : Int) = (y : Int) := ⟨(x + i).toNat, by omega⟩
                    have hy256 : y < 256 := by omega
                    rw [hy] at hl
                    have q0 : wr.cell? ⟨gB, y, none⟩ = some (.bool (C.contains (y : Int))) := by rw [hC.cell y, markL_get _ hy256]
                    have q1 := hC.frozen y
                    obtain ⟨t, ht⟩ : ∃ t, C.contains (y : Int) = t := ⟨_, rfl⟩
                    rw [ht] at q0
                    have HTT := Lib.hid ht
                    have HI := Lib.hid hi
                    have HNX := Lib.hid hl
                    clear hi hl ht
                    cases t with
                    | true =>
                      go_wp2
                      go_ret
                      exact ⟨ret_int (chk_dup HRB.out HLE.out (by rw [HT.out, HNX.out]; exact dup_hit HTT.out)).symm, below_then B1 hb⟩
                    | false =>
                      go_wp2
                      go_roundg g3
                      case rel => exact ⟨i + 1, C ++ [(y : Int)], by have := HI.out; omega, by go_num, by rw [HNX.out]; simp, dup_more HDC.out HTT.out, by rw [← markL_put]; exact hC.set y _, hb.setCell (by exact hgb) _⟩
                      case measure => omega
          · obtain ⟨g, rfl⟩ : ∃ g, gk = g + 1 := ⟨gk - 1, by omega⟩
            have HEL : Hid (T = C ++ (covL 1 l1 ++ covA (1 + 1) [l2, l3, l4])) := Lib.hid HEI.out
            clear HEI
            go_wp2
            go_loopg [61] n1 (fun g2 j0 wi => ∃ (j : Nat) (C : List Int), j + g2 = n1 ∧ j0 = .int .i64 j ∧ T = C ++ (covL 1 (l1.drop j) ++ covA (1 + 1) [l2, l3, l4]) ∧ dup C = false ∧ Blk wi gB 59 (markL C) ∧ Below w1.heap.size w1 wi)
            case atStart => exact ⟨0, C, by omega, rfl, HEL.out, HDC.out, hC, hb⟩
            case round =>
              clear hb hC HEL HDC
              obtain ⟨j, C, hj, rfl, hl, hdC, hC, hb⟩ := hrel
              have HDC := Lib.hid hdC
              clear hdC
              cases gk with
              | zero =>
                obtain rfl : j = n1 := by omega
                have HOK := Lib.hid (show T = C ++ covA (1 + 1) [l2, l3, l4] by rw [hl, List.drop_eq_nil_of_le (by rw [N1.out]; exact Nat.le_refl _)]; rfl)
                clear hj hl
                go_wp2
                go_roundg g
                case rel => exact ⟨1 + 1, C, by omega, by go_num, HOK.out, HDC.out, hC, hb⟩
                case measure => omega
              | succ g2 =>
                have hjn : j < n1 := by omega
                obtain ⟨x, hx⟩ := get_some N1.out hjn
                have hxi := ins_range (V1.out.ins x (List.mem_of_getElem? hx)) r1 r4
                rw [pw_1] at hxi
                obtain ⟨hx0, hx1⟩ := hxi
                have HST := Lib.hid (show T = C ++ (cov (x + (0 : Nat)) (2 - 0) ++ (covL 1 (l1.drop (j + 1)) ++ covA (1 + 1) [l2, l3, l4])) by rw [hl, covL_step hx, Int.natCast_zero, Int.add_zero, List.append_assoc])
                have HJ := Lib.hid hj; have HX := Lib.hid hx
                obtain ⟨b, off, rfl, cx⟩ := (G1.below hb).at hx
                clear hl hj hx
                go_wp2
                go_loopg [12] 2 (fun g3 f0 wj => ∃ (i : Nat) (C : List Int), i + g3 = 2 ∧ f0 = .int .i64 (x + (i : Int)) ∧ T = C ++ (cov (x + (i : Nat)) (2 - i) ++ (covL 1 (l1.drop (j + 1)) ++ covA (1 + 1) [l2, l3, l4])) ∧ dup C = false ∧ Blk wj gB 59 (markL C) ∧ Below w1.heap.size w1 wj)
                case atStart => exact ⟨0, C, by omega, by rw [Int.natCast_zero, Int.add_zero], HST.out, HDC.out, hC, hb⟩
                case round =>
                  clear hb hC HST cx HDC
                  obtain ⟨i, C, hi, rfl, hl, hdC, hC, hb⟩ := hrel
                  have HDC := Lib.hid hdC
                  clear hdC
                  cases gk with
                  | zero =>
                    obtain rfl : i = 2 := by omega
                    have HOK := Lib.hid (show T = C ++ (covL 1 (l1.drop (j + 1)) ++ covA (1 + 1) [l2, l3, l4]) by rw [hl]; rfl)
                    clear hi hl
                    go_wp2
                    go_roundg g2
                    case rel => exact ⟨j + 1, C, by have := HJ.out; omega, by go_num, HOK.out, HDC.out, hC, hb⟩
                    case measure => omega
                  | succ g3 =>
                    have hip : i < 2 := by omega
                    rw [cov_step x hip] at hl
                    obtain ⟨y, hy⟩ : ∃ y : Nat, x + (i : Int) = (y : Int) := ⟨(x + i).toNat, by omega⟩
                    have hy256 : y < 256 := by omega
                    rw [hy] at hl
                    have q0 : wr.cell? ⟨gB, y, none⟩ = some (.bool (C.contains (y : Int))) := by rw [hC.cell y, markL_get _ hy256]
                    have q1 := hC.frozen y
                    obtain ⟨t, ht⟩ : ∃ t, C.contains (y : Int) = t := ⟨_, rfl⟩
                    rw [ht] at q0
                    have HTT := Lib.hid ht
                    have HI := Lib.hid hi
                    have HNX := Lib.hid hl
                    clear hi hl ht
                    cases t with
                    | true =>
                      go_wp2
                      go_ret
                      exact ⟨ret_int (chk_dup HRB.out HLE.out (by rw [HT.out, HNX.out]; exact dup_hit HTT.out)).symm, below_then B1 hb⟩
                    | false =>
                      go_wp2
                      go_roundg g3
                      case rel => exact ⟨i + 1, C ++ [(y : Int)], by have := HI.out; omega, by go_num, by rw [HNX.out]; simp, dup_more HDC.out HTT.out, by rw [← markL_put]; exact hC.set y _, hb.setCell (by exact hgb) _⟩
                      case measure => omega
          · obtain ⟨g, rfl⟩ : ∃ g, gk = g + 1 := ⟨gk - 1, by omega⟩
            have HEL : Hid (T = C ++ (covL 2 l2 ++ covA (2 + 1) [l3, l4])) := Lib.hid HEI.out
            clear HEI
            go_wp2
            go_loopg [61] n2 (fun g2 j0 wi => ∃ (j : Nat) (C : List Int), j + g2 = n2 ∧ j0 = .int .i64 j ∧ T = C ++ (covL 2 (l2.drop j) ++ covA (2 + 1) [l3, l4]) ∧ dup C = false ∧ Blk wi gB 59 (markL C) ∧ Below w1.heap.size w1 wi)
            case atStart => exact ⟨0, C, by omega, rfl, HEL.out, HDC.out, hC, hb⟩
            case round =>
              clear hb hC HEL HDC
              obtain ⟨j, C, hj, rfl, hl, hdC, hC, hb⟩ := hrel
              have HDC := Lib.hid hdC
              clear hdC
              cases gk with
              | zero =>
                obtain rfl : j = n2 := by omega
                have HOK := Lib.hid (show T = C ++ covA (2 + 1) [l3, l4] by rw [hl, List.drop_eq_nil_of_le (by rw [N2.out]; exact Nat.le_refl _)]; rfl)
                clear hj hl
                go_wp2
                go_roundg g
                case rel => exact ⟨2 + 1, C, by omega, by go_num, HOK.out, HDC.out, hC, hb⟩
                case measure => omega
              | succ g2 =>
                have hjn : j < n2 := by omega
                obtain ⟨x, hx⟩ := get_some N2.out hjn
                have hxi := ins_range (V2.out.ins x (List.mem_of_getElem? hx)) r1 r4
                rw [pw_2] at hxi
                obtain ⟨hx0, hx1⟩ := hxi
                have HST := Lib.hid (show T = C ++ (cov (x + (0 : Nat)) (4 - 0) ++ (covL 2 (l2.drop (j + 1)) ++ covA (2 + 1) [l3, l4])) by rw [hl, covL_step hx, Int.natCast_zero, Int.add_zero, List.append_assoc])
                have HJ := Lib.hid hj; have HX := Lib.hid hx
                obtain ⟨b, off, rfl, cx⟩ := (G2.below hb).at hx
                clear hl hj hx
                go_wp2
                go_loopg [12] 4 (fun g3 f0 wj => ∃ (i : Nat) (C : List Int), i + g3 = 4 ∧ f0 = .int .i64 (x + (i : Int)) ∧ T = C ++ (cov (x + (i : Nat)) (4 - i) ++ (covL 2 (l2.drop (j + 1)) ++ covA (2 + 1) [l3, l4])) ∧ dup C = false ∧ Blk wj gB 59 (markL C) ∧ Below w1.heap.size w1 wj)
                case atStart => exact ⟨0, C, by omega, by rw [Int.natCast_zero, Int.add_zero], HST.out, HDC.out, hC, hb⟩
                case round =>
                  clear hb hC HST cx HDC
                  obtain ⟨i, C, hi, rfl, hl, hdC, hC, hb⟩ := hrel
                  have HDC := Lib.hid hdC
                  clear hdC
                  cases gk with
                  | zero =>
                    obtain rfl : i = 4 := by omega
                    have HOK := Lib.hid (show T = C ++ (covL 2 (l2.drop (j + 1)) ++ covA (2 + 1) [l3, l4]) by rw [hl]; rfl)
                    clear hi hl
                    go_wp2
                    go_roundg g2
                    case rel => exact ⟨j + 1, C, by have := HJ.out; omega, by go_num, HOK.out, HDC.out, hC, hb⟩
                    case measure => omega
                  | succ g3 =>
                    have hip : i < 4 := by omega
                    rw [cov_step x hip] at hl
                    obtain ⟨y, hy⟩ : ∃ y : Nat, x + (i : Int) = (y : Int) := ⟨(x + i).toNat, by omega⟩
                    have hy256 : y < 256 := by omega
                    rw [hy] at hl
                    have q0 : wr.cell? ⟨gB, y, none⟩ = some (.bool (C.contains (y : Int))) := by rw [hC.cell y, markL_get _ hy256]
                    have q1 := hC.frozen y
                    obtain ⟨t, ht⟩ : ∃ t, C.contains (y : Int) = t := ⟨_, rfl⟩
                    rw [ht] at q0
                    have HTT := Lib.hid ht
                    have HI := Lib.hid hi
                    have HNX := Lib.hid hl
                    clear hi hl ht
                    cases t with
                    | true =>
                      go_wp2
                      go_ret
                      exact ⟨ret_int (chk_dup HRB.out HLE.out (by rw [HT.out, HNX.out]; exact dup_hit HTT.out)).symm, below_then B1 hb⟩
                    | false =>
                      go_wp2
                      go_roundg g3
                      case rel => exact ⟨i + 1, C ++ [(y : Int)], by have := HI.out; omega, by go_num, by rw [HNX.out]; simp, dup_more HDC.out HTT.out, by rw [← markL_put]; exact hC.set y _, hb.setCell (by exact hgb) _⟩
                      case measure => omega
          · obtain ⟨g, rfl⟩ : ∃ g, gk = g + 1 := ⟨gk - 1, by omega⟩
            have HEL : Hid (T = C ++ (covL 3 l3 ++ covA (3 + 1) [l4])) := Lib.hid HEI.out
            clear HEI
            go_wp2
            go_loopg [61] n3 (fun g2 j0 wi => ∃ (j : Nat) (C : List Int), j + g2 = n3 ∧ j0 = .int .i64 j ∧ T = C ++ (covL 3 (l3.drop j) ++ covA (3 + 1) [l4]) ∧ dup C = false ∧ Blk wi gB 59 (markL C) ∧ Below w1.heap.size w1 wi)
            case atStart => exact ⟨0, C, by omega, rfl, HEL.out, HDC.out, hC, hb⟩
            case round =>
              clear hb hC HEL HDC
              obtain ⟨j, C, hj, rfl, hl, hdC, hC, hb⟩ := hrel
              have HDC := Lib.hid hdC
              clear hdC
              cases gk with
              | zero =>
                obtain rfl : j = n3 := by omega
                have HOK := Lib.hid (show T = C ++ covA (3 + 1) [l4] by rw [hl, List.drop_eq_nil_of_le (by rw [N3.out]; exact Nat.le_refl _)]; rfl)
                clear hj hl
                go_wp2
                go_roundg g
                case rel => exact ⟨3 + 1, C, by omega, by go_num, HOK.out, HDC.out, hC, hb⟩
                case measure => omega
              | succ g2 =>
                have hjn : j < n3 := by omega
                obtain ⟨x, hx⟩ := get_some N3.out hjn
                have hxi := ins_range (V3.out.ins x (List.mem_of_getElem? hx)) r1 r4
                rw [pw_3] at hxi
                obtain ⟨hx0, hx1⟩ := hxi
                have HST := Lib.hid (show T = C ++ (cov (x + (0 : Nat)) (8 - 0) ++ (covL 3 (l3.drop (j + 1)) ++ covA (3 + 1) [l4])) by rw [hl, covL_step hx, Int.natCast_zero, Int.add_zero, List.append_assoc])
                have HJ := Lib.hid hj; have HX := Lib.hid hx
                obtain ⟨b, off, rfl, cx⟩ := (G3.below hb).at hx
                clear hl hj hx
                go_wp2
                go_loopg [12] 8 (fun g3 f0 wj => ∃ (i : Nat) (C : List Int), i + g3 = 8 ∧ f0 = .int .i64 (x + (i : Int)) ∧ T = C ++ (cov (x + (i : Nat)) (8 - i) ++ (covL 3 (l3.drop (j + 1)) ++ covA (3 + 1) [l4])) ∧ dup C = false ∧ Blk wj gB 59 (markL C) ∧ Below w1.heap.size w1 wj)
                case atStart => exact ⟨0, C, by omega, by rw [Int.natCast_zero, Int.add_zero], HST.out, HDC.out, hC, hb⟩
                case round =>
                  clear hb hC HST cx HDC
                  obtain ⟨i, C, hi, rfl, hl, hdC, hC, hb⟩ := hrel
                  have HDC := Lib.hid hdC
                  clear hdC
                  cases gk with
                  | zero =>
                    obtain rfl : i = 8 := by omega
                    have HOK := Lib.hid (show T = C ++ (covL 3 (l3.drop (j + 1)) ++ covA (3 + 1) [l4]) by rw [hl]; rfl)
                    clear hi hl
                    go_wp2
                    go_roundg g2
                    case rel => exact ⟨j + 1, C, by have := HJ.out; omega, by go_num, HOK.out, HDC.out, hC, hb⟩
                    case measure => omega
                  | succ g3 =>
                    have hip : i < 8 := by omega
                    rw [cov_step x hip] at hl
                    obtain ⟨y, hy⟩ : ∃ y : Nat, x + (i : Int) = (y : Int) := ⟨(x + i).toNat, by omega⟩
                    have hy256 : y < 256 := by omega
                    rw [hy] at hl
                    have q0 : wr.cell? ⟨gB, y, none⟩ = some (.bool (C.contains (y : Int))) := by rw [hC.cell y, markL_get _ hy256]
                    have q1 := hC.frozen y
                    obtain ⟨t, ht⟩ : ∃ t, C.contains (y : Int) = t := ⟨_, rfl⟩
                    rw [ht] at q0
                    have HTT := Lib.hid ht
                    have HI := Lib.hid hi
                    have HNX := Lib.hid hl
                    clear hi hl ht
                    cases t with
                    | true =>
                      go_wp2
                      go_ret
                      exact ⟨ret_int (chk_dup HRB.out HLE.out (by rw [HT.out, HNX.out]; exact dup_hit HTT.out)).symm, below_then B1 hb⟩
                    | false =>
                      go_wp2
                      go_roundg g3
                      case rel => exact ⟨i + 1, C ++ [(y : Int)], by have := HI.out; omega, by go_num, by rw [HNX.out]; simp, dup_more HDC.out HTT.out, by rw [← markL_put]; exact hC.set y _, hb.setCell (by exact hgb) _⟩
                      case measure => omega
          · obtain ⟨g, rfl⟩ : ∃ g, gk = g + 1 := ⟨gk - 1, by omega⟩
            have HEL : Hid (T = C ++ (covL 4 l4 ++ covA (4 + 1) [])) := Lib.hid HEI.out
            clear HEI
            go_wp2
            go_loopg [61] n4 (fun g2 j0 wi => ∃ (j : Nat) (C : List Int), j + g2 = n4 ∧ j0 = .int .i64 j ∧ T = C ++ (covL 4 (l4.drop j) ++ covA (4 + 1) []) ∧ dup C = false ∧ Blk wi gB 59 (markL C) ∧ Below w1.heap.size w1 wi)
            case atStart => exact ⟨0, C, by omega, rfl, HEL.out, HDC.out, hC, hb⟩
            case round =>
              clear hb hC HEL HDC
              obtain ⟨j, C, hj, rfl, hl, hdC, hC, hb⟩ := hrel
              have HDC := Lib.hid hdC
              clear hdC
              cases gk with
              | zero =>
                obtain rfl : j = n4 := by omega
                have HOK := Lib.hid (show T = C ++ covA (4 + 1) [] by rw [hl, List.drop_eq_nil_of_le (by rw [N4.out]; exact Nat.le_refl _)]; rfl)
                clear hj hl
                go_wp2
                go_roundg g
                case rel => exact ⟨4 + 1, C, by omega, by go_num, HOK.out, HDC.out, hC, hb⟩
                case measure => omega
              | succ g2 =>
                have hjn : j < n4 := by omega
                obtain ⟨x, hx⟩ := get_some N4.out hjn
                have hxi := ins_range (V4.out.ins x (List.mem_of_getElem? hx)) r1 r4
                rw [pw_4] at hxi
                obtain ⟨hx0, hx1⟩ := hxi
                have HST := Lib.hid (show T = C ++ (cov (x + (0 : Nat)) (16 - 0) ++ (covL 4 (l4.drop (j + 1)) ++ covA (4 + 1) [])) by rw [hl, covL_step hx, Int.natCast_zero, Int.add_zero, List.append_assoc])
                have HJ := Lib.hid hj; have HX := Lib.hid hx
                obtain ⟨b, off, rfl, cx⟩ := (G4.below hb).at hx
                clear hl hj hx
                go_wp2
                go_loopg [12] 16 (fun g3 f0 wj => ∃ (i : Nat) (C : List Int), i + g3 = 16 ∧ f0 = .int .i64 (x + (i : Int)) ∧ T = C ++ (cov (x + (i : Nat)) (16 - i) ++ (covL 4 (l4.drop (j + 1)) ++ covA (4 + 1) [])) ∧ dup C = false ∧ Blk wj gB 59 (markL C) ∧ Below w1.heap.size w1 wj)
                case atStart => exact ⟨0, C, by omega, by rw [Int.natCast_zero, Int.add_zero], HST.out, HDC.out, hC, hb⟩
                case round =>
                  clear hb hC HST cx HDC
                  obtain ⟨i, C, hi, rfl, hl, hdC, hC, hb⟩ := hrel
                  have HDC := Lib.hid hdC
                  clear hdC
                  cases gk with
                  | zero =>
                    obtain rfl : i = 16 := by omega
                    have HOK := Lib.hid (show T = C ++ (covL 4 (l4.drop (j + 1)) ++ covA (4 + 1) []) by rw [hl]; rfl)
                    clear hi hl
                    go_wp2
                    go_roundg g2
                    case rel => exact ⟨j + 1, C, by have := HJ.out; omega, by go_num, HOK.out, HDC.out, hC, hb⟩
                    case measure => omega
                  | succ g3 =>
                    have hip : i < 16 := by omega
                    rw [cov_step x hip] at hl
                    obtain ⟨y, hy⟩ : ∃ y : Nat, x + (i : Int) = (y : Int) := ⟨(x + i).toNat, by omega⟩
                    have hy256 : y < 256 := by omega
                    rw [hy] at hl
                    have q0 : wr.cell? ⟨gB, y, none⟩ = some (.bool (C.contains (y : Int))) := by rw [hC.cell y, markL_get _ hy256]
                    have q1 := hC.frozen y
                    obtain ⟨t, ht⟩ : ∃ t, C.contains (y : Int) = t := ⟨_, rfl⟩
                    rw [ht] at q0
                    have HTT := Lib.hid ht
                    have HI := Lib.hid hi
                    have HNX := Lib.hid hl
                    clear hi hl ht
                    cases t with
                    | true =>
                      go_wp2
                      go_ret
                      exact ⟨ret_int (chk_dup HRB.out HLE.out (by rw [HT.out, HNX.out]; exact dup_hit HTT.out)).symm, below_then B1 hb⟩
                    | false =>
                      go_wp2
                      go_roundg g3
                      case rel => exact ⟨i + 1, C ++ [(y : Int)], by have := HI.out; omega, by go_num, by rw [HNX.out]; simp, dup_more HDC.out HTT.out, by rw [← markL_put]; exact hC.set y _, hb.setCell (by exact hgb) _⟩
                      case measure => omega
          · have HNT := Lib.hid (show dup T = false by rw [show T = C from HEI.out.trans (List.append_nil _)]; exact HDC.out)
            have HCK := Lib.hid (chk_st HRB.out HLE.out (by rw [HT.out]; exact HNT.out))
            have HSA : Hid (stA st ct 4 0 [l0, l1, l2, l3, l4] = (st1 st ct 0 l0 || (st1 st ct 1 l1 || (st1 st ct 2 l2 || (st1 st ct 3 l3 || false))))) := Lib.hid rfl
            clear HEI HDC hC hg HNT
            go_wp2
            go_loopg [81] 4 (fun g i0 wr => ∃ (i : Nat), i + g = 4 ∧ i0 = .int .i64 i ∧ stA st ct 4 0 [l0, l1, l2, l3, l4] = (match i with | 0 => (st1 st ct 0 l0 || (st1 st ct 1 l1 || (st1 st ct 2 l2 || (st1 st ct 3 l3 || false)))) | 1 => (st1 st ct 1 l1 || (st1 st ct 2 l2 || (st1 st ct 3 l3 || false))) | 2 => (st1 st ct 2 l2 || (st1 st ct 3 l3 || false)) | 3 => (st1 st ct 3 l3 || false) | _ => false) ∧ Below w1.heap.size w1 wr)
            case atStart => exact ⟨0, by omega, rfl, HSA.out, hb⟩
            case round =>
              clear hb
              obtain ⟨i, hg, rfl, hs, hb⟩ := hrel
              have HS := Lib.hid hs
              clear hs
              rcases (show i = 0 ∨ i = 1 ∨ i = 2 ∨ i = 3 ∨ i = 4 by omega) with rfl | rfl | rfl | rfl | rfl
              · obtain ⟨g, rfl⟩ : ∃ g, gk = g + 1 := ⟨gk - 1, by omega⟩
                have HSK : Hid (stA st ct 4 0 [l0, l1, l2, l3, l4] = (st1 st ct 0 l0 || (st1 st ct 1 l1 || (st1 st ct 2 l2 || (st1 st ct 3 l3 || false))))) := Lib.hid HS.out
                clear HS
                have z0 := cell_later hb Z0.out
                have z1 := cell_later hb Z1.out
                have z2 := cell_later hb Z2.out
                have z3 := cell_later hb Z3.out
                have z4 := cell_later hb Z4.out
                have z5 := cell_later hb Z5.out
                have z6 := cell_later hb Z6.out
                have z7 := cell_later hb Z7.out
                have z8 := cell_later hb Z8.out
                have z9 := cell_later hb Z9.out
                go_wp2
                go_loopg [89] n0 (fun g2 j0 wi => ∃ (j : Nat), j + g2 = n0 ∧ j0 = .int .i64 j ∧ st1 st ct 0 l0 = (l0.drop j).any (fun f => l0.contains (bud 0 f) && insideB st ct (min f (bud 0 f)) (0 + 1)) ∧ Below w1.heap.size w1 wi)
                case atStart => exact ⟨0, by omega, rfl, rfl, hb⟩
                case round =>
                  clear hb z0 z1 z2 z3 z4 z5 z6 z7 z8 z9
                  obtain ⟨j, hj, rfl, ha, hb⟩ := hrel
                  have z0 := cell_later hb Z0.out
                  have z1 := cell_later hb Z1.out
                  have z2 := cell_later hb Z2.out
                  have z3 := cell_later hb Z3.out
                  have z4 := cell_later hb Z4.out
                  have z5 := cell_later hb Z5.out
                  have z6 := cell_later hb Z6.out
                  have z7 := cell_later hb Z7.out
                  have z8 := cell_later hb Z8.out
                  have z9 := cell_later hb Z9.out
                  cases gk with
                  | zero =>
                    obtain rfl : j = n0 := by omega
                    have HAE := Lib.hid (show st1 st ct 0 l0 = false by rw [ha, List.drop_eq_nil_of_le (by rw [N0.out]; exact Nat.le_refl _)]; rfl)
                    clear ha hj
                    go_wp2
                    go_roundg g
                    case rel => exact ⟨0 + 1, by omega, by go_num, by show stA st ct 4 0 [l0, l1, l2, l3, l4] = (st1 st ct 1 l1 || (st1 st ct 2 l2 || (st1 st ct 3 l3 || false))); rw [HSK.out, HAE.out, Bool.false_or], hb⟩
                    case measure => omega
                  | succ g2 =>
                    have hjn : j < n0 := by omega
                    obtain ⟨x, hx⟩ := get_some N0.out hjn
                    have hxi := ins_range (V0.out.ins x (List.mem_of_getElem? hx)) r1 r4
                    rw [pw_0] at hxi
                    obtain ⟨hx0, hx1⟩ := hxi
                    have HX := Lib.hid hx; have HJ := Lib.hid hj
                    have hlen := val_len V0.out r1 r4
                    have HLEN := Lib.hid hlen
                    have hx256 : x < 256 := by omega
                    have hSTP := ha.trans (any_step hx)
                    have hxr := xor_0 hx0 hx256 (ins_mod (V0.out.ins x (List.mem_of_getElem? hx)))
                    rcases bud_two_0 x with hB | hB
                    · rw [hB] at hxr hSTP
                      rw [show min x (x + 1) = x from Int.min_eq_left (by omega)] at hSTP
                      have hse := search_36 a0 l0 n0 c0 (x + 1) wr (G0.below hb) N0.out (by have := N0.out; have := HLEN.out; omega) V0.out.asc
                      obtain ⟨t, ht⟩ : ∃ t, l0.contains (x + 1) = t := ⟨_, rfl⟩
                      rw [ht] at hse hSTP
                      have hin := inside_35_1 nd kd st ct mn (.slice a0 n0 c0) (.slice a1 n1 c1) (.slice a2 n2 c2) (.slice a3 n3 c3) (.slice a4 n4 c4) (x) wr r1 r2 r3 (by omega)
                      obtain ⟨t2, ht2⟩ : ∃ t, insideB st ct (x) (0 + 1) = t := ⟨_, rfl⟩
                      rw [ht2] at hSTP
                      rw [show insideB st ct (x) 1 = t2 from ht2] at hin
                      obtain ⟨b, off, rfl, cx⟩ := (G0.below hb).at hx
                      have HSE := Lib.hid hse; have HINS := Lib.hid hin; have HSTP := Lib.hid hSTP
                      clear hse hin hSTP ht ht2 hx hj ha hB hlen
                      go_wp2_with fail
                      refine (HSE.out).mono ?_
                      rintro e w5 ⟨pp, rfl, rfl⟩
                      cases t with
                      | false =>
                        go_wp2
                        go_roundg g2
                        case rel => exact ⟨j + 1, by have := HJ.out; omega, by go_num, by have h := HSTP.out; rw [Bool.false_and, Bool.false_or] at h; exact h, hb⟩
                        case measure => omega
                      | true =>
                        go_wp2_with fail
                        refine (HINS.out).mono ?_
                        rintro e w6 ⟨rfl, hb6⟩
                        have hb7 := below_then hb hb6
                        cases t2 with
                        | true =>
                          go_wp2
                          go_ret
                          refine ⟨ret_int ?_, below_then B1 hb7⟩
                          have h := HSTP.out
                          rw [HCK.out, HSK.out, h]; rfl
                        | false =>
                          go_wp2
                          go_roundg g2
                          case rel => exact ⟨j + 1, by have := HJ.out; omega, by go_num, by have h := HSTP.out; rw [Bool.and_false, Bool.false_or] at h; exact h, hb7⟩
                          case measure => omega
                    · rw [hB] at hxr hSTP
                      rw [show min x (x - 1) = x - 1 from Int.min_eq_right (by omega)] at hSTP
                      have hse := search_36 a0 l0 n0 c0 (x - 1) wr (G0.below hb) N0.out (by have := N0.out; have := HLEN.out; omega) V0.out.asc
                      obtain ⟨t, ht⟩ : ∃ t, l0.contains (x - 1) = t := ⟨_, rfl⟩
                      rw [ht] at hse hSTP
                      have hin := inside_35_1 nd kd st ct mn (.slice a0 n0 c0) (.slice a1 n1 c1) (.slice a2 n2 c2) (.slice a3 n3 c3) (.slice a4 n4 c4) (x - 1) wr r1 r2 r3 (by omega)
                      obtain ⟨t2, ht2⟩ : ∃ t, insideB st ct (x - 1) (0 + 1) = t := ⟨_, rfl⟩
                      rw [ht2] at hSTP
                      rw [show insideB st ct (x - 1) 1 = t2 from ht2] at hin
                      obtain ⟨b, off, rfl, cx⟩ := (G0.below hb).at hx
                      have HSE := Lib.hid hse; have HINS := Lib.hid hin; have HSTP := Lib.hid hSTP
                      clear hse hin hSTP ht ht2 hx hj ha hB hlen
                      go_wp2_with fail
                      refine (HSE.out).mono ?_
                      rintro e w5 ⟨pp, rfl, rfl⟩
                      cases t with
                      | false =>
                        go_wp2
                        go_roundg g2
                        case rel => exact ⟨j + 1, by have := HJ.out; omega, by go_num, by have h := HSTP.out; rw [Bool.false_and, Bool.false_or] at h; exact h, hb⟩
                        case measure => omega
                      | true =>
                        go_wp2_with fail
                        refine (HINS.out).mono ?_
                        rintro e w6 ⟨rfl, hb6⟩
                        have hb7 := below_then hb hb6
                        cases t2 with
                        | true =>
                          go_wp2
                          go_ret
                          refine ⟨ret_int ?_, below_then B1 hb7⟩
                          have h := HSTP.out
                          rw [HCK.out, HSK.out, h]; rfl
                        | false =>
                          go_wp2
                          go_roundg g2
                          case rel => exact ⟨j + 1, by have := HJ.out; omega, by go_num, by have h := HSTP.out; rw [Bool.and_false, Bool.false_or] at h; exact h, hb7⟩
                          case measure => omega
              · obtain ⟨g, rfl⟩ : ∃ g, gk = g + 1 := ⟨gk - 1, by omega⟩
                have HSK : Hid (stA st ct 4 0 [l0, l1, l2, l3, l4] = (st1 st ct 1 l1 || (st1 st ct 2 l2 || (st1 st ct 3 l3 || false)))) := Lib.hid HS.out
                clear HS
                have z0 := cell_later hb Z0.out
                have z1 := cell_later hb Z1.out
                have z2 := cell_later hb Z2.out
                have z3 := cell_later hb Z3.out
                have z4 := cell_later hb Z4.out
                have z5 := cell_later hb Z5.out
                have z6 := cell_later hb Z6.out
                have z7 := cell_later hb Z7.out
                have z8 := cell_later hb Z8.out
                have z9 := cell_later hb Z9.out
                go_wp2
                go_loopg [89] n1 (fun g2 j0 wi => ∃ (j : Nat), j + g2 = n1 ∧ j0 = .int .i64 j ∧ st1 st ct 1 l1 = (l1.drop j).any (fun f => l1.contains (bud 1 f) && insideB st ct (min f (bud 1 f)) (1 + 1)) ∧ Below w1.heap.size w1 wi)
                case atStart => exact ⟨0, by omega, rfl, rfl, hb⟩
                case round =>
                  clear hb z0 z1 z2 z3 z4 z5 z6 z7 z8 z9
                  obtain ⟨j, hj, rfl, ha, hb⟩ := hrel
                  have z0 := cell_later hb Z0.out
                  have z1 := cell_later hb Z1.out
                  have z2 := cell_later hb Z2.out
                  have z3 := cell_later hb Z3.out
                  have z4 := cell_later hb Z4.out
                  have z5 := cell_later hb Z5.out
                  have z6 := cell_later hb Z6.out
                  have z7 := cell_later hb Z7.out
                  have z8 := cell_later hb Z8.out
                  have z9 := cell_later hb Z9.out
                  cases gk with
                  | zero =>
                    obtain rfl : j = n1 := by omega
                    have HAE := Lib.hid (show st1 st ct 1 l1 = false by rw [ha, List.drop_eq_nil_of_le (by rw [N1.out]; exact Nat.le_refl _)]; rfl)
                    clear ha hj
                    go_wp2
                    go_roundg g
                    case rel => exact ⟨1 + 1, by omega, by go_num, by show stA st ct 4 0 [l0, l1, l2, l3, l4] = (st1 st ct 2 l2 || (st1 st ct 3 l3 || false)); rw [HSK.out, HAE.out, Bool.false_or], hb⟩
                    case measure => omega
                  | succ g2 =>
                    have hjn : j < n1 := by omega
                    obtain ⟨x, hx⟩ := get_some N1.out hjn
                    have hxi := ins_range (V1.out.ins x (List.mem_of_getElem? hx)) r1 r4
                    rw [pw_1] at hxi
                    obtain ⟨hx0, hx1⟩ := hxi
                    have HX := Lib.hid hx; have HJ := Lib.hid hj
                    have hlen := val_len V1.out r1 r4
                    have HLEN := Lib.hid hlen
                    have hx256 : x < 256 := by omega
                    have hSTP := ha.trans (any_step hx)
                    have hxr := xor_1 hx0 hx256 (ins_mod (V1.out.ins x (List.mem_of_getElem? hx)))
                    rcases bud_two_1 x with hB | hB
                    · rw [hB] at hxr hSTP
                      rw [show min x (x + 2) = x from Int.min_eq_left (by omega)] at hSTP
                      have hse := search_36 a1 l1 n1 c1 (x + 2) wr (G1.below hb) N1.out (by have := N1.out; have := HLEN.out; omega) V1.out.asc
                      obtain ⟨t, ht⟩ : ∃ t, l1.contains (x + 2) = t := ⟨_, rfl⟩
                      rw [ht] at hse hSTP
                      have hin := inside_35_2 nd kd st ct mn (.slice a0 n0 c0) (.slice a1 n1 c1) (.slice a2 n2 c2) (.slice a3 n3 c3) (.slice a4 n4 c4) (x) wr r1 r2 r3 (by omega)
                      obtain ⟨t2, ht2⟩ : ∃ t, insideB st ct (x) (1 + 1) = t := ⟨_, rfl⟩
                      rw [ht2] at hSTP
                      rw [show insideB st ct (x) 2 = t2 from ht2] at hin
                      obtain ⟨b, off, rfl, cx⟩ := (G1.below hb).at hx
                      have HSE := Lib.hid hse; have HINS := Lib.hid hin; have HSTP := Lib.hid hSTP
                      clear hse hin hSTP ht ht2 hx hj ha hB hlen
                      go_wp2_with fail
                      refine (HSE.out).mono ?_
                      rintro e w5 ⟨pp, rfl, rfl⟩
                      cases t with
                      | false =>
                        go_wp2
                        go_roundg g2
                        case rel => exact ⟨j + 1, by have := HJ.out; omega, by go_num, by have h := HSTP.out; rw [Bool.false_and, Bool.false_or] at h; exact h, hb⟩
                        case measure => omega
                      | true =>
                        go_wp2_with fail
                        refine (HINS.out).mono ?_
                        rintro e w6 ⟨rfl, hb6⟩
                        have hb7 := below_then hb hb6
                        cases t2 with
                        | true =>
                          go_wp2
                          go_ret
                          refine ⟨ret_int ?_, below_then B1 hb7⟩
                          have h := HSTP.out
                          rw [HCK.out, HSK.out, h]; rfl
                        | false =>
                          go_wp2
                          go_roundg g2
                          case rel => exact ⟨j + 1, by have := HJ.out; omega, by go_num, by have h := HSTP.out; rw [Bool.and_false, Bool.false_or] at h; exact h, hb7⟩
                          case measure => omega
                    · rw [hB] at hxr hSTP
                      rw [show min x (x - 2) = x - 2 from Int.min_eq_right (by omega)] at hSTP
                      have hse := search_36 a1 l1 n1 c1 (x - 2) wr (G1.below hb) N1.out (by have := N1.out; have := HLEN.out; omega) V1.out.asc
                      obtain ⟨t, ht⟩ : ∃ t, l1.contains (x - 2) = t := ⟨_, rfl⟩
                      rw [ht] at hse hSTP
                      have hin := inside_35_2 nd kd st ct mn (.slice a0 n0 c0) (.slice a1 n1 c1) (.slice a2 n2 c2) (.slice a3 n3 c3) (.slice a4 n4 c4) (x - 2) wr r1 r2 r3 (by omega)
                      obtain ⟨t2, ht2⟩ : ∃ t, insideB st ct (x - 2) (1 + 1) = t := ⟨_, rfl⟩
                      rw [ht2] at hSTP
                      rw [show insideB st ct (x - 2) 2 = t2 from ht2] at hin
                      obtain ⟨b, off, rfl, cx⟩ := (G1.below hb).at hx
                      have HSE := Lib.hid hse; have HINS := Lib.hid hin; have HSTP := Lib.hid hSTP
                      clear hse hin hSTP ht ht2 hx hj ha hB hlen
                      go_wp2_with fail
                      refine (HSE.out).mono ?_
                      rintro e w5 ⟨pp, rfl, rfl⟩
                      cases t with
                      | false =>
                        go_wp2
                        go_roundg g2
                        case rel => exact ⟨j + 1, by have := HJ.out; omega, by go_num, by have h := HSTP.out; rw [Bool.false_and, Bool.false_or] at h; exact h, hb⟩
                        case measure => omega
                      | true =>
                        go_wp2_with fail
                        refine (HINS.out).mono ?_
                        rintro e w6 ⟨rfl, hb6⟩
                        have hb7 := below_then hb hb6
                        cases t2 with
                        | true =>
                          go_wp2
                          go_ret
                          refine ⟨ret_int ?_, below_then B1 hb7⟩
                          have h := HSTP.out
                          rw [HCK.out, HSK.out, h]; rfl
                        | false =>
                          go_wp2
                          go_roundg g2
                          case rel => exact ⟨j + 1, by have := HJ.out; omega, by go_num, by have h := HSTP.out; rw [Bool.and_false, Bool.false_or] at h; exact h, hb7⟩
                          case measure => omega
              · obtain ⟨g, rfl⟩ : ∃ g, gk = g + 1 := ⟨gk - 1, by omega⟩
                have HSK : Hid (stA st ct 4 0 [l0, l1, l2, l3, l4] = (st1 st ct 2 l2 || (st1 st ct 3 l3 || false))) := Lib.hid HS.out
                clear HS
                have z0 := cell_later hb Z0.out
                have z1 := cell_later hb Z1.out
                have z2 := cell_later hb Z2.out
                have z3 := cell_later hb Z3.out
                have z4 := cell_later hb Z4.out
                have z5 := cell_later hb Z5.out
                have z6 := cell_later hb Z6.out
                have z7 := cell_later hb Z7.out
                have z8 := cell_later hb Z8.out
                have z9 := cell_later hb Z9.out
                go_wp2
                go_loopg [89] n2 (fun g2 j0 wi => ∃ (j : Nat), j + g2 = n2 ∧ j0 = .int .i64 j ∧ st1 st ct 2 l2 = (l2.drop j).any (fun f => l2.contains (bud 2 f) && insideB st ct (min f (bud 2 f)) (2 + 1)) ∧ Below w1.heap.size w1 wi)
                case atStart => exact ⟨0, by omega, rfl, rfl, hb⟩
                case round =>
                  clear hb z0 z1 z2 z3 z4 z5 z6 z7 z8 z9
                  obtain ⟨j, hj, rfl, ha, hb⟩ := hrel
                  have z0 := cell_later hb Z0.out
                  have z1 := cell_later hb Z1.out
                  have z2 := cell_later hb Z2.out
                  have z3 := cell_later hb Z3.out
                  have z4 := cell_later hb Z4.out
                  have z5 := cell_later hb Z5.out
                  have z6 := cell_later hb Z6.out
                  have z7 := cell_later hb Z7.out
                  have z8 := cell_later hb Z8.out
                  have z9 := cell_later hb Z9.out
                  cases gk with
                  | zero =>
                    obtain rfl : j = n2 := by omega
                    have HAE := Lib.hid (show st1 st ct 2 l2 = false by rw [ha, List.drop_eq_nil_of_le (by rw [N2.out]; exact Nat.le_refl _)]; rfl)
                    clear ha hj
                    go_wp2
                    go_roundg g
                    case rel => exact ⟨2 + 1, by omega, by go_num, by show stA st ct 4 0 [l0, l1, l2, l3, l4] = (st1 st ct 3 l3 || false); rw [HSK.out, HAE.out, Bool.false_or], hb⟩
                    case measure => omega
                  | succ g2 =>
                    have hjn : j < n2 := by omega
                    obtain ⟨x, hx⟩ := get_some N2.out hjn
                    have hxi := ins_range (V2.out.ins x (List.mem_of_getElem? hx)) r1 r4
                    rw [pw_2] at hxi
                    obtain ⟨hx0, hx1⟩ := hxi
                    have HX := Lib.hid hx; have HJ := Lib.hid hj
                    have hlen := val_len V2.out r1 r4
                    have HLEN := Lib.hid hlen
                    have hx256 : x < 256 := by omega
                    have hSTP := ha.trans (any_step hx)
                    have hxr := xor_2 hx0 hx256 (ins_mod (V2.out.ins x (List.mem_of_getElem? hx)))
                    rcases bud_two_2 x with hB | hB
                    · rw [hB] at hxr hSTP
                      rw [show min x (x + 4) = x from Int.min_eq_left (by omega)] at hSTP
                      have hse := search_36 a2 l2 n2 c2 (x + 4) wr (G2.below hb) N2.out (by have := N2.out; have := HLEN.out; omega) V2.out.asc
                      obtain ⟨t, ht⟩ : ∃ t, l2.contains (x + 4) = t := ⟨_, rfl⟩
                      rw [ht] at hse hSTP
                      have hin := inside_35_3 nd kd st ct mn (.slice a0 n0 c0) (.slice a1 n1 c1) (.slice a2 n2 c2) (.slice a3 n3 c3) (.slice a4 n4 c4) (x) wr r1 r2 r3 (by omega)
                      obtain ⟨t2, ht2⟩ : ∃ t, insideB st ct (x) (2 + 1) = t := ⟨_, rfl⟩
                      rw [ht2] at hSTP
                      rw [show insideB st ct (x) 3 = t2 from ht2] at hin
                      obtain ⟨b, off, rfl, cx⟩ := (G2.below hb).at hx
                      have HSE := Lib.hid hse; have HINS := Lib.hid hin; have HSTP := Lib.hid hSTP
                      clear hse hin hSTP ht ht2 hx hj ha hB hlen
                      go_wp2_with fail
                      refine (HSE.out).mono ?_
                      rintro e w5 ⟨pp, rfl, rfl⟩
                      cases t with
                      | false =>
                        go_wp2
                        go_roundg g2
                        case rel => exact ⟨j + 1, by have := HJ.out; omega, by go_num, by have h := HSTP.out; rw [Bool.false_and, Bool.false_or] at h; exact h, hb⟩
                        case measure => omega
                      | true =>
                        go_wp2_with fail
                        refine (HINS.out).mono ?_
                        rintro e w6 ⟨rfl, hb6⟩
                        have hb7 := below_then hb hb6
                        cases t2 with
                        | true =>
                          go_wp2
                          go_ret
                          refine ⟨ret_int ?_, below_then B1 hb7⟩
                          have h := HSTP.out
                          rw [HCK.out, HSK.out, h]; rfl
                        | false =>
                          go_wp2
                          go_roundg g2
                          case rel => exact ⟨j + 1, by have := HJ.out; omega, by go_num, by have h := HSTP.out; rw [Bool.and_false, Bool.false_or] at h; exact h, hb7⟩
                          case measure => omega
                    · rw [hB] at hxr hSTP
                      rw [show min x (x - 4) = x - 4 from Int.min_eq_right (by omega)] at hSTP
                      have hse := search_36 a2 l2 n2 c2 (x - 4) wr (G2.below hb) N2.out (by have := N2.out; have := HLEN.out; omega) V2.out.asc
                      obtain ⟨t, ht⟩ : ∃ t, l2.contains (x - 4) = t := ⟨_, rfl⟩
                      rw [ht] at hse hSTP
                      have hin := inside_35_3 nd kd st ct mn (.slice a0 n0 c0) (.slice a1 n1 c1) (.slice a2 n2 c2) (.slice a3 n3 c3) (.slice a4 n4 c4) (x - 4) wr r1 r2 r3 (by omega)
                      obtain ⟨t2, ht2⟩ : ∃ t, insideB st ct (x - 4) (2 + 1) = t := ⟨_, rfl⟩
                      rw [ht2] at hSTP
                      rw [show insideB st ct (x - 4) 3 = t2 from ht2] at hin
                      obtain ⟨b, off, rfl, cx⟩ := (G2.below hb).at hx
                      have HSE := Lib.hid hse; have HINS := Lib.hid hin; have HSTP := Lib.hid hSTP
                      clear hse hin hSTP ht ht2 hx hj ha hB hlen
                      go_wp2_with fail
                      refine (HSE.out).mono ?_
                      rintro e w5 ⟨pp, rfl, rfl⟩
                      cases t with
                      | false =>
                        go_wp2
                        go_roundg g2
                        case rel => exact ⟨j + 1, by have := HJ.out; omega, by go_num, by have h := HSTP.out; rw [Bool.false_and, Bool.false_or] at h; exact h, hb⟩
                        case measure => omega
                      | true =>
                        go_wp2_with fail
                        refine (HINS.out).mono ?_
                        rintro e w6 ⟨rfl, hb6⟩
                        have hb7 := below_then hb hb6
                        cases t2 with
                        | true =>
                          go_wp2
                          go_ret
                          refine ⟨ret_int ?_, below_then B1 hb7⟩
                          have h := HSTP.out
                          rw [HCK.out, HSK.out, h]; rfl
                        | false =>
                          go_wp2
                          go_roundg g2
                          case rel => exact ⟨j + 1, by have := HJ.out; omega, by go_num, by have h := HSTP.out; rw [Bool.and_false, Bool.false_or] at h; exact h, hb7⟩
                          case measure => omega
              · obtain ⟨g, rfl⟩ : ∃ g, gk = g + 1 := ⟨gk - 1, by omega⟩
                have HSK : Hid (stA st ct 4 0 [l0, l1, l2, l3, l4] = (st1 st ct 3 l3 || false)) := Lib.hid HS.out
                clear HS
                have z0 := cell_later hb Z0.out
                have z1 := cell_later hb Z1.out
                have z2 := cell_later hb Z2.out
                have z3 := cell_later hb Z3.out
                have z4 := cell_later hb Z4.out
                have z5 := cell_later hb Z5.out
                have z6 := cell_later hb Z6.out
                have z7 := cell_later hb Z7.out
                have z8 := cell_later hb Z8.out
                have z9 := cell_later hb Z9.out
                go_wp2
                go_loopg [89] n3 (fun g2 j0 wi => ∃ (j : Nat), j + g2 = n3 ∧ j0 = .int .i64 j ∧ st1 st ct 3 l3 = (l3.drop j).any (fun f => l3.contains (bud 3 f) && insideB st ct (min f (bud 3 f)) (3 + 1)) ∧ Below w1.heap.size w1 wi)
                case atStart => exact ⟨0, by omega, rfl, rfl, hb⟩
                case round =>
                  clear hb z0 z1 z2 z3 z4 z5 z6 z7 z8 z9
                  obtain ⟨j, hj, rfl, ha, hb⟩ := hrel
                  have z0 := cell_later hb Z0.out
                  have z1 := cell_later hb Z1.out
                  have z2 := cell_later hb Z2.out
                  have z3 := cell_later hb Z3.out
                  have z4 := cell_later hb Z4.out
                  have z5 := cell_later hb Z5.out
                  have z6 := cell_later hb Z6.out
                  have z7 := cell_later hb Z7.out
                  have z8 := cell_later hb Z8.out
                  have z9 := cell_later hb Z9.out
                  cases gk with
                  | zero =>
                    obtain rfl : j = n3 := by omega
                    have HAE := Lib.hid (show st1 st ct 3 l3 = false by rw [ha, List.drop_eq_nil_of_le (by rw [N3.out]; exact Nat.le_refl _)]; rfl)
                    clear ha hj
                    go_wp2
                    go_roundg g
                    case rel => exact ⟨3 + 1, by omega, by go_num, by show stA st ct 4 0 [l0, l1, l2, l3, l4] = false; rw [HSK.out, HAE.out, Bool.false_or], hb⟩
                    case measure => omega
                  | succ g2 =>
                    have hjn : j < n3 := by omega
                    obtain ⟨x, hx⟩ := get_some N3.out hjn
                    have hxi := ins_range (V3.out.ins x (List.mem_of_getElem? hx)) r1 r4
                    rw [pw_3] at hxi
                    obtain ⟨hx0, hx1⟩ := hxi
                    have HX := Lib.hid hx; have HJ := Lib.hid hj
                    have hlen := val_len V3.out r1 r4
                    have HLEN := Lib.hid hlen
                    have hx256 : x < 256 := by omega
                    have hSTP := ha.trans (any_step hx)
                    have hxr := xor_3 hx0 hx256 (ins_mod (V3.out.ins x (List.mem_of_getElem? hx)))
                    rcases bud_two_3 x with hB | hB
                    · rw [hB] at hxr hSTP
                      rw [show min x (x + 8) = x from Int.min_eq_left (by omega)] at hSTP
                      have hse := search_36 a3 l3 n3 c3 (x + 8) wr (G3.below hb) N3.out (by have := N3.out; have := HLEN.out; omega) V3.out.asc
                      obtain ⟨t, ht⟩ : ∃ t, l3.contains (x + 8) = t := ⟨_, rfl⟩
                      rw [ht] at hse hSTP
                      have hin := inside_35_4 nd kd st ct mn (.slice a0 n0 c0) (.slice a1 n1 c1) (.slice a2 n2 c2) (.slice a3 n3 c3) (.slice a4 n4 c4) (x) wr r1 r2 r3 (by omega)
                      obtain ⟨t2, ht2⟩ : ∃ t, insideB st ct (x) (3 + 1) = t := ⟨_, rfl⟩
                      rw [ht2] at hSTP
                      rw [show insideB st ct (x) 4 = t2 from ht2] at hin
                      obtain ⟨b, off, rfl, cx⟩ := (G3.below hb).at hx
                      have HSE := Lib.hid hse; have HINS := Lib.hid hin; have HSTP := Lib.hid hSTP
                      clear hse hin hSTP ht ht2 hx hj ha hB hlen
                      go_wp2_with fail
                      refine (HSE.out).mono ?_
                      rintro e w5 ⟨pp, rfl, rfl⟩
                      cases t with
                      | false =>
                        go_wp2
                        go_roundg g2
                        case rel => exact ⟨j + 1, by have := HJ.out; omega, by go_num, by have h := HSTP.out; rw [Bool.false_and, Bool.false_or] at h; exact h, hb⟩
                        case measure => omega
                      | true =>
                        go_wp2_with fail
                        refine (HINS.out).mono ?_
                        rintro e w6 ⟨rfl, hb6⟩
                        have hb7 := below_then hb hb6
                        cases t2 with
                        | true =>
                          go_wp2
                          go_ret
                          refine ⟨ret_int ?_, below_then B1 hb7⟩
                          have h := HSTP.out
                          rw [HCK.out, HSK.out, h]; rfl
                        | false =>
                          go_wp2
                          go_roundg g2
                          case rel => exact ⟨j + 1, by have := HJ.out; omega, by go_num, by have h := HSTP.out; rw [Bool.and_false, Bool.false_or] at h; exact h, hb7⟩
                          case measure => omega
                    · rw [hB] at hxr hSTP
                      rw [show min x (x - 8) = x - 8 from Int.min_eq_right (by omega)] at hSTP
                      have hse := search_36 a3 l3 n3 c3 (x - 8) wr (G3.below hb) N3.out (by have := N3.out; have := HLEN.out; omega) V3.out.asc
                      obtain ⟨t, ht⟩ : ∃ t, l3.contains (x - 8) = t := ⟨_, rfl⟩
                      rw [ht] at hse hSTP
                      have hin := inside_35_4 nd kd st ct mn (.slice a0 n0 c0) (.slice a1 n1 c1) (.slice a2 n2 c2) (.slice a3 n3 c3) (.slice a4 n4 c4) (x - 8) wr r1 r2 r3 (by omega)
                      obtain ⟨t2, ht2⟩ : ∃ t, insideB st ct (x - 8) (3 + 1) = t := ⟨_, rfl⟩
                      rw [ht2] at hSTP
                      rw [show insideB st ct (x - 8) 4 = t2 from ht2] at hin
                      obtain ⟨b, off, rfl, cx⟩ := (G3.below hb).at hx
                      have HSE := Lib.hid hse; have HINS := Lib.hid hin; have HSTP := Lib.hid hSTP
                      clear hse hin hSTP ht ht2 hx hj ha hB hlen
                      go_wp2_with fail
                      refine (HSE.out).mono ?_
                      rintro e w5 ⟨pp, rfl, rfl⟩
                      cases t with
                      | false =>
                        go_wp2
                        go_roundg g2
                        case rel => exact ⟨j + 1, by have := HJ.out; omega, by go_num, by have h := HSTP.out; rw [Bool.false_and, Bool.false_or] at h; exact h, hb⟩
                        case measure => omega
                      | true =>
                        go_wp2_with fail
                        refine (HINS.out).mono ?_
                        rintro e w6 ⟨rfl, hb6⟩
                        have hb7 := below_then hb hb6
                        cases t2 with
                        | true =>
                          go_wp2
                          go_ret
                          refine ⟨ret_int ?_, below_then B1 hb7⟩
                          have h := HSTP.out
                          rw [HCK.out, HSK.out, h]; rfl
                        | false =>
                          go_wp2
                          go_roundg g2
                          case rel => exact ⟨j + 1, by have := HJ.out; omega, by go_num, by have h := HSTP.out; rw [Bool.and_false, Bool.false_or] at h; exact h, hb7⟩
                          case measure => omega
              · have HS0 := Lib.hid (show stA st ct 4 0 [l0, l1, l2, l3, l4] = false from HS.out)
                clear HS
                go_wp2
                go_ret
                refine ⟨ret_int ?_, below_then B1 hb⟩
                rw [HCK.out, HS0.out]; rfl
end Go.Proofs.Ytneibbefkjjlnaa
