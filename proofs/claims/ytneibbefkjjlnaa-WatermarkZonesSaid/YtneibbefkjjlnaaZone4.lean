/- Walks: the first error of a zone's lists, of the reference. -/
import Derived.Test.YtneibbefkjjlnaaZone3
namespace Go.Proofs.Ytneibbefkjjlnaa
open Go.RowKit Go.Over Go.Bud
theorem le1_false {st ct : Int} {k : Nat} {p q : Int} : ∀ {l : List Int}, le1 st ct k false p l = le1 st ct k false q l
  | [] => rfl
  | f :: r => by simp [le1]
theorem le1_start {st ct : Int} {k : Nat} {l : List Int} : le1 st ct k false 0 l = le1 st ct k (decide (0 < 0)) (l.getD (0 - 1) 0) (l.drop 0) := by
  rw [List.drop_zero]; exact le1_false
theorem le1_step {st ct : Int} {k : Nat} {l : List Int} {j : Nat} {x : Int} (h : l[j]? = some x) : le1 st ct k (decide (0 < j)) (l.getD (j - 1) 0) (l.drop j) =
    if insideB st ct x k = false then 3 else if 0 < j ∧ x ≤ l.getD (j - 1) 0 then 10 else le1 st ct k (decide (0 < j + 1)) (l.getD (j + 1 - 1) 0) (l.drop (j + 1)) := by
  rw [drop_get h]
  have e : l.getD (j + 1 - 1) 0 = x := by rw [Nat.add_sub_cancel, List.getD_eq_getElem?_getD, h]; rfl
  rw [e]
  simp [le1]
theorem le1_end {st ct : Int} {k : Nat} {l : List Int} {j : Nat} (h : l.length = j) : le1 st ct k (decide (0 < j)) (l.getD (j - 1) 0) (l.drop j) = 0 := by
  rw [List.drop_eq_nil_of_le (by omega)]; rfl
theorem le_ok {st ct : Int} {k : Nat} {l : List Int} {r : List (List Int)} (h : le1 st ct k false 0 l = 0) : le st ct k (l :: r) = le st ct (k + 1) r := by
  show (if _ then _ else _) = _
  rw [if_pos h]
theorem le_bad {st ct : Int} {k : Nat} {l : List Int} {r : List (List Int)} (h : le1 st ct k false 0 l ≠ 0) : le st ct k (l :: r) = le1 st ct k false 0 l := by
  show (if _ then _ else _) = _
  rw [if_neg h]
theorem zcell (w : World) (cs : Array Value) (t : TypeId) (i : Nat) : (w.alloc (.cells cs t)).cell? ⟨w.heap.size, i, none⟩ = cs[i]? := World.cell?_alloc_at _ _ _ _ rfl
theorem below_box (w : World) (o : Obj) : Below w.heap.size w (w.alloc o) := below_alloc (Below.refl _ _) o

set_option maxRecDepth 100000 in set_option maxHeartbeats 3200000 in
theorem lists_38 (nd kd st ct mn : Int) (a0 a1 a2 a3 a4 : Option Addr) (l0 l1 l2 l3 l4 : List Int) (n0 n1 n2 n3 n4 c0 c1 c2 c3 c4 : Nat) (w : World) (r1 : 0 ≤ st) (r2 : st < 256) (r3 : 1 ≤ ct) (r4 : ct ≤ 256 - st) (H0 : Ints w a0 l0) (H1 : Ints w a1 l1) (H2 : Ints w a2 l2) (H3 : Ints w a3 l3) (H4 : Ints w a4 l4) (h0 : l0.length = n0) (h1 : l1.length = n1) (h2 : l2.length = n2) (h3 : l3.length = n3) (h4 : l4.length = n4) (m0 : n0 ≤ maxLen) (m1 : n1 ≤ maxLen) (m2 : n2 ≤ maxLen) (m3 : n3 ≤ maxLen) (m4 : n4 ≤ maxLen) :
    Calls Try.prog 38 #[.agg #[.int .i64 nd, .int .i64 kd, .int .i64 st, .int .i64 ct, .int .i64 mn, .slice a0 n0 c0, .slice a1 n1 c1, .slice a2 n2 c2, .slice a3 n3 c3, .slice a4 n4 c4]] w fun e w' => e = .returned (.int .i64 (le st ct 0 [l0, l1, l2, l3, l4])) ∧ Below w.heap.size w w' := by
  have B1 := below_box w (.cells #[.int .i64 nd, .int .i64 kd, .int .i64 st, .int .i64 ct, .int .i64 mn, .slice a0 n0 c0, .slice a1 n1 c1, .slice a2 n2 c2, .slice a3 n3 c3, .slice a4 n4 c4] 44)
  have z0 : (w.alloc (.cells #[.int .i64 nd, .int .i64 kd, .int .i64 st, .int .i64 ct, .int .i64 mn, .slice a0 n0 c0, .slice a1 n1 c1, .slice a2 n2 c2, .slice a3 n3 c3, .slice a4 n4 c4] 44)).cell? ⟨w.heap.size, 0, none⟩ = some (.int .i64 nd) := zcell w _ _ 0
  have z1 : (w.alloc (.cells #[.int .i64 nd, .int .i64 kd, .int .i64 st, .int .i64 ct, .int .i64 mn, .slice a0 n0 c0, .slice a1 n1 c1, .slice a2 n2 c2, .slice a3 n3 c3, .slice a4 n4 c4] 44)).cell? ⟨w.heap.size, 1, none⟩ = some (.int .i64 kd) := zcell w _ _ 1
  have z2 : (w.alloc (.cells #[.int .i64 nd, .int .i64 kd, .int .i64 st, .int .i64 ct, .int .i64 mn, .slice a0 n0 c0, .slice a1 n1 c1, .slice a2 n2 c2, .slice a3 n3 c3, .slice a4 n4 c4] 44)).cell? ⟨w.heap.size, 2, none⟩ = some (.int .i64 st) := zcell w _ _ 2
  have z3 : (w.alloc (.cells #[.int .i64 nd, .int .i64 kd, .int .i64 st, .int .i64 ct, .int .i64 mn, .slice a0 n0 c0, .slice a1 n1 c1, .slice a2 n2 c2, .slice a3 n3 c3, .slice a4 n4 c4] 44)).cell? ⟨w.heap.size, 3, none⟩ = some (.int .i64 ct) := zcell w _ _ 3
  have z4 : (w.alloc (.cells #[.int .i64 nd, .int .i64 kd, .int .i64 st, .int .i64 ct, .int .i64 mn, .slice a0 n0 c0, .slice a1 n1 c1, .slice a2 n2 c2, .slice a3 n3 c3, .slice a4 n4 c4] 44)).cell? ⟨w.heap.size, 4, none⟩ = some (.int .i64 mn) := zcell w _ _ 4
  have z5 : (w.alloc (.cells #[.int .i64 nd, .int .i64 kd, .int .i64 st, .int .i64 ct, .int .i64 mn, .slice a0 n0 c0, .slice a1 n1 c1, .slice a2 n2 c2, .slice a3 n3 c3, .slice a4 n4 c4] 44)).cell? ⟨w.heap.size, 5, none⟩ = some (.slice a0 n0 c0) := zcell w _ _ 5
  have z6 : (w.alloc (.cells #[.int .i64 nd, .int .i64 kd, .int .i64 st, .int .i64 ct, .int .i64 mn, .slice a0 n0 c0, .slice a1 n1 c1, .slice a2 n2 c2, .slice a3 n3 c3, .slice a4 n4 c4] 44)).cell? ⟨w.heap.size, 6, none⟩ = some (.slice a1 n1 c1) := zcell w _ _ 6
  have z7 : (w.alloc (.cells #[.int .i64 nd, .int .i64 kd, .int .i64 st, .int .i64 ct, .int .i64 mn, .slice a0 n0 c0, .slice a1 n1 c1, .slice a2 n2 c2, .slice a3 n3 c3, .slice a4 n4 c4] 44)).cell? ⟨w.heap.size, 7, none⟩ = some (.slice a2 n2 c2) := zcell w _ _ 7
  have z8 : (w.alloc (.cells #[.int .i64 nd, .int .i64 kd, .int .i64 st, .int .i64 ct, .int .i64 mn, .slice a0 n0 c0, .slice a1 n1 c1, .slice a2 n2 c2, .slice a3 n3 c3, .slice a4 n4 c4] 44)).cell? ⟨w.heap.size, 8, none⟩ = some (.slice a3 n3 c3) := zcell w _ _ 8
  have z9 : (w.alloc (.cells #[.int .i64 nd, .int .i64 kd, .int .i64 st, .int .i64 ct, .int .i64 mn, .slice a0 n0 c0, .slice a1 n1 c1, .slice a2 n2 c2, .slice a3 n3 c3, .slice a4 n4 c4] 44)).cell? ⟨w.heap.size, 9, none⟩ = some (.slice a4 n4 c4) := zcell w _ _ 9
  obtain ⟨w1, hw1⟩ : ∃ W, W = w.alloc (.cells #[.int .i64 nd, .int .i64 kd, .int .i64 st, .int .i64 ct, .int .i64 mn, .slice a0 n0 c0, .slice a1 n1 c1, .slice a2 n2 c2, .slice a3 n3 c3, .slice a4 n4 c4] 44) := ⟨_, rfl⟩
  rw [← hw1] at B1 z0 z1 z2 z3 z4 z5 z6 z7 z8 z9
  have Z0 := Lib.hid z0
  have Z1 := Lib.hid z1
  have Z2 := Lib.hid z2
  have Z3 := Lib.hid z3
  have Z4 := Lib.hid z4
  have Z5 := Lib.hid z5
  have Z6 := Lib.hid z6
  have Z7 := Lib.hid z7
  have Z8 := Lib.hid z8
  have Z9 := Lib.hid z9
  have G0 := H0.below B1
  have G1 := H1.below B1
  have G2 := H2.below B1
  have G3 := H3.below B1
  have G4 := H4.below B1
  have N0 := Lib.hid h0
  have N1 := Lib.hid h1
  have N2 := Lib.hid h2
  have N3 := Lib.hid h3
  have N4 := Lib.hid h4
  have HW := Lib.hid hw1
  unfold maxLen at m0 m1 m2 m3 m4
  clear hw1 h0 h1 h2 h3 h4
  obtain ⟨E, hE⟩ : ∃ E, le st ct 0 [l0, l1, l2, l3, l4] = E := ⟨_, rfl⟩
  rw [hE]
  have HE := Lib.hid hE
  clear hE z0 z1 z2 z3 z4 z5 z6 z7 z8 z9
  go_enter Try.func38, Try.ntmps38
  go_wp2
  rw [← HW.out]
  clear HW
  go_loopg [3] 5 (fun g i0 wr => ∃ (i : Nat), i + g = 5 ∧ i0 = .int .i64 i ∧ E = le st ct i ([l0, l1, l2, l3, l4].drop i) ∧ Below w1.heap.size w1 wr)
  case atStart => exact ⟨0, by omega, rfl, HE.out.symm, Below.refl _ _⟩
  case round =>
    obtain ⟨i, hg, rfl, hEi, hb⟩ := hrel
    have HEI := Lib.hid hEi
    clear hEi
    rcases (show i = 0 ∨ i = 1 ∨ i = 2 ∨ i = 3 ∨ i = 4 ∨ i = 5 by omega) with rfl | rfl | rfl | rfl | rfl | rfl
    · obtain ⟨g, rfl⟩ : ∃ g, gk = g + 1 := ⟨gk - 1, by omega⟩
      have HEL : Hid (E = le st ct 0 (l0 :: [l1, l2, l3, l4])) := Lib.hid HEI.out
      clear HEI
      go_wp2
      go_loopg [4] n0 (fun g2 j0 wi => ∃ (j : Nat), j + g2 = n0 ∧ j0 = .int .i64 j ∧ le1 st ct 0 false 0 l0 = le1 st ct 0 (decide (0 < j)) (l0.getD (j - 1) 0) (l0.drop j) ∧ Below w1.heap.size w1 wi)
      case atStart => exact ⟨0, by omega, rfl, le1_start, hb⟩
      case round =>
        clear hb
        obtain ⟨j, hj, rfl, hl, hb⟩ := hrel
        have z0 := cell_later hb Z0.out
        have z1 := cell_later hb Z1.out
        have z2 := cell_later hb Z2.out
        have z3 := cell_later hb Z3.out
        have z4 := cell_later hb Z4.out
        have z5 := cell_later hb Z5.out
        have z6 := cell_later hb Z6.out
        have z7 := cell_later hb Z7.out
        have z8 := cell_later hb Z8.out
        have z9 := cell_later hb Z9.out
        cases gk with
        | zero =>
          obtain rfl : j = n0 := by omega
          have HOK := Lib.hid (HEL.out.trans (le_ok (hl.trans (le1_end N0.out))))
          clear hj hl
          go_wp2
          go_roundg g
          case rel => exact ⟨0 + 1, by omega, by go_num, HOK.out, hb⟩
          case measure => omega
        | succ g2 =>
          have hjn : j < n0 := by omega
          obtain ⟨x, hx⟩ := get_some N0.out hjn
          have HST := Lib.hid (hl.trans (le1_step hx))
          have hbk := fun u => block_40_0 nd kd st ct mn (.slice a0 n0 c0) (.slice a1 n1 c1) (.slice a2 n2 c2) (.slice a3 n3 c3) (.slice a4 n4 c4) x (over wr u) r1 r2 r3 (by omega)
          obtain ⟨t, ht⟩ : ∃ t, insideB st ct x 0 = t := ⟨_, rfl⟩
          rw [ht] at hbk
          obtain ⟨b, off, rfl, cx⟩ := (G0.below hb).at hx
          have HT := Lib.hid ht; have HX := Lib.hid hx; have HJ := Lib.hid hj
          clear ht hx hl hj
          go_wp2
          refine wp_region_over (by kernel_rfl) (by kernel_rfl) ?_

          have q0 := fun u => over_cell z0 u
          have q1 := fun u => over_cell z1 u
          have q2 := fun u => over_cell z2 u
          have q3 := fun u => over_cell z3 u
          have q4 := fun u => over_cell z4 u
          have q5 := fun u => over_cell z5 u
          have q6 := fun u => over_cell z6 u
          have q7 := fun u => over_cell z7 u
          have q8 := fun u => over_cell z8 u
          have q9 := fun u => over_cell z9 u
          have qx := fun u => over_cell cx u
          repeat (go_big_quiet_step ((go_at_call 40; with_reducible exact calls_over (hbk _))))
          refine wpQuiet_nil ?_
          rintro _ ⟨u, rfl⟩
          have hb2 := below_then hb (below_over wr u)
          have cx2 := over_cell cx u
          have y0 := over_cell z5 u
          clear q0 q1 q2 q3 q4 q5 q6 q7 q8 q9 qx hbk z0 z1 z2 z3 z4 z5 z6 z7 z8 z9 hb cx
          obtain ⟨w2, hw2⟩ : ∃ W, W = over wr u := ⟨_, rfl⟩
          rw [← hw2] at hb2 cx2 y0 ⊢
          clear hw2
          cases t with
          | false =>
            go_wp2
            go_ret
            refine ⟨ret_int ?_, below_then B1 hb2⟩
            have h := HST.out
            rw [if_pos HT.out] at h
            rw [HEL.out, le_bad (by rw [h]; decide), h]
          | true =>
            have hst2 := HST.out
            rw [if_neg (by rw [HT.out]; decide)] at hst2
            have HS2 := Lib.hid hst2
            clear hst2
            by_cases hj0 : j = 0
            · subst hj0
              go_wp2
              refine wp_region_over (by kernel_rfl) (by kernel_rfl) ?_
              repeat (go_big_quiet_step (fail))
              refine wpQuiet_nil ?_
              rintro _ ⟨u2, rfl⟩
              have hb3 := below_then hb2 (below_over w2 u2)
              go_wp2
              go_roundg g2
              case rel => exact ⟨0 + 1, by have := HJ.out; omega, by go_num, by have h := HS2.out; rw [if_neg (by omega)] at h; exact h, hb3⟩
              case measure => omega
            · have hjp : 0 < j := by omega
              obtain ⟨j', rfl⟩ : ∃ j', j = j' + 1 := ⟨j - 1, by omega⟩
              obtain ⟨y, hy⟩ := get_some N0.out (show j' < n0 by omega)
              obtain ⟨_, _, hV, cy⟩ := (G0.below hb2).at hy
              cases hV
              have HY := Lib.hid (show l0.getD (j' + 1 - 1) 0 = y by rw [Nat.add_sub_cancel, List.getD_eq_getElem?_getD, hy]; rfl)
              have ej : ((j' + 1 : Nat) : Int) - 1 = (j' : Int) := by omega
              clear hy
              go_wp2
              refine wp_region_over (by kernel_rfl) (by kernel_rfl) ?_
              have q0 := fun u => over_cell y0 u
              have q1 := fun u => over_cell cx2 u
              have q2 := fun u => over_cell cy u
              repeat (go_big_quiet_step (fail))
              refine wpQuiet_nil ?_
              rintro _ ⟨u2, rfl⟩
              have hb3 := below_then hb2 (below_over w2 u2)
              clear q0 q1 q2
              by_cases hxy : x ≤ y
              · go_wp2
                go_ret
                refine ⟨ret_int ?_, below_then B1 hb3⟩
                have h := HS2.out
                rw [HY.out, if_pos ⟨hjp, hxy⟩] at h
                rw [HEL.out, le_bad (by rw [h]; decide), h]
              · go_wp2
                go_roundg g2
                case rel => exact ⟨j' + 1 + 1, by have := HJ.out; omega, by go_num, by have h := HS2.out; rw [HY.out, if_neg (by omega)] at h; exact h, hb3⟩
                case measure => omega
    · obtain ⟨g, rfl⟩ : ∃ g, gk = g + 1 := ⟨gk - 1, by omega⟩
      have HEL : Hid (E = le st ct 1 (l1 :: [l2, l3, l4])) := Lib.hid HEI.out
      clear HEI
      go_wp2
      go_loopg [4] n1 (fun g2 j0 wi => ∃ (j : Nat), j + g2 = n1 ∧ j0 = .int .i64 j ∧ le1 st ct 1 false 0 l1 = le1 st ct 1 (decide (0 < j)) (l1.getD (j - 1) 0) (l1.drop j) ∧ Below w1.heap.size w1 wi)
      case atStart => exact ⟨0, by omega, rfl, le1_start, hb⟩
      case round =>
        clear hb
        obtain ⟨j, hj, rfl, hl, hb⟩ := hrel
        have z0 := cell_later hb Z0.out
        have z1 := cell_later hb Z1.out
        have z2 := cell_later hb Z2.out
        have z3 := cell_later hb Z3.out
        have z4 := cell_later hb Z4.out
        have z5 := cell_later hb Z5.out
        have z6 := cell_later hb Z6.out
        have z7 := cell_later hb Z7.out
        have z8 := cell_later hb Z8.out
        have z9 := cell_later hb Z9.out
        cases gk with
        | zero =>
          obtain rfl : j = n1 := by omega
          have HOK := Lib.hid (HEL.out.trans (le_ok (hl.trans (le1_end N1.out))))
          clear hj hl
          go_wp2
          go_roundg g
          case rel => exact ⟨1 + 1, by omega, by go_num, HOK.out, hb⟩
          case measure => omega
        | succ g2 =>
          have hjn : j < n1 := by omega
          obtain ⟨x, hx⟩ := get_some N1.out hjn
          have HST := Lib.hid (hl.trans (le1_step hx))
          have hbk := fun u => block_40_1 nd kd st ct mn (.slice a0 n0 c0) (.slice a1 n1 c1) (.slice a2 n2 c2) (.slice a3 n3 c3) (.slice a4 n4 c4) x (over wr u) r1 r2 r3 (by omega)
          obtain ⟨t, ht⟩ : ∃ t, insideB st ct x 1 = t := ⟨_, rfl⟩
          rw [ht] at hbk
          obtain ⟨b, off, rfl, cx⟩ := (G1.below hb).at hx
          have HT := Lib.hid ht; have HX := Lib.hid hx; have HJ := Lib.hid hj
          clear ht hx hl hj
          go_wp2
          refine wp_region_over (by kernel_rfl) (by kernel_rfl) ?_

          have q0 := fun u => over_cell z0 u
          have q1 := fun u => over_cell z1 u
          have q2 := fun u => over_cell z2 u
          have q3 := fun u => over_cell z3 u
          have q4 := fun u => over_cell z4 u
          have q5 := fun u => over_cell z5 u
          have q6 := fun u => over_cell z6 u
          have q7 := fun u => over_cell z7 u
          have q8 := fun u => over_cell z8 u
          have q9 := fun u => over_cell z9 u
          have qx := fun u => over_cell cx u
          repeat (go_big_quiet_step ((go_at_call 40; with_reducible exact calls_over (hbk _))))
          refine wpQuiet_nil ?_
          rintro _ ⟨u, rfl⟩
          have hb2 := below_then hb (below_over wr u)
          have cx2 := over_cell cx u
          have y0 := over_cell z6 u
          clear q0 q1 q2 q3 q4 q5 q6 q7 q8 q9 qx hbk z0 z1 z2 z3 z4 z5 z6 z7 z8 z9 hb cx
          obtain ⟨w2, hw2⟩ : ∃ W, W = over wr u := ⟨_, rfl⟩
          rw [← hw2] at hb2 cx2 y0 ⊢
          clear hw2
          cases t with
          | false =>
            go_wp2
            go_ret
            refine ⟨ret_int ?_, below_then B1 hb2⟩
            have h := HST.out
            rw [if_pos HT.out] at h
            rw [HEL.out, le_bad (by rw [h]; decide), h]
          | true =>
            have hst2 := HST.out
            rw [if_neg (by rw [HT.out]; decide)] at hst2
            have HS2 := Lib.hid hst2
            clear hst2
            by_cases hj0 : j = 0
            · subst hj0
              go_wp2
              refine wp_region_over (by kernel_rfl) (by kernel_rfl) ?_
              repeat (go_big_quiet_step (fail))
              refine wpQuiet_nil ?_
              rintro _ ⟨u2, rfl⟩
              have hb3 := below_then hb2 (below_over w2 u2)
              go_wp2
              go_roundg g2
              case rel => exact ⟨0 + 1, by have := HJ.out; omega, by go_num, by have h := HS2.out; rw [if_neg (by omega)] at h; exact h, hb3⟩
              case measure => omega
            · have hjp : 0 < j := by omega
              obtain ⟨j', rfl⟩ : ∃ j', j = j' + 1 := ⟨j - 1, by omega⟩
              obtain ⟨y, hy⟩ := get_some N1.out (show j' < n1 by omega)
              obtain ⟨_, _, hV, cy⟩ := (G1.below hb2).at hy
              cases hV
              have HY := Lib.hid (show l1.getD (j' + 1 - 1) 0 = y by rw [Nat.add_sub_cancel, List.getD_eq_getElem?_getD, hy]; rfl)
              have ej : ((j' + 1 : Nat) : Int) - 1 = (j' : Int) := by omega
              clear hy
              go_wp2
              refine wp_region_over (by kernel_rfl) (by kernel_rfl) ?_
              have q0 := fun u => over_cell y0 u
              have q1 := fun u => over_cell cx2 u
              have q2 := fun u => over_cell cy u
              repeat (go_big_quiet_step (fail))
              refine wpQuiet_nil ?_
              rintro _ ⟨u2, rfl⟩
              have hb3 := below_then hb2 (below_over w2 u2)
              clear q0 q1 q2
              by_cases hxy : x ≤ y
              · go_wp2
                go_ret
                refine ⟨ret_int ?_, below_then B1 hb3⟩
                have h := HS2.out
                rw [HY.out, if_pos ⟨hjp, hxy⟩] at h
                rw [HEL.out, le_bad (by rw [h]; decide), h]
              · go_wp2
                go_roundg g2
                case rel => exact ⟨j' + 1 + 1, by have := HJ.out; omega, by go_num, by have h := HS2.out; rw [HY.out, if_neg (by omega)] at h; exact h, hb3⟩
                case measure => omega
    · obtain ⟨g, rfl⟩ : ∃ g, gk = g + 1 := ⟨gk - 1, by omega⟩
      have HEL : Hid (E = le st ct 2 (l2 :: [l3, l4])) := Lib.hid HEI.out
      clear HEI
      go_wp2
      go_loopg [4] n2 (fun g2 j0 wi => ∃ (j : Nat), j + g2 = n2 ∧ j0 = .int .i64 j ∧ le1 st ct 2 false 0 l2 = le1 st ct 2 (decide (0 < j)) (l2.getD (j - 1) 0) (l2.drop j) ∧ Below w1.heap.size w1 wi)
      case atStart => exact ⟨0, by omega, rfl, le1_start, hb⟩
      case round =>
        clear hb
        obtain ⟨j, hj, rfl, hl, hb⟩ := hrel
        have z0 := cell_later hb Z0.out
        have z1 := cell_later hb Z1.out
        have z2 := cell_later hb Z2.out
        have z3 := cell_later hb Z3.out
        have z4 := cell_later hb Z4.out
        have z5 := cell_later hb Z5.out
        have z6 := cell_later hb Z6.out
        have z7 := cell_later hb Z7.out
        have z8 := cell_later hb Z8.out
        have z9 := cell_later hb Z9.out
        cases gk with
        | zero =>
          obtain rfl : j = n2 := by omega
          have HOK := Lib.hid (HEL.out.trans (le_ok (hl.trans (le1_end N2.out))))
          clear hj hl
          go_wp2
          go_roundg g
          case rel => exact ⟨2 + 1, by omega, by go_num, HOK.out, hb⟩
          case measure => omega
        | succ g2 =>
          have hjn : j < n2 := by omega
          obtain ⟨x, hx⟩ := get_some N2.out hjn
          have HST := Lib.hid (hl.trans (le1_step hx))
          have hbk := fun u => block_40_2 nd kd st ct mn (.slice a0 n0 c0) (.slice a1 n1 c1) (.slice a2 n2 c2) (.slice a3 n3 c3) (.slice a4 n4 c4) x (over wr u) r1 r2 r3 (by omega)
          obtain ⟨t, ht⟩ : ∃ t, insideB st ct x 2 = t := ⟨_, rfl⟩
          rw [ht] at hbk
          obtain ⟨b, off, rfl, cx⟩ := (G2.below hb).at hx
          have HT := Lib.hid ht; have HX := Lib.hid hx; have HJ := Lib.hid hj
          clear ht hx hl hj
          go_wp2
          refine wp_region_over (by kernel_rfl) (by kernel_rfl) ?_

          have q0 := fun u => over_cell z0 u
          have q1 := fun u => over_cell z1 u
          have q2 := fun u => over_cell z2 u
          have q3 := fun u => over_cell z3 u
          have q4 := fun u => over_cell z4 u
          have q5 := fun u => over_cell z5 u
          have q6 := fun u => over_cell z6 u
          have q7 := fun u => over_cell z7 u
          have q8 := fun u => over_cell z8 u
          have q9 := fun u => over_cell z9 u
          have qx := fun u => over_cell cx u
          repeat (go_big_quiet_step ((go_at_call 40; with_reducible exact calls_over (hbk _))))
          refine wpQuiet_nil ?_
          rintro _ ⟨u, rfl⟩
          have hb2 := below_then hb (below_over wr u)
          have cx2 := over_cell cx u
          have y0 := over_cell z7 u
          clear q0 q1 q2 q3 q4 q5 q6 q7 q8 q9 qx hbk z0 z1 z2 z3 z4 z5 z6 z7 z8 z9 hb cx
          obtain ⟨w2, hw2⟩ : ∃ W, W = over wr u := ⟨_, rfl⟩
          rw [← hw2] at hb2 cx2 y0 ⊢
          clear hw2
          cases t with
          | false =>
            go_wp2
            go_ret
            refine ⟨ret_int ?_, below_then B1 hb2⟩
            have h := HST.out
            rw [if_pos HT.out] at h
            rw [HEL.out, le_bad (by rw [h]; decide), h]
          | true =>
            have hst2 := HST.out
            rw [if_neg (by rw [HT.out]; decide)] at hst2
            have HS2 := Lib.hid hst2
            clear hst2
            by_cases hj0 : j = 0
            · subst hj0
              go_wp2
              refine wp_region_over (by kernel_rfl) (by kernel_rfl) ?_
              repeat (go_big_quiet_step (fail))
              refine wpQuiet_nil ?_
              rintro _ ⟨u2, rfl⟩
              have hb3 := below_then hb2 (below_over w2 u2)
              go_wp2
              go_roundg g2
              case rel => exact ⟨0 + 1, by have := HJ.out; omega, by go_num, by have h := HS2.out; rw [if_neg (by omega)] at h; exact h, hb3⟩
              case measure => omega
            · have hjp : 0 < j := by omega
              obtain ⟨j', rfl⟩ : ∃ j', j = j' + 1 := ⟨j - 1, by omega⟩
              obtain ⟨y, hy⟩ := get_some N2.out (show j' < n2 by omega)
              obtain ⟨_, _, hV, cy⟩ := (G2.below hb2).at hy
              cases hV
              have HY := Lib.hid (show l2.getD (j' + 1 - 1) 0 = y by rw [Nat.add_sub_cancel, List.getD_eq_getElem?_getD, hy]; rfl)
              have ej : ((j' + 1 : Nat) : Int) - 1 = (j' : Int) := by omega
              clear hy
              go_wp2
              refine wp_region_over (by kernel_rfl) (by kernel_rfl) ?_
              have q0 := fun u => over_cell y0 u
              have q1 := fun u => over_cell cx2 u
              have q2 := fun u => over_cell cy u
              repeat (go_big_quiet_step (fail))
              refine wpQuiet_nil ?_
              rintro _ ⟨u2, rfl⟩
              have hb3 := below_then hb2 (below_over w2 u2)
              clear q0 q1 q2
              by_cases hxy : x ≤ y
              · go_wp2
                go_ret
                refine ⟨ret_int ?_, below_then B1 hb3⟩
                have h := HS2.out
                rw [HY.out, if_pos ⟨hjp, hxy⟩] at h
                rw [HEL.out, le_bad (by rw [h]; decide), h]
              · go_wp2
                go_roundg g2
                case rel => exact ⟨j' + 1 + 1, by have := HJ.out; omega, by go_num, by have h := HS2.out; rw [HY.out, if_neg (by omega)] at h; exact h, hb3⟩
                case measure => omega
    · obtain ⟨g, rfl⟩ : ∃ g, gk = g + 1 := ⟨gk - 1, by omega⟩
      have HEL : Hid (E = le st ct 3 (l3 :: [l4])) := Lib.hid HEI.out
      clear HEI
      go_wp2
      go_loopg [4] n3 (fun g2 j0 wi => ∃ (j : Nat), j + g2 = n3 ∧ j0 = .int .i64 j ∧ le1 st ct 3 false 0 l3 = le1 st ct 3 (decide (0 < j)) (l3.getD (j - 1) 0) (l3.drop j) ∧ Below w1.heap.size w1 wi)
      case atStart => exact ⟨0, by omega, rfl, le1_start, hb⟩
      case round =>
        clear hb
        obtain ⟨j, hj, rfl, hl, hb⟩ := hrel
        have z0 := cell_later hb Z0.out
        have z1 := cell_later hb Z1.out
        have z2 := cell_later hb Z2.out
        have z3 := cell_later hb Z3.out
        have z4 := cell_later hb Z4.out
        have z5 := cell_later hb Z5.out
        have z6 := cell_later hb Z6.out
        have z7 := cell_later hb Z7.out
        have z8 := cell_later hb Z8.out
        have z9 := cell_later hb Z9.out
        cases gk with
        | zero =>
          obtain rfl : j = n3 := by omega
          have HOK := Lib.hid (HEL.out.trans (le_ok (hl.trans (le1_end N3.out))))
          clear hj hl
          go_wp2
          go_roundg g
          case rel => exact ⟨3 + 1, by omega, by go_num, HOK.out, hb⟩
          case measure => omega
        | succ g2 =>
          have hjn : j < n3 := by omega
          obtain ⟨x, hx⟩ := get_some N3.out hjn
          have HST := Lib.hid (hl.trans (le1_step hx))
          have hbk := fun u => block_40_3 nd kd st ct mn (.slice a0 n0 c0) (.slice a1 n1 c1) (.slice a2 n2 c2) (.slice a3 n3 c3) (.slice a4 n4 c4) x (over wr u) r1 r2 r3 (by omega)
          obtain ⟨t, ht⟩ : ∃ t, insideB st ct x 3 = t := ⟨_, rfl⟩
          rw [ht] at hbk
          obtain ⟨b, off, rfl, cx⟩ := (G3.below hb).at hx
          have HT := Lib.hid ht; have HX := Lib.hid hx; have HJ := Lib.hid hj
          clear ht hx hl hj
          go_wp2
          refine wp_region_over (by kernel_rfl) (by kernel_rfl) ?_

          have q0 := fun u => over_cell z0 u
          have q1 := fun u => over_cell z1 u
          have q2 := fun u => over_cell z2 u
          have q3 := fun u => over_cell z3 u
          have q4 := fun u => over_cell z4 u
          have q5 := fun u => over_cell z5 u
          have q6 := fun u => over_cell z6 u
          have q7 := fun u => over_cell z7 u
          have q8 := fun u => over_cell z8 u
          have q9 := fun u => over_cell z9 u
          have qx := fun u => over_cell cx u
          repeat (go_big_quiet_step ((go_at_call 40; with_reducible exact calls_over (hbk _))))
          refine wpQuiet_nil ?_
          rintro _ ⟨u, rfl⟩
          have hb2 := below_then hb (below_over wr u)
          have cx2 := over_cell cx u
          have y0 := over_cell z8 u
          clear q0 q1 q2 q3 q4 q5 q6 q7 q8 q9 qx hbk z0 z1 z2 z3 z4 z5 z6 z7 z8 z9 hb cx
          obtain ⟨w2, hw2⟩ : ∃ W, W = over wr u := ⟨_, rfl⟩
          rw [← hw2] at hb2 cx2 y0 ⊢
          clear hw2
          cases t with
          | false =>
            go_wp2
            go_ret
            refine ⟨ret_int ?_, below_then B1 hb2⟩
            have h := HST.out
            rw [if_pos HT.out] at h
            rw [HEL.out, le_bad (by rw [h]; decide), h]
          | true =>
            have hst2 := HST.out
            rw [if_neg (by rw [HT.out]; decide)] at hst2
            have HS2 := Lib.hid hst2
            clear hst2
            by_cases hj0 : j = 0
            · subst hj0
              go_wp2
              refine wp_region_over (by kernel_rfl) (by kernel_rfl) ?_
              repeat (go_big_quiet_step (fail))
              refine wpQuiet_nil ?_
              rintro _ ⟨u2, rfl⟩
              have hb3 := below_then hb2 (below_over w2 u2)
              go_wp2
              go_roundg g2
              case rel => exact ⟨0 + 1, by have := HJ.out; omega, by go_num, by have h := HS2.out; rw [if_neg (by omega)] at h; exact h, hb3⟩
              case measure => omega
            · have hjp : 0 < j := by omega
              obtain ⟨j', rfl⟩ : ∃ j', j = j' + 1 := ⟨j - 1, by omega⟩
              obtain ⟨y, hy⟩ := get_some N3.out (show j' < n3 by omega)
              obtain ⟨_, _, hV, cy⟩ := (G3.below hb2).at hy
              cases hV
              have HY := Lib.hid (show l3.getD (j' + 1 - 1) 0 = y by rw [Nat.add_sub_cancel, List.getD_eq_getElem?_getD, hy]; rfl)
              have ej : ((j' + 1 : Nat) : Int) - 1 = (j' : Int) := by omega
              clear hy
              go_wp2
              refine wp_region_over (by kernel_rfl) (by kernel_rfl) ?_
              have q0 := fun u => over_cell y0 u
              have q1 := fun u => over_cell cx2 u
              have q2 := fun u => over_cell cy u
              repeat (go_big_quiet_step (fail))
              refine wpQuiet_nil ?_
              rintro _ ⟨u2, rfl⟩
              have hb3 := below_then hb2 (below_over w2 u2)
              clear q0 q1 q2
              by_cases hxy : x ≤ y
              · go_wp2
                go_ret
                refine ⟨ret_int ?_, below_then B1 hb3⟩
                have h := HS2.out
                rw [HY.out, if_pos ⟨hjp, hxy⟩] at h
                rw [HEL.out, le_bad (by rw [h]; decide), h]
              · go_wp2
                go_roundg g2
                case rel => exact ⟨j' + 1 + 1, by have := HJ.out; omega, by go_num, by have h := HS2.out; rw [HY.out, if_neg (by omega)] at h; exact h, hb3⟩
                case measure => omega
    · obtain ⟨g, rfl⟩ : ∃ g, gk = g + 1 := ⟨gk - 1, by omega⟩
      have HEL : Hid (E = le st ct 4 (l4 :: [])) := Lib.hid HEI.out
      clear HEI
      go_wp2
      go_loopg [4] n4 (fun g2 j0 wi => ∃ (j : Nat), j + g2 = n4 ∧ j0 = .int .i64 j ∧ le1 st ct 4 false 0 l4 = le1 st ct 4 (decide (0 < j)) (l4.getD (j - 1) 0) (l4.drop j) ∧ Below w1.heap.size w1 wi)
      case atStart => exact ⟨0, by omega, rfl, le1_start, hb⟩
      case round =>
        clear hb
        obtain ⟨j, hj, rfl, hl, hb⟩ := hrel
        have z0 := cell_later hb Z0.out
        have z1 := cell_later hb Z1.out
        have z2 := cell_later hb Z2.out
        have z3 := cell_later hb Z3.out
        have z4 := cell_later hb Z4.out
        have z5 := cell_later hb Z5.out
        have z6 := cell_later hb Z6.out
        have z7 := cell_later hb Z7.out
        have z8 := cell_later hb Z8.out
        have z9 := cell_later hb Z9.out
        cases gk with
        | zero =>
          obtain rfl : j = n4 := by omega
          have HOK := Lib.hid (HEL.out.trans (le_ok (hl.trans (le1_end N4.out))))
          clear hj hl
          go_wp2
          go_roundg g
          case rel => exact ⟨4 + 1, by omega, by go_num, HOK.out, hb⟩
          case measure => omega
        | succ g2 =>
          have hjn : j < n4 := by omega
          obtain ⟨x, hx⟩ := get_some N4.out hjn
          have HST := Lib.hid (hl.trans (le1_step hx))
          have hbk := fun u => block_40_4 nd kd st ct mn (.slice a0 n0 c0) (.slice a1 n1 c1) (.slice a2 n2 c2) (.slice a3 n3 c3) (.slice a4 n4 c4) x (over wr u) r1 r2 r3 (by omega)
          obtain ⟨t, ht⟩ : ∃ t, insideB st ct x 4 = t := ⟨_, rfl⟩
          rw [ht] at hbk
          obtain ⟨b, off, rfl, cx⟩ := (G4.below hb).at hx
          have HT := Lib.hid ht; have HX := Lib.hid hx; have HJ := Lib.hid hj
          clear ht hx hl hj
          go_wp2
          refine wp_region_over (by kernel_rfl) (by kernel_rfl) ?_

          have q0 := fun u => over_cell z0 u
          have q1 := fun u => over_cell z1 u
          have q2 := fun u => over_cell z2 u
          have q3 := fun u => over_cell z3 u
          have q4 := fun u => over_cell z4 u
          have q5 := fun u => over_cell z5 u
          have q6 := fun u => over_cell z6 u
          have q7 := fun u => over_cell z7 u
          have q8 := fun u => over_cell z8 u
          have q9 := fun u => over_cell z9 u
          have qx := fun u => over_cell cx u
          repeat (go_big_quiet_step ((go_at_call 40; with_reducible exact calls_over (hbk _))))
          refine wpQuiet_nil ?_
          rintro _ ⟨u, rfl⟩
          have hb2 := below_then hb (below_over wr u)
          have cx2 := over_cell cx u
          have y0 := over_cell z9 u
          clear q0 q1 q2 q3 q4 q5 q6 q7 q8 q9 qx hbk z0 z1 z2 z3 z4 z5 z6 z7 z8 z9 hb cx
          obtain ⟨w2, hw2⟩ : ∃ W, W = over wr u := ⟨_, rfl⟩
          rw [← hw2] at hb2 cx2 y0 ⊢
          clear hw2
          cases t with
          | false =>
            go_wp2
            go_ret
            refine ⟨ret_int ?_, below_then B1 hb2⟩
            have h := HST.out
            rw [if_pos HT.out] at h
            rw [HEL.out, le_bad (by rw [h]; decide), h]
          | true =>
            have hst2 := HST.out
            rw [if_neg (by rw [HT.out]; decide)] at hst2
            have HS2 := Lib.hid hst2
            clear hst2
            by_cases hj0 : j = 0
            · subst hj0
              go_wp2
              refine wp_region_over (by kernel_rfl) (by kernel_rfl) ?_
              repeat (go_big_quiet_step (fail))
              refine wpQuiet_nil ?_
              rintro _ ⟨u2, rfl⟩
              have hb3 := below_then hb2 (below_over w2 u2)
              go_wp2
              go_roundg g2
              case rel => exact ⟨0 + 1, by have := HJ.out; omega, by go_num, by have h := HS2.out; rw [if_neg (by omega)] at h; exact h, hb3⟩
              case measure => omega
            · have hjp : 0 < j := by omega
              obtain ⟨j', rfl⟩ : ∃ j', j = j' + 1 := ⟨j - 1, by omega⟩
              obtain ⟨y, hy⟩ := get_some N4.out (show j' < n4 by omega)
              obtain ⟨_, _, hV, cy⟩ := (G4.below hb2).at hy
              cases hV
              have HY := Lib.hid (show l4.getD (j' + 1 - 1) 0 = y by rw [Nat.add_sub_cancel, List.getD_eq_getElem?_getD, hy]; rfl)
              have ej : ((j' + 1 : Nat) : Int) - 1 = (j' : Int) := by omega
              clear hy
              go_wp2
              refine wp_region_over (by kernel_rfl) (by kernel_rfl) ?_
              have q0 := fun u => over_cell y0 u
              have q1 := fun u => over_cell cx2 u
              have q2 := fun u => over_cell cy u
              repeat (go_big_quiet_step (fail))
              refine wpQuiet_nil ?_
              rintro _ ⟨u2, rfl⟩
              have hb3 := below_then hb2 (below_over w2 u2)
              clear q0 q1 q2
              by_cases hxy : x ≤ y
              · go_wp2
                go_ret
                refine ⟨ret_int ?_, below_then B1 hb3⟩
                have h := HS2.out
                rw [HY.out, if_pos ⟨hjp, hxy⟩] at h
                rw [HEL.out, le_bad (by rw [h]; decide), h]
              · go_wp2
                go_roundg g2
                case rel => exact ⟨j' + 1 + 1, by have := HJ.out; omega, by go_num, by have h := HS2.out; rw [HY.out, if_neg (by omega)] at h; exact h, hb3⟩
                case measure => omega
    · have HE0 := Lib.hid (show E = 0 from HEI.out)
      clear HEI
      go_wp2
      go_ret
      exact ⟨ret_int HE0.out.symm, below_then B1 hb⟩
end Go.Proofs.Ytneibbefkjjlnaa
