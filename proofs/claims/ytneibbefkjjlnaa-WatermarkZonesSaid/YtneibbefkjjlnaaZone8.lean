/- Walks: the numbers of free blocks of a zone. -/
import Derived.Test.YtneibbefkjjlnaaZone7
namespace Go.Proofs.Ytneibbefkjjlnaa
open Go.RowKit Go.Over Go.Bud Go.Grow
theorem K33 : Kind Try.prog 33 3 1 8 := Kind.mk' (z := .int .i64 0) Try.underlying33 (by kernel_rfl) rfl (by decide) (by decide)
/-- The lengths, or the error. -/
def BlkAns (R : Int) (X : List Int) (w : World) (e : Ending) (w' : World) : Prop :=
  ∃ a m c, e = .returned (.tuple #[.slice a m c, .int .i64 R]) ∧ X.length = m ∧ Ints w' a X ∧ Below w.heap.size w w'
theorem own_ints {w : World} {base m c : Nat} {a : Option Addr} {X : List Int} (h : w.ownsRow base 3 1 (.slice a m c) m (X.map (Value.int .i64))) (hm : X.length = m) : Ints w a X := by
  intro h0
  obtain ⟨g, c', hv, _, _, _, _⟩ := own_pos h (by omega)
  cases hv
  refine ⟨g, 0, rfl, fun i hi => ?_⟩
  have := World.ownsRow.cells h (g := g) rfl i (.int .i64 (X.getD i 0)) (by rw [List.getElem?_map, List.getElem?_eq_getElem hi, List.getD_eq_getElem?_getD, List.getElem?_eq_getElem hi]; rfl)
  rwa [add_row] at this

set_option maxRecDepth 100000 in set_option maxHeartbeats 3200000 in
theorem blocks_22 (nd kd st ct mn : Int) (a0 a1 a2 a3 a4 : Option Addr) (l0 l1 l2 l3 l4 : List Int) (n0 n1 n2 n3 n4 c0 c1 c2 c3 c4 : Nat) (w : World) (i0 : -9223372036854775808 ≤ ct) (i1 : ct ≤ 9223372036854775807) (i2 : -9223372036854775808 ≤ st) (i3 : st ≤ 9223372036854775807) (H0 : Ints w a0 l0) (H1 : Ints w a1 l1) (H2 : Ints w a2 l2) (H3 : Ints w a3 l3) (H4 : Ints w a4 l4) (h0 : l0.length = n0) (h1 : l1.length = n1) (h2 : l2.length = n2) (h3 : l3.length = n3) (h4 : l4.length = n4) (m0 : n0 ≤ maxLen) (m1 : n1 ≤ maxLen) (m2 : n2 ≤ maxLen) (m3 : n3 ≤ maxLen) (m4 : n4 ≤ maxLen) :
    Calls Try.prog 22 #[.agg #[.int .i64 nd, .int .i64 kd, .int .i64 st, .int .i64 ct, .int .i64 mn, .slice a0 n0 c0, .slice a1 n1 c1, .slice a2 n2 c2, .slice a3 n3 c3, .slice a4 n4 c4]] w (BlkAns (chk nd kd st ct mn [l0, l1, l2, l3, l4]) (if chk nd kd st ct mn [l0, l1, l2, l3, l4] = 0 then [(n0 : Int), (n1 : Int), (n2 : Int), (n3 : Int), (n4 : Int)] else []) w) := by
  have B1 := below_box w (.cells #[.int .i64 nd, .int .i64 kd, .int .i64 st, .int .i64 ct, .int .i64 mn, .slice a0 n0 c0, .slice a1 n1 c1, .slice a2 n2 c2, .slice a3 n3 c3, .slice a4 n4 c4] 44)
  have z0 : (w.alloc (.cells #[.int .i64 nd, .int .i64 kd, .int .i64 st, .int .i64 ct, .int .i64 mn, .slice a0 n0 c0, .slice a1 n1 c1, .slice a2 n2 c2, .slice a3 n3 c3, .slice a4 n4 c4] 44)).cell? ⟨w.heap.size, 0, none⟩ = some (.int .i64 nd) := zcell w _ _ 0
  have z1 : (w.alloc (.cells #[.int .i64 nd, .int .i64 kd, .int .i64 st, .int .i64 ct, .int .i64 mn, .slice a0 n0 c0, .slice a1 n1 c1, .slice a2 n2 c2, .slice a3 n3 c3, .slice a4 n4 c4] 44)).cell? ⟨w.heap.size, 1, none⟩ = some (.int .i64 kd) := zcell w _ _ 1
  have z2 : (w.alloc (.cells #[.int .i64 nd, .int .i64 kd, .int .i64 st, .int .i64 ct, .int .i64 mn, .slice a0 n0 c0, .slice a1 n1 c1, .slice a2 n2 c2, .slice a3 n3 c3, .slice a4 n4 c4] 44)).cell? ⟨w.heap.size, 2, none⟩ = some (.int .i64 st) := zcell w _ _ 2
  have z3 : (w.alloc (.cells #[.int .i64 nd, .int .i64 kd, .int .i64 st, .int .i64 ct, .int .i64 mn, .slice a0 n0 c0, .slice a1 n1 c1, .slice a2 n2 c2, .slice a3 n3 c3, .slice a4 n4 c4] 44)).cell? ⟨w.heap.size, 3, none⟩ = some (.int .i64 ct) := zcell w _ _ 3
  have z4 : (w.alloc (.cells #[.int .i64 nd, .int .i64 kd, .int .i64 st, .int .i64 ct, .int .i64 mn, .slice a0 n0 c0, .slice a1 n1 c1, .slice a2 n2 c2, .slice a3 n3 c3, .slice a4 n4 c4] 44)).cell? ⟨w.heap.size, 4, none⟩ = some (.int .i64 mn) := zcell w _ _ 4
  have z5 : (w.alloc (.cells #[.int .i64 nd, .int .i64 kd, .int .i64 st, .int .i64 ct, .int .i64 mn, .slice a0 n0 c0, .slice a1 n1 c1, .slice a2 n2 c2, .slice a3 n3 c3, .slice a4 n4 c4] 44)).cell? ⟨w.heap.size, 5, none⟩ = some (.slice a0 n0 c0) := zcell w _ _ 5
  have z6 : (w.alloc (.cells #[.int .i64 nd, .int .i64 kd, .int .i64 st, .int .i64 ct, .int .i64 mn, .slice a0 n0 c0, .slice a1 n1 c1, .slice a2 n2 c2, .slice a3 n3 c3, .slice a4 n4 c4] 44)).cell? ⟨w.heap.size, 6, none⟩ = some (.slice a1 n1 c1) := zcell w _ _ 6
  have z7 : (w.alloc (.cells #[.int .i64 nd, .int .i64 kd, .int .i64 st, .int .i64 ct, .int .i64 mn, .slice a0 n0 c0, .slice a1 n1 c1, .slice a2 n2 c2, .slice a3 n3 c3, .slice a4 n4 c4] 44)).cell? ⟨w.heap.size, 7, none⟩ = some (.slice a2 n2 c2) := zcell w _ _ 7
  have z8 : (w.alloc (.cells #[.int .i64 nd, .int .i64 kd, .int .i64 st, .int .i64 ct, .int .i64 mn, .slice a0 n0 c0, .slice a1 n1 c1, .slice a2 n2 c2, .slice a3 n3 c3, .slice a4 n4 c4] 44)).cell? ⟨w.heap.size, 8, none⟩ = some (.slice a3 n3 c3) := zcell w _ _ 8
  have z9 : (w.alloc (.cells #[.int .i64 nd, .int .i64 kd, .int .i64 st, .int .i64 ct, .int .i64 mn, .slice a0 n0 c0, .slice a1 n1 c1, .slice a2 n2 c2, .slice a3 n3 c3, .slice a4 n4 c4] 44)).cell? ⟨w.heap.size, 9, none⟩ = some (.slice a4 n4 c4) := zcell w _ _ 9
  obtain ⟨w1, hw1⟩ : ∃ W, W = w.alloc (.cells #[.int .i64 nd, .int .i64 kd, .int .i64 st, .int .i64 ct, .int .i64 mn, .slice a0 n0 c0, .slice a1 n1 c1, .slice a2 n2 c2, .slice a3 n3 c3, .slice a4 n4 c4] 44) := ⟨_, rfl⟩
  rw [← hw1] at B1 z0 z1 z2 z3 z4 z5 z6 z7 z8 z9
  have Z0 := Lib.hid z0
  have Z1 := Lib.hid z1
  have Z2 := Lib.hid z2
  have Z3 := Lib.hid z3
  have Z4 := Lib.hid z4
  have Z5 := Lib.hid z5
  have Z6 := Lib.hid z6
  have Z7 := Lib.hid z7
  have Z8 := Lib.hid z8
  have Z9 := Lib.hid z9
  have G0 := H0.below B1
  have G1 := H1.below B1
  have G2 := H2.below B1
  have G3 := H3.below B1
  have G4 := H4.below B1
  have N0 := Lib.hid h0
  have N1 := Lib.hid h1
  have N2 := Lib.hid h2
  have N3 := Lib.hid h3
  have N4 := Lib.hid h4
  have HW := Lib.hid hw1
  have M0 := Lib.hid m0
  have M1 := Lib.hid m1
  have M2 := Lib.hid m2
  have M3 := Lib.hid m3
  have M4 := Lib.hid m4
  unfold maxLen at m0 m1 m2 m3 m4
  clear hw1 h0 h1 h2 h3 h4
  obtain ⟨R, hR⟩ : ∃ R, chk nd kd st ct mn [l0, l1, l2, l3, l4] = R := ⟨_, rfl⟩
  have hck := check_31 nd kd st ct mn a0 a1 a2 a3 a4 l0 l1 l2 l3 l4 n0 n1 n2 n3 n4 c0 c1 c2 c3 c4 w1 i0 i1 i2 i3 G0 G1 G2 G3 G4 N0.out N1.out N2.out N3.out N4.out M0.out M1.out M2.out M3.out M4.out
  rw [hR] at hck ⊢
  obtain ⟨Y, hY⟩ : ∃ Y : List Int, (if R = 0 then [(n0 : Int), (n1 : Int), (n2 : Int), (n3 : Int), (n4 : Int)] else []) = Y := ⟨_, rfl⟩
  rw [hY]
  have HY := Lib.hid hY
  have HCK := Lib.hid hck
  clear hck hR hY z0 z1 z2 z3 z4 z5 z6 z7 z8 z9
  go_enter Try.func22, Try.ntmps22
  go_wp2_with fail
  rw [← HW.out]
  clear HW
  refine (HCK.out).mono ?_
  rintro e w2 ⟨rfl, hb⟩
  clear HCK
  by_cases hR0 : R = 0
  · subst hR0
    have z0 := cell_later hb Z0.out
    have z1 := cell_later hb Z1.out
    have z2 := cell_later hb Z2.out
    have z3 := cell_later hb Z3.out
    have z4 := cell_later hb Z4.out
    have z5 := cell_later hb Z5.out
    have z6 := cell_later hb Z6.out
    have z7 := cell_later hb Z7.out
    have z8 := cell_later hb Z8.out
    have z9 := cell_later hb Z9.out
    go_wp2
    clear z0 z1 z2 z3 z4 z5 z6 z7 z8 z9
    have X0 := idx_0 (.slice a0 n0 c0) (.slice a1 n1 c1) (.slice a2 n2 c2) (.slice a3 n3 c3) (.slice a4 n4 c4)
    have X1 := idx_1 (.slice a0 n0 c0) (.slice a1 n1 c1) (.slice a2 n2 c2) (.slice a3 n3 c3) (.slice a4 n4 c4)
    have X2 := idx_2 (.slice a0 n0 c0) (.slice a1 n1 c1) (.slice a2 n2 c2) (.slice a3 n3 c3) (.slice a4 n4 c4)
    have X3 := idx_3 (.slice a0 n0 c0) (.slice a1 n1 c1) (.slice a2 n2 c2) (.slice a3 n3 c3) (.slice a4 n4 c4)
    have X4 := idx_4 (.slice a0 n0 c0) (.slice a1 n1 c1) (.slice a2 n2 c2) (.slice a3 n3 c3) (.slice a4 n4 c4)
    obtain ⟨X, hX⟩ : ∃ X : List Int, Y = X := ⟨_, rfl⟩
    have HX := Lib.hid (show [(n0 : Int), (n1 : Int), (n2 : Int), (n3 : Int), (n4 : Int)] = X by rw [← hX, ← HY.out]; simp)
    have HYX := Lib.hid hX
    clear hX
    go_loopg [5, 15] 5 (fun g v0 i0 wr => ∃ (i : Nat) (v : Value), i + g = 5 ∧ v = v0 ∧ i0 = .int .i64 i ∧ wr.ownsRow w1.heap.size 3 1 v i ((X.take i).map (Value.int .i64)) ∧ Below w1.heap.size w1 wr)
    case atStart => exact ⟨0, _, by omega, rfl, rfl, World.ownsRow_nil _ _ _ _, hb⟩
    case round =>
      clear hb
      obtain ⟨i, v, hg, rfl, rfl, hO, hb⟩ := hrel
      have z0 := cell_later hb Z0.out
      have z1 := cell_later hb Z1.out
      have z2 := cell_later hb Z2.out
      have z3 := cell_later hb Z3.out
      have z4 := cell_later hb Z4.out
      have z5 := cell_later hb Z5.out
      have z6 := cell_later hb Z6.out
      have z7 := cell_later hb Z7.out
      have z8 := cell_later hb Z8.out
      have z9 := cell_later hb Z9.out
      rcases (show i = 0 ∨ i = 1 ∨ i = 2 ∨ i = 3 ∨ i = 4 ∨ i = 5 by omega) with rfl | rfl | rfl | rfl | rfl | rfl
      · obtain ⟨g, rfl⟩ : ∃ g, gk = g + 1 := ⟨gk - 1, by omega⟩
        have HTK := Lib.hid (show X.take (0 + 1) = X.take 0 ++ [(n0 : Int)] by rw [← HX.out]; rfl)
        have HO := Lib.hid (own_later hO (below_box wr (.cells #[.int .i64 n0] 3)))
        have hsz := hb.size
        clear hO
        go_wp2_with (at_builtin; refine wpList_append_k K33 rfl (.tmp 18) (.tmp 21) rfl _ 0 _ rfl HO.out _ 1 1 _ rfl (src_new wr #[.int .i64 n0] 3 1 1 1 rfl (by simp [Value.oneCell'])) ?c1 ?c2 ?_)
        case c1 => omega
        case c2 => simp; omega
        intro v3 w3 hown hgrow _
        have hb3 : Below w1.heap.size w1 w3 := (below_then hb (below_box wr (.cells #[.int .i64 n0] 3))).grown hgrow (by simp; omega) (fun q hq => (World.ownsRow.lt HO.out q hq).1)
        have hO3 : w3.ownsRow w1.heap.size 3 1 v3 (0 + 1) ((X.take (0 + 1)).map (Value.int .i64)) := by
          rw [HTK.out, List.map_append, List.map_take]; exact hown
        clear hown hgrow HO z0 z1 z2 z3 z4 z5 z6 z7 z8 z9 hb
        go_wp2
        go_roundg g
        case rel => exact ⟨0 + 1, v3, by omega, rfl, by go_num, hO3, hb3⟩
        case measure => omega
      · obtain ⟨g, rfl⟩ : ∃ g, gk = g + 1 := ⟨gk - 1, by omega⟩
        have HTK := Lib.hid (show X.take (1 + 1) = X.take 1 ++ [(n1 : Int)] by rw [← HX.out]; rfl)
        have HO := Lib.hid (own_later hO (below_box wr (.cells #[.int .i64 n1] 3)))
        have hsz := hb.size
        clear hO
        go_wp2_with (at_builtin; refine wpList_append_k K33 rfl (.tmp 18) (.tmp 21) rfl _ 1 _ rfl HO.out _ 1 1 _ rfl (src_new wr #[.int .i64 n1] 3 1 1 1 rfl (by simp [Value.oneCell'])) ?c1 ?c2 ?_)
        case c1 => omega
        case c2 => simp; omega
        intro v3 w3 hown hgrow _
        have hb3 : Below w1.heap.size w1 w3 := (below_then hb (below_box wr (.cells #[.int .i64 n1] 3))).grown hgrow (by simp; omega) (fun q hq => (World.ownsRow.lt HO.out q hq).1)
        have hO3 : w3.ownsRow w1.heap.size 3 1 v3 (1 + 1) ((X.take (1 + 1)).map (Value.int .i64)) := by
          rw [HTK.out, List.map_append, List.map_take]; exact hown
        clear hown hgrow HO z0 z1 z2 z3 z4 z5 z6 z7 z8 z9 hb
        go_wp2
        go_roundg g
        case rel => exact ⟨1 + 1, v3, by omega, rfl, by go_num, hO3, hb3⟩
        case measure => omega
      · obtain ⟨g, rfl⟩ : ∃ g, gk = g + 1 := ⟨gk - 1, by omega⟩
        have HTK := Lib.hid (show X.take (2 + 1) = X.take 2 ++ [(n2 : Int)] by rw [← HX.out]; rfl)
        have HO := Lib.hid (own_later hO (below_box wr (.cells #[.int .i64 n2] 3)))
        have hsz := hb.size
        clear hO
        go_wp2_with (at_builtin; refine wpList_append_k K33 rfl (.tmp 18) (.tmp 21) rfl _ 2 _ rfl HO.out _ 1 1 _ rfl (src_new wr #[.int .i64 n2] 3 1 1 1 rfl (by simp [Value.oneCell'])) ?c1 ?c2 ?_)
        case c1 => omega
        case c2 => simp; omega
        intro v3 w3 hown hgrow _
        have hb3 : Below w1.heap.size w1 w3 := (below_then hb (below_box wr (.cells #[.int .i64 n2] 3))).grown hgrow (by simp; omega) (fun q hq => (World.ownsRow.lt HO.out q hq).1)
        have hO3 : w3.ownsRow w1.heap.size 3 1 v3 (2 + 1) ((X.take (2 + 1)).map (Value.int .i64)) := by
          rw [HTK.out, List.map_append, List.map_take]; exact hown
        clear hown hgrow HO z0 z1 z2 z3 z4 z5 z6 z7 z8 z9 hb
        go_wp2
        go_roundg g
        case rel => exact ⟨2 + 1, v3, by omega, rfl, by go_num, hO3, hb3⟩
        case measure => omega
      · obtain ⟨g, rfl⟩ : ∃ g, gk = g + 1 := ⟨gk - 1, by omega⟩
        have HTK := Lib.hid (show X.take (3 + 1) = X.take 3 ++ [(n3 : Int)] by rw [← HX.out]; rfl)
        have HO := Lib.hid (own_later hO (below_box wr (.cells #[.int .i64 n3] 3)))
        have hsz := hb.size
        clear hO
        go_wp2_with (at_builtin; refine wpList_append_k K33 rfl (.tmp 18) (.tmp 21) rfl _ 3 _ rfl HO.out _ 1 1 _ rfl (src_new wr #[.int .i64 n3] 3 1 1 1 rfl (by simp [Value.oneCell'])) ?c1 ?c2 ?_)
        case c1 => omega
        case c2 => simp; omega
        intro v3 w3 hown hgrow _
        have hb3 : Below w1.heap.size w1 w3 := (below_then hb (below_box wr (.cells #[.int .i64 n3] 3))).grown hgrow (by simp; omega) (fun q hq => (World.ownsRow.lt HO.out q hq).1)
        have hO3 : w3.ownsRow w1.heap.size 3 1 v3 (3 + 1) ((X.take (3 + 1)).map (Value.int .i64)) := by
          rw [HTK.out, List.map_append, List.map_take]; exact hown
        clear hown hgrow HO z0 z1 z2 z3 z4 z5 z6 z7 z8 z9 hb
        go_wp2
        go_roundg g
        case rel => exact ⟨3 + 1, v3, by omega, rfl, by go_num, hO3, hb3⟩
        case measure => omega
      · obtain ⟨g, rfl⟩ : ∃ g, gk = g + 1 := ⟨gk - 1, by omega⟩
        have HTK := Lib.hid (show X.take (4 + 1) = X.take 4 ++ [(n4 : Int)] by rw [← HX.out]; rfl)
        have HO := Lib.hid (own_later hO (below_box wr (.cells #[.int .i64 n4] 3)))
        have hsz := hb.size
        clear hO
        go_wp2_with (at_builtin; refine wpList_append_k K33 rfl (.tmp 18) (.tmp 21) rfl _ 4 _ rfl HO.out _ 1 1 _ rfl (src_new wr #[.int .i64 n4] 3 1 1 1 rfl (by simp [Value.oneCell'])) ?c1 ?c2 ?_)
        case c1 => omega
        case c2 => simp; omega
        intro v3 w3 hown hgrow _
        have hb3 : Below w1.heap.size w1 w3 := (below_then hb (below_box wr (.cells #[.int .i64 n4] 3))).grown hgrow (by simp; omega) (fun q hq => (World.ownsRow.lt HO.out q hq).1)
        have hO3 : w3.ownsRow w1.heap.size 3 1 v3 (4 + 1) ((X.take (4 + 1)).map (Value.int .i64)) := by
          rw [HTK.out, List.map_append, List.map_take]; exact hown
        clear hown hgrow HO z0 z1 z2 z3 z4 z5 z6 z7 z8 z9 hb
        go_wp2
        go_roundg g
        case rel => exact ⟨4 + 1, v3, by omega, rfl, by go_num, hO3, hb3⟩
        case measure => omega
      · have hO5 : wr.ownsRow w1.heap.size 3 1 v 5 (X.map (Value.int .i64)) := by
          have h := hO
          rwa [List.take_of_length_le (by rw [← HX.out]; simp)] at h
        obtain ⟨a, c, rfl, _, _, _⟩ := own_form hO5
        have HO5 := Lib.hid (own_ints hO5 (by rw [← HX.out]; rfl))
        have HXL := Lib.hid (show X.length = 5 by rw [← HX.out]; rfl)
        clear hO hO5
        go_wp2
        go_ret2
        exact ⟨a, 5, c, rfl, by rw [HYX.out]; exact HXL.out, by rw [HYX.out]; exact HO5.out, below_then B1 hb⟩
  · obtain rfl : Y = [] := by rw [← HY.out, if_neg hR0]
    have t1 : (R != 0) = true := by simpa using hR0
    go_wp2
    go_ret2
    exact ⟨none, 0, 0, rfl, rfl, fun h => absurd h (by simp), below_then B1 hb⟩
set_option maxRecDepth 100000 in set_option maxHeartbeats 3200000 in
theorem blocks_23 (nd kd st ct mn : Int) (a0 a1 a2 a3 a4 : Option Addr) (l0 l1 l2 l3 l4 : List Int) (n0 n1 n2 n3 n4 c0 c1 c2 c3 c4 : Nat) (w : World) (i0 : -9223372036854775808 ≤ ct) (i1 : ct ≤ 9223372036854775807) (i2 : -9223372036854775808 ≤ st) (i3 : st ≤ 9223372036854775807) (H0 : Ints w a0 l0) (H1 : Ints w a1 l1) (H2 : Ints w a2 l2) (H3 : Ints w a3 l3) (H4 : Ints w a4 l4) (h0 : l0.length = n0) (h1 : l1.length = n1) (h2 : l2.length = n2) (h3 : l3.length = n3) (h4 : l4.length = n4) (m0 : n0 ≤ maxLen) (m1 : n1 ≤ maxLen) (m2 : n2 ≤ maxLen) (m3 : n3 ≤ maxLen) (m4 : n4 ≤ maxLen) :
    Calls Try.prog 23 #[.agg #[.int .i64 nd, .int .i64 kd, .int .i64 st, .int .i64 ct, .int .i64 mn, .slice a0 n0 c0, .slice a1 n1 c1, .slice a2 n2 c2, .slice a3 n3 c3, .slice a4 n4 c4]] w (BlkAns (chk nd kd st ct mn [l0, l1, l2, l3, l4]) (if chk nd kd st ct mn [l0, l1, l2, l3, l4] = 0 then [(n0 : Int), (n1 : Int), (n2 : Int), (n3 : Int), (n4 : Int)] else []) w) := by
  have B1 := below_box w (.cells #[.int .i64 nd, .int .i64 kd, .int .i64 st, .int .i64 ct, .int .i64 mn, .slice a0 n0 c0, .slice a1 n1 c1, .slice a2 n2 c2, .slice a3 n3 c3, .slice a4 n4 c4] 44)
  have z0 : (w.alloc (.cells #[.int .i64 nd, .int .i64 kd, .int .i64 st, .int .i64 ct, .int .i64 mn, .slice a0 n0 c0, .slice a1 n1 c1, .slice a2 n2 c2, .slice a3 n3 c3, .slice a4 n4 c4] 44)).cell? ⟨w.heap.size, 0, none⟩ = some (.int .i64 nd) := zcell w _ _ 0
  have z1 : (w.alloc (.cells #[.int .i64 nd, .int .i64 kd, .int .i64 st, .int .i64 ct, .int .i64 mn, .slice a0 n0 c0, .slice a1 n1 c1, .slice a2 n2 c2, .slice a3 n3 c3, .slice a4 n4 c4] 44)).cell? ⟨w.heap.size, 1, none⟩ = some (.int .i64 kd) := zcell w _ _ 1
  have z2 : (w.alloc (.cells #[.int .i64 nd, .int .i64 kd, .int .i64 st, .int .i64 ct, .int .i64 mn, .slice a0 n0 c0, .slice a1 n1 c1, .slice a2 n2 c2, .slice a3 n3 c3, .slice a4 n4 c4] 44)).cell? ⟨w.heap.size, 2, none⟩ = some (.int .i64 st) := zcell w _ _ 2
  have z3 : (w.alloc (.cells #[.int .i64 nd, .int .i64 kd, .int .i64 st, .int .i64 ct, .int .i64 mn, .slice a0 n0 c0, .slice a1 n1 c1, .slice a2 n2 c2, .slice a3 n3 c3, .slice a4 n4 c4] 44)).cell? ⟨w.heap.size, 3, none⟩ = some (.int .i64 ct) := zcell w _ _ 3
  have z4 : (w.alloc (.cells #[.int .i64 nd, .int .i64 kd, .int .i64 st, .int .i64 ct, .int .i64 mn, .slice a0 n0 c0, .slice a1 n1 c1, .slice a2 n2 c2, .slice a3 n3 c3, .slice a4 n4 c4] 44)).cell? ⟨w.heap.size, 4, none⟩ = some (.int .i64 mn) := zcell w _ _ 4
  have z5 : (w.alloc (.cells #[.int .i64 nd, .int .i64 kd, .int .i64 st, .int .i64 ct, .int .i64 mn, .slice a0 n0 c0, .slice a1 n1 c1, .slice a2 n2 c2, .slice a3 n3 c3, .slice a4 n4 c4] 44)).cell? ⟨w.heap.size, 5, none⟩ = some (.slice a0 n0 c0) := zcell w _ _ 5
  have z6 : (w.alloc (.cells #[.int .i64 nd, .int .i64 kd, .int .i64 st, .int .i64 ct, .int .i64 mn, .slice a0 n0 c0, .slice a1 n1 c1, .slice a2 n2 c2, .slice a3 n3 c3, .slice a4 n4 c4] 44)).cell? ⟨w.heap.size, 6, none⟩ = some (.slice a1 n1 c1) := zcell w _ _ 6
  have z7 : (w.alloc (.cells #[.int .i64 nd, .int .i64 kd, .int .i64 st, .int .i64 ct, .int .i64 mn, .slice a0 n0 c0, .slice a1 n1 c1, .slice a2 n2 c2, .slice a3 n3 c3, .slice a4 n4 c4] 44)).cell? ⟨w.heap.size, 7, none⟩ = some (.slice a2 n2 c2) := zcell w _ _ 7
  have z8 : (w.alloc (.cells #[.int .i64 nd, .int .i64 kd, .int .i64 st, .int .i64 ct, .int .i64 mn, .slice a0 n0 c0, .slice a1 n1 c1, .slice a2 n2 c2, .slice a3 n3 c3, .slice a4 n4 c4] 44)).cell? ⟨w.heap.size, 8, none⟩ = some (.slice a3 n3 c3) := zcell w _ _ 8
  have z9 : (w.alloc (.cells #[.int .i64 nd, .int .i64 kd, .int .i64 st, .int .i64 ct, .int .i64 mn, .slice a0 n0 c0, .slice a1 n1 c1, .slice a2 n2 c2, .slice a3 n3 c3, .slice a4 n4 c4] 44)).cell? ⟨w.heap.size, 9, none⟩ = some (.slice a4 n4 c4) := zcell w _ _ 9
  obtain ⟨w1, hw1⟩ : ∃ W, W = w.alloc (.cells #[.int .i64 nd, .int .i64 kd, .int .i64 st, .int .i64 ct, .int .i64 mn, .slice a0 n0 c0, .slice a1 n1 c1, .slice a2 n2 c2, .slice a3 n3 c3, .slice a4 n4 c4] 44) := ⟨_, rfl⟩
  rw [← hw1] at B1 z0 z1 z2 z3 z4 z5 z6 z7 z8 z9
  have Z0 := Lib.hid z0
  have Z1 := Lib.hid z1
  have Z2 := Lib.hid z2
  have Z3 := Lib.hid z3
  have Z4 := Lib.hid z4
  have Z5 := Lib.hid z5
  have Z6 := Lib.hid z6
  have Z7 := Lib.hid z7
  have Z8 := Lib.hid z8
  have Z9 := Lib.hid z9
  have G0 := H0.below B1
  have G1 := H1.below B1
  have G2 := H2.below B1
  have G3 := H3.below B1
  have G4 := H4.below B1
  have N0 := Lib.hid h0
  have N1 := Lib.hid h1
  have N2 := Lib.hid h2
  have N3 := Lib.hid h3
  have N4 := Lib.hid h4
  have HW := Lib.hid hw1
  have M0 := Lib.hid m0
  have M1 := Lib.hid m1
  have M2 := Lib.hid m2
  have M3 := Lib.hid m3
  have M4 := Lib.hid m4
  unfold maxLen at m0 m1 m2 m3 m4
  clear hw1 h0 h1 h2 h3 h4
  obtain ⟨R, hR⟩ : ∃ R, chk nd kd st ct mn [l0, l1, l2, l3, l4] = R := ⟨_, rfl⟩
  have hck := check_32 nd kd st ct mn a0 a1 a2 a3 a4 l0 l1 l2 l3 l4 n0 n1 n2 n3 n4 c0 c1 c2 c3 c4 w1 i0 i1 i2 i3 G0 G1 G2 G3 G4 N0.out N1.out N2.out N3.out N4.out M0.out M1.out M2.out M3.out M4.out
  rw [hR] at hck ⊢
  obtain ⟨Y, hY⟩ : ∃ Y : List Int, (if R = 0 then [(n0 : Int), (n1 : Int), (n2 : Int), (n3 : Int), (n4 : Int)] else []) = Y := ⟨_, rfl⟩
  rw [hY]
  have HY := Lib.hid hY
  have HCK := Lib.hid hck
  clear hck hR hY z0 z1 z2 z3 z4 z5 z6 z7 z8 z9
  go_enter Try.func23, Try.ntmps23
  go_wp2_with fail
  rw [← HW.out]
  clear HW
  refine (HCK.out).mono ?_
  rintro e w2 ⟨rfl, hb⟩
  clear HCK
  by_cases hR0 : R = 0
  · subst hR0
    have z0 := cell_later hb Z0.out
    have z1 := cell_later hb Z1.out
    have z2 := cell_later hb Z2.out
    have z3 := cell_later hb Z3.out
    have z4 := cell_later hb Z4.out
    have z5 := cell_later hb Z5.out
    have z6 := cell_later hb Z6.out
    have z7 := cell_later hb Z7.out
    have z8 := cell_later hb Z8.out
    have z9 := cell_later hb Z9.out
    go_wp2
    clear z0 z1 z2 z3 z4 z5 z6 z7 z8 z9
    obtain ⟨X, hX⟩ : ∃ X : List Int, Y = X := ⟨_, rfl⟩
    have HX := Lib.hid (show [(n0 : Int), (n1 : Int), (n2 : Int), (n3 : Int), (n4 : Int)] = X by rw [← hX, ← HY.out]; simp)
    have HYX := Lib.hid hX
    clear hX
    go_loopg [5, 6] 5 (fun g v0 i0 wr => ∃ (i : Nat) (v : Value), i + g = 5 ∧ v = v0 ∧ i0 = .int .i64 i ∧ wr.ownsRow w1.heap.size 3 1 v i ((X.take i).map (Value.int .i64)) ∧ Below w1.heap.size w1 wr)
    case atStart => exact ⟨0, _, by omega, rfl, rfl, World.ownsRow_nil _ _ _ _, hb⟩
    case round =>
      clear hb
      obtain ⟨i, v, hg, rfl, rfl, hO, hb⟩ := hrel
      have z0 := cell_later hb Z0.out
      have z1 := cell_later hb Z1.out
      have z2 := cell_later hb Z2.out
      have z3 := cell_later hb Z3.out
      have z4 := cell_later hb Z4.out
      have z5 := cell_later hb Z5.out
      have z6 := cell_later hb Z6.out
      have z7 := cell_later hb Z7.out
      have z8 := cell_later hb Z8.out
      have z9 := cell_later hb Z9.out
      rcases (show i = 0 ∨ i = 1 ∨ i = 2 ∨ i = 3 ∨ i = 4 ∨ i = 5 by omega) with rfl | rfl | rfl | rfl | rfl | rfl
      · obtain ⟨g, rfl⟩ : ∃ g, gk = g + 1 := ⟨gk - 1, by omega⟩
        have HTK := Lib.hid (show X.take (0 + 1) = X.take 0 ++ [(n0 : Int)] by rw [← HX.out]; rfl)
        have HO := Lib.hid (own_later hO (below_box wr (.cells #[.int .i64 n0] 3)))
        have hsz := hb.size
        clear hO
        go_wp2_with (at_builtin; refine wpList_append_k K33 rfl (.tmp 16) (.tmp 22) rfl _ 0 _ rfl HO.out _ 1 1 _ rfl (src_new wr #[.int .i64 n0] 3 1 1 1 rfl (by simp [Value.oneCell'])) ?c1 ?c2 ?_)
        case c1 => omega
        case c2 => simp; omega
        intro v3 w3 hown hgrow _
        have hb3 : Below w1.heap.size w1 w3 := (below_then hb (below_box wr (.cells #[.int .i64 n0] 3))).grown hgrow (by simp; omega) (fun q hq => (World.ownsRow.lt HO.out q hq).1)
        have hO3 : w3.ownsRow w1.heap.size 3 1 v3 (0 + 1) ((X.take (0 + 1)).map (Value.int .i64)) := by
          rw [HTK.out, List.map_append, List.map_take]; exact hown
        clear hown hgrow HO z0 z1 z2 z3 z4 z5 z6 z7 z8 z9 hb
        go_wp2
        go_roundg g
        case rel => exact ⟨0 + 1, v3, by omega, rfl, by go_num, hO3, hb3⟩
        case measure => omega
      · obtain ⟨g, rfl⟩ : ∃ g, gk = g + 1 := ⟨gk - 1, by omega⟩
        have HTK := Lib.hid (show X.take (1 + 1) = X.take 1 ++ [(n1 : Int)] by rw [← HX.out]; rfl)
        have HO := Lib.hid (own_later hO (below_box wr (.cells #[.int .i64 n1] 3)))
        have hsz := hb.size
        clear hO
        go_wp2_with (at_builtin; refine wpList_append_k K33 rfl (.tmp 16) (.tmp 22) rfl _ 1 _ rfl HO.out _ 1 1 _ rfl (src_new wr #[.int .i64 n1] 3 1 1 1 rfl (by simp [Value.oneCell'])) ?c1 ?c2 ?_)
        case c1 => omega
        case c2 => simp; omega
        intro v3 w3 hown hgrow _
        have hb3 : Below w1.heap.size w1 w3 := (below_then hb (below_box wr (.cells #[.int .i64 n1] 3))).grown hgrow (by simp; omega) (fun q hq => (World.ownsRow.lt HO.out q hq).1)
        have hO3 : w3.ownsRow w1.heap.size 3 1 v3 (1 + 1) ((X.take (1 + 1)).map (Value.int .i64)) := by
          rw [HTK.out, List.map_append, List.map_take]; exact hown
        clear hown hgrow HO z0 z1 z2 z3 z4 z5 z6 z7 z8 z9 hb
        go_wp2
        go_roundg g
        case rel => exact ⟨1 + 1, v3, by omega, rfl, by go_num, hO3, hb3⟩
        case measure => omega
      · obtain ⟨g, rfl⟩ : ∃ g, gk = g + 1 := ⟨gk - 1, by omega⟩
        have HTK := Lib.hid (show X.take (2 + 1) = X.take 2 ++ [(n2 : Int)] by rw [← HX.out]; rfl)
        have HO := Lib.hid (own_later hO (below_box wr (.cells #[.int .i64 n2] 3)))
        have hsz := hb.size
        clear hO
        go_wp2_with (at_builtin; refine wpList_append_k K33 rfl (.tmp 16) (.tmp 22) rfl _ 2 _ rfl HO.out _ 1 1 _ rfl (src_new wr #[.int .i64 n2] 3 1 1 1 rfl (by simp [Value.oneCell'])) ?c1 ?c2 ?_)
        case c1 => omega
        case c2 => simp; omega
        intro v3 w3 hown hgrow _
        have hb3 : Below w1.heap.size w1 w3 := (below_then hb (below_box wr (.cells #[.int .i64 n2] 3))).grown hgrow (by simp; omega) (fun q hq => (World.ownsRow.lt HO.out q hq).1)
        have hO3 : w3.ownsRow w1.heap.size 3 1 v3 (2 + 1) ((X.take (2 + 1)).map (Value.int .i64)) := by
          rw [HTK.out, List.map_append, List.map_take]; exact hown
        clear hown hgrow HO z0 z1 z2 z3 z4 z5 z6 z7 z8 z9 hb
        go_wp2
        go_roundg g
        case rel => exact ⟨2 + 1, v3, by omega, rfl, by go_num, hO3, hb3⟩
        case measure => omega
      · obtain ⟨g, rfl⟩ : ∃ g, gk = g + 1 := ⟨gk - 1, by omega⟩
        have HTK := Lib.hid (show X.take (3 + 1) = X.take 3 ++ [(n3 : Int)] by rw [← HX.out]; rfl)
        have HO := Lib.hid (own_later hO (below_box wr (.cells #[.int .i64 n3] 3)))
        have hsz := hb.size
        clear hO
        go_wp2_with (at_builtin; refine wpList_append_k K33 rfl (.tmp 16) (.tmp 22) rfl _ 3 _ rfl HO.out _ 1 1 _ rfl (src_new wr #[.int .i64 n3] 3 1 1 1 rfl (by simp [Value.oneCell'])) ?c1 ?c2 ?_)
        case c1 => omega
        case c2 => simp; omega
        intro v3 w3 hown hgrow _
        have hb3 : Below w1.heap.size w1 w3 := (below_then hb (below_box wr (.cells #[.int .i64 n3] 3))).grown hgrow (by simp; omega) (fun q hq => (World.ownsRow.lt HO.out q hq).1)
        have hO3 : w3.ownsRow w1.heap.size 3 1 v3 (3 + 1) ((X.take (3 + 1)).map (Value.int .i64)) := by
          rw [HTK.out, List.map_append, List.map_take]; exact hown
        clear hown hgrow HO z0 z1 z2 z3 z4 z5 z6 z7 z8 z9 hb
        go_wp2
        go_roundg g
        case rel => exact ⟨3 + 1, v3, by omega, rfl, by go_num, hO3, hb3⟩
        case measure => omega
      · obtain ⟨g, rfl⟩ : ∃ g, gk = g + 1 := ⟨gk - 1, by omega⟩
        have HTK := Lib.hid (show X.take (4 + 1) = X.take 4 ++ [(n4 : Int)] by rw [← HX.out]; rfl)
        have HO := Lib.hid (own_later hO (below_box wr (.cells #[.int .i64 n4] 3)))
        have hsz := hb.size
        clear hO
        go_wp2_with (at_builtin; refine wpList_append_k K33 rfl (.tmp 16) (.tmp 22) rfl _ 4 _ rfl HO.out _ 1 1 _ rfl (src_new wr #[.int .i64 n4] 3 1 1 1 rfl (by simp [Value.oneCell'])) ?c1 ?c2 ?_)
        case c1 => omega
        case c2 => simp; omega
        intro v3 w3 hown hgrow _
        have hb3 : Below w1.heap.size w1 w3 := (below_then hb (below_box wr (.cells #[.int .i64 n4] 3))).grown hgrow (by simp; omega) (fun q hq => (World.ownsRow.lt HO.out q hq).1)
        have hO3 : w3.ownsRow w1.heap.size 3 1 v3 (4 + 1) ((X.take (4 + 1)).map (Value.int .i64)) := by
          rw [HTK.out, List.map_append, List.map_take]; exact hown
        clear hown hgrow HO z0 z1 z2 z3 z4 z5 z6 z7 z8 z9 hb
        go_wp2
        go_roundg g
        case rel => exact ⟨4 + 1, v3, by omega, rfl, by go_num, hO3, hb3⟩
        case measure => omega
      · have hO5 : wr.ownsRow w1.heap.size 3 1 v 5 (X.map (Value.int .i64)) := by
          have h := hO
          rwa [List.take_of_length_le (by rw [← HX.out]; simp)] at h
        obtain ⟨a, c, rfl, _, _, _⟩ := own_form hO5
        have HO5 := Lib.hid (own_ints hO5 (by rw [← HX.out]; rfl))
        have HXL := Lib.hid (show X.length = 5 by rw [← HX.out]; rfl)
        clear hO hO5
        go_wp2
        go_ret2
        exact ⟨a, 5, c, rfl, by rw [HYX.out]; exact HXL.out, by rw [HYX.out]; exact HO5.out, below_then B1 hb⟩
  · obtain rfl : Y = [] := by rw [← HY.out, if_neg hR0]
    have t1 : (R != 0) = true := by simpa using hR0
    go_wp2
    go_ret2
    exact ⟨none, 0, 0, rfl, rfl, fun h => absurd h (by simp), below_then B1 hb⟩
end Go.Proofs.Ytneibbefkjjlnaa
