/- The walk of a device that is drained. -/
import Derived.Test.YtlhbjmoncdljoaaE6
namespace Go.Proofs.Ytlhbjmoncdljoaa
open Go.RowKit Go.Over Go.Dev Go.Seg Go.Grow
/-- The variable of a device that is drained. -/
structure DR (w : World) (VB VC VQ : Value) (d : D) (W : World) : Prop where
  b : Below w.heap.size w W
  x : Blk W w.heap.size 26 [.int .i64 d.dp, .int .i64 d.nx, VB, VC, VQ]
  r : Blk W (w.heap.size + 1) 26 zD
  v : Rdv W (.agg #[.int .i64 d.dp, .int .i64 d.nx, VB, VC, VQ]) d
theorem DR.below {w W W' : World} {VB VC VQ : Value} {d : D} (h : DR w VB VC VQ d W) (hb : Below W.heap.size W W') : DR w VB VC VQ d W' := ⟨below_then h.b hb, h.x.later hb, h.r.later hb, h.v.below hb⟩
theorem DR.store {w W : World} {VB VC VQ VB' VC' VQ' : Value} {d d' : D} {B : Nat} (h : DR w VB VC VQ d W) (r : Rows3 W B VB' VC' VQ' d'.bl d'.ca d'.qu) :
    DR w VB' VC' VQ' d' (((((W.setCell ⟨w.heap.size, 0, none⟩ (.int .i64 d'.dp)).setCell ⟨w.heap.size, 1, none⟩ (.int .i64 d'.nx)).setCell ⟨w.heap.size, 2, none⟩ VB').setCell ⟨w.heap.size, 3, none⟩ VC').setCell ⟨w.heap.size, 4, none⟩ VQ') :=
  ⟨below5 h.b (Nat.le_refl _) _ _ _ _ _, set5 h.x _ _ _ _ _, far5B h.r (by omega) _ _ _ _ _, ((r.dev5 h.x _ _ _ _ _).own d'.dp d'.nx).rdv⟩
theorem setCell_swap {W : World} {a b : Addr} (h : a.block ≠ b.block) (u v : Value) : (W.setCell a u).setCell b v = (W.setCell b v).setCell a u := by
  simp only [World.setCell]
  congr 1
  apply Array.ext_getElem?
  intro i
  simp only [Array.getElem?_modify]
  by_cases h1 : b.block = i
  · subst h1
    rw [if_pos rfl, if_neg h, if_neg h, if_pos rfl]
  · rw [if_neg h1, if_neg h1]
theorem swap5 {W : World} {g : Nat} {b : Addr} (h : g ≠ b.block) (v x1 x2 x3 x4 x5 : Value) : (((((W.setCell ⟨g, 0, none⟩ x1).setCell ⟨g, 1, none⟩ x2).setCell ⟨g, 2, none⟩ x3).setCell ⟨g, 3, none⟩ x4).setCell ⟨g, 4, none⟩ x5).setCell b v =
    (((((W.setCell b v).setCell ⟨g, 0, none⟩ x1).setCell ⟨g, 1, none⟩ x2).setCell ⟨g, 2, none⟩ x3).setCell ⟨g, 3, none⟩ x4).setCell ⟨g, 4, none⟩ x5 := by
  rw [setCell_swap (a := ⟨g, 4, none⟩) h, setCell_swap (a := ⟨g, 3, none⟩) h, setCell_swap (a := ⟨g, 2, none⟩) h, setCell_swap (a := ⟨g, 1, none⟩) h, setCell_swap (a := ⟨g, 0, none⟩) h]
theorem below_q {W : World} {zs : Array Value} {t : TypeId} (y1 y2 y3 y4 : Value) : Below W.heap.size W (((((W.alloc (.cells zs t)).setCell ⟨W.heap.size, 0, none⟩ y1).setCell ⟨W.heap.size, 1, none⟩ y2).setCell ⟨W.heap.size, 2, none⟩ y3).setCell ⟨W.heap.size, 3, none⟩ y4) := by
  have b := below_box W (.cells zs t)
  have b1 := b.setCell (p := ⟨W.heap.size, 0, none⟩) (Nat.le_refl _) y1
  have b2 := b1.setCell (p := ⟨W.heap.size, 1, none⟩) (Nat.le_refl _) y2
  have b3 := b2.setCell (p := ⟨W.heap.size, 2, none⟩) (Nat.le_refl _) y3
  exact b3.setCell (p := ⟨W.heap.size, 3, none⟩) (Nat.le_refl _) y4
set_option maxRecDepth 100000 in set_option maxHeartbeats 3200000 in
theorem drained_33 (v : Value) (d : D) (n : Nat) (w : World) (H : Rdv w v d) (hP : PD d n) (hn : n ≤ 1000) :
    Calls Try.prog 33 #[v] w fun e w' => ∃ u F, e = .returned (.tuple #[u, .bool true]) ∧ OwnD w' w.heap.size u F ∧ PD F (n + 1) ∧ F.ca = [] ∧ F.qu = [] ∧ Below w.heap.size w w' := by
  obtain ⟨x1, k1, x3, k3, x4, k4, rfl, _⟩ := id H
  have R0 : DR w (.slice x1 d.bl.length k1) (.slice x3 d.ca.length k3) (.slice x4 d.qu.length k4) d ((w.alloc (.cells #[.int .i64 d.dp, .int .i64 d.nx, .slice x1 d.bl.length k1, .slice x3 d.ca.length k3, .slice x4 d.qu.length k4] 26)).alloc (.cells #[.int .i64 0, .int .i64 0, .slice none 0 0, .slice none 0 0, .slice none 0 0] 26)) := by
    have b1 := below_box w (.cells #[.int .i64 d.dp, .int .i64 d.nx, .slice x1 d.bl.length k1, .slice x3 d.ca.length k3, .slice x4 d.qu.length k4] 26)
    have b2 := below_box (w.alloc (.cells #[.int .i64 d.dp, .int .i64 d.nx, .slice x1 d.bl.length k1, .slice x3 d.ca.length k3, .slice x4 d.qu.length k4] 26)) (.cells #[.int .i64 0, .int .i64 0, .slice none 0 0, .slice none 0 0, .slice none 0 0] 26)
    refine ⟨below_then b1 b2, (Blk.new w 26 #[.int .i64 d.dp, .int .i64 d.nx, .slice x1 d.bl.length k1, .slice x3 d.ca.length k3, .slice x4 d.qu.length k4] [.int .i64 d.dp, .int .i64 d.nx, .slice x1 d.bl.length k1, .slice x3 d.ca.length k3, .slice x4 d.qu.length k4] rfl).later b2, ?_, H.below (below_then b1 b2)⟩
    have := Blk.new (w.alloc (.cells #[.int .i64 d.dp, .int .i64 d.nx, .slice x1 d.bl.length k1, .slice x3 d.ca.length k3, .slice x4 d.qu.length k4] 26)) 26 #[.int .i64 0, .int .i64 0, .slice none 0 0, .slice none 0 0, .slice none 0 0] zD rfl
    rwa [show (w.alloc (.cells #[.int .i64 d.dp, .int .i64 d.nx, .slice x1 d.bl.length k1, .slice x3 d.ca.length k3, .slice x4 d.qu.length k4] 26)).heap.size = w.heap.size + 1 by simp] at this
  have hs : (w.alloc (.cells #[.int .i64 d.dp, .int .i64 d.nx, .slice x1 d.bl.length k1, .slice x3 d.ca.length k3, .slice x4 d.qu.length k4] 26)).heap.size = w.heap.size + 1 := by simp
  clear H
  go_enter Try.func33, Try.ntmps33
  go_upto_region 1 with fail
  obtain ⟨w1, hw1⟩ : ∃ W, W = (w.alloc (.cells #[.int .i64 d.dp, .int .i64 d.nx, .slice x1 d.bl.length k1, .slice x3 d.ca.length k3, .slice x4 d.qu.length k4] 26)).alloc (.cells #[.int .i64 0, .int .i64 0, .slice none 0 0, .slice none 0 0, .slice none 0 0] 26) := ⟨_, rfl⟩
  rw [← hw1] at R0 ⊢
  clear hw1 hs
  go_wp2
  go_loopg [10] 4 (fun gg v10 wr => ∃ (i : Nat) (x1 x3 x4 : Option Addr) (k1 k3 k4 : Nat) (d : D), i + gg = 4 ∧ v10 = .int .i64 i ∧ PD d n ∧ d.qu.length ≤ gg ∧ DR w (.slice x1 d.bl.length k1) (.slice x3 d.ca.length k3) (.slice x4 d.qu.length k4) d wr)
  case atStart => exact ⟨0, x1, x3, x4, k1, k3, k4, d, by omega, rfl, hP, hP.q4, R0⟩
  case round =>
    clear R0 hP
    obtain ⟨i, x1, x3, x4, k1, k3, k4, d, hg, rfl, hP, hq, R1⟩ := hrel
    cases gk with
    | zero =>
      obtain rfl : i = 4 := by omega
      have HQ0 := Lib.hid (show d.qu.length = 0 by omega)
      clear hg hq
      have d0 := R1.x.cell 0
      have d1 := R1.x.cell 1
      have d2 := R1.x.cell 2
      have d3 := R1.x.cell 3
      have d4 := R1.x.cell 4
      simp only [List.getElem?_cons_zero, List.getElem?_cons_succ] at d0 d1 d2 d3 d4
      have df0 := R1.x.frozen 0
      have df1 := R1.x.frozen 1
      have df2 := R1.x.frozen 2
      have df3 := R1.x.frozen 3
      have df4 := R1.x.frozen 4
      obtain ⟨E, id, F, Q, e1, pE, e2, pF, hk, hl, hca, hqu⟩ := drain_spec hP hn (List.eq_nil_of_length_eq_zero HQ0.out)
      have HK := Lib.hid hk; have HCA := Lib.hid hca; have HQU := Lib.hid hqu
      clear hk hca hqu hl
      go_wp2_with fail
      refine (submit_d R1.v (pd_few hP) 3 0 (SlV.nil _).rbv (by simp)).mono ?_
      rintro e w5 ⟨v, rfl, hO, b5⟩
      rw [e1] at hO ⊢
      obtain ⟨VB, VC, VQ, y1, m1, y3, m3, y4, m4, rfl, rfl, rfl, rfl, r1, r2, r3⟩ := hO.cells
      dsimp only at r1 r2 r3 ⊢
      have R5 := R1.below b5
      have R6 := R5.store ⟨r1, r2, r3⟩
      clear R1 hO b5 d0 d1 d2 d3 d4 df0 df1 df2 df3 df4 HQ0
      have d0 := R5.x.cell 0
      have d1 := R5.x.cell 1
      have d2 := R5.x.cell 2
      have d3 := R5.x.cell 3
      have d4 := R5.x.cell 4
      simp only [List.getElem?_cons_zero, List.getElem?_cons_succ] at d0 d1 d2 d3 d4
      have df0 := R5.x.frozen 0
      have df1 := R5.x.frozen 1
      have df2 := R5.x.frozen 2
      have df3 := R5.x.frozen 3
      have df4 := R5.x.frozen 4
      go_upto_region 10 with fail
      obtain ⟨w6, hw6⟩ : ∃ W, W = ((((w5.setCell ⟨w.heap.size, 0, none⟩ (.int .i64 E.dp)).setCell ⟨w.heap.size, 1, none⟩ (.int .i64 E.nx)).setCell ⟨w.heap.size, 2, none⟩ (.slice y1 E.bl.length m1)).setCell ⟨w.heap.size, 3, none⟩ (.slice y3 E.ca.length m3)).setCell ⟨w.heap.size, 4, none⟩ (.slice y4 E.qu.length m4) := ⟨_, rfl⟩
      rw [← hw6] at R6 ⊢
      clear hw6 r1 r2 r3 R5 d0 d1 d2 d3 d4 df0 df1 df2 df3 df4
      have d0 := R6.x.cell 0
      have d1 := R6.x.cell 1
      have d2 := R6.x.cell 2
      have d3 := R6.x.cell 3
      have d4 := R6.x.cell 4
      simp only [List.getElem?_cons_zero, List.getElem?_cons_succ] at d0 d1 d2 d3 d4
      go_wp2_with fail
      refine (complete_d R6.v (pd_few pE) 0 true).mono ?_
      rintro e w7 ⟨v, vq, rfl, hO, hQ, b7⟩
      rw [e2] at hO hQ ⊢
      obtain ⟨VB, VC, VQ, z1, j1, z3, j3, z4, j4, rfl, rfl, rfl, rfl, r1, r2, r3⟩ := hO.cells
      obtain ⟨sv, rfl, hsv⟩ := hQ
      obtain ⟨y5, j5, rfl, _, _, _, _⟩ := hsv.form rfl
      dsimp only at r1 r2 r3 ⊢
      have hB6 : w.heap.size + 1 < w6.heap.size := by have := R6.r.lt; exact this
      have hB7 : w.heap.size + 1 < w7.heap.size := by have := (R6.below b7).r.lt; exact this
      have hq7 := below_q (W := w7) (zs := #[.int .i64 0, .int .i64 0, .int .i64 0, .slice none 0 0]) (t := 39) (.int .i64 Q.1) (.int .i64 Q.2.1) (.int .i64 Q.2.2.1) (.slice y5 Q.2.2.2.length j5)
      have hQ8 := set4 (Blk.new w7 39 #[.int .i64 0, .int .i64 0, .int .i64 0, .slice none 0 0] _ rfl) (.int .i64 Q.1) (.int .i64 Q.2.1) (.int .i64 Q.2.2.1) (.slice y5 Q.2.2.2.length j5)
      obtain ⟨w8, hw8⟩ : ∃ W, W = ((((w7.alloc (.cells #[.int .i64 0, .int .i64 0, .int .i64 0, .slice none 0 0] 39)).setCell ⟨w7.heap.size, 0, none⟩ (.int .i64 Q.1)).setCell ⟨w7.heap.size, 1, none⟩ (.int .i64 Q.2.1)).setCell ⟨w7.heap.size, 2, none⟩ (.int .i64 Q.2.2.1)).setCell ⟨w7.heap.size, 3, none⟩ (.slice y5 Q.2.2.2.length j5) := ⟨_, rfl⟩
      rw [← hw8] at hq7 hQ8
      have R7 := R6.below b7
      have R8 := R7.below hq7
      have r8 := (show Rows3 w7 _ _ _ _ F.bl F.ca F.qu from ⟨r1, r2, r3⟩).below hq7
      have R9 := R8.store r8
      have O9 := r8.dev5 R8.x (.int .i64 F.dp) (.int .i64 F.nx) (.slice z1 F.bl.length j1) (.slice z3 F.ca.length j3) (.slice z4 F.qu.length j4)
      have Q9 := far5B hQ8 (show w7.heap.size ≠ w.heap.size by omega) (.int .i64 F.dp) (.int .i64 F.nx) (.slice z1 F.bl.length j1) (.slice z3 F.ca.length j3) (.slice z4 F.qu.length j4)
      obtain ⟨gq, hgq⟩ : ∃ g, w7.heap.size = g := ⟨_, rfl⟩
      rw [hgq] at Q9 hB7 hw8
      have hne : w.heap.size ≠ gq := by omega
      have hsw : ((((((((((w7.alloc (.cells #[.int .i64 0, .int .i64 0, .int .i64 0, .slice none 0 0] 39)).setCell ⟨w.heap.size, 0, none⟩ (.int .i64 F.dp)).setCell ⟨w.heap.size, 1, none⟩ (.int .i64 F.nx)).setCell ⟨w.heap.size, 2, none⟩ (.slice z1 F.bl.length j1)).setCell ⟨w.heap.size, 3, none⟩ (.slice z3 F.ca.length j3)).setCell ⟨w.heap.size, 4, none⟩ (.slice z4 F.qu.length j4)).setCell ⟨gq, 0, none⟩ (.int .i64 Q.1)).setCell ⟨gq, 1, none⟩ (.int .i64 Q.2.1)).setCell ⟨gq, 2, none⟩ (.int .i64 Q.2.2.1)).setCell ⟨gq, 3, none⟩ (.slice y5 Q.2.2.2.length j5)) = (((((w8.setCell ⟨w.heap.size, 0, none⟩ (.int .i64 F.dp)).setCell ⟨w.heap.size, 1, none⟩ (.int .i64 F.nx)).setCell ⟨w.heap.size, 2, none⟩ (.slice z1 F.bl.length j1)).setCell ⟨w.heap.size, 3, none⟩ (.slice z3 F.ca.length j3)).setCell ⟨w.heap.size, 4, none⟩ (.slice z4 F.qu.length j4)) := by
        rw [swap5 (b := ⟨gq, 0, none⟩) hne, swap5 (b := ⟨gq, 1, none⟩) hne, swap5 (b := ⟨gq, 2, none⟩) hne, swap5 (b := ⟨gq, 3, none⟩) hne, hw8]
      have HSW := Lib.hid hsw
      clear hsw hw8
      have hx8 := R7.x.later (below_box w7 (.cells #[.int .i64 0, .int .i64 0, .int .i64 0, .slice none 0 0] 39))
      have hq8 := Blk.new w7 39 #[.int .i64 0, .int .i64 0, .int .i64 0, .slice none 0 0] [.int .i64 0, .int .i64 0, .int .i64 0, .slice none 0 0] rfl
      rw [hgq] at hq8
      clear r1 r2 r3 hO hsv b7 hq7 hQ8 R7 R8 r8 R6 d0 d1 d2 d3 d4
      have d0 := hx8.cell 0
      have d1 := hx8.cell 1
      have d2 := hx8.cell 2
      have d3 := hx8.cell 3
      have d4 := hx8.cell 4
      simp only [List.getElem?_cons_zero, List.getElem?_cons_succ] at d0 d1 d2 d3 d4
      have df0 := hx8.frozen 0
      have df1 := hx8.frozen 1
      have df2 := hx8.frozen 2
      have df3 := hx8.frozen 3
      have df4 := hx8.frozen 4
      go_upto_region 13 with fail
      rw [HSW.out]
      clear HSW hx8 hq8 d0 d1 d2 d3 d4 df0 df1 df2 df3 df4
      obtain ⟨w9, hw9⟩ : ∃ W, W = (((((w8.setCell ⟨w.heap.size, 0, none⟩ (.int .i64 F.dp)).setCell ⟨w.heap.size, 1, none⟩ (.int .i64 F.nx)).setCell ⟨w.heap.size, 2, none⟩ (.slice z1 F.bl.length j1)).setCell ⟨w.heap.size, 3, none⟩ (.slice z3 F.ca.length j3)).setCell ⟨w.heap.size, 4, none⟩ (.slice z4 F.qu.length j4)) := ⟨_, rfl⟩
      rw [← hw9] at R9 O9 Q9 ⊢
      clear hw9
      refine wp_region_plan (fun W => Blk W w.heap.size 26 [.int .i64 F.dp, .int .i64 F.nx, .slice z1 F.bl.length j1, .slice z3 F.ca.length j3, .slice z4 F.qu.length j4] ∧ Blk W gq 39 [.int .i64 Q.1, .int .i64 Q.2.1, .int .i64 Q.2.2.1, .slice y5 Q.2.2.2.length j5]) (.quiet [0, 1, 2, 3, 4, 5, 6, 7] (.only 8 (.quiet [9] .done))) 99 (by kernel_rfl) (by kernel_rfl) ⟨R9.x.later (Below.refl _ _).drew, Q9.later (Below.refl _ _).drew⟩ ?_
      intro W hW hWe
      have RA : DR w (.slice z1 F.bl.length j1) (.slice z3 F.ca.length j3) (.slice z4 F.qu.length j4) F W := by rw [hWe]; exact R9.below (Below.refl _ _).drew
      have OA : Rows3 W w6.heap.size (.slice z1 F.bl.length j1) (.slice z3 F.ca.length j3) (.slice z4 F.qu.length j4) F.bl F.ca F.qu := by rw [hWe]; exact O9.below (Below.refl _ _).drew
      clear hWe R9 O9 Q9
      simp only [wpPlan, inOrder, List.filterMap_cons, List.filterMap_nil, List.getElem?_cons_zero, List.getElem?_cons_succ]
      have d0 := fun z => (hold_ok (S0 := fun W => Blk W w.heap.size 26 [.int .i64 F.dp, .int .i64 F.nx, .slice z1 F.bl.length j1, .slice z3 F.ca.length j3, .slice z4 F.qu.length j4] ∧ Blk W gq 39 [.int .i64 Q.1, .int .i64 Q.2.1, .int .i64 Q.2.2.1, .slice y5 Q.2.2.2.length j5]) hW z).1.cell 0
      have d1 := fun z => (hold_ok (S0 := fun W => Blk W w.heap.size 26 [.int .i64 F.dp, .int .i64 F.nx, .slice z1 F.bl.length j1, .slice z3 F.ca.length j3, .slice z4 F.qu.length j4] ∧ Blk W gq 39 [.int .i64 Q.1, .int .i64 Q.2.1, .int .i64 Q.2.2.1, .slice y5 Q.2.2.2.length j5]) hW z).1.cell 1
      have d2 := fun z => (hold_ok (S0 := fun W => Blk W w.heap.size 26 [.int .i64 F.dp, .int .i64 F.nx, .slice z1 F.bl.length j1, .slice z3 F.ca.length j3, .slice z4 F.qu.length j4] ∧ Blk W gq 39 [.int .i64 Q.1, .int .i64 Q.2.1, .int .i64 Q.2.2.1, .slice y5 Q.2.2.2.length j5]) hW z).1.cell 2
      have d3 := fun z => (hold_ok (S0 := fun W => Blk W w.heap.size 26 [.int .i64 F.dp, .int .i64 F.nx, .slice z1 F.bl.length j1, .slice z3 F.ca.length j3, .slice z4 F.qu.length j4] ∧ Blk W gq 39 [.int .i64 Q.1, .int .i64 Q.2.1, .int .i64 Q.2.2.1, .slice y5 Q.2.2.2.length j5]) hW z).1.cell 3
      have d4 := fun z => (hold_ok (S0 := fun W => Blk W w.heap.size 26 [.int .i64 F.dp, .int .i64 F.nx, .slice z1 F.bl.length j1, .slice z3 F.ca.length j3, .slice z4 F.qu.length j4] ∧ Blk W gq 39 [.int .i64 Q.1, .int .i64 Q.2.1, .int .i64 Q.2.2.1, .slice y5 Q.2.2.2.length j5]) hW z).1.cell 4
      have q1 := fun z => (hold_ok (S0 := fun W => Blk W w.heap.size 26 [.int .i64 F.dp, .int .i64 F.nx, .slice z1 F.bl.length j1, .slice z3 F.ca.length j3, .slice z4 F.qu.length j4] ∧ Blk W gq 39 [.int .i64 Q.1, .int .i64 Q.2.1, .int .i64 Q.2.2.1, .slice y5 Q.2.2.2.length j5]) hW z).2.cell 1
      simp only [List.getElem?_cons_zero, List.getElem?_cons_succ] at d0 d1 d2 d3 d4 q1
      have tq : (Q.2.1 == 3) = true := by rw [HK.out]; rfl
      show wpQuiet _ _ _ _ (_ :: _ :: _ :: _ :: _ :: _ :: _ :: [_]) _
      repeat (go_big_quiet_step (fail))
      refine wpQuiet_nil ?_
      clear d0 d1 d2 d3 d4 q1 tq
      have e0 := RA.r.cell 0
      have e1 := RA.r.cell 1
      have e2 := RA.r.cell 2
      have e3 := RA.r.cell 3
      have e4 := RA.r.cell 4
      simp only [zD, List.getElem?_cons_zero, List.getElem?_cons_succ] at e0 e1 e2 e3 e4
      have f0 := RA.r.frozen 0
      have f1 := RA.r.frozen 1
      have f2 := RA.r.frozen 2
      have f3 := RA.r.frozen 3
      have f4 := RA.r.frozen 4
      show wpList _ _ _ [_] _ _
      go_wp2
      have hn1 : w.heap.size ≠ w.heap.size + 1 := by omega
      have hn2 : gq ≠ w.heap.size + 1 := by omega
      refine ⟨hold_of (S0 := fun W => Blk W w.heap.size 26 [.int .i64 F.dp, .int .i64 F.nx, .slice z1 F.bl.length j1, .slice z3 F.ca.length j3, .slice z4 F.qu.length j4] ∧ Blk W gq 39 [.int .i64 Q.1, .int .i64 Q.2.1, .int .i64 Q.2.2.1, .slice y5 Q.2.2.2.length j5]) ⟨far5B hW.1 hn1 _ _ _ _ _, far5B hW.2 hn2 _ _ _ _ _⟩, ?_⟩
      show wpQuiet _ _ _ _ [_] _
      repeat (go_big_quiet_step (fail))
      refine wpQuiet_nil ?_
      refine NoPanic.normal ?_
      clear e0 e1 e2 e3 e4 f0 f1 f2 f3 f4 hW
      go_wp2
      refine bodyPost_ret (results_cell_one rfl _ _ (w.heap.size + 1) _ _ _ _ _ _ rfl (set5 RA.r _ _ _ _ _) rfl) rfl ⟨_, F, rfl, ((OA.weaken (by omega)).dev5 RA.r _ _ _ _ _).own _ _, pF, HCA.out, HQU.out, below5 RA.b (by omega) _ _ _ _ _⟩
    | succ gg =>
      have hi4 : i < 4 := by omega
      have HG := Lib.hid hg
      clear hg
      by_cases hq0 : d.qu.length = 0
      · have t0 : ((d.qu.length : Int) == 0) = true := by rw [hq0]; rfl
        have HQ0 := Lib.hid hq0
        clear hq hq0
        have d0 := R1.x.cell 0
        have d1 := R1.x.cell 1
        have d2 := R1.x.cell 2
        have d3 := R1.x.cell 3
        have d4 := R1.x.cell 4
        simp only [List.getElem?_cons_zero, List.getElem?_cons_succ] at d0 d1 d2 d3 d4
        have df0 := R1.x.frozen 0
        have df1 := R1.x.frozen 1
        have df2 := R1.x.frozen 2
        have df3 := R1.x.frozen 3
        have df4 := R1.x.frozen 4
        obtain ⟨E, id, F, Q, e1, pE, e2, pF, hk, hl, hca, hqu⟩ := drain_spec hP hn (List.eq_nil_of_length_eq_zero HQ0.out)
        have HK := Lib.hid hk; have HCA := Lib.hid hca; have HQU := Lib.hid hqu
        clear hk hca hqu hl
        go_wp2_with fail
        refine (submit_d R1.v (pd_few hP) 3 0 (SlV.nil _).rbv (by simp)).mono ?_
        rintro e w5 ⟨v, rfl, hO, b5⟩
        rw [e1] at hO ⊢
        obtain ⟨VB, VC, VQ, y1, m1, y3, m3, y4, m4, rfl, rfl, rfl, rfl, r1, r2, r3⟩ := hO.cells
        dsimp only at r1 r2 r3 ⊢
        have R5 := R1.below b5
        have R6 := R5.store ⟨r1, r2, r3⟩
        clear R1 hO b5 d0 d1 d2 d3 d4 df0 df1 df2 df3 df4 HQ0
        have d0 := R5.x.cell 0
        have d1 := R5.x.cell 1
        have d2 := R5.x.cell 2
        have d3 := R5.x.cell 3
        have d4 := R5.x.cell 4
        simp only [List.getElem?_cons_zero, List.getElem?_cons_succ] at d0 d1 d2 d3 d4
        have df0 := R5.x.frozen 0
        have df1 := R5.x.frozen 1
        have df2 := R5.x.frozen 2
        have df3 := R5.x.frozen 3
        have df4 := R5.x.frozen 4
        go_upto_region 10 with fail
        obtain ⟨w6, hw6⟩ : ∃ W, W = ((((w5.setCell ⟨w.heap.size, 0, none⟩ (.int .i64 E.dp)).setCell ⟨w.heap.size, 1, none⟩ (.int .i64 E.nx)).setCell ⟨w.heap.size, 2, none⟩ (.slice y1 E.bl.length m1)).setCell ⟨w.heap.size, 3, none⟩ (.slice y3 E.ca.length m3)).setCell ⟨w.heap.size, 4, none⟩ (.slice y4 E.qu.length m4) := ⟨_, rfl⟩
        rw [← hw6] at R6 ⊢
        clear hw6 r1 r2 r3 R5 d0 d1 d2 d3 d4 df0 df1 df2 df3 df4
        have d0 := R6.x.cell 0
        have d1 := R6.x.cell 1
        have d2 := R6.x.cell 2
        have d3 := R6.x.cell 3
        have d4 := R6.x.cell 4
        simp only [List.getElem?_cons_zero, List.getElem?_cons_succ] at d0 d1 d2 d3 d4
        go_wp2_with fail
        refine (complete_d R6.v (pd_few pE) 0 true).mono ?_
        rintro e w7 ⟨v, vq, rfl, hO, hQ, b7⟩
        rw [e2] at hO hQ ⊢
        obtain ⟨VB, VC, VQ, z1, j1, z3, j3, z4, j4, rfl, rfl, rfl, rfl, r1, r2, r3⟩ := hO.cells
        obtain ⟨sv, rfl, hsv⟩ := hQ
        obtain ⟨y5, j5, rfl, _, _, _, _⟩ := hsv.form rfl
        dsimp only at r1 r2 r3 ⊢
        have hB6 : w.heap.size + 1 < w6.heap.size := by have := R6.r.lt; exact this
        have hB7 : w.heap.size + 1 < w7.heap.size := by have := (R6.below b7).r.lt; exact this
        have hq7 := below_q (W := w7) (zs := #[.int .i64 0, .int .i64 0, .int .i64 0, .slice none 0 0]) (t := 39) (.int .i64 Q.1) (.int .i64 Q.2.1) (.int .i64 Q.2.2.1) (.slice y5 Q.2.2.2.length j5)
        have hQ8 := set4 (Blk.new w7 39 #[.int .i64 0, .int .i64 0, .int .i64 0, .slice none 0 0] _ rfl) (.int .i64 Q.1) (.int .i64 Q.2.1) (.int .i64 Q.2.2.1) (.slice y5 Q.2.2.2.length j5)
        obtain ⟨w8, hw8⟩ : ∃ W, W = ((((w7.alloc (.cells #[.int .i64 0, .int .i64 0, .int .i64 0, .slice none 0 0] 39)).setCell ⟨w7.heap.size, 0, none⟩ (.int .i64 Q.1)).setCell ⟨w7.heap.size, 1, none⟩ (.int .i64 Q.2.1)).setCell ⟨w7.heap.size, 2, none⟩ (.int .i64 Q.2.2.1)).setCell ⟨w7.heap.size, 3, none⟩ (.slice y5 Q.2.2.2.length j5) := ⟨_, rfl⟩
        rw [← hw8] at hq7 hQ8
        have R7 := R6.below b7
        have R8 := R7.below hq7
        have r8 := (show Rows3 w7 _ _ _ _ F.bl F.ca F.qu from ⟨r1, r2, r3⟩).below hq7
        have R9 := R8.store r8
        have O9 := r8.dev5 R8.x (.int .i64 F.dp) (.int .i64 F.nx) (.slice z1 F.bl.length j1) (.slice z3 F.ca.length j3) (.slice z4 F.qu.length j4)
        have Q9 := far5B hQ8 (show w7.heap.size ≠ w.heap.size by omega) (.int .i64 F.dp) (.int .i64 F.nx) (.slice z1 F.bl.length j1) (.slice z3 F.ca.length j3) (.slice z4 F.qu.length j4)
        obtain ⟨gq, hgq⟩ : ∃ g, w7.heap.size = g := ⟨_, rfl⟩
        rw [hgq] at Q9 hB7 hw8
        have hne : w.heap.size ≠ gq := by omega
        have hsw : ((((((((((w7.alloc (.cells #[.int .i64 0, .int .i64 0, .int .i64 0, .slice none 0 0] 39)).setCell ⟨w.heap.size, 0, none⟩ (.int .i64 F.dp)).setCell ⟨w.heap.size, 1, none⟩ (.int .i64 F.nx)).setCell ⟨w.heap.size, 2, none⟩ (.slice z1 F.bl.length j1)).setCell ⟨w.heap.size, 3, none⟩ (.slice z3 F.ca.length j3)).setCell ⟨w.heap.size, 4, none⟩ (.slice z4 F.qu.length j4)).setCell ⟨gq, 0, none⟩ (.int .i64 Q.1)).setCell ⟨gq, 1, none⟩ (.int .i64 Q.2.1)).setCell ⟨gq, 2, none⟩ (.int .i64 Q.2.2.1)).setCell ⟨gq, 3, none⟩ (.slice y5 Q.2.2.2.length j5)) = (((((w8.setCell ⟨w.heap.size, 0, none⟩ (.int .i64 F.dp)).setCell ⟨w.heap.size, 1, none⟩ (.int .i64 F.nx)).setCell ⟨w.heap.size, 2, none⟩ (.slice z1 F.bl.length j1)).setCell ⟨w.heap.size, 3, none⟩ (.slice z3 F.ca.length j3)).setCell ⟨w.heap.size, 4, none⟩ (.slice z4 F.qu.length j4)) := by
          rw [swap5 (b := ⟨gq, 0, none⟩) hne, swap5 (b := ⟨gq, 1, none⟩) hne, swap5 (b := ⟨gq, 2, none⟩) hne, swap5 (b := ⟨gq, 3, none⟩) hne, hw8]
        have HSW := Lib.hid hsw
        clear hsw hw8
        have hx8 := R7.x.later (below_box w7 (.cells #[.int .i64 0, .int .i64 0, .int .i64 0, .slice none 0 0] 39))
        have hq8 := Blk.new w7 39 #[.int .i64 0, .int .i64 0, .int .i64 0, .slice none 0 0] [.int .i64 0, .int .i64 0, .int .i64 0, .slice none 0 0] rfl
        rw [hgq] at hq8
        clear r1 r2 r3 hO hsv b7 hq7 hQ8 R7 R8 r8 R6 d0 d1 d2 d3 d4
        have d0 := hx8.cell 0
        have d1 := hx8.cell 1
        have d2 := hx8.cell 2
        have d3 := hx8.cell 3
        have d4 := hx8.cell 4
        simp only [List.getElem?_cons_zero, List.getElem?_cons_succ] at d0 d1 d2 d3 d4
        have df0 := hx8.frozen 0
        have df1 := hx8.frozen 1
        have df2 := hx8.frozen 2
        have df3 := hx8.frozen 3
        have df4 := hx8.frozen 4
        go_upto_region 13 with fail
        rw [HSW.out]
        clear HSW hx8 hq8 d0 d1 d2 d3 d4 df0 df1 df2 df3 df4
        obtain ⟨w9, hw9⟩ : ∃ W, W = (((((w8.setCell ⟨w.heap.size, 0, none⟩ (.int .i64 F.dp)).setCell ⟨w.heap.size, 1, none⟩ (.int .i64 F.nx)).setCell ⟨w.heap.size, 2, none⟩ (.slice z1 F.bl.length j1)).setCell ⟨w.heap.size, 3, none⟩ (.slice z3 F.ca.length j3)).setCell ⟨w.heap.size, 4, none⟩ (.slice z4 F.qu.length j4)) := ⟨_, rfl⟩
        rw [← hw9] at R9 O9 Q9 ⊢
        clear hw9
        refine wp_region_plan (fun W => Blk W w.heap.size 26 [.int .i64 F.dp, .int .i64 F.nx, .slice z1 F.bl.length j1, .slice z3 F.ca.length j3, .slice z4 F.qu.length j4] ∧ Blk W gq 39 [.int .i64 Q.1, .int .i64 Q.2.1, .int .i64 Q.2.2.1, .slice y5 Q.2.2.2.length j5]) (.quiet [0, 1, 2, 3, 4, 5, 6, 7] (.only 8 (.quiet [9] .done))) 99 (by kernel_rfl) (by kernel_rfl) ⟨R9.x.later (Below.refl _ _).drew, Q9.later (Below.refl _ _).drew⟩ ?_
        intro W hW hWe
        have RA : DR w (.slice z1 F.bl.length j1) (.slice z3 F.ca.length j3) (.slice z4 F.qu.length j4) F W := by rw [hWe]; exact R9.below (Below.refl _ _).drew
        have OA : Rows3 W w6.heap.size (.slice z1 F.bl.length j1) (.slice z3 F.ca.length j3) (.slice z4 F.qu.length j4) F.bl F.ca F.qu := by rw [hWe]; exact O9.below (Below.refl _ _).drew
        clear hWe R9 O9 Q9
        simp only [wpPlan, inOrder, List.filterMap_cons, List.filterMap_nil, List.getElem?_cons_zero, List.getElem?_cons_succ]
        have d0 := fun z => (hold_ok (S0 := fun W => Blk W w.heap.size 26 [.int .i64 F.dp, .int .i64 F.nx, .slice z1 F.bl.length j1, .slice z3 F.ca.length j3, .slice z4 F.qu.length j4] ∧ Blk W gq 39 [.int .i64 Q.1, .int .i64 Q.2.1, .int .i64 Q.2.2.1, .slice y5 Q.2.2.2.length j5]) hW z).1.cell 0
        have d1 := fun z => (hold_ok (S0 := fun W => Blk W w.heap.size 26 [.int .i64 F.dp, .int .i64 F.nx, .slice z1 F.bl.length j1, .slice z3 F.ca.length j3, .slice z4 F.qu.length j4] ∧ Blk W gq 39 [.int .i64 Q.1, .int .i64 Q.2.1, .int .i64 Q.2.2.1, .slice y5 Q.2.2.2.length j5]) hW z).1.cell 1
        have d2 := fun z => (hold_ok (S0 := fun W => Blk W w.heap.size 26 [.int .i64 F.dp, .int .i64 F.nx, .slice z1 F.bl.length j1, .slice z3 F.ca.length j3, .slice z4 F.qu.length j4] ∧ Blk W gq 39 [.int .i64 Q.1, .int .i64 Q.2.1, .int .i64 Q.2.2.1, .slice y5 Q.2.2.2.length j5]) hW z).1.cell 2
        have d3 := fun z => (hold_ok (S0 := fun W => Blk W w.heap.size 26 [.int .i64 F.dp, .int .i64 F.nx, .slice z1 F.bl.length j1, .slice z3 F.ca.length j3, .slice z4 F.qu.length j4] ∧ Blk W gq 39 [.int .i64 Q.1, .int .i64 Q.2.1, .int .i64 Q.2.2.1, .slice y5 Q.2.2.2.length j5]) hW z).1.cell 3
        have d4 := fun z => (hold_ok (S0 := fun W => Blk W w.heap.size 26 [.int .i64 F.dp, .int .i64 F.nx, .slice z1 F.bl.length j1, .slice z3 F.ca.length j3, .slice z4 F.qu.length j4] ∧ Blk W gq 39 [.int .i64 Q.1, .int .i64 Q.2.1, .int .i64 Q.2.2.1, .slice y5 Q.2.2.2.length j5]) hW z).1.cell 4
        have q1 := fun z => (hold_ok (S0 := fun W => Blk W w.heap.size 26 [.int .i64 F.dp, .int .i64 F.nx, .slice z1 F.bl.length j1, .slice z3 F.ca.length j3, .slice z4 F.qu.length j4] ∧ Blk W gq 39 [.int .i64 Q.1, .int .i64 Q.2.1, .int .i64 Q.2.2.1, .slice y5 Q.2.2.2.length j5]) hW z).2.cell 1
        simp only [List.getElem?_cons_zero, List.getElem?_cons_succ] at d0 d1 d2 d3 d4 q1
        have tq : (Q.2.1 == 3) = true := by rw [HK.out]; rfl
        show wpQuiet _ _ _ _ (_ :: _ :: _ :: _ :: _ :: _ :: _ :: [_]) _
        repeat (go_big_quiet_step (fail))
        refine wpQuiet_nil ?_
        clear d0 d1 d2 d3 d4 q1 tq
        have e0 := RA.r.cell 0
        have e1 := RA.r.cell 1
        have e2 := RA.r.cell 2
        have e3 := RA.r.cell 3
        have e4 := RA.r.cell 4
        simp only [zD, List.getElem?_cons_zero, List.getElem?_cons_succ] at e0 e1 e2 e3 e4
        have f0 := RA.r.frozen 0
        have f1 := RA.r.frozen 1
        have f2 := RA.r.frozen 2
        have f3 := RA.r.frozen 3
        have f4 := RA.r.frozen 4
        show wpList _ _ _ [_] _ _
        go_wp2
        have hn1 : w.heap.size ≠ w.heap.size + 1 := by omega
        have hn2 : gq ≠ w.heap.size + 1 := by omega
        refine ⟨hold_of (S0 := fun W => Blk W w.heap.size 26 [.int .i64 F.dp, .int .i64 F.nx, .slice z1 F.bl.length j1, .slice z3 F.ca.length j3, .slice z4 F.qu.length j4] ∧ Blk W gq 39 [.int .i64 Q.1, .int .i64 Q.2.1, .int .i64 Q.2.2.1, .slice y5 Q.2.2.2.length j5]) ⟨far5B hW.1 hn1 _ _ _ _ _, far5B hW.2 hn2 _ _ _ _ _⟩, ?_⟩
        show wpQuiet _ _ _ _ [_] _
        repeat (go_big_quiet_step (fail))
        refine wpQuiet_nil ?_
        refine NoPanic.normal ?_
        clear e0 e1 e2 e3 e4 f0 f1 f2 f3 f4 hW
        go_wp2
        refine bodyPost_ret (results_cell_one rfl _ _ (w.heap.size + 1) _ _ _ _ _ _ rfl (set5 RA.r _ _ _ _ _) rfl) rfl ⟨_, F, rfl, ((OA.weaken (by omega)).dev5 RA.r _ _ _ _ _).own _ _, pF, HCA.out, HQU.out, below5 RA.b (by omega) _ _ _ _ _⟩
      · have t0 : ((d.qu.length : Int) == 0) = false := by rw [beq_eq_false_iff_ne]; omega
        obtain ⟨C, Q, e1, pC, hCq, hQl⟩ := pd_cmp hP (show 0 < d.qu.length by omega) true
        have HCQ := Lib.hid (show C.qu.length ≤ gg by rw [hCq, List.length_eraseIdx, if_pos (by omega)]; omega)
        clear hq hq0 hCq
        have d0 := R1.x.cell 0
        have d1 := R1.x.cell 1
        have d2 := R1.x.cell 2
        have d3 := R1.x.cell 3
        have d4 := R1.x.cell 4
        simp only [List.getElem?_cons_zero, List.getElem?_cons_succ] at d0 d1 d2 d3 d4
        have df0 := R1.x.frozen 0
        have df1 := R1.x.frozen 1
        have df2 := R1.x.frozen 2
        have df3 := R1.x.frozen 3
        have df4 := R1.x.frozen 4
        go_wp2_with fail
        refine (complete_d R1.v (pd_few hP) 0 true).mono ?_
        rintro e w5 ⟨v, vq, rfl, hO, hQ, b5⟩
        rw [show ((0 : Nat) : Int) = 0 from rfl] at e1
        rw [e1] at hO hQ ⊢
        obtain ⟨VB, VC, VQ, y1, m1, y3, m3, y4, m4, rfl, rfl, rfl, rfl, r1, r2, r3⟩ := hO.cells
        obtain ⟨sv, rfl, hsv⟩ := hQ
        obtain ⟨y5, j5, rfl, _, _, _, _⟩ := hsv.form rfl
        dsimp only at r1 r2 r3 ⊢
        have hbx := below_box w5 (.cells #[.int .i64 C.dp, .int .i64 C.nx, .slice y1 C.bl.length m1, .slice y3 C.ca.length m3, .slice y4 C.qu.length m4] 26)
        have hby := below_box (w5.alloc (.cells #[.int .i64 C.dp, .int .i64 C.nx, .slice y1 C.bl.length m1, .slice y3 C.ca.length m3, .slice y4 C.qu.length m4] 26)) (.cells #[.int .i64 Q.1, .int .i64 Q.2.1, .int .i64 Q.2.2.1, .slice y5 Q.2.2.2.length j5] 39)
        have hC := (Blk.new w5 26 #[.int .i64 C.dp, .int .i64 C.nx, .slice y1 C.bl.length m1, .slice y3 C.ca.length m3, .slice y4 C.qu.length m4] _ rfl).later hby
        have R6 := (R1.below b5).below (below_then hbx hby)
        have r6 := (show Rows3 w5 _ _ _ _ C.bl C.ca C.qu from ⟨r1, r2, r3⟩).below (below_then hbx hby)
        clear r1 r2 r3 hO hsv b5 hbx hby R1 d0 d1 d2 d3 d4 df0 df1 df2 df3 df4 t0
        go_upto_region 5 with fail
        obtain ⟨w6, hw6⟩ : ∃ W, W = (w5.alloc (.cells #[.int .i64 C.dp, .int .i64 C.nx, .slice y1 C.bl.length m1, .slice y3 C.ca.length m3, .slice y4 C.qu.length m4] 26)).alloc (.cells #[.int .i64 Q.1, .int .i64 Q.2.1, .int .i64 Q.2.2.1, .slice y5 Q.2.2.2.length j5] 39) := ⟨_, rfl⟩
        rw [← hw6] at hC R6 r6 ⊢
        clear hw6
        have R7 := R6.store r6
        have d0 := R6.x.cell 0
        have d1 := R6.x.cell 1
        have d2 := R6.x.cell 2
        have d3 := R6.x.cell 3
        have d4 := R6.x.cell 4
        simp only [List.getElem?_cons_zero, List.getElem?_cons_succ] at d0 d1 d2 d3 d4
        have df0 := R6.x.frozen 0
        have df1 := R6.x.frozen 1
        have df2 := R6.x.frozen 2
        have df3 := R6.x.frozen 3
        have df4 := R6.x.frozen 4
        have c0 := hC.cell 0
        have c1 := hC.cell 1
        have c2 := hC.cell 2
        have c3 := hC.cell 3
        have c4 := hC.cell 4
        simp only [List.getElem?_cons_zero, List.getElem?_cons_succ] at c0 c1 c2 c3 c4
        clear R6 r6 hC
        go_wp2
        go_roundg gg
        case rel => exact ⟨i + 1, y1, y3, y4, m1, m3, m4, C, by have := HG.out; omega, by go_num, pC, HCQ.out, R7⟩
        case measure => omega
end Go.Proofs.Ytlhbjmoncdljoaa
