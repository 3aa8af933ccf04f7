/- The walk of the law on requests that fail. -/
import Derived.Test.YtlhbjmoncdljoaaE3
import Derived.Test.YtlhbjmoncdljoaaP7
namespace Go.Proofs.Ytlhbjmoncdljoaa
open Go.RowKit Go.Over Go.Dev Go.Seg Go.Grow
theorem modc {d : D} {n : Nat} (h : PD d n) (i : Int) : (contD d i).length ≤ 1000000 := by have := (mod_ok h.ok i).1; omega
theorem modd {d : D} {n : Nat} (h : PD d n) (i : Int) : (durD d i).length ≤ 1000000 := by have := (mod_ok h.ok i).2; omega
theorem DS.rqs {w W : World} {g k : Nat} {VB VC : Value} {x : Option Addr} {d : D} (h : DS w g VB VC (.slice x d.qu.length k) d W) : Rqs W x d.qu := by
  obtain ⟨a3, c3, e3, _, _, _, g3⟩ := h.r.q.rqs rfl
  cases e3
  exact g3
/-- The four rounds of the law on failures. -/
structure FS (w : World) (gd gc gq : Nat) (DB DC DQ VB VC VQ y : Value) (d C : D) (Q : Rq) (W : World) : Prop where
  d : DS w gd DB DC DQ d W
  c : DS w gc VB VC VQ C W
  q : Blk W gq 39 [.int .i64 Q.1, .int .i64 Q.2.1, .int .i64 Q.2.2.1, y]
  v : SlV W y Q.2.2.2
theorem FS.below {w W W' : World} {gd gc gq : Nat} {DB DC DQ VB VC VQ y : Value} {d C : D} {Q : Rq} (h : FS w gd gc gq DB DC DQ VB VC VQ y d C Q W) (hb : Below W.heap.size W W') : FS w gd gc gq DB DC DQ VB VC VQ y d C Q W' :=
  ⟨h.d.below hb, h.c.below hb, h.q.later hb, h.v.k5 (K5.below hb)⟩
set_option maxRecDepth 100000 in set_option maxHeartbeats 8000000 in
theorem law_fails (a : Option Addr) (l : List (Int × Int × Int × Int)) (n c : Nat) (x : Int) (hx0 : 0 ≤ x) (w : World) (H : ActsAt w a l) (hn : l.length = n) :
    Calls Try.prog 10 #[.slice a n c, .int .u8 x] w fun e w' => e = .returned (.bool true) ∧ Below w.heap.size w w' := by
  have HN := Lib.hid hn
  clear hn
  go_enter Try.func10, Try.ntmps10
  go_wp2_with fail
  refine (awake_11 _).mono ?_
  rintro e w1 ⟨rfl, b1⟩
  by_cases h40 : 40 < n
  · have t0 : decide ((40 : Int) < (n : Int)) = true := by simp; omega
    go_wp2_with fail
    refine (awake_11 _).mono ?_
    rintro e w4 ⟨rfl, b4⟩
    go_wp2
    go_ret
    exact ⟨rfl, below_then b1 b4⟩
  have t0 : decide ((40 : Int) < (n : Int)) = false := by simp; omega
  have hle : n ≤ 40 := by omega
  clear h40
  go_wp2_with fail
  refine (play_32 a l n c _ (H.below b1) HN.out hle).mono ?_
  rintro e w2 ⟨v, d, rfl, hO, hP, b2⟩
  obtain ⟨VB, VC, VQ, x1, k1, x3, k3, x4, k4, rfl, rfl, rfl, rfl, r1, r2, r3⟩ := hO.cells
  dsimp only at r1 r2 r3 ⊢
  have S3 : DS w w2.heap.size (.slice x1 d.bl.length k1) (.slice x3 d.ca.length k3) (.slice x4 d.qu.length k4) d _ := DS.new ⟨r1, r2, r3⟩ b1.size (below_then b1 b2)
  obtain ⟨gd, hgd⟩ : ∃ g, w2.heap.size = g := ⟨_, rfl⟩
  clear r1 r2 r3 hO b1 b2 t0
  go_upto_region 4 with fail
  obtain ⟨w3, hw3⟩ : ∃ W, W = w2.alloc (.cells #[.int .i64 d.dp, .int .i64 d.nx, .slice x1 d.bl.length k1, .slice x3 d.ca.length k3, .slice x4 d.qu.length k4] 26) := ⟨_, rfl⟩
  rw [← hw3] at S3 ⊢
  rw [hgd] at S3
  clear hw3 hgd
  obtain ⟨pn, hpn, hpm⟩ := u8_mod hx0
  have d0 := S3.x.cell 0
  have d1 := S3.x.cell 1
  have d2 := S3.x.cell 2
  have d3 := S3.x.cell 3
  have d4 := S3.x.cell 4
  simp only [List.getElem?_cons_zero, List.getElem?_cons_succ] at d0 d1 d2 d3 d4
  by_cases hq : d.qu.length ≤ pn
  · have t1 : decide ((d.qu.length : Int) ≤ (pn : Int)) = true := by simp; omega
    go_wp2_with fail
    refine (complete_d S3.rdv (pd_few hP) pn false).mono ?_
    rintro e w5 ⟨v, vq, rfl, hO, hQ, b5⟩
    rw [pd_range hP hq false] at hO hQ ⊢
    obtain ⟨VB, VC, VQ, y1, m1, y3, m3, y4, m4, rfl, rfl, rfl, rfl, r1, r2, r3⟩ := hO.cells
    obtain ⟨sv, rfl, hsv⟩ := hQ
    obtain ⟨y5, j5, rfl, _, _, _, _⟩ := hsv.form rfl
    dsimp only
    go_wp2
    go_ret
    exact ⟨rfl, below_then (below_then S3.b b5) (below_then (below_box _ _) (below_box _ _))⟩
  have t1 : decide ((d.qu.length : Int) ≤ (pn : Int)) = false := by simp; omega
  have hql : pn < d.qu.length := by omega
  obtain ⟨C, Q, A, e1, e2, pC, hc, hd, hl, e3, hlA, pA, hQl⟩ := fails_spec hP hle hql
  have q4 := hP.q4
  have HLA := Lib.hid hlA
  have HCC := Lib.hid hc; have HDD := Lib.hid hd
  clear hlA hc hd
  go_wp2_with fail
  refine (complete_d S3.rdv (pd_few hP) pn false).mono ?_
  rintro e w5 ⟨v, vq, rfl, hO, hQ, b5⟩
  rw [e1] at hO hQ ⊢
  obtain ⟨VB, VC, VQ, y1, m1, y3, m3, y4, m4, rfl, rfl, rfl, rfl, r1, r2, r3⟩ := hO.cells
  obtain ⟨sv, rfl, hsv⟩ := hQ
  obtain ⟨y5, j5, rfl, _, _, _, _⟩ := hsv.form rfl
  dsimp only at r1 r2 r3 ⊢
  have hbx := below_box w5 (.cells #[.int .i64 C.dp, .int .i64 C.nx, .slice y1 C.bl.length m1, .slice y3 C.ca.length m3, .slice y4 C.qu.length m4] 26)
  have hby := below_box (w5.alloc (.cells #[.int .i64 C.dp, .int .i64 C.nx, .slice y1 C.bl.length m1, .slice y3 C.ca.length m3, .slice y4 C.qu.length m4] 26)) (.cells #[.int .i64 Q.1, .int .i64 Q.2.1, .int .i64 Q.2.2.1, .slice y5 Q.2.2.2.length j5] 39)
  have F5 : FS w gd w5.heap.size (w5.heap.size + 1) (.slice x1 d.bl.length k1) (.slice x3 d.ca.length k3) (.slice x4 d.qu.length k4) (.slice y1 C.bl.length m1) (.slice y3 C.ca.length m3) (.slice y4 C.qu.length m4) (.slice y5 Q.2.2.2.length j5) d C Q ((w5.alloc (.cells #[.int .i64 C.dp, .int .i64 C.nx, .slice y1 C.bl.length m1, .slice y3 C.ca.length m3, .slice y4 C.qu.length m4] 26)).alloc (.cells #[.int .i64 Q.1, .int .i64 Q.2.1, .int .i64 Q.2.2.1, .slice y5 Q.2.2.2.length j5] 39)) := by
    refine ⟨((S3.below b5).below hbx).below hby, (DS.new ⟨r1, r2, r3⟩ S3.b.size (below_then S3.b b5)).below hby, ?_, (hsv.k5 (K5.below hbx)).k5 (K5.below hby)⟩
    have := Blk.new (w5.alloc (.cells #[.int .i64 C.dp, .int .i64 C.nx, .slice y1 C.bl.length m1, .slice y3 C.ca.length m3, .slice y4 C.qu.length m4] 26)) 39 #[.int .i64 Q.1, .int .i64 Q.2.1, .int .i64 Q.2.2.1, .slice y5 Q.2.2.2.length j5] [.int .i64 Q.1, .int .i64 Q.2.1, .int .i64 Q.2.2.1, .slice y5 Q.2.2.2.length j5] rfl
    rwa [show (w5.alloc (.cells #[.int .i64 C.dp, .int .i64 C.nx, .slice y1 C.bl.length m1, .slice y3 C.ca.length m3, .slice y4 C.qu.length m4] 26)).heap.size = w5.heap.size + 1 by simp] at this
  obtain ⟨gc, hgc⟩ : ∃ g, w5.heap.size = g := ⟨_, rfl⟩
  obtain ⟨gq, hgq⟩ : ∃ g, w5.heap.size + 1 = g := ⟨_, rfl⟩
  rw [hgq] at F5
  clear r1 r2 r3 hO hsv b5 hbx hby S3 d0 d1 d2 d3 d4 t1
  go_upto_region 11 with fail
  obtain ⟨w6, hw6⟩ : ∃ W, W = (w5.alloc (.cells #[.int .i64 C.dp, .int .i64 C.nx, .slice y1 C.bl.length m1, .slice y3 C.ca.length m3, .slice y4 C.qu.length m4] 26)).alloc (.cells #[.int .i64 Q.1, .int .i64 Q.2.1, .int .i64 Q.2.2.1, .slice y5 Q.2.2.2.length j5] 39) := ⟨_, rfl⟩
  rw [← hw6] at F5 ⊢
  rw [hgc] at F5 hgq
  clear hw6 hgc
  obtain ⟨b, off, rfl, hrq⟩ := F5.d.rqs (by omega)
  obtain ⟨h1, h2, h3, a', c', h4, g1, g2, g3, g4⟩ := hrq pn Q e2
  have t1 : ((C.qu.length : Int) != (d.qu.length : Int) - 1) = false := by
    rw [show (C.qu.length : Int) = (d.qu.length : Int) - 1 by omega]; simp
  refine wp_region_plan (fun W => Blk W gd 26 [.int .i64 d.dp, .int .i64 d.nx, .slice x1 d.bl.length k1, .slice x3 d.ca.length k3, .slice (some ⟨b, off, none⟩) d.qu.length k4] ∧ Blk W gc 26 [.int .i64 C.dp, .int .i64 C.nx, .slice y1 C.bl.length m1, .slice y3 C.ca.length m3, .slice y4 C.qu.length m4] ∧ Blk W gq 39 [.int .i64 Q.1, .int .i64 Q.2.1, .int .i64 Q.2.2.1, .slice y5 Q.2.2.2.length j5] ∧ W.cell? ⟨b, off + pn * 4, none⟩ = some (.int .i64 Q.1) ∧ W.cell? ⟨b, off + pn * 4 + 1, none⟩ = some (.int .i64 Q.2.1) ∧ W.cell? ⟨b, off + pn * 4 + 2, none⟩ = some (.int .i64 Q.2.2.1) ∧ W.cell? ⟨b, off + pn * 4 + 3, none⟩ = some (.slice a' Q.2.2.2.length c')) (.quiet [0, 1, 2, 3, 4, 5, 6, 7, 8, 9, 10, 11, 12, 13, 14, 15, 16, 17, 18] (.only 19 (.quiet [20, 21] .done))) 99 (by kernel_rfl) (by kernel_rfl) ⟨F5.d.x.later (Below.refl _ _).drew, F5.c.x.later (Below.refl _ _).drew, F5.q.later (Below.refl _ _).drew, cell_later (Below.refl _ _).drew h1, cell_later (Below.refl _ _).drew h2, cell_later (Below.refl _ _).drew h3, cell_later (Below.refl _ _).drew h4⟩ ?_
  intro W hW hWe
  have F6 : FS w gd gc gq (.slice x1 d.bl.length k1) (.slice x3 d.ca.length k3) (.slice (some ⟨b, off, none⟩) d.qu.length k4) (.slice y1 C.bl.length m1) (.slice y3 C.ca.length m3) (.slice y4 C.qu.length m4) (.slice y5 Q.2.2.2.length j5) d C Q W := by rw [hWe]; exact F5.below (Below.refl _ _).drew
  have G4 : Bt W a' Q.2.2.2 := by rw [hWe]; exact g4.below (Below.refl _ _).drew
  clear hWe F5 hrq h1 h2 h3 h4 g4
  simp only [wpPlan, inOrder, List.filterMap_cons, List.filterMap_nil, List.getElem?_cons_zero, List.getElem?_cons_succ]
  have d4 := fun z => (hold_ok (S0 := fun W => Blk W gd 26 [.int .i64 d.dp, .int .i64 d.nx, .slice x1 d.bl.length k1, .slice x3 d.ca.length k3, .slice (some ⟨b, off, none⟩) d.qu.length k4] ∧ Blk W gc 26 [.int .i64 C.dp, .int .i64 C.nx, .slice y1 C.bl.length m1, .slice y3 C.ca.length m3, .slice y4 C.qu.length m4] ∧ Blk W gq 39 [.int .i64 Q.1, .int .i64 Q.2.1, .int .i64 Q.2.2.1, .slice y5 Q.2.2.2.length j5] ∧ W.cell? ⟨b, off + pn * 4, none⟩ = some (.int .i64 Q.1) ∧ W.cell? ⟨b, off + pn * 4 + 1, none⟩ = some (.int .i64 Q.2.1) ∧ W.cell? ⟨b, off + pn * 4 + 2, none⟩ = some (.int .i64 Q.2.2.1) ∧ W.cell? ⟨b, off + pn * 4 + 3, none⟩ = some (.slice a' Q.2.2.2.length c')) hW z).1.cell 4
  have c4 := fun z => (hold_ok (S0 := fun W => Blk W gd 26 [.int .i64 d.dp, .int .i64 d.nx, .slice x1 d.bl.length k1, .slice x3 d.ca.length k3, .slice (some ⟨b, off, none⟩) d.qu.length k4] ∧ Blk W gc 26 [.int .i64 C.dp, .int .i64 C.nx, .slice y1 C.bl.length m1, .slice y3 C.ca.length m3, .slice y4 C.qu.length m4] ∧ Blk W gq 39 [.int .i64 Q.1, .int .i64 Q.2.1, .int .i64 Q.2.2.1, .slice y5 Q.2.2.2.length j5] ∧ W.cell? ⟨b, off + pn * 4, none⟩ = some (.int .i64 Q.1) ∧ W.cell? ⟨b, off + pn * 4 + 1, none⟩ = some (.int .i64 Q.2.1) ∧ W.cell? ⟨b, off + pn * 4 + 2, none⟩ = some (.int .i64 Q.2.2.1) ∧ W.cell? ⟨b, off + pn * 4 + 3, none⟩ = some (.slice a' Q.2.2.2.length c')) hW z).2.1.cell 4
  have z0 := fun z => (hold_ok (S0 := fun W => Blk W gd 26 [.int .i64 d.dp, .int .i64 d.nx, .slice x1 d.bl.length k1, .slice x3 d.ca.length k3, .slice (some ⟨b, off, none⟩) d.qu.length k4] ∧ Blk W gc 26 [.int .i64 C.dp, .int .i64 C.nx, .slice y1 C.bl.length m1, .slice y3 C.ca.length m3, .slice y4 C.qu.length m4] ∧ Blk W gq 39 [.int .i64 Q.1, .int .i64 Q.2.1, .int .i64 Q.2.2.1, .slice y5 Q.2.2.2.length j5] ∧ W.cell? ⟨b, off + pn * 4, none⟩ = some (.int .i64 Q.1) ∧ W.cell? ⟨b, off + pn * 4 + 1, none⟩ = some (.int .i64 Q.2.1) ∧ W.cell? ⟨b, off + pn * 4 + 2, none⟩ = some (.int .i64 Q.2.2.1) ∧ W.cell? ⟨b, off + pn * 4 + 3, none⟩ = some (.slice a' Q.2.2.2.length c')) hW z).2.2.1.cell 0
  have z1 := fun z => (hold_ok (S0 := fun W => Blk W gd 26 [.int .i64 d.dp, .int .i64 d.nx, .slice x1 d.bl.length k1, .slice x3 d.ca.length k3, .slice (some ⟨b, off, none⟩) d.qu.length k4] ∧ Blk W gc 26 [.int .i64 C.dp, .int .i64 C.nx, .slice y1 C.bl.length m1, .slice y3 C.ca.length m3, .slice y4 C.qu.length m4] ∧ Blk W gq 39 [.int .i64 Q.1, .int .i64 Q.2.1, .int .i64 Q.2.2.1, .slice y5 Q.2.2.2.length j5] ∧ W.cell? ⟨b, off + pn * 4, none⟩ = some (.int .i64 Q.1) ∧ W.cell? ⟨b, off + pn * 4 + 1, none⟩ = some (.int .i64 Q.2.1) ∧ W.cell? ⟨b, off + pn * 4 + 2, none⟩ = some (.int .i64 Q.2.2.1) ∧ W.cell? ⟨b, off + pn * 4 + 3, none⟩ = some (.slice a' Q.2.2.2.length c')) hW z).2.2.1.cell 1
  have z2 := fun z => (hold_ok (S0 := fun W => Blk W gd 26 [.int .i64 d.dp, .int .i64 d.nx, .slice x1 d.bl.length k1, .slice x3 d.ca.length k3, .slice (some ⟨b, off, none⟩) d.qu.length k4] ∧ Blk W gc 26 [.int .i64 C.dp, .int .i64 C.nx, .slice y1 C.bl.length m1, .slice y3 C.ca.length m3, .slice y4 C.qu.length m4] ∧ Blk W gq 39 [.int .i64 Q.1, .int .i64 Q.2.1, .int .i64 Q.2.2.1, .slice y5 Q.2.2.2.length j5] ∧ W.cell? ⟨b, off + pn * 4, none⟩ = some (.int .i64 Q.1) ∧ W.cell? ⟨b, off + pn * 4 + 1, none⟩ = some (.int .i64 Q.2.1) ∧ W.cell? ⟨b, off + pn * 4 + 2, none⟩ = some (.int .i64 Q.2.2.1) ∧ W.cell? ⟨b, off + pn * 4 + 3, none⟩ = some (.slice a' Q.2.2.2.length c')) hW z).2.2.1.cell 2
  have z3 := fun z => (hold_ok (S0 := fun W => Blk W gd 26 [.int .i64 d.dp, .int .i64 d.nx, .slice x1 d.bl.length k1, .slice x3 d.ca.length k3, .slice (some ⟨b, off, none⟩) d.qu.length k4] ∧ Blk W gc 26 [.int .i64 C.dp, .int .i64 C.nx, .slice y1 C.bl.length m1, .slice y3 C.ca.length m3, .slice y4 C.qu.length m4] ∧ Blk W gq 39 [.int .i64 Q.1, .int .i64 Q.2.1, .int .i64 Q.2.2.1, .slice y5 Q.2.2.2.length j5] ∧ W.cell? ⟨b, off + pn * 4, none⟩ = some (.int .i64 Q.1) ∧ W.cell? ⟨b, off + pn * 4 + 1, none⟩ = some (.int .i64 Q.2.1) ∧ W.cell? ⟨b, off + pn * 4 + 2, none⟩ = some (.int .i64 Q.2.2.1) ∧ W.cell? ⟨b, off + pn * 4 + 3, none⟩ = some (.slice a' Q.2.2.2.length c')) hW z).2.2.1.cell 3
  have q0 := fun z => (hold_ok (S0 := fun W => Blk W gd 26 [.int .i64 d.dp, .int .i64 d.nx, .slice x1 d.bl.length k1, .slice x3 d.ca.length k3, .slice (some ⟨b, off, none⟩) d.qu.length k4] ∧ Blk W gc 26 [.int .i64 C.dp, .int .i64 C.nx, .slice y1 C.bl.length m1, .slice y3 C.ca.length m3, .slice y4 C.qu.length m4] ∧ Blk W gq 39 [.int .i64 Q.1, .int .i64 Q.2.1, .int .i64 Q.2.2.1, .slice y5 Q.2.2.2.length j5] ∧ W.cell? ⟨b, off + pn * 4, none⟩ = some (.int .i64 Q.1) ∧ W.cell? ⟨b, off + pn * 4 + 1, none⟩ = some (.int .i64 Q.2.1) ∧ W.cell? ⟨b, off + pn * 4 + 2, none⟩ = some (.int .i64 Q.2.2.1) ∧ W.cell? ⟨b, off + pn * 4 + 3, none⟩ = some (.slice a' Q.2.2.2.length c')) hW z).2.2.2.1
  have q1 := fun z => (hold_ok (S0 := fun W => Blk W gd 26 [.int .i64 d.dp, .int .i64 d.nx, .slice x1 d.bl.length k1, .slice x3 d.ca.length k3, .slice (some ⟨b, off, none⟩) d.qu.length k4] ∧ Blk W gc 26 [.int .i64 C.dp, .int .i64 C.nx, .slice y1 C.bl.length m1, .slice y3 C.ca.length m3, .slice y4 C.qu.length m4] ∧ Blk W gq 39 [.int .i64 Q.1, .int .i64 Q.2.1, .int .i64 Q.2.2.1, .slice y5 Q.2.2.2.length j5] ∧ W.cell? ⟨b, off + pn * 4, none⟩ = some (.int .i64 Q.1) ∧ W.cell? ⟨b, off + pn * 4 + 1, none⟩ = some (.int .i64 Q.2.1) ∧ W.cell? ⟨b, off + pn * 4 + 2, none⟩ = some (.int .i64 Q.2.2.1) ∧ W.cell? ⟨b, off + pn * 4 + 3, none⟩ = some (.slice a' Q.2.2.2.length c')) hW z).2.2.2.2.1
  have q2 := fun z => (hold_ok (S0 := fun W => Blk W gd 26 [.int .i64 d.dp, .int .i64 d.nx, .slice x1 d.bl.length k1, .slice x3 d.ca.length k3, .slice (some ⟨b, off, none⟩) d.qu.length k4] ∧ Blk W gc 26 [.int .i64 C.dp, .int .i64 C.nx, .slice y1 C.bl.length m1, .slice y3 C.ca.length m3, .slice y4 C.qu.length m4] ∧ Blk W gq 39 [.int .i64 Q.1, .int .i64 Q.2.1, .int .i64 Q.2.2.1, .slice y5 Q.2.2.2.length j5] ∧ W.cell? ⟨b, off + pn * 4, none⟩ = some (.int .i64 Q.1) ∧ W.cell? ⟨b, off + pn * 4 + 1, none⟩ = some (.int .i64 Q.2.1) ∧ W.cell? ⟨b, off + pn * 4 + 2, none⟩ = some (.int .i64 Q.2.2.1) ∧ W.cell? ⟨b, off + pn * 4 + 3, none⟩ = some (.slice a' Q.2.2.2.length c')) hW z).2.2.2.2.2.1
  have q3 := fun z => (hold_ok (S0 := fun W => Blk W gd 26 [.int .i64 d.dp, .int .i64 d.nx, .slice x1 d.bl.length k1, .slice x3 d.ca.length k3, .slice (some ⟨b, off, none⟩) d.qu.length k4] ∧ Blk W gc 26 [.int .i64 C.dp, .int .i64 C.nx, .slice y1 C.bl.length m1, .slice y3 C.ca.length m3, .slice y4 C.qu.length m4] ∧ Blk W gq 39 [.int .i64 Q.1, .int .i64 Q.2.1, .int .i64 Q.2.2.1, .slice y5 Q.2.2.2.length j5] ∧ W.cell? ⟨b, off + pn * 4, none⟩ = some (.int .i64 Q.1) ∧ W.cell? ⟨b, off + pn * 4 + 1, none⟩ = some (.int .i64 Q.2.1) ∧ W.cell? ⟨b, off + pn * 4 + 2, none⟩ = some (.int .i64 Q.2.2.1) ∧ W.cell? ⟨b, off + pn * 4 + 3, none⟩ = some (.slice a' Q.2.2.2.length c')) hW z).2.2.2.2.2.2
  simp only [List.getElem?_cons_zero, List.getElem?_cons_succ] at d4 c4 z0 z1 z2 z3
  show wpQuiet _ _ _ _ (_ :: _ :: _ :: _ :: _ :: _ :: _ :: _ :: _ :: _ :: _ :: _ :: _ :: _ :: _ :: _ :: _ :: _ :: [_]) _
  repeat (go_big_quiet_step (fail))
  refine wpQuiet_nil ?_
  clear d4 c4 z0 z1 z2 z3 q0 q1 q2 q3
  show wpList _ _ _ [_] _ _
  go_wp2_with fail
  refine (same_q (q := Q) (q' := Q) (OwnQ.rqv ⟨_, rfl, F6.v⟩) (show Rqv _ _ Q from ⟨a', c', rfl, g1, g2, g3, G4⟩) (by omega) (by omega)).mono ?_
  rintro e w7 ⟨rfl, b7⟩
  rw [show decide (Q = Q) = true by simp]
  have F7 := F6.below b7
  go_wp2
  refine ⟨hold_of (S0 := fun W => Blk W gd 26 [.int .i64 d.dp, .int .i64 d.nx, .slice x1 d.bl.length k1, .slice x3 d.ca.length k3, .slice (some ⟨b, off, none⟩) d.qu.length k4] ∧ Blk W gc 26 [.int .i64 C.dp, .int .i64 C.nx, .slice y1 C.bl.length m1, .slice y3 C.ca.length m3, .slice y4 C.qu.length m4] ∧ Blk W gq 39 [.int .i64 Q.1, .int .i64 Q.2.1, .int .i64 Q.2.2.1, .slice y5 Q.2.2.2.length j5] ∧ W.cell? ⟨b, off + pn * 4, none⟩ = some (.int .i64 Q.1) ∧ W.cell? ⟨b, off + pn * 4 + 1, none⟩ = some (.int .i64 Q.2.1) ∧ W.cell? ⟨b, off + pn * 4 + 2, none⟩ = some (.int .i64 Q.2.2.1) ∧ W.cell? ⟨b, off + pn * 4 + 3, none⟩ = some (.slice a' Q.2.2.2.length c')) ⟨F7.d.x, F7.c.x, F7.q, cell_later b7 hW.2.2.2.1, cell_later b7 hW.2.2.2.2.1, cell_later b7 hW.2.2.2.2.2.1, cell_later b7 hW.2.2.2.2.2.2⟩, ?_⟩
  show wpQuiet _ _ _ _ (_ :: [_]) _
  repeat (go_big_quiet_step (fail))
  refine wpQuiet_nil ?_
  refine NoPanic.normal ?_
  clear hW F6 G4 b7 g1 g2 g3
  go_wp2
  go_loopg [78] 4 (fun gg v78 wr => ∃ i : Nat, i + gg = 4 ∧ v78 = .int .i64 i ∧ FS w gd gc gq (.slice x1 d.bl.length k1) (.slice x3 d.ca.length k3) (.slice (some ⟨b, off, none⟩) d.qu.length k4) (.slice y1 C.bl.length m1) (.slice y3 C.ca.length m3) (.slice y4 C.qu.length m4) (.slice y5 Q.2.2.2.length j5) d C Q wr)
  case atStart => exact ⟨0, by omega, rfl, F7⟩
  case round =>
    clear F7
    obtain ⟨i, hg, rfl, F8⟩ := hrel
    cases gk with
    | zero =>
      obtain rfl : i = 4 := by omega
      clear hg
      have c0 := F8.c.x.cell 0
      have c1 := F8.c.x.cell 1
      have c2 := F8.c.x.cell 2
      have c3 := F8.c.x.cell 3
      have c4 := F8.c.x.cell 4
      simp only [List.getElem?_cons_zero, List.getElem?_cons_succ] at c0 c1 c2 c3 c4
      have z0 := F8.q.cell 0
      have z1 := F8.q.cell 1
      have z2 := F8.q.cell 2
      have z3 := F8.q.cell 3
      simp only [List.getElem?_cons_zero, List.getElem?_cons_succ] at z0 z1 z2 z3
      go_wp2_with fail
      refine (submit_d F8.c.rdv (pd_few pC) Q.2.1 Q.2.2.1 F8.v.rbv (by omega)).mono ?_
      rintro e w9 ⟨v, rfl, hO, b9⟩
      rw [e3] at hO ⊢
      obtain ⟨VB, VC, VQ, u1, i1, u3, i3, u4, i4, rfl, rfl, rfl, rfl, r1, r2, r3⟩ := hO.cells
      dsimp only at r1 r2 r3 ⊢
      have F9 := (F8.below b9).below (below_box w9 (.cells #[.int .i64 A.dp, .int .i64 A.nx, .slice u1 A.bl.length i1, .slice u3 A.ca.length i3, .slice u4 A.qu.length i4] 26))
      have A9 : DS w w9.heap.size _ _ _ A (w9.alloc (.cells #[.int .i64 A.dp, .int .i64 A.nx, .slice u1 A.bl.length i1, .slice u3 A.ca.length i3, .slice u4 A.qu.length i4] 26)) := DS.new ⟨r1, r2, r3⟩ F8.d.b.size (below_then F8.d.b b9)
      clear r1 r2 r3 hO b9 F8 c0 c1 c2 c3 c4 z0 z1 z2 z3
      go_upto_region 20 with fail
      obtain ⟨w10, hw10⟩ : ∃ W, W = w9.alloc (.cells #[.int .i64 A.dp, .int .i64 A.nx, .slice u1 A.bl.length i1, .slice u3 A.ca.length i3, .slice u4 A.qu.length i4] 26) := ⟨_, rfl⟩
      rw [← hw10] at F9 A9 ⊢
      clear hw10
      have d0 := F9.d.x.cell 0
      have d1 := F9.d.x.cell 1
      have d2 := F9.d.x.cell 2
      have d3 := F9.d.x.cell 3
      have d4 := F9.d.x.cell 4
      simp only [List.getElem?_cons_zero, List.getElem?_cons_succ] at d0 d1 d2 d3 d4
      have c0 := A9.x.cell 0
      have c1 := A9.x.cell 1
      have c2 := A9.x.cell 2
      have c3 := A9.x.cell 3
      have c4 := A9.x.cell 4
      simp only [List.getElem?_cons_zero, List.getElem?_cons_succ] at c0 c1 c2 c3 c4
      have t2 : (d.nx == d.nx) = true := by simp
      have t3 : ((A.qu.length : Int) == (d.qu.length : Int)) = true := by rw [HLA.out]; simp
      go_wp2
      go_ret
      exact ⟨rfl, F9.d.b⟩
    | succ gg =>
      have hi : i < 4 := by omega
      have HG := Lib.hid hg
      clear hg
      go_wp2_with fail
      refine wp_region_plan (fun W => Blk W gd 26 [.int .i64 d.dp, .int .i64 d.nx, .slice x1 d.bl.length k1, .slice x3 d.ca.length k3, .slice (some ⟨b, off, none⟩) d.qu.length k4] ∧ Blk W gc 26 [.int .i64 C.dp, .int .i64 C.nx, .slice y1 C.bl.length m1, .slice y3 C.ca.length m3, .slice y4 C.qu.length m4]) (.quiet [0, 1, 3, 4] (.only 2 (.only 5 (.only 6 (.quiet [7, 8, 9, 10, 12, 13] (.only 11 (.only 14 (.only 15 (.quiet [16, 17] .done))))))))) 99 (by kernel_rfl) (by kernel_rfl) ⟨F8.d.x.later (Below.refl _ _).drew, F8.c.x.later (Below.refl _ _).drew⟩ ?_
      intro W hW hWe
      have F9 : FS w gd gc gq (.slice x1 d.bl.length k1) (.slice x3 d.ca.length k3) (.slice (some ⟨b, off, none⟩) d.qu.length k4) (.slice y1 C.bl.length m1) (.slice y3 C.ca.length m3) (.slice y4 C.qu.length m4) (.slice y5 Q.2.2.2.length j5) d C Q W := by rw [hWe]; exact F8.below (Below.refl _ _).drew
      clear hWe F8
      simp only [wpPlan, inOrder, List.filterMap_cons, List.filterMap_nil, List.getElem?_cons_zero, List.getElem?_cons_succ]
      have d0 := fun z => (hold_ok (S0 := fun W => Blk W gd 26 [.int .i64 d.dp, .int .i64 d.nx, .slice x1 d.bl.length k1, .slice x3 d.ca.length k3, .slice (some ⟨b, off, none⟩) d.qu.length k4] ∧ Blk W gc 26 [.int .i64 C.dp, .int .i64 C.nx, .slice y1 C.bl.length m1, .slice y3 C.ca.length m3, .slice y4 C.qu.length m4]) hW z).1.cell 0
      have d1 := fun z => (hold_ok (S0 := fun W => Blk W gd 26 [.int .i64 d.dp, .int .i64 d.nx, .slice x1 d.bl.length k1, .slice x3 d.ca.length k3, .slice (some ⟨b, off, none⟩) d.qu.length k4] ∧ Blk W gc 26 [.int .i64 C.dp, .int .i64 C.nx, .slice y1 C.bl.length m1, .slice y3 C.ca.length m3, .slice y4 C.qu.length m4]) hW z).1.cell 1
      have d2 := fun z => (hold_ok (S0 := fun W => Blk W gd 26 [.int .i64 d.dp, .int .i64 d.nx, .slice x1 d.bl.length k1, .slice x3 d.ca.length k3, .slice (some ⟨b, off, none⟩) d.qu.length k4] ∧ Blk W gc 26 [.int .i64 C.dp, .int .i64 C.nx, .slice y1 C.bl.length m1, .slice y3 C.ca.length m3, .slice y4 C.qu.length m4]) hW z).1.cell 2
      have d3 := fun z => (hold_ok (S0 := fun W => Blk W gd 26 [.int .i64 d.dp, .int .i64 d.nx, .slice x1 d.bl.length k1, .slice x3 d.ca.length k3, .slice (some ⟨b, off, none⟩) d.qu.length k4] ∧ Blk W gc 26 [.int .i64 C.dp, .int .i64 C.nx, .slice y1 C.bl.length m1, .slice y3 C.ca.length m3, .slice y4 C.qu.length m4]) hW z).1.cell 3
      have d4 := fun z => (hold_ok (S0 := fun W => Blk W gd 26 [.int .i64 d.dp, .int .i64 d.nx, .slice x1 d.bl.length k1, .slice x3 d.ca.length k3, .slice (some ⟨b, off, none⟩) d.qu.length k4] ∧ Blk W gc 26 [.int .i64 C.dp, .int .i64 C.nx, .slice y1 C.bl.length m1, .slice y3 C.ca.length m3, .slice y4 C.qu.length m4]) hW z).1.cell 4
      have c0 := fun z => (hold_ok (S0 := fun W => Blk W gd 26 [.int .i64 d.dp, .int .i64 d.nx, .slice x1 d.bl.length k1, .slice x3 d.ca.length k3, .slice (some ⟨b, off, none⟩) d.qu.length k4] ∧ Blk W gc 26 [.int .i64 C.dp, .int .i64 C.nx, .slice y1 C.bl.length m1, .slice y3 C.ca.length m3, .slice y4 C.qu.length m4]) hW z).2.cell 0
      have c1 := fun z => (hold_ok (S0 := fun W => Blk W gd 26 [.int .i64 d.dp, .int .i64 d.nx, .slice x1 d.bl.length k1, .slice x3 d.ca.length k3, .slice (some ⟨b, off, none⟩) d.qu.length k4] ∧ Blk W gc 26 [.int .i64 C.dp, .int .i64 C.nx, .slice y1 C.bl.length m1, .slice y3 C.ca.length m3, .slice y4 C.qu.length m4]) hW z).2.cell 1
      have c2 := fun z => (hold_ok (S0 := fun W => Blk W gd 26 [.int .i64 d.dp, .int .i64 d.nx, .slice x1 d.bl.length k1, .slice x3 d.ca.length k3, .slice (some ⟨b, off, none⟩) d.qu.length k4] ∧ Blk W gc 26 [.int .i64 C.dp, .int .i64 C.nx, .slice y1 C.bl.length m1, .slice y3 C.ca.length m3, .slice y4 C.qu.length m4]) hW z).2.cell 2
      have c3 := fun z => (hold_ok (S0 := fun W => Blk W gd 26 [.int .i64 d.dp, .int .i64 d.nx, .slice x1 d.bl.length k1, .slice x3 d.ca.length k3, .slice (some ⟨b, off, none⟩) d.qu.length k4] ∧ Blk W gc 26 [.int .i64 C.dp, .int .i64 C.nx, .slice y1 C.bl.length m1, .slice y3 C.ca.length m3, .slice y4 C.qu.length m4]) hW z).2.cell 3
      have c4 := fun z => (hold_ok (S0 := fun W => Blk W gd 26 [.int .i64 d.dp, .int .i64 d.nx, .slice x1 d.bl.length k1, .slice x3 d.ca.length k3, .slice (some ⟨b, off, none⟩) d.qu.length k4] ∧ Blk W gc 26 [.int .i64 C.dp, .int .i64 C.nx, .slice y1 C.bl.length m1, .slice y3 C.ca.length m3, .slice y4 C.qu.length m4]) hW z).2.cell 4
      simp only [List.getElem?_cons_zero, List.getElem?_cons_succ] at d0 d1 d2 d3 d4 c0 c1 c2 c3 c4
      show wpQuiet _ _ _ _ (_ :: _ :: _ :: [_]) _
      repeat (go_big_quiet_step (fail))
      refine wpQuiet_nil ?_
      show wpList _ _ _ [_] _ _
      go_wp2_with fail
      refine (content_d F9.c.rdv (pd_few pC) i).mono ?_
      rintro e w10 ⟨v, rfl, hv10, b10⟩
      have F10 := F9.below b10
      obtain ⟨p10, q10, rfl, _, _, _, _⟩ := hv10.form rfl
      go_wp2
      refine ⟨hold_of (S0 := fun W => Blk W gd 26 [.int .i64 d.dp, .int .i64 d.nx, .slice x1 d.bl.length k1, .slice x3 d.ca.length k3, .slice (some ⟨b, off, none⟩) d.qu.length k4] ∧ Blk W gc 26 [.int .i64 C.dp, .int .i64 C.nx, .slice y1 C.bl.length m1, .slice y3 C.ca.length m3, .slice y4 C.qu.length m4]) ⟨F10.d.x, F10.c.x⟩, ?_⟩
      show wpList _ _ _ [_] _ _
      go_wp2_with fail
      refine (content_d F10.d.rdv (pd_few hP) i).mono ?_
      rintro e w11 ⟨v, rfl, hv11, b11⟩
      have F11 := F10.below b11
      obtain ⟨p11, q11, rfl, _, _, _, _⟩ := hv11.form rfl
      go_wp2
      refine ⟨hold_of (S0 := fun W => Blk W gd 26 [.int .i64 d.dp, .int .i64 d.nx, .slice x1 d.bl.length k1, .slice x3 d.ca.length k3, .slice (some ⟨b, off, none⟩) d.qu.length k4] ∧ Blk W gc 26 [.int .i64 C.dp, .int .i64 C.nx, .slice y1 C.bl.length m1, .slice y3 C.ca.length m3, .slice y4 C.qu.length m4]) ⟨F11.d.x, F11.c.x⟩, ?_⟩
      show wpList _ _ _ [_] _ _
      go_wp2_with fail
      refine (same_b (hv10.k5 (K5.below b11)).rbv hv11.rbv (modc pC i) (modc hP i)).mono ?_
      rintro e w12 ⟨rfl, b12⟩
      rw [show decide (contD C i = contD d i) = true by rw [HCC.out i hi]; simp]
      have F12 := F11.below b12
      clear hv10 hv11 b10 b11 b12 F9 F10 F11
      go_wp2
      refine ⟨hold_of (S0 := fun W => Blk W gd 26 [.int .i64 d.dp, .int .i64 d.nx, .slice x1 d.bl.length k1, .slice x3 d.ca.length k3, .slice (some ⟨b, off, none⟩) d.qu.length k4] ∧ Blk W gc 26 [.int .i64 C.dp, .int .i64 C.nx, .slice y1 C.bl.length m1, .slice y3 C.ca.length m3, .slice y4 C.qu.length m4]) ⟨F12.d.x, F12.c.x⟩, ?_⟩
      show wpQuiet _ _ _ _ (_ :: _ :: _ :: _ :: _ :: [_]) _
      repeat (go_big_quiet_step (fail))
      refine wpQuiet_nil ?_
      show wpList _ _ _ [_] _ _
      go_wp2_with fail
      refine (durable_d F12.c.rdv (pd_few pC) i).mono ?_
      rintro e w13 ⟨v, rfl, hv13, b13⟩
      have F13 := F12.below b13
      obtain ⟨p13, q13, rfl, _, _, _, _⟩ := hv13.form rfl
      go_wp2
      refine ⟨hold_of (S0 := fun W => Blk W gd 26 [.int .i64 d.dp, .int .i64 d.nx, .slice x1 d.bl.length k1, .slice x3 d.ca.length k3, .slice (some ⟨b, off, none⟩) d.qu.length k4] ∧ Blk W gc 26 [.int .i64 C.dp, .int .i64 C.nx, .slice y1 C.bl.length m1, .slice y3 C.ca.length m3, .slice y4 C.qu.length m4]) ⟨F13.d.x, F13.c.x⟩, ?_⟩
      show wpList _ _ _ [_] _ _
      go_wp2_with fail
      refine (durable_d F13.d.rdv (pd_few hP) i).mono ?_
      rintro e w14 ⟨v, rfl, hv14, b14⟩
      have F14 := F13.below b14
      obtain ⟨p14, q14, rfl, _, _, _, _⟩ := hv14.form rfl
      go_wp2
      refine ⟨hold_of (S0 := fun W => Blk W gd 26 [.int .i64 d.dp, .int .i64 d.nx, .slice x1 d.bl.length k1, .slice x3 d.ca.length k3, .slice (some ⟨b, off, none⟩) d.qu.length k4] ∧ Blk W gc 26 [.int .i64 C.dp, .int .i64 C.nx, .slice y1 C.bl.length m1, .slice y3 C.ca.length m3, .slice y4 C.qu.length m4]) ⟨F14.d.x, F14.c.x⟩, ?_⟩
      show wpList _ _ _ [_] _ _
      go_wp2_with fail
      refine (same_b (hv13.k5 (K5.below b14)).rbv hv14.rbv (modd pC i) (modd hP i)).mono ?_
      rintro e w15 ⟨rfl, b15⟩
      rw [show decide (durD C i = durD d i) = true by rw [HDD.out i hi]; simp]
      have F15 := F14.below b15
      clear hv13 hv14 b13 b14 b15 F12 F13 F14
      go_wp2
      refine ⟨hold_of (S0 := fun W => Blk W gd 26 [.int .i64 d.dp, .int .i64 d.nx, .slice x1 d.bl.length k1, .slice x3 d.ca.length k3, .slice (some ⟨b, off, none⟩) d.qu.length k4] ∧ Blk W gc 26 [.int .i64 C.dp, .int .i64 C.nx, .slice y1 C.bl.length m1, .slice y3 C.ca.length m3, .slice y4 C.qu.length m4]) ⟨F15.d.x, F15.c.x⟩, ?_⟩
      show wpQuiet _ _ _ _ (_ :: [_]) _
      repeat (go_big_quiet_step (fail))
      refine wpQuiet_nil ?_
      refine NoPanic.normal ?_
      clear d0 d1 d2 d3 d4 c0 c1 c2 c3 c4 hW
      go_wp2
      go_roundg gg
      case rel => exact ⟨i + 1, by have := HG.out; omega, by go_num, F15⟩
      case measure => omega
end Go.Proofs.Ytlhbjmoncdljoaa
