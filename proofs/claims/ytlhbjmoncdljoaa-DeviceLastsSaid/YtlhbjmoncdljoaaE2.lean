/- The walks of the laws that compare with the document. -/
import Derived.Test.YtlhbjmoncdljoaaE1
namespace Go.Proofs.Ytlhbjmoncdljoaa
open Go.RowKit Go.Over Go.Dev Go.Seg Go.Grow


set_option maxRecDepth 100000 in set_option maxHeartbeats 3200000 in
theorem law_crashes (v : Value) (d : D) (pa : Option Addr) (pn pc : Nat) (picks : List Bool) (w : World) (H : Rdv w v d) (HP : Pk w pa picks) (hpn : picks.length = pn) : Calls Try.prog 7 #[v, .slice pa pn pc] w fun e w' => e = .returned (.bool true) ∧ Below w.heap.size w w' := by
  obtain ⟨aB, cB, aC, cC, aQ, cQ, rfl, _⟩ := id H
  have b1 := below_box w (.cells #[.int .i64 d.dp, .int .i64 d.nx, .slice aB d.bl.length cB, .slice aC d.ca.length cC, .slice aQ d.qu.length cQ] 26)
  have X1 := Blk.new w 26 #[.int .i64 d.dp, .int .i64 d.nx, .slice aB d.bl.length cB, .slice aC d.ca.length cC, .slice aQ d.qu.length cQ] [.int .i64 d.dp, .int .i64 d.nx, .slice aB d.bl.length cB, .slice aC d.ca.length cC, .slice aQ d.qu.length cQ] rfl
  obtain ⟨fb, hfb⟩ : ∃ fb, fewD d = fb := ⟨_, rfl⟩
  have HFB := Lib.hid hfb
  clear hfb
  have hF := fine_cr d picks
  obtain ⟨⟨E, r⟩, hP⟩ : ∃ P, crD d picks = P := ⟨_, rfl⟩
  rw [hP] at hF
  have HPP := Lib.hid hP; have NP := Lib.hid hpn
  clear hP hpn
  go_enter Try.func7, Try.ntmps7
  go_wp2_with fail
  refine (awake_11 _).mono ?_
  rintro e w2 ⟨rfl, b2⟩
  have X2 := X1.later b2
  have B2 := below_then b1 b2
  clear b2 b1 X1
  have d0 := X2.cell 0
  have d1 := X2.cell 1
  have d2 := X2.cell 2
  have d3 := X2.cell 3
  have d4 := X2.cell 4
  simp only [List.getElem?_cons_zero, List.getElem?_cons_succ] at d0 d1 d2 d3 d4
  go_wp2_with fail
  refine (few_d (H.below B2)).mono ?_
  rintro e w3 ⟨rfl, b3⟩
  rw [HFB.out]
  have X3 := X2.later b3
  have B3 := below_then B2 b3
  clear b3 B2 X2 d0 d1 d2 d3 d4
  cases fb with
  | false =>
    go_wp2_with fail
    refine (awake_11 _).mono ?_
    rintro e w4 ⟨rfl, b4⟩
    go_wp2
    go_ret
    exact ⟨rfl, below_then B3 b4⟩
  | true =>
    have FW := few_few HFB.out
    have d0 := X3.cell 0
    have d1 := X3.cell 1
    have d2 := X3.cell 2
    have d3 := X3.cell 3
    have d4 := X3.cell 4
    simp only [List.getElem?_cons_zero, List.getElem?_cons_succ] at d0 d1 d2 d3 d4

    go_wp2_with fail
    refine (crash_d (H.below B3) FW pa pn pc picks (HP.below B3) NP.out).mono ?_
    rintro e w5 ⟨v, rfl, hO, b5⟩
    rw [HPP.out] at hO ⊢
    obtain ⟨VB, VC, VQ, x51, k51, x53, k53, x54, k54, rfl, rfl, rfl, rfl, r1, r2, r3⟩ := hO.cells
    dsimp only at r1 r2 r3 ⊢
    have hbx := below_box w5 (.cells #[.int .i64 E.dp, .int .i64 E.nx, .slice x51 E.bl.length k51, .slice x53 E.ca.length k53, .slice x54 E.qu.length k54] 26)
    have X5 := (X3.later b5).later hbx
    have S5 : DS w w5.heap.size _ _ _ E _ := DS.new ⟨r1, r2, r3⟩ B3.size (below_then B3 b5)
    clear r1 r2 r3 hO b5 hbx X3 B3 
    clear d0 d1 d2 d3 d4
    go_upto_region 4 with fail
    obtain ⟨W5, hW5⟩ : ∃ W, W = w5.alloc (.cells #[.int .i64 E.dp, .int .i64 E.nx, .slice x51 E.bl.length k51, .slice x53 E.ca.length k53, .slice x54 E.qu.length k54] 26) := ⟨_, rfl⟩
    rw [← hW5] at X5 S5  ⊢
    clear hW5
    have B5 := S5.b
    have d0 := X5.cell 0
    have d1 := X5.cell 1
    have d2 := X5.cell 2
    have d3 := X5.cell 3
    have d4 := X5.cell 4
    simp only [List.getElem?_cons_zero, List.getElem?_cons_succ] at d0 d1 d2 d3 d4

    go_wp2_with fail
    refine (crash_r (H.below B5) FW pa pn pc picks (HP.below B5) NP.out).mono ?_
    rintro e w6 ⟨v, rfl, hO, b6⟩
    rw [HPP.out] at hO ⊢
    obtain ⟨VB, VC, VQ, x61, k61, x63, k63, x64, k64, rfl, rfl, rfl, rfl, r1, r2, r3⟩ := hO.cells
    dsimp only at r1 r2 r3 ⊢
    have hbx := below_box w6 (.cells #[.int .i64 E.dp, .int .i64 E.nx, .slice x61 E.bl.length k61, .slice x63 E.ca.length k63, .slice x64 E.qu.length k64] 26)
    have X6 := (X5.later b6).later hbx
    have S6 : DS w w6.heap.size _ _ _ E _ := DS.new ⟨r1, r2, r3⟩ B5.size (below_then B5 b6)
    have T6 := (S5.below b6).below hbx
    clear r1 r2 r3 hO b6 hbx X5 B5 S5
    clear d0 d1 d2 d3 d4
    go_upto_region 5 with fail
    obtain ⟨W6, hW6⟩ : ∃ W, W = w6.alloc (.cells #[.int .i64 E.dp, .int .i64 E.nx, .slice x61 E.bl.length k61, .slice x63 E.ca.length k63, .slice x64 E.qu.length k64] 26) := ⟨_, rfl⟩
    rw [← hW6] at X6 S6 T6 ⊢
    clear hW6
    have B6 := S6.b
    clear X6
    have t1 : (r == r) = true := by simp
    have d0 := T6.x.cell 0
    have d1 := T6.x.cell 1
    have d2 := T6.x.cell 2
    have d3 := T6.x.cell 3
    have d4 := T6.x.cell 4
    simp only [List.getElem?_cons_zero, List.getElem?_cons_succ] at d0 d1 d2 d3 d4
    have c0 := S6.x.cell 0
    have c1 := S6.x.cell 1
    have c2 := S6.x.cell 2
    have c3 := S6.x.cell 3
    have c4 := S6.x.cell 4
    simp only [List.getElem?_cons_zero, List.getElem?_cons_succ] at c0 c1 c2 c3 c4

    go_wp2_with fail
    refine (same_d T6.rdv S6.rdv (fine_Few hF) (fine_Mod hF) (fine_Mod hF)).mono ?_
    rintro e w7 ⟨rfl, b7⟩
    rw [sameD_refl]
    go_wp2
    go_ret
    exact ⟨rfl, below_then B6 b7⟩

set_option maxRecDepth 100000 in set_option maxHeartbeats 3200000 in
theorem law_completes (v : Value) (d : D) (p : Int) (ok : Bool) (w : World) (H : Rdv w v d) : Calls Try.prog 6 #[v, .int .i64 p, .bool ok] w fun e w' => e = .returned (.bool true) ∧ Below w.heap.size w w' := by
  obtain ⟨aB, cB, aC, cC, aQ, cQ, rfl, _⟩ := id H
  have b1 := below_box w (.cells #[.int .i64 d.dp, .int .i64 d.nx, .slice aB d.bl.length cB, .slice aC d.ca.length cC, .slice aQ d.qu.length cQ] 26)
  have X1 := Blk.new w 26 #[.int .i64 d.dp, .int .i64 d.nx, .slice aB d.bl.length cB, .slice aC d.ca.length cC, .slice aQ d.qu.length cQ] [.int .i64 d.dp, .int .i64 d.nx, .slice aB d.bl.length cB, .slice aC d.ca.length cC, .slice aQ d.qu.length cQ] rfl
  obtain ⟨fb, hfb⟩ : ∃ fb, fewD d = fb := ⟨_, rfl⟩
  have HFB := Lib.hid hfb
  clear hfb
  have hF := fine_cmp d p ok
  obtain ⟨⟨E, Q, r⟩, hP⟩ : ∃ P, cmpD d p ok = P := ⟨_, rfl⟩
  rw [hP] at hF
  obtain ⟨hF, hQl⟩ := hF
  simp only at hF hQl
  have HPP := Lib.hid hP
  clear hP
  go_enter Try.func6, Try.ntmps6
  go_wp2_with fail
  refine (awake_11 _).mono ?_
  rintro e w2 ⟨rfl, b2⟩
  have X2 := X1.later b2
  have B2 := below_then b1 b2
  clear b2 b1 X1
  have d0 := X2.cell 0
  have d1 := X2.cell 1
  have d2 := X2.cell 2
  have d3 := X2.cell 3
  have d4 := X2.cell 4
  simp only [List.getElem?_cons_zero, List.getElem?_cons_succ] at d0 d1 d2 d3 d4
  go_wp2_with fail
  refine (few_d (H.below B2)).mono ?_
  rintro e w3 ⟨rfl, b3⟩
  rw [HFB.out]
  have X3 := X2.later b3
  have B3 := below_then B2 b3
  clear b3 B2 X2 d0 d1 d2 d3 d4
  cases fb with
  | false =>
    go_wp2_with fail
    refine (awake_11 _).mono ?_
    rintro e w4 ⟨rfl, b4⟩
    go_wp2
    go_ret
    exact ⟨rfl, below_then B3 b4⟩
  | true =>
    have FW := few_few HFB.out
    have d0 := X3.cell 0
    have d1 := X3.cell 1
    have d2 := X3.cell 2
    have d3 := X3.cell 3
    have d4 := X3.cell 4
    simp only [List.getElem?_cons_zero, List.getElem?_cons_succ] at d0 d1 d2 d3 d4

    go_wp2_with fail
    refine (complete_d (H.below B3) FW p ok).mono ?_
    rintro e w5 ⟨v, vq, rfl, hO, hq, b5⟩
    rw [HPP.out] at hO hq ⊢
    obtain ⟨VB, VC, VQ, x51, k51, x53, k53, x54, k54, rfl, rfl, rfl, rfl, r1, r2, r3⟩ := hO.cells
    obtain ⟨sv, rfl, hsv⟩ := hq
    obtain ⟨y5, j5, rfl, _, _, _, _⟩ := hsv.form rfl
    dsimp only at r1 r2 r3 hsv ⊢
    have hbx := below_box w5 (.cells #[.int .i64 E.dp, .int .i64 E.nx, .slice x51 E.bl.length k51, .slice x53 E.ca.length k53, .slice x54 E.qu.length k54] 26)
    have hby := below_box (w5.alloc (.cells #[.int .i64 E.dp, .int .i64 E.nx, .slice x51 E.bl.length k51, .slice x53 E.ca.length k53, .slice x54 E.qu.length k54] 26)) (.cells #[.int .i64 Q.1, .int .i64 Q.2.1, .int .i64 Q.2.2.1, .slice y5 Q.2.2.2.length j5] 39)
    have X5 := ((X3.later b5).later hbx).later hby
    have S5 := (show DS w w5.heap.size _ _ _ E _ from DS.new ⟨r1, r2, r3⟩ B3.size (below_then B3 b5)).below hby
    have Q5 := Blk.new (w5.alloc (.cells #[.int .i64 E.dp, .int .i64 E.nx, .slice x51 E.bl.length k51, .slice x53 E.ca.length k53, .slice x54 E.qu.length k54] 26)) 39 #[.int .i64 Q.1, .int .i64 Q.2.1, .int .i64 Q.2.2.1, .slice y5 Q.2.2.2.length j5] [.int .i64 Q.1, .int .i64 Q.2.1, .int .i64 Q.2.2.1, .slice y5 Q.2.2.2.length j5] rfl
    rw [show (w5.alloc (.cells #[.int .i64 E.dp, .int .i64 E.nx, .slice x51 E.bl.length k51, .slice x53 E.ca.length k53, .slice x54 E.qu.length k54] 26)).heap.size = w5.heap.size + 1 by simp] at Q5
    have V5 := (hsv.k5 (K5.below hbx)).k5 (K5.below hby)
    clear r1 r2 r3 hO hsv b5 hbx hby X3 B3  
    clear d0 d1 d2 d3 d4
    go_upto_region 4 with fail
    obtain ⟨W5, hW5⟩ : ∃ W, W = (w5.alloc (.cells #[.int .i64 E.dp, .int .i64 E.nx, .slice x51 E.bl.length k51, .slice x53 E.ca.length k53, .slice x54 E.qu.length k54] 26)).alloc (.cells #[.int .i64 Q.1, .int .i64 Q.2.1, .int .i64 Q.2.2.1, .slice y5 Q.2.2.2.length j5] 39) := ⟨_, rfl⟩
    rw [← hW5] at X5 S5 Q5 V5  ⊢
    clear hW5
    have B5 := S5.b
    have d0 := X5.cell 0
    have d1 := X5.cell 1
    have d2 := X5.cell 2
    have d3 := X5.cell 3
    have d4 := X5.cell 4
    simp only [List.getElem?_cons_zero, List.getElem?_cons_succ] at d0 d1 d2 d3 d4

    go_wp2_with fail
    refine (complete_r (H.below B5) FW p ok).mono ?_
    rintro e w6 ⟨v, vq, rfl, hO, hq, b6⟩
    rw [HPP.out] at hO hq ⊢
    obtain ⟨VB, VC, VQ, x61, k61, x63, k63, x64, k64, rfl, rfl, rfl, rfl, r1, r2, r3⟩ := hO.cells
    obtain ⟨sv, rfl, hsv⟩ := hq
    obtain ⟨y6, j6, rfl, _, _, _, _⟩ := hsv.form rfl
    dsimp only at r1 r2 r3 hsv ⊢
    have hbx := below_box w6 (.cells #[.int .i64 E.dp, .int .i64 E.nx, .slice x61 E.bl.length k61, .slice x63 E.ca.length k63, .slice x64 E.qu.length k64] 26)
    have hby := below_box (w6.alloc (.cells #[.int .i64 E.dp, .int .i64 E.nx, .slice x61 E.bl.length k61, .slice x63 E.ca.length k63, .slice x64 E.qu.length k64] 26)) (.cells #[.int .i64 Q.1, .int .i64 Q.2.1, .int .i64 Q.2.2.1, .slice y6 Q.2.2.2.length j6] 39)
    have X6 := ((X5.later b6).later hbx).later hby
    have S6 := (show DS w w6.heap.size _ _ _ E _ from DS.new ⟨r1, r2, r3⟩ B5.size (below_then B5 b6)).below hby
    have Q6 := Blk.new (w6.alloc (.cells #[.int .i64 E.dp, .int .i64 E.nx, .slice x61 E.bl.length k61, .slice x63 E.ca.length k63, .slice x64 E.qu.length k64] 26)) 39 #[.int .i64 Q.1, .int .i64 Q.2.1, .int .i64 Q.2.2.1, .slice y6 Q.2.2.2.length j6] [.int .i64 Q.1, .int .i64 Q.2.1, .int .i64 Q.2.2.1, .slice y6 Q.2.2.2.length j6] rfl
    rw [show (w6.alloc (.cells #[.int .i64 E.dp, .int .i64 E.nx, .slice x61 E.bl.length k61, .slice x63 E.ca.length k63, .slice x64 E.qu.length k64] 26)).heap.size = w6.heap.size + 1 by simp] at Q6
    have V6 := (hsv.k5 (K5.below hbx)).k5 (K5.below hby)
    have T6 := ((S5.below b6).below hbx).below hby
    have P6 := ((Q5.later b6).later hbx).later hby
    have U6 := ((V5.k5 (K5.below b6)).k5 (K5.below hbx)).k5 (K5.below hby)
    clear r1 r2 r3 hO hsv b6 hbx hby X5 B5 S5 Q5 V5
    clear d0 d1 d2 d3 d4
    go_upto_region 5 with fail
    obtain ⟨W6, hW6⟩ : ∃ W, W = (w6.alloc (.cells #[.int .i64 E.dp, .int .i64 E.nx, .slice x61 E.bl.length k61, .slice x63 E.ca.length k63, .slice x64 E.qu.length k64] 26)).alloc (.cells #[.int .i64 Q.1, .int .i64 Q.2.1, .int .i64 Q.2.2.1, .slice y6 Q.2.2.2.length j6] 39) := ⟨_, rfl⟩
    rw [← hW6] at X6 S6 Q6 V6 T6 P6 U6 ⊢
    clear hW6
    have B6 := S6.b
    clear X6
    have t1 : (r == r) = true := by simp
    have z0 := P6.cell 0
    have z1 := P6.cell 1
    have z2 := P6.cell 2
    have z3 := P6.cell 3
    simp only [List.getElem?_cons_zero, List.getElem?_cons_succ] at z0 z1 z2 z3
    have u0 := Q6.cell 0
    have u1 := Q6.cell 1
    have u2 := Q6.cell 2
    have u3 := Q6.cell 3
    simp only [List.getElem?_cons_zero, List.getElem?_cons_succ] at u0 u1 u2 u3

    go_wp2_with fail
    refine (same_q (q := Q) (q' := Q) (OwnQ.rqv ⟨_, rfl, U6⟩) (OwnQ.rqv ⟨_, rfl, V6⟩) (by omega) (by omega)).mono ?_
    rintro e w7 ⟨rfl, b7⟩
    rw [show decide (Q = Q) = true by simp]
    have T7 := T6.below b7
    have S7 := S6.below b7
    clear z0 z1 z2 z3 u0 u1 u2 u3 T6 S6 P6 Q6 U6 V6 b7 B6
    have d0 := T7.x.cell 0
    have d1 := T7.x.cell 1
    have d2 := T7.x.cell 2
    have d3 := T7.x.cell 3
    have d4 := T7.x.cell 4
    simp only [List.getElem?_cons_zero, List.getElem?_cons_succ] at d0 d1 d2 d3 d4
    have c0 := S7.x.cell 0
    have c1 := S7.x.cell 1
    have c2 := S7.x.cell 2
    have c3 := S7.x.cell 3
    have c4 := S7.x.cell 4
    simp only [List.getElem?_cons_zero, List.getElem?_cons_succ] at c0 c1 c2 c3 c4

    go_wp2_with fail
    refine (same_d T7.rdv S7.rdv (fine_Few hF) (fine_Mod hF) (fine_Mod hF)).mono ?_
    rintro e w8 ⟨rfl, b8⟩
    rw [sameD_refl]
    go_wp2
    go_ret
    exact ⟨rfl, below_then S7.b b8⟩

set_option maxRecDepth 100000 in set_option maxHeartbeats 3200000 in
theorem law_submits (v vq : Value) (d : D) (q : Rq) (w : World) (H : Rdv w v d) (HQ : Rqv w vq q) : Calls Try.prog 5 #[v, vq] w fun e w' => e = .returned (.bool true) ∧ Below w.heap.size w w' := by
  obtain ⟨aB, cB, aC, cC, aQ, cQ, rfl, _⟩ := id H
  obtain ⟨i0, k0, b0, s0⟩ := q
  obtain ⟨a, c, rfl, g1, g2, g3, g4⟩ := HQ
  simp only at g1 g4
  have b0' := below_box w (.cells #[.int .i64 d.dp, .int .i64 d.nx, .slice aB d.bl.length cB, .slice aC d.ca.length cC, .slice aQ d.qu.length cQ] 26)
  have b1' := below_box (w.alloc (.cells #[.int .i64 d.dp, .int .i64 d.nx, .slice aB d.bl.length cB, .slice aC d.ca.length cC, .slice aQ d.qu.length cQ] 26)) (.cells #[.int .i64 i0, .int .i64 k0, .int .i64 b0, .slice a s0.length c] 39)
  have b1 := below_then b0' b1'
  have X1 := (Blk.new w 26 #[.int .i64 d.dp, .int .i64 d.nx, .slice aB d.bl.length cB, .slice aC d.ca.length cC, .slice aQ d.qu.length cQ] [.int .i64 d.dp, .int .i64 d.nx, .slice aB d.bl.length cB, .slice aC d.ca.length cC, .slice aQ d.qu.length cQ] rfl).later b1'
  have Y1 := Blk.new (w.alloc (.cells #[.int .i64 d.dp, .int .i64 d.nx, .slice aB d.bl.length cB, .slice aC d.ca.length cC, .slice aQ d.qu.length cQ] 26)) 39 #[.int .i64 i0, .int .i64 k0, .int .i64 b0, .slice a s0.length c] [.int .i64 i0, .int .i64 k0, .int .i64 b0, .slice a s0.length c] rfl
  rw [show (w.alloc (.cells #[.int .i64 d.dp, .int .i64 d.nx, .slice aB d.bl.length cB, .slice aC d.ca.length cC, .slice aQ d.qu.length cQ] 26)).heap.size = w.heap.size + 1 by simp] at Y1
  obtain ⟨n, hn⟩ : ∃ n, s0.length = n := ⟨_, rfl⟩
  rw [hn] at X1 Y1 b1 g1 ⊢
  have HN := Lib.hid hn
  clear b0' b1' hn
  obtain ⟨fb, hfb⟩ : ∃ fb, fewD d = fb := ⟨_, rfl⟩
  have HFB := Lib.hid hfb
  clear hfb
  have hF := fine_sub d k0 b0 s0
  obtain ⟨⟨E, id, r⟩, hP⟩ : ∃ P, subD d k0 b0 s0 = P := ⟨_, rfl⟩
  rw [hP] at hF
  simp only at hF
  have HPP := Lib.hid hP
  clear hP
  go_enter Try.func5, Try.ntmps5
  go_wp2_with fail
  refine (awake_11 _).mono ?_
  rintro e w2 ⟨rfl, b2⟩
  have X2 := X1.later b2
  have Y2 := Y1.later b2
  have B2 := below_then b1 b2
  clear b2 b1 X1 Y1
  have d0 := X2.cell 0
  have d1 := X2.cell 1
  have d2 := X2.cell 2
  have d3 := X2.cell 3
  have d4 := X2.cell 4
  simp only [List.getElem?_cons_zero, List.getElem?_cons_succ] at d0 d1 d2 d3 d4

  go_wp2_with fail
  refine (few_d (H.below B2)).mono ?_
  rintro e w3 ⟨rfl, b3⟩
  rw [HFB.out]
  have X3 := X2.later b3
  have Y3 := Y2.later b3
  have B3 := below_then B2 b3
  clear b3 B2 X2 Y2 d0 d1 d2 d3 d4
  cases fb with
  | false =>
    go_wp2_with fail
    refine (awake_11 _).mono ?_
    rintro e w4 ⟨rfl, b4⟩
    go_wp2
    go_ret
    exact ⟨rfl, below_then B3 b4⟩
  | true =>
    have FW := few_few HFB.out
    have z3 := Y3.cell 3
    simp only [List.getElem?_cons_zero, List.getElem?_cons_succ] at z3
    by_cases h100 : 100 < n
    · have t0 : decide ((100 : Int) < (n : Int)) = true := by simp; omega
      go_wp2_with fail
      refine (awake_11 _).mono ?_
      rintro e w4 ⟨rfl, b4⟩
      go_wp2
      go_ret
      exact ⟨rfl, below_then B3 b4⟩
    have t0 : decide ((100 : Int) < (n : Int)) = false := by simp; omega
    have hle : n ≤ 100 := by omega
    clear z3 h100
    have d0 := X3.cell 0
    have d1 := X3.cell 1
    have d2 := X3.cell 2
    have d3 := X3.cell 3
    have d4 := X3.cell 4
    simp only [List.getElem?_cons_zero, List.getElem?_cons_succ] at d0 d1 d2 d3 d4
    have z0 := Y3.cell 0
    have z1 := Y3.cell 1
    have z2 := Y3.cell 2
    have z3 := Y3.cell 3
    simp only [List.getElem?_cons_zero, List.getElem?_cons_succ] at z0 z1 z2 z3

    go_wp2_with fail
    refine (submit_d (H.below B3) FW k0 b0 (show Rbv _ (.slice a n c) s0 from ⟨a, c, by rw [HN.out], by rw [HN.out]; exact g1, g2, g3, g4.below B3⟩) (by rw [HN.out]; omega)).mono ?_
    rintro e w5 ⟨v, rfl, hO, b5⟩
    rw [HPP.out] at hO ⊢
    obtain ⟨VB, VC, VQ, x51, k51, x53, k53, x54, k54, rfl, rfl, rfl, rfl, r1, r2, r3⟩ := hO.cells
    dsimp only at r1 r2 r3 ⊢
    have hbx := below_box w5 (.cells #[.int .i64 E.dp, .int .i64 E.nx, .slice x51 E.bl.length k51, .slice x53 E.ca.length k53, .slice x54 E.qu.length k54] 26)
    have X5 := (X3.later b5).later hbx
    have Y5 := (Y3.later b5).later hbx
    have S5 : DS w w5.heap.size _ _ _ E _ := DS.new ⟨r1, r2, r3⟩ B3.size (below_then B3 b5)
    clear r1 r2 r3 hO b5 hbx X3 Y3 B3 
    clear d0 d1 d2 d3 d4 z0 z1 z2 z3
    go_upto_region 4 with fail
    obtain ⟨W5, hW5⟩ : ∃ W, W = w5.alloc (.cells #[.int .i64 E.dp, .int .i64 E.nx, .slice x51 E.bl.length k51, .slice x53 E.ca.length k53, .slice x54 E.qu.length k54] 26) := ⟨_, rfl⟩
    rw [← hW5] at X5 Y5 S5  ⊢
    clear hW5
    have B5 := S5.b
    have d0 := X5.cell 0
    have d1 := X5.cell 1
    have d2 := X5.cell 2
    have d3 := X5.cell 3
    have d4 := X5.cell 4
    simp only [List.getElem?_cons_zero, List.getElem?_cons_succ] at d0 d1 d2 d3 d4
    have z0 := Y5.cell 0
    have z1 := Y5.cell 1
    have z2 := Y5.cell 2
    have z3 := Y5.cell 3
    simp only [List.getElem?_cons_zero, List.getElem?_cons_succ] at z0 z1 z2 z3

    go_wp2_with fail
    refine (submit_r (H.below B5) FW k0 b0 (show Rbv _ (.slice a n c) s0 from ⟨a, c, by rw [HN.out], by rw [HN.out]; exact g1, g2, g3, g4.below B5⟩) (by rw [HN.out]; omega)).mono ?_
    rintro e w6 ⟨v, rfl, hO, b6⟩
    rw [HPP.out] at hO ⊢
    obtain ⟨VB, VC, VQ, x61, k61, x63, k63, x64, k64, rfl, rfl, rfl, rfl, r1, r2, r3⟩ := hO.cells
    dsimp only at r1 r2 r3 ⊢
    have hbx := below_box w6 (.cells #[.int .i64 E.dp, .int .i64 E.nx, .slice x61 E.bl.length k61, .slice x63 E.ca.length k63, .slice x64 E.qu.length k64] 26)
    have X6 := (X5.later b6).later hbx
    have Y6 := (Y5.later b6).later hbx
    have S6 : DS w w6.heap.size _ _ _ E _ := DS.new ⟨r1, r2, r3⟩ B5.size (below_then B5 b6)
    have T6 := (S5.below b6).below hbx
    clear r1 r2 r3 hO b6 hbx X5 Y5 B5 S5
    clear d0 d1 d2 d3 d4 z0 z1 z2 z3
    go_upto_region 5 with fail
    obtain ⟨W6, hW6⟩ : ∃ W, W = w6.alloc (.cells #[.int .i64 E.dp, .int .i64 E.nx, .slice x61 E.bl.length k61, .slice x63 E.ca.length k63, .slice x64 E.qu.length k64] 26) := ⟨_, rfl⟩
    rw [← hW6] at X6 Y6 S6 T6 ⊢
    clear hW6
    have B6 := S6.b
    clear X6 Y6
    have t1 : (r == r) = true := by simp
    have t2 : (id == id) = true := by simp
    have d0 := T6.x.cell 0
    have d1 := T6.x.cell 1
    have d2 := T6.x.cell 2
    have d3 := T6.x.cell 3
    have d4 := T6.x.cell 4
    simp only [List.getElem?_cons_zero, List.getElem?_cons_succ] at d0 d1 d2 d3 d4
    have c0 := S6.x.cell 0
    have c1 := S6.x.cell 1
    have c2 := S6.x.cell 2
    have c3 := S6.x.cell 3
    have c4 := S6.x.cell 4
    simp only [List.getElem?_cons_zero, List.getElem?_cons_succ] at c0 c1 c2 c3 c4

    go_wp2_with fail
    refine (same_d T6.rdv S6.rdv (fine_Few hF) (fine_Mod hF) (fine_Mod hF)).mono ?_
    rintro e w7 ⟨rfl, b7⟩
    rw [sameD_refl]
    go_wp2
    go_ret
    exact ⟨rfl, below_then B6 b7⟩

theorem bls_take {W : World} {a : Option Addr} {l : List (List Int)} (h : Bls W a l) (n : Nat) : Bls W a (l.take n) := fun h0 => by
  obtain ⟨b, off, ha, hc⟩ := h (by rw [List.length_take] at h0; omega)
  refine ⟨b, off, ha, fun i s hs => hc i s ?_⟩
  rw [List.getElem?_take] at hs
  split at hs
  · exact hs
  · cases hs
set_option maxRecDepth 100000 in set_option maxHeartbeats 3200000 in
theorem law_begins (dp : Int) (aB : Option Addr) (bl : List (List Int)) (nB cB : Nat) (w : World) (HB : Bls w aB bl) (hB : bl.length = nB) (hcB : nB ≤ cB) : Calls Try.prog 4 #[.int .i64 dp, .slice aB nB cB] w fun e w' => e = .returned (.bool true) ∧ Below w.heap.size w w' := by
  have NB := Lib.hid hB
  clear hB
  have hF := fine_new dp bl
  obtain ⟨⟨E, r⟩, hP⟩ : ∃ P, newD dp bl = P := ⟨_, rfl⟩
  rw [hP] at hF
  simp only at hF
  have HPP := Lib.hid hP
  clear hP
  go_enter Try.func4, Try.ntmps4
  go_wp2_with fail
  refine (awake_11 _).mono ?_
  rintro e w2 ⟨rfl, B2⟩
  by_cases h300 : 300 < nB
  · have t0 : decide ((300 : Int) < (nB : Int)) = true := by simp; omega
    go_wp2_with fail
    refine (awake_11 _).mono ?_
    rintro e w4 ⟨rfl, b4⟩
    go_wp2
    go_ret
    exact ⟨rfl, below_then B2 b4⟩
  have t0 : decide ((300 : Int) < (nB : Int)) = false := by simp; omega
  rcases Nat.lt_or_ge 40 nB with h40 | h40
  · skip
    obtain ⟨fb, hfb⟩ : ∃ fb, fewD ⟨0, 0, bl.take 40, [], []⟩ = fb := ⟨_, rfl⟩
    have HFB := Lib.hid hfb
    have HLT := Lib.hid (show (bl.take 40).length = 40 by rw [List.length_take, NB.out]; omega)
    clear hfb
    go_wp2_with fail
    refine (few_12 0 0 aB none none (bl.take 40) [] [] 40 cB 0 0 0 0 w2 (bls_take (HB.below B2) _) (cas_nil _) (rqs_nil _) HLT.out rfl rfl).mono ?_
    rintro e w3 ⟨rfl, b3⟩
    rw [HFB.out]
    have B3 := below_then B2 b3
    clear b3 B2
    cases fb with
    | false =>
      go_wp2_with fail
      refine (awake_11 _).mono ?_
      rintro e w4 ⟨rfl, b4⟩
      go_wp2
      go_ret
      exact ⟨rfl, below_then B3 b4⟩
    | true =>
      go_wp2_with fail
      refine (new_22 dp aB bl nB cB _ (HB.below B3) NB.out (by omega)).mono ?_
      rintro e w5 ⟨v, rfl, hO, b5⟩
      rw [HPP.out] at hO ⊢
      obtain ⟨VB, VC, VQ, x51, k51, x53, k53, x54, k54, rfl, rfl, rfl, rfl, r1, r2, r3⟩ := hO.cells
      dsimp only at r1 r2 r3 ⊢
      have hbx := below_box w5 (.cells #[.int .i64 E.dp, .int .i64 E.nx, .slice x51 E.bl.length k51, .slice x53 E.ca.length k53, .slice x54 E.qu.length k54] 26)
      have S5 : DS w w5.heap.size _ _ _ E _ := DS.new ⟨r1, r2, r3⟩ B3.size (below_then B3 b5)
      clear r1 r2 r3 hO b5 hbx B3 
      go_upto_region 4 with fail
      obtain ⟨W5, hW5⟩ : ∃ W, W = w5.alloc (.cells #[.int .i64 E.dp, .int .i64 E.nx, .slice x51 E.bl.length k51, .slice x53 E.ca.length k53, .slice x54 E.qu.length k54] 26) := ⟨_, rfl⟩
      rw [← hW5] at S5  ⊢
      clear hW5
      have B5 := S5.b
      go_wp2_with fail
      refine (new_23 dp aB bl nB cB _ (HB.below B5) NB.out (by omega)).mono ?_
      rintro e w6 ⟨v, rfl, hO, b6⟩
      rw [HPP.out] at hO ⊢
      obtain ⟨VB, VC, VQ, x61, k61, x63, k63, x64, k64, rfl, rfl, rfl, rfl, r1, r2, r3⟩ := hO.cells
      dsimp only at r1 r2 r3 ⊢
      have hbx := below_box w6 (.cells #[.int .i64 E.dp, .int .i64 E.nx, .slice x61 E.bl.length k61, .slice x63 E.ca.length k63, .slice x64 E.qu.length k64] 26)
      have S6 : DS w w6.heap.size _ _ _ E _ := DS.new ⟨r1, r2, r3⟩ B5.size (below_then B5 b6)
      have T6 := (S5.below b6).below hbx
      clear r1 r2 r3 hO b6 hbx B5 S5
      go_upto_region 5 with fail
      obtain ⟨W6, hW6⟩ : ∃ W, W = w6.alloc (.cells #[.int .i64 E.dp, .int .i64 E.nx, .slice x61 E.bl.length k61, .slice x63 E.ca.length k63, .slice x64 E.qu.length k64] 26) := ⟨_, rfl⟩
      rw [← hW6] at S6 T6 ⊢
      clear hW6
      have B6 := S6.b
      have t1 : (r == r) = true := by simp
      have d0 := T6.x.cell 0
      have d1 := T6.x.cell 1
      have d2 := T6.x.cell 2
      have d3 := T6.x.cell 3
      have d4 := T6.x.cell 4
      simp only [List.getElem?_cons_zero, List.getElem?_cons_succ] at d0 d1 d2 d3 d4
      have c0 := S6.x.cell 0
      have c1 := S6.x.cell 1
      have c2 := S6.x.cell 2
      have c3 := S6.x.cell 3
      have c4 := S6.x.cell 4
      simp only [List.getElem?_cons_zero, List.getElem?_cons_succ] at c0 c1 c2 c3 c4

      go_wp2_with fail
      refine (same_d T6.rdv S6.rdv (fine_Few hF) (fine_Mod hF) (fine_Mod hF)).mono ?_
      rintro e w7 ⟨rfl, b7⟩
      rw [sameD_refl]
      go_wp2
      go_ret
      exact ⟨rfl, below_then B6 b7⟩
  · skip
    obtain ⟨fb, hfb⟩ : ∃ fb, fewD ⟨0, 0, bl.take nB, [], []⟩ = fb := ⟨_, rfl⟩
    have HFB := Lib.hid hfb
    have HLT := Lib.hid (show (bl.take nB).length = nB by rw [List.length_take, NB.out]; omega)
    clear hfb
    go_wp2_with fail
    refine (few_12 0 0 aB none none (bl.take nB) [] [] nB cB 0 0 0 0 w2 (bls_take (HB.below B2) _) (cas_nil _) (rqs_nil _) HLT.out rfl rfl).mono ?_
    rintro e w3 ⟨rfl, b3⟩
    rw [HFB.out]
    have B3 := below_then B2 b3
    clear b3 B2
    cases fb with
    | false =>
      go_wp2_with fail
      refine (awake_11 _).mono ?_
      rintro e w4 ⟨rfl, b4⟩
      go_wp2
      go_ret
      exact ⟨rfl, below_then B3 b4⟩
    | true =>
      go_wp2_with fail
      refine (new_22 dp aB bl nB cB _ (HB.below B3) NB.out (by omega)).mono ?_
      rintro e w5 ⟨v, rfl, hO, b5⟩
      rw [HPP.out] at hO ⊢
      obtain ⟨VB, VC, VQ, x51, k51, x53, k53, x54, k54, rfl, rfl, rfl, rfl, r1, r2, r3⟩ := hO.cells
      dsimp only at r1 r2 r3 ⊢
      have hbx := below_box w5 (.cells #[.int .i64 E.dp, .int .i64 E.nx, .slice x51 E.bl.length k51, .slice x53 E.ca.length k53, .slice x54 E.qu.length k54] 26)
      have S5 : DS w w5.heap.size _ _ _ E _ := DS.new ⟨r1, r2, r3⟩ B3.size (below_then B3 b5)
      clear r1 r2 r3 hO b5 hbx B3 
      go_upto_region 4 with fail
      obtain ⟨W5, hW5⟩ : ∃ W, W = w5.alloc (.cells #[.int .i64 E.dp, .int .i64 E.nx, .slice x51 E.bl.length k51, .slice x53 E.ca.length k53, .slice x54 E.qu.length k54] 26) := ⟨_, rfl⟩
      rw [← hW5] at S5  ⊢
      clear hW5
      have B5 := S5.b
      go_wp2_with fail
      refine (new_23 dp aB bl nB cB _ (HB.below B5) NB.out (by omega)).mono ?_
      rintro e w6 ⟨v, rfl, hO, b6⟩
      rw [HPP.out] at hO ⊢
      obtain ⟨VB, VC, VQ, x61, k61, x63, k63, x64, k64, rfl, rfl, rfl, rfl, r1, r2, r3⟩ := hO.cells
      dsimp only at r1 r2 r3 ⊢
      have hbx := below_box w6 (.cells #[.int .i64 E.dp, .int .i64 E.nx, .slice x61 E.bl.length k61, .slice x63 E.ca.length k63, .slice x64 E.qu.length k64] 26)
      have S6 : DS w w6.heap.size _ _ _ E _ := DS.new ⟨r1, r2, r3⟩ B5.size (below_then B5 b6)
      have T6 := (S5.below b6).below hbx
      clear r1 r2 r3 hO b6 hbx B5 S5
      go_upto_region 5 with fail
      obtain ⟨W6, hW6⟩ : ∃ W, W = w6.alloc (.cells #[.int .i64 E.dp, .int .i64 E.nx, .slice x61 E.bl.length k61, .slice x63 E.ca.length k63, .slice x64 E.qu.length k64] 26) := ⟨_, rfl⟩
      rw [← hW6] at S6 T6 ⊢
      clear hW6
      have B6 := S6.b
      have t1 : (r == r) = true := by simp
      have d0 := T6.x.cell 0
      have d1 := T6.x.cell 1
      have d2 := T6.x.cell 2
      have d3 := T6.x.cell 3
      have d4 := T6.x.cell 4
      simp only [List.getElem?_cons_zero, List.getElem?_cons_succ] at d0 d1 d2 d3 d4
      have c0 := S6.x.cell 0
      have c1 := S6.x.cell 1
      have c2 := S6.x.cell 2
      have c3 := S6.x.cell 3
      have c4 := S6.x.cell 4
      simp only [List.getElem?_cons_zero, List.getElem?_cons_succ] at c0 c1 c2 c3 c4

      go_wp2_with fail
      refine (same_d T6.rdv S6.rdv (fine_Few hF) (fine_Mod hF) (fine_Mod hF)).mono ?_
      rintro e w7 ⟨rfl, b7⟩
      rw [sameD_refl]
      go_wp2
      go_ret
      exact ⟨rfl, below_then B6 b7⟩
end Go.Proofs.Ytlhbjmoncdljoaa
