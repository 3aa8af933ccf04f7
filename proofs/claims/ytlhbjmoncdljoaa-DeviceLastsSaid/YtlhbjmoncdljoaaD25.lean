/- The walk of the laws' awake. -/
import Derived.Test.YtlhbjmoncdljoaaD24
namespace Go.Dev
def a0 : D := ⟨2, 0, [pg 0, pg 0], [], []⟩
def a1 : D := ⟨2, 1, [pg 0, pg 0], [], [(0, 2, 1, pg 1)]⟩
def a2 : D := ⟨2, 1, [pg 0, pg 0], [(1, pg 1)], []⟩
def a3 : D := ⟨2, 1, [pg 0, pg 1], [], []⟩
theorem ae0 : newD 2 (List.replicate 2 (pg 0)) = (a0, 0) := by rfl
theorem ae1 : subD a0 2 1 (pg 1) = (a1, 0, 0) := by rfl
theorem ae2 : cmpD a1 0 true = (a2, (0, 2, 1, pg 1), 0) := by rfl
theorem ae3 : contD a2 1 = pg 1 := by rfl
theorem ae4 : durD a2 1 = pg 0 := by rfl
theorem ae5 : chN a2 = 1 := by rfl
theorem ae6 : crD a2 [true] = (a3, 0) := by rfl
theorem ae7 : durD a3 1 = pg 1 := by rfl
theorem ae8 : chk a2 = 0 := by rfl
end Go.Dev
namespace Go.Proofs.Ytlhbjmoncdljoaa
open Go.RowKit Go.Over Go.Dev Go.Seg Go.Grow
theorem fewA (d : D) (h1 : d.bl.length = 2) (h2 : d.ca.length ≤ 2) (h3 : d.qu.length ≤ 2) : Few d := ⟨by omega, by omega, by omega⟩
theorem pg_len {v : Int} : (pg v).length = 32 := by simp [pg]
set_option maxRecDepth 100000 in set_option maxHeartbeats 3200000 in
theorem awake_11 (w : World) : Calls Try.prog 11 #[] w fun e w' => e = .returned (.bool true) ∧ Below w.heap.size w w' := by
  go_enter Try.func11, Try.ntmps11
  go_wp2_with fail
  refine (blocks_35 2 (by omega) w).mono ?_
  rintro e w1 ⟨V, rfl, hR, b1⟩
  obtain ⟨aV, cV, rfl, _, _, _, hbl⟩ := hR.bls (n := 2) (by simp)
  clear hR
  go_wp2_with fail
  refine (new_22 2 aV (List.replicate 2 (pg 0)) 2 cV w1 hbl (by simp) (by omega)).mono ?_
  rintro e w2 ⟨v, rfl, hO, b2⟩
  rw [ae0] at hO ⊢
  obtain ⟨VB, VC, VQ, x1, k1, x3, k3, x4, k4, rfl, rfl, rfl, rfl, r1, r2, r3⟩ := hO.cells
  have S3 : DS w w2.heap.size _ _ _ a0 _ := DS.new ⟨r1, r2, r3⟩ b1.size (below_then b1 b2)
  simp only [show a0.bl.length = 2 from rfl, show a0.ca.length = 0 from rfl, show a0.qu.length = 0 from rfl, show a0.dp = 2 from rfl, show a0.nx = 0 from rfl] at S3 ⊢
  clear hbl r1 r2 r3 hO b1 b2
  go_wp2_with fail
  have hgd : w2.heap.size < (w2.alloc (.cells #[.int .i64 2, .int .i64 0, .slice x1 2 k1, .slice x3 0 k3, .slice x4 0 k4] 26)).heap.size := by simp
  obtain ⟨w3, hw3⟩ : ∃ W, W = w2.alloc (.cells #[.int .i64 2, .int .i64 0, .slice x1 2 k1, .slice x3 0 k3, .slice x4 0 k4] 26) := ⟨_, rfl⟩
  obtain ⟨gd, hgd2⟩ : ∃ g, w2.heap.size = g := ⟨_, rfl⟩
  rw [← hw3] at S3 hgd ⊢
  rw [hgd2] at S3 hgd ⊢
  clear hw3 hgd2
  go_cut [2, 3] from 19 (fun v2 v3 wr => ∃ (y1 y3 y4 : Option Addr) (m1 m3 m4 : Nat), v2 = .int .i64 0 ∧ v3 = .int .i64 0 ∧ DS w gd (.slice y1 2 m1) (.slice y3 0 m3) (.slice y4 1 m4) a1 wr)
  case first =>
    refine wp_region_forkL (fun _ => True) [] 0 1 [(false, 1), (false, 1), (true, 4), (false, 1), (true, 2)] [1, 2, 3, 4, 5, 6, 7, 8, 9] [(false, 1), (false, 1), (true, 4), (false, 1), (true, 2)] [0, 2, 3, 4, 5, 6, 7, 8, 9] 99 (by kernel_rfl) (by kernel_rfl) trivial ?_
    intro W _ hWe
    have SW : DS w gd (.slice x1 2 k1) (.slice x3 0 k3) (.slice x4 0 k4) a0 W := by rw [hWe]; exact S3.below (Below.refl _ _).drew
    clear hWe S3 hgd
    simp only [wpSegsL, inOrder, List.filterMap_cons, List.filterMap_nil, List.getElem?_cons_zero, List.getElem?_cons_succ, List.take_succ_cons, List.take_zero, List.drop_succ_cons, List.drop_zero]
    refine wpQuiet_nil ?_
    have d0 := SW.x.cell 0
    have d1 := SW.x.cell 1
    have d2 := SW.x.cell 2
    have d3 := SW.x.cell 3
    have d4 := SW.x.cell 4
    simp only [List.getElem?_cons_zero, List.getElem?_cons_succ] at d0 d1 d2 d3 d4
    refine ⟨?_, ?_⟩
    · show wpList _ _ _ [_] _ _
      go_wp2
      clear d0 d1 d2 d3 d4
      refine ⟨hold_of (S0 := fun _ => True) trivial, ?_⟩
      go_wp2_with fail
      refine (page_34 1 _).mono ?_
      rintro e w4 ⟨v, rfl, hv4, b4⟩
      obtain ⟨p4, q4, rfl, _, _, _, _⟩ := hv4.form (n := 32) pg_len
      have S4 := SW.below b4
      go_wp2
      refine ⟨hold_of (S0 := fun _ => True) trivial, ?_⟩
      go_wp2_with fail
      refine (submit_d S4.rdv (fewA a0 rfl (by decide) (by decide)) 2 1 hv4.rbv (by rw [pg_len]; omega)).mono ?_
      rintro e w5 ⟨v, rfl, hO, b5⟩
      rw [ae1] at hO ⊢
      obtain ⟨VB2, VC2, VQ2, a1', l1, a3', l3, a4', l4, rfl, rfl, rfl, rfl, r1, r2, r3⟩ := hO.cells
      have S5 := S4.below b5
      have hS6 := S5.store ⟨r1, r2, r3⟩ (Nat.le_trans S4.b.size (Nat.le_refl _))
      simp only [show a1.bl.length = 2 from rfl, show a1.ca.length = 0 from rfl, show a1.qu.length = 1 from rfl, show a1.dp = 2 from rfl, show a1.nx = 1 from rfl] at hS6 ⊢
      have d0 := S5.x.cell 0
      have d1 := S5.x.cell 1
      have d2 := S5.x.cell 2
      have d3 := S5.x.cell 3
      have d4 := S5.x.cell 4
      simp only [List.getElem?_cons_zero, List.getElem?_cons_succ] at d0 d1 d2 d3 d4
      have df0 := S5.x.frozen 0
      have df1 := S5.x.frozen 1
      have df2 := S5.x.frozen 2
      have df3 := S5.x.frozen 3
      have df4 := S5.x.frozen 4
      have hg5 := S5.x.lt
      go_wp2
      refine ⟨hold_of (S0 := fun _ => True) trivial, ?_⟩
      show wpQuiet _ _ _ _ (_ :: _ :: _ :: [_]) _
      repeat (go_big_quiet_step (fail))
      refine wpQuiet_nil ?_
      clear hO r1 r2 r3 S4 b5
      go_wp2
      refine ⟨hold_of (S0 := fun _ => True) trivial, ?_⟩
      show wpQuiet _ _ _ _ (_ :: [_]) _
      repeat (go_big_quiet_step (fail))
      refine wpQuiet_nil ?_
      refine NoPanic.normal ?_
      go_wp2
      go_meet
      case rel => exact ⟨_, _, _, _, _, _, rfl, rfl, hS6⟩
    · clear d0 d1 d2 d3 d4
      show wpList _ _ _ [_] _ _
      go_wp2_with fail
      refine (page_34 1 _).mono ?_
      rintro e w4 ⟨v, rfl, hv4, b4⟩
      obtain ⟨p4, q4, rfl, _, _, _, _⟩ := hv4.form (n := 32) pg_len
      have S4 := SW.below b4
      have d0 := S4.x.cell 0
      have d1 := S4.x.cell 1
      have d2 := S4.x.cell 2
      have d3 := S4.x.cell 3
      have d4 := S4.x.cell 4
      simp only [List.getElem?_cons_zero, List.getElem?_cons_succ] at d0 d1 d2 d3 d4
      go_wp2
      refine ⟨hold_of (S0 := fun _ => True) trivial, ?_⟩
      show wpList _ _ _ [_] _ _
      go_wp2
      clear d0 d1 d2 d3 d4
      refine ⟨hold_of (S0 := fun _ => True) trivial, ?_⟩
      go_wp2_with fail
      refine (submit_d S4.rdv (fewA a0 rfl (by decide) (by decide)) 2 1 hv4.rbv (by rw [pg_len]; omega)).mono ?_
      rintro e w5 ⟨v, rfl, hO, b5⟩
      rw [ae1] at hO ⊢
      obtain ⟨VB2, VC2, VQ2, a1', l1, a3', l3, a4', l4, rfl, rfl, rfl, rfl, r1, r2, r3⟩ := hO.cells
      have S5 := S4.below b5
      have hS6 := S5.store ⟨r1, r2, r3⟩ (Nat.le_trans S4.b.size (Nat.le_refl _))
      simp only [show a1.bl.length = 2 from rfl, show a1.ca.length = 0 from rfl, show a1.qu.length = 1 from rfl, show a1.dp = 2 from rfl, show a1.nx = 1 from rfl] at hS6 ⊢
      have d0 := S5.x.cell 0
      have d1 := S5.x.cell 1
      have d2 := S5.x.cell 2
      have d3 := S5.x.cell 3
      have d4 := S5.x.cell 4
      simp only [List.getElem?_cons_zero, List.getElem?_cons_succ] at d0 d1 d2 d3 d4
      have df0 := S5.x.frozen 0
      have df1 := S5.x.frozen 1
      have df2 := S5.x.frozen 2
      have df3 := S5.x.frozen 3
      have df4 := S5.x.frozen 4
      have hg5 := S5.x.lt
      go_wp2
      refine ⟨hold_of (S0 := fun _ => True) trivial, ?_⟩
      show wpQuiet _ _ _ _ (_ :: _ :: _ :: [_]) _
      repeat (go_big_quiet_step (fail))
      refine wpQuiet_nil ?_
      clear hO r1 r2 r3 S4 b5
      go_wp2
      refine ⟨hold_of (S0 := fun _ => True) trivial, ?_⟩
      show wpQuiet _ _ _ _ (_ :: [_]) _
      repeat (go_big_quiet_step (fail))
      refine wpQuiet_nil ?_
      refine NoPanic.normal ?_
      go_wp2
      go_meet
      case rel => exact ⟨_, _, _, _, _, _, rfl, rfl, hS6⟩
  case rest =>
    clear S3 hgd
    obtain ⟨y1, y3, y4, m1, m3, m4, rfl, rfl, S1⟩ := hcut
    have d0 := S1.x.cell 0
    have d1 := S1.x.cell 1
    have d2 := S1.x.cell 2
    have d3 := S1.x.cell 3
    have d4 := S1.x.cell 4
    simp only [List.getElem?_cons_zero, List.getElem?_cons_succ] at d0 d1 d2 d3 d4
    go_wp2_with fail
    refine (complete_d S1.rdv (fewA a1 rfl (by decide) (by decide)) 0 true).mono ?_
    rintro e w5 ⟨v, vq, rfl, hO, hq, b5⟩
    rw [ae2] at hO hq ⊢
    obtain ⟨VB, VC, VQ, x1', k1', x3', k3', x4', k4', rfl, rfl, rfl, rfl, r1, r2, r3⟩ := hO.cells
    obtain ⟨sv, rfl, hsv⟩ := hq
    obtain ⟨x5, k5, rfl, _, _, _, _⟩ := hsv.form (n := 32) pg_len
    have S5 := S1.below b5
    clear d0 d1 d2 d3 d4 hO
    have hlt5 := S5.x.lt
    have hs1 := S1.b.size
    have S6 := (S5.store ⟨r1, r2, r3⟩ hs1).below (below_box _ (.cells #[.int .i64 0, .int .i64 2, .int .i64 1, .slice x5 32 k5] 39))
    simp only [show a2.bl.length = 2 from rfl, show a2.ca.length = 1 from rfl, show a2.qu.length = 0 from rfl, show a2.dp = 2 from rfl, show a2.nx = 1 from rfl] at S6 ⊢
    have d0 := S5.x.cell 0
    have d1 := S5.x.cell 1
    have d2 := S5.x.cell 2
    have d3 := S5.x.cell 3
    have d4 := S5.x.cell 4
    simp only [List.getElem?_cons_zero, List.getElem?_cons_succ] at d0 d1 d2 d3 d4
    have df0 := S5.x.frozen 0
    have df1 := S5.x.frozen 1
    have df2 := S5.x.frozen 2
    have df3 := S5.x.frozen 3
    have df4 := S5.x.frozen 4
    clear r1 r2 r3 hsv b5 S1
    go_upto_region 8 with fail
    have X6 := Blk.new (((((w5.setCell ⟨gd, 0, none⟩ (.int .i64 2)).setCell ⟨gd, 1, none⟩ (.int .i64 1)).setCell ⟨gd, 2, none⟩ (.slice x1' 2 k1')).setCell ⟨gd, 3, none⟩ (.slice x3' 1 k3')).setCell ⟨gd, 4, none⟩ (.slice x4' 0 k4')) 39 #[.int .i64 0, .int .i64 2, .int .i64 1, .slice x5 32 k5] [.int .i64 0, .int .i64 2, .int .i64 1, .slice x5 32 k5] rfl
    rw [show (((((w5.setCell ⟨gd, 0, none⟩ (.int .i64 2)).setCell ⟨gd, 1, none⟩ (.int .i64 1)).setCell ⟨gd, 2, none⟩ (.slice x1' 2 k1')).setCell ⟨gd, 3, none⟩ (.slice x3' 1 k3')).setCell ⟨gd, 4, none⟩ (.slice x4' 0 k4')).heap.size = w5.heap.size by simp [World.setCell]] at X6
    obtain ⟨w6, hw6⟩ : ∃ W, W = (((((w5.setCell ⟨gd, 0, none⟩ (.int .i64 2)).setCell ⟨gd, 1, none⟩ (.int .i64 1)).setCell ⟨gd, 2, none⟩ (.slice x1' 2 k1')).setCell ⟨gd, 3, none⟩ (.slice x3' 1 k3')).setCell ⟨gd, 4, none⟩ (.slice x4' 0 k4')).alloc (.cells #[.int .i64 0, .int .i64 2, .int .i64 1, .slice x5 32 k5] 39) := ⟨_, rfl⟩
    rw [← hw6] at S6 X6 ⊢
    clear hw6 S5 d0 d1 d2 d3 d4 df0 df1 df2 df3 df4
    have z1 := X6.cell 1
    simp only [List.getElem?_cons_zero, List.getElem?_cons_succ] at z1
    have d0 := S6.x.cell 0
    have d1 := S6.x.cell 1
    have d2 := S6.x.cell 2
    have d3 := S6.x.cell 3
    have d4 := S6.x.cell 4
    simp only [List.getElem?_cons_zero, List.getElem?_cons_succ] at d0 d1 d2 d3 d4

    go_wp2_with fail
    clear z1
    refine (content_d S6.rdv (fewA a2 rfl (by decide) (by decide)) 1).mono ?_
    rintro e w7 ⟨v, rfl, hv7, b7⟩
    rw [ae3] at hv7
    obtain ⟨p7, q7, rfl, _, _, _, _⟩ := hv7.form (n := 32) pg_len
    have S7 := S6.below b7
    clear S6 b7 d0 d1 d2 d3 d4

    go_wp2_with fail
    refine (page_34 1 w7).mono ?_
    rintro e w8 ⟨v, rfl, hv8, b8⟩
    obtain ⟨p8, q8, rfl, _, _, _, _⟩ := hv8.form (n := 32) pg_len
    have S8 := S7.below b8
    have hu8 := hv7.k5 (K5.below b8)
    clear S7 hv7 b8
    go_wp2_with fail
    refine (same_b hu8.rbv hv8.rbv (by rw [pg_len]; omega) (by rw [pg_len]; omega)).mono ?_
    rintro e w9 ⟨rfl, b9⟩
    rw [show decide (pg 1 = pg 1) = true by simp]
    have S9 := S8.below b9
    clear S8 hv8 hu8 b9
    have d0 := S9.x.cell 0
    have d1 := S9.x.cell 1
    have d2 := S9.x.cell 2
    have d3 := S9.x.cell 3
    have d4 := S9.x.cell 4
    simp only [List.getElem?_cons_zero, List.getElem?_cons_succ] at d0 d1 d2 d3 d4

    go_wp2_with fail
    refine (durable_d S9.rdv (fewA a2 rfl (by decide) (by decide)) 1).mono ?_
    rintro e w10 ⟨v, rfl, hv10, b10⟩
    rw [ae4] at hv10
    obtain ⟨p10, q10, rfl, _, _, _, _⟩ := hv10.form (n := 32) pg_len
    have S10 := S9.below b10
    clear S9 b10 d0 d1 d2 d3 d4

    go_wp2_with fail
    refine (page_34 0 w10).mono ?_
    rintro e w11 ⟨v, rfl, hv11, b11⟩
    obtain ⟨p11, q11, rfl, _, _, _, _⟩ := hv11.form (n := 32) pg_len
    have S11 := S10.below b11
    have hu11 := hv10.k5 (K5.below b11)
    clear S10 hv10 b11
    go_wp2_with fail
    refine (same_b hu11.rbv hv11.rbv (by rw [pg_len]; omega) (by rw [pg_len]; omega)).mono ?_
    rintro e w12 ⟨rfl, b12⟩
    rw [show decide (pg 0 = pg 0) = true by simp]
    have S12 := S11.below b12
    clear S11 hv11 hu11 b12
    have d0 := S12.x.cell 0
    have d1 := S12.x.cell 1
    have d2 := S12.x.cell 2
    have d3 := S12.x.cell 3
    have d4 := S12.x.cell 4
    simp only [List.getElem?_cons_zero, List.getElem?_cons_succ] at d0 d1 d2 d3 d4

    go_wp2_with fail
    refine (choices_d S12.rdv (fewA a2 rfl (by decide) (by decide))).mono ?_
    rintro e w13 ⟨rfl, b13⟩
    rw [ae5]
    have S13 := S12.below b13
    clear S12 b13 d0 d1 d2 d3 d4
    have d0 := S13.x.cell 0
    have d1 := S13.x.cell 1
    have d2 := S13.x.cell 2
    have d3 := S13.x.cell 3
    have d4 := S13.x.cell 4
    simp only [List.getElem?_cons_zero, List.getElem?_cons_succ] at d0 d1 d2 d3 d4
    go_wp2_with fail
    have hbx := below_box w13 (.cells #[.bool true] 47)
    have hPk : Pk (w13.alloc (.cells #[.bool true] 4)) (some ⟨w13.heap.size, 0, none⟩) [true] := fun _ => ⟨_, 0, rfl, fun i hi => by
      obtain rfl : i = 0 := by simpa using hi
      exact (Blk.new w13 4 #[.bool true] [.bool true] rfl).cell 0⟩
    have S14 := S13.below (below_box w13 (.cells #[.bool true] 4))
    refine (crash_d S14.rdv (fewA a2 rfl (by decide) (by decide)) _ 1 1 [true] hPk rfl).mono ?_
    rintro e w15 ⟨v, rfl, hO, b15⟩
    rw [ae6] at hO ⊢
    obtain ⟨VB, VC, VQ, x1', k1', x3', k3', x4', k4', rfl, rfl, rfl, rfl, r1, r2, r3⟩ := hO.cells
    have S15 := S14.below b15
    have S16 := S15.below (below_box w15 (.cells #[.int .i64 a3.dp, .int .i64 a3.nx, .slice x1' a3.bl.length k1', .slice x3' a3.ca.length k3', .slice x4' a3.qu.length k4'] 26))
    have T16 : DS w w15.heap.size _ _ _ a3 _ := DS.new ⟨r1, r2, r3⟩ (Nat.le_trans S14.b.size (Nat.le_refl _)) S15.b
    simp only [show a3.bl.length = 2 from rfl, show a3.ca.length = 0 from rfl, show a3.qu.length = 0 from rfl, show a3.dp = 2 from rfl, show a3.nx = 1 from rfl] at S16 T16 ⊢
    clear S13 S14 S15 hO r1 r2 r3 hPk hbx b15 d0 d1 d2 d3 d4
    go_upto_region 11 with fail
    obtain ⟨w16, hw16⟩ : ∃ W, W = w15.alloc (.cells #[.int .i64 2, .int .i64 1, .slice x1' 2 k1', .slice x3' 0 k3', .slice x4' 0 k4'] 26) := ⟨_, rfl⟩
    rw [← hw16] at S16 T16 ⊢
    clear hw16
    have d0 := T16.x.cell 0
    have d1 := T16.x.cell 1
    have d2 := T16.x.cell 2
    have d3 := T16.x.cell 3
    have d4 := T16.x.cell 4
    simp only [List.getElem?_cons_zero, List.getElem?_cons_succ] at d0 d1 d2 d3 d4
    go_wp2_with fail
    refine (durable_d T16.rdv (fewA a3 rfl (by decide) (by decide)) 1).mono ?_
    rintro e w17 ⟨v, rfl, hv17, b17⟩
    rw [ae7] at hv17
    obtain ⟨p17, q17, rfl, _, _, _, _⟩ := hv17.form (n := 32) pg_len
    have S17 := S16.below b17
    clear S16 T16 b17 d0 d1 d2 d3 d4
    go_wp2_with fail
    refine (page_34 1 w17).mono ?_
    rintro e w18 ⟨v, rfl, hv18, b18⟩
    obtain ⟨p18, q18, rfl, _, _, _, _⟩ := hv18.form (n := 32) pg_len
    have S18 := S17.below b18
    have hu18 := hv17.k5 (K5.below b18)
    clear S17 hv17 b18
    go_wp2_with fail
    refine (same_b hu18.rbv hv18.rbv (by rw [pg_len]; omega) (by rw [pg_len]; omega)).mono ?_
    rintro e w19 ⟨rfl, b19⟩
    rw [show decide (pg 1 = pg 1) = true by simp]
    have S19 := S18.below b19
    clear S18 hv18 hu18 b19
    have d0 := S19.x.cell 0
    have d1 := S19.x.cell 1
    have d2 := S19.x.cell 2
    have d3 := S19.x.cell 3
    have d4 := S19.x.cell 4
    simp only [List.getElem?_cons_zero, List.getElem?_cons_succ] at d0 d1 d2 d3 d4
    go_wp2_with fail
    refine (check_d S19.rdv (fewA a2 rfl (by decide) (by decide))).mono ?_
    rintro e w20 ⟨rfl, b20⟩
    rw [ae8]
    have S20 := S19.below b20
    clear S19 b20 d0 d1 d2 d3 d4
    go_wp2
    go_ret
    exact ⟨rfl, S20.b⟩
end Go.Proofs.Ytlhbjmoncdljoaa
