/- Walks: Submit, of the reference. -/
import Derived.Test.YtlhbjmoncdljoaaD14
namespace Go.Proofs.Ytlhbjmoncdljoaa
open Go.RowKit Go.Over Go.Dev Go.Seg Go.Grow
set_option maxRecDepth 100000 in set_option maxHeartbeats 3200000 in
theorem submit_26 (dp nx : Int) (aB aC aQ : Option Addr) (bl : List (List Int)) (ca : List Ca) (qu : List Rq) (nB cB nC cC nQ cQ : Nat) (k b : Int) (a : Option Addr) (s : List Int) (n c : Nat) (w : World) (HB : Bls w aB bl) (HC : Cas w aC ca) (HQ : Rqs w aQ qu) (hB : bl.length = nB) (hC : ca.length = nC) (hQ : qu.length = nQ)
    (mB : nB ≤ 1000000) (mC : nC ≤ 1000000) (mQ : nQ ≤ 1000000) (H : Bt w a s) (hn : s.length = n) (hz : a = none → c = 0) (hnc : n ≤ c) (hm : n ≤ 1000) :
    Calls Try.prog 26 #[.agg #[.int .i64 dp, .int .i64 nx, .slice aB nB cB, .slice aC nC cC, .slice aQ nQ cQ], .int .i64 k, .int .i64 b, .slice a n c] w (DevAns2 (subD ⟨dp, nx, bl, ca, qu⟩ k b s) w) := by
  have NB := Lib.hid hB; have NC := Lib.hid hC; have NQ := Lib.hid hQ; have NS := Lib.hid hn
  have hT0 := two_start w [.int .i64 dp, .int .i64 nx, .slice aB nB cB, .slice aC nC cC, .slice aQ nQ cQ] #[.int .i64 dp, .int .i64 nx, .slice aB nB cB, .slice aC nC cC, .slice aQ nQ cQ] rfl
  obtain ⟨P, hP⟩ : ∃ P, subD ⟨dp, nx, bl, ca, qu⟩ k b s = P := ⟨_, rfl⟩
  rw [hP]
  have HP := Lib.hid hP
  obtain ⟨w1, hw1⟩ : ∃ W, W = (w.alloc (.cells #[.int .i64 dp, .int .i64 nx, .slice aB nB cB, .slice aC nC cC, .slice aQ nQ cQ] 26)).alloc (.cells #[.int .i64 0, .int .i64 0, .slice none 0 0, .slice none 0 0, .slice none 0 0] 26) := ⟨_, rfl⟩
  have HW := Lib.hid hw1
  rw [← hw1] at hT0
  clear hB hC hQ hn hP hw1
  obtain ⟨R, hR⟩ : ∃ R, chk ⟨dp, nx, bl, ca, qu⟩ = R := ⟨_, rfl⟩
  have HR := Lib.hid hR
  clear hR
  go_enter Try.func26, Try.ntmps26
  go_wp2_with fail
  rw [← HW.out]
  clear HW
  refine (check_14 dp nx aB aC aQ bl ca qu nB cB nC cC nQ cQ w1 (HB.below hT0.b) (HC.below hT0.b) (HQ.below hT0.b) NB.out NC.out NQ.out mB mC mQ).mono ?_
  rintro e w3 ⟨rfl, b3⟩
  rw [HR.out]
  have hT3 := hT0.below b3
  clear hT0 b3
  by_cases h0 : R = 0
  · subst h0
    have x0 := hT3.a.cell 0
    have x1 := hT3.a.cell 1
    have x2 := hT3.a.cell 2
    have x3 := hT3.a.cell 3
    have x4 := hT3.a.cell 4
    simp only [List.getElem?_cons_zero, List.getElem?_cons_succ] at x0 x1 x2 x3 x4
    go_wp2_with fail
    refine (reqE_40 nB k b n w3 (by have := (chk_ok.1 HR.out).b1; simp only [NB.out] at this; omega)).mono ?_
    rintro e w4 ⟨rfl, rfl⟩
    obtain ⟨E, hE⟩ : ∃ E, rqE nB k b n = E := ⟨_, rfl⟩
    rw [hE]
    have HE := Lib.hid (show rqE (⟨dp, nx, bl, ca, qu⟩ : D).bl.length k b s.length = E by rw [← hE, NS.out]; simp only [NB.out])
    clear hE
    by_cases h1 : E = 0
    · subst h1
      have OK := chk_ok.1 HR.out
      by_cases h2 : nx = 1099511627776
      · obtain rfl := HP.out.symm.trans (subD_limit HR.out HE.out h2)
        subst h2
        have y0 := hT3.r.cell 0
        have y1 := hT3.r.cell 1
        have y2 := hT3.r.cell 2
        have y3 := hT3.r.cell 3
        have y4 := hT3.r.cell 4
        have f0 := hT3.r.frozen 0
        have f1 := hT3.r.frozen 1
        have f2 := hT3.r.frozen 2
        have f3 := hT3.r.frozen 3
        have f4 := hT3.r.frozen 4
        simp only [zD, List.getElem?_cons_zero, List.getElem?_cons_succ] at y0 y1 y2 y3 y4
        go_wp2
        refine bodyPost_ret (results_cell_two rfl _ _ (w.heap.size + 1) _ _ _ _ _ _ _ rfl (set5 hT3.r _ _ _ _ _) rfl rfl) rfl ⟨_, rfl, OwnD.zero _ _, below5 hT3.b (by omega) _ _ _ _ _⟩
      · have t2 : (nx == 1099511627776) = false := by simpa using h2
        by_cases h3 : dp ≤ (nQ : Int)
        · have t3 : decide (dp ≤ (nQ : Int)) = true := by simpa using h3
          obtain rfl := HP.out.symm.trans (subD_full HR.out HE.out h2 (by simp only [NQ.out]; omega))
          have y0 := hT3.r.cell 0
          have y1 := hT3.r.cell 1
          have y2 := hT3.r.cell 2
          have y3 := hT3.r.cell 3
          have y4 := hT3.r.cell 4
          have f0 := hT3.r.frozen 0
          have f1 := hT3.r.frozen 1
          have f2 := hT3.r.frozen 2
          have f3 := hT3.r.frozen 3
          have f4 := hT3.r.frozen 4
          simp only [zD, List.getElem?_cons_zero, List.getElem?_cons_succ] at y0 y1 y2 y3 y4
          go_wp2
          refine bodyPost_ret (results_cell_two rfl _ _ (w.heap.size + 1) _ _ _ _ _ _ _ rfl (set5 hT3.r _ _ _ _ _) rfl rfl) rfl ⟨_, rfl, OwnD.zero _ _, below5 hT3.b (by omega) _ _ _ _ _⟩
        · have t3 : decide (dp ≤ (nQ : Int)) = false := by simpa using h3
          obtain rfl := HP.out.symm.trans (subD_ok HR.out HE.out h2 (by simp only [NQ.out]; omega))
          have hn16 : nQ ≤ 16 := by have := ok_qu OK; simp only [NQ.out] at this; exact this
          have hnB : nB ≤ 256 := by have := OK.b2; simp only [NB.out] at this; exact this
          have hnC : nC ≤ 256 := by have := ok_ca OK; simp only [NC.out] at this; exact this
          have hnx := OK.n1
          have hnx2 := OK.n2
          simp only at hnx hnx2
          have lB := ok_bl OK
          have lC := ok_cl OK
          have lQ := ok_ql OK
          have LL := Lib.hid (And.intro lB (And.intro lC lQ))
          clear lB lC lQ OK
          go_wp2_with fail
          refine (copy_46 dp nx aB aC aQ bl ca qu nB cB nC cC nQ cQ w3 (HB.below hT3.b) (HC.below hT3.b) (HQ.below hT3.b) NB.out NC.out NQ.out (by omega) (by omega) (by omega) LL.out.1 LL.out.2.1 LL.out.2.2).mono ?_
          rintro e w5 ⟨v, rfl, hO, b5⟩
          obtain ⟨VB, VC, VQ, a1, k1, a3, k3, a4, k4, rfl, rfl, rfl, rfl, r1, r2, r3⟩ := hO.cells
          simp only [NB.out, NC.out, NQ.out]
          have hTR : Rows3 w5 w3.heap.size (.slice a1 bl.length k1) (.slice a3 ca.length k3) (.slice a4 qu.length k4) bl ca qu := ⟨r1, r2, r3⟩
          rw [NB.out, NC.out, NQ.out] at hTR
          have hb6 := below_box w5 (.cells #[.int .i64 dp, .int .i64 nx, .slice a1 nB k1, .slice a3 nC k3, .slice a4 nQ k4] 26)
          have hT6 := (hT3.below b5).below hb6
          have hR6 := hTR.below hb6
          have hD6 := Blk.new w5 26 #[.int .i64 dp, .int .i64 nx, .slice a1 nB k1, .slice a3 nC k3, .slice a4 nQ k4] [.int .i64 dp, .int .i64 nx, .slice a1 nB k1, .slice a3 nC k3, .slice a4 nQ k4] rfl
          have hgt4 : w.heap.size + 1 < w3.heap.size := hT3.r.lt
          have hw45 := b5.size
          clear r1 r2 r3 hO hTR hT3 b5 x0 x1 x2 x3 x4 hb6
          go_wp2_with fail
          obtain ⟨w6, hw6⟩ : ∃ W, W = w5.alloc (.cells #[.int .i64 dp, .int .i64 nx, .slice a1 nB k1, .slice a3 nC k3, .slice a4 nQ k4] 26) := ⟨_, rfl⟩
          rw [← hw6] at hT6 hR6 hD6 ⊢
          clear hw6
          obtain ⟨gd, hgd2⟩ : ∃ gd, w5.heap.size = gd := ⟨_, rfl⟩
          rw [hgd2] at hD6 hw45 ⊢
          clear hgd2
          refine wp_region_in (fun W => Two w [.int .i64 dp, .int .i64 nx, .slice aB nB cB, .slice aC nC cC, .slice aQ nQ cQ] zD W ∧ Blk W gd 26 [.int .i64 dp, .int .i64 nx, .slice a1 nB k1, .slice a3 nC k3, .slice a4 nQ k4]) [(true, 7), (false, 1), (true, 1), (false, 1), (false, 1), (true, 1), (false, 1)] [0, 1, 2, 3, 4, 5, 6, 7, 8, 9, 10, 11, 12] 12 (by kernel_rfl) (by kernel_rfl) ⟨hT6.below (Below.refl _ _).drew, hD6.later (Below.refl _ _).drew⟩ ?_
          intro W hW hWe
          have hRW : Rows3 W w3.heap.size (.slice a1 nB k1) (.slice a3 nC k3) (.slice a4 nQ k4) bl ca qu := by rw [hWe]; exact hR6.below (Below.refl _ _).drew
          clear hWe hT6 hR6 hD6
          simp only [wpSegsL, inOrder, List.filterMap_cons, List.filterMap_nil, List.getElem?_cons_zero, List.getElem?_cons_succ, List.take_succ_cons, List.take_zero, List.drop_succ_cons, List.drop_zero]
          have q0 := fun z => (hold_ok (S0 := fun W => Two w [.int .i64 dp, .int .i64 nx, .slice aB nB cB, .slice aC nC cC, .slice aQ nQ cQ] zD W ∧ Blk W gd 26 [.int .i64 dp, .int .i64 nx, .slice a1 nB k1, .slice a3 nC k3, .slice a4 nQ k4]) hW z).2.cell 4
          have q1 := fun z => (hold_ok (S0 := fun W => Two w [.int .i64 dp, .int .i64 nx, .slice aB nB cB, .slice aC nC cC, .slice aQ nQ cQ] zD W ∧ Blk W gd 26 [.int .i64 dp, .int .i64 nx, .slice a1 nB k1, .slice a3 nC k3, .slice a4 nQ k4]) hW z).1.a.cell 1
          simp only [List.getElem?_cons_zero, List.getElem?_cons_succ] at q0 q1
          repeat (go_big_quiet_step (fail))
          refine wpQuiet_nil ?_
          clear q0 q1
          go_wp2_with fail
          refine (bytes_43 a s n c W (H.below hW.1.b) NS.out hz hnc (by omega)).mono ?_
          rintro e w7 ⟨v, rfl, hv, b7⟩
          obtain ⟨a5, c5, rfl, _, _, _, _⟩ := hv.form NS.out
          have hT7 := hW.1.below b7
          have hR7 := hRW.below b7
          have hD7 := hW.2.later b7
          clear hW b7
          go_wp2
          refine ⟨hold_of (S0 := fun W => Two w [.int .i64 dp, .int .i64 nx, .slice aB nB cB, .slice aC nC cC, .slice aQ nQ cQ] zD W ∧ Blk W gd 26 [.int .i64 dp, .int .i64 nx, .slice a1 nB k1, .slice a3 nC k3, .slice a4 nQ k4]) ⟨hT7, hD7⟩, ?_⟩
          dsimp only
          repeat (go_big_quiet_step (fail))
          refine wpQuiet_nil ?_
          have hb8 := below_box w7 (.cells #[.int .i64 nx, .int .i64 k, .int .i64 b, .slice a5 n c5] 39)
          have hT8 := hT7.below hb8
          have hR8 := hR7.below hb8
          have hD8 := hD7.later hb8
          have hv8 := hv.k5 (K5.below hb8)
          go_wp2
          refine ⟨hold_of (S0 := fun W => Two w [.int .i64 dp, .int .i64 nx, .slice aB nB cB, .slice aC nC cC, .slice aQ nQ cQ] zD W ∧ Blk W gd 26 [.int .i64 dp, .int .i64 nx, .slice a1 nB k1, .slice a3 nC k3, .slice a4 nQ k4]) ⟨hT8, hD8⟩, ?_⟩
          obtain ⟨xs, hown0, hall⟩ := hR8.q
          rw [NQ.out] at hown0
          have hgd7 := hD7.lt
          refine wpList_append_k K24 rfl (.tmp 46) (.tmp 54) rfl _ _ _ rfl hown0 _ 1 1 _ rfl (src_new w7 #[.int .i64 nx, .int .i64 k, .int .i64 b, .slice a5 n c5] 39 4 1 1 rfl (by simp [Value.oneCell'])) ?c1 ?c2 ?_
          case c1 => omega
          case c2 => exact Nat.le_trans (by omega) hb8.size
          intro V9 w9 hown hgrow _
          have hk9 := K5.grown hgrow hown0 (by decide)
          have hT9 := hT8.grown hgrow hown0 hgt4
          have hD9 := hD8.grown hgrow (hD8.not_own hown0 (by decide))
          have hR9 : Rows3 w9 w3.heap.size (.slice a1 nB k1) (.slice a3 nC k3) V9 bl ca (qu ++ [(nx, k, b, s)]) :=
            ⟨hR8.b.other EB hgrow hown0 (by decide) (by decide), hR8.c.other EC hgrow hown0 (by decide) (by decide), Row.push EQ hall hk9 hown (by rw [NQ.out]) ⟨_, rfl, hv8.k5 hk9⟩⟩
          obtain ⟨a8, c8, rfl, _, _, _⟩ := hR9.q.form (n := nQ + 1) (by rw [List.length_append, NQ.out]; rfl)
          have hsz9 := hD9.lt
          refine wpList_nil ⟨hold_of (S0 := fun W => Two w [.int .i64 dp, .int .i64 nx, .slice aB nB cB, .slice aC nC cC, .slice aQ nQ cQ] zD W ∧ Blk W gd 26 [.int .i64 dp, .int .i64 nx, .slice a1 nB k1, .slice a3 nC k3, .slice a4 nQ k4]) ⟨hT9, hD9⟩, ?_⟩
          simp only [Act.put, List.setIfInBounds_toArray, List.set_cons_succ, List.set_cons_zero]
          repeat (go_big_quiet_step (fail))
          refine wpQuiet_nil ?_
          have d0 := hD9.cell 0
          have d1 := hD9.cell 1
          have d4 := hD9.cell 4
          have df1 := hD9.frozen 1
          have df4 := hD9.frozen 4
          simp only [List.getElem?_cons_zero, List.getElem?_cons_succ] at d0 d1 d4
          go_wp2
          refine ⟨trivial, NoPanic.normal ?_⟩
          have e1 : IntKind.i64.wrap (nx + 1) = nx + 1 := IntWalk.i64_in _ (by omega)
          go_wp2
          have hR10 := (hR9.dev hD9 4 (.slice a8 (nQ + 1) c8)).dev (hD9.set 4 _) 1 (.int .i64 (nx + 1))
          have hT10 := (hT9.far (g := gd) (by omega) 4 (.slice a8 (nQ + 1) c8)).far (g := gd) (by omega) 1 (.int .i64 (nx + 1))
          have hD10 := (hD9.set 4 (.slice a8 (nQ + 1) c8)).set 1 (.int .i64 (nx + 1))
          simp only [List.set_cons_zero, List.set_cons_succ] at hD10
          obtain ⟨w10, hw10⟩ : ∃ W, W = (w9.setCell ⟨gd, 4, none⟩ (.slice a8 (nQ + 1) c8)).setCell ⟨gd, 1, none⟩ (.int .i64 (nx + 1)) := ⟨_, rfl⟩
          rw [← hw10] at hR10 hT10 hD10 ⊢
          clear hw10 d0 d1 d4 df1 df4 e1 hR9 hT9 hD9 hown hgrow hown0 hall hk9 hT8 hR8 hD8 hv8 hT7 hR7 hD7 hv hRW
          refine wp_region_in (fun W => Blk W gd 26 [.int .i64 dp, .int .i64 (nx + 1), .slice a1 nB k1, .slice a3 nC k3, .slice a8 (nQ + 1) c8] ∧ Blk W w.heap.size 26 [.int .i64 dp, .int .i64 nx, .slice aB nB cB, .slice aC nC cC, .slice aQ nQ cQ]) [(true, 3), (false, 1), (true, 2)] [0, 1, 2, 3, 4, 5] 99 (by kernel_rfl) (by kernel_rfl) ⟨hD10.later (Below.refl _ _).drew, (hT10.below (Below.refl _ _).drew).a⟩ ?_
          intro W hW hWe
          have hTW : Two w [.int .i64 dp, .int .i64 nx, .slice aB nB cB, .slice aC nC cC, .slice aQ nQ cQ] zD W := by rw [hWe]; exact hT10.below (Below.refl _ _).drew
          have hRW : Rows3 W w3.heap.size (.slice a1 nB k1) (.slice a3 nC k3) (.slice a8 (nQ + 1) c8) bl ca (qu ++ [(nx, k, b, s)]) := by rw [hWe]; exact hR10.below (Below.refl _ _).drew
          clear hWe hT10 hR10 hD10
          simp only [wpSegsL, inOrder, List.filterMap_cons, List.filterMap_nil, List.getElem?_cons_zero, List.getElem?_cons_succ, List.take_succ_cons, List.take_zero, List.drop_succ_cons, List.drop_zero]
          have q0 := fun z => (hold_ok (S0 := fun W => Blk W gd 26 [.int .i64 dp, .int .i64 (nx + 1), .slice a1 nB k1, .slice a3 nC k3, .slice a8 (nQ + 1) c8] ∧ Blk W w.heap.size 26 [.int .i64 dp, .int .i64 nx, .slice aB nB cB, .slice aC nC cC, .slice aQ nQ cQ]) hW z).1.cell 0
          have q1 := fun z => (hold_ok (S0 := fun W => Blk W gd 26 [.int .i64 dp, .int .i64 (nx + 1), .slice a1 nB k1, .slice a3 nC k3, .slice a8 (nQ + 1) c8] ∧ Blk W w.heap.size 26 [.int .i64 dp, .int .i64 nx, .slice aB nB cB, .slice aC nC cC, .slice aQ nQ cQ]) hW z).1.cell 1
          have q2 := fun z => (hold_ok (S0 := fun W => Blk W gd 26 [.int .i64 dp, .int .i64 (nx + 1), .slice a1 nB k1, .slice a3 nC k3, .slice a8 (nQ + 1) c8] ∧ Blk W w.heap.size 26 [.int .i64 dp, .int .i64 nx, .slice aB nB cB, .slice aC nC cC, .slice aQ nQ cQ]) hW z).1.cell 2
          have q3 := fun z => (hold_ok (S0 := fun W => Blk W gd 26 [.int .i64 dp, .int .i64 (nx + 1), .slice a1 nB k1, .slice a3 nC k3, .slice a8 (nQ + 1) c8] ∧ Blk W w.heap.size 26 [.int .i64 dp, .int .i64 nx, .slice aB nB cB, .slice aC nC cC, .slice aQ nQ cQ]) hW z).1.cell 3
          have q4 := fun z => (hold_ok (S0 := fun W => Blk W gd 26 [.int .i64 dp, .int .i64 (nx + 1), .slice a1 nB k1, .slice a3 nC k3, .slice a8 (nQ + 1) c8] ∧ Blk W w.heap.size 26 [.int .i64 dp, .int .i64 nx, .slice aB nB cB, .slice aC nC cC, .slice aQ nQ cQ]) hW z).1.cell 4
          have q5 := fun z => (hold_ok (S0 := fun W => Blk W gd 26 [.int .i64 dp, .int .i64 (nx + 1), .slice a1 nB k1, .slice a3 nC k3, .slice a8 (nQ + 1) c8] ∧ Blk W w.heap.size 26 [.int .i64 dp, .int .i64 nx, .slice aB nB cB, .slice aC nC cC, .slice aQ nQ cQ]) hW z).2.cell 1
          simp only [List.getElem?_cons_zero, List.getElem?_cons_succ] at q0 q1 q2 q3 q4 q5
          show wpQuiet _ _ _ _ (_ :: _ :: [_]) _
          repeat (go_big_quiet_step (fail))
          refine wpQuiet_nil ?_
          clear q0 q1 q2 q3 q4 q5
          have y0 := hTW.r.cell 0
          have y1 := hTW.r.cell 1
          have y2 := hTW.r.cell 2
          have y3 := hTW.r.cell 3
          have y4 := hTW.r.cell 4
          have f0 := hTW.r.frozen 0
          have f1 := hTW.r.frozen 1
          have f2 := hTW.r.frozen 2
          have f3 := hTW.r.frozen 3
          have f4 := hTW.r.frozen 4
          simp only [zD, List.getElem?_cons_zero, List.getElem?_cons_succ] at y0 y1 y2 y3 y4
          go_wp2
          refine ⟨hold_of (S0 := fun W => Blk W gd 26 [.int .i64 dp, .int .i64 (nx + 1), .slice a1 nB k1, .slice a3 nC k3, .slice a8 (nQ + 1) c8] ∧ Blk W w.heap.size 26 [.int .i64 dp, .int .i64 nx, .slice aB nB cB, .slice aC nC cC, .slice aQ nQ cQ]) ⟨far5B hW.1 (by omega) _ _ _ _ _, far5B hW.2 (by omega) _ _ _ _ _⟩, ?_⟩
          show wpQuiet _ _ _ _ (_ :: [_]) _
          repeat (go_big_quiet_step (fail))
          refine wpQuiet_nil ?_
          refine NoPanic.normal ?_
          go_wp2
          refine bodyPost_ret (results_cell_two rfl _ _ (w.heap.size + 1) _ _ _ _ _ _ _ rfl (set5 hTW.r _ _ _ _ _) rfl rfl) rfl ⟨_, rfl, own5 (d := ⟨dp, nx + 1, bl, ca, qu ++ [(nx, k, b, s)]⟩) hTW.r (hRW.weaken (by omega)).b (hRW.weaken (by omega)).c (hRW.weaken (by omega)).q _ _ _ _ _, below5 hTW.b (by omega) _ _ _ _ _⟩
    · have t1 : (E != 0) = true := by simpa using h1
      obtain rfl := HP.out.symm.trans (subD_rq HR.out HE.out h1)
      have y0 := hT3.r.cell 0
      have y1 := hT3.r.cell 1
      have y2 := hT3.r.cell 2
      have y3 := hT3.r.cell 3
      have y4 := hT3.r.cell 4
      have f0 := hT3.r.frozen 0
      have f1 := hT3.r.frozen 1
      have f2 := hT3.r.frozen 2
      have f3 := hT3.r.frozen 3
      have f4 := hT3.r.frozen 4
      simp only [zD, List.getElem?_cons_zero, List.getElem?_cons_succ] at y0 y1 y2 y3 y4
      go_wp2
      refine bodyPost_ret (results_cell_two rfl _ _ (w.heap.size + 1) _ _ _ _ _ _ _ rfl (set5 hT3.r _ _ _ _ _) rfl rfl) rfl ⟨_, rfl, OwnD.zero _ _, below5 hT3.b (by omega) _ _ _ _ _⟩
  · have t1 : (R != 0) = true := by simpa using h0
    obtain rfl := HP.out.symm.trans (subD_chk HR.out h0)
    have y0 := hT3.r.cell 0
    have y1 := hT3.r.cell 1
    have y2 := hT3.r.cell 2
    have y3 := hT3.r.cell 3
    have y4 := hT3.r.cell 4
    have f0 := hT3.r.frozen 0
    have f1 := hT3.r.frozen 1
    have f2 := hT3.r.frozen 2
    have f3 := hT3.r.frozen 3
    have f4 := hT3.r.frozen 4
    simp only [zD, List.getElem?_cons_zero, List.getElem?_cons_succ] at y0 y1 y2 y3 y4
    go_wp2
    refine bodyPost_ret (results_cell_two rfl _ _ (w.heap.size + 1) _ _ _ _ _ _ _ rfl (set5 hT3.r _ _ _ _ _) rfl rfl) rfl ⟨_, rfl, OwnD.zero _ _, below5 hT3.b (by omega) _ _ _ _ _⟩
end Go.Proofs.Ytlhbjmoncdljoaa
