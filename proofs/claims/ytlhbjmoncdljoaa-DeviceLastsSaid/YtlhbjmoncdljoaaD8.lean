/- Walks: a copy of a device, of the reference. -/
import Derived.Test.YtlhbjmoncdljoaaD7
namespace Go.Proofs.Ytlhbjmoncdljoaa
open Go.RowKit Go.Over Go.Dev Go.Seg Go.Grow
set_option maxRecDepth 100000 in set_option maxHeartbeats 3200000 in
theorem copy_46 (dp nx : Int) (aB aC aQ : Option Addr) (bl : List (List Int)) (ca : List Ca) (qu : List Rq) (nB cB nC cC nQ cQ : Nat) (w : World) (HB : Bls w aB bl) (HC : Cas w aC ca) (HQ : Rqs w aQ qu) (hB : bl.length = nB) (hC : ca.length = nC) (hQ : qu.length = nQ) (mB : nB ≤ 1000) (mC : nC ≤ 1000) (mQ : nQ ≤ 1000)
    (lB : ∀ b ∈ bl, b.length ≤ 1000) (lC : ∀ c ∈ ca, c.2.length ≤ 1000) (lQ : ∀ q ∈ qu, q.2.2.2.length ≤ 1000) :
    Calls Try.prog 46 #[.agg #[.int .i64 dp, .int .i64 nx, .slice aB nB cB, .slice aC nC cC, .slice aQ nQ cQ]] w fun e w' => ∃ v, e = .returned v ∧ OwnD w' w.heap.size v ⟨dp, nx, bl, ca, qu⟩ ∧ Below w.heap.size w w' := by
  have NB := Lib.hid hB; have NC := Lib.hid hC; have NQ := Lib.hid hQ
  have LB := Lib.hid lB; have LC := Lib.hid lC; have LQ := Lib.hid lQ
  clear hB hC hQ lB lC lQ
  go_enter Try.func46, Try.ntmps46
  go_wp2
  have hK0 := keep_start w dp nx (.slice aB nB cB) (.slice aC nC cC) (.slice aQ nQ cQ)
  go_loopg [4] nB (fun g i0 wr => ∃ (i : Nat) (V : Value), i + g = nB ∧ i0 = .int .i64 i ∧ Row 31 1 RB wr w.heap.size V (bl.take i) ∧ Keep w [.int .i64 dp, .int .i64 nx, .slice aB nB cB, .slice aC nC cC, .slice aQ nQ cQ] zD [.int .i64 dp, .int .i64 nx, V, .slice none 0 0, .slice none 0 0] w.heap.size 26 [.int .i64 dp, .int .i64 nx, .slice aB nB cB, .slice aC nC cC, .slice aQ nQ cQ] wr)
  case atStart => exact ⟨0, .slice none 0 0, by omega, rfl, Row.nil _ _, hK0⟩
  case round =>
    clear hK0
    obtain ⟨i, V, hg, rfl, hR, hK⟩ := hrel
    obtain ⟨aV, cV, rfl, _, _, _⟩ := hR.form (take_len NB.out (by omega))
    have p2 := hK.a.cell 2
    simp only [List.getElem?_cons_zero, List.getElem?_cons_succ] at p2
    cases gk with
    | zero =>
      obtain rfl : i = nB := by omega
      have hRB : Row 31 1 RB wr w.heap.size (.slice aV i cV) bl := by rw [List.take_of_length_le (by rw [NB.out]; exact Nat.le_refl _)] at hR; exact hR
      clear hg hR
      go_wp2
      clear p2
      go_loopg [5] nC (fun g i0 wr => ∃ (j : Nat) (V : Value), j + g = nC ∧ i0 = .int .i64 j ∧ Row 64 2 RC wr w.heap.size V (ca.take j) ∧ Row 31 1 RB wr w.heap.size (.slice aV i cV) bl ∧ Keep w [.int .i64 dp, .int .i64 nx, .slice aB i cB, .slice aC nC cC, .slice aQ nQ cQ] zD [.int .i64 dp, .int .i64 nx, .slice aV i cV, V, .slice none 0 0] w.heap.size 26 [.int .i64 dp, .int .i64 nx, .slice aB i cB, .slice aC nC cC, .slice aQ nQ cQ] wr)
      case atStart => exact ⟨0, .slice none 0 0, by omega, rfl, Row.nil _ _, hRB, hK⟩
      case round =>
        clear hRB hK
        obtain ⟨j, V, hg, rfl, hR, hRB, hK⟩ := hrel
        obtain ⟨aW, cW, rfl, _, _, _⟩ := hR.form (take_len NC.out (by omega))
        have p3 := hK.a.cell 3
        simp only [List.getElem?_cons_zero, List.getElem?_cons_succ] at p3
        cases gk with
        | zero =>
          obtain rfl : j = nC := by omega
          have hRC : Row 64 2 RC wr w.heap.size (.slice aW j cW) ca := by rw [List.take_of_length_le (by rw [NC.out]; exact Nat.le_refl _)] at hR; exact hR
          clear hg hR
          go_wp2
          clear p3
          go_loopg [6] nQ (fun g i0 wr => ∃ (k : Nat) (V : Value), k + g = nQ ∧ i0 = .int .i64 k ∧ Row 39 4 RQ wr w.heap.size V (qu.take k) ∧ Row 31 1 RB wr w.heap.size (.slice aV i cV) bl ∧ Row 64 2 RC wr w.heap.size (.slice aW j cW) ca ∧ Keep w [.int .i64 dp, .int .i64 nx, .slice aB i cB, .slice aC j cC, .slice aQ nQ cQ] zD [.int .i64 dp, .int .i64 nx, .slice aV i cV, .slice aW j cW, V] w.heap.size 26 [.int .i64 dp, .int .i64 nx, .slice aB i cB, .slice aC j cC, .slice aQ nQ cQ] wr)
          case atStart => exact ⟨0, .slice none 0 0, by omega, rfl, Row.nil _ _, hRB, hRC, hK⟩
          case round =>
            clear hRB hRC hK
            obtain ⟨k, V, hg, rfl, hR, hRB, hRC, hK⟩ := hrel
            obtain ⟨aU, cU, rfl, _, _, _⟩ := hR.form (take_len NQ.out (by omega))
            have p4 := hK.a.cell 4
            simp only [List.getElem?_cons_zero, List.getElem?_cons_succ] at p4
            cases gk with
            | zero =>
              obtain rfl : k = nQ := by omega
              have hRQ : Row 39 4 RQ wr w.heap.size (.slice aU k cU) qu := by rw [List.take_of_length_le (by rw [NQ.out]; exact Nat.le_refl _)] at hR; exact hR
              have e0 := hK.d.cell 0
              have e1 := hK.d.cell 1
              have e2 := hK.d.cell 2
              have e3 := hK.d.cell 3
              have e4 := hK.d.cell 4
              have f0 := hK.c.cell 0
              have f1 := hK.c.cell 1
              have f2 := hK.c.cell 2
              have f3 := hK.c.cell 3
              have f4 := hK.c.cell 4
              have g0 := hK.c.frozen 0
              have g1 := hK.c.frozen 1
              have g2 := hK.c.frozen 2
              have g3 := hK.c.frozen 3
              have g4 := hK.c.frozen 4
              simp only [zD, List.getElem?_cons_zero, List.getElem?_cons_succ] at e0 e1 e2 e3 e4 f0 f1 f2 f3 f4
              clear hg hR
              go_wp2
              clear e0 e1 e2 e3 e4 f0 f1 f2 f3 f4 g0 g1 g2 g3 g4
              have C1 := hK.c.set 0 (.int .i64 dp)
              have C2 := C1.set 1 (.int .i64 nx)
              have C3 := C2.set 2 (.slice aV i cV)
              have C4 := C3.set 3 (.slice aW j cW)
              have C5 := C4.set 4 (.slice aU k cU)
              refine bodyPost_ret (v := .agg #[.int .i64 dp, .int .i64 nx, .slice aV i cV, .slice aW j cW, .slice aU k cU]) (results_cell_row (p := 2) (ty := 26) rfl _ _ (w.heap.size + 1) 26 #[.int .i64 dp, .int .i64 nx, .slice aV i cV, .slice aW j cW, .slice aU k cU] (0, 0) _ rfl C5 Try.underlying26 rfl (by kernel_rfl)) rfl ⟨_, rfl, ⟨_, _, _, rfl, ?_, ?_, ?_⟩, ?_⟩
              · exact ((((hRB.far EB hK.c (by decide) (by decide) 0 _).far EB C1 (by decide) (by decide) 1 _).far EB C2 (by decide) (by decide) 2 _).far EB C3 (by decide) (by decide) 3 _).far EB C4 (by decide) (by decide) 4 _
              · exact ((((hRC.far EC hK.c (by decide) (by decide) 0 _).far EC C1 (by decide) (by decide) 1 _).far EC C2 (by decide) (by decide) 2 _).far EC C3 (by decide) (by decide) 3 _).far EC C4 (by decide) (by decide) 4 _
              · exact ((((hRQ.far EQ hK.c (by decide) (by decide) 0 _).far EQ C1 (by decide) (by decide) 1 _).far EQ C2 (by decide) (by decide) 2 _).far EQ C3 (by decide) (by decide) 3 _).far EQ C4 (by decide) (by decide) 4 _
              · exact ((((hK.b.setCell (by simp) _).setCell (by simp) _).setCell (by simp) _).setCell (by simp) _).setCell (by simp) _
            | succ g =>
              have hin : k < nQ := by omega
              obtain ⟨⟨q1, q2, q3, s⟩, hs⟩ := get_some NQ.out hin
              have hsl := LQ.out _ (List.mem_of_getElem? hs)
              have TS := Lib.hid (take_snoc hs)
              have TL := Lib.hid (take_len NQ.out (show k ≤ nQ by omega))
              obtain ⟨b, off, rfl, hc⟩ := (HQ.below hK.b) (by rw [NQ.out]; omega)
              obtain ⟨s1, s2, s3, a', c', s0, hc1, hc2, hc3, hbt⟩ := hc k _ hs
              obtain ⟨m, hm⟩ : ∃ m, s.length = m := ⟨_, rfl⟩
              simp only [hm] at s0 s1 s2 s3 hc1 hsl
              have HM := Lib.hid hm; have HG := Lib.hid hg
              clear hc hs hm hg
              have hKx := hK.boxed 39 #[.int .i64 q1, .int .i64 q2, .int .i64 q3, .slice a' m c'] [.int .i64 q1, .int .i64 q2, .int .i64 q3, .slice a' m c'] rfl
              have hRx := hR.later EQ (below_box wr (.cells #[.int .i64 q1, .int .i64 q2, .int .i64 q3, .slice a' m c'] 39))
              have hRBx := hRB.later EB (below_box wr (.cells #[.int .i64 q1, .int .i64 q2, .int .i64 q3, .slice a' m c'] 39))
              have hRCx := hRC.later EC (below_box wr (.cells #[.int .i64 q1, .int .i64 q2, .int .i64 q3, .slice a' m c'] 39))
              have hbx := hbt.below (below_box wr (.cells #[.int .i64 q1, .int .i64 q2, .int .i64 q3, .slice a' m c'] 39))
              have hVX : (Value.slice aU k cU).ownBlock ≠ some wr.heap.size := fun h => by
                obtain ⟨_, ho, _⟩ := hR
                have := (World.ownsRow.lt ho _ h).2
                omega
              clear hK hR hRB hRC hbt
              go_wp2
              clear s0 s1 s2 s3 p4
              refine wp_region_in (Keep w [.int .i64 dp, .int .i64 nx, .slice aB i cB, .slice aC j cC, .slice (some ⟨b, off, none⟩) nQ cQ] zD [.int .i64 dp, .int .i64 nx, .slice aV i cV, .slice aW j cW, .slice aU k cU] wr.heap.size 39 [.int .i64 q1, .int .i64 q2, .int .i64 q3, .slice a' m c']) [(true, 10), (false, 1), (true, 1), (false, 1), (false, 1), (true, 1), (false, 1)] [0, 1, 2, 3, 4, 5, 6, 7, 8, 9, 10, 11, 12, 13, 14, 15] 15 (by kernel_rfl) (by kernel_rfl) (hKx.below (Below.refl _ _).drew) ?_
              intro W hW hWe
              have hRW : Row 39 4 RQ W w.heap.size (.slice aU k cU) (qu.take k) := by rw [hWe]; exact hRx.later EQ (Below.refl _ _).drew
              have hRBW : Row 31 1 RB W w.heap.size (.slice aV i cV) bl := by rw [hWe]; exact hRBx.later EB (Below.refl _ _).drew
              have hRCW : Row 64 2 RC W w.heap.size (.slice aW j cW) ca := by rw [hWe]; exact hRCx.later EC (Below.refl _ _).drew
              have hbW : Bt W a' s := by rw [hWe]; exact hbx.below (Below.refl _ _).drew
              clear hWe hRx hRBx hRCx hbx hKx
              simp only [wpSegsL, inOrder, List.filterMap_cons, List.filterMap_nil, List.getElem?_cons_zero, List.getElem?_cons_succ, List.take_succ_cons, List.take_zero, List.drop_succ_cons, List.drop_zero]
              have r1 := fun z => (hold_ok hW z).d.cell 4
              have r2 := fun z => (hold_ok hW z).x.cell 0
              have r3 := fun z => (hold_ok hW z).x.cell 1
              have r4 := fun z => (hold_ok hW z).x.cell 2
              have r5 := fun z => (hold_ok hW z).x.cell 3
              simp only [List.getElem?_cons_zero, List.getElem?_cons_succ] at r1 r2 r3 r4 r5
              repeat (go_big_quiet_step (fail))
              refine wpQuiet_nil ?_
              clear r1 r2 r3 r4 r5
              go_wp2_with fail
              refine (bytes_43 a' s m c' W hbW HM.out hc3 hc1 (by omega)).mono ?_
              rintro e w2 ⟨v, rfl, hv, hb2⟩
              obtain ⟨a2, c2, rfl, _, _, _, _⟩ := hv.form HM.out
              have hK2 := hW.below hb2
              have hR2 := hRW.later EQ hb2
              have hRB2 := hRBW.later EB hb2
              have hRC2 := hRCW.later EC hb2
              clear hW hRW hRBW hRCW hbW hb2
              go_wp2
              refine ⟨hold_of hK2, ?_⟩
              dsimp only
              repeat (go_big_quiet_step (fail))
              refine wpQuiet_nil ?_
              go_wp2
              have hK3 := hK2.below (below_box w2 (.cells #[.int .i64 q1, .int .i64 q2, .int .i64 q3, .slice a2 m c2] 39))
              have hR3 := hR2.later EQ (below_box w2 (.cells #[.int .i64 q1, .int .i64 q2, .int .i64 q3, .slice a2 m c2] 39))
              have hRB3 := hRB2.later EB (below_box w2 (.cells #[.int .i64 q1, .int .i64 q2, .int .i64 q3, .slice a2 m c2] 39))
              have hRC3 := hRC2.later EC (below_box w2 (.cells #[.int .i64 q1, .int .i64 q2, .int .i64 q3, .slice a2 m c2] 39))
              have hv3 := hv.k5 (K5.below (below_box w2 (.cells #[.int .i64 q1, .int .i64 q2, .int .i64 q3, .slice a2 m c2] 39)))
              refine ⟨hold_of hK3, ?_⟩
              obtain ⟨xs, hown0, hall⟩ := hR3
              rw [TL.out] at hown0
              refine wpList_append_k K24 rfl (.tmp 70) (.tmp 81) rfl _ _ _ rfl hown0 _ 1 1 _ rfl (src_new w2 #[.int .i64 q1, .int .i64 q2, .int .i64 q3, .slice a2 m c2] 39 4 1 1 rfl (by simp [Value.oneCell'])) ?c1 ?c2 ?_
              case c1 => omega
              case c2 => exact hK3.b.size
              intro V4 w4 hown hgrow _
              have hK4 := hK3.grown hgrow hown0 (Nat.le_refl _) (by decide) hVX
              have hk5 := K5.grown hgrow hown0 (by decide)
              have hR4 : Row 39 4 RQ w4 w.heap.size V4 (qu.take (k + 1)) := by
                rw [TS.out]
                exact Row.push EQ hall hk5 hown (by rw [TL.out]) ⟨_, rfl, hv3.k5 hk5⟩
              have hRB4 := hRB3.other EB hgrow hown0 (by decide) (by decide)
              have hRC4 := hRC3.other EC hgrow hown0 (by decide) (by decide)
              clear hown hgrow hown0 hall hk5 hv3 hv hK3 hR2 hK2 hRB2 hRB3 hRC2 hRC3
              obtain ⟨a4, c4, rfl, _, _, _⟩ := hR4.form (n := _ + 1) (take_len NQ.out hin)
              refine wpList_nil ⟨hold_of hK4, ?_⟩
              simp only [Act.put, List.setIfInBounds_toArray, List.set_cons_succ, List.set_cons_zero]
              repeat (go_big_quiet_step (fail))
              refine wpQuiet_nil ?_
              have d1 := hK4.d.cell 4
              have d2 := hK4.d.frozen 4
              simp only [List.getElem?_cons_zero, List.getElem?_cons_succ] at d1
              go_wp2
              refine ⟨trivial, NoPanic.normal ?_⟩
              go_wp2
              go_roundg g
              case rel =>
                refine ⟨k + 1, _, by have := HG.out; omega, by go_num, hR4.far EQ hK4.d (by decide) (by decide) 4 _, hRB4.far EB hK4.d (by decide) (by decide) 4 _, hRC4.far EC hK4.d (by decide) (by decide) 4 _, ?_⟩
                exact hK4.store 4 _
              case measure => omega
        | succ g =>
          have hin : j < nC := by omega
          obtain ⟨⟨k0, s⟩, hs⟩ := get_some NC.out hin
          have hsl := LC.out _ (List.mem_of_getElem? hs)
          have TS := Lib.hid (take_snoc hs)
          have TL := Lib.hid (take_len NC.out (show j ≤ nC by omega))
          obtain ⟨b, off, rfl, hc⟩ := HC (by rw [NC.out]; omega)
          obtain ⟨s1, a', c', s0, hc1, hc2, hc3, hbt⟩ := hc j _ hs
          obtain ⟨m, hm⟩ : ∃ m, s.length = m := ⟨_, rfl⟩
          simp only [hm] at s0 s1 hc1 hsl
          have HM := Lib.hid hm; have HG := Lib.hid hg; have S0 := Lib.hid s0; have S1 := Lib.hid s1
          clear hc hs hm hg s0 s1
          go_wp2
          clear p3
          refine wp_region_in (Keep w [.int .i64 dp, .int .i64 nx, .slice aB i cB, .slice (some ⟨b, off, none⟩) nC cC, .slice aQ nQ cQ] zD [.int .i64 dp, .int .i64 nx, .slice aV i cV, .slice aW j cW, .slice none 0 0] w.heap.size 26 [.int .i64 dp, .int .i64 nx, .slice aB i cB, .slice (some ⟨b, off, none⟩) nC cC, .slice aQ nQ cQ]) [(true, 14), (false, 1), (true, 1), (false, 1), (false, 1), (true, 1), (false, 1)] [0, 1, 2, 3, 4, 5, 6, 7, 8, 9, 10, 11, 12, 13, 14, 15, 16, 17, 18, 19] 19 (by kernel_rfl) (by kernel_rfl) (hK.below (Below.refl _ _).drew) ?_
          intro W hW hWe
          have hRW : Row 64 2 RC W w.heap.size (.slice aW j cW) (ca.take j) := by rw [hWe]; exact hR.later EC (Below.refl _ _).drew
          have hRBW : Row 31 1 RB W w.heap.size (.slice aV i cV) bl := by rw [hWe]; exact hRB.later EB (Below.refl _ _).drew
          have hbW : Bt W a' s := hbt.below hW.b
          clear hWe hR hRB hbt hK
          simp only [wpSegsL, inOrder, List.filterMap_cons, List.filterMap_nil, List.getElem?_cons_zero, List.getElem?_cons_succ, List.take_succ_cons, List.take_zero, List.drop_succ_cons, List.drop_zero]
          have q1 := fun z => (hold_ok hW z).d.cell 3
          have q2 := fun z => (hold_ok hW z).a.cell 3
          have q3 := fun z => cell_later (hold_ok hW z).b S0.out
          have q4 := fun z => cell_later (hold_ok hW z).b S1.out
          simp only [List.getElem?_cons_zero, List.getElem?_cons_succ] at q1 q2
          repeat (go_big_quiet_step (fail))
          refine wpQuiet_nil ?_
          clear q1 q2 q3 q4
          go_wp2_with fail
          refine (bytes_43 a' s m c' W hbW HM.out hc3 hc1 (by omega)).mono ?_
          rintro e w2 ⟨v, rfl, hv, hb2⟩
          obtain ⟨a2, c2, rfl, _, _, _, _⟩ := hv.form HM.out
          have hK2 := hW.below hb2
          have hR2 := hRW.later EC hb2
          have hRB2 := hRBW.later EB hb2
          clear hW hRW hRBW hbW hb2
          go_wp2
          refine ⟨hold_of hK2, ?_⟩
          dsimp only
          repeat (go_big_quiet_step (fail))
          refine wpQuiet_nil ?_
          go_wp2
          have hK3 := hK2.below (below_box w2 (.cells #[.int .i64 k0, .slice a2 m c2] 64))
          have hR3 := hR2.later EC (below_box w2 (.cells #[.int .i64 k0, .slice a2 m c2] 64))
          have hRB3 := hRB2.later EB (below_box w2 (.cells #[.int .i64 k0, .slice a2 m c2] 64))
          have hv3 := hv.k5 (K5.below (below_box w2 (.cells #[.int .i64 k0, .slice a2 m c2] 64)))
          refine ⟨hold_of hK3, ?_⟩
          obtain ⟨xs, hown0, hall⟩ := hR3
          rw [TL.out] at hown0
          refine wpList_append_k K23 rfl (.tmp 39) (.tmp 54) rfl _ _ _ rfl hown0 _ 1 1 _ rfl (src_new w2 #[.int .i64 k0, .slice a2 m c2] 64 2 1 1 rfl (by simp [Value.oneCell'])) ?c1 ?c2 ?_
          case c1 => omega
          case c2 => exact hK3.b.size
          intro V4 w4 hown hgrow _
          have hK4 := hK3.grown hgrow hown0 (Nat.le_refl _) (by decide) (hK3.x.not_own hown0 (by decide))
          have hk5 := K5.grown hgrow hown0 (by decide)
          have hR4 : Row 64 2 RC w4 w.heap.size V4 (ca.take (j + 1)) := by
            rw [TS.out]
            exact Row.push EC hall hk5 hown (by rw [TL.out]) ⟨_, rfl, hv3.k5 hk5⟩
          have hRB4 := hRB3.other EB hgrow hown0 (by decide) (by decide)
          clear hown hgrow hown0 hall hk5 hv3 hv hK3 hR2 hK2 hRB2 hRB3
          obtain ⟨a4, c4, rfl, _, _, _⟩ := hR4.form (n := _ + 1) (take_len NC.out hin)
          refine wpList_nil ⟨hold_of hK4, ?_⟩
          simp only [Act.put, List.setIfInBounds_toArray, List.set_cons_succ, List.set_cons_zero]
          repeat (go_big_quiet_step (fail))
          refine wpQuiet_nil ?_
          have d1 := hK4.d.cell 3
          have d2 := hK4.d.frozen 3
          simp only [List.getElem?_cons_zero, List.getElem?_cons_succ] at d1
          go_wp2
          refine ⟨trivial, NoPanic.normal ?_⟩
          go_wp2
          go_roundg g
          case rel =>
            refine ⟨j + 1, _, by have := HG.out; omega, by go_num, hR4.far EC hK4.d (by decide) (by decide) 3 _, hRB4.far EB hK4.d (by decide) (by decide) 3 _, ?_⟩
            exact hK4.store 3 _
          case measure => omega
    | succ g =>
      have hin : i < nB := by omega
      obtain ⟨s, hs⟩ := get_some NB.out hin
      have hsl := LB.out _ (List.mem_of_getElem? hs)
      have TS := Lib.hid (take_snoc hs)
      have TL := Lib.hid (take_len NB.out (show i ≤ nB by omega))
      obtain ⟨b, off, rfl, hc⟩ := HB (by rw [NB.out]; omega)
      obtain ⟨a', c', s0, hc1, hc2, hc3, hbt⟩ := hc i _ hs
      obtain ⟨m, hm⟩ : ∃ m, s.length = m := ⟨_, rfl⟩
      rw [hm] at s0 hc1 hsl
      have HM := Lib.hid hm; have HG := Lib.hid hg; have S0 := Lib.hid s0
      clear hc hs hm hg s0
      go_wp2
      clear p2
      refine wp_region_in (Keep w [.int .i64 dp, .int .i64 nx, .slice (some ⟨b, off, none⟩) nB cB, .slice aC nC cC, .slice aQ nQ cQ] zD [.int .i64 dp, .int .i64 nx, .slice aV i cV, .slice none 0 0, .slice none 0 0] w.heap.size 26 [.int .i64 dp, .int .i64 nx, .slice (some ⟨b, off, none⟩) nB cB, .slice aC nC cC, .slice aQ nQ cQ]) [(true, 7), (false, 1), (false, 1), (false, 1), (true, 1), (false, 1)] [0, 1, 2, 3, 4, 5, 6, 7, 8, 9, 10, 11] 11 (by kernel_rfl) (by kernel_rfl) (hK.below (Below.refl _ _).drew) ?_
      intro W hW hWe
      have hRW : Row 31 1 RB W w.heap.size (.slice aV i cV) (bl.take i) := by rw [hWe]; exact hR.later EB (Below.refl _ _).drew
      have hbW : Bt W a' s := hbt.below hW.b
      clear hWe hR hbt hK
      simp only [wpSegsL, inOrder, List.filterMap_cons, List.filterMap_nil, List.getElem?_cons_zero, List.getElem?_cons_succ, List.take_succ_cons, List.take_zero, List.drop_succ_cons, List.drop_zero]
      have q1 := fun z => (hold_ok hW z).d.cell 2
      have q2 := fun z => (hold_ok hW z).a.cell 2
      have q3 := fun z => cell_later (hold_ok hW z).b S0.out
      simp only [List.getElem?_cons_zero, List.getElem?_cons_succ] at q1 q2
      repeat (go_big_quiet_step (fail))
      refine wpQuiet_nil ?_
      clear q1 q2 q3
      go_wp2_with fail
      refine (bytes_43 a' s m c' W hbW HM.out hc3 hc1 (by omega)).mono ?_
      rintro e w2 ⟨v, rfl, hv, hb2⟩
      have hK2 := hW.below hb2
      have hR2 := hRW.later EB hb2
      clear hW hRW hbW hb2
      obtain ⟨a2, c2, rfl, _, _, _, _⟩ := hv.form HM.out
      go_wp2
      refine ⟨hold_of hK2, ?_⟩
      have hK3 := hK2.below (below_box w2 (.cells #[.slice a2 m c2] 31))
      have hR3 := hR2.later EB (below_box w2 (.cells #[.slice a2 m c2] 31))
      have hv3 := hv.k5 (K5.below (below_box w2 (.cells #[.slice a2 m c2] 31)))
      go_wp2
      refine ⟨hold_of hK3, ?_⟩
      obtain ⟨xs, hown0, hall⟩ := hR3
      rw [TL.out] at hown0
      refine wpList_append_k K22 rfl (.tmp 21) (.tmp 28) rfl _ _ _ rfl hown0 _ 1 1 _ rfl (src_new w2 #[.slice a2 m c2] 31 1 1 1 rfl (by simpa using hv.one)) ?c1 ?c2 ?_
      case c1 => omega
      case c2 => exact hK3.b.size
      intro V4 w4 hown hgrow _
      have hK4 := hK3.grown hgrow hown0 (Nat.le_refl _) (by decide) (hK3.x.not_own hown0 (by decide))
      have hk5 := K5.grown hgrow hown0 (by decide)
      have hR4 : Row 31 1 RB w4 w.heap.size V4 (bl.take (i + 1)) := by
        rw [TS.out]
        exact Row.push EB hall hk5 hown (by rw [TL.out]) ⟨_, rfl, hv3.k5 hk5⟩
      clear hown hgrow hown0 hall hk5 hv3 hv hK3 hR2 hK2
      obtain ⟨a4, c4, rfl, _, _, _⟩ := hR4.form (n := _ + 1) (take_len NB.out hin)
      refine wpList_nil ⟨hold_of hK4, ?_⟩
      simp only [Act.put, List.setIfInBounds_toArray, List.set_cons_succ, List.set_cons_zero]
      repeat (go_big_quiet_step (fail))
      refine wpQuiet_nil ?_
      have d1 := hK4.d.cell 2
      have d2 := hK4.d.frozen 2
      simp only [List.getElem?_cons_zero, List.getElem?_cons_succ] at d1
      go_wp2
      refine ⟨trivial, NoPanic.normal ?_⟩
      go_wp2
      go_roundg g
      case rel =>
        refine ⟨i + 1, _, by have := HG.out; omega, by go_num, hR4.far EB hK4.d (by decide) (by decide) 2 _, ?_⟩
        exact hK4.store 2 _
      case measure => omega
end Go.Proofs.Ytlhbjmoncdljoaa
