/- The walks of the laws that compare with the document. -/
import Derived.Test.YtlhbjmoncdljoaaD25
import Derived.Test.YtlhbjmoncdljoaaP4
namespace Go.Proofs.Ytlhbjmoncdljoaa
open Go.RowKit Go.Over Go.Dev Go.Seg Go.Grow
theorem len1000 {n : Nat} (h : n ≤ 1000) : n ≤ 1000000 := by omega
theorem few_few {d : D} (h : fewD d = true) : Few d := by have := few_spec h; exact ⟨by omega, by omega, by omega⟩
theorem few_mod {d : D} (h : fewD d = true) : Mod d := by
  have h := few_spec h
  exact ⟨fun b hb => by have := h.2.2.2.1 b hb; omega, fun b hb => by have := h.2.2.2.2.1 b hb; omega, fun b hb => by have := h.2.2.2.2.2 b hb; omega⟩
theorem fine_Few {d : D} (h : Fine d) : Few d := by have := fine_few h; exact ⟨by omega, by omega, by omega⟩
theorem fine_Mod {d : D} (h : Fine d) : Mod d := by have := fine_few h; exact ⟨this.2.2.2.1, this.2.2.2.2.1, this.2.2.2.2.2⟩
theorem len_cont {d : D} (m : Mod d) (f : Int) : (contD d f).length ≤ 1000000 := by
  unfold contD
  split
  · unfold cont
    cases hcl : conL f d.ca with
    | none =>
      show (d.bl.getD f.toNat []).length ≤ _
      rw [List.getD_eq_getElem?_getD]
      cases hb : d.bl[f.toNat]? with
      | none => simp
      | some x => have := m.1 x (List.mem_of_getElem? hb); simp; omega
    | some x =>
      show x.length ≤ _
      have : ∀ {l : List Ca}, conL f l = some x → ∃ c ∈ l, c.2 = x := by
        intro l
        induction l with
        | nil => intro h; cases h
        | cons c r ih =>
          intro h
          rw [conL] at h
          split at h
          · cases h; exact ⟨c, by simp, rfl⟩
          · obtain ⟨c', h1, h2⟩ := ih h; exact ⟨c', by simp [h1], h2⟩
      obtain ⟨c, h1, rfl⟩ := this hcl
      have := m.2.1 c h1; omega
  · simp
theorem len_dur {d : D} (m : Mod d) (f : Int) : (durD d f).length ≤ 1000000 := by
  unfold durD
  split
  · rw [List.getD_eq_getElem?_getD]
    cases hb : d.bl[f.toNat]? with
    | none => simp
    | some x => have := m.1 x (List.mem_of_getElem? hb); simp; omega
  · simp

set_option maxRecDepth 100000 in set_option maxHeartbeats 3200000 in
theorem law_checks (v : Value) (d : D) (f : Int) (w : World) (H : Rdv w v d) : Calls Try.prog 3 #[v, .int .i64 f] w fun e w' => e = .returned (.bool true) ∧ Below w.heap.size w w' := by
  obtain ⟨aB, cB, aC, cC, aQ, cQ, rfl, _⟩ := id H
  have b1 := below_box w (.cells #[.int .i64 d.dp, .int .i64 d.nx, .slice aB d.bl.length cB, .slice aC d.ca.length cC, .slice aQ d.qu.length cQ] 26)
  have X1 := Blk.new w 26 #[.int .i64 d.dp, .int .i64 d.nx, .slice aB d.bl.length cB, .slice aC d.ca.length cC, .slice aQ d.qu.length cQ] [.int .i64 d.dp, .int .i64 d.nx, .slice aB d.bl.length cB, .slice aC d.ca.length cC, .slice aQ d.qu.length cQ] rfl
  obtain ⟨fb, hfb⟩ : ∃ fb, fewD d = fb := ⟨_, rfl⟩
  have HFB := Lib.hid hfb
  clear hfb
  go_enter Try.func3, Try.ntmps3
  go_wp2_with fail
  refine (awake_11 _).mono ?_
  rintro e w2 ⟨rfl, b2⟩
  have X2 := X1.later b2
  have B2 := below_then b1 b2
  clear b2 b1 X1
  have d0 := X2.cell 0
  have d1 := X2.cell 1
  have d2 := X2.cell 2
  have d3 := X2.cell 3
  have d4 := X2.cell 4
  simp only [List.getElem?_cons_zero, List.getElem?_cons_succ] at d0 d1 d2 d3 d4
  go_wp2_with fail
  refine (few_d (H.below B2)).mono ?_
  rintro e w3 ⟨rfl, b3⟩
  rw [HFB.out]
  have X3 := X2.later b3
  have B3 := below_then B2 b3
  clear b3 B2 X2 d0 d1 d2 d3 d4
  cases fb with
  | false =>
    go_wp2_with fail
    refine (awake_11 _).mono ?_
    rintro e w4 ⟨rfl, b4⟩
    go_wp2
    go_ret
    exact ⟨rfl, below_then B3 b4⟩
  | true =>
    have FW := few_few HFB.out
    have MD := few_mod HFB.out
    obtain ⟨R, hR⟩ : ∃ R, chk d = R := ⟨_, rfl⟩
    obtain ⟨N, hN⟩ : ∃ N, chN d = N := ⟨_, rfl⟩
    have HR := Lib.hid hR; have HN := Lib.hid hN
    clear hR hN
    go_wp2_with fail
    refine wp_region_in (fun W => Blk W w.heap.size 26 [.int .i64 d.dp, .int .i64 d.nx, .slice aB d.bl.length cB, .slice aC d.ca.length cC, .slice aQ d.qu.length cQ]) [(true, 2), (false, 1), (false, 1), (true, 6), (false, 1), (false, 1), (false, 1), (true, 6), (false, 1), (false, 1), (false, 1), (true, 4), (false, 1), (false, 1), (true, 3)] [0, 2, 1, 3, 4, 5, 6, 7, 9, 10, 8, 11, 12, 13, 14, 15, 16, 18, 19, 17, 20, 21, 22, 23, 24, 26, 25, 27, 28, 29, 30] 99 (by kernel_rfl) (by kernel_rfl) (X3.later (Below.refl _ _).drew) ?_
    intro W hW hWe
    have B4 : Below w.heap.size w W := by rw [hWe]; exact B3.drew
    clear hWe X3 B3
    simp only [wpSegsL, inOrder, List.filterMap_cons, List.filterMap_nil, List.getElem?_cons_zero, List.getElem?_cons_succ, List.take_succ_cons, List.take_zero, List.drop_succ_cons, List.drop_zero]
    have q0 := fun z => (hold_ok (S0 := fun W => Blk W w.heap.size 26 [.int .i64 d.dp, .int .i64 d.nx, .slice aB d.bl.length cB, .slice aC d.ca.length cC, .slice aQ d.qu.length cQ]) hW z).cell 0
    have q1 := fun z => (hold_ok (S0 := fun W => Blk W w.heap.size 26 [.int .i64 d.dp, .int .i64 d.nx, .slice aB d.bl.length cB, .slice aC d.ca.length cC, .slice aQ d.qu.length cQ]) hW z).cell 1
    have q2 := fun z => (hold_ok (S0 := fun W => Blk W w.heap.size 26 [.int .i64 d.dp, .int .i64 d.nx, .slice aB d.bl.length cB, .slice aC d.ca.length cC, .slice aQ d.qu.length cQ]) hW z).cell 2
    have q3 := fun z => (hold_ok (S0 := fun W => Blk W w.heap.size 26 [.int .i64 d.dp, .int .i64 d.nx, .slice aB d.bl.length cB, .slice aC d.ca.length cC, .slice aQ d.qu.length cQ]) hW z).cell 3
    have q4 := fun z => (hold_ok (S0 := fun W => Blk W w.heap.size 26 [.int .i64 d.dp, .int .i64 d.nx, .slice aB d.bl.length cB, .slice aC d.ca.length cC, .slice aQ d.qu.length cQ]) hW z).cell 4
    have t1 : (R == R) = true := by simp
    have t2 : (N == N) = true := by simp
    simp only [List.getElem?_cons_zero, List.getElem?_cons_succ] at q0 q1 q2 q3 q4
    show wpQuiet _ _ _ _ (_ :: [_]) _
    repeat (go_big_quiet_step (fail))
    refine wpQuiet_nil ?_
    go_wp2_with fail
    refine (check_d (H.below B4) FW).mono ?_
    rintro e w5 ⟨rfl, b5⟩
    rw [HR.out]
    have X5 := hW.later b5
    have B5 := below_then B4 b5

    clear B4 b5
    go_wp2
    refine ⟨hold_of (S0 := fun W => Blk W w.heap.size 26 [.int .i64 d.dp, .int .i64 d.nx, .slice aB d.bl.length cB, .slice aC d.ca.length cC, .slice aQ d.qu.length cQ]) X5, ?_⟩
    show wpList _ _ _ [_] _ _
    go_wp2_with fail
    refine (check_r (H.below B5) FW).mono ?_
    rintro e w6 ⟨rfl, b6⟩
    rw [HR.out]
    have X6 := X5.later b6
    have B6 := below_then B5 b6

    clear X5 B5 b6
    go_wp2
    refine ⟨hold_of (S0 := fun W => Blk W w.heap.size 26 [.int .i64 d.dp, .int .i64 d.nx, .slice aB d.bl.length cB, .slice aC d.ca.length cC, .slice aQ d.qu.length cQ]) X6, ?_⟩
    show wpQuiet _ _ _ _ (_ :: _ :: _ :: _ :: _ :: [_]) _
    repeat (go_big_quiet_step (fail))
    refine wpQuiet_nil ?_
    go_wp2_with fail
    refine (content_d (H.below B6) FW f).mono ?_
    rintro e w7 ⟨v, rfl, hv7, b7⟩
    have X7 := X6.later b7
    have B7 := below_then B6 b7
    obtain ⟨p7, q7, rfl, _, _, _, _⟩ := hv7.form rfl
    clear X6 B6 b7
    go_wp2
    refine ⟨hold_of (S0 := fun W => Blk W w.heap.size 26 [.int .i64 d.dp, .int .i64 d.nx, .slice aB d.bl.length cB, .slice aC d.ca.length cC, .slice aQ d.qu.length cQ]) X7, ?_⟩
    show wpList _ _ _ [_] _ _
    go_wp2_with fail
    refine (content_r (H.below B7) FW f).mono ?_
    rintro e w8 ⟨v, rfl, hv8, b8⟩
    have X8 := X7.later b8
    have B8 := below_then B7 b8
    obtain ⟨p8, q8, rfl, _, _, _, _⟩ := hv8.form rfl
    have hu8 := hv7.k5 (K5.below b8)
    clear hv7
    clear X7 B7 b8
    go_wp2
    refine ⟨hold_of (S0 := fun W => Blk W w.heap.size 26 [.int .i64 d.dp, .int .i64 d.nx, .slice aB d.bl.length cB, .slice aC d.ca.length cC, .slice aQ d.qu.length cQ]) X8, ?_⟩
    show wpList _ _ _ [_] _ _
    go_wp2_with fail
    refine (same_b hu8.rbv hv8.rbv (len_cont MD f) (len_cont MD f)).mono ?_
    rintro e w9 ⟨rfl, b9⟩
    rw [show decide (contD d f = contD d f) = true by simp]
    have X9 := X8.later b9
    have B9 := below_then B8 b9
    clear hu8 hv8
    clear X8 B8 b9
    go_wp2
    refine ⟨hold_of (S0 := fun W => Blk W w.heap.size 26 [.int .i64 d.dp, .int .i64 d.nx, .slice aB d.bl.length cB, .slice aC d.ca.length cC, .slice aQ d.qu.length cQ]) X9, ?_⟩
    show wpQuiet _ _ _ _ (_ :: _ :: _ :: _ :: _ :: [_]) _
    repeat (go_big_quiet_step (fail))
    refine wpQuiet_nil ?_
    go_wp2_with fail
    refine (durable_d (H.below B9) FW f).mono ?_
    rintro e w10 ⟨v, rfl, hv10, b10⟩
    have X10 := X9.later b10
    have B10 := below_then B9 b10
    obtain ⟨p10, q10, rfl, _, _, _, _⟩ := hv10.form rfl
    clear X9 B9 b10
    go_wp2
    refine ⟨hold_of (S0 := fun W => Blk W w.heap.size 26 [.int .i64 d.dp, .int .i64 d.nx, .slice aB d.bl.length cB, .slice aC d.ca.length cC, .slice aQ d.qu.length cQ]) X10, ?_⟩
    show wpList _ _ _ [_] _ _
    go_wp2_with fail
    refine (durable_r (H.below B10) FW f).mono ?_
    rintro e w11 ⟨v, rfl, hv11, b11⟩
    have X11 := X10.later b11
    have B11 := below_then B10 b11
    obtain ⟨p11, q11, rfl, _, _, _, _⟩ := hv11.form rfl
    have hu11 := hv10.k5 (K5.below b11)
    clear hv10
    clear X10 B10 b11
    go_wp2
    refine ⟨hold_of (S0 := fun W => Blk W w.heap.size 26 [.int .i64 d.dp, .int .i64 d.nx, .slice aB d.bl.length cB, .slice aC d.ca.length cC, .slice aQ d.qu.length cQ]) X11, ?_⟩
    show wpList _ _ _ [_] _ _
    go_wp2_with fail
    refine (same_b hu11.rbv hv11.rbv (len_dur MD f) (len_dur MD f)).mono ?_
    rintro e w12 ⟨rfl, b12⟩
    rw [show decide (durD d f = durD d f) = true by simp]
    have X12 := X11.later b12
    have B12 := below_then B11 b12
    clear hu11 hv11
    clear X11 B11 b12
    go_wp2
    refine ⟨hold_of (S0 := fun W => Blk W w.heap.size 26 [.int .i64 d.dp, .int .i64 d.nx, .slice aB d.bl.length cB, .slice aC d.ca.length cC, .slice aQ d.qu.length cQ]) X12, ?_⟩
    show wpQuiet _ _ _ _ (_ :: _ :: _ :: [_]) _
    repeat (go_big_quiet_step (fail))
    refine wpQuiet_nil ?_
    go_wp2_with fail
    refine (choices_d (H.below B12) FW).mono ?_
    rintro e w13 ⟨rfl, b13⟩
    rw [HN.out]
    have X13 := X12.later b13
    have B13 := below_then B12 b13

    clear X12 B12 b13
    go_wp2
    refine ⟨hold_of (S0 := fun W => Blk W w.heap.size 26 [.int .i64 d.dp, .int .i64 d.nx, .slice aB d.bl.length cB, .slice aC d.ca.length cC, .slice aQ d.qu.length cQ]) X13, ?_⟩
    show wpList _ _ _ [_] _ _
    go_wp2_with fail
    refine (choices_r (H.below B13) FW).mono ?_
    rintro e w14 ⟨rfl, b14⟩
    rw [HN.out]
    have X14 := X13.later b14
    have B14 := below_then B13 b14

    clear X13 B13 b14
    go_wp2
    refine ⟨hold_of (S0 := fun W => Blk W w.heap.size 26 [.int .i64 d.dp, .int .i64 d.nx, .slice aB d.bl.length cB, .slice aC d.ca.length cC, .slice aQ d.qu.length cQ]) X14, ?_⟩
    show wpQuiet _ _ _ _ (_ :: _ :: [_]) _
    repeat (go_big_quiet_step (fail))
    refine wpQuiet_nil ?_
    refine NoPanic.normal ?_
    go_wp2
    go_ret
    exact ⟨rfl, B14⟩

end Go.Proofs.Ytlhbjmoncdljoaa
