/- Walks: Complete, of the document. -/
import Derived.Test.YtlhbjmoncdljoaaD17
import Derived.Test.YtlhbjmoncdljoaaD18
namespace Go.Proofs.Ytlhbjmoncdljoaa
open Go.RowKit Go.Over Go.Dev Go.Seg Go.Grow
theorem erase_take_lt {α : Type} {l : List α} {i p : Nat} {s : α} (h : l[i]? = some s) (hne : i ≠ p) : (l.take (i + 1)).eraseIdx p = (l.take i).eraseIdx p ++ [s] := by
  have hlt : i < l.length := by rw [List.getElem?_eq_some_iff] at h; exact h.1
  rw [take_snoc h, List.eraseIdx_append]
  have hl : (l.take i).length = i := by simp; omega
  rw [hl]
  split
  · rfl
  · have e1 : (l.take i).eraseIdx p = l.take i := List.eraseIdx_of_length_le (by rw [hl]; omega)
    have e2 : [s].eraseIdx (p - i) = [s] := List.eraseIdx_of_length_le (by simp; omega)
    rw [e1, e2]
theorem erase_take_eq {α : Type} {l : List α} {p : Nat} {s : α} (h : l[p]? = some s) : (l.take (p + 1)).eraseIdx p = (l.take p).eraseIdx p := by
  have hlt : p < l.length := by rw [List.getElem?_eq_some_iff] at h; exact h.1
  have hl : (l.take p).length = p := by simp; omega
  rw [take_snoc h, List.eraseIdx_append, if_neg (by omega), hl]
  have e1 : (l.take p).eraseIdx p = l.take p := List.eraseIdx_of_length_le (by rw [hl]; omega)
  rw [e1]
  simp
section
variable {w : World} {A : List Value} {B gd gq : Nat} {dp nx i0 k0 b0 : Int} {VB VC VQ sv : Value} {bl : List (List Int)} {ca : List Ca} {qu : List Rq} {s : List Int} {W W' : World}
/-- The queue is stored. -/
theorem CS.queue (h : CS w A B gd gq dp nx i0 k0 b0 VB VC VQ sv bl ca qu s W) {VQ' : Value} {qu' : List Rq} (hr : Row 39 4 RQ W B VQ' qu') (hne : VQ'.ownBlock ≠ some gq) : CS w A B gd gq dp nx i0 k0 b0 VB VC VQ' sv bl ca qu' s (W.setCell ⟨gd, 4, none⟩ VQ') :=
  ⟨h.t.far (by have := h.l1; have := h.l2; omega) _ _, ⟨h.r.b.far EB h.d (by decide) (by decide) _ _, h.r.c.far EC h.d (by decide) (by decide) _ _, hr.far EQ h.d (by decide) (by decide) _ _⟩,
   h.d.set 4 VQ', h.q.far (by show gq ≠ gd; have := h.l3; omega) _, h.v.k5 (K5.set h.d (by decide) _ _), hne, h.l1, h.l2, h.l3⟩
/-- A request has been put behind, and the queue is stored. -/
theorem CS.push (h : CS w A B gd gq dp nx i0 k0 b0 VB VC VQ sv bl ca qu s W) (hg : W.grownBy W' VQ.ownBlock) {n : Nat} {xs : List Value} (ho : W.ownsRow B 39 4 VQ n xs) {VQ' : Value} {qu' : List Rq} (hr : Row 39 4 RQ W' B VQ' qu') (hne : VQ'.ownBlock ≠ some gq) :
    Blk W' gd 26 [.int .i64 dp, .int .i64 nx, VB, VC, VQ] ∧ Blk W' w.heap.size 26 A ∧ CS w A B gd gq dp nx i0 k0 b0 VB VC VQ' sv bl ca qu' s (W'.setCell ⟨gd, 4, none⟩ VQ') := by
  have hd := h.d.grown hg (h.d.not_own ho (by decide))
  refine ⟨hd, (h.t.grown hg ho h.l1).t.a, (h.t.grown hg ho h.l1).far (by have := h.l1; have := h.l2; omega) _ _, ⟨(h.r.b.other EB hg ho (by decide) (by decide)).far EB hd (by decide) (by decide) _ _, (h.r.c.other EC hg ho (by decide) (by decide)).far EC hd (by decide) (by decide) _ _, hr.far EQ hd (by decide) (by decide) _ _⟩,
    hd.set 4 VQ', (h.q.grown hg h.ne).far (by show gq ≠ gd; have := h.l3; omega) _, (h.v.k5 (K5.grown hg ho (by decide))).k5 (K5.set hd (by decide) _ _), hne, h.l1, h.l2, h.l3⟩
end
set_option maxRecDepth 100000 in set_option maxHeartbeats 3200000 in
theorem complete_28 (dp nx : Int) (aB aC aQ : Option Addr) (bl : List (List Int)) (ca : List Ca) (qu : List Rq) (nB cB nC cC nQ cQ : Nat) (pos : Int) (ok : Bool) (w : World) (HB : Bls w aB bl) (HC : Cas w aC ca) (HQ : Rqs w aQ qu) (hB : bl.length = nB) (hC : ca.length = nC) (hQ : qu.length = nQ)
    (mB : nB ≤ 1000000) (mC : nC ≤ 1000000) (mQ : nQ ≤ 1000000) :
    Calls Try.prog 28 #[.agg #[.int .i64 dp, .int .i64 nx, .slice aB nB cB, .slice aC nC cC, .slice aQ nQ cQ], .int .i64 pos, .bool ok] w (DevAns3 (cmpD ⟨dp, nx, bl, ca, qu⟩ pos ok) w) := by
  have NB := Lib.hid hB; have NC := Lib.hid hC; have NQ := Lib.hid hQ
  have hT0 := three_start w [.int .i64 dp, .int .i64 nx, .slice aB nB cB, .slice aC nC cC, .slice aQ nQ cQ] #[.int .i64 dp, .int .i64 nx, .slice aB nB cB, .slice aC nC cC, .slice aQ nQ cQ] rfl
  obtain ⟨P, hP⟩ : ∃ P, cmpD ⟨dp, nx, bl, ca, qu⟩ pos ok = P := ⟨_, rfl⟩
  rw [hP]
  have HP := Lib.hid hP
  obtain ⟨w1, hw1⟩ : ∃ W, W = ((w.alloc (.cells #[.int .i64 dp, .int .i64 nx, .slice aB nB cB, .slice aC nC cC, .slice aQ nQ cQ] 26)).alloc (.cells #[.int .i64 0, .int .i64 0, .slice none 0 0, .slice none 0 0, .slice none 0 0] 26)).alloc (.cells #[.int .i64 0, .int .i64 0, .int .i64 0, .slice none 0 0] 39) := ⟨_, rfl⟩
  have HW := Lib.hid hw1
  rw [← hw1] at hT0
  clear hB hC hQ hP hw1
  obtain ⟨R, hR⟩ : ∃ R, chk ⟨dp, nx, bl, ca, qu⟩ = R := ⟨_, rfl⟩
  have HR := Lib.hid hR
  clear hR
  go_enter Try.func28, Try.ntmps28
  go_wp2_with fail
  rw [← HW.out]
  clear HW
  refine (check_14 dp nx aB aC aQ bl ca qu nB cB nC cC nQ cQ w1 (HB.below hT0.t.b) (HC.below hT0.t.b) (HQ.below hT0.t.b) NB.out NC.out NQ.out mB mC mQ).mono ?_
  rintro e w3 ⟨rfl, b3⟩
  rw [HR.out]
  have hT3 := hT0.below b3
  clear hT0 b3
  by_cases h0 : R = 0
  · subst h0
    have x0 := hT3.t.a.cell 0
    have x1 := hT3.t.a.cell 1
    have x2 := hT3.t.a.cell 2
    have x3 := hT3.t.a.cell 3
    have x4 := hT3.t.a.cell 4
    simp only [List.getElem?_cons_zero, List.getElem?_cons_succ] at x0 x1 x2 x3 x4
    by_cases h1 : pos < 0 ∨ (nQ : Int) ≤ pos
    · obtain rfl := HP.out.symm.trans (cmpD_range HR.out (by simp only [NQ.out]; exact h1))
      have hcase : pos < 0 ∨ (¬ pos < 0 ∧ (nQ : Int) ≤ pos) := by omega
      clear h1
      have y0 := hT3.t.r.cell 0
      have y1 := hT3.t.r.cell 1
      have y2 := hT3.t.r.cell 2
      have y3 := hT3.t.r.cell 3
      have y4 := hT3.t.r.cell 4
      have f0 := hT3.t.r.frozen 0
      have f1 := hT3.t.r.frozen 1
      have f2 := hT3.t.r.frozen 2
      have f3 := hT3.t.r.frozen 3
      have f4 := hT3.t.r.frozen 4
      have p0 := hT3.q.cell 0
      have p1 := hT3.q.cell 1
      have p2 := hT3.q.cell 2
      have p3 := hT3.q.cell 3
      have pf0 := hT3.q.frozen 0
      have pf1 := hT3.q.frozen 1
      have pf2 := hT3.q.frozen 2
      have pf3 := hT3.q.frozen 3
      simp only [zD, zQ, List.getElem?_cons_zero, List.getElem?_cons_succ] at y0 y1 y2 y3 y4 p0 p1 p2 p3
      rcases hcase with h1 | ⟨h1, h2⟩
      · have t1 : decide (pos < 0) = true := by simpa using h1
        go_wp2
        obtain ⟨o1, o2, o3, o4, o5⟩ := compl_ans (d := Dev.zero) (q := zq) (B := w.heap.size + 1 + 1 + 1) hT3 ⟨Row.nil _ _, Row.nil _ _, Row.nil _ _⟩ (SlV.nil _) (by omega)
        refine bodyPost_ret (results_cell_cell rfl _ _ (w.heap.size + 1) (w.heap.size + 1 + 1) _ _ _ _ _ _ _ _ _ _ rfl o4 rfl o5 rfl) rfl ⟨_, _, rfl, o1, o2, o3⟩
      · have t1 : decide (pos < 0) = false := by simpa using h1
        have t2 : decide ((nQ : Int) ≤ pos) = true := by simpa using h2
        go_wp2
        obtain ⟨o1, o2, o3, o4, o5⟩ := compl_ans (d := Dev.zero) (q := zq) (B := w.heap.size + 1 + 1 + 1) hT3 ⟨Row.nil _ _, Row.nil _ _, Row.nil _ _⟩ (SlV.nil _) (by omega)
        refine bodyPost_ret (results_cell_cell rfl _ _ (w.heap.size + 1) (w.heap.size + 1 + 1) _ _ _ _ _ _ _ _ _ _ rfl o4 rfl o5 rfl) rfl ⟨_, _, rfl, o1, o2, o3⟩
    · obtain ⟨p, rfl⟩ : ∃ p : Nat, pos = p := ⟨pos.toNat, by omega⟩
      have hp : p < nQ := by omega
      have t1 : decide ((p : Int) < 0) = false := by simp
      have t2 : decide ((nQ : Int) ≤ (p : Int)) = false := by simp; omega
      have OK := chk_ok.1 HR.out
      obtain ⟨⟨i0, k0, b0, s0⟩, hs⟩ := get_some NQ.out hp
      have hn16 : nQ ≤ 16 := by have := ok_qu OK; simp only [NQ.out] at this; exact this
      have hnB : nB ≤ 256 := by have := OK.b2; simp only [NB.out] at this; exact this
      have hnC : nC ≤ 256 := by have := ok_ca OK; simp only [NC.out] at this; exact this
      have LL := Lib.hid (And.intro (ok_bl OK) (And.intro (ok_cl OK) (ok_ql OK)))
      have HOK := Lib.hid OK; have HS := Lib.hid hs
      clear OK hs h1
      go_wp2_with fail
      refine (copy_46 dp nx aB aC aQ bl ca qu nB cB nC cC nQ cQ w3 (HB.below hT3.t.b) (HC.below hT3.t.b) (HQ.below hT3.t.b) NB.out NC.out NQ.out (by omega) (by omega) (by omega) LL.out.1 LL.out.2.1 LL.out.2.2).mono ?_
      rintro e w5 ⟨v, rfl, hO, b5⟩
      obtain ⟨VB, VC, VQ, a1, k1, a3, k3, a4, k4, rfl, rfl, rfl, rfl, r1, r2, r3⟩ := hO.cells
      simp only [NB.out, NC.out, NQ.out]
      have hTR : Rows3 w5 w3.heap.size (.slice a1 bl.length k1) (.slice a3 ca.length k3) (.slice a4 qu.length k4) bl ca qu := ⟨r1, r2, r3⟩
      rw [NB.out, NC.out, NQ.out] at hTR
      have hb6 := below_box w5 (.cells #[.int .i64 dp, .int .i64 nx, .slice a1 nB k1, .slice a3 nC k3, .slice a4 nQ k4] 26)
      have hT6 := (hT3.below b5).below hb6
      have hR6 := hTR.below hb6
      have hD6 := Blk.new w5 26 #[.int .i64 dp, .int .i64 nx, .slice a1 nB k1, .slice a3 nC k3, .slice a4 nQ k4] [.int .i64 dp, .int .i64 nx, .slice a1 nB k1, .slice a3 nC k3, .slice a4 nQ k4] rfl
      have hgt3 : w.heap.size + 1 + 1 < w3.heap.size := hT3.q.lt
      have hw35 := b5.size
      clear r1 r2 r3 hO hTR hT3 b5 x0 x1 x2 x3 x4 hb6 t1 t2
      go_upto_region 7 with fail
      obtain ⟨w6, hw6⟩ : ∃ W, W = w5.alloc (.cells #[.int .i64 dp, .int .i64 nx, .slice a1 nB k1, .slice a3 nC k3, .slice a4 nQ k4] 26) := ⟨_, rfl⟩
      rw [← hw6] at hT6 hR6 hD6 ⊢
      clear hw6
      obtain ⟨gd, hgd⟩ : ∃ gd, w5.heap.size = gd := ⟨_, rfl⟩
      rw [hgd] at hD6 hw35 ⊢
      clear hgd
      obtain ⟨g4, c4, hV4, hg4, hg4b, hent⟩ := hR6.q.get EQ (by rw [NQ.out]; omega)
      rw [NQ.out] at hV4
      cases hV4
      obtain ⟨x, ⟨sv, rfl, hv⟩, hx⟩ := hent p _ HS.out
      obtain ⟨a5, n5, rfl, _, _, _, _⟩ := hv.form rfl
      have z0 := hx 0 (by decide)
      have z1 := hx 1 (by decide)
      have z2 := hx 2 (by decide)
      have z3 := hx 3 (by decide)
      simp only [List.getElem?_cons_zero, List.getElem?_cons_succ, Nat.add_zero] at z0 z1 z2 z3
      have d4 := hD6.cell 4
      simp only [List.getElem?_cons_zero, List.getElem?_cons_succ] at d4
      obtain ⟨m, hm⟩ : ∃ m, s0.length = m := ⟨_, rfl⟩
      simp only [hm] at z3
      have HM := Lib.hid hm
      clear hx hent hm
      go_upto_region 8 with fail
      have hb7 := below_box w6 (.cells #[.int .i64 i0, .int .i64 k0, .int .i64 b0, .slice a5 m n5] 39)
      have hT7 := hT6.below hb7
      have hR7 := hR6.below hb7
      have hD7 := hD6.later hb7
      have hX7 := Blk.new w6 39 #[.int .i64 i0, .int .i64 k0, .int .i64 b0, .slice a5 m n5] [.int .i64 i0, .int .i64 k0, .int .i64 b0, .slice a5 m n5] rfl
      have hv7 := hv.k5 (K5.below hb7)
      simp only [HM.out] at hv7
      obtain ⟨w7, hw7⟩ : ∃ W, W = w6.alloc (.cells #[.int .i64 i0, .int .i64 k0, .int .i64 b0, .slice a5 m n5] 39) := ⟨_, rfl⟩
      rw [← hw7] at hT7 hR7 hD7 hX7 hv7 ⊢
      clear hw7 hb7
      obtain ⟨gq, hgq⟩ : ∃ gq, w6.heap.size = gq := ⟨_, rfl⟩
      have hdq : gd < gq := by rw [← hgq]; exact hD6.lt
      have h4q : g4 < gq := by rw [← hgq]; exact hg4b
      rw [hgq] at hX7 ⊢
      clear hgq hT6 hR6 hD6 hv z0 z1 z2 z3 d4 hg4b
      have C7 : CS w [.int .i64 dp, .int .i64 nx, .slice aB nB cB, .slice aC nC cC, .slice aQ nQ cQ] w3.heap.size gd gq dp nx i0 k0 b0 (.slice a1 nB k1) (.slice a3 nC k3) (.slice (some ⟨g4, 0, none⟩) nQ k4) (.slice a5 m n5) bl ca qu s0 w7 := ⟨hT7, hR7, hD7, hX7, hv7, by simp [Value.ownBlock]; omega, hgt3, hw35, hdq⟩
      have d4 := hD7.cell 4
      have df4 := hD7.frozen 4
      simp only [List.getElem?_cons_zero, List.getElem?_cons_succ] at d4
      have C8 := C7.queue (Row.nil w7 w3.heap.size) (by simp [Value.ownBlock])
      clear C7 hT7 hR7 hD7 hX7 hv7
      go_wp2
      clear d4 df4
      go_loopg [12] nQ (fun gg v12 wr => ∃ (i : Nat) (a6 : Option Addr) (nQ' c6 : Nat), i + gg = nQ ∧ v12 = .int .i64 i ∧ ((qu.take i).eraseIdx p).length = nQ' ∧ CS w [.int .i64 dp, .int .i64 nx, .slice aB nB cB, .slice aC nC cC, .slice aQ nQ cQ] w3.heap.size gd gq dp nx i0 k0 b0 (.slice a1 nB k1) (.slice a3 nC k3) (.slice a6 nQ' c6) (.slice a5 m n5) bl ca ((qu.take i).eraseIdx p) s0 wr)
      case atStart => exact ⟨0, none, 0, 0, by omega, rfl, rfl, C8⟩
      case round =>
        clear C8
        obtain ⟨i, a6, nQ', c6, hg, rfl, hj, C1⟩ := hrel
        have x4 := C1.t.t.a.cell 4
        simp only [List.getElem?_cons_zero, List.getElem?_cons_succ] at x4
        cases gk with
        | zero =>
          obtain rfl : nQ = i := by omega
          rw [List.take_of_length_le (by rw [NQ.out]; exact Nat.le_refl _)] at C1 hj
          clear hg
          have NQ' := Lib.hid hj
          clear hj
          cases ok with
          | false =>
            obtain rfl := HP.out.symm.trans (cmpD_fail HR.out HS.out)
            obtain ⟨hT9, hR9, hD9, hX9, hv9, _, _, _, _⟩ := C1
            go_wp2_with fail
            clear x4
            refine wp_region_in (fun W => Blk W gd 26 [.int .i64 dp, .int .i64 nx, (.slice a1 nB k1), (.slice a3 nC k3), .slice a6 nQ' c6] ∧ Blk W gq 39 [.int .i64 i0, .int .i64 k0, .int .i64 b0, (.slice a5 m n5)]) [(true, 2), (false, 1), (false, 1), (true, 1)] [0, 1, 2, 3, 4] 99 (by kernel_rfl) (by kernel_rfl) ⟨hD9.later (Below.refl _ _).drew, hX9.later (Below.refl _ _).drew⟩ ?_
            intro W hW hWe
            have hTW : Three w [.int .i64 dp, .int .i64 nx, .slice aB nB cB, .slice aC nC cC, .slice aQ nQ cQ] zD zQ W := by rw [hWe]; exact hT9.below (Below.refl _ _).drew
            have hRW : Rows3 W w3.heap.size (.slice a1 nB k1) (.slice a3 nC k3) (.slice a6 nQ' c6) bl ca (qu.eraseIdx p) := by rw [hWe]; exact hR9.below (Below.refl _ _).drew
            have hvW : SlV W (.slice a5 m n5) s0 := by rw [hWe]; exact hv9.k5 (K5.below (Below.refl _ _).drew)
            clear hWe hT9 hR9 hD9 hX9 hv9
            simp only [wpSegsL, inOrder, List.filterMap_cons, List.filterMap_nil, List.getElem?_cons_zero, List.getElem?_cons_succ, List.take_succ_cons, List.take_zero, List.drop_succ_cons, List.drop_zero]
            have q0 := fun z => (hold_ok (S0 := fun W => Blk W gd 26 [.int .i64 dp, .int .i64 nx, (.slice a1 nB k1), (.slice a3 nC k3), .slice a6 nQ' c6] ∧ Blk W gq 39 [.int .i64 i0, .int .i64 k0, .int .i64 b0, (.slice a5 m n5)]) hW z).1.cell 0
            have q1 := fun z => (hold_ok (S0 := fun W => Blk W gd 26 [.int .i64 dp, .int .i64 nx, (.slice a1 nB k1), (.slice a3 nC k3), .slice a6 nQ' c6] ∧ Blk W gq 39 [.int .i64 i0, .int .i64 k0, .int .i64 b0, (.slice a5 m n5)]) hW z).1.cell 1
            have q2 := fun z => (hold_ok (S0 := fun W => Blk W gd 26 [.int .i64 dp, .int .i64 nx, (.slice a1 nB k1), (.slice a3 nC k3), .slice a6 nQ' c6] ∧ Blk W gq 39 [.int .i64 i0, .int .i64 k0, .int .i64 b0, (.slice a5 m n5)]) hW z).1.cell 2
            have q3 := fun z => (hold_ok (S0 := fun W => Blk W gd 26 [.int .i64 dp, .int .i64 nx, (.slice a1 nB k1), (.slice a3 nC k3), .slice a6 nQ' c6] ∧ Blk W gq 39 [.int .i64 i0, .int .i64 k0, .int .i64 b0, (.slice a5 m n5)]) hW z).1.cell 3
            have q4 := fun z => (hold_ok (S0 := fun W => Blk W gd 26 [.int .i64 dp, .int .i64 nx, (.slice a1 nB k1), (.slice a3 nC k3), .slice a6 nQ' c6] ∧ Blk W gq 39 [.int .i64 i0, .int .i64 k0, .int .i64 b0, (.slice a5 m n5)]) hW z).1.cell 4
            have q5 := fun z => (hold_ok (S0 := fun W => Blk W gd 26 [.int .i64 dp, .int .i64 nx, (.slice a1 nB k1), (.slice a3 nC k3), .slice a6 nQ' c6] ∧ Blk W gq 39 [.int .i64 i0, .int .i64 k0, .int .i64 b0, (.slice a5 m n5)]) hW z).2.cell 0
            have q6 := fun z => (hold_ok (S0 := fun W => Blk W gd 26 [.int .i64 dp, .int .i64 nx, (.slice a1 nB k1), (.slice a3 nC k3), .slice a6 nQ' c6] ∧ Blk W gq 39 [.int .i64 i0, .int .i64 k0, .int .i64 b0, (.slice a5 m n5)]) hW z).2.cell 1
            have q7 := fun z => (hold_ok (S0 := fun W => Blk W gd 26 [.int .i64 dp, .int .i64 nx, (.slice a1 nB k1), (.slice a3 nC k3), .slice a6 nQ' c6] ∧ Blk W gq 39 [.int .i64 i0, .int .i64 k0, .int .i64 b0, (.slice a5 m n5)]) hW z).2.cell 2
            have q8 := fun z => (hold_ok (S0 := fun W => Blk W gd 26 [.int .i64 dp, .int .i64 nx, (.slice a1 nB k1), (.slice a3 nC k3), .slice a6 nQ' c6] ∧ Blk W gq 39 [.int .i64 i0, .int .i64 k0, .int .i64 b0, (.slice a5 m n5)]) hW z).2.cell 3
            simp only [List.getElem?_cons_zero, List.getElem?_cons_succ] at q0 q1 q2 q3 q4 q5 q6 q7 q8
            show wpQuiet _ _ _ _ (_ :: [_]) _
            repeat (go_big_quiet_step (fail))
            refine wpQuiet_nil ?_
            clear q0 q1 q2 q3 q4 q5 q6 q7 q8
            have y0 := hTW.t.r.cell 0
            have y1 := hTW.t.r.cell 1
            have y2 := hTW.t.r.cell 2
            have y3 := hTW.t.r.cell 3
            have y4 := hTW.t.r.cell 4
            have f0 := hTW.t.r.frozen 0
            have f1 := hTW.t.r.frozen 1
            have f2 := hTW.t.r.frozen 2
            have f3 := hTW.t.r.frozen 3
            have f4 := hTW.t.r.frozen 4
            have p0 := hTW.q.cell 0
            have p1 := hTW.q.cell 1
            have p2 := hTW.q.cell 2
            have p3 := hTW.q.cell 3
            have pf0 := hTW.q.frozen 0
            have pf1 := hTW.q.frozen 1
            have pf2 := hTW.q.frozen 2
            have pf3 := hTW.q.frozen 3
            simp only [zD, zQ, List.getElem?_cons_zero, List.getElem?_cons_succ] at y0 y1 y2 y3 y4 p0 p1 p2 p3
            go_wp2
            have hq5 := far5B hTW.q (show w.heap.size + 1 + 1 ≠ w.heap.size + 1 by omega) (.int .i64 dp) (.int .i64 nx) (.slice a1 nB k1) (.slice a3 nC k3) (.slice a6 nQ' c6)
            refine ⟨hold_of (S0 := fun W => Blk W gd 26 [.int .i64 dp, .int .i64 nx, (.slice a1 nB k1), (.slice a3 nC k3), .slice a6 nQ' c6] ∧ Blk W gq 39 [.int .i64 i0, .int .i64 k0, .int .i64 b0, (.slice a5 m n5)]) ⟨far5B hW.1 (by omega) _ _ _ _ _, far5B hW.2 (by omega) _ _ _ _ _⟩, ?_⟩
            dsimp only
            have p0 := hq5.cell 0
            have p1 := hq5.cell 1
            have p2 := hq5.cell 2
            have p3 := hq5.cell 3
            have pf0 := hq5.frozen 0
            have pf1 := hq5.frozen 1
            have pf2 := hq5.frozen 2
            have pf3 := hq5.frozen 3
            simp only [zQ, List.getElem?_cons_zero, List.getElem?_cons_succ] at p0 p1 p2 p3
            clear y0 y1 y2 y3 y4 f0 f1 f2 f3 f4
            obtain ⟨o1, o2, o3, o4, o5⟩ := compl_ans (d := ⟨dp, nx, bl, ca, qu.eraseIdx p⟩) (q := (i0, k0, b0, s0)) hTW hRW hvW hgt3
            go_wp2
            refine ⟨hold_of (S0 := fun W => Blk W gd 26 [.int .i64 dp, .int .i64 nx, (.slice a1 nB k1), (.slice a3 nC k3), .slice a6 nQ' c6] ∧ Blk W gq 39 [.int .i64 i0, .int .i64 k0, .int .i64 b0, (.slice a5 m n5)]) ⟨far4 (far5B hW.1 (by omega) _ _ _ _ _) (by omega) _ _ _ _, far4 (far5B hW.2 (by omega) _ _ _ _ _) (by omega) _ _ _ _⟩, ?_⟩
            dsimp only
            show wpQuiet _ _ _ _ [_] _
            repeat (go_big_quiet_step (fail))
            refine wpQuiet_nil ?_
            refine NoPanic.normal ?_
            go_wp2
            refine bodyPost_ret (results_cell_cell rfl _ _ (w.heap.size + 1) (w.heap.size + 1 + 1) _ _ _ _ _ _ _ _ _ _ rfl o4 rfl o5 rfl) rfl ⟨_, _, ?_, o1, o2, o3⟩
            rfl
          | true =>
            have HPQ := Lib.hid (HP.out.symm.trans (cmpD_ok HR.out HS.out))
            have hrq := (HOK.out.qu _ (List.mem_of_getElem? HS.out)).2
            simp only [NB.out] at hrq
            have hkind : k0 = 1 ∨ k0 = 2 ∨ k0 = 3 := by
              unfold rqE at hrq
              repeat' split at hrq
              all_goals omega
            have hblk : k0 ≠ 3 → 0 ≤ b0 ∧ b0 < nB := by
              unfold rqE at hrq
              repeat' split at hrq
              all_goals omega
            have HBLK := Lib.hid hblk
            clear HP hrq hblk
            have y1 := C1.q.cell 1
            simp only [List.getElem?_cons_zero, List.getElem?_cons_succ] at y1
            rcases hkind with rfl | rfl | rfl
            · have y2 := C1.q.cell 2
              have x0 := C1.t.t.a.cell 0
              have x1 := C1.t.t.a.cell 1
              have x2 := C1.t.t.a.cell 2
              have x3 := C1.t.t.a.cell 3
              simp only [List.getElem?_cons_zero, List.getElem?_cons_succ] at y2 x0 x1 x2 x3
              go_wp2_with fail
              refine (content_17 dp nx aB aC aQ bl ca qu nB cB nC cC nQ cQ b0 wr (HB.below C1.t.t.b) (HC.below C1.t.t.b) (HQ.below C1.t.t.b) NB.out NC.out NQ.out mB mC mQ).mono ?_
              rintro e w10 ⟨v, rfl, hv, b10⟩
              have hf := HBLK.out (by decide)
              have hcont : contD ⟨dp, nx, bl, ca, qu⟩ b0 = cont ⟨dp, nx, bl, ca, qu⟩ b0 := by
                unfold contD
                rw [if_pos ⟨HR.out, hf.1, by simp only [NB.out]; exact hf.2⟩]
              rw [hcont] at hv
              obtain ⟨s9, hs9⟩ : ∃ s9, cont ⟨dp, nx, bl, ca, qu⟩ b0 = s9 := ⟨_, rfl⟩
              have hPQ2 := HPQ.out.trans cmpQ_read
              rw [hs9] at hPQ2 hv
              have HPQ2 := Lib.hid hPQ2
              clear hf hcont hs9 hPQ2
              obtain ⟨a9, k9, rfl, _, _, _, _⟩ := hv.form rfl
              obtain ⟨m9, hm9⟩ : ∃ m9, s9.length = m9 := ⟨_, rfl⟩
              rw [hm9] at hv ⊢
              have C2 := C1.below b10
              have y3 := C2.q.cell 3
              have yf := C2.q.frozen 3
              simp only [List.getElem?_cons_zero, List.getElem?_cons_succ] at y3
              have C3 := C2.data hv
              clear C1 y1 y2 x0 x1 x2 x3 x4 b10 C2 hm9
              go_upto_region 18 with fail
              obtain ⟨w11, hw11⟩ : ∃ W, W = w10.setCell ⟨gq, 3, none⟩ (.slice a9 m9 k9) := ⟨_, rfl⟩
              rw [← hw11] at C3 ⊢
              clear hw11 y3 yf hv
              have y1 := C3.q.cell 1
              simp only [List.getElem?_cons_zero, List.getElem?_cons_succ] at y1
              obtain rfl := HPQ2.out
              obtain ⟨hT9, hR9, hD9, hX9, hv9, _, _, _, _⟩ := C3
              go_wp2_with fail
              clear y1
              refine wp_region_in (fun W => Blk W gd 26 [.int .i64 dp, .int .i64 nx, (.slice a1 nB k1), (.slice a3 nC k3), .slice a6 nQ' c6] ∧ Blk W gq 39 [.int .i64 i0, .int .i64 1, .int .i64 b0, (.slice a9 m9 k9)]) [(true, 2), (false, 1), (false, 1), (true, 1)] [0, 1, 2, 3, 4] 99 (by kernel_rfl) (by kernel_rfl) ⟨hD9.later (Below.refl _ _).drew, hX9.later (Below.refl _ _).drew⟩ ?_
              intro W hW hWe
              have hTW : Three w [.int .i64 dp, .int .i64 nx, .slice aB nB cB, .slice aC nC cC, .slice aQ nQ cQ] zD zQ W := by rw [hWe]; exact hT9.below (Below.refl _ _).drew
              have hRW : Rows3 W w3.heap.size (.slice a1 nB k1) (.slice a3 nC k3) (.slice a6 nQ' c6) bl ca (qu.eraseIdx p) := by rw [hWe]; exact hR9.below (Below.refl _ _).drew
              have hvW : SlV W (.slice a9 m9 k9) s9 := by rw [hWe]; exact hv9.k5 (K5.below (Below.refl _ _).drew)
              clear hWe hT9 hR9 hD9 hX9 hv9
              simp only [wpSegsL, inOrder, List.filterMap_cons, List.filterMap_nil, List.getElem?_cons_zero, List.getElem?_cons_succ, List.take_succ_cons, List.take_zero, List.drop_succ_cons, List.drop_zero]
              have q0 := fun z => (hold_ok (S0 := fun W => Blk W gd 26 [.int .i64 dp, .int .i64 nx, (.slice a1 nB k1), (.slice a3 nC k3), .slice a6 nQ' c6] ∧ Blk W gq 39 [.int .i64 i0, .int .i64 1, .int .i64 b0, (.slice a9 m9 k9)]) hW z).1.cell 0
              have q1 := fun z => (hold_ok (S0 := fun W => Blk W gd 26 [.int .i64 dp, .int .i64 nx, (.slice a1 nB k1), (.slice a3 nC k3), .slice a6 nQ' c6] ∧ Blk W gq 39 [.int .i64 i0, .int .i64 1, .int .i64 b0, (.slice a9 m9 k9)]) hW z).1.cell 1
              have q2 := fun z => (hold_ok (S0 := fun W => Blk W gd 26 [.int .i64 dp, .int .i64 nx, (.slice a1 nB k1), (.slice a3 nC k3), .slice a6 nQ' c6] ∧ Blk W gq 39 [.int .i64 i0, .int .i64 1, .int .i64 b0, (.slice a9 m9 k9)]) hW z).1.cell 2
              have q3 := fun z => (hold_ok (S0 := fun W => Blk W gd 26 [.int .i64 dp, .int .i64 nx, (.slice a1 nB k1), (.slice a3 nC k3), .slice a6 nQ' c6] ∧ Blk W gq 39 [.int .i64 i0, .int .i64 1, .int .i64 b0, (.slice a9 m9 k9)]) hW z).1.cell 3
              have q4 := fun z => (hold_ok (S0 := fun W => Blk W gd 26 [.int .i64 dp, .int .i64 nx, (.slice a1 nB k1), (.slice a3 nC k3), .slice a6 nQ' c6] ∧ Blk W gq 39 [.int .i64 i0, .int .i64 1, .int .i64 b0, (.slice a9 m9 k9)]) hW z).1.cell 4
              have q5 := fun z => (hold_ok (S0 := fun W => Blk W gd 26 [.int .i64 dp, .int .i64 nx, (.slice a1 nB k1), (.slice a3 nC k3), .slice a6 nQ' c6] ∧ Blk W gq 39 [.int .i64 i0, .int .i64 1, .int .i64 b0, (.slice a9 m9 k9)]) hW z).2.cell 0
              have q6 := fun z => (hold_ok (S0 := fun W => Blk W gd 26 [.int .i64 dp, .int .i64 nx, (.slice a1 nB k1), (.slice a3 nC k3), .slice a6 nQ' c6] ∧ Blk W gq 39 [.int .i64 i0, .int .i64 1, .int .i64 b0, (.slice a9 m9 k9)]) hW z).2.cell 1
              have q7 := fun z => (hold_ok (S0 := fun W => Blk W gd 26 [.int .i64 dp, .int .i64 nx, (.slice a1 nB k1), (.slice a3 nC k3), .slice a6 nQ' c6] ∧ Blk W gq 39 [.int .i64 i0, .int .i64 1, .int .i64 b0, (.slice a9 m9 k9)]) hW z).2.cell 2
              have q8 := fun z => (hold_ok (S0 := fun W => Blk W gd 26 [.int .i64 dp, .int .i64 nx, (.slice a1 nB k1), (.slice a3 nC k3), .slice a6 nQ' c6] ∧ Blk W gq 39 [.int .i64 i0, .int .i64 1, .int .i64 b0, (.slice a9 m9 k9)]) hW z).2.cell 3
              simp only [List.getElem?_cons_zero, List.getElem?_cons_succ] at q0 q1 q2 q3 q4 q5 q6 q7 q8
              show wpQuiet _ _ _ _ (_ :: [_]) _
              repeat (go_big_quiet_step (fail))
              refine wpQuiet_nil ?_
              clear q0 q1 q2 q3 q4 q5 q6 q7 q8
              have y0 := hTW.t.r.cell 0
              have y1 := hTW.t.r.cell 1
              have y2 := hTW.t.r.cell 2
              have y3 := hTW.t.r.cell 3
              have y4 := hTW.t.r.cell 4
              have f0 := hTW.t.r.frozen 0
              have f1 := hTW.t.r.frozen 1
              have f2 := hTW.t.r.frozen 2
              have f3 := hTW.t.r.frozen 3
              have f4 := hTW.t.r.frozen 4
              have p0 := hTW.q.cell 0
              have p1 := hTW.q.cell 1
              have p2 := hTW.q.cell 2
              have p3 := hTW.q.cell 3
              have pf0 := hTW.q.frozen 0
              have pf1 := hTW.q.frozen 1
              have pf2 := hTW.q.frozen 2
              have pf3 := hTW.q.frozen 3
              simp only [zD, zQ, List.getElem?_cons_zero, List.getElem?_cons_succ] at y0 y1 y2 y3 y4 p0 p1 p2 p3
              go_wp2
              have hq5 := far5B hTW.q (show w.heap.size + 1 + 1 ≠ w.heap.size + 1 by omega) (.int .i64 dp) (.int .i64 nx) (.slice a1 nB k1) (.slice a3 nC k3) (.slice a6 nQ' c6)
              refine ⟨hold_of (S0 := fun W => Blk W gd 26 [.int .i64 dp, .int .i64 nx, (.slice a1 nB k1), (.slice a3 nC k3), .slice a6 nQ' c6] ∧ Blk W gq 39 [.int .i64 i0, .int .i64 1, .int .i64 b0, (.slice a9 m9 k9)]) ⟨far5B hW.1 (by omega) _ _ _ _ _, far5B hW.2 (by omega) _ _ _ _ _⟩, ?_⟩
              dsimp only
              have p0 := hq5.cell 0
              have p1 := hq5.cell 1
              have p2 := hq5.cell 2
              have p3 := hq5.cell 3
              have pf0 := hq5.frozen 0
              have pf1 := hq5.frozen 1
              have pf2 := hq5.frozen 2
              have pf3 := hq5.frozen 3
              simp only [zQ, List.getElem?_cons_zero, List.getElem?_cons_succ] at p0 p1 p2 p3
              clear y0 y1 y2 y3 y4 f0 f1 f2 f3 f4
              obtain ⟨o1, o2, o3, o4, o5⟩ := compl_ans (d := ⟨dp, nx, bl, ca, qu.eraseIdx p⟩) (q := (i0, 1, b0, s9)) hTW hRW hvW hgt3
              go_wp2
              refine ⟨hold_of (S0 := fun W => Blk W gd 26 [.int .i64 dp, .int .i64 nx, (.slice a1 nB k1), (.slice a3 nC k3), .slice a6 nQ' c6] ∧ Blk W gq 39 [.int .i64 i0, .int .i64 1, .int .i64 b0, (.slice a9 m9 k9)]) ⟨far4 (far5B hW.1 (by omega) _ _ _ _ _) (by omega) _ _ _ _, far4 (far5B hW.2 (by omega) _ _ _ _ _) (by omega) _ _ _ _⟩, ?_⟩
              dsimp only
              show wpQuiet _ _ _ _ [_] _
              repeat (go_big_quiet_step (fail))
              refine wpQuiet_nil ?_
              refine NoPanic.normal ?_
              go_wp2
              refine bodyPost_ret (results_cell_cell rfl _ _ (w.heap.size + 1) (w.heap.size + 1 + 1) _ _ _ _ _ _ _ _ _ _ rfl o4 rfl o5 rfl) rfl ⟨_, _, ?_, o1, o2, o3⟩
              rfl
            · have y2 := C1.q.cell 2
              have y3 := C1.q.cell 3
              have d3 := C1.d.cell 3
              simp only [List.getElem?_cons_zero, List.getElem?_cons_succ] at y2 y3 d3
              have hm32 : m ≤ 32 := by have h := rqE_len (HOK.out.qu _ (List.mem_of_getElem? HS.out)).2; simp only [HM.out] at h; exact h
              go_wp2_with fail
              refine (put_50 w3.heap.size a3 ca nC k3 b0 a5 s0 m n5 wr C1.r.c NC.out C1.v HM.out (by omega) (by omega) HOK.out.asc).mono ?_
              rintro e w10 ⟨V, rfl, hRow, b10⟩
              have hlt3 : w3.heap.size ≤ wr.heap.size := by have := C1.d.lt; have := C1.l2; omega
              have hRow := hRow.weaken hlt3
              obtain ⟨nP, hnP⟩ : ∃ k, (putC b0 s0 ca).length = k := ⟨_, rfl⟩
              obtain ⟨aP, cP, rfl, _, _, _⟩ := hRow.form hnP
              have C2 := C1.below b10
              have d3 := C2.d.cell 3
              have df3 := C2.d.frozen 3
              simp only [List.getElem?_cons_zero, List.getElem?_cons_succ] at d3
              have C3 := C2.cache hRow
              clear C1 y1 y2 y3 x4 b10 C2 hnP hRow hlt3
              go_upto_region 20 with fail
              obtain ⟨w11, hw11⟩ : ∃ W, W = w10.setCell ⟨gd, 3, none⟩ (.slice aP nP cP) := ⟨_, rfl⟩
              rw [← hw11] at C3 ⊢
              clear hw11 d3 df3
              have y1 := C3.q.cell 1
              simp only [List.getElem?_cons_zero, List.getElem?_cons_succ] at y1
              obtain rfl := HPQ.out.trans cmpQ_write
              obtain ⟨hT9, hR9, hD9, hX9, hv9, _, _, _, _⟩ := C3
              go_wp2_with fail
              clear y1
              refine wp_region_in (fun W => Blk W gd 26 [.int .i64 dp, .int .i64 nx, (.slice a1 nB k1), (.slice aP nP cP), .slice a6 nQ' c6] ∧ Blk W gq 39 [.int .i64 i0, .int .i64 2, .int .i64 b0, (.slice a5 m n5)]) [(true, 2), (false, 1), (false, 1), (true, 1)] [0, 1, 2, 3, 4] 99 (by kernel_rfl) (by kernel_rfl) ⟨hD9.later (Below.refl _ _).drew, hX9.later (Below.refl _ _).drew⟩ ?_
              intro W hW hWe
              have hTW : Three w [.int .i64 dp, .int .i64 nx, .slice aB nB cB, .slice aC nC cC, .slice aQ nQ cQ] zD zQ W := by rw [hWe]; exact hT9.below (Below.refl _ _).drew
              have hRW : Rows3 W w3.heap.size (.slice a1 nB k1) (.slice aP nP cP) (.slice a6 nQ' c6) bl (putC b0 s0 ca) (qu.eraseIdx p) := by rw [hWe]; exact hR9.below (Below.refl _ _).drew
              have hvW : SlV W (.slice a5 m n5) s0 := by rw [hWe]; exact hv9.k5 (K5.below (Below.refl _ _).drew)
              clear hWe hT9 hR9 hD9 hX9 hv9
              simp only [wpSegsL, inOrder, List.filterMap_cons, List.filterMap_nil, List.getElem?_cons_zero, List.getElem?_cons_succ, List.take_succ_cons, List.take_zero, List.drop_succ_cons, List.drop_zero]
              have q0 := fun z => (hold_ok (S0 := fun W => Blk W gd 26 [.int .i64 dp, .int .i64 nx, (.slice a1 nB k1), (.slice aP nP cP), .slice a6 nQ' c6] ∧ Blk W gq 39 [.int .i64 i0, .int .i64 2, .int .i64 b0, (.slice a5 m n5)]) hW z).1.cell 0
              have q1 := fun z => (hold_ok (S0 := fun W => Blk W gd 26 [.int .i64 dp, .int .i64 nx, (.slice a1 nB k1), (.slice aP nP cP), .slice a6 nQ' c6] ∧ Blk W gq 39 [.int .i64 i0, .int .i64 2, .int .i64 b0, (.slice a5 m n5)]) hW z).1.cell 1
              have q2 := fun z => (hold_ok (S0 := fun W => Blk W gd 26 [.int .i64 dp, .int .i64 nx, (.slice a1 nB k1), (.slice aP nP cP), .slice a6 nQ' c6] ∧ Blk W gq 39 [.int .i64 i0, .int .i64 2, .int .i64 b0, (.slice a5 m n5)]) hW z).1.cell 2
              have q3 := fun z => (hold_ok (S0 := fun W => Blk W gd 26 [.int .i64 dp, .int .i64 nx, (.slice a1 nB k1), (.slice aP nP cP), .slice a6 nQ' c6] ∧ Blk W gq 39 [.int .i64 i0, .int .i64 2, .int .i64 b0, (.slice a5 m n5)]) hW z).1.cell 3
              have q4 := fun z => (hold_ok (S0 := fun W => Blk W gd 26 [.int .i64 dp, .int .i64 nx, (.slice a1 nB k1), (.slice aP nP cP), .slice a6 nQ' c6] ∧ Blk W gq 39 [.int .i64 i0, .int .i64 2, .int .i64 b0, (.slice a5 m n5)]) hW z).1.cell 4
              have q5 := fun z => (hold_ok (S0 := fun W => Blk W gd 26 [.int .i64 dp, .int .i64 nx, (.slice a1 nB k1), (.slice aP nP cP), .slice a6 nQ' c6] ∧ Blk W gq 39 [.int .i64 i0, .int .i64 2, .int .i64 b0, (.slice a5 m n5)]) hW z).2.cell 0
              have q6 := fun z => (hold_ok (S0 := fun W => Blk W gd 26 [.int .i64 dp, .int .i64 nx, (.slice a1 nB k1), (.slice aP nP cP), .slice a6 nQ' c6] ∧ Blk W gq 39 [.int .i64 i0, .int .i64 2, .int .i64 b0, (.slice a5 m n5)]) hW z).2.cell 1
              have q7 := fun z => (hold_ok (S0 := fun W => Blk W gd 26 [.int .i64 dp, .int .i64 nx, (.slice a1 nB k1), (.slice aP nP cP), .slice a6 nQ' c6] ∧ Blk W gq 39 [.int .i64 i0, .int .i64 2, .int .i64 b0, (.slice a5 m n5)]) hW z).2.cell 2
              have q8 := fun z => (hold_ok (S0 := fun W => Blk W gd 26 [.int .i64 dp, .int .i64 nx, (.slice a1 nB k1), (.slice aP nP cP), .slice a6 nQ' c6] ∧ Blk W gq 39 [.int .i64 i0, .int .i64 2, .int .i64 b0, (.slice a5 m n5)]) hW z).2.cell 3
              simp only [List.getElem?_cons_zero, List.getElem?_cons_succ] at q0 q1 q2 q3 q4 q5 q6 q7 q8
              show wpQuiet _ _ _ _ (_ :: [_]) _
              repeat (go_big_quiet_step (fail))
              refine wpQuiet_nil ?_
              clear q0 q1 q2 q3 q4 q5 q6 q7 q8
              have y0 := hTW.t.r.cell 0
              have y1 := hTW.t.r.cell 1
              have y2 := hTW.t.r.cell 2
              have y3 := hTW.t.r.cell 3
              have y4 := hTW.t.r.cell 4
              have f0 := hTW.t.r.frozen 0
              have f1 := hTW.t.r.frozen 1
              have f2 := hTW.t.r.frozen 2
              have f3 := hTW.t.r.frozen 3
              have f4 := hTW.t.r.frozen 4
              have p0 := hTW.q.cell 0
              have p1 := hTW.q.cell 1
              have p2 := hTW.q.cell 2
              have p3 := hTW.q.cell 3
              have pf0 := hTW.q.frozen 0
              have pf1 := hTW.q.frozen 1
              have pf2 := hTW.q.frozen 2
              have pf3 := hTW.q.frozen 3
              simp only [zD, zQ, List.getElem?_cons_zero, List.getElem?_cons_succ] at y0 y1 y2 y3 y4 p0 p1 p2 p3
              go_wp2
              have hq5 := far5B hTW.q (show w.heap.size + 1 + 1 ≠ w.heap.size + 1 by omega) (.int .i64 dp) (.int .i64 nx) (.slice a1 nB k1) (.slice aP nP cP) (.slice a6 nQ' c6)
              refine ⟨hold_of (S0 := fun W => Blk W gd 26 [.int .i64 dp, .int .i64 nx, (.slice a1 nB k1), (.slice aP nP cP), .slice a6 nQ' c6] ∧ Blk W gq 39 [.int .i64 i0, .int .i64 2, .int .i64 b0, (.slice a5 m n5)]) ⟨far5B hW.1 (by omega) _ _ _ _ _, far5B hW.2 (by omega) _ _ _ _ _⟩, ?_⟩
              dsimp only
              have p0 := hq5.cell 0
              have p1 := hq5.cell 1
              have p2 := hq5.cell 2
              have p3 := hq5.cell 3
              have pf0 := hq5.frozen 0
              have pf1 := hq5.frozen 1
              have pf2 := hq5.frozen 2
              have pf3 := hq5.frozen 3
              simp only [zQ, List.getElem?_cons_zero, List.getElem?_cons_succ] at p0 p1 p2 p3
              clear y0 y1 y2 y3 y4 f0 f1 f2 f3 f4
              obtain ⟨o1, o2, o3, o4, o5⟩ := compl_ans (d := ⟨dp, nx, bl, (putC b0 s0 ca), qu.eraseIdx p⟩) (q := (i0, 2, b0, s0)) hTW hRW hvW hgt3
              go_wp2
              refine ⟨hold_of (S0 := fun W => Blk W gd 26 [.int .i64 dp, .int .i64 nx, (.slice a1 nB k1), (.slice aP nP cP), .slice a6 nQ' c6] ∧ Blk W gq 39 [.int .i64 i0, .int .i64 2, .int .i64 b0, (.slice a5 m n5)]) ⟨far4 (far5B hW.1 (by omega) _ _ _ _ _) (by omega) _ _ _ _, far4 (far5B hW.2 (by omega) _ _ _ _ _) (by omega) _ _ _ _⟩, ?_⟩
              dsimp only
              show wpQuiet _ _ _ _ [_] _
              repeat (go_big_quiet_step (fail))
              refine wpQuiet_nil ?_
              refine NoPanic.normal ?_
              go_wp2
              refine bodyPost_ret (results_cell_cell rfl _ _ (w.heap.size + 1) (w.heap.size + 1 + 1) _ _ _ _ _ _ _ _ _ _ rfl o4 rfl o5 rfl) rfl ⟨_, _, ?_, o1, o2, o3⟩
              rfl
            · have HPF := Lib.hid (show P = (⟨dp, nx, flushB bl ca, [], qu.eraseIdx p⟩, (i0, 3, b0, s0), 0) from HPQ.out.trans cmpQ_flush)
              have hbl : ∀ c ∈ ca, c.1 < nB := fun c hc => by have := HOK.out.cb c hc; simp only [NB.out] at this; exact this
              have hasc := HOK.out.asc
              simp only at hasc
              have HBL := Lib.hid hbl; have HASC := Lib.hid hasc
              clear HPQ hbl hasc
              go_wp2
              clear y1 x4
              go_loopg [13] nC (fun gg v13 wr => ∃ (i : Nat) (bl' : List (List Int)), i + gg = nC ∧ v13 = .int .i64 i ∧ flushB bl ca = flushB bl' (ca.drop i) ∧ bl'.length = nB ∧ CS w [.int .i64 dp, .int .i64 nx, .slice aB nB cB, .slice aC nC cC, .slice aQ nQ cQ] w3.heap.size gd gq dp nx i0 3 b0 (.slice a1 nB k1) (.slice a3 nC k3) (.slice a6 nQ' c6) (.slice a5 m n5) bl' ca (qu.eraseIdx p) s0 wr)
              case atStart => exact ⟨0, bl, by omega, rfl, rfl, NB.out, C1⟩
              case round =>
                clear C1
                obtain ⟨i, bl', hg, rfl, hfl, hlb, C1⟩ := hrel
                have d3 := C1.d.cell 3
                have df3 := C1.d.frozen 3
                simp only [List.getElem?_cons_zero, List.getElem?_cons_succ] at d3
                cases gk with
                | zero =>
                  obtain rfl : nC = i := by omega
                  have HFL := Lib.hid (show flushB bl ca = bl' by rw [hfl, List.drop_eq_nil_of_le (by rw [NC.out]; exact Nat.le_refl _)]; rfl)
                  have C2 := C1.cache (VC' := .slice none 0 0) (ca' := []) (Row.nil _ _)
                  obtain rfl : P = (⟨dp, nx, bl', [], qu.eraseIdx p⟩, (i0, 3, b0, s0), 0) := by rw [HPF.out, HFL.out]
                  clear hg hfl C1 HPF HFL
                  go_wp2_with fail
                  obtain ⟨w11, hw11⟩ : ∃ W, W = wr.setCell ⟨gd, 3, none⟩ (.slice none 0 0) := ⟨_, rfl⟩
                  rw [← hw11] at C2 ⊢
                  clear hw11 d3 df3
                  obtain ⟨hT9, hR9, hD9, hX9, hv9, _, _, _, _⟩ := C2
                  refine wp_region_in (fun W => Blk W gd 26 [.int .i64 dp, .int .i64 nx, (.slice a1 nB k1), (.slice none 0 0), .slice a6 nQ' c6] ∧ Blk W gq 39 [.int .i64 i0, .int .i64 3, .int .i64 b0, (.slice a5 m n5)]) [(true, 2), (false, 1), (false, 1), (true, 1)] [0, 1, 2, 3, 4] 99 (by kernel_rfl) (by kernel_rfl) ⟨hD9.later (Below.refl _ _).drew, hX9.later (Below.refl _ _).drew⟩ ?_
                  intro W hW hWe
                  have hTW : Three w [.int .i64 dp, .int .i64 nx, .slice aB nB cB, .slice aC nC cC, .slice aQ nQ cQ] zD zQ W := by rw [hWe]; exact hT9.below (Below.refl _ _).drew
                  have hRW : Rows3 W w3.heap.size (.slice a1 nB k1) (.slice none 0 0) (.slice a6 nQ' c6) bl' [] (qu.eraseIdx p) := by rw [hWe]; exact hR9.below (Below.refl _ _).drew
                  have hvW : SlV W (.slice a5 m n5) s0 := by rw [hWe]; exact hv9.k5 (K5.below (Below.refl _ _).drew)
                  clear hWe hT9 hR9 hD9 hX9 hv9
                  simp only [wpSegsL, inOrder, List.filterMap_cons, List.filterMap_nil, List.getElem?_cons_zero, List.getElem?_cons_succ, List.take_succ_cons, List.take_zero, List.drop_succ_cons, List.drop_zero]
                  have q0 := fun z => (hold_ok (S0 := fun W => Blk W gd 26 [.int .i64 dp, .int .i64 nx, (.slice a1 nB k1), (.slice none 0 0), .slice a6 nQ' c6] ∧ Blk W gq 39 [.int .i64 i0, .int .i64 3, .int .i64 b0, (.slice a5 m n5)]) hW z).1.cell 0
                  have q1 := fun z => (hold_ok (S0 := fun W => Blk W gd 26 [.int .i64 dp, .int .i64 nx, (.slice a1 nB k1), (.slice none 0 0), .slice a6 nQ' c6] ∧ Blk W gq 39 [.int .i64 i0, .int .i64 3, .int .i64 b0, (.slice a5 m n5)]) hW z).1.cell 1
                  have q2 := fun z => (hold_ok (S0 := fun W => Blk W gd 26 [.int .i64 dp, .int .i64 nx, (.slice a1 nB k1), (.slice none 0 0), .slice a6 nQ' c6] ∧ Blk W gq 39 [.int .i64 i0, .int .i64 3, .int .i64 b0, (.slice a5 m n5)]) hW z).1.cell 2
                  have q3 := fun z => (hold_ok (S0 := fun W => Blk W gd 26 [.int .i64 dp, .int .i64 nx, (.slice a1 nB k1), (.slice none 0 0), .slice a6 nQ' c6] ∧ Blk W gq 39 [.int .i64 i0, .int .i64 3, .int .i64 b0, (.slice a5 m n5)]) hW z).1.cell 3
                  have q4 := fun z => (hold_ok (S0 := fun W => Blk W gd 26 [.int .i64 dp, .int .i64 nx, (.slice a1 nB k1), (.slice none 0 0), .slice a6 nQ' c6] ∧ Blk W gq 39 [.int .i64 i0, .int .i64 3, .int .i64 b0, (.slice a5 m n5)]) hW z).1.cell 4
                  have q5 := fun z => (hold_ok (S0 := fun W => Blk W gd 26 [.int .i64 dp, .int .i64 nx, (.slice a1 nB k1), (.slice none 0 0), .slice a6 nQ' c6] ∧ Blk W gq 39 [.int .i64 i0, .int .i64 3, .int .i64 b0, (.slice a5 m n5)]) hW z).2.cell 0
                  have q6 := fun z => (hold_ok (S0 := fun W => Blk W gd 26 [.int .i64 dp, .int .i64 nx, (.slice a1 nB k1), (.slice none 0 0), .slice a6 nQ' c6] ∧ Blk W gq 39 [.int .i64 i0, .int .i64 3, .int .i64 b0, (.slice a5 m n5)]) hW z).2.cell 1
                  have q7 := fun z => (hold_ok (S0 := fun W => Blk W gd 26 [.int .i64 dp, .int .i64 nx, (.slice a1 nB k1), (.slice none 0 0), .slice a6 nQ' c6] ∧ Blk W gq 39 [.int .i64 i0, .int .i64 3, .int .i64 b0, (.slice a5 m n5)]) hW z).2.cell 2
                  have q8 := fun z => (hold_ok (S0 := fun W => Blk W gd 26 [.int .i64 dp, .int .i64 nx, (.slice a1 nB k1), (.slice none 0 0), .slice a6 nQ' c6] ∧ Blk W gq 39 [.int .i64 i0, .int .i64 3, .int .i64 b0, (.slice a5 m n5)]) hW z).2.cell 3
                  simp only [List.getElem?_cons_zero, List.getElem?_cons_succ] at q0 q1 q2 q3 q4 q5 q6 q7 q8
                  show wpQuiet _ _ _ _ (_ :: [_]) _
                  repeat (go_big_quiet_step (fail))
                  refine wpQuiet_nil ?_
                  clear q0 q1 q2 q3 q4 q5 q6 q7 q8
                  have y0 := hTW.t.r.cell 0
                  have y1 := hTW.t.r.cell 1
                  have y2 := hTW.t.r.cell 2
                  have y3 := hTW.t.r.cell 3
                  have y4 := hTW.t.r.cell 4
                  have f0 := hTW.t.r.frozen 0
                  have f1 := hTW.t.r.frozen 1
                  have f2 := hTW.t.r.frozen 2
                  have f3 := hTW.t.r.frozen 3
                  have f4 := hTW.t.r.frozen 4
                  have p0 := hTW.q.cell 0
                  have p1 := hTW.q.cell 1
                  have p2 := hTW.q.cell 2
                  have p3 := hTW.q.cell 3
                  have pf0 := hTW.q.frozen 0
                  have pf1 := hTW.q.frozen 1
                  have pf2 := hTW.q.frozen 2
                  have pf3 := hTW.q.frozen 3
                  simp only [zD, zQ, List.getElem?_cons_zero, List.getElem?_cons_succ] at y0 y1 y2 y3 y4 p0 p1 p2 p3
                  go_wp2
                  have hq5 := far5B hTW.q (show w.heap.size + 1 + 1 ≠ w.heap.size + 1 by omega) (.int .i64 dp) (.int .i64 nx) (.slice a1 nB k1) (.slice none 0 0) (.slice a6 nQ' c6)
                  refine ⟨hold_of (S0 := fun W => Blk W gd 26 [.int .i64 dp, .int .i64 nx, (.slice a1 nB k1), (.slice none 0 0), .slice a6 nQ' c6] ∧ Blk W gq 39 [.int .i64 i0, .int .i64 3, .int .i64 b0, (.slice a5 m n5)]) ⟨far5B hW.1 (by omega) _ _ _ _ _, far5B hW.2 (by omega) _ _ _ _ _⟩, ?_⟩
                  dsimp only
                  have p0 := hq5.cell 0
                  have p1 := hq5.cell 1
                  have p2 := hq5.cell 2
                  have p3 := hq5.cell 3
                  have pf0 := hq5.frozen 0
                  have pf1 := hq5.frozen 1
                  have pf2 := hq5.frozen 2
                  have pf3 := hq5.frozen 3
                  simp only [zQ, List.getElem?_cons_zero, List.getElem?_cons_succ] at p0 p1 p2 p3
                  clear y0 y1 y2 y3 y4 f0 f1 f2 f3 f4
                  obtain ⟨o1, o2, o3, o4, o5⟩ := compl_ans (d := ⟨dp, nx, bl', [], qu.eraseIdx p⟩) (q := (i0, 3, b0, s0)) hTW hRW hvW hgt3
                  go_wp2
                  refine ⟨hold_of (S0 := fun W => Blk W gd 26 [.int .i64 dp, .int .i64 nx, (.slice a1 nB k1), (.slice none 0 0), .slice a6 nQ' c6] ∧ Blk W gq 39 [.int .i64 i0, .int .i64 3, .int .i64 b0, (.slice a5 m n5)]) ⟨far4 (far5B hW.1 (by omega) _ _ _ _ _) (by omega) _ _ _ _, far4 (far5B hW.2 (by omega) _ _ _ _ _) (by omega) _ _ _ _⟩, ?_⟩
                  dsimp only
                  show wpQuiet _ _ _ _ [_] _
                  repeat (go_big_quiet_step (fail))
                  refine wpQuiet_nil ?_
                  refine NoPanic.normal ?_
                  go_wp2
                  refine bodyPost_ret (results_cell_cell rfl _ _ (w.heap.size + 1) (w.heap.size + 1 + 1) _ _ _ _ _ _ _ _ _ _ rfl o4 rfl o5 rfl) rfl ⟨_, _, ?_, o1, o2, o3⟩
                  rfl
                | succ gg =>
                  have hin : i < nC := by omega
                  obtain ⟨⟨f, x⟩, hs⟩ := get_some NC.out hin
                  have hfB := HBL.out _ (List.mem_of_getElem? hs)
                  have hf0 := ascC_lt HASC.out _ (List.mem_of_getElem? hs)
                  simp only at hfB hf0
                  obtain ⟨f', rfl⟩ : ∃ f' : Nat, f = f' := ⟨f.toNat, by omega⟩
                  have hf' : f' < bl'.length := by omega
                  have HFS := Lib.hid (hfl.trans (flushB_step hs))
                  obtain ⟨g3, c3, hV3, hg3, hg3b, hent⟩ := C1.r.c.get EC (by rw [NC.out]; omega)
                  rw [NC.out] at hV3
                  cases hV3
                  obtain ⟨g1, c1, hV1, _, _, _⟩ := C1.r.b.get EB (by omega)
                  rw [hlb] at hV1
                  cases hV1
                  obtain ⟨y, ⟨sv, rfl, hv⟩, hy⟩ := hent i _ hs
                  obtain ⟨a9, k9, rfl, _, _, _, _⟩ := hv.form rfl
                  have z0 := hy 0 (by decide)
                  have z1 := hy 1 (by decide)
                  simp only [List.getElem?_cons_zero, List.getElem?_cons_succ, Nat.add_zero] at z0 z1 hv
                  obtain ⟨m9, hm9⟩ : ∃ m9, x.length = m9 := ⟨_, rfl⟩
                  rw [hm9] at z1 hv
                  have hm1000 : m9 ≤ 1000 := by have := LL.out.2.1 _ (List.mem_of_getElem? hs); simp only [hm9] at this; exact this
                  have HM9 := Lib.hid hm9; have HG := Lib.hid hg; have HLB0 := Lib.hid hlb
                  have hfn : f' < nB := by omega
                  clear hs hent hy hg hfl hm9 hlb hfB hf0
                  go_wp2_with fail
                  clear d3 df3
                  refine wp_region_in (fun W => Blk W gd 26 [.int .i64 dp, .int .i64 nx, .slice (some ⟨g1, 0, none⟩) nB k1, .slice (some ⟨g3, 0, none⟩) nC k3, .slice a6 nQ' c6] ∧ W.cell? ⟨g3, i * 2, none⟩ = some (.int .i64 (f' : Int)) ∧ W.cell? ⟨g3, i * 2 + 1, none⟩ = some (.slice a9 m9 k9)) [(true, 14), (false, 1), (true, 1), (false, 1)] [0, 1, 2, 3, 4, 5, 6, 7, 8, 9, 10, 11, 12, 13, 14, 15, 16] 16 (by kernel_rfl) (by kernel_rfl) ⟨C1.d.later (Below.refl _ _).drew, z0, z1⟩ ?_
                  intro W hW hWe
                  have C2 : CS w [.int .i64 dp, .int .i64 nx, .slice aB nB cB, .slice aC nC cC, .slice aQ nQ cQ] w3.heap.size gd gq dp nx i0 3 b0 (.slice (some ⟨g1, 0, none⟩) nB k1) (.slice (some ⟨g3, 0, none⟩) nC k3) (.slice a6 nQ' c6) (.slice a5 m n5) bl' ca (qu.eraseIdx p) s0 W := by rw [hWe]; exact C1.below (Below.refl _ _).drew
                  have hvW : SlV W (.slice a9 m9 k9) x := by rw [hWe]; exact hv.k5 (K5.below (Below.refl _ _).drew)
                  have hsz : W.heap.size = wr.heap.size := by rw [hWe]
                  clear hWe C1 hv z0 z1
                  simp only [wpSegsL, inOrder, List.filterMap_cons, List.filterMap_nil, List.getElem?_cons_zero, List.getElem?_cons_succ, List.take_succ_cons, List.take_zero, List.drop_succ_cons, List.drop_zero]
                  have q2 := fun z => (hold_ok (S0 := fun W => Blk W gd 26 [.int .i64 dp, .int .i64 nx, .slice (some ⟨g1, 0, none⟩) nB k1, .slice (some ⟨g3, 0, none⟩) nC k3, .slice a6 nQ' c6] ∧ W.cell? ⟨g3, i * 2, none⟩ = some (.int .i64 (f' : Int)) ∧ W.cell? ⟨g3, i * 2 + 1, none⟩ = some (.slice a9 m9 k9)) hW z).1.cell 2
                  have q3 := fun z => (hold_ok (S0 := fun W => Blk W gd 26 [.int .i64 dp, .int .i64 nx, .slice (some ⟨g1, 0, none⟩) nB k1, .slice (some ⟨g3, 0, none⟩) nC k3, .slice a6 nQ' c6] ∧ W.cell? ⟨g3, i * 2, none⟩ = some (.int .i64 (f' : Int)) ∧ W.cell? ⟨g3, i * 2 + 1, none⟩ = some (.slice a9 m9 k9)) hW z).1.cell 3
                  have q4 := fun z => (hold_ok (S0 := fun W => Blk W gd 26 [.int .i64 dp, .int .i64 nx, .slice (some ⟨g1, 0, none⟩) nB k1, .slice (some ⟨g3, 0, none⟩) nC k3, .slice a6 nQ' c6] ∧ W.cell? ⟨g3, i * 2, none⟩ = some (.int .i64 (f' : Int)) ∧ W.cell? ⟨g3, i * 2 + 1, none⟩ = some (.slice a9 m9 k9)) hW z).2.1
                  have q5 := fun z => (hold_ok (S0 := fun W => Blk W gd 26 [.int .i64 dp, .int .i64 nx, .slice (some ⟨g1, 0, none⟩) nB k1, .slice (some ⟨g3, 0, none⟩) nC k3, .slice a6 nQ' c6] ∧ W.cell? ⟨g3, i * 2, none⟩ = some (.int .i64 (f' : Int)) ∧ W.cell? ⟨g3, i * 2 + 1, none⟩ = some (.slice a9 m9 k9)) hW z).2.2
                  simp only [List.getElem?_cons_zero, List.getElem?_cons_succ] at q2 q3 q4 q5
                  repeat (go_big_quiet_step (fail))
                  refine wpQuiet_nil ?_
                  clear q2 q3 q4 q5
                  obtain ⟨_, _, hsl, hs1, hs2, hs3, hbt⟩ := hvW.form HM9.out
                  cases hsl
                  go_wp2_with fail
                  refine (bytes_43 a9 x m9 k9 W hbt HM9.out hs3 hs1 (by omega)).mono ?_
                  rintro e w2 ⟨v, rfl, hv2, b2⟩
                  obtain ⟨a2, c2, rfl, _, _, _, _⟩ := hv2.form HM9.out
                  have C3 := C2.below b2
                  have hg3W : g3 < W.heap.size := by rw [hsz]; exact hg3b
                  have z0 := b2.cell (p := ⟨g3, i * 2, none⟩) hg3W
                  have z1 := b2.cell (p := ⟨g3, i * 2 + 1, none⟩) hg3W
                  rw [hW.2.1] at z0
                  rw [hW.2.2] at z1
                  go_wp2
                  refine ⟨hold_of (S0 := fun W => Blk W gd 26 [.int .i64 dp, .int .i64 nx, .slice (some ⟨g1, 0, none⟩) nB k1, .slice (some ⟨g3, 0, none⟩) nC k3, .slice a6 nQ' c6] ∧ W.cell? ⟨g3, i * 2, none⟩ = some (.int .i64 (f' : Int)) ∧ W.cell? ⟨g3, i * 2 + 1, none⟩ = some (.slice a9 m9 k9)) ⟨C3.d, z0, z1⟩, ?_⟩
                  dsimp only
                  show wpQuiet _ _ _ _ [_] _
                  repeat (go_big_quiet_step (fail))
                  refine wpQuiet_nil ?_
                  obtain ⟨g1', c1', cur, hV1, hB1, hl1, C4⟩ := C3.block hf' hv2
                  rw [HLB0.out] at hV1
                  cases hV1
                  obtain ⟨u0, hu0⟩ : ∃ u, cur[f']? = some u := ⟨cur[f']'hl1, List.getElem?_eq_getElem hl1⟩
                  have kc := hB1.cell f'
                  rw [hu0] at kc
                  have kf := hB1.frozen f'
                  have HLB := Lib.hid (show (bl'.set f' x).length = nB by rw [List.length_set]; exact HLB0.out)
                  clear C2 C3 hv2 b2 hu0 hB1 hsz hvW hbt hW
                  go_wp2
                  refine ⟨trivial, NoPanic.normal ?_⟩
                  go_wp2
                  go_roundg gg
                  case rel => exact ⟨i + 1, _, by have := HG.out; omega, by go_num, HFS.out, HLB.out, C4⟩
                  case measure => omega
        | succ gg =>
          have hin : i < nQ := by omega
          obtain ⟨⟨q1, q2, q3, s⟩, hs⟩ := get_some NQ.out hin
          by_cases hip : i = p
          · have t2 : ((i : Int) != (p : Int)) = false := by simp; omega
            have ht : (qu.take (i + 1)).eraseIdx p = (qu.take i).eraseIdx p := by rw [hip] at hs ⊢; exact erase_take_eq hs
            rw [← ht] at C1 hj
            have HJ := Lib.hid hj; have HG := Lib.hid hg
            clear ht hj hg hs hip
            go_wp2
            go_roundg gg
            case rel => exact ⟨i + 1, a6, nQ', c6, by have := HG.out; omega, by go_num, HJ.out, C1⟩
            case measure => omega
          · have t2 : ((i : Int) != (p : Int)) = true := by simp; omega
            have ht := erase_take_lt hs hip
            obtain ⟨m9, hm9⟩ : ∃ m9, s.length = m9 := ⟨_, rfl⟩
            have hjj : nQ' ≤ nQ := by rw [← hj, List.length_eraseIdx, List.length_take]; split <;> omega
            have HT := Lib.hid ht; have HJ := Lib.hid hj; have HG := Lib.hid hg; have HS9 := Lib.hid hs; have HM9 := Lib.hid hm9
            clear ht hj hg hs hip hm9
            go_wp2_with fail
            clear x4
            refine wp_region_in (fun W => Blk W w.heap.size 26 [.int .i64 dp, .int .i64 nx, .slice aB nB cB, .slice aC nC cC, .slice aQ nQ cQ] ∧ Blk W gd 26 [.int .i64 dp, .int .i64 nx, .slice a1 nB k1, .slice a3 nC k3, .slice a6 nQ' c6]) [(true, 4), (false, 1), (false, 1), (true, 1), (false, 1), (false, 1), (false, 1), (true, 1), (false, 1)] [0, 1, 2, 5, 3, 4, 6, 7, 8, 9, 10, 11] 11 (by kernel_rfl) (by kernel_rfl) ⟨C1.t.t.a.later (Below.refl _ _).drew, C1.d.later (Below.refl _ _).drew⟩ ?_
            intro W hW hWe
            have C2 : CS w [.int .i64 dp, .int .i64 nx, .slice aB nB cB, .slice aC nC cC, .slice aQ nQ cQ] w3.heap.size gd gq dp nx i0 k0 b0 (.slice a1 nB k1) (.slice a3 nC k3) (.slice a6 nQ' c6) (.slice a5 m n5) bl ca ((qu.take i).eraseIdx p) s0 W := by rw [hWe]; exact C1.below (Below.refl _ _).drew
            clear hWe C1
            simp only [wpSegsL, inOrder, List.filterMap_cons, List.filterMap_nil, List.getElem?_cons_zero, List.getElem?_cons_succ, List.take_succ_cons, List.take_zero, List.drop_succ_cons, List.drop_zero]
            have e0 := fun z => (hold_ok (S0 := fun W => Blk W w.heap.size 26 [.int .i64 dp, .int .i64 nx, .slice aB nB cB, .slice aC nC cC, .slice aQ nQ cQ] ∧ Blk W gd 26 [.int .i64 dp, .int .i64 nx, .slice a1 nB k1, .slice a3 nC k3, .slice a6 nQ' c6]) hW z).1.cell 0
            have e1 := fun z => (hold_ok (S0 := fun W => Blk W w.heap.size 26 [.int .i64 dp, .int .i64 nx, .slice aB nB cB, .slice aC nC cC, .slice aQ nQ cQ] ∧ Blk W gd 26 [.int .i64 dp, .int .i64 nx, .slice a1 nB k1, .slice a3 nC k3, .slice a6 nQ' c6]) hW z).1.cell 1
            have e2 := fun z => (hold_ok (S0 := fun W => Blk W w.heap.size 26 [.int .i64 dp, .int .i64 nx, .slice aB nB cB, .slice aC nC cC, .slice aQ nQ cQ] ∧ Blk W gd 26 [.int .i64 dp, .int .i64 nx, .slice a1 nB k1, .slice a3 nC k3, .slice a6 nQ' c6]) hW z).1.cell 2
            have e3 := fun z => (hold_ok (S0 := fun W => Blk W w.heap.size 26 [.int .i64 dp, .int .i64 nx, .slice aB nB cB, .slice aC nC cC, .slice aQ nQ cQ] ∧ Blk W gd 26 [.int .i64 dp, .int .i64 nx, .slice a1 nB k1, .slice a3 nC k3, .slice a6 nQ' c6]) hW z).1.cell 3
            have e4 := fun z => (hold_ok (S0 := fun W => Blk W w.heap.size 26 [.int .i64 dp, .int .i64 nx, .slice aB nB cB, .slice aC nC cC, .slice aQ nQ cQ] ∧ Blk W gd 26 [.int .i64 dp, .int .i64 nx, .slice a1 nB k1, .slice a3 nC k3, .slice a6 nQ' c6]) hW z).1.cell 4
            have e5 := fun z => (hold_ok (S0 := fun W => Blk W w.heap.size 26 [.int .i64 dp, .int .i64 nx, .slice aB nB cB, .slice aC nC cC, .slice aQ nQ cQ] ∧ Blk W gd 26 [.int .i64 dp, .int .i64 nx, .slice a1 nB k1, .slice a3 nC k3, .slice a6 nQ' c6]) hW z).2.cell 4
            simp only [List.getElem?_cons_zero, List.getElem?_cons_succ] at e0 e1 e2 e3 e4 e5
            repeat (go_big_quiet_step (fail))
            refine wpQuiet_nil ?_
            clear e0 e1 e2 e3 e4 e5 hW
            go_wp2_with fail
            refine (copy_46 dp nx aB aC aQ bl ca qu nB cB nC cC nQ cQ W (HB.below C2.t.t.b) (HC.below C2.t.t.b) (HQ.below C2.t.t.b) NB.out NC.out NQ.out (by omega) (by omega) (by omega) LL.out.1 LL.out.2.1 LL.out.2.2).mono ?_
            rintro e w8 ⟨v, rfl, hO, b8⟩
            obtain ⟨VB, VC, VQ, b1, l1, b3, l3, b4, l4, rfl, rfl, rfl, rfl, _, _, r3⟩ := hO.cells
            simp only [NB.out, NC.out, NQ.out] at r3 ⊢
            have C3 := C2.below b8
            obtain ⟨g9, c9, hV9, hg9, hg9b, hent⟩ := r3.get EQ (by rw [NQ.out]; omega)
            rw [NQ.out] at hV9
            cases hV9
            obtain ⟨x, ⟨sv, rfl, hv⟩, hx⟩ := hent i _ HS9.out
            obtain ⟨a9, n9, rfl, _, _, _, _⟩ := hv.form HM9.out
            have z0 := hx 0 (by decide)
            have z1 := hx 1 (by decide)
            have z2 := hx 2 (by decide)
            have z3 := hx 3 (by decide)
            simp only [List.getElem?_cons_zero, List.getElem?_cons_succ, Nat.add_zero] at z0 z1 z2 z3
            have hfld : ∀ W, (Instr.field 26 (.agg #[.int .i64 dp, .int .i64 nx, .slice b1 nB l1, .slice b3 nC l3, .slice (some ⟨g9, 0, none⟩) nQ l4]) 4).run Try.prog W = .ok (.slice (some ⟨g9, 0, none⟩) nQ l4) W := fun W => by simp [Instr.field, go_sem, asAgg]
            clear hO hent hx r3 C2
            go_wp2
            refine ⟨hold_of (S0 := fun W => Blk W w.heap.size 26 [.int .i64 dp, .int .i64 nx, .slice aB nB cB, .slice aC nC cC, .slice aQ nQ cQ] ∧ Blk W gd 26 [.int .i64 dp, .int .i64 nx, .slice a1 nB k1, .slice a3 nC k3, .slice a6 nQ' c6]) ⟨C3.t.t.a, C3.d⟩, ?_⟩
            go_wp2
            clear hfld
            refine ⟨hold_of (S0 := fun W => Blk W w.heap.size 26 [.int .i64 dp, .int .i64 nx, .slice aB nB cB, .slice aC nC cC, .slice aQ nQ cQ] ∧ Blk W gd 26 [.int .i64 dp, .int .i64 nx, .slice a1 nB k1, .slice a3 nC k3, .slice a6 nQ' c6]) ⟨C3.t.t.a, C3.d⟩, ?_⟩
            show wpQuiet _ _ _ _ [_] _
            repeat (go_big_quiet_step (fail))
            refine wpQuiet_nil ?_
            go_wp2
            refine ⟨hold_of (S0 := fun W => Blk W w.heap.size 26 [.int .i64 dp, .int .i64 nx, .slice aB nB cB, .slice aC nC cC, .slice aQ nQ cQ] ∧ Blk W gd 26 [.int .i64 dp, .int .i64 nx, .slice a1 nB k1, .slice a3 nC k3, .slice a6 nQ' c6]) ⟨C3.t.t.a, C3.d⟩, ?_⟩
            have hb9 := below_box w8 (.cells #[.int .i64 q1, .int .i64 q2, .int .i64 q3, .slice a9 m9 n9] 39)
            have C4 := C3.below hb9
            have hv4 := hv.k5 (K5.below hb9)
            clear z0 z1 z2 z3
            go_wp2
            refine ⟨hold_of (S0 := fun W => Blk W w.heap.size 26 [.int .i64 dp, .int .i64 nx, .slice aB nB cB, .slice aC nC cC, .slice aQ nQ cQ] ∧ Blk W gd 26 [.int .i64 dp, .int .i64 nx, .slice a1 nB k1, .slice a3 nC k3, .slice a6 nQ' c6]) ⟨C4.t.t.a, C4.d⟩, ?_⟩
            obtain ⟨xs, hown0, hall⟩ := C4.r.q
            have hl3 : w3.heap.size ≤ w8.heap.size := by have := C3.d.lt; have := C3.l2; omega
            rw [HJ.out] at hown0
            refine wpList_append_k K24 rfl (.tmp 51) (.tmp 58) rfl _ _ _ rfl hown0 _ 1 1 _ rfl (src_new w8 #[.int .i64 q1, .int .i64 q2, .int .i64 q3, .slice a9 m9 n9] 39 4 1 1 rfl (by simp [Value.oneCell'])) ?c1 ?c2 ?_
            case c1 => omega
            case c2 => exact Nat.le_trans hl3 hb9.size
            intro V9 w9 hown hgrow hnew
            have hk9 := K5.grown hgrow hown0 (by decide)
            have hR9 : Row 39 4 RQ w9 w3.heap.size V9 ((qu.take i).eraseIdx p ++ [(q1, q2, q3, s)]) := Row.push EQ hall hk9 hown (by rw [HJ.out]) ⟨_, rfl, hv4.k5 hk9⟩
            have hlen9 : ((qu.take i).eraseIdx p ++ [(q1, q2, q3, s)]).length = nQ' + 1 := by rw [List.length_append, HJ.out]; rfl
            obtain ⟨a8, c8, rfl, _, _, _⟩ := hR9.form hlen9
            have hne9 : (Value.slice a8 (nQ' + 1) c8).ownBlock ≠ some gq := fun he => by
              rcases hnew _ he with h | h
              · exact C4.ne h
              · have := C4.q.lt; omega
            obtain ⟨hd9, ha9, C5⟩ := C4.push hgrow hown0 hR9 hne9
            rw [← HT.out] at C5 hlen9
            have HJ2 := Lib.hid hlen9
            refine wpList_nil ⟨hold_of (S0 := fun W => Blk W w.heap.size 26 [.int .i64 dp, .int .i64 nx, .slice aB nB cB, .slice aC nC cC, .slice aQ nQ cQ] ∧ Blk W gd 26 [.int .i64 dp, .int .i64 nx, .slice a1 nB k1, .slice a3 nC k3, .slice a6 nQ' c6]) ⟨ha9, hd9⟩, ?_⟩
            simp only [Act.put, List.setIfInBounds_toArray, List.set_cons_succ, List.set_cons_zero]
            repeat (go_big_quiet_step (fail))
            refine wpQuiet_nil ?_
            have d4 := hd9.cell 4
            have df4 := hd9.frozen 4
            simp only [List.getElem?_cons_zero, List.getElem?_cons_succ] at d4
            clear hlen9 hne9 hR9 hk9 hown hgrow hown0 hall C4 C3 hv hv4 hnew hb9 b8
            go_wp2
            refine ⟨trivial, NoPanic.normal ?_⟩
            go_wp2
            go_roundg gg
            case rel => exact ⟨i + 1, a8, nQ' + 1, c8, by have := HG.out; omega, by go_num, HJ2.out, C5⟩
            case measure => omega
  · have t1 : (R != 0) = true := by simpa using h0
    obtain rfl := HP.out.symm.trans (cmpD_chk HR.out h0)
    have y0 := hT3.t.r.cell 0
    have y1 := hT3.t.r.cell 1
    have y2 := hT3.t.r.cell 2
    have y3 := hT3.t.r.cell 3
    have y4 := hT3.t.r.cell 4
    have f0 := hT3.t.r.frozen 0
    have f1 := hT3.t.r.frozen 1
    have f2 := hT3.t.r.frozen 2
    have f3 := hT3.t.r.frozen 3
    have f4 := hT3.t.r.frozen 4
    have p0 := hT3.q.cell 0
    have p1 := hT3.q.cell 1
    have p2 := hT3.q.cell 2
    have p3 := hT3.q.cell 3
    have pf0 := hT3.q.frozen 0
    have pf1 := hT3.q.frozen 1
    have pf2 := hT3.q.frozen 2
    have pf3 := hT3.q.frozen 3
    simp only [zD, zQ, List.getElem?_cons_zero, List.getElem?_cons_succ] at y0 y1 y2 y3 y4 p0 p1 p2 p3
    go_wp2
    obtain ⟨o1, o2, o3, o4, o5⟩ := compl_ans (d := Dev.zero) (q := zq) (B := w.heap.size + 1 + 1 + 1) hT3 ⟨Row.nil _ _, Row.nil _ _, Row.nil _ _⟩ (SlV.nil _) (by omega)
    refine bodyPost_ret (results_cell_cell rfl _ _ (w.heap.size + 1) (w.heap.size + 1 + 1) _ _ _ _ _ _ _ _ _ _ rfl o4 rfl o5 rfl) rfl ⟨_, _, rfl, o1, o2, o3⟩
end Go.Proofs.Ytlhbjmoncdljoaa
