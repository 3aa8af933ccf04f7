/- Walks: Complete, of the program. -/
import Derived.Test.YtlhbjmoncdljoaaD16
namespace Go.Proofs.Ytlhbjmoncdljoaa
open Go.RowKit Go.Over Go.Dev Go.Seg Go.Grow
theorem Rows3.all {W : World} {B : Nat} {a1 a2 a3 : Option Addr} {n1 n2 n3 k1 k2 k3 : Nat} {bl : List (List Int)} {ca : List Ca} {qu : List Rq} (h : Rows3 W B (.slice a1 n1 k1) (.slice a2 n2 k2) (.slice a3 n3 k3) bl ca qu) : Bls W a1 bl ∧ Cas W a2 ca ∧ Rqs W a3 qu := by
  obtain ⟨_, _, e1, _, _, _, h1⟩ := h.b.bls rfl
  obtain ⟨_, _, e2, _, _, _, h2⟩ := h.c.cas rfl
  obtain ⟨_, _, e3, _, _, _, h3⟩ := h.q.rqs rfl
  cases e1; cases e2; cases e3
  exact ⟨h1, h2, h3⟩
/-- A completion under way: the cells of the results, the device, the request. -/
structure CS (w : World) (A : List Value) (B gd gq : Nat) (dp nx i0 k0 b0 : Int) (VB VC VQ sv : Value) (bl : List (List Int)) (ca : List Ca) (qu : List Rq) (s : List Int) (W : World) : Prop where
  t : Three w A zD zQ W
  r : Rows3 W B VB VC VQ bl ca qu
  d : Blk W gd 26 [.int .i64 dp, .int .i64 nx, VB, VC, VQ]
  q : Blk W gq 39 [.int .i64 i0, .int .i64 k0, .int .i64 b0, sv]
  v : SlV W sv s
  ne : VQ.ownBlock ≠ some gq
  l1 : w.heap.size + 1 + 1 < B
  l2 : B ≤ gd
  l3 : gd < gq
section
variable {w : World} {A : List Value} {B gd gq : Nat} {dp nx i0 k0 b0 : Int} {VB VC VQ sv : Value} {bl : List (List Int)} {ca : List Ca} {qu : List Rq} {s : List Int} {W W' : World}
theorem CS.below (h : CS w A B gd gq dp nx i0 k0 b0 VB VC VQ sv bl ca qu s W) (hb : Below W.heap.size W W') : CS w A B gd gq dp nx i0 k0 b0 VB VC VQ sv bl ca qu s W' :=
  ⟨h.t.below hb, h.r.below hb, h.d.later hb, h.q.later hb, h.v.k5 (K5.below hb), h.ne, h.l1, h.l2, h.l3⟩
/-- The request's data are stored. -/
theorem CS.data (h : CS w A B gd gq dp nx i0 k0 b0 VB VC VQ sv bl ca qu s W) {sv' : Value} {s' : List Int} (hv : SlV W sv' s') : CS w A B gd gq dp nx i0 k0 b0 VB VC VQ sv' bl ca qu s' (W.setCell ⟨gq, 3, none⟩ sv') :=
  ⟨h.t.far (by have := h.l1; have := h.l2; have := h.l3; omega) _ _, ⟨h.r.b.far EB h.q (by decide) (by decide) _ _, h.r.c.far EC h.q (by decide) (by decide) _ _, h.r.q.farX EQ h.q (by decide) h.ne _ _⟩,
   h.d.far (by show gd ≠ gq; have := h.l3; omega) _, h.q.set 3 sv', hv.k5 (K5.set h.q (by decide) _ _), h.ne, h.l1, h.l2, h.l3⟩
/-- A cell of another block is changed. -/
theorem CS.box (h : CS w A B gd gq dp nx i0 k0 b0 VB VC VQ sv bl ca qu s W) {t N : Nat} {cs : List Value} (hN : gq < N) (hg : Blk W N t cs) (h1 : t ≠ 31) (h2 : t ≠ 39) (h3 : t ≠ 5) (h4 : VC.ownBlock ≠ some N) (i : Nat) (u : Value) : CS w A B gd gq dp nx i0 k0 b0 VB VC VQ sv bl ca qu s (W.setCell ⟨N, i, none⟩ u) :=
  ⟨h.t.far (by have := h.l1; have := h.l2; have := h.l3; omega) _ _, ⟨h.r.b.far EB hg h1 h3 _ _, h.r.c.farX EC hg h3 h4 _ _, h.r.q.far EQ hg h2 h3 _ _⟩,
   h.d.far (by show gd ≠ N; have := h.l3; omega) _, h.q.far (by show gq ≠ N; omega) _, h.v.k5 (K5.set hg h3 _ _), h.ne, h.l1, h.l2, h.l3⟩
/-- The cache is stored. -/
theorem CS.cache (h : CS w A B gd gq dp nx i0 k0 b0 VB VC VQ sv bl ca qu s W) {VC' : Value} {ca' : List Ca} (hr : Row 64 2 RC W B VC' ca') : CS w A B gd gq dp nx i0 k0 b0 VB VC' VQ sv bl ca' qu s (W.setCell ⟨gd, 3, none⟩ VC') :=
  ⟨h.t.far (by have := h.l1; have := h.l2; omega) _ _, ⟨h.r.b.far EB h.d (by decide) (by decide) _ _, hr.far EC h.d (by decide) (by decide) _ _, h.r.q.far EQ h.d (by decide) (by decide) _ _⟩,
   h.d.set 3 VC', h.q.far (by show gq ≠ gd; have := h.l3; omega) _, h.v.k5 (K5.set h.d (by decide) _ _), h.ne, h.l1, h.l2, h.l3⟩
/-- A cached block is stored in its place. -/
theorem CS.entry (h : CS w A B gd gq dp nx i0 k0 b0 VB VC VQ sv bl ca qu s W) {i : Nat} (hi : i < ca.length) {f : Int} {v : Value} {x : List Int} (hv : SlV W v x) :
    ∃ g c cur, VC = .slice (some ⟨g, 0, none⟩) ca.length c ∧ Blk W g 64 cur ∧ i * 2 + 1 < cur.length ∧ CS w A B gd gq dp nx i0 k0 b0 VB VC VQ sv bl (ca.set i (f, x)) qu s ((W.setCell ⟨g, i * 2, none⟩ (.int .i64 f)).setCell ⟨g, i * 2 + 1, none⟩ v) := by
  obtain ⟨g, c, cur, hV, hg, hB, hl, hr⟩ := h.r.c.store2 EC (by decide) hi (u := .int .i64 f) (v := v) (s := (f, x)) ⟨v, rfl, hv⟩
  have hB2 := hB.set (i * 2) (.int .i64 f)
  have l1 := h.l1
  have hgd : gd ≠ g := h.d.ne_type hB (by decide)
  have hgq : gq ≠ g := h.q.ne_type hB (by decide)
  refine ⟨g, c, cur, hV, hB, hl, (h.t.far (by omega) _ _).far (by omega) _ _, ⟨(h.r.b.far EB hB (by decide) (by decide) _ _).far EB hB2 (by decide) (by decide) _ _, hr, (h.r.q.far EQ hB (by decide) (by decide) _ _).far EQ hB2 (by decide) (by decide) _ _⟩,
    (h.d.far hgd _).far hgd _, (h.q.far hgq _).far hgq _, (h.v.k5 (K5.set hB (by decide) _ _)).k5 (K5.set hB2 (by decide) _ _), h.ne, h.l1, h.l2, h.l3⟩
/-- A block's content is stored in its place. -/
theorem CS.block (h : CS w A B gd gq dp nx i0 k0 b0 VB VC VQ sv bl ca qu s W) {i : Nat} (hi : i < bl.length) {v : Value} {x : List Int} (hv : SlV W v x) :
    ∃ g c cur, VB = .slice (some ⟨g, 0, none⟩) bl.length c ∧ Blk W g 31 cur ∧ i < cur.length ∧ CS w A B gd gq dp nx i0 k0 b0 VB VC VQ sv (bl.set i x) ca qu s (W.setCell ⟨g, i, none⟩ v) := by
  obtain ⟨g, c, cur, hV, hg, hB, hl, hr⟩ := h.r.b.store1 EB (by decide) hi (u := v) (s := x) ⟨v, rfl, hv⟩
  have l1 := h.l1
  have hgd : gd ≠ g := h.d.ne_type hB (by decide)
  have hgq : gq ≠ g := h.q.ne_type hB (by decide)
  exact ⟨g, c, cur, hV, hB, hl, h.t.far (by omega) _ _, ⟨hr, h.r.c.far EC hB (by decide) (by decide) _ _, h.r.q.far EQ hB (by decide) (by decide) _ _⟩, h.d.far hgd _, h.q.far hgq _, h.v.k5 (K5.set hB (by decide) _ _), h.ne, h.l1, h.l2, h.l3⟩
/-- A cached block has been put in, and the cache is stored. -/
theorem CS.put (h : CS w A B gd gq dp nx i0 k0 b0 VB VC VQ sv bl ca qu s W) (hg : W.grownBy W' VC.ownBlock) {n : Nat} {xs : List Value} (ho : W.ownsRow B 64 2 VC n xs) {VC' : Value} {ca' : List Ca} (hr : Row 64 2 RC W' B VC' ca') :
    Blk W' gd 26 [.int .i64 dp, .int .i64 nx, VB, VC, VQ] ∧ CS w A B gd gq dp nx i0 k0 b0 VB VC' VQ sv bl ca' qu s (W'.setCell ⟨gd, 3, none⟩ VC') := by
  have hd := h.d.grown hg (h.d.not_own ho (by decide))
  refine ⟨hd, (h.t.grown hg ho h.l1).far (by have := h.l1; have := h.l2; omega) _ _, ⟨(h.r.b.other EB hg ho (by decide) (by decide)).far EB hd (by decide) (by decide) _ _, hr.far EC hd (by decide) (by decide) _ _, (h.r.q.other EQ hg ho (by decide) (by decide)).far EQ hd (by decide) (by decide) _ _⟩,
    hd.set 3 VC', (h.q.grown hg (h.q.not_own ho (by decide))).far (by show gq ≠ gd; have := h.l3; omega) _, (h.v.k5 (K5.grown hg ho (by decide))).k5 (K5.set hd (by decide) _ _), h.ne, h.l1, h.l2, h.l3⟩
end
set_option maxRecDepth 100000 in set_option maxHeartbeats 3200000 in
theorem complete_27 (dp nx : Int) (aB aC aQ : Option Addr) (bl : List (List Int)) (ca : List Ca) (qu : List Rq) (nB cB nC cC nQ cQ : Nat) (pos : Int) (ok : Bool) (w : World) (HB : Bls w aB bl) (HC : Cas w aC ca) (HQ : Rqs w aQ qu) (hB : bl.length = nB) (hC : ca.length = nC) (hQ : qu.length = nQ)
    (mB : nB ≤ 1000000) (mC : nC ≤ 1000000) (mQ : nQ ≤ 1000000) :
    Calls Try.prog 27 #[.agg #[.int .i64 dp, .int .i64 nx, .slice aB nB cB, .slice aC nC cC, .slice aQ nQ cQ], .int .i64 pos, .bool ok] w (DevAns3 (cmpD ⟨dp, nx, bl, ca, qu⟩ pos ok) w) := by
  have NB := Lib.hid hB; have NC := Lib.hid hC; have NQ := Lib.hid hQ
  have hT0 := three_start w [.int .i64 dp, .int .i64 nx, .slice aB nB cB, .slice aC nC cC, .slice aQ nQ cQ] #[.int .i64 dp, .int .i64 nx, .slice aB nB cB, .slice aC nC cC, .slice aQ nQ cQ] rfl
  obtain ⟨P, hP⟩ : ∃ P, cmpD ⟨dp, nx, bl, ca, qu⟩ pos ok = P := ⟨_, rfl⟩
  rw [hP]
  have HP := Lib.hid hP
  obtain ⟨w1, hw1⟩ : ∃ W, W = ((w.alloc (.cells #[.int .i64 dp, .int .i64 nx, .slice aB nB cB, .slice aC nC cC, .slice aQ nQ cQ] 26)).alloc (.cells #[.int .i64 0, .int .i64 0, .slice none 0 0, .slice none 0 0, .slice none 0 0] 26)).alloc (.cells #[.int .i64 0, .int .i64 0, .int .i64 0, .slice none 0 0] 39) := ⟨_, rfl⟩
  have HW := Lib.hid hw1
  rw [← hw1] at hT0
  clear hB hC hQ hP hw1
  obtain ⟨R, hR⟩ : ∃ R, chk ⟨dp, nx, bl, ca, qu⟩ = R := ⟨_, rfl⟩
  have HR := Lib.hid hR
  clear hR
  go_enter Try.func27, Try.ntmps27
  go_wp2_with fail
  rw [← HW.out]
  clear HW
  refine (check_13 dp nx aB aC aQ bl ca qu nB cB nC cC nQ cQ w1 (HB.below hT0.t.b) (HC.below hT0.t.b) (HQ.below hT0.t.b) NB.out NC.out NQ.out mB mC mQ).mono ?_
  rintro e w3 ⟨rfl, b3⟩
  rw [HR.out]
  have hT3 := hT0.below b3
  clear hT0 b3
  by_cases h0 : R = 0
  · subst h0
    have x0 := hT3.t.a.cell 0
    have x1 := hT3.t.a.cell 1
    have x2 := hT3.t.a.cell 2
    have x3 := hT3.t.a.cell 3
    have x4 := hT3.t.a.cell 4
    simp only [List.getElem?_cons_zero, List.getElem?_cons_succ] at x0 x1 x2 x3 x4
    by_cases h1 : pos < 0 ∨ (nQ : Int) ≤ pos
    · obtain rfl := HP.out.symm.trans (cmpD_range HR.out (by simp only [NQ.out]; exact h1))
      have hcase : pos < 0 ∨ (¬ pos < 0 ∧ (nQ : Int) ≤ pos) := by omega
      clear h1
      have y0 := hT3.t.r.cell 0
      have y1 := hT3.t.r.cell 1
      have y2 := hT3.t.r.cell 2
      have y3 := hT3.t.r.cell 3
      have y4 := hT3.t.r.cell 4
      have f0 := hT3.t.r.frozen 0
      have f1 := hT3.t.r.frozen 1
      have f2 := hT3.t.r.frozen 2
      have f3 := hT3.t.r.frozen 3
      have f4 := hT3.t.r.frozen 4
      have p0 := hT3.q.cell 0
      have p1 := hT3.q.cell 1
      have p2 := hT3.q.cell 2
      have p3 := hT3.q.cell 3
      have pf0 := hT3.q.frozen 0
      have pf1 := hT3.q.frozen 1
      have pf2 := hT3.q.frozen 2
      have pf3 := hT3.q.frozen 3
      simp only [zD, zQ, List.getElem?_cons_zero, List.getElem?_cons_succ] at y0 y1 y2 y3 y4 p0 p1 p2 p3
      rcases hcase with h1 | ⟨h1, h2⟩
      · have t1 : decide (pos < 0) = true := by simpa using h1
        go_wp2
        obtain ⟨o1, o2, o3, o4, o5⟩ := compl_ans (d := Dev.zero) (q := zq) (B := w.heap.size + 1 + 1 + 1) hT3 ⟨Row.nil _ _, Row.nil _ _, Row.nil _ _⟩ (SlV.nil _) (by omega)
        refine bodyPost_ret (results_cell_cell rfl _ _ (w.heap.size + 1) (w.heap.size + 1 + 1) _ _ _ _ _ _ _ _ _ _ rfl o4 rfl o5 rfl) rfl ⟨_, _, rfl, o1, o2, o3⟩
      · have t1 : decide (pos < 0) = false := by simpa using h1
        have t2 : decide ((nQ : Int) ≤ pos) = true := by simpa using h2
        go_wp2
        obtain ⟨o1, o2, o3, o4, o5⟩ := compl_ans (d := Dev.zero) (q := zq) (B := w.heap.size + 1 + 1 + 1) hT3 ⟨Row.nil _ _, Row.nil _ _, Row.nil _ _⟩ (SlV.nil _) (by omega)
        refine bodyPost_ret (results_cell_cell rfl _ _ (w.heap.size + 1) (w.heap.size + 1 + 1) _ _ _ _ _ _ _ _ _ _ rfl o4 rfl o5 rfl) rfl ⟨_, _, rfl, o1, o2, o3⟩
    · obtain ⟨p, rfl⟩ : ∃ p : Nat, pos = p := ⟨pos.toNat, by omega⟩
      have hp : p < nQ := by omega
      have t1 : decide ((p : Int) < 0) = false := by simp
      have t2 : decide ((nQ : Int) ≤ (p : Int)) = false := by simp; omega
      have OK := chk_ok.1 HR.out
      obtain ⟨⟨i0, k0, b0, s0⟩, hs⟩ := get_some NQ.out hp
      have hn16 : nQ ≤ 16 := by have := ok_qu OK; simp only [NQ.out] at this; exact this
      have hnB : nB ≤ 256 := by have := OK.b2; simp only [NB.out] at this; exact this
      have hnC : nC ≤ 256 := by have := ok_ca OK; simp only [NC.out] at this; exact this
      have LL := Lib.hid (And.intro (ok_bl OK) (And.intro (ok_cl OK) (ok_ql OK)))
      have HOK := Lib.hid OK; have HS := Lib.hid hs
      clear OK hs h1
      go_wp2_with fail
      refine (clone_45 dp nx aB aC aQ bl ca qu nB cB nC cC nQ cQ w3 (HB.below hT3.t.b) (HC.below hT3.t.b) (HQ.below hT3.t.b) NB.out NC.out NQ.out (by omega) (by omega) (by omega) LL.out.1 LL.out.2.1 LL.out.2.2).mono ?_
      rintro e w5 ⟨v, rfl, hO, b5⟩
      obtain ⟨VB, VC, VQ, a1, k1, a3, k3, a4, k4, rfl, rfl, rfl, rfl, r1, r2, r3⟩ := hO.cells
      simp only [NB.out, NC.out, NQ.out]
      have hTR : Rows3 w5 w3.heap.size (.slice a1 bl.length k1) (.slice a3 ca.length k3) (.slice a4 qu.length k4) bl ca qu := ⟨r1, r2, r3⟩
      rw [NB.out, NC.out, NQ.out] at hTR
      have hb6 := below_box w5 (.cells #[.int .i64 dp, .int .i64 nx, .slice a1 nB k1, .slice a3 nC k3, .slice a4 nQ k4] 26)
      have hT6 := (hT3.below b5).below hb6
      have hR6 := hTR.below hb6
      have hD6 := Blk.new w5 26 #[.int .i64 dp, .int .i64 nx, .slice a1 nB k1, .slice a3 nC k3, .slice a4 nQ k4] [.int .i64 dp, .int .i64 nx, .slice a1 nB k1, .slice a3 nC k3, .slice a4 nQ k4] rfl
      have hgt3 : w.heap.size + 1 + 1 < w3.heap.size := hT3.q.lt
      have hw35 := b5.size
      clear r1 r2 r3 hO hTR hT3 b5 x0 x1 x2 x3 x4 hb6 t1 t2 LL
      go_upto_region 7 with fail
      obtain ⟨w6, hw6⟩ : ∃ W, W = w5.alloc (.cells #[.int .i64 dp, .int .i64 nx, .slice a1 nB k1, .slice a3 nC k3, .slice a4 nQ k4] 26) := ⟨_, rfl⟩
      rw [← hw6] at hT6 hR6 hD6 ⊢
      clear hw6
      obtain ⟨gd, hgd⟩ : ∃ gd, w5.heap.size = gd := ⟨_, rfl⟩
      rw [hgd] at hD6 hw35 ⊢
      clear hgd
      obtain ⟨g4, c4, hV4, hg4, hg4b, hent⟩ := hR6.q.get EQ (by rw [NQ.out]; omega)
      rw [NQ.out] at hV4
      cases hV4
      obtain ⟨x, ⟨sv, rfl, hv⟩, hx⟩ := hent p _ HS.out
      obtain ⟨a5, n5, rfl, _, _, _, _⟩ := hv.form rfl
      have z0 := hx 0 (by decide)
      have z1 := hx 1 (by decide)
      have z2 := hx 2 (by decide)
      have z3 := hx 3 (by decide)
      simp only [List.getElem?_cons_zero, List.getElem?_cons_succ, Nat.add_zero] at z0 z1 z2 z3
      have d4 := hD6.cell 4
      simp only [List.getElem?_cons_zero, List.getElem?_cons_succ] at d4
      obtain ⟨m, hm⟩ : ∃ m, s0.length = m := ⟨_, rfl⟩
      simp only [hm] at z3
      have HM := Lib.hid hm
      clear hx hent hm
      go_upto_region 8 with fail
      have hb7 := below_box w6 (.cells #[.int .i64 i0, .int .i64 k0, .int .i64 b0, .slice a5 m n5] 39)
      have hT7 := hT6.below hb7
      have hR7 := hR6.below hb7
      have hD7 := hD6.later hb7
      have hX7 := Blk.new w6 39 #[.int .i64 i0, .int .i64 k0, .int .i64 b0, .slice a5 m n5] [.int .i64 i0, .int .i64 k0, .int .i64 b0, .slice a5 m n5] rfl
      have hv7 := hv.k5 (K5.below hb7)
      simp only [HM.out] at hv7
      obtain ⟨w7, hw7⟩ : ∃ W, W = w6.alloc (.cells #[.int .i64 i0, .int .i64 k0, .int .i64 b0, .slice a5 m n5] 39) := ⟨_, rfl⟩
      rw [← hw7] at hT7 hR7 hD7 hX7 hv7 ⊢
      clear hw7 hb7
      obtain ⟨gq, hgq⟩ : ∃ gq, w6.heap.size = gq := ⟨_, rfl⟩
      have hdq : gd < gq := by rw [← hgq]; exact hD6.lt
      have h4q : g4 < gq := by rw [← hgq]; exact hg4b
      rw [hgq] at hX7 ⊢
      clear hgq hT6 hR6 hD6 hv z0 z1 z2 z3 d4 hg4b
      obtain ⟨xs, hown0, hall⟩ := hR7.q
      rw [NQ.out] at hown0
      have d4 := hD7.cell 4
      have df4 := hD7.frozen 4
      simp only [List.getElem?_cons_zero, List.getElem?_cons_succ] at d4
      have e1 : IntKind.i64.wrap ((p : Int) + 1) = ((p + 1 : Nat) : Int) := by rw [IntWalk.i64_in _ (by omega)]; omega
      have hdel := delete_47 w3.heap.size (.slice (some ⟨g4, 0, none⟩) nQ k4) nQ p xs.flatten w7 hown0 (Row.ones EQ hall) hp (by omega)
      have HDEL := Lib.hid hdel
      clear hdel
      go_wp2_with fail
      refine (HDEL.out).mono ?_
      rintro e w8 hdelA
      obtain ⟨V8, rfl, hRq, hgrow, hown8⟩ := Row.del (by rw [NQ.out]; exact hown0) hall (by rw [NQ.out]; exact hp) (by rw [NQ.out]; exact hdelA)
      have hlq : (qu.eraseIdx p).length = nQ - 1 := by rw [List.length_eraseIdx, if_pos (by rw [NQ.out]; exact hp), NQ.out]
      obtain ⟨a6, c6, rfl, _, _, _⟩ := hRq.form hlq
      have hT8 := hT7.grown hgrow hown0 hgt3
      have hD8 := hD7.grown hgrow (hD7.not_own hown0 (by decide))
      have hX8 := hX7.grown hgrow (by simp [Value.ownBlock]; omega)
      have hneQ : (Value.slice a6 (nQ - 1) c6).ownBlock ≠ some gq := by rw [hown8]; simp [Value.ownBlock]; omega
      have hk8 := K5.grown hgrow hown0 (by decide)
      have hv8 := hv7.k5 hk8
      have hR8 : Rows3 w8 w3.heap.size (.slice a1 nB k1) (.slice a3 nC k3) (.slice a6 (nQ - 1) c6) bl ca (qu.eraseIdx p) :=
        ⟨hR7.b.other EB hgrow hown0 (by decide) (by decide), hR7.c.other EC hgrow hown0 (by decide) (by decide), hRq⟩
      have hT9 := hT8.far (g := gd) (by omega) 4 (.slice a6 (nQ - 1) c6)
      have hR9 := hR8.dev hD8 4 (.slice a6 (nQ - 1) c6)
      have hD9 := hD8.set 4 (.slice a6 (nQ - 1) c6)
      have hX9 := hX8.far (p := ⟨gd, 4, none⟩) (by show gq ≠ gd; omega) (.slice a6 (nQ - 1) c6)
      have hv9 := hv8.k5 (K5.set hD8 (by decide) 4 (.slice a6 (nQ - 1) c6))
      have d4 := hD8.cell 4
      have df4 := hD8.frozen 4
      simp only [List.getElem?_cons_zero, List.getElem?_cons_succ] at d4
      simp only [List.set_cons_zero, List.set_cons_succ] at hD9
      clear HDEL hdelA hRq hT8 hD8 hX8 hk8 hv8 hR8 hgrow hT7 hR7 hD7 hX7 hv7 hown0 hall e1
      go_upto_region 9 with fail
      obtain ⟨w9, hw9⟩ : ∃ W, W = w8.setCell ⟨gd, 4, none⟩ (.slice a6 (nQ - 1) c6) := ⟨_, rfl⟩
      rw [← hw9] at hT9 hR9 hD9 hX9 hv9 ⊢
      clear hw9 d4 df4
      obtain ⟨nQ', hnQ'⟩ : ∃ k, nQ - 1 = k := ⟨_, rfl⟩
      rw [hnQ'] at hR9 hD9 hneQ ⊢
      rw [hnQ'] at hlq
      have NQ' := Lib.hid hlq
      clear hlq hnQ'
      cases ok with
      | false =>
        obtain rfl := HP.out.symm.trans (cmpD_fail HR.out HS.out)
        go_wp2_with fail
        refine wp_region_in (fun W => Blk W gd 26 [.int .i64 dp, .int .i64 nx, (.slice a1 nB k1), (.slice a3 nC k3), .slice a6 nQ' c6] ∧ Blk W gq 39 [.int .i64 i0, .int .i64 k0, .int .i64 b0, (.slice a5 m n5)]) [(true, 2), (false, 1), (false, 1), (true, 1)] [0, 1, 2, 3, 4] 99 (by kernel_rfl) (by kernel_rfl) ⟨hD9.later (Below.refl _ _).drew, hX9.later (Below.refl _ _).drew⟩ ?_
        intro W hW hWe
        have hTW : Three w [.int .i64 dp, .int .i64 nx, .slice aB nB cB, .slice aC nC cC, .slice aQ nQ cQ] zD zQ W := by rw [hWe]; exact hT9.below (Below.refl _ _).drew
        have hRW : Rows3 W w3.heap.size (.slice a1 nB k1) (.slice a3 nC k3) (.slice a6 nQ' c6) bl ca (qu.eraseIdx p) := by rw [hWe]; exact hR9.below (Below.refl _ _).drew
        have hvW : SlV W (.slice a5 m n5) s0 := by rw [hWe]; exact hv9.k5 (K5.below (Below.refl _ _).drew)
        clear hWe hT9 hR9 hD9 hX9 hv9
        simp only [wpSegsL, inOrder, List.filterMap_cons, List.filterMap_nil, List.getElem?_cons_zero, List.getElem?_cons_succ, List.take_succ_cons, List.take_zero, List.drop_succ_cons, List.drop_zero]
        have q0 := fun z => (hold_ok (S0 := fun W => Blk W gd 26 [.int .i64 dp, .int .i64 nx, (.slice a1 nB k1), (.slice a3 nC k3), .slice a6 nQ' c6] ∧ Blk W gq 39 [.int .i64 i0, .int .i64 k0, .int .i64 b0, (.slice a5 m n5)]) hW z).1.cell 0
        have q1 := fun z => (hold_ok (S0 := fun W => Blk W gd 26 [.int .i64 dp, .int .i64 nx, (.slice a1 nB k1), (.slice a3 nC k3), .slice a6 nQ' c6] ∧ Blk W gq 39 [.int .i64 i0, .int .i64 k0, .int .i64 b0, (.slice a5 m n5)]) hW z).1.cell 1
        have q2 := fun z => (hold_ok (S0 := fun W => Blk W gd 26 [.int .i64 dp, .int .i64 nx, (.slice a1 nB k1), (.slice a3 nC k3), .slice a6 nQ' c6] ∧ Blk W gq 39 [.int .i64 i0, .int .i64 k0, .int .i64 b0, (.slice a5 m n5)]) hW z).1.cell 2
        have q3 := fun z => (hold_ok (S0 := fun W => Blk W gd 26 [.int .i64 dp, .int .i64 nx, (.slice a1 nB k1), (.slice a3 nC k3), .slice a6 nQ' c6] ∧ Blk W gq 39 [.int .i64 i0, .int .i64 k0, .int .i64 b0, (.slice a5 m n5)]) hW z).1.cell 3
        have q4 := fun z => (hold_ok (S0 := fun W => Blk W gd 26 [.int .i64 dp, .int .i64 nx, (.slice a1 nB k1), (.slice a3 nC k3), .slice a6 nQ' c6] ∧ Blk W gq 39 [.int .i64 i0, .int .i64 k0, .int .i64 b0, (.slice a5 m n5)]) hW z).1.cell 4
        have q5 := fun z => (hold_ok (S0 := fun W => Blk W gd 26 [.int .i64 dp, .int .i64 nx, (.slice a1 nB k1), (.slice a3 nC k3), .slice a6 nQ' c6] ∧ Blk W gq 39 [.int .i64 i0, .int .i64 k0, .int .i64 b0, (.slice a5 m n5)]) hW z).2.cell 0
        have q6 := fun z => (hold_ok (S0 := fun W => Blk W gd 26 [.int .i64 dp, .int .i64 nx, (.slice a1 nB k1), (.slice a3 nC k3), .slice a6 nQ' c6] ∧ Blk W gq 39 [.int .i64 i0, .int .i64 k0, .int .i64 b0, (.slice a5 m n5)]) hW z).2.cell 1
        have q7 := fun z => (hold_ok (S0 := fun W => Blk W gd 26 [.int .i64 dp, .int .i64 nx, (.slice a1 nB k1), (.slice a3 nC k3), .slice a6 nQ' c6] ∧ Blk W gq 39 [.int .i64 i0, .int .i64 k0, .int .i64 b0, (.slice a5 m n5)]) hW z).2.cell 2
        have q8 := fun z => (hold_ok (S0 := fun W => Blk W gd 26 [.int .i64 dp, .int .i64 nx, (.slice a1 nB k1), (.slice a3 nC k3), .slice a6 nQ' c6] ∧ Blk W gq 39 [.int .i64 i0, .int .i64 k0, .int .i64 b0, (.slice a5 m n5)]) hW z).2.cell 3
        simp only [List.getElem?_cons_zero, List.getElem?_cons_succ] at q0 q1 q2 q3 q4 q5 q6 q7 q8
        show wpQuiet _ _ _ _ (_ :: [_]) _
        repeat (go_big_quiet_step (fail))
        refine wpQuiet_nil ?_
        clear q0 q1 q2 q3 q4 q5 q6 q7 q8
        have y0 := hTW.t.r.cell 0
        have y1 := hTW.t.r.cell 1
        have y2 := hTW.t.r.cell 2
        have y3 := hTW.t.r.cell 3
        have y4 := hTW.t.r.cell 4
        have f0 := hTW.t.r.frozen 0
        have f1 := hTW.t.r.frozen 1
        have f2 := hTW.t.r.frozen 2
        have f3 := hTW.t.r.frozen 3
        have f4 := hTW.t.r.frozen 4
        have p0 := hTW.q.cell 0
        have p1 := hTW.q.cell 1
        have p2 := hTW.q.cell 2
        have p3 := hTW.q.cell 3
        have pf0 := hTW.q.frozen 0
        have pf1 := hTW.q.frozen 1
        have pf2 := hTW.q.frozen 2
        have pf3 := hTW.q.frozen 3
        simp only [zD, zQ, List.getElem?_cons_zero, List.getElem?_cons_succ] at y0 y1 y2 y3 y4 p0 p1 p2 p3
        go_wp2
        have hq5 := far5B hTW.q (show w.heap.size + 1 + 1 ≠ w.heap.size + 1 by omega) (.int .i64 dp) (.int .i64 nx) (.slice a1 nB k1) (.slice a3 nC k3) (.slice a6 nQ' c6)
        refine ⟨hold_of (S0 := fun W => Blk W gd 26 [.int .i64 dp, .int .i64 nx, (.slice a1 nB k1), (.slice a3 nC k3), .slice a6 nQ' c6] ∧ Blk W gq 39 [.int .i64 i0, .int .i64 k0, .int .i64 b0, (.slice a5 m n5)]) ⟨far5B hW.1 (by omega) _ _ _ _ _, far5B hW.2 (by omega) _ _ _ _ _⟩, ?_⟩
        dsimp only
        have p0 := hq5.cell 0
        have p1 := hq5.cell 1
        have p2 := hq5.cell 2
        have p3 := hq5.cell 3
        have pf0 := hq5.frozen 0
        have pf1 := hq5.frozen 1
        have pf2 := hq5.frozen 2
        have pf3 := hq5.frozen 3
        simp only [zQ, List.getElem?_cons_zero, List.getElem?_cons_succ] at p0 p1 p2 p3
        clear y0 y1 y2 y3 y4 f0 f1 f2 f3 f4
        obtain ⟨o1, o2, o3, o4, o5⟩ := compl_ans (d := ⟨dp, nx, bl, ca, qu.eraseIdx p⟩) (q := (i0, k0, b0, s0)) hTW hRW hvW hgt3
        go_wp2
        refine ⟨hold_of (S0 := fun W => Blk W gd 26 [.int .i64 dp, .int .i64 nx, (.slice a1 nB k1), (.slice a3 nC k3), .slice a6 nQ' c6] ∧ Blk W gq 39 [.int .i64 i0, .int .i64 k0, .int .i64 b0, (.slice a5 m n5)]) ⟨far4 (far5B hW.1 (by omega) _ _ _ _ _) (by omega) _ _ _ _, far4 (far5B hW.2 (by omega) _ _ _ _ _) (by omega) _ _ _ _⟩, ?_⟩
        dsimp only
        show wpQuiet _ _ _ _ [_] _
        repeat (go_big_quiet_step (fail))
        refine wpQuiet_nil ?_
        refine NoPanic.normal ?_
        go_wp2
        refine bodyPost_ret (results_cell_cell rfl _ _ (w.heap.size + 1) (w.heap.size + 1 + 1) _ _ _ _ _ _ _ _ _ _ rfl o4 rfl o5 rfl) rfl ⟨_, _, ?_, o1, o2, o3⟩
        rfl
      | true =>
        have HPQ := Lib.hid (HP.out.symm.trans (cmpD_ok HR.out HS.out))
        have hrq := (HOK.out.qu _ (List.mem_of_getElem? HS.out)).2
        simp only [NB.out] at hrq
        have hkind : k0 = 1 ∨ k0 = 2 ∨ k0 = 3 := by
          unfold rqE at hrq
          repeat' split at hrq
          all_goals omega
        have hblk : k0 ≠ 3 → 0 ≤ b0 ∧ b0 < nB := by
          unfold rqE at hrq
          repeat' split at hrq
          all_goals omega
        have HBLK := Lib.hid hblk
        have CS9 : CS w [.int .i64 dp, .int .i64 nx, .slice aB nB cB, .slice aC nC cC, .slice aQ nQ cQ] w3.heap.size gd gq dp nx i0 k0 b0 (.slice a1 nB k1) (.slice a3 nC k3) (.slice a6 nQ' c6) (.slice a5 m n5) bl ca (qu.eraseIdx p) s0 w9 := ⟨hT9, hR9, hD9, hX9, hv9, hneQ, hgt3, hw35, hdq⟩
        clear HP hrq hblk hT9 hR9 hD9 hX9 hv9
        have x1 := CS9.q.cell 1
        simp only [List.getElem?_cons_zero, List.getElem?_cons_succ] at x1
        go_upto_region 11 with fail
        rename_i K1 hK1 K2 hK2
        have HK2 := Lib.hid hK2
        clear hK2
        go_wp2
        refine HK2.out _ _ ?_
        clear HK2 K2 x1
        go_cut [] from 55 (fun wr => ∃ (a7 : Option Addr) (k7 : Nat) (a8 : Option Addr) (n8 k8 : Nat) (bl' : List (List Int)) (ca' : List Ca) (a9 : Option Addr) (m9 k9 : Nat) (s' : List Int), P = (⟨dp, nx, bl', ca', qu.eraseIdx p⟩, (i0, k0, b0, s'), 0) ∧ CS w [.int .i64 dp, .int .i64 nx, .slice aB nB cB, .slice aC nC cC, .slice aQ nQ cQ] w3.heap.size gd gq dp nx i0 k0 b0 (.slice a7 nB k7) (.slice a8 n8 k8) (.slice a6 nQ' c6) (.slice a9 m9 k9) bl' ca' (qu.eraseIdx p) s' wr)
        case rest =>
          clear CS9
          obtain ⟨a7, k7, a8, n8, k8, bl', ca', a9, m9, k9, s', rfl, hT9, hR9, hD9, hX9, hv9, _, _, _, _⟩ := hcut
          go_wp2_with fail
          refine wp_region_in (fun W => Blk W gd 26 [.int .i64 dp, .int .i64 nx, (.slice a7 nB k7), (.slice a8 n8 k8), .slice a6 nQ' c6] ∧ Blk W gq 39 [.int .i64 i0, .int .i64 k0, .int .i64 b0, (.slice a9 m9 k9)]) [(true, 2), (false, 1), (false, 1), (true, 1)] [0, 1, 2, 3, 4] 99 (by kernel_rfl) (by kernel_rfl) ⟨hD9.later (Below.refl _ _).drew, hX9.later (Below.refl _ _).drew⟩ ?_
          intro W hW hWe
          have hTW : Three w [.int .i64 dp, .int .i64 nx, .slice aB nB cB, .slice aC nC cC, .slice aQ nQ cQ] zD zQ W := by rw [hWe]; exact hT9.below (Below.refl _ _).drew
          have hRW : Rows3 W w3.heap.size (.slice a7 nB k7) (.slice a8 n8 k8) (.slice a6 nQ' c6) bl' ca' (qu.eraseIdx p) := by rw [hWe]; exact hR9.below (Below.refl _ _).drew
          have hvW : SlV W (.slice a9 m9 k9) s' := by rw [hWe]; exact hv9.k5 (K5.below (Below.refl _ _).drew)
          clear hWe hT9 hR9 hD9 hX9 hv9
          simp only [wpSegsL, inOrder, List.filterMap_cons, List.filterMap_nil, List.getElem?_cons_zero, List.getElem?_cons_succ, List.take_succ_cons, List.take_zero, List.drop_succ_cons, List.drop_zero]
          have q0 := fun z => (hold_ok (S0 := fun W => Blk W gd 26 [.int .i64 dp, .int .i64 nx, (.slice a7 nB k7), (.slice a8 n8 k8), .slice a6 nQ' c6] ∧ Blk W gq 39 [.int .i64 i0, .int .i64 k0, .int .i64 b0, (.slice a9 m9 k9)]) hW z).1.cell 0
          have q1 := fun z => (hold_ok (S0 := fun W => Blk W gd 26 [.int .i64 dp, .int .i64 nx, (.slice a7 nB k7), (.slice a8 n8 k8), .slice a6 nQ' c6] ∧ Blk W gq 39 [.int .i64 i0, .int .i64 k0, .int .i64 b0, (.slice a9 m9 k9)]) hW z).1.cell 1
          have q2 := fun z => (hold_ok (S0 := fun W => Blk W gd 26 [.int .i64 dp, .int .i64 nx, (.slice a7 nB k7), (.slice a8 n8 k8), .slice a6 nQ' c6] ∧ Blk W gq 39 [.int .i64 i0, .int .i64 k0, .int .i64 b0, (.slice a9 m9 k9)]) hW z).1.cell 2
          have q3 := fun z => (hold_ok (S0 := fun W => Blk W gd 26 [.int .i64 dp, .int .i64 nx, (.slice a7 nB k7), (.slice a8 n8 k8), .slice a6 nQ' c6] ∧ Blk W gq 39 [.int .i64 i0, .int .i64 k0, .int .i64 b0, (.slice a9 m9 k9)]) hW z).1.cell 3
          have q4 := fun z => (hold_ok (S0 := fun W => Blk W gd 26 [.int .i64 dp, .int .i64 nx, (.slice a7 nB k7), (.slice a8 n8 k8), .slice a6 nQ' c6] ∧ Blk W gq 39 [.int .i64 i0, .int .i64 k0, .int .i64 b0, (.slice a9 m9 k9)]) hW z).1.cell 4
          have q5 := fun z => (hold_ok (S0 := fun W => Blk W gd 26 [.int .i64 dp, .int .i64 nx, (.slice a7 nB k7), (.slice a8 n8 k8), .slice a6 nQ' c6] ∧ Blk W gq 39 [.int .i64 i0, .int .i64 k0, .int .i64 b0, (.slice a9 m9 k9)]) hW z).2.cell 0
          have q6 := fun z => (hold_ok (S0 := fun W => Blk W gd 26 [.int .i64 dp, .int .i64 nx, (.slice a7 nB k7), (.slice a8 n8 k8), .slice a6 nQ' c6] ∧ Blk W gq 39 [.int .i64 i0, .int .i64 k0, .int .i64 b0, (.slice a9 m9 k9)]) hW z).2.cell 1
          have q7 := fun z => (hold_ok (S0 := fun W => Blk W gd 26 [.int .i64 dp, .int .i64 nx, (.slice a7 nB k7), (.slice a8 n8 k8), .slice a6 nQ' c6] ∧ Blk W gq 39 [.int .i64 i0, .int .i64 k0, .int .i64 b0, (.slice a9 m9 k9)]) hW z).2.cell 2
          have q8 := fun z => (hold_ok (S0 := fun W => Blk W gd 26 [.int .i64 dp, .int .i64 nx, (.slice a7 nB k7), (.slice a8 n8 k8), .slice a6 nQ' c6] ∧ Blk W gq 39 [.int .i64 i0, .int .i64 k0, .int .i64 b0, (.slice a9 m9 k9)]) hW z).2.cell 3
          simp only [List.getElem?_cons_zero, List.getElem?_cons_succ] at q0 q1 q2 q3 q4 q5 q6 q7 q8
          show wpQuiet _ _ _ _ (_ :: [_]) _
          repeat (go_big_quiet_step (fail))
          refine wpQuiet_nil ?_
          clear q0 q1 q2 q3 q4 q5 q6 q7 q8
          have y0 := hTW.t.r.cell 0
          have y1 := hTW.t.r.cell 1
          have y2 := hTW.t.r.cell 2
          have y3 := hTW.t.r.cell 3
          have y4 := hTW.t.r.cell 4
          have f0 := hTW.t.r.frozen 0
          have f1 := hTW.t.r.frozen 1
          have f2 := hTW.t.r.frozen 2
          have f3 := hTW.t.r.frozen 3
          have f4 := hTW.t.r.frozen 4
          have p0 := hTW.q.cell 0
          have p1 := hTW.q.cell 1
          have p2 := hTW.q.cell 2
          have p3 := hTW.q.cell 3
          have pf0 := hTW.q.frozen 0
          have pf1 := hTW.q.frozen 1
          have pf2 := hTW.q.frozen 2
          have pf3 := hTW.q.frozen 3
          simp only [zD, zQ, List.getElem?_cons_zero, List.getElem?_cons_succ] at y0 y1 y2 y3 y4 p0 p1 p2 p3
          go_wp2
          have hq5 := far5B hTW.q (show w.heap.size + 1 + 1 ≠ w.heap.size + 1 by omega) (.int .i64 dp) (.int .i64 nx) (.slice a7 nB k7) (.slice a8 n8 k8) (.slice a6 nQ' c6)
          refine ⟨hold_of (S0 := fun W => Blk W gd 26 [.int .i64 dp, .int .i64 nx, (.slice a7 nB k7), (.slice a8 n8 k8), .slice a6 nQ' c6] ∧ Blk W gq 39 [.int .i64 i0, .int .i64 k0, .int .i64 b0, (.slice a9 m9 k9)]) ⟨far5B hW.1 (by omega) _ _ _ _ _, far5B hW.2 (by omega) _ _ _ _ _⟩, ?_⟩
          dsimp only
          have p0 := hq5.cell 0
          have p1 := hq5.cell 1
          have p2 := hq5.cell 2
          have p3 := hq5.cell 3
          have pf0 := hq5.frozen 0
          have pf1 := hq5.frozen 1
          have pf2 := hq5.frozen 2
          have pf3 := hq5.frozen 3
          simp only [zQ, List.getElem?_cons_zero, List.getElem?_cons_succ] at p0 p1 p2 p3
          clear y0 y1 y2 y3 y4 f0 f1 f2 f3 f4
          obtain ⟨o1, o2, o3, o4, o5⟩ := compl_ans (d := ⟨dp, nx, bl', ca', qu.eraseIdx p⟩) (q := (i0, k0, b0, s')) hTW hRW hvW hgt3
          go_wp2
          refine ⟨hold_of (S0 := fun W => Blk W gd 26 [.int .i64 dp, .int .i64 nx, (.slice a7 nB k7), (.slice a8 n8 k8), .slice a6 nQ' c6] ∧ Blk W gq 39 [.int .i64 i0, .int .i64 k0, .int .i64 b0, (.slice a9 m9 k9)]) ⟨far4 (far5B hW.1 (by omega) _ _ _ _ _) (by omega) _ _ _ _, far4 (far5B hW.2 (by omega) _ _ _ _ _) (by omega) _ _ _ _⟩, ?_⟩
          dsimp only
          show wpQuiet _ _ _ _ [_] _
          repeat (go_big_quiet_step (fail))
          refine wpQuiet_nil ?_
          refine NoPanic.normal ?_
          go_wp2
          refine bodyPost_ret (results_cell_cell rfl _ _ (w.heap.size + 1) (w.heap.size + 1 + 1) _ _ _ _ _ _ _ _ _ _ rfl o4 rfl o5 rfl) rfl ⟨_, _, ?_, o1, o2, o3⟩
          rfl
        case first =>
          rcases hkind with rfl | rfl | rfl
          · obtain ⟨f, rfl⟩ : ∃ f : Nat, b0 = f := ⟨b0.toNat, by have := HBLK.out (by decide); omega⟩
            have hf := (HBLK.out (by decide)).2
            have x2 := CS9.q.cell 2
            have xf := CS9.q.frozen 3
            have d0 := CS9.d.cell 0
            have d1 := CS9.d.cell 1
            have d2 := CS9.d.cell 2
            have d3 := CS9.d.cell 3
            have d4 := CS9.d.cell 4
            simp only [List.getElem?_cons_zero, List.getElem?_cons_succ] at x2 d0 d1 d2 d3 d4
            go_wp2_with fail
            obtain ⟨gB, gC, gQ⟩ := CS9.r.all
            refine (content_41 dp nx a1 a3 a6 bl ca (qu.eraseIdx p) nB k1 nC k3 nQ' c6 f w9 gB gC gQ NB.out NC.out NQ'.out (ok_erase HOK.out p) (by omega)).mono ?_
            rintro e w10 ⟨v, rfl, hv, b10⟩
            obtain ⟨a9, k9, rfl, _, _, _, _⟩ := hv.form rfl
            obtain ⟨m9, hm9⟩ : ∃ m9, (cont ⟨dp, nx, bl, ca, qu.eraseIdx p⟩ f).length = m9 := ⟨_, rfl⟩
            rw [hm9] at hv ⊢
            have CS10 := CS9.below b10
            have x3 := CS10.q.cell 3
            have xf := CS10.q.frozen 3
            simp only [List.getElem?_cons_zero, List.getElem?_cons_succ] at x3
            clear gB gC gQ CS9 x2 d0 d1 d2 d3 d4 b10
            go_wp2
            go_meet
            case rel => exact ⟨a1, k1, a3, nC, k3, bl, ca, a9, m9, k9, _, by rw [HPQ.out, cmpQ_read]; rfl, CS10.data hv⟩
          · have hf := HBLK.out (by decide)
            go_wp2_with fail
            go_cut [12] from 64 (fun pp wr => ∃ (g : Nat) (a2 : Option Addr) (c2 : Nat), pp = .pointer (some ⟨g, 0, none⟩) ∧ CS w [.int .i64 dp, .int .i64 nx, .slice aB nB cB, .slice aC nC cC, .slice aQ nQ cQ] w3.heap.size gd gq dp nx i0 2 b0 (.slice a1 nB k1) (.slice a3 nC k3) (.slice a6 nQ' c6) (.slice a5 m n5) bl ca (qu.eraseIdx p) s0 wr ∧ Blk wr g 64 [.int .i64 b0, .slice a2 m c2] ∧ SlV wr (.slice a2 m c2) s0)
            case first =>
              refine wp_region_forkL (CS w [.int .i64 dp, .int .i64 nx, .slice aB nB cB, .slice aC nC cC, .slice aQ nQ cQ] w3.heap.size gd gq dp nx i0 2 b0 (.slice a1 nB k1) (.slice a3 nC k3) (.slice a6 nQ' c6) (.slice a5 m n5) bl ca (qu.eraseIdx p) s0) [0, 1, 2, 3] 4 6 [(true, 1), (false, 1), (false, 1)] [5, 6, 7] [(false, 1), (true, 1), (false, 1)] [4, 5, 7] 7 (by kernel_rfl) (by kernel_rfl) (CS9.below (Below.refl _ _).drew) ?_
              intro W hW hWe
              clear hWe CS9
              simp only [wpSegsL, inOrder, List.filterMap_cons, List.filterMap_nil, List.getElem?_cons_zero, List.getElem?_cons_succ, List.take_succ_cons, List.take_zero, List.drop_succ_cons, List.drop_zero]
              have q2 := fun z => (hold_ok (S0 := CS w [.int .i64 dp, .int .i64 nx, .slice aB nB cB, .slice aC nC cC, .slice aQ nQ cQ] w3.heap.size gd gq dp nx i0 2 b0 (.slice a1 nB k1) (.slice a3 nC k3) (.slice a6 nQ' c6) (.slice a5 m n5) bl ca (qu.eraseIdx p) s0) hW z).q.cell 2
              have q3 := fun z => (hold_ok (S0 := CS w [.int .i64 dp, .int .i64 nx, .slice aB nB cB, .slice aC nC cC, .slice aQ nQ cQ] w3.heap.size gd gq dp nx i0 2 b0 (.slice a1 nB k1) (.slice a3 nC k3) (.slice a6 nQ' c6) (.slice a5 m n5) bl ca (qu.eraseIdx p) s0) hW z).q.cell 3
              simp only [List.getElem?_cons_zero, List.getElem?_cons_succ] at q2 q3
              show wpQuiet _ _ _ _ (_ :: _ :: _ :: [_]) _
              repeat (go_big_quiet_step (fail))
              refine wpQuiet_nil ?_
              clear q2 q3
              obtain ⟨_, _, hsl, hs1, hs2, hs3, hbt⟩ := hW.v.form HM.out
              cases hsl
              have hm32 : m ≤ 32 := by have h := rqE_len (HOK.out.qu _ (List.mem_of_getElem? HS.out)).2; simp only [HM.out] at h; exact h
              refine ⟨?_, ?_⟩
              · show wpList _ _ _ [_] _ _
                go_wp2_with fail
                refine (clone_44 a5 s0 m n5 W hbt HM.out hs3 hs1 (by omega)).mono ?_
                rintro e w2 ⟨v, rfl, hv, b2⟩
                obtain ⟨a2, c2, rfl, _, _, _, _⟩ := hv.form HM.out
                have hW2 := hW.below b2
                go_wp2
                refine ⟨hold_of (S0 := CS w [.int .i64 dp, .int .i64 nx, .slice aB nB cB, .slice aC nC cC, .slice aQ nQ cQ] w3.heap.size gd gq dp nx i0 2 b0 (.slice a1 nB k1) (.slice a3 nC k3) (.slice a6 nQ' c6) (.slice a5 m n5) bl ca (qu.eraseIdx p) s0) hW2, ?_⟩
                show wpQuiet _ _ _ _ [_] _
                repeat (go_big_quiet_step (fail))
                refine wpQuiet_nil ?_
                go_wp2
                refine ⟨hold_of (S0 := CS w [.int .i64 dp, .int .i64 nx, .slice aB nB cB, .slice aC nC cC, .slice aQ nQ cQ] w3.heap.size gd gq dp nx i0 2 b0 (.slice a1 nB k1) (.slice a3 nC k3) (.slice a6 nQ' c6) (.slice a5 m n5) bl ca (qu.eraseIdx p) s0) (hW2.below (below_box _ _)), ?_⟩
                go_wp2
                refine ⟨trivial, NoPanic.normal ?_⟩
                go_wp2
                go_meet
                case rel => exact ⟨_, a2, c2, rfl, hW2.below (below_box _ _), Blk.new w2 64 _ _ rfl, hv.k5 (K5.below (below_box _ _))⟩
              · show wpList _ _ _ [_] _ _
                go_wp2
                have hW1 := hW.below (below_box W (.cells #[.int .i64 0, .slice none 0 0] 64))
                refine ⟨hold_of (S0 := CS w [.int .i64 dp, .int .i64 nx, .slice aB nB cB, .slice aC nC cC, .slice aQ nQ cQ] w3.heap.size gd gq dp nx i0 2 b0 (.slice a1 nB k1) (.slice a3 nC k3) (.slice a6 nQ' c6) (.slice a5 m n5) bl ca (qu.eraseIdx p) s0) hW1, ?_⟩
                have hX := Blk.new W 64 #[.int .i64 0, .slice none 0 0] [.int .i64 0, .slice none 0 0] rfl
                go_wp2_with fail
                refine (clone_44 a5 s0 m n5 _ (hbt.below (below_box _ _)) HM.out hs3 hs1 (by omega)).mono ?_
                rintro e w2 ⟨v, rfl, hv, b2⟩
                obtain ⟨a2, c2, rfl, _, _, _, _⟩ := hv.form HM.out
                have hW2 := hW1.below b2
                have hX2 := hX.later b2
                have z0 := hX2.cell 0
                have z1 := hX2.cell 1
                have f0 := hX2.frozen 0
                have f1 := hX2.frozen 1
                simp only [List.getElem?_cons_zero, List.getElem?_cons_succ] at z0 z1
                go_wp2
                refine ⟨hold_of (S0 := CS w [.int .i64 dp, .int .i64 nx, .slice aB nB cB, .slice aC nC cC, .slice aQ nQ cQ] w3.heap.size gd gq dp nx i0 2 b0 (.slice a1 nB k1) (.slice a3 nC k3) (.slice a6 nQ' c6) (.slice a5 m n5) bl ca (qu.eraseIdx p) s0) hW2, ?_⟩
                show wpQuiet _ _ _ _ [_] _
                repeat (go_big_quiet_step (fail))
                refine wpQuiet_nil ?_
                go_wp2
                refine ⟨trivial, NoPanic.normal ?_⟩
                go_wp2
                go_meet
                case rel =>
                  refine ⟨_, a2, c2, rfl, ?_, (hX2.set 0 _).set 1 _, ?_⟩
                  · have hne3 : (Value.slice a3 nC k3).ownBlock ≠ some W.heap.size := fun he => by
                      obtain ⟨_, ho, _⟩ := hW.r.c
                      have := (World.ownsRow.lt ho _ he).2
                      omega
                    exact (hW2.box hW.q.lt hX2 (by decide) (by decide) (by decide) hne3 0 _).box hW.q.lt (hX2.set 0 _) (by decide) (by decide) (by decide) hne3 1 _
                  · exact (hv.k5 (K5.set hX2 (by decide) 0 _)).k5 (K5.set (hX2.set 0 _) (by decide) 1 _)
            case rest =>
              clear CS9
              obtain ⟨g, a2, c2, rfl, C1, hX, hv⟩ := hcut
              have OKE := ok_erase HOK.out p
              have hcb : ∀ s ∈ ca, s.1 < 256 := fun s hs => by have := OKE.cb s hs; simp only [NB.out] at this; omega
              have x2 := C1.q.cell 2
              have d0 := C1.d.cell 0
              have d1 := C1.d.cell 1
              have d2 := C1.d.cell 2
              have d3 := C1.d.cell 3
              have d4 := C1.d.cell 4
              simp only [List.getElem?_cons_zero, List.getElem?_cons_succ] at x2 d0 d1 d2 d3 d4
              go_wp2_with fail
              obtain ⟨gB, gC, gQ⟩ := C1.r.all
              refine (find_48 dp nx a1 a3 a6 bl ca (qu.eraseIdx p) nB k1 nC k3 nQ' c6 b0 wc gB gC gQ NB.out NC.out NQ'.out (by omega) OKE.asc hcb hf.1 (by omega)).mono ?_
              rintro e w2 ⟨rfl, b2⟩
              have hputC := putC_at (f := b0) (s := s0) OKE.asc
              have hpos := posC_get (f := b0) OKE.asc
              have hple : posC b0 ca ≤ nC := by rw [← NC.out]; exact List.countP_le_length
              obtain ⟨i, hi⟩ : ∃ i, posC b0 ca = i := ⟨_, rfl⟩
              simp only [hi] at hputC hpos hple ⊢
              have C2 := C1.below b2
              have hX2 := hX.later b2
              have hv2 := hv.k5 (K5.below b2)
              clear gB gC gQ C1 hX hv b2 x2 d0 d1 d2 d3 d4 hi OKE hcb
              have d3 := C2.d.cell 3
              have df3 := C2.d.frozen 3
              have z0 := hX2.cell 0
              have z1 := hX2.cell 1
              simp only [List.getElem?_cons_zero, List.getElem?_cons_succ] at d3 z0 z1
              cases hF : hasC b0 ca with
              | true =>
                rw [if_pos hF] at hputC
                obtain ⟨c, hc, _⟩ := hpos hF
                have hin : i < ca.length := by rw [List.getElem?_eq_some_iff] at hc; exact hc.1
                obtain ⟨g3, c3, cur, hV, hB3, hl3, C3⟩ := C2.entry hin (f := b0) hv2
                rw [NC.out] at hV hin
                cases hV
                obtain ⟨u0, hu0⟩ : ∃ u, cur[i * 2]? = some u := ⟨cur[i * 2]'(by omega), List.getElem?_eq_getElem (by omega)⟩
                obtain ⟨u1, hu1⟩ : ∃ u, cur[i * 2 + 1]? = some u := ⟨cur[i * 2 + 1]'(by omega), List.getElem?_eq_getElem (by omega)⟩
                have k0 := hB3.cell (i * 2)
                have k1' := hB3.cell (i * 2 + 1)
                have kf0 := hB3.frozen (i * 2)
                have kf1 := hB3.frozen (i * 2 + 1)
                rw [hu0] at k0
                rw [hu1] at k1'
                have HPC := Lib.hid hputC
                clear hputC hpos hc hu0 hu1 C2 hX2 hv2 hl3 hF
                go_wp2
                go_meet
                case rel => exact ⟨a1, k1, _, nC, _, bl, _, a5, m, n5, s0, by rw [HPQ.out, cmpQ_write, ← HPC.out], C3⟩
              | false =>
                rw [if_neg (by rw [hF]; decide)] at hputC
                have HPC := Lib.hid hputC
                have hb3 := below_box w2 (.cells #[.int .i64 b0, .slice a2 m c2] 64)
                have C3 := C2.below hb3
                have hv3 := hv2.k5 (K5.below hb3)
                have hX3 := Blk.new w2 64 #[.int .i64 b0, .slice a2 m c2] [.int .i64 b0, .slice a2 m c2] rfl
                obtain ⟨_, hVC0, _⟩ := C2.r.c
                have hne3 : (Value.slice a3 nC k3).ownBlock ≠ some w2.heap.size := fun he => by have := (World.ownsRow.lt hVC0 _ he).2; omega
                obtain ⟨xs, hown0, hall⟩ := C3.r.c
                have hown1 := hown0
                rw [NC.out] at hown1
                have hgd2 := C2.d.lt
                have l2 := C2.l2
                have hins := insert_49 w3.heap.size (.slice a3 nC k3) nC i xs.flatten (.int .i64 b0) (.slice a2 m c2) w2.heap.size _ hown1 (Row.ones EC hall) hX3 rfl rfl hne3 hple (by omega) (Nat.le_trans (by omega) hb3.size)
                have HINS := Lib.hid hins
                clear hputC hpos hins hX2 hv2 C2 hF hVC0 hX3
                go_wp2_with fail
                refine (HINS.out).mono ?_
                rintro e w4 hA
                obtain ⟨V4, rfl, hr4, hg4', _⟩ := Row.ins hown0 hall (by rw [NC.out]; exact hple) (c := (b0, s0)) ⟨_, rfl, hv3⟩ (by rw [NC.out]; exact hA)
                obtain ⟨hd4, C4⟩ := C3.put hg4' hown0 hr4
                have hlen4 : (ca.take i ++ [(b0, s0)] ++ ca.drop i).length = nC + 1 := by simp; have := NC.out; omega
                obtain ⟨a4', k4', rfl, _, _, _⟩ := hr4.form hlen4
                have d3 := hd4.cell 3
                have df3 := hd4.frozen 3
                simp only [List.getElem?_cons_zero, List.getElem?_cons_succ] at d3
                clear HINS hA hr4 hg4' hd4 C3 hown0 hown1 hall hv3 hb3 z0 z1
                go_wp2
                go_meet
                case rel => exact ⟨a1, k1, _, nC + 1, k4', bl, _, a5, m, n5, s0, by rw [HPQ.out, cmpQ_write, ← HPC.out], C4⟩
          · have HPF := Lib.hid (show P = (⟨dp, nx, flushB bl ca, [], qu.eraseIdx p⟩, (i0, 3, b0, s0), 0) from HPQ.out.trans cmpQ_flush)
            have hbl : ∀ c ∈ ca, c.1 < nB := fun c hc => by have := HOK.out.cb c hc; simp only [NB.out] at this; exact this
            have hasc := HOK.out.asc
            simp only at hasc
            have HBL := Lib.hid hbl; have HASC := Lib.hid hasc
            have d3 := CS9.d.cell 3
            simp only [List.getElem?_cons_zero, List.getElem?_cons_succ] at d3
            clear HPQ hbl hasc
            go_wp2
            clear d3
            go_loopg [95] nC (fun gg i0' wr => ∃ (i : Nat) (bl' : List (List Int)), i + gg = nC ∧ i0' = .int .i64 i ∧ flushB bl ca = flushB bl' (ca.drop i) ∧ bl'.length = nB ∧ CS w [.int .i64 dp, .int .i64 nx, .slice aB nB cB, .slice aC nC cC, .slice aQ nQ cQ] w3.heap.size gd gq dp nx i0 3 b0 (.slice a1 nB k1) (.slice a3 nC k3) (.slice a6 nQ' c6) (.slice a5 m n5) bl' ca (qu.eraseIdx p) s0 wr)
            case atStart => exact ⟨0, bl, by omega, rfl, rfl, NB.out, CS9⟩
            case round =>
              clear CS9
              obtain ⟨i, bl', hg, rfl, hfl, hlb, C1⟩ := hrel
              cases gk with
              | zero =>
                obtain rfl : i = nC := by omega
                have HFL := Lib.hid (show flushB bl ca = bl' by rw [hfl, List.drop_eq_nil_of_le (by rw [NC.out]; exact Nat.le_refl _)]; rfl)
                have C2 := C1.cache (VC' := .slice none 0 0) (ca' := []) (Row.nil _ _)
                have d3 := C1.d.cell 3
                have df3 := C1.d.frozen 3
                simp only [List.getElem?_cons_zero, List.getElem?_cons_succ] at d3
                clear hg hfl C1
                go_wp2
                go_meet
                case rel => exact ⟨a1, k1, none, 0, 0, bl', [], a5, m, n5, s0, by rw [HPF.out, HFL.out], C2⟩
              | succ gg =>
                have hin : i < nC := by omega
                obtain ⟨⟨f, x⟩, hs⟩ := get_some NC.out hin
                have hfB := HBL.out _ (List.mem_of_getElem? hs)
                have hf0 := ascC_lt HASC.out _ (List.mem_of_getElem? hs)
                simp only at hfB hf0
                obtain ⟨f', rfl⟩ : ∃ f' : Nat, f = f' := ⟨f.toNat, by omega⟩
                have hf' : f' < bl'.length := by omega
                have HFS := Lib.hid (hfl.trans (flushB_step hs))
                obtain ⟨g3, c3, hV3, hg3, hg3b, hent⟩ := C1.r.c.get EC (by rw [NC.out]; omega)
                rw [NC.out] at hV3
                cases hV3
                obtain ⟨y, ⟨sv, rfl, hv⟩, hy⟩ := hent i _ hs
                obtain ⟨a9, k9, rfl, _, _, _, _⟩ := hv.form rfl
                have z0 := hy 0 (by decide)
                have z1 := hy 1 (by decide)
                simp only [List.getElem?_cons_zero, List.getElem?_cons_succ, Nat.add_zero] at z0 z1 hv
                obtain ⟨m9, hm9⟩ : ∃ m9, x.length = m9 := ⟨_, rfl⟩
                rw [hm9] at z1 hv
                have d2 := C1.d.cell 2
                simp only [List.getElem?_cons_zero, List.getElem?_cons_succ] at d2
                obtain ⟨g1, c1, cur, hV1, hB1, hl1, C2⟩ := C1.block hf' hv
                rw [hlb] at hV1
                cases hV1
                obtain ⟨u0, hu0⟩ : ∃ u, cur[f']? = some u := ⟨cur[f']'hl1, List.getElem?_eq_getElem hl1⟩
                have hg1 : g1 < wr.heap.size := by
                  obtain ⟨_, ho, _⟩ := C1.r.b
                  exact (World.ownsRow.lt ho g1 rfl).2
                have kc := hB1.cell f'
                rw [hu0] at kc
                have kf := hB1.frozen f'
                have HG := Lib.hid hg
                have hlb2 : (bl'.set f' x).length = nB := by rw [List.length_set]; exact hlb
                have HLB := Lib.hid hlb2
                have C3 := C2.below (below_box _ (.cells #[.int .i64 (f' : Int), .slice a9 m9 k9] 64))
                have hfn : f' < nB := by omega
                have hgd := C1.d.lt
                clear hs hent hy hg hfl hm9 C1 C2 hv hu0 hB1 hlb hlb2 hfB hf0
                go_wp2
                go_roundg gg
                case rel => exact ⟨i + 1, _, by have := HG.out; omega, by go_num, HFS.out, HLB.out, C3⟩
                case measure => omega
  · have t1 : (R != 0) = true := by simpa using h0
    obtain rfl := HP.out.symm.trans (cmpD_chk HR.out h0)
    have y0 := hT3.t.r.cell 0
    have y1 := hT3.t.r.cell 1
    have y2 := hT3.t.r.cell 2
    have y3 := hT3.t.r.cell 3
    have y4 := hT3.t.r.cell 4
    have f0 := hT3.t.r.frozen 0
    have f1 := hT3.t.r.frozen 1
    have f2 := hT3.t.r.frozen 2
    have f3 := hT3.t.r.frozen 3
    have f4 := hT3.t.r.frozen 4
    have p0 := hT3.q.cell 0
    have p1 := hT3.q.cell 1
    have p2 := hT3.q.cell 2
    have p3 := hT3.q.cell 3
    have pf0 := hT3.q.frozen 0
    have pf1 := hT3.q.frozen 1
    have pf2 := hT3.q.frozen 2
    have pf3 := hT3.q.frozen 3
    simp only [zD, zQ, List.getElem?_cons_zero, List.getElem?_cons_succ] at y0 y1 y2 y3 y4 p0 p1 p2 p3
    go_wp2
    obtain ⟨o1, o2, o3, o4, o5⟩ := compl_ans (d := Dev.zero) (q := zq) (B := w.heap.size + 1 + 1 + 1) hT3 ⟨Row.nil _ _, Row.nil _ _, Row.nil _ _⟩ (SlV.nil _) (by omega)
    refine bodyPost_ret (results_cell_cell rfl _ _ (w.heap.size + 1) (w.heap.size + 1 + 1) _ _ _ _ _ _ _ _ _ _ rfl o4 rfl o5 rfl) rfl ⟨_, _, rfl, o1, o2, o3⟩
end Go.Proofs.Ytlhbjmoncdljoaa
