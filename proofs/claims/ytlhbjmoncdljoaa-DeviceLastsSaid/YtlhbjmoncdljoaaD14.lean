/- Walks: Submit, of the program. -/
import Derived.Test.YtlhbjmoncdljoaaD11
import Derived.Test.YtlhbjmoncdljoaaP3
import Derived.Test.YtlhbjmoncdljoaaSeg4
import Derived.Deep.Cut
namespace Go.Proofs.Ytlhbjmoncdljoaa
open Go.RowKit Go.Over Go.Dev Go.Seg Go.Grow
/-- The cell of the argument and that of the result. -/
structure Two (w0 : World) (A R : List Value) (W : World) : Prop where
  b : Below w0.heap.size w0 W
  a : Blk W w0.heap.size 26 A
  r : Blk W (w0.heap.size + 1) 26 R
theorem Two.below {w0 : World} {A R : List Value} {W W' : World} (h : Two w0 A R W) (hb : Below W.heap.size W W') : Two w0 A R W' := ⟨below_then h.b hb, h.a.later hb, h.r.later hb⟩
theorem two_start (w : World) (A : List Value) (cs : Array Value) (hcs : cs = A.toArray) : Two w A zD ((w.alloc (.cells cs 26)).alloc (.cells #[.int .i64 0, .int .i64 0, .slice none 0 0, .slice none 0 0, .slice none 0 0] 26)) := by
  subst hcs
  refine ⟨below_alloc (below_box _ _) _, (Blk.new w 26 _ A rfl).alloc _, ?_⟩
  have := Blk.new (w.alloc (.cells A.toArray 26)) 26 #[.int .i64 0, .int .i64 0, .slice none 0 0, .slice none 0 0, .slice none 0 0] zD rfl
  simpa using this
theorem Two.far {w0 : World} {A R : List Value} {W : World} (h : Two w0 A R W) {g : Nat} (hg : w0.heap.size + 1 < g) (i : Nat) (u : Value) : Two w0 A R (W.setCell ⟨g, i, none⟩ u) :=
  ⟨h.b.setCell (by show w0.heap.size ≤ g; omega) _, h.a.far (by show w0.heap.size ≠ g; omega) _, h.r.far (by show w0.heap.size + 1 ≠ g; omega) _⟩
theorem Two.grown {w0 : World} {A R : List Value} {W W' : World} {U : Value} {base e size m : Nat} {xs : List Value} (h : Two w0 A R W) (hg : W.grownBy W' U.ownBlock) (ho : W.ownsRow base e size U m xs) (hb : w0.heap.size + 1 < base) : Two w0 A R W' := by
  have hne : ∀ k, k ≤ w0.heap.size + 1 → U.ownBlock ≠ some k := fun k hk he => by have := (World.ownsRow.lt ho k he).1; omega
  exact ⟨h.b.grown hg h.b.size (fun q hq => by have := (World.ownsRow.lt ho q hq).1; omega), h.a.grown hg (hne _ (by omega)), h.r.grown hg (hne _ (by omega))⟩
/-- What a call that makes a device and a number gives. -/
def DevAns2 (p : D × Int × Int) (w : World) (e : Ending) (w' : World) : Prop := ∃ v, e = .returned (.tuple #[v, .int .i64 p.2.1, .int .i64 p.2.2]) ∧ OwnD w' w.heap.size v p.1 ∧ Below w.heap.size w w'
theorem Row.apart {α : Type} {e size B : Nat} {R : World → List Value → α → Prop} {w : World} {V : Value} {l : List α} (h : Row e size R w B V l) {g : Nat} (hg : g < B) : V.ownBlock ≠ some g := fun he => by
  obtain ⟨_, ho, _⟩ := h
  have := (World.ownsRow.lt ho _ he).1
  omega
/-- The three rows of a device, in a world. -/
structure Rows3 (W : World) (B : Nat) (VB VC VQ : Value) (bl : List (List Int)) (ca : List Ca) (qu : List Rq) : Prop where
  b : Row 31 1 RB W B VB bl
  c : Row 64 2 RC W B VC ca
  q : Row 39 4 RQ W B VQ qu
section
variable {W W' : World} {B : Nat} {VB VC VQ : Value} {bl : List (List Int)} {ca : List Ca} {qu : List Rq}
theorem Rows3.below (h : Rows3 W B VB VC VQ bl ca qu) (hb : Below W.heap.size W W') : Rows3 W' B VB VC VQ bl ca qu := ⟨h.b.later EB hb, h.c.later EC hb, h.q.later EQ hb⟩
theorem Rows3.weaken {B' : Nat} (h : Rows3 W B VB VC VQ bl ca qu) (hb : B' ≤ B) : Rows3 W B' VB VC VQ bl ca qu := ⟨h.b.weaken hb, h.c.weaken hb, h.q.weaken hb⟩
/-- A cell of a block that lies ahead of the rows is changed. -/
theorem Rows3.far (h : Rows3 W B VB VC VQ bl ca qu) {g t : Nat} {cs : List Value} (hg : Blk W g t cs) (h5 : t ≠ 5) (hB : g < B) (i : Nat) (u : Value) : Rows3 (W.setCell ⟨g, i, none⟩ u) B VB VC VQ bl ca qu :=
  ⟨h.b.farX EB hg h5 (h.b.apart hB) i u, h.c.farX EC hg h5 (h.c.apart hB) i u, h.q.farX EQ hg h5 (h.q.apart hB) i u⟩
/-- A cell of a device is changed. -/
theorem Rows3.dev (h : Rows3 W B VB VC VQ bl ca qu) {g : Nat} {cs : List Value} (hg : Blk W g 26 cs) (i : Nat) (u : Value) : Rows3 (W.setCell ⟨g, i, none⟩ u) B VB VC VQ bl ca qu :=
  ⟨h.b.far EB hg (by decide) (by decide) i u, h.c.far EC hg (by decide) (by decide) i u, h.q.far EQ hg (by decide) (by decide) i u⟩
theorem Rows3.own (h : Rows3 W B VB VC VQ bl ca qu) (dp nx : Int) : OwnD W B (.agg #[.int .i64 dp, .int .i64 nx, VB, VC, VQ]) ⟨dp, nx, bl, ca, qu⟩ := ⟨_, _, _, rfl, h.b, h.c, h.q⟩
end
theorem far5B {w : World} {g g' t : Nat} {cs : List Value} (h : Blk w g t cs) (hne : g ≠ g') (x1 x2 x3 x4 x5 : Value) : Blk (((((w.setCell ⟨g', 0, none⟩ x1).setCell ⟨g', 1, none⟩ x2).setCell ⟨g', 2, none⟩ x3).setCell ⟨g', 3, none⟩ x4).setCell ⟨g', 4, none⟩ x5) g t cs :=
  ((((h.far hne x1).far hne x2).far hne x3).far hne x4).far hne x5
theorem bytes_nil {s : List Int} {n : Nat} (h : s.length = n) (h0 : n = 0) : s = [] := List.eq_nil_of_length_eq_zero (by omega)
set_option maxRecDepth 100000 in set_option maxHeartbeats 3200000 in
theorem submit_25 (dp nx : Int) (aB aC aQ : Option Addr) (bl : List (List Int)) (ca : List Ca) (qu : List Rq) (nB cB nC cC nQ cQ : Nat) (k b : Int) (a : Option Addr) (s : List Int) (n c : Nat) (w : World) (HB : Bls w aB bl) (HC : Cas w aC ca) (HQ : Rqs w aQ qu) (hB : bl.length = nB) (hC : ca.length = nC) (hQ : qu.length = nQ)
    (mB : nB ≤ 1000000) (mC : nC ≤ 1000000) (mQ : nQ ≤ 1000000) (H : Bt w a s) (hn : s.length = n) (hz : a = none → c = 0) (hnc : n ≤ c) (hm : n ≤ 1000) :
    Calls Try.prog 25 #[.agg #[.int .i64 dp, .int .i64 nx, .slice aB nB cB, .slice aC nC cC, .slice aQ nQ cQ], .int .i64 k, .int .i64 b, .slice a n c] w (DevAns2 (subD ⟨dp, nx, bl, ca, qu⟩ k b s) w) := by
  have NB := Lib.hid hB; have NC := Lib.hid hC; have NQ := Lib.hid hQ; have NS := Lib.hid hn
  have hT0 := two_start w [.int .i64 dp, .int .i64 nx, .slice aB nB cB, .slice aC nC cC, .slice aQ nQ cQ] #[.int .i64 dp, .int .i64 nx, .slice aB nB cB, .slice aC nC cC, .slice aQ nQ cQ] rfl
  obtain ⟨P, hP⟩ : ∃ P, subD ⟨dp, nx, bl, ca, qu⟩ k b s = P := ⟨_, rfl⟩
  rw [hP]
  have HP := Lib.hid hP
  clear hB hC hQ hn hP
  go_enter Try.func25, Try.ntmps25
  go_wp2
  obtain ⟨w1, hw1⟩ : ∃ W, W = (w.alloc (.cells #[.int .i64 dp, .int .i64 nx, .slice aB nB cB, .slice aC nC cC, .slice aQ nQ cQ] 26)).alloc (.cells #[.int .i64 0, .int .i64 0, .slice none 0 0, .slice none 0 0, .slice none 0 0] 26) := ⟨_, rfl⟩
  rw [← hw1] at hT0 ⊢
  clear hw1
  go_cut [11] from 14 (fun p wr => ∃ (g : Nat) (a2 : Option Addr) (c2 : Nat), p = .pointer (some ⟨g, 0, none⟩) ∧ w.heap.size + 1 < g ∧ Two w [.int .i64 dp, .int .i64 nx, .slice aB nB cB, .slice aC nC cC, .slice aQ nQ cQ] zD wr ∧ Blk wr g 39 [.int .i64 nx, .int .i64 k, .int .i64 b, .slice a2 n c2] ∧ SlV wr (.slice a2 n c2) s)
  case first =>
    refine wp_region_forkL (Two w [.int .i64 dp, .int .i64 nx, .slice aB nB cB, .slice aC nC cC, .slice aQ nQ cQ] zD) [0, 1, 2, 3, 4] 5 7 [(true, 1), (false, 1), (false, 1)] [6, 7, 8] [(false, 1), (true, 1), (false, 1)] [5, 6, 8] 8 (by kernel_rfl) (by kernel_rfl) (hT0.below (Below.refl _ _).drew) ?_
    intro W hW hWe
    clear hWe hT0
    simp only [wpSegsL, inOrder, List.filterMap_cons, List.filterMap_nil, List.getElem?_cons_zero, List.getElem?_cons_succ, List.take_succ_cons, List.take_zero, List.drop_succ_cons, List.drop_zero]
    have q0 := fun z => (hold_ok hW z).a.cell 1
    simp only [List.getElem?_cons_zero, List.getElem?_cons_succ] at q0
    show wpQuiet _ _ _ _ (_ :: _ :: _ :: _ :: [_]) _
    repeat (go_big_quiet_step (fail))
    refine wpQuiet_nil ?_
    clear q0
    refine ⟨?_, ?_⟩
    · show wpList _ _ _ [_] _ _
      go_wp2_with fail
      refine (clone_44 a s n c W (H.below hW.b) NS.out hz hnc (by omega)).mono ?_
      rintro e w2 ⟨v, rfl, hv, b2⟩
      obtain ⟨a2, c2, rfl, _, _, _, _⟩ := hv.form NS.out
      have hW2 := hW.below b2
      have hlt : w.heap.size + 1 < w2.heap.size := hW2.r.lt
      go_wp2
      refine ⟨hold_of hW2, ?_⟩
      show wpQuiet _ _ _ _ [_] _
      repeat (go_big_quiet_step (fail))
      refine wpQuiet_nil ?_
      go_wp2
      refine ⟨hold_of (hW2.below (below_box _ _)), ?_⟩
      go_wp2
      refine ⟨trivial, NoPanic.normal ?_⟩
      go_wp2
      go_meet
      case rel => exact ⟨_, a2, c2, rfl, hlt, hW2.below (below_box _ _), Blk.new w2 39 _ _ rfl, hv.k5 (K5.below (below_box _ _))⟩
    · show wpList _ _ _ [_] _ _
      go_wp2
      have hW1 := hW.below (below_box W (.cells #[.int .i64 0, .int .i64 0, .int .i64 0, .slice none 0 0] 39))
      refine ⟨hold_of hW1, ?_⟩
      have hX := Blk.new W 39 #[.int .i64 0, .int .i64 0, .int .i64 0, .slice none 0 0] [.int .i64 0, .int .i64 0, .int .i64 0, .slice none 0 0] rfl
      have hlt : w.heap.size + 1 < W.heap.size := hW.r.lt
      go_wp2_with fail
      refine (clone_44 a s n c _ (H.below hW1.b) NS.out hz hnc (by omega)).mono ?_
      rintro e w2 ⟨v, rfl, hv, b2⟩
      obtain ⟨a2, c2, rfl, _, _, _, _⟩ := hv.form NS.out
      have hW2 := hW1.below b2
      have hX2 := hX.later b2
      have z0 := hX2.cell 0
      have z1 := hX2.cell 1
      have z2 := hX2.cell 2
      have z3 := hX2.cell 3
      have f0 := hX2.frozen 0
      have f1 := hX2.frozen 1
      have f2 := hX2.frozen 2
      have f3 := hX2.frozen 3
      simp only [List.getElem?_cons_zero, List.getElem?_cons_succ] at z0 z1 z2 z3
      go_wp2
      refine ⟨hold_of hW2, ?_⟩
      show wpQuiet _ _ _ _ [_] _
      repeat (go_big_quiet_step (fail))
      refine wpQuiet_nil ?_
      go_wp2
      refine ⟨trivial, NoPanic.normal ?_⟩
      go_wp2
      go_meet
      case rel =>
        refine ⟨_, a2, c2, rfl, hlt, (((hW2.far hlt 0 _).far hlt 1 _).far hlt 2 _).far hlt 3 _, (((hX2.set 0 _).set 1 _).set 2 _).set 3 _, ?_⟩
        exact (((hv.k5 (K5.set hX2 (by decide) 0 _)).k5 (K5.set (hX2.set 0 _) (by decide) 1 _)).k5 (K5.set ((hX2.set 0 _).set 1 _) (by decide) 2 _)).k5 (K5.set (((hX2.set 0 _).set 1 _).set 2 _) (by decide) 3 _)
  case rest =>
    clear hT0
    obtain ⟨g, a2, c2, rfl, hgt, hT, hX, hv⟩ := hcut
    have x0 := hT.a.cell 0
    have x1 := hT.a.cell 1
    have x2 := hT.a.cell 2
    have x3 := hT.a.cell 3
    have x4 := hT.a.cell 4
    simp only [List.getElem?_cons_zero, List.getElem?_cons_succ] at x0 x1 x2 x3 x4
    go_wp2_with fail
    refine (check_13 dp nx aB aC aQ bl ca qu nB cB nC cC nQ cQ wc (HB.below hT.b) (HC.below hT.b) (HQ.below hT.b) NB.out NC.out NQ.out mB mC mQ).mono ?_
    rintro e w3 ⟨rfl, b3⟩
    have hT3 := hT.below b3
    have hX3 := hX.later b3
    have hv3 := hv.k5 (K5.below b3)
    clear x0 x1 x2 x3 x4 hT hX hv b3
    obtain ⟨R, hR⟩ : ∃ R, chk ⟨dp, nx, bl, ca, qu⟩ = R := ⟨_, rfl⟩
    rw [hR]
    have HR := Lib.hid hR
    clear hR
    by_cases h0 : R = 0
    · subst h0
      have x0 := hT3.a.cell 0
      have x1 := hT3.a.cell 1
      have x2 := hT3.a.cell 2
      have x3 := hT3.a.cell 3
      have x4 := hT3.a.cell 4
      simp only [List.getElem?_cons_zero, List.getElem?_cons_succ] at x0 x1 x2 x3 x4
      have z0 := hX3.cell 0
      have z1 := hX3.cell 1
      have z2 := hX3.cell 2
      have z3 := hX3.cell 3
      simp only [List.getElem?_cons_zero, List.getElem?_cons_succ] at z0 z1 z2 z3
      go_wp2_with fail
      refine (reqE_37 dp nx (.slice aC nC cC) (.slice aQ nQ cQ) aB nB cB nx k b a2 n c2 w3).mono ?_
      rintro e w4 ⟨rfl, b4⟩
      have hT4 := hT3.below b4
      have hX4 := hX3.later b4
      have hv4 := hv3.k5 (K5.below b4)
      clear x0 x1 x2 x3 x4 z0 z1 z2 z3 hT3 hX3 hv3 b4
      obtain ⟨E, hE⟩ : ∃ E, rqE nB k b n = E := ⟨_, rfl⟩
      rw [hE]
      have HE := Lib.hid (show rqE (⟨dp, nx, bl, ca, qu⟩ : D).bl.length k b s.length = E by rw [← hE, NS.out]; simp only [NB.out])
      clear hE
      have x0 := hT4.a.cell 0
      have x1 := hT4.a.cell 1
      have x2 := hT4.a.cell 2
      have x3 := hT4.a.cell 3
      have x4 := hT4.a.cell 4
      simp only [List.getElem?_cons_zero, List.getElem?_cons_succ] at x0 x1 x2 x3 x4
      by_cases h1 : E = 0
      · subst h1
        have OK := chk_ok.1 HR.out
        by_cases h2 : nx = 1099511627776
        · obtain rfl := HP.out.symm.trans (subD_limit HR.out HE.out h2)
          subst h2
          have y0 := hT4.r.cell 0
          have y1 := hT4.r.cell 1
          have y2 := hT4.r.cell 2
          have y3 := hT4.r.cell 3
          have y4 := hT4.r.cell 4
          have f0 := hT4.r.frozen 0
          have f1 := hT4.r.frozen 1
          have f2 := hT4.r.frozen 2
          have f3 := hT4.r.frozen 3
          have f4 := hT4.r.frozen 4
          simp only [zD, List.getElem?_cons_zero, List.getElem?_cons_succ] at y0 y1 y2 y3 y4
          go_wp2
          refine bodyPost_ret (results_cell_two rfl _ _ (w.heap.size + 1) _ _ _ _ _ _ _ rfl (set5 hT4.r _ _ _ _ _) rfl rfl) rfl ⟨_, rfl, OwnD.zero _ _, below5 hT4.b (by omega) _ _ _ _ _⟩
        · have t2 : (nx == 1099511627776) = false := by simpa using h2
          by_cases h3 : (nQ : Int) = dp
          · have t3 : ((nQ : Int) == dp) = true := by simpa using h3
            obtain rfl := HP.out.symm.trans (subD_full HR.out HE.out h2 (by simp only [NQ.out]; omega))
            have y0 := hT4.r.cell 0
            have y1 := hT4.r.cell 1
            have y2 := hT4.r.cell 2
            have y3 := hT4.r.cell 3
            have y4 := hT4.r.cell 4
            have f0 := hT4.r.frozen 0
            have f1 := hT4.r.frozen 1
            have f2 := hT4.r.frozen 2
            have f3 := hT4.r.frozen 3
            have f4 := hT4.r.frozen 4
            simp only [zD, List.getElem?_cons_zero, List.getElem?_cons_succ] at y0 y1 y2 y3 y4
            clear h3
            go_wp2
            refine bodyPost_ret (results_cell_two rfl _ _ (w.heap.size + 1) _ _ _ _ _ _ _ rfl (set5 hT4.r _ _ _ _ _) rfl rfl) rfl ⟨_, rfl, OwnD.zero _ _, below5 hT4.b (by omega) _ _ _ _ _⟩
          · have t3 : ((nQ : Int) == dp) = false := by simpa using h3
            obtain rfl := HP.out.symm.trans (subD_ok HR.out HE.out h2 (by have h5 := OK.q1; simp only [NQ.out] at h5 ⊢; omega))
            have hn16 : nQ ≤ 16 := by have := ok_qu OK; simp only [NQ.out] at this; exact this
            have hnB : nB ≤ 256 := by have := OK.b2; simp only [NB.out] at this; exact this
            have hnC : nC ≤ 256 := by have := ok_ca OK; simp only [NC.out] at this; exact this
            have hnx := OK.n1
            have hnx2 := OK.n2
            simp only at hnx hnx2
            have lB := ok_bl OK
            have lC := ok_cl OK
            have lQ := ok_ql OK
            have LL := Lib.hid (And.intro lB (And.intro lC lQ))
            clear lB lC lQ OK h3
            go_wp2_with fail
            refine (clone_45 dp nx aB aC aQ bl ca qu nB cB nC cC nQ cQ w4 (HB.below hT4.b) (HC.below hT4.b) (HQ.below hT4.b) NB.out NC.out NQ.out (by omega) (by omega) (by omega) LL.out.1 LL.out.2.1 LL.out.2.2).mono ?_
            rintro e w5 ⟨v, rfl, hO, b5⟩
            obtain ⟨VB, VC, VQ, a1, k1, a3, k3, a4, k4, rfl, rfl, rfl, rfl, r1, r2, r3⟩ := hO.cells
            simp only [NB.out, NC.out, NQ.out]
            have hTR : Rows3 w5 w4.heap.size (.slice a1 bl.length k1) (.slice a3 ca.length k3) (.slice a4 qu.length k4) bl ca qu := ⟨r1, r2, r3⟩
            rw [NB.out, NC.out, NQ.out] at hTR
            have hb6 := below_box w5 (.cells #[.int .i64 dp, .int .i64 nx, .slice a1 nB k1, .slice a3 nC k3, .slice a4 nQ k4] 26)
            have hT6 := (hT4.below b5).below hb6
            have hX6 := (hX4.later b5).later hb6
            have hv6 := (hv4.k5 (K5.below b5)).k5 (K5.below hb6)
            have hR6 := hTR.below hb6
            have hD6 := Blk.new w5 26 #[.int .i64 dp, .int .i64 nx, .slice a1 nB k1, .slice a3 nC k3, .slice a4 nQ k4] [.int .i64 dp, .int .i64 nx, .slice a1 nB k1, .slice a3 nC k3, .slice a4 nQ k4] rfl
            have hgw4 := hX4.lt
            have hw45 := b5.size
            have hgd : g < w5.heap.size := by omega
            have z0 := hX6.cell 0
            have z1 := hX6.cell 1
            have z2 := hX6.cell 2
            have z3 := hX6.cell 3
            have zf := hX6.frozen 3
            simp only [List.getElem?_cons_zero, List.getElem?_cons_succ] at z0 z1 z2 z3
            clear r1 r2 r3 hO hTR hT4 hX4 hv4 b5 x0 x1 x2 x3 x4 hb6
            go_upto_if 51 with fail
            obtain ⟨w6, hw6⟩ : ∃ W, W = w5.alloc (.cells #[.int .i64 dp, .int .i64 nx, .slice a1 nB k1, .slice a3 nC k3, .slice a4 nQ k4] 26) := ⟨_, rfl⟩
            rw [← hw6] at hT6 hX6 hv6 hR6 hD6 z0 z1 z2 z3 zf ⊢
            clear hw6
            obtain ⟨gd, hgd2⟩ : ∃ gd, w5.heap.size = gd := ⟨_, rfl⟩
            rw [hgd2] at hD6 hgd hw45 ⊢
            clear hgd2
            go_cut [] from 52 (fun wr => ∃ (a5 : Option Addr) (c5 : Nat), Two w [.int .i64 dp, .int .i64 nx, .slice aB nB cB, .slice aC nC cC, .slice aQ nQ cQ] zD wr ∧ Blk wr g 39 [.int .i64 nx, .int .i64 k, .int .i64 b, .slice a5 n c5] ∧ SlV wr (.slice a5 n c5) s ∧ Rows3 wr w4.heap.size (.slice a1 nB k1) (.slice a3 nC k3) (.slice a4 nQ k4) bl ca qu ∧ Blk wr gd 26 [.int .i64 dp, .int .i64 nx, .slice a1 nB k1, .slice a3 nC k3, .slice a4 nQ k4])
            case first =>
              by_cases hn0 : n = 0
              · have hs := bytes_nil NS.out hn0
                subst hn0
                go_wp2
                go_meet
                case rel =>
                  refine ⟨none, 0, hT6.far hgt 3 _, hX6.set 3 _, ?_, hR6.far hX6 (by decide) hgw4 3 _, hD6.far (by show gd ≠ g; omega) _⟩
                  subst hs
                  exact SlV.nil _
              · have t5 : ((n : Int) == 0) = false := by simp; omega
                go_wp2
                go_meet
                case rel => exact ⟨a2, c2, hT6, hX6, hv6, hR6, hD6⟩
            case rest =>
              clear hT6 hX6 hv6 hR6 hD6 z0 z1 z2 z3 zf
              obtain ⟨a5, c5, hT, hX, hv, hR, hD⟩ := hcut
              have z0 := hX.cell 0
              have z1 := hX.cell 1
              have z2 := hX.cell 2
              have z3 := hX.cell 3
              simp only [List.getElem?_cons_zero, List.getElem?_cons_succ] at z0 z1 z2 z3
              have d0 := hD.cell 0
              have d1 := hD.cell 1
              have d4 := hD.cell 4
              have df1 := hD.frozen 1
              have df4 := hD.frozen 4
              simp only [List.getElem?_cons_zero, List.getElem?_cons_succ] at d0 d1 d4
              have hb7 := below_box wc (.cells #[.int .i64 nx, .int .i64 k, .int .i64 b, .slice a5 n c5] 39)
              have hT7 := hT.below hb7
              have hX7 := hX.later hb7
              have hv7 := hv.k5 (K5.below hb7)
              have hR7 := hR.below hb7
              have hD7 := hD.later hb7
              have hsz : w4.heap.size ≤ wc.heap.size := by have := hX.lt; have := hD.lt; omega
              obtain ⟨xs, hown0, hall⟩ := hR7.q
              rw [NQ.out] at hown0
              have HSRC := Lib.hid (src_new wc #[.int .i64 nx, .int .i64 k, .int .i64 b, .slice a5 n c5] 39 4 1 1 rfl (by simp [Value.oneCell']))
              go_wp2_with (at_builtin; refine wpList_append_k K24 rfl (.tmp 54) (.tmp 56) rfl _ _ _ rfl hown0 _ 1 1 _ rfl HSRC.out ?c1 ?c2 ?_)
              case c1 => omega
              case c2 => omega
              intro V8 w8 hown hgrow hwh
              have hgt4 : w.heap.size + 1 < w4.heap.size := by omega
              have hk8 := K5.grown hgrow hown0 (by decide)
              have hT8 := hT7.grown hgrow hown0 hgt4
              have hX8 := hX7.grown hgrow (hR7.q.apart hgw4)
              have hD8 := hD7.grown hgrow (hD7.not_own hown0 (by decide))
              have hR8 : Rows3 w8 w4.heap.size (.slice a1 nB k1) (.slice a3 nC k3) V8 bl ca (qu ++ [(nx, k, b, s)]) :=
                ⟨hR7.b.other EB hgrow hown0 (by decide) (by decide), hR7.c.other EC hgrow hown0 (by decide) (by decide), Row.push EQ hall hk8 hown (by rw [NQ.out]) ⟨_, rfl, hv7.k5 hk8⟩⟩
              obtain ⟨a8, c8, rfl, _, _, _⟩ := hR8.q.form (n := nQ + 1) (by rw [List.length_append, NQ.out]; rfl)
              have hR9 := (hR8.dev hD8 4 (.slice a8 (nQ + 1) c8)).dev (hD8.set 4 _) 1 (.int .i64 (nx + 1))
              have hT9 := (hT8.far (g := gd) (by omega) 4 (.slice a8 (nQ + 1) c8)).far (g := gd) (by omega) 1 (.int .i64 (nx + 1))
              have hD9 := (hD8.set 4 (.slice a8 (nQ + 1) c8)).set 1 (.int .i64 (nx + 1))
              have hX9 := (hX8.far (p := ⟨gd, 4, none⟩) (by show g ≠ gd; omega) (.slice a8 (nQ + 1) c8)).far (p := ⟨gd, 1, none⟩) (by show g ≠ gd; omega) (.int .i64 (nx + 1))
              have d0 := hD8.cell 0
              have d1 := hD8.cell 1
              have d4 := hD8.cell 4
              have df1 := hD8.frozen 1
              have df4 := hD8.frozen 4
              simp only [List.getElem?_cons_zero, List.getElem?_cons_succ] at d0 d1 d4
              have e1 : IntKind.i64.wrap (nx + 1) = nx + 1 := IntWalk.i64_in _ (by omega)
              clear hown hgrow hown0 hall hk8 hT hX hv hR hD z0 z1 z2 z3 hT7 hX7 hv7 hR7 hD7 hb7 HSRC hwh hT8 hX8 hD8 hR8
              go_wp2
              simp only [List.set_cons_zero, List.set_cons_succ] at hD9
              obtain ⟨w9, hw9⟩ : ∃ W, W = (w8.setCell ⟨gd, 4, none⟩ (.slice a8 (nQ + 1) c8)).setCell ⟨gd, 1, none⟩ (.int .i64 (nx + 1)) := ⟨_, rfl⟩
              rw [← hw9] at hR9 hT9 hD9 hX9 ⊢
              clear hw9 d0 d1 d4 df1 df4 e1
              refine wp_region_in (fun W => Blk W gd 26 [.int .i64 dp, .int .i64 (nx + 1), .slice a1 nB k1, .slice a3 nC k3, .slice a8 (nQ + 1) c8] ∧ Blk W g 39 [.int .i64 nx, .int .i64 k, .int .i64 b, .slice a5 n c5]) [(true, 3), (false, 1), (true, 2)] [0, 1, 2, 3, 4, 5] 99 (by kernel_rfl) (by kernel_rfl) ⟨hD9.later (Below.refl _ _).drew, hX9.later (Below.refl _ _).drew⟩ ?_
              intro W hW hWe
              have hTW : Two w [.int .i64 dp, .int .i64 nx, .slice aB nB cB, .slice aC nC cC, .slice aQ nQ cQ] zD W := by rw [hWe]; exact hT9.below (Below.refl _ _).drew
              have hRW : Rows3 W w4.heap.size (.slice a1 nB k1) (.slice a3 nC k3) (.slice a8 (nQ + 1) c8) bl ca (qu ++ [(nx, k, b, s)]) := by rw [hWe]; exact hR9.below (Below.refl _ _).drew
              clear hWe hT9 hR9 hD9 hX9
              simp only [wpSegsL, inOrder, List.filterMap_cons, List.filterMap_nil, List.getElem?_cons_zero, List.getElem?_cons_succ, List.take_succ_cons, List.take_zero, List.drop_succ_cons, List.drop_zero]
              have q0 := fun z => (hold_ok (S0 := fun W => Blk W gd 26 [.int .i64 dp, .int .i64 (nx + 1), .slice a1 nB k1, .slice a3 nC k3, .slice a8 (nQ + 1) c8] ∧ Blk W g 39 [.int .i64 nx, .int .i64 k, .int .i64 b, .slice a5 n c5]) hW z).1.cell 0
              have q1 := fun z => (hold_ok (S0 := fun W => Blk W gd 26 [.int .i64 dp, .int .i64 (nx + 1), .slice a1 nB k1, .slice a3 nC k3, .slice a8 (nQ + 1) c8] ∧ Blk W g 39 [.int .i64 nx, .int .i64 k, .int .i64 b, .slice a5 n c5]) hW z).1.cell 1
              have q2 := fun z => (hold_ok (S0 := fun W => Blk W gd 26 [.int .i64 dp, .int .i64 (nx + 1), .slice a1 nB k1, .slice a3 nC k3, .slice a8 (nQ + 1) c8] ∧ Blk W g 39 [.int .i64 nx, .int .i64 k, .int .i64 b, .slice a5 n c5]) hW z).1.cell 2
              have q3 := fun z => (hold_ok (S0 := fun W => Blk W gd 26 [.int .i64 dp, .int .i64 (nx + 1), .slice a1 nB k1, .slice a3 nC k3, .slice a8 (nQ + 1) c8] ∧ Blk W g 39 [.int .i64 nx, .int .i64 k, .int .i64 b, .slice a5 n c5]) hW z).1.cell 3
              have q4 := fun z => (hold_ok (S0 := fun W => Blk W gd 26 [.int .i64 dp, .int .i64 (nx + 1), .slice a1 nB k1, .slice a3 nC k3, .slice a8 (nQ + 1) c8] ∧ Blk W g 39 [.int .i64 nx, .int .i64 k, .int .i64 b, .slice a5 n c5]) hW z).1.cell 4
              have q5 := fun z => (hold_ok (S0 := fun W => Blk W gd 26 [.int .i64 dp, .int .i64 (nx + 1), .slice a1 nB k1, .slice a3 nC k3, .slice a8 (nQ + 1) c8] ∧ Blk W g 39 [.int .i64 nx, .int .i64 k, .int .i64 b, .slice a5 n c5]) hW z).2.cell 0
              simp only [List.getElem?_cons_zero, List.getElem?_cons_succ] at q0 q1 q2 q3 q4 q5
              show wpQuiet _ _ _ _ (_ :: _ :: [_]) _
              repeat (go_big_quiet_step (fail))
              refine wpQuiet_nil ?_
              clear q0 q1 q2 q3 q4 q5
              have y0 := hTW.r.cell 0
              have y1 := hTW.r.cell 1
              have y2 := hTW.r.cell 2
              have y3 := hTW.r.cell 3
              have y4 := hTW.r.cell 4
              have f0 := hTW.r.frozen 0
              have f1 := hTW.r.frozen 1
              have f2 := hTW.r.frozen 2
              have f3 := hTW.r.frozen 3
              have f4 := hTW.r.frozen 4
              simp only [zD, List.getElem?_cons_zero, List.getElem?_cons_succ] at y0 y1 y2 y3 y4
              go_wp2
              refine ⟨hold_of (S0 := fun W => Blk W gd 26 [.int .i64 dp, .int .i64 (nx + 1), .slice a1 nB k1, .slice a3 nC k3, .slice a8 (nQ + 1) c8] ∧ Blk W g 39 [.int .i64 nx, .int .i64 k, .int .i64 b, .slice a5 n c5]) ⟨far5B hW.1 (by omega) _ _ _ _ _, far5B hW.2 (by omega) _ _ _ _ _⟩, ?_⟩
              show wpQuiet _ _ _ _ (_ :: [_]) _
              repeat (go_big_quiet_step (fail))
              refine wpQuiet_nil ?_
              refine NoPanic.normal ?_
              go_wp2
              refine bodyPost_ret (results_cell_two rfl _ _ (w.heap.size + 1) _ _ _ _ _ _ _ rfl (set5 hTW.r _ _ _ _ _) rfl rfl) rfl ⟨_, rfl, own5 (d := ⟨dp, nx + 1, bl, ca, qu ++ [(nx, k, b, s)]⟩) hTW.r (hRW.weaken (by omega)).b (hRW.weaken (by omega)).c (hRW.weaken (by omega)).q _ _ _ _ _, below5 hTW.b (by omega) _ _ _ _ _⟩
      · have t1 : (E != 0) = true := by simpa using h1
        obtain rfl := HP.out.symm.trans (subD_rq HR.out HE.out h1)
        have y0 := hT4.r.cell 0
        have y1 := hT4.r.cell 1
        have y2 := hT4.r.cell 2
        have y3 := hT4.r.cell 3
        have y4 := hT4.r.cell 4
        have f0 := hT4.r.frozen 0
        have f1 := hT4.r.frozen 1
        have f2 := hT4.r.frozen 2
        have f3 := hT4.r.frozen 3
        have f4 := hT4.r.frozen 4
        simp only [zD, List.getElem?_cons_zero, List.getElem?_cons_succ] at y0 y1 y2 y3 y4
        go_wp2
        refine bodyPost_ret (results_cell_two rfl _ _ (w.heap.size + 1) _ _ _ _ _ _ _ rfl (set5 hT4.r _ _ _ _ _) rfl rfl) rfl ⟨_, rfl, OwnD.zero _ _, below5 hT4.b (by omega) _ _ _ _ _⟩
    · have t0 : (R == 0) = false := by simpa using h0
      have t1 : (R != 0) = true := by simpa using h0
      obtain rfl := HP.out.symm.trans (subD_chk HR.out h0)
      have y0 := hT3.r.cell 0
      have y1 := hT3.r.cell 1
      have y2 := hT3.r.cell 2
      have y3 := hT3.r.cell 3
      have y4 := hT3.r.cell 4
      have f0 := hT3.r.frozen 0
      have f1 := hT3.r.frozen 1
      have f2 := hT3.r.frozen 2
      have f3 := hT3.r.frozen 3
      have f4 := hT3.r.frozen 4
      simp only [zD, List.getElem?_cons_zero, List.getElem?_cons_succ] at y0 y1 y2 y3 y4
      go_wp2
      refine bodyPost_ret (results_cell_two rfl _ _ (w.heap.size + 1) _ _ _ _ _ _ _ rfl (set5 hT3.r _ _ _ _ _) rfl rfl) rfl ⟨_, rfl, OwnD.zero _ _, below5 hT3.b (by omega) _ _ _ _ _⟩
end Go.Proofs.Ytlhbjmoncdljoaa
