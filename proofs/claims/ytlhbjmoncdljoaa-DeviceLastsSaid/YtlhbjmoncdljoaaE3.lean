/- The walk of a game. -/
import Derived.Test.YtlhbjmoncdljoaaE2
import Derived.Test.YtlhbjmoncdljoaaP5
import Derived.Test.YtlhbjmoncdljoaaDFrame
import Derived.Test.YtlhbjmoncdljoaaSeg5
import Derived.Deep.CutRange
namespace Go.Proofs.Ytlhbjmoncdljoaa
open Go.RowKit Go.Over Go.Dev Go.Seg Go.Grow
theorem ActsAt.below {w w' : World} {a : Option Addr} {l : List (Int × Int × Int × Int)} (h : ActsAt w a l) (hb : Below w.heap.size w w') : ActsAt w' a l := fun h0 => by
  obtain ⟨b, off, ha, hc⟩ := h h0
  refine ⟨b, off, ha, fun i p hp => ?_⟩
  obtain ⟨h1, h2, h3, h4, h5⟩ := hc i p hp
  exact ⟨cell_later hb h1, cell_later hb h2, cell_later hb h3, cell_later hb h4, h5⟩
theorem pd_few {d : D} {k : Nat} (h : PD d k) : Few d := by have := h.nb; have := h.q4; have := ok_ca h.ok; exact ⟨by omega, by omega, by omega⟩
/-- A game under way. -/
structure GS (w : World) (g : Nat) (VB VC VQ : Value) (d : D) (k : Nat) (W : World) : Prop where
  s : DS w g VB VC VQ d W
  r : Blk W w.heap.size 26 zD
  l : w.heap.size < g
  p : PD d k
theorem GS.below {w W W' : World} {g k : Nat} {VB VC VQ : Value} {d : D} (h : GS w g VB VC VQ d k W) (hb : Below W.heap.size W W') : GS w g VB VC VQ d k W' := ⟨h.s.below hb, h.r.later hb, h.l, h.p⟩
theorem GS.mono {w W : World} {g k k' : Nat} {VB VC VQ : Value} {d : D} (h : GS w g VB VC VQ d k W) (hk : k ≤ k') : GS w g VB VC VQ d k' W := ⟨h.s, h.r, h.l, h.p.mono hk⟩
theorem GS.store {w W : World} {g k k' : Nat} {VB VC VQ VB' VC' VQ' : Value} {d d' : D} {B : Nat} (h : GS w g VB VC VQ d k W) (r : Rows3 W B VB' VC' VQ' d'.bl d'.ca d'.qu) (hB : w.heap.size ≤ B) (hp : PD d' k') :
    GS w g VB' VC' VQ' d' k' (((((W.setCell ⟨g, 0, none⟩ (.int .i64 d'.dp)).setCell ⟨g, 1, none⟩ (.int .i64 d'.nx)).setCell ⟨g, 2, none⟩ VB').setCell ⟨g, 3, none⟩ VC').setCell ⟨g, 4, none⟩ VQ') :=
  ⟨h.s.store r hB, far5B h.r (by have := h.l; omega) _ _ _ _ _, h.l, hp⟩
theorem DS.put {w W : World} {g B : Nat} {VB VC VQ y1 y2 y3 y4 y5 : Value} {d : D} (hb : Below w.heap.size w W) (hl : w.heap.size ≤ g) (hx : Blk W g 26 [y1, y2, y3, y4, y5]) (r : Rows3 W B VB VC VQ d.bl d.ca d.qu) (hB : w.heap.size ≤ B) :
    DS w g VB VC VQ d (((((W.setCell ⟨g, 0, none⟩ (.int .i64 d.dp)).setCell ⟨g, 1, none⟩ (.int .i64 d.nx)).setCell ⟨g, 2, none⟩ VB).setCell ⟨g, 3, none⟩ VC).setCell ⟨g, 4, none⟩ VQ) :=
  ⟨below5 hb hl _ _ _ _ _, hl, set5 hx _ _ _ _ _, (r.weaken hB).dev5 hx _ _ _ _ _⟩
theorem GS.far5 {w W : World} {g g' k : Nat} {VB VC VQ y1 y2 y3 y4 y5 : Value} {d : D} (h : GS w g VB VC VQ d k W) (hx : Blk W g' 26 [y1, y2, y3, y4, y5]) (hne : g ≠ g') (hl : w.heap.size < g') (x1 x2 x3 x4 x5 : Value) :
    GS w g VB VC VQ d k (((((W.setCell ⟨g', 0, none⟩ x1).setCell ⟨g', 1, none⟩ x2).setCell ⟨g', 2, none⟩ x3).setCell ⟨g', 3, none⟩ x4).setCell ⟨g', 4, none⟩ x5) :=
  ⟨⟨below5 h.s.b (Nat.le_of_lt hl) _ _ _ _ _, h.s.l, far5B h.s.x hne _ _ _ _ _, h.s.r.dev5 hx _ _ _ _ _⟩, far5B h.r (by omega) _ _ _ _ _, h.l, h.p⟩
set_option maxRecDepth 100000 in set_option maxHeartbeats 3200000 in
theorem play_32 (a : Option Addr) (l : List (Int × Int × Int × Int)) (n c : Nat) (w : World) (H : ActsAt w a l) (hn : l.length = n) (hn40 : n ≤ 40) :
    Calls Try.prog 32 #[.slice a n c] w fun e w' => ∃ v d, e = .returned (.tuple #[v, .bool true]) ∧ OwnD w' w.heap.size v d ∧ PD d n ∧ Below w.heap.size w w' := by
  have HN := Lib.hid hn
  clear hn
  have hR0 := Blk.new w 26 #[.int .i64 0, .int .i64 0, .slice none 0 0, .slice none 0 0, .slice none 0 0] zD rfl
  have b0 := below_box w (.cells #[.int .i64 0, .int .i64 0, .slice none 0 0, .slice none 0 0, .slice none 0 0] 26)
  go_enter Try.func32, Try.ntmps32
  go_wp2_with fail
  refine (blocks_35 4 (by omega) _).mono ?_
  rintro e w1 ⟨V, rfl, hR, b1⟩
  obtain ⟨aV, cV, rfl, _, _, _, hbl⟩ := hR.bls (n := 4) (by simp)
  have hR1 := hR0.later b1
  have B1 := below_then b0 b1
  clear hR hR0 b0 b1
  go_wp2_with fail
  refine (new_22 4 aV (List.replicate 4 (pg 0)) 4 cV w1 hbl (by simp) (by omega)).mono ?_
  rintro e w2 ⟨v, rfl, hO, b2⟩
  rw [pd0] at hO ⊢
  obtain ⟨d, hd⟩ : ∃ d : D, (⟨4, 0, List.replicate 4 (pg 0), [], []⟩ : D) = d := ⟨_, rfl⟩
  have hP := pd0_pd
  rw [hd] at hO hP ⊢
  clear hd
  obtain ⟨VB, VC, VQ, y1, m1, y3, m3, y4, m4, rfl, rfl, rfl, rfl, r1, r2, r3⟩ := hO.cells
  dsimp only at r1 r2 r3 ⊢
  have G3 : GS w w2.heap.size (.slice y1 d.bl.length m1) (.slice y3 d.ca.length m3) (.slice y4 d.qu.length m4) d 0 (w2.alloc (.cells #[.int .i64 d.dp, .int .i64 d.nx, .slice y1 d.bl.length m1, .slice y3 d.ca.length m3, .slice y4 d.qu.length m4] 26)) :=
    ⟨DS.new ⟨r1, r2, r3⟩ B1.size (below_then B1 b2), (hR1.later b2).later (below_box _ _), (hR1.later b2).lt, hP⟩
  obtain ⟨gd, hgd⟩ : ∃ g, w2.heap.size = g := ⟨_, rfl⟩
  clear hbl r1 r2 r3 hO b2 B1 hR1 hP
  go_upto_region 4 with fail
  obtain ⟨w3, hw3⟩ : ∃ W, W = w2.alloc (.cells #[.int .i64 d.dp, .int .i64 d.nx, .slice y1 d.bl.length m1, .slice y3 d.ca.length m3, .slice y4 d.qu.length m4] 26) := ⟨_, rfl⟩
  rw [← hw3] at G3 ⊢
  rw [hgd] at G3
  clear hw3 hgd
  go_wp2
  go_loopg [30] n (fun gg v30 wr => ∃ (i : Nat) (y1 y3 y4 : Option Addr) (m1 m3 m4 : Nat) (d : D), i + gg = n ∧ v30 = .int .i64 i ∧ GS w gd (.slice y1 d.bl.length m1) (.slice y3 d.ca.length m3) (.slice y4 d.qu.length m4) d i wr)
  case atStart => exact ⟨0, y1, y3, y4, m1, m3, m4, d, by omega, rfl, G3⟩
  case round =>
    clear G3
    obtain ⟨i, y1, y3, y4, m1, m3, m4, d, hg, rfl, G1⟩ := hrel
    cases gk with
    | zero =>
      obtain rfl : n = i := by omega
      have d0 := G1.s.x.cell 0
      have d1 := G1.s.x.cell 1
      have d2 := G1.s.x.cell 2
      have d3 := G1.s.x.cell 3
      have d4 := G1.s.x.cell 4
      simp only [List.getElem?_cons_zero, List.getElem?_cons_succ] at d0 d1 d2 d3 d4
      have e0 := G1.r.cell 0
      have e1 := G1.r.cell 1
      have e2 := G1.r.cell 2
      have e3 := G1.r.cell 3
      have e4 := G1.r.cell 4
      have f0 := G1.r.frozen 0
      have f1 := G1.r.frozen 1
      have f2 := G1.r.frozen 2
      have f3 := G1.r.frozen 3
      have f4 := G1.r.frozen 4
      simp only [zD, List.getElem?_cons_zero, List.getElem?_cons_succ] at e0 e1 e2 e3 e4
      clear hg
      go_wp2
      refine bodyPost_ret (results_cell_one rfl _ _ w.heap.size _ _ _ _ _ _ rfl (set5 G1.r _ _ _ _ _) rfl) rfl ⟨_, d, rfl, (G1.s.r.dev5 G1.r _ _ _ _ _).own _ _, G1.p, below5 G1.s.b (Nat.le_refl _) _ _ _ _ _⟩
    | succ gg =>
      have hin : i < n := by omega
      obtain ⟨⟨wv, bv, vv, pv⟩, hs⟩ := get_some HN.out hin
      obtain ⟨b, off, rfl, hc⟩ := (H.below G1.s.b) (by rw [HN.out]; omega)
      obtain ⟨s0, s1, s2, s3, ⟨hb0, hb1⟩, _, ⟨hp0, hp1⟩⟩ := hc i _ hs
      simp only at s0 s1 s2 s3 hb0 hb1 hp0 hp1
      have hbx := below_box wr (.cells #[.int .i64 wv, .int .u8 bv, .int .u8 vv, .int .u8 pv] 57)
      have G2 := G1.below hbx
      have X2 := Blk.new wr 57 #[.int .i64 wv, .int .u8 bv, .int .u8 vv, .int .u8 pv] [.int .i64 wv, .int .u8 bv, .int .u8 vv, .int .u8 pv] rfl
      have HG := Lib.hid hg
      clear hc hs hbx hg
      go_upto_region 7 with fail
      obtain ⟨w4, hw4⟩ : ∃ W, W = wr.alloc (.cells #[.int .i64 wv, .int .u8 bv, .int .u8 vv, .int .u8 pv] 57) := ⟨_, rfl⟩
      rw [← hw4] at G2 X2 ⊢
      obtain ⟨gx, hgx⟩ : ∃ g, wr.heap.size = g := ⟨_, rfl⟩
      rw [hgx] at X2 ⊢
      clear hw4 hgx G1 s0 s1 s2 s3
      have d0 := G2.s.x.cell 0
      have d1 := G2.s.x.cell 1
      have d2 := G2.s.x.cell 2
      have d3 := G2.s.x.cell 3
      have d4 := G2.s.x.cell 4
      simp only [List.getElem?_cons_zero, List.getElem?_cons_succ] at d0 d1 d2 d3 d4
      have z0 := X2.cell 0
      simp only [List.getElem?_cons_zero] at z0
      obtain ⟨bn, hbn, hbm⟩ := u8_mod hb0
      obtain ⟨pn, hpn, hpm⟩ := u8_mod hp0
      by_cases hw0 : wv = 0
      · subst hw0
        have hPP : ∃ E id r, subD d 2 bn (pg vv) = (E, id, r) ∧ ((d.qu.length < 4 ∧ r = 0 ∧ PD E (i + 1)) ∨ (4 ≤ d.qu.length ∧ r = 8)) := by
          have hrq : rqE 4 2 bn (pg vv).length = 0 := rqE_write (by omega) (by omega) pg_len
          rcases Nat.lt_or_ge d.qu.length 4 with hq | hq
          · have h := pd_sub G2.p (by omega) hq hrq
            exact ⟨_, _, _, h.1, .inl ⟨hq, rfl, h.2⟩⟩
          · exact ⟨_, _, _, pd_full G2.p (by omega) hq hrq, .inr ⟨hq, rfl⟩⟩
        obtain ⟨E, id, r, hP, hcase⟩ := hPP
        go_wp2_with fail
        clear z0 d0 d1 d2 d3 d4
        go_cut [9, 10, 11] from 67 to 134 (fun p9 v10 v11 wr => ∃ (gz : Nat) (z1 z3 z4 : Option Addr) (k1 k3 k4 : Nat), p9 = .pointer (some ⟨gz, 0, none⟩) ∧ v10 = .int .i64 id ∧ v11 = .int .i64 r ∧ w.heap.size < gz ∧ DS w gz (.slice z1 E.bl.length k1) (.slice z3 E.ca.length k3) (.slice z4 E.qu.length k4) E wr ∧ GS w gd (.slice y1 d.bl.length m1) (.slice y3 d.ca.length m3) (.slice y4 d.qu.length m4) d i wr)
        case first =>
          refine wp_region_plan (fun W => Blk W gd 26 [.int .i64 d.dp, .int .i64 d.nx, .slice y1 d.bl.length m1, .slice y3 d.ca.length m3, .slice y4 d.qu.length m4] ∧ Blk W gx 57 [.int .i64 0, .int .u8 bv, .int .u8 vv, .int .u8 pv]) (.quiet [0, 1, 2, 3, 4, 5, 6] (.fork 7 (.fork 8 (.quiet [9, 10, 11, 12] (.only 13 (.only 14 (.quiet [15, 16] .done)))) 13 (.only 8 (.quiet [9, 10, 11, 12] (.only 14 (.quiet [15, 16] .done))))) 13 (.only 7 (.only 8 (.quiet [9, 10, 11, 12] (.only 14 (.quiet [15, 16] .done))))))) 99 (by kernel_rfl) (by kernel_rfl) ⟨G2.s.x.later (Below.refl _ _).drew, X2.later (Below.refl _ _).drew⟩ ?_
          intro W hW hWe
          have G3 : GS w gd (.slice y1 d.bl.length m1) (.slice y3 d.ca.length m3) (.slice y4 d.qu.length m4) d i W := by rw [hWe]; exact G2.below (Below.refl _ _).drew
          clear hWe G2 X2
          simp only [wpPlan, inOrder, List.filterMap_cons, List.filterMap_nil, List.getElem?_cons_zero, List.getElem?_cons_succ]
          have q0 := fun z => (hold_ok (S0 := fun W => Blk W gd 26 [.int .i64 d.dp, .int .i64 d.nx, .slice y1 d.bl.length m1, .slice y3 d.ca.length m3, .slice y4 d.qu.length m4] ∧ Blk W gx 57 [.int .i64 0, .int .u8 bv, .int .u8 vv, .int .u8 pv]) hW z).1.cell 0
          have q1 := fun z => (hold_ok (S0 := fun W => Blk W gd 26 [.int .i64 d.dp, .int .i64 d.nx, .slice y1 d.bl.length m1, .slice y3 d.ca.length m3, .slice y4 d.qu.length m4] ∧ Blk W gx 57 [.int .i64 0, .int .u8 bv, .int .u8 vv, .int .u8 pv]) hW z).1.cell 1
          have q2 := fun z => (hold_ok (S0 := fun W => Blk W gd 26 [.int .i64 d.dp, .int .i64 d.nx, .slice y1 d.bl.length m1, .slice y3 d.ca.length m3, .slice y4 d.qu.length m4] ∧ Blk W gx 57 [.int .i64 0, .int .u8 bv, .int .u8 vv, .int .u8 pv]) hW z).1.cell 2
          have q3 := fun z => (hold_ok (S0 := fun W => Blk W gd 26 [.int .i64 d.dp, .int .i64 d.nx, .slice y1 d.bl.length m1, .slice y3 d.ca.length m3, .slice y4 d.qu.length m4] ∧ Blk W gx 57 [.int .i64 0, .int .u8 bv, .int .u8 vv, .int .u8 pv]) hW z).1.cell 3
          have q4 := fun z => (hold_ok (S0 := fun W => Blk W gd 26 [.int .i64 d.dp, .int .i64 d.nx, .slice y1 d.bl.length m1, .slice y3 d.ca.length m3, .slice y4 d.qu.length m4] ∧ Blk W gx 57 [.int .i64 0, .int .u8 bv, .int .u8 vv, .int .u8 pv]) hW z).1.cell 4
          have q5 := fun z => (hold_ok (S0 := fun W => Blk W gd 26 [.int .i64 d.dp, .int .i64 d.nx, .slice y1 d.bl.length m1, .slice y3 d.ca.length m3, .slice y4 d.qu.length m4] ∧ Blk W gx 57 [.int .i64 0, .int .u8 bv, .int .u8 vv, .int .u8 pv]) hW z).2.cell 1
          have q6 := fun z => (hold_ok (S0 := fun W => Blk W gd 26 [.int .i64 d.dp, .int .i64 d.nx, .slice y1 d.bl.length m1, .slice y3 d.ca.length m3, .slice y4 d.qu.length m4] ∧ Blk W gx 57 [.int .i64 0, .int .u8 bv, .int .u8 vv, .int .u8 pv]) hW z).2.cell 2
          simp only [List.getElem?_cons_zero, List.getElem?_cons_succ] at q0 q1 q2 q3 q4 q5 q6
          show wpQuiet _ _ _ _ (_ :: _ :: _ :: _ :: _ :: _ :: [_]) _
          repeat (go_big_quiet_step (fail))
          refine wpQuiet_nil ?_
          clear q0 q1 q2 q3 q4 q5 q6
          have hgw : gd < W.heap.size := G3.s.x.lt
          have hxw : gx < W.heap.size := hW.2.lt
          have hwl := G3.l
          refine ⟨?_, ?_⟩
          · skip
            show wpList _ _ _ [_] _ _
            go_wp2_with fail
            refine (page_34 vv _).mono ?_
            rintro e w5 ⟨v, rfl, hv5, b5⟩
            obtain ⟨p5, q5, rfl, _, _, _, _⟩ := hv5.form (n := 32) pg_len
            go_wp2
            have G5 := G3.below b5
            have X5 := hW.2.later b5
            refine ⟨hold_of (S0 := fun W => Blk W gd 26 [.int .i64 d.dp, .int .i64 d.nx, .slice y1 d.bl.length m1, .slice y3 d.ca.length m3, .slice y4 d.qu.length m4] ∧ Blk W gx 57 [.int .i64 0, .int .u8 bv, .int .u8 vv, .int .u8 pv]) ⟨G5.s.x, X5⟩, ?_⟩
            refine ⟨?_, ?_⟩
            · skip
              show wpList _ _ _ [_] _ _
              go_wp2_with fail
              refine (submit_d G5.s.rdv (pd_few G5.p) 2 bn hv5.rbv (by rw [pg_len]; omega)).mono ?_
              rintro e w7 ⟨v, rfl, hO, b7⟩
              rw [hP] at hO ⊢
              obtain ⟨VB, VC, VQ, z1, k1, z3, k3, z4, k4, rfl, rfl, rfl, rfl, r1, r2, r3⟩ := hO.cells
              dsimp only at r1 r2 r3 ⊢
              have G7 := G5.below b7
              have X7 := X5.later b7
              go_wp2
              refine ⟨hold_of (S0 := fun W => Blk W gd 26 [.int .i64 d.dp, .int .i64 d.nx, .slice y1 d.bl.length m1, .slice y3 d.ca.length m3, .slice y4 d.qu.length m4] ∧ Blk W gx 57 [.int .i64 0, .int .u8 bv, .int .u8 vv, .int .u8 pv]) ⟨G7.s.x, X7⟩, ?_⟩
              show wpQuiet _ _ _ _ (_ :: _ :: _ :: [_]) _
              repeat (go_big_quiet_step (fail))
              refine wpQuiet_nil ?_
              have hbz := below_box w7 (.cells #[.int .i64 E.dp, .int .i64 E.nx, .slice z1 E.bl.length k1, .slice z3 E.ca.length k3, .slice z4 E.qu.length k4] 26)
              have hz : DS w w7.heap.size (.slice z1 E.bl.length k1) (.slice z3 E.ca.length k3) (.slice z4 E.qu.length k4) E _ := DS.new ⟨r1, r2, r3⟩ G5.s.b.size G7.s.b
              have hG := G7.below hbz
              have hX := X7.later hbz
              have hG0 := G7.below (below_box w7 (.cells #[.int .i64 0, .int .i64 0, .slice none 0 0, .slice none 0 0, .slice none 0 0] 26))
              have hX0 := X7.later (below_box w7 (.cells #[.int .i64 0, .int .i64 0, .slice none 0 0, .slice none 0 0, .slice none 0 0] 26))
              have hzl : w.heap.size < w7.heap.size := by have := G7.s.x.lt; omega
              show wpList _ _ _ [_] _ _
              go_wp2
              refine ⟨hold_of (S0 := fun W => Blk W gd 26 [.int .i64 d.dp, .int .i64 d.nx, .slice y1 d.bl.length m1, .slice y3 d.ca.length m3, .slice y4 d.qu.length m4] ∧ Blk W gx 57 [.int .i64 0, .int .u8 bv, .int .u8 vv, .int .u8 pv]) ⟨hG0.s.x, hX0⟩, ?_⟩
              show wpList _ _ _ [_] _ _
              go_wp2
              refine ⟨hold_of (S0 := fun W => Blk W gd 26 [.int .i64 d.dp, .int .i64 d.nx, .slice y1 d.bl.length m1, .slice y3 d.ca.length m3, .slice y4 d.qu.length m4] ∧ Blk W gx 57 [.int .i64 0, .int .u8 bv, .int .u8 vv, .int .u8 pv]) ⟨hG.s.x, hX⟩, ?_⟩
              show wpQuiet _ _ _ _ (_ :: [_]) _
              repeat (go_big_quiet_step (fail))
              refine wpQuiet_nil ?_
              refine NoPanic.normal ?_
              go_wp2
              go_meet
              case rel => exact ⟨_, z1, z3, z4, k1, k3, k4, rfl, rfl, rfl, hzl, hz, hG⟩
            · show wpList _ _ _ [_] _ _
              have Z6 := Blk.new w5 26 #[.int .i64 0, .int .i64 0, .slice none 0 0, .slice none 0 0, .slice none 0 0] [.int .i64 0, .int .i64 0, .slice none 0 0, .slice none 0 0, .slice none 0 0] rfl
              have G6 := G5.below (below_box w5 (.cells #[.int .i64 0, .int .i64 0, .slice none 0 0, .slice none 0 0, .slice none 0 0] 26))
              have X6 := X5.later (below_box w5 (.cells #[.int .i64 0, .int .i64 0, .slice none 0 0, .slice none 0 0, .slice none 0 0] 26))
              have hv6 := hv5.k5 (K5.below (below_box w5 (.cells #[.int .i64 0, .int .i64 0, .slice none 0 0, .slice none 0 0, .slice none 0 0] 26)))
              have hw5 := b5.size
              have hzl : w.heap.size < w5.heap.size := by omega
              have hne : gd ≠ w5.heap.size := by omega
              have hxz : gx < w5.heap.size := by omega
              go_wp2
              refine ⟨hold_of (S0 := fun W => Blk W gd 26 [.int .i64 d.dp, .int .i64 d.nx, .slice y1 d.bl.length m1, .slice y3 d.ca.length m3, .slice y4 d.qu.length m4] ∧ Blk W gx 57 [.int .i64 0, .int .u8 bv, .int .u8 vv, .int .u8 pv]) ⟨G6.s.x, X6⟩, ?_⟩
              show wpList _ _ _ [_] _ _
              go_wp2_with fail
              refine (submit_d G6.s.rdv (pd_few G6.p) 2 bn hv6.rbv (by rw [pg_len]; omega)).mono ?_
              rintro e w7 ⟨v, rfl, hO, b7⟩
              rw [hP] at hO ⊢
              obtain ⟨VB, VC, VQ, z1, k1, z3, k3, z4, k4, rfl, rfl, rfl, rfl, r1, r2, r3⟩ := hO.cells
              dsimp only at r1 r2 r3 ⊢
              have G7 := G6.below b7
              have X7 := X6.later b7
              go_wp2
              refine ⟨hold_of (S0 := fun W => Blk W gd 26 [.int .i64 d.dp, .int .i64 d.nx, .slice y1 d.bl.length m1, .slice y3 d.ca.length m3, .slice y4 d.qu.length m4] ∧ Blk W gx 57 [.int .i64 0, .int .u8 bv, .int .u8 vv, .int .u8 pv]) ⟨G7.s.x, X7⟩, ?_⟩
              show wpQuiet _ _ _ _ (_ :: _ :: _ :: [_]) _
              repeat (go_big_quiet_step (fail))
              refine wpQuiet_nil ?_
              have Z7 := Z6.later b7
              have hz := DS.put G7.s.b (Nat.le_of_lt hzl) Z7 ⟨r1, r2, r3⟩ G6.s.b.size
              have hG := G7.far5 Z7 hne hzl (.int .i64 E.dp) (.int .i64 E.nx) (.slice z1 E.bl.length k1) (.slice z3 E.ca.length k3) (.slice z4 E.qu.length k4)
              have hX := far5B X7 (Nat.ne_of_lt hxz) (.int .i64 E.dp) (.int .i64 E.nx) (.slice z1 E.bl.length k1) (.slice z3 E.ca.length k3) (.slice z4 E.qu.length k4)
              have c0 := Z7.cell 0
              have c1 := Z7.cell 1
              have c2 := Z7.cell 2
              have c3 := Z7.cell 3
              have c4 := Z7.cell 4
              have f0 := Z7.frozen 0
              have f1 := Z7.frozen 1
              have f2 := Z7.frozen 2
              have f3 := Z7.frozen 3
              have f4 := Z7.frozen 4
              simp only [List.getElem?_cons_zero, List.getElem?_cons_succ] at c0 c1 c2 c3 c4
              show wpList _ _ _ [_] _ _
              go_wp2
              refine ⟨hold_of (S0 := fun W => Blk W gd 26 [.int .i64 d.dp, .int .i64 d.nx, .slice y1 d.bl.length m1, .slice y3 d.ca.length m3, .slice y4 d.qu.length m4] ∧ Blk W gx 57 [.int .i64 0, .int .u8 bv, .int .u8 vv, .int .u8 pv]) ⟨hG.s.x, hX⟩, ?_⟩
              show wpQuiet _ _ _ _ (_ :: [_]) _
              repeat (go_big_quiet_step (fail))
              refine wpQuiet_nil ?_
              refine NoPanic.normal ?_
              go_wp2
              go_meet
              case rel => exact ⟨_, z1, z3, z4, k1, k3, k4, rfl, rfl, rfl, hzl, hz, hG⟩
          · show wpList _ _ _ [_] _ _
            have Z4 := Blk.new W 26 #[.int .i64 0, .int .i64 0, .slice none 0 0, .slice none 0 0, .slice none 0 0] [.int .i64 0, .int .i64 0, .slice none 0 0, .slice none 0 0, .slice none 0 0] rfl
            have G4 := G3.below (below_box W (.cells #[.int .i64 0, .int .i64 0, .slice none 0 0, .slice none 0 0, .slice none 0 0] 26))
            have X4 := hW.2.later (below_box W (.cells #[.int .i64 0, .int .i64 0, .slice none 0 0, .slice none 0 0, .slice none 0 0] 26))
            have hzl : w.heap.size < W.heap.size := by omega
            have hne : gd ≠ W.heap.size := by omega
            have hxz : gx < W.heap.size := by omega
            go_wp2
            refine ⟨hold_of (S0 := fun W => Blk W gd 26 [.int .i64 d.dp, .int .i64 d.nx, .slice y1 d.bl.length m1, .slice y3 d.ca.length m3, .slice y4 d.qu.length m4] ∧ Blk W gx 57 [.int .i64 0, .int .u8 bv, .int .u8 vv, .int .u8 pv]) ⟨G4.s.x, X4⟩, ?_⟩
            show wpList _ _ _ [_] _ _
            go_wp2_with fail
            refine (page_34 vv _).mono ?_
            rintro e w5 ⟨v, rfl, hv5, b5⟩
            obtain ⟨p5, q5, rfl, _, _, _, _⟩ := hv5.form (n := 32) pg_len
            go_wp2
            have G5 := G4.below b5
            have X5 := X4.later b5
            have Z6 := Z4.later b5
            refine ⟨hold_of (S0 := fun W => Blk W gd 26 [.int .i64 d.dp, .int .i64 d.nx, .slice y1 d.bl.length m1, .slice y3 d.ca.length m3, .slice y4 d.qu.length m4] ∧ Blk W gx 57 [.int .i64 0, .int .u8 bv, .int .u8 vv, .int .u8 pv]) ⟨G5.s.x, X5⟩, ?_⟩
            show wpList _ _ _ [_] _ _
            go_wp2_with fail
            refine (submit_d G5.s.rdv (pd_few G5.p) 2 bn hv5.rbv (by rw [pg_len]; omega)).mono ?_
            rintro e w7 ⟨v, rfl, hO, b7⟩
            rw [hP] at hO ⊢
            obtain ⟨VB, VC, VQ, z1, k1, z3, k3, z4, k4, rfl, rfl, rfl, rfl, r1, r2, r3⟩ := hO.cells
            dsimp only at r1 r2 r3 ⊢
            have G7 := G5.below b7
            have X7 := X5.later b7
            go_wp2
            refine ⟨hold_of (S0 := fun W => Blk W gd 26 [.int .i64 d.dp, .int .i64 d.nx, .slice y1 d.bl.length m1, .slice y3 d.ca.length m3, .slice y4 d.qu.length m4] ∧ Blk W gx 57 [.int .i64 0, .int .u8 bv, .int .u8 vv, .int .u8 pv]) ⟨G7.s.x, X7⟩, ?_⟩
            show wpQuiet _ _ _ _ (_ :: _ :: _ :: [_]) _
            repeat (go_big_quiet_step (fail))
            refine wpQuiet_nil ?_
            have Z7 := Z6.later b7
            have hz := DS.put G7.s.b (Nat.le_of_lt hzl) Z7 ⟨r1, r2, r3⟩ G5.s.b.size
            have hG := G7.far5 Z7 hne hzl (.int .i64 E.dp) (.int .i64 E.nx) (.slice z1 E.bl.length k1) (.slice z3 E.ca.length k3) (.slice z4 E.qu.length k4)
            have hX := far5B X7 (Nat.ne_of_lt hxz) (.int .i64 E.dp) (.int .i64 E.nx) (.slice z1 E.bl.length k1) (.slice z3 E.ca.length k3) (.slice z4 E.qu.length k4)
            have c0 := Z7.cell 0
            have c1 := Z7.cell 1
            have c2 := Z7.cell 2
            have c3 := Z7.cell 3
            have c4 := Z7.cell 4
            have f0 := Z7.frozen 0
            have f1 := Z7.frozen 1
            have f2 := Z7.frozen 2
            have f3 := Z7.frozen 3
            have f4 := Z7.frozen 4
            simp only [List.getElem?_cons_zero, List.getElem?_cons_succ] at c0 c1 c2 c3 c4
            show wpList _ _ _ [_] _ _
            go_wp2
            refine ⟨hold_of (S0 := fun W => Blk W gd 26 [.int .i64 d.dp, .int .i64 d.nx, .slice y1 d.bl.length m1, .slice y3 d.ca.length m3, .slice y4 d.qu.length m4] ∧ Blk W gx 57 [.int .i64 0, .int .u8 bv, .int .u8 vv, .int .u8 pv]) ⟨hG.s.x, hX⟩, ?_⟩
            show wpQuiet _ _ _ _ (_ :: [_]) _
            repeat (go_big_quiet_step (fail))
            refine wpQuiet_nil ?_
            refine NoPanic.normal ?_
            go_wp2
            go_meet
            case rel => exact ⟨_, z1, z3, z4, k1, k3, k4, rfl, rfl, rfl, hzl, hz, hG⟩
        case rest =>
          clear G2 X2
          obtain ⟨gz, z1, z3, z4, k1, k3, k4, rfl, rfl, rfl, hzl, hz, hG⟩ := hcut
          rcases hcase with ⟨hq, rfl, hp⟩ | ⟨hq, rfl⟩
          · have ta : decide ((d.qu.length : Int) < 4) = true := by simp; omega
            have tb : decide ((4 : Int) ≤ (d.qu.length : Int)) = false := by simp; omega
            have d0 := hG.s.x.cell 0
            have d1 := hG.s.x.cell 1
            have d2 := hG.s.x.cell 2
            have d3 := hG.s.x.cell 3
            have d4 := hG.s.x.cell 4
            simp only [List.getElem?_cons_zero, List.getElem?_cons_succ] at d0 d1 d2 d3 d4
            have df0 := hG.s.x.frozen 0
            have df1 := hG.s.x.frozen 1
            have df2 := hG.s.x.frozen 2
            have df3 := hG.s.x.frozen 3
            have df4 := hG.s.x.frozen 4
            have c0 := hz.x.cell 0
            have c1 := hz.x.cell 1
            have c2 := hz.x.cell 2
            have c3 := hz.x.cell 3
            have c4 := hz.x.cell 4
            simp only [List.getElem?_cons_zero, List.getElem?_cons_succ] at c0 c1 c2 c3 c4
            go_wp2
            go_roundg gg
            case rel => exact ⟨i + 1, z1, z3, z4, k1, k3, k4, E, by have := HG.out; omega, by go_num, hG.store hz.r (Nat.le_refl _) hp⟩
            case measure => omega
          · have ta : decide ((d.qu.length : Int) < 4) = false := by simp; omega
            have tb : decide ((4 : Int) ≤ (d.qu.length : Int)) = true := by simp; omega
            have d0 := hG.s.x.cell 0
            have d1 := hG.s.x.cell 1
            have d2 := hG.s.x.cell 2
            have d3 := hG.s.x.cell 3
            have d4 := hG.s.x.cell 4
            simp only [List.getElem?_cons_zero, List.getElem?_cons_succ] at d0 d1 d2 d3 d4
            go_wp2
            go_roundg gg
            case rel => exact ⟨i + 1, y1, y3, y4, m1, m3, m4, d, by have := HG.out; omega, by go_num, hG.mono (by omega)⟩
            case measure => omega
      by_cases hw1 : wv = 1
      · subst hw1
        have hPP : ∃ E id r, subD d 3 0 [] = (E, id, r) ∧ ((d.qu.length < 4 ∧ r = 0 ∧ PD E (i + 1)) ∨ (4 ≤ d.qu.length ∧ r = 8)) := by
          have hrq : rqE 4 3 0 ([] : List Int).length = 0 := rqE_flush
          rcases Nat.lt_or_ge d.qu.length 4 with hq | hq
          · have h := pd_sub G2.p (by omega) hq hrq
            exact ⟨_, _, _, h.1, .inl ⟨hq, rfl, h.2⟩⟩
          · exact ⟨_, _, _, pd_full G2.p (by omega) hq hrq, .inr ⟨hq, rfl⟩⟩
        obtain ⟨E, id, r, hP, hcase⟩ := hPP
        go_wp2_with fail
        refine (submit_d G2.s.rdv (pd_few G2.p) 3 0 (SlV.nil _).rbv (by simp)).mono ?_
        rintro e w7 ⟨v, rfl, hO, b7⟩
        rw [hP] at hO ⊢
        obtain ⟨VB, VC, VQ, z1, k1, z3, k3, z4, k4, rfl, rfl, rfl, rfl, r1, r2, r3⟩ := hO.cells
        dsimp only at r1 r2 r3 ⊢
        have G7 := G2.below b7
        have hz : DS w w7.heap.size (.slice z1 E.bl.length k1) (.slice z3 E.ca.length k3) (.slice z4 E.qu.length k4) E _ := DS.new ⟨r1, r2, r3⟩ G2.s.b.size G7.s.b
        have hG := G7.below (below_box w7 (.cells #[.int .i64 E.dp, .int .i64 E.nx, .slice z1 E.bl.length k1, .slice z3 E.ca.length k3, .slice z4 E.qu.length k4] 26))
        clear G2 G7 d0 d1 d2 d3 d4 r1 r2 r3 hO b7
        go_upto_region 26 with fail
        obtain ⟨w8, hw8⟩ : ∃ W, W = w7.alloc (.cells #[.int .i64 E.dp, .int .i64 E.nx, .slice z1 E.bl.length k1, .slice z3 E.ca.length k3, .slice z4 E.qu.length k4] 26) := ⟨_, rfl⟩
        rw [← hw8] at hz hG ⊢
        clear hw8
        rcases hcase with ⟨hq, rfl, hp⟩ | ⟨hq, rfl⟩
        · have ta : decide ((d.qu.length : Int) < 4) = true := by simp; omega
          have tb : decide ((4 : Int) ≤ (d.qu.length : Int)) = false := by simp; omega
          have d0 := hG.s.x.cell 0
          have d1 := hG.s.x.cell 1
          have d2 := hG.s.x.cell 2
          have d3 := hG.s.x.cell 3
          have d4 := hG.s.x.cell 4
          simp only [List.getElem?_cons_zero, List.getElem?_cons_succ] at d0 d1 d2 d3 d4
          have df0 := hG.s.x.frozen 0
          have df1 := hG.s.x.frozen 1
          have df2 := hG.s.x.frozen 2
          have df3 := hG.s.x.frozen 3
          have df4 := hG.s.x.frozen 4
          have c0 := hz.x.cell 0
          have c1 := hz.x.cell 1
          have c2 := hz.x.cell 2
          have c3 := hz.x.cell 3
          have c4 := hz.x.cell 4
          simp only [List.getElem?_cons_zero, List.getElem?_cons_succ] at c0 c1 c2 c3 c4
          go_wp2
          go_roundg gg
          case rel => exact ⟨i + 1, z1, z3, z4, k1, k3, k4, E, by have := HG.out; omega, by go_num, hG.store hz.r (Nat.le_refl _) hp⟩
          case measure => omega
        · have ta : decide ((d.qu.length : Int) < 4) = false := by simp; omega
          have tb : decide ((4 : Int) ≤ (d.qu.length : Int)) = true := by simp; omega
          have d0 := hG.s.x.cell 0
          have d1 := hG.s.x.cell 1
          have d2 := hG.s.x.cell 2
          have d3 := hG.s.x.cell 3
          have d4 := hG.s.x.cell 4
          simp only [List.getElem?_cons_zero, List.getElem?_cons_succ] at d0 d1 d2 d3 d4
          go_wp2
          go_roundg gg
          case rel => exact ⟨i + 1, y1, y3, y4, m1, m3, m4, d, by have := HG.out; omega, by go_num, hG.mono (by omega)⟩
          case measure => omega
      by_cases hw2 : wv = 2
      · subst hw2
        have hPP : ∃ E id r, subD d 1 bn [] = (E, id, r) ∧ ((d.qu.length < 4 ∧ r = 0 ∧ PD E (i + 1)) ∨ (4 ≤ d.qu.length ∧ r = 8)) := by
          have hrq : rqE 4 1 bn ([] : List Int).length = 0 := rqE_read (by omega) (by omega)
          rcases Nat.lt_or_ge d.qu.length 4 with hq | hq
          · have h := pd_sub G2.p (by omega) hq hrq
            exact ⟨_, _, _, h.1, .inl ⟨hq, rfl, h.2⟩⟩
          · exact ⟨_, _, _, pd_full G2.p (by omega) hq hrq, .inr ⟨hq, rfl⟩⟩
        obtain ⟨E, id, r, hP, hcase⟩ := hPP
        go_wp2_with fail
        refine wp_region_plan (fun W => Blk W gx 57 [.int .i64 2, .int .u8 bv, .int .u8 vv, .int .u8 pv]) (.quiet [0, 1, 2, 3, 4, 5] .done) 99 (by kernel_rfl) (by kernel_rfl) (X2.later (Below.refl _ _).drew) ?_
        intro W hW hWe
        have G3 : GS w gd (.slice y1 d.bl.length m1) (.slice y3 d.ca.length m3) (.slice y4 d.qu.length m4) d i W := by rw [hWe]; exact G2.below (Below.refl _ _).drew
        clear hWe G2 X2 z0 d0 d1 d2 d3 d4
        simp only [wpPlan, inOrder, List.filterMap_cons, List.filterMap_nil, List.getElem?_cons_zero, List.getElem?_cons_succ]
        have q5 := fun z => (hold_ok (S0 := fun W => Blk W gx 57 [.int .i64 2, .int .u8 bv, .int .u8 vv, .int .u8 pv]) hW z).cell 1
        simp only [List.getElem?_cons_zero, List.getElem?_cons_succ] at q5
        show wpQuiet _ _ _ _ (_ :: _ :: _ :: _ :: _ :: [_]) _
        repeat (go_big_quiet_step (fail))
        refine wpQuiet_nil ?_
        clear q5 hW
        refine NoPanic.normal ?_
        have d0 := G3.s.x.cell 0
        have d1 := G3.s.x.cell 1
        have d2 := G3.s.x.cell 2
        have d3 := G3.s.x.cell 3
        have d4 := G3.s.x.cell 4
        simp only [List.getElem?_cons_zero, List.getElem?_cons_succ] at d0 d1 d2 d3 d4
        go_wp2_with fail
        refine (submit_d G3.s.rdv (pd_few G3.p) 1 bn (SlV.nil _).rbv (by simp)).mono ?_
        have G2 := G3
        clear G3
        rintro e w7 ⟨v, rfl, hO, b7⟩
        rw [hP] at hO ⊢
        obtain ⟨VB, VC, VQ, z1, k1, z3, k3, z4, k4, rfl, rfl, rfl, rfl, r1, r2, r3⟩ := hO.cells
        dsimp only at r1 r2 r3 ⊢
        have G7 := G2.below b7
        have hz : DS w w7.heap.size (.slice z1 E.bl.length k1) (.slice z3 E.ca.length k3) (.slice z4 E.qu.length k4) E _ := DS.new ⟨r1, r2, r3⟩ G2.s.b.size G7.s.b
        have hG := G7.below (below_box w7 (.cells #[.int .i64 E.dp, .int .i64 E.nx, .slice z1 E.bl.length k1, .slice z3 E.ca.length k3, .slice z4 E.qu.length k4] 26))
        clear G2 G7 d0 d1 d2 d3 d4 r1 r2 r3 hO b7
        go_upto_region 26 with fail
        obtain ⟨w8, hw8⟩ : ∃ W, W = w7.alloc (.cells #[.int .i64 E.dp, .int .i64 E.nx, .slice z1 E.bl.length k1, .slice z3 E.ca.length k3, .slice z4 E.qu.length k4] 26) := ⟨_, rfl⟩
        rw [← hw8] at hz hG ⊢
        clear hw8
        rcases hcase with ⟨hq, rfl, hp⟩ | ⟨hq, rfl⟩
        · have ta : decide ((d.qu.length : Int) < 4) = true := by simp; omega
          have tb : decide ((4 : Int) ≤ (d.qu.length : Int)) = false := by simp; omega
          have d0 := hG.s.x.cell 0
          have d1 := hG.s.x.cell 1
          have d2 := hG.s.x.cell 2
          have d3 := hG.s.x.cell 3
          have d4 := hG.s.x.cell 4
          simp only [List.getElem?_cons_zero, List.getElem?_cons_succ] at d0 d1 d2 d3 d4
          have df0 := hG.s.x.frozen 0
          have df1 := hG.s.x.frozen 1
          have df2 := hG.s.x.frozen 2
          have df3 := hG.s.x.frozen 3
          have df4 := hG.s.x.frozen 4
          have c0 := hz.x.cell 0
          have c1 := hz.x.cell 1
          have c2 := hz.x.cell 2
          have c3 := hz.x.cell 3
          have c4 := hz.x.cell 4
          simp only [List.getElem?_cons_zero, List.getElem?_cons_succ] at c0 c1 c2 c3 c4
          go_wp2
          go_roundg gg
          case rel => exact ⟨i + 1, z1, z3, z4, k1, k3, k4, E, by have := HG.out; omega, by go_num, hG.store hz.r (Nat.le_refl _) hp⟩
          case measure => omega
        · have ta : decide ((d.qu.length : Int) < 4) = false := by simp; omega
          have tb : decide ((4 : Int) ≤ (d.qu.length : Int)) = true := by simp; omega
          have d0 := hG.s.x.cell 0
          have d1 := hG.s.x.cell 1
          have d2 := hG.s.x.cell 2
          have d3 := hG.s.x.cell 3
          have d4 := hG.s.x.cell 4
          simp only [List.getElem?_cons_zero, List.getElem?_cons_succ] at d0 d1 d2 d3 d4
          go_wp2
          go_roundg gg
          case rel => exact ⟨i + 1, y1, y3, y4, m1, m3, m4, d, by have := HG.out; omega, by go_num, hG.mono (by omega)⟩
          case measure => omega
      · have t0 : (wv == 0) = false := by simpa using hw0
        have t1 : (wv == 1) = false := by simpa using hw1
        have t2 : (wv == 2) = false := by simpa using hw2
        obtain ⟨ok, hok⟩ : ∃ b : Bool, (wv != 4) = b := ⟨_, rfl⟩
        have hPP : ∃ E Q r, cmpD d pn ok = (E, Q, r) ∧ ((pn < d.qu.length ∧ r = 0 ∧ PD E i) ∨ (d.qu.length ≤ pn ∧ r = 2)) := by
          rcases Nat.lt_or_ge pn d.qu.length with hq | hq
          · obtain ⟨E, Q, h1, h2, _⟩ := pd_cmp G2.p hq ok
            exact ⟨_, _, _, h1, .inl ⟨hq, rfl, h2⟩⟩
          · exact ⟨_, _, _, pd_range G2.p hq ok, .inr ⟨hq, rfl⟩⟩
        obtain ⟨E, Q, r, hP, hcase⟩ := hPP
        have z3 := X2.cell 3
        simp only [List.getElem?_cons_zero, List.getElem?_cons_succ] at z3
        go_wp2_with fail
        refine (complete_d G2.s.rdv (pd_few G2.p) pn ok).mono ?_
        rintro e w7 ⟨v, vq, rfl, hO, hQ, b7⟩
        rw [hP] at hO hQ ⊢
        obtain ⟨VB, VC, VQ, z1, k1, z3', k3, z4, k4, rfl, rfl, rfl, rfl, r1, r2, r3⟩ := hO.cells
        obtain ⟨sv, rfl, hsv⟩ := hQ
        obtain ⟨x5, k5, rfl, _, _, _, _⟩ := hsv.form rfl
        dsimp only at r1 r2 r3 ⊢
        have G7 := G2.below b7
        have X7 := X2.later b7
        have hbz := below_box w7 (.cells #[.int .i64 E.dp, .int .i64 E.nx, .slice z1 E.bl.length k1, .slice z3' E.ca.length k3, .slice z4 E.qu.length k4] 26)
        have hby := below_box (w7.alloc (.cells #[.int .i64 E.dp, .int .i64 E.nx, .slice z1 E.bl.length k1, .slice z3' E.ca.length k3, .slice z4 E.qu.length k4] 26)) (.cells #[.int .i64 Q.1, .int .i64 Q.2.1, .int .i64 Q.2.2.1, .slice x5 Q.2.2.2.length k5] 39)
        have hz := (show DS w w7.heap.size _ _ _ E _ from DS.new ⟨r1, r2, r3⟩ G2.s.b.size G7.s.b).below hby
        have hG := (G7.below hbz).below hby
        have hX := (X7.later hbz).later hby
        have z3 := hX.cell 3
        simp only [List.getElem?_cons_zero, List.getElem?_cons_succ] at z3
        clear G2 X2 G7 X7 z0 d0 d1 d2 d3 d4 r1 r2 r3 hO hsv b7 hbz hby hok
        go_upto_region 10 with fail
        obtain ⟨w8, hw8⟩ : ∃ W, W = (w7.alloc (.cells #[.int .i64 E.dp, .int .i64 E.nx, .slice z1 E.bl.length k1, .slice z3' E.ca.length k3, .slice z4 E.qu.length k4] 26)).alloc (.cells #[.int .i64 Q.1, .int .i64 Q.2.1, .int .i64 Q.2.2.1, .slice x5 Q.2.2.2.length k5] 39) := ⟨_, rfl⟩
        rw [← hw8] at hz hG hX z3 ⊢
        clear hw8
        rcases hcase with ⟨hq, rfl, hp⟩ | ⟨hq, rfl⟩
        · have ta : decide ((pn : Int) < (d.qu.length : Int)) = true := by simp; omega
          have d0 := hG.s.x.cell 0
          have d1 := hG.s.x.cell 1
          have d2 := hG.s.x.cell 2
          have d3 := hG.s.x.cell 3
          have d4 := hG.s.x.cell 4
          simp only [List.getElem?_cons_zero, List.getElem?_cons_succ] at d0 d1 d2 d3 d4
          have df0 := hG.s.x.frozen 0
          have df1 := hG.s.x.frozen 1
          have df2 := hG.s.x.frozen 2
          have df3 := hG.s.x.frozen 3
          have df4 := hG.s.x.frozen 4
          have c0 := hz.x.cell 0
          have c1 := hz.x.cell 1
          have c2 := hz.x.cell 2
          have c3 := hz.x.cell 3
          have c4 := hz.x.cell 4
          simp only [List.getElem?_cons_zero, List.getElem?_cons_succ] at c0 c1 c2 c3 c4
          go_wp2
          go_roundg gg
          case rel => exact ⟨i + 1, z1, z3', z4, k1, k3, k4, E, by have := HG.out; omega, by go_num, hG.store hz.r (Nat.le_refl _) (hp.mono (by omega))⟩
          case measure => omega
        · have ta : decide ((pn : Int) < (d.qu.length : Int)) = false := by simp; omega
          go_wp2
          go_roundg gg
          case rel => exact ⟨i + 1, y1, y3, y4, m1, m3, m4, d, by have := HG.out; omega, by go_num, hG.mono (by omega)⟩
          case measure => omega
end Go.Proofs.Ytlhbjmoncdljoaa
