/- The walk of the law on what lasts. -/
import Derived.Test.YtlhbjmoncdljoaaE4
namespace Go.Dev
/-- Blocks that are not marked were not written since. -/
def UnW (d F : D) (wb : List Bool) : Prop := wb.length = 4 ∧ ∀ f : Nat, f < 4 → wb[f]? = some false → Un d f (F.bl.getD f [])
theorem UnW.start {F : D} (h1 : F.ca = []) (h2 : F.qu = []) : UnW F F [false, false, false, false] := ⟨rfl, fun _ _ _ => Un.start h1 h2⟩
theorem UnW.sub {d F : D} {wb : List Bool} {bn : Nat} {t : List Int} (h : UnW d F wb) : UnW ⟨d.dp, d.nx + 1, d.bl, d.ca, d.qu ++ [(d.nx, 2, (bn : Int), t)]⟩ F (wb.set bn true) := by
  refine ⟨by rw [List.length_set]; exact h.1, fun f hf hw => ?_⟩
  by_cases e : bn = f
  · subst e
    rw [List.getElem?_set_self (by rw [h.1]; exact hf)] at hw
    cases hw
  · rw [List.getElem?_set_ne e] at hw
    exact (h.2 f hf hw).sub (by omega)
theorem UnW.cmp {d F : D} {wb : List Bool} {p n : Nat} (h : UnW d F wb) (ho : PD d n) (hp : p < d.qu.length) (ok : Bool) : UnW (cmpD d p ok).1 F wb :=
  ⟨h.1, fun f hf hw => (h.2 f hf hw).cmp ho hp ok⟩
end Go.Dev
namespace Go.Proofs.Ytlhbjmoncdljoaa
open Go.RowKit Go.Over Go.Dev Go.Seg Go.Grow
/-- What was read: i contents so far. -/
def Was (W : World) (gs : Nat) (F : D) (i : Nat) : Prop := ∃ vs : List Value, Blk W gs 55 (vs ++ List.replicate (4 - i) (.slice none 0 0)) ∧ vs.length = i ∧ ∀ j v, vs[j]? = some v → SlV W v (F.bl.getD j [])
section
variable {W W' : World} {gs i : Nat} {F : D}
theorem Was.k5 (h : Was W gs F i) (hk : K5 W W') (hb : ∀ cs, Blk W gs 55 cs → Blk W' gs 55 cs) : Was W' gs F i := by
  obtain ⟨vs, h1, h2, h3⟩ := h
  exact ⟨vs, hb _ h1, h2, fun j v hj => (h3 j v hj).k5 hk⟩
theorem Was.below (h : Was W gs F i) (hb : Below W.heap.size W W') : Was W' gs F i := h.k5 (K5.below hb) fun _ h => h.later hb
theorem Was.far (h : Was W gs F i) {g t : Nat} {cs : List Value} (hg : Blk W g t cs) (h5 : t ≠ 5) (h55 : t ≠ 55) (k : Nat) (u : Value) : Was (W.setCell ⟨g, k, none⟩ u) gs F i :=
  h.k5 (K5.set hg h5 k u) fun _ hc => hc.far (p := ⟨g, k, none⟩) (hc.ne_type hg (Ne.symm h55)) u
theorem Was.far5 (h : Was W gs F i) {g : Nat} {y1 y2 y3 y4 y5 : Value} (hg : Blk W g 26 [y1, y2, y3, y4, y5]) (x1 x2 x3 x4 x5 : Value) :
    Was (((((W.setCell ⟨g, 0, none⟩ x1).setCell ⟨g, 1, none⟩ x2).setCell ⟨g, 2, none⟩ x3).setCell ⟨g, 3, none⟩ x4).setCell ⟨g, 4, none⟩ x5) gs F i := by
  have g1 := hg.set 0 x1
  have g2 := g1.set 1 x2
  have g3 := g2.set 2 x3
  have g4 := g3.set 3 x4
  exact ((((h.far hg (by decide) (by decide) 0 x1).far g1 (by decide) (by decide) 1 x2).far g2 (by decide) (by decide) 2 x3).far g3 (by decide) (by decide) 3 x4).far g4 (by decide) (by decide) 4 x5
/-- One more content is kept. -/
theorem Was.put (h : Was W gs F i) (hi : i < 4) {v : Value} (hv : SlV W v (F.bl.getD i [])) : Was (W.setCell ⟨gs, i, none⟩ v) gs F (i + 1) := by
  obtain ⟨vs, h1, h2, h3⟩ := h
  have hk := K5.set h1 (by decide) i v
  refine ⟨vs ++ [v], ?_, by simp [h2], fun j u hj => ?_⟩
  · have := h1.set i v
    have e : (vs ++ List.replicate (4 - i) (Value.slice none 0 0)).set i v = vs ++ [v] ++ List.replicate (4 - (i + 1)) (.slice none 0 0) := by
      rw [List.set_append_right _ _ (by omega), h2, Nat.sub_self, show 4 - i = (4 - (i + 1)) + 1 by omega, List.replicate_succ, List.set_cons_zero]
      simp
    rwa [e] at this
  · by_cases hji : j < i
    · rw [List.getElem?_append_left (by omega)] at hj
      exact (h3 j u hj).k5 hk
    · rw [List.getElem?_append_right (by omega)] at hj
      have : j - vs.length = 0 := by
        rw [List.getElem?_eq_some_iff] at hj
        obtain ⟨h, _⟩ := hj
        simpa using h
      rw [this] at hj
      simp at hj
      subst hj
      obtain rfl : j = i := by omega
      exact hv.k5 hk
theorem Was.get (h : Was W gs F 4) {j : Nat} (hj : j < 4) : ∃ v, W.cell? ⟨gs, j, none⟩ = some v ∧ SlV W v (F.bl.getD j []) := by
  obtain ⟨vs, h1, h2, h3⟩ := h
  obtain ⟨v, hv⟩ := get_some h2 hj
  refine ⟨v, ?_, h3 j v hv⟩
  rw [h1.cell, List.getElem?_append_left (by omega)]
  exact hv
end
theorem bl32 {d : D} {n : Nat} (h : PD d n) {f : Nat} (hf : f < 4) : (d.bl.getD f []).length = 32 := by
  have hnb := h.nb
  rw [List.getD_eq_getElem?_getD, List.getElem?_eq_getElem (by omega)]
  exact h.ok.bl _ (List.getElem_mem _)
theorem cont_nil {d : D} {n : Nat} (h : PD d n) (hc : d.ca = []) {f : Nat} (hf : f < 4) : contD d f = d.bl.getD f [] := by
  have hnb := h.nb
  rw [contD_ok h.ok (by omega)]
  unfold cont
  rw [hc]
  show d.bl.getD (Int.toNat (f : Int)) [] = _
  rw [Int.toNat_natCast]
/-- The law under way. -/
structure LS (w : World) (gd go gs : Nat) (VB VC VQ : Value) (d : D) (k : Nat) (wb : List Bool) (F : D) (W : World) : Prop where
  s : DS w gd VB VC VQ d W
  o : Blk W go 54 (wb.map Value.bool)
  l : w.heap.size ≤ go
  g : Was W gs F 4
  p : PD d k
  u : UnW d F wb
section
variable {w W W' : World} {gd go gs k k' : Nat} {VB VC VQ : Value} {d d' F : D} {wb : List Bool}
theorem LS.below (h : LS w gd go gs VB VC VQ d k wb F W) (hb : Below W.heap.size W W') : LS w gd go gs VB VC VQ d k wb F W' := ⟨h.s.below hb, h.o.later hb, h.l, h.g.below hb, h.p, h.u⟩
theorem LS.mono (h : LS w gd go gs VB VC VQ d k wb F W) (hk : k ≤ k') : LS w gd go gs VB VC VQ d k' wb F W := ⟨h.s, h.o, h.l, h.g, h.p.mono hk, h.u⟩
theorem LS.store {VB' VC' VQ' : Value} {B : Nat} (h : LS w gd go gs VB VC VQ d k wb F W) (r : Rows3 W B VB' VC' VQ' d'.bl d'.ca d'.qu) (hB : w.heap.size ≤ B) (hp : PD d' k') (hu : UnW d' F wb) :
    LS w gd go gs VB' VC' VQ' d' k' wb F (((((W.setCell ⟨gd, 0, none⟩ (.int .i64 d'.dp)).setCell ⟨gd, 1, none⟩ (.int .i64 d'.nx)).setCell ⟨gd, 2, none⟩ VB').setCell ⟨gd, 3, none⟩ VC').setCell ⟨gd, 4, none⟩ VQ') :=
  ⟨h.s.store r hB, far5B h.o (h.o.ne_type h.s.x (by decide)) _ _ _ _ _, h.l, h.g.far5 h.s.x _ _ _ _ _, hp, hu⟩
theorem LS.far5 {g' : Nat} {y1 y2 y3 y4 y5 : Value} (h : LS w gd go gs VB VC VQ d k wb F W) (hx : Blk W g' 26 [y1, y2, y3, y4, y5]) (hne : gd ≠ g') (hl : w.heap.size < g') (x1 x2 x3 x4 x5 : Value) :
    LS w gd go gs VB VC VQ d k wb F (((((W.setCell ⟨g', 0, none⟩ x1).setCell ⟨g', 1, none⟩ x2).setCell ⟨g', 2, none⟩ x3).setCell ⟨g', 3, none⟩ x4).setCell ⟨g', 4, none⟩ x5) :=
  ⟨⟨below5 h.s.b (Nat.le_of_lt hl) _ _ _ _ _, h.s.l, far5B h.s.x hne _ _ _ _ _, h.s.r.dev5 hx _ _ _ _ _⟩, far5B h.o (h.o.ne_type hx (by decide)) _ _ _ _ _, h.l, h.g.far5 hx _ _ _ _ _, h.p, h.u⟩
/-- A block is written: the device and the mark. -/
theorem LS.write {VB' VC' VQ' : Value} {B bn : Nat} (h : LS w gd go gs VB VC VQ d k wb F W) (r : Rows3 W B VB' VC' VQ' d'.bl d'.ca d'.qu) (hB : w.heap.size ≤ B) (hp : PD d' k') (hu : UnW d' F (wb.set bn true)) :
    LS w gd go gs VB' VC' VQ' d' k' (wb.set bn true) F ((((((W.setCell ⟨gd, 0, none⟩ (.int .i64 d'.dp)).setCell ⟨gd, 1, none⟩ (.int .i64 d'.nx)).setCell ⟨gd, 2, none⟩ VB').setCell ⟨gd, 3, none⟩ VC').setCell ⟨gd, 4, none⟩ VQ').setCell ⟨go, bn, none⟩ (.bool true)) := by
  have s := h.s.store r hB
  have o := far5B h.o (h.o.ne_type h.s.x (by decide)) (.int .i64 d'.dp) (.int .i64 d'.nx) VB' VC' VQ'
  have g := h.g.far5 h.s.x (.int .i64 d'.dp) (.int .i64 d'.nx) VB' VC' VQ'
  refine ⟨s.other o (.inr (.inl rfl)) h.l bn _, ?_, h.l, g.far o (by decide) (by decide) bn _, hp, hu⟩
  have := o.set bn (.bool true)
  rwa [List.map_set]
end
set_option maxRecDepth 100000 in set_option maxHeartbeats 3200000 in
theorem law_lasts (a0 : Option Addr) (l0 : List (Int × Int × Int × Int)) (n0 c0 : Nat) (a1 : Option Addr) (l1 : List (Int × Int × Int × Int)) (n1 c1 : Nat) (pa : Option Addr) (pn pc : Nat) (picks : List Bool) (w : World) (H0 : ActsAt w a0 l0) (hn0 : l0.length = n0) (H1 : ActsAt w a1 l1) (hn1 : l1.length = n1) (HP : Pk w pa picks) (hpn : picks.length = pn) :
    Calls Try.prog 8 #[.slice a0 n0 c0, .slice a1 n1 c1, .slice pa pn pc] w fun e w' => e = .returned (.bool true) ∧ Below w.heap.size w w' := by
  have HN0 := Lib.hid hn0; have HN1 := Lib.hid hn1; have HPN := Lib.hid hpn
  clear hn0 hn1 hpn
  go_enter Try.func8, Try.ntmps8
  go_wp2_with fail
  refine (awake_11 _).mono ?_
  rintro e w1 ⟨rfl, b1⟩
  by_cases h40 : 40 < n0
  · have t0 : decide ((40 : Int) < (n0 : Int)) = true := by simp; omega
    go_wp2_with fail
    refine (awake_11 _).mono ?_
    rintro e w4 ⟨rfl, b4⟩
    go_wp2
    go_ret
    exact ⟨rfl, below_then b1 b4⟩
  have t0 : decide ((40 : Int) < (n0 : Int)) = false := by simp; omega
  by_cases h10 : 10 < n1
  · have t1 : decide ((10 : Int) < (n1 : Int)) = true := by simp; omega
    go_wp2_with fail
    refine (awake_11 _).mono ?_
    rintro e w4 ⟨rfl, b4⟩
    go_wp2
    go_ret
    exact ⟨rfl, below_then b1 b4⟩
  have t1 : decide ((10 : Int) < (n1 : Int)) = false := by simp; omega
  by_cases h100 : 100 < pn
  · have t2 : decide ((100 : Int) < (pn : Int)) = true := by simp; omega
    go_wp2_with fail
    refine (awake_11 _).mono ?_
    rintro e w4 ⟨rfl, b4⟩
    go_wp2
    go_ret
    exact ⟨rfl, below_then b1 b4⟩
  have t2 : decide ((100 : Int) < (pn : Int)) = false := by simp; omega
  have hle : n0 ≤ 40 := by omega
  have hle1 : n1 ≤ 10 := by omega
  have hle2 : pn ≤ 100 := by omega
  clear h40 h10 h100
  go_wp2_with fail
  refine (play_32 a0 l0 n0 c0 _ (H0.below b1) HN0.out hle).mono ?_
  rintro e w2 ⟨v, d, rfl, hO, hP, b2⟩
  obtain ⟨VB, VC, VQ, x1, k1, x3, k3, x4, k4, rfl, rfl, rfl, rfl, r1, r2, r3⟩ := hO.cells
  dsimp only at r1 r2 r3 ⊢
  have S3 : DS w w2.heap.size (.slice x1 d.bl.length k1) (.slice x3 d.ca.length k3) (.slice x4 d.qu.length k4) d _ := DS.new ⟨r1, r2, r3⟩ b1.size (below_then b1 b2)
  obtain ⟨gd, hgd⟩ : ∃ g, w2.heap.size = g := ⟨_, rfl⟩
  clear r1 r2 r3 hO b1 b2 t0 t1 t2
  go_upto_region 4 with fail
  obtain ⟨w3, hw3⟩ : ∃ W, W = w2.alloc (.cells #[.int .i64 d.dp, .int .i64 d.nx, .slice x1 d.bl.length k1, .slice x3 d.ca.length k3, .slice x4 d.qu.length k4] 26) := ⟨_, rfl⟩
  rw [← hw3] at S3 ⊢
  rw [hgd] at S3
  clear hw3 hgd
  have d0 := S3.x.cell 0
  have d1 := S3.x.cell 1
  have d2 := S3.x.cell 2
  have d3 := S3.x.cell 3
  have d4 := S3.x.cell 4
  simp only [List.getElem?_cons_zero, List.getElem?_cons_succ] at d0 d1 d2 d3 d4
  go_wp2_with fail
  refine (drained_33 _ d n0 w3 S3.rdv hP (by omega)).mono ?_
  rintro e w4 ⟨v, F, rfl, hO, pF, hFc, hFq, b4⟩
  have HFC := Lib.hid hFc; have HFQ := Lib.hid hFq
  clear hFc hFq
  obtain ⟨VB, VC, VQ, u1, i1, u3, i3, u4, i4, rfl, rfl, rfl, rfl, r1, r2, r3⟩ := hO.cells
  dsimp only at r1 r2 r3 ⊢
  have S4 := S3.below b4
  have S5 : DS w gd (.slice u1 F.bl.length i1) (.slice u3 F.ca.length i3) (.slice u4 F.qu.length i4) F _ := S4.store ⟨r1, r2, r3⟩ S3.b.size
  clear r1 r2 r3 hO S3 b4 d0 d1 d2 d3 d4
  have d0 := S4.x.cell 0
  have d1 := S4.x.cell 1
  have d2 := S4.x.cell 2
  have d3 := S4.x.cell 3
  have d4 := S4.x.cell 4
  simp only [List.getElem?_cons_zero, List.getElem?_cons_succ] at d0 d1 d2 d3 d4
  have df0 := S4.x.frozen 0
  have df1 := S4.x.frozen 1
  have df2 := S4.x.frozen 2
  have df3 := S4.x.frozen 3
  have df4 := S4.x.frozen 4
  go_upto_region 7 with fail
  obtain ⟨w5, hw5⟩ : ∃ W, W = ((((w4.setCell ⟨gd, 0, none⟩ (.int .i64 F.dp)).setCell ⟨gd, 1, none⟩ (.int .i64 F.nx)).setCell ⟨gd, 2, none⟩ (.slice u1 F.bl.length i1)).setCell ⟨gd, 3, none⟩ (.slice u3 F.ca.length i3)).setCell ⟨gd, 4, none⟩ (.slice u4 F.qu.length i4) := ⟨_, rfl⟩
  rw [← hw5] at S5 ⊢
  clear hw5 S4 d0 d1 d2 d3 d4 df0 df1 df2 df3 df4 hP
  have hbo := below_box w5 (.cells #[.bool false, .bool false, .bool false, .bool false] 54)
  have hbs := below_box (w5.alloc (.cells #[.bool false, .bool false, .bool false, .bool false] 54)) (.cells #[.slice none 0 0, .slice none 0 0, .slice none 0 0, .slice none 0 0] 55)
  have S6 := (S5.below hbo).below hbs
  have O6 : Blk _ _ 54 ([false, false, false, false].map Value.bool) := (Blk.new w5 54 #[.bool false, .bool false, .bool false, .bool false] _ rfl).later hbs
  have W6 : Was ((w5.alloc (.cells #[.bool false, .bool false, .bool false, .bool false] 54)).alloc (.cells #[.slice none 0 0, .slice none 0 0, .slice none 0 0, .slice none 0 0] 55)) (w5.heap.size + 1) F 0 := by
    refine ⟨[], ?_, rfl, fun j v h => by simp at h⟩
    have := Blk.new (w5.alloc (.cells #[.bool false, .bool false, .bool false, .bool false] 54)) 55 #[.slice none 0 0, .slice none 0 0, .slice none 0 0, .slice none 0 0] _ rfl
    rwa [show (w5.alloc (.cells #[.bool false, .bool false, .bool false, .bool false] 54)).heap.size = w5.heap.size + 1 by simp] at this
  have hgo : w.heap.size ≤ w5.heap.size := S5.b.size
  obtain ⟨go, hgo'⟩ : ∃ g, w5.heap.size = g := ⟨_, rfl⟩
  obtain ⟨gs, hgs'⟩ : ∃ g, w5.heap.size + 1 = g := ⟨_, rfl⟩
  rw [hgs'] at W6
  clear hbo hbs S5
  go_upto_region 11 with fail
  obtain ⟨w6, hw6⟩ : ∃ W, W = (w5.alloc (.cells #[.bool false, .bool false, .bool false, .bool false] 54)).alloc (.cells #[.slice none 0 0, .slice none 0 0, .slice none 0 0, .slice none 0 0] 55) := ⟨_, rfl⟩
  rw [← hw6] at S6 O6 W6 ⊢
  rw [hgo'] at O6 hgo hgs'
  have hgs : w.heap.size ≤ gs := by omega
  rw [hgs']
  clear hw6 hgo' hgs'
  go_wp2
  go_loopg [55] 4 (fun gg v55 wr => ∃ i : Nat, i + gg = 4 ∧ v55 = .int .i64 i ∧ DS w gd (.slice u1 F.bl.length i1) (.slice u3 F.ca.length i3) (.slice u4 F.qu.length i4) F wr ∧ Blk wr go 54 ([false, false, false, false].map Value.bool) ∧ Was wr gs F i)
  case atStart => exact ⟨0, by omega, rfl, S6, O6, W6⟩
  case round =>
    clear S6 O6 W6
    obtain ⟨i, hg, rfl, S6, O6, W6⟩ := hrel
    cases gk with
    | zero =>
      have hie : i = 4 := by omega
      have W6' : Was wr gs F 4 := by rw [hie] at W6; exact W6
      have L0 : LS w gd go gs (.slice u1 F.bl.length i1) (.slice u3 F.ca.length i3) (.slice u4 F.qu.length i4) F (n0 + 1 + 0) [false, false, false, false] F wr := ⟨S6, O6, hgo, W6', pF, UnW.start HFC.out HFQ.out⟩
      have hi5 : ¬ i < 4 := by omega
      clear hg S6 O6 W6 W6' HFC HFQ hie
      go_wp2
      go_loopg [71] n1 (fun gg v71 wr => ∃ (i : Nat) (y1 y3 y4 : Option Addr) (m1 m3 m4 : Nat) (d : D) (wb : List Bool), i + gg = n1 ∧ v71 = .int .i64 i ∧ LS w gd go gs (.slice y1 d.bl.length m1) (.slice y3 d.ca.length m3) (.slice y4 d.qu.length m4) d (n0 + 1 + i) wb F wr)
      case atStart => exact ⟨0, u1, u3, u4, i1, i3, i4, F, _, by omega, rfl, L0⟩
      case round =>
        clear L0
        obtain ⟨i, y1, y3, y4, m1, m3, m4, d, wb, hg, rfl, G1⟩ := hrel
        cases gk with
        | zero =>
          obtain rfl : n1 = i := by omega
          clear hg
          obtain ⟨C, e1, okC, hnx, cC, hqu, blC⟩ := ok_cr G1.p.ok picks
          clear hnx hqu
          have HUC := Lib.hid (show ∀ f : Nat, f < 4 → wb[f]? = some false → contD C f = F.bl.getD f [] from fun f hf hw => (G1.u.2 f hf hw).crash G1.p hf okC cC blC)
          have lC : C.bl.length = 4 := by rw [blC, keepQ_len, keepC_len, G1.p.nb]
          have fewC : Few C := by have := okC.q1; exact ⟨by omega, by rw [cC]; simp, by have := okC.d2; omega⟩
          have HWL := Lib.hid G1.u.1
          clear okC cC blC lC
          have d0 := G1.s.x.cell 0
          have d1 := G1.s.x.cell 1
          have d2 := G1.s.x.cell 2
          have d3 := G1.s.x.cell 3
          have d4 := G1.s.x.cell 4
          simp only [List.getElem?_cons_zero, List.getElem?_cons_succ] at d0 d1 d2 d3 d4
          go_wp2_with fail
          refine (crash_d G1.s.rdv (pd_few G1.p) pa pn pc picks (HP.below G1.s.b) HPN.out).mono ?_
          rintro e w7 ⟨v, rfl, hO, b7⟩
          rw [e1] at hO ⊢
          obtain ⟨VB, VC, VQ, s1, j1, s3, j3, s4, j4, rfl, rfl, rfl, rfl, r1, r2, r3⟩ := hO.cells
          dsimp only at r1 r2 r3 ⊢
          have hbx := below_box w7 (.cells #[.int .i64 C.dp, .int .i64 C.nx, .slice s1 C.bl.length j1, .slice s3 C.ca.length j3, .slice s4 C.qu.length j4] 26)
          have L8 := (G1.below b7).below hbx
          have C8 : DS w w7.heap.size (.slice s1 C.bl.length j1) (.slice s3 C.ca.length j3) (.slice s4 C.qu.length j4) C (w7.alloc (.cells #[.int .i64 C.dp, .int .i64 C.nx, .slice s1 C.bl.length j1, .slice s3 C.ca.length j3, .slice s4 C.qu.length j4] 26)) := DS.new ⟨r1, r2, r3⟩ G1.s.b.size (below_then G1.s.b b7)
          obtain ⟨gc, hgc⟩ : ∃ g, w7.heap.size = g := ⟨_, rfl⟩
          clear r1 r2 r3 hO b7 hbx G1 d0 d1 d2 d3 d4
          go_upto_region 31 with fail
          obtain ⟨w8, hw8⟩ : ∃ W, W = w7.alloc (.cells #[.int .i64 C.dp, .int .i64 C.nx, .slice s1 C.bl.length j1, .slice s3 C.ca.length j3, .slice s4 C.qu.length j4] 26) := ⟨_, rfl⟩
          rw [← hw8] at L8 C8 ⊢
          rw [hgc] at C8
          clear hw8 hgc
          go_wp2
          go_loopg [123] 4 (fun gg v123 wr => ∃ i : Nat, i + gg = 4 ∧ v123 = .int .i64 i ∧ LS w gd go gs (.slice y1 d.bl.length m1) (.slice y3 d.ca.length m3) (.slice y4 d.qu.length m4) d (n0 + 1 + n1) wb F wr ∧ DS w gc (.slice s1 C.bl.length j1) (.slice s3 C.ca.length j3) (.slice s4 C.qu.length j4) C wr)
          case atStart => exact ⟨0, by omega, rfl, L8, C8⟩
          case round =>
            clear L8 C8
            obtain ⟨i, hg, rfl, L8, C8⟩ := hrel
            cases gk with
            | zero =>
              have hi6 : ¬ i < 4 := by omega
              clear hg
              go_wp2
              go_ret
              exact ⟨rfl, L8.s.b⟩
            | succ gg =>
              have hi : i < 4 := by omega
              have HG := Lib.hid hg
              clear hg
              obtain ⟨ob, hob⟩ := get_some HWL.out hi
              have HOB := Lib.hid hob
              obtain ⟨p9, q9, n9, c9, v9, hv9⟩ : ∃ p9 q9 n9, wr.cell? ⟨gs, i, none⟩ = some (.slice p9 n9 q9) ∧ (F.bl.getD i []).length = n9 ∧ SlV wr (.slice p9 n9 q9) (F.bl.getD i []) := by
                obtain ⟨v, h1, h2⟩ := L8.g.get hi
                obtain ⟨p9, q9, rfl, _, _, _, _⟩ := h2.form rfl
                exact ⟨p9, q9, _, h1, rfl, h2⟩
              have HV9 := Lib.hid v9
              have HN9 := Lib.hid (show n9 ≤ 1000000 by rw [← v9, bl32 pF hi]; omega)
              clear v9
              go_wp2_with fail
              refine wp_region_plan (fun W => Blk W gc 26 [.int .i64 C.dp, .int .i64 C.nx, .slice s1 C.bl.length j1, .slice s3 C.ca.length j3, .slice s4 C.qu.length j4] ∧ Blk W go 54 (wb.map Value.bool) ∧ W.cell? ⟨gs, i, none⟩ = some (.slice p9 n9 q9)) (.quiet [0, 1, 2, 3, 4, 5, 6, 8, 9, 10] (.only 7 (.only 11 (.quiet [12, 13] .done)))) 99 (by kernel_rfl) (by kernel_rfl) ⟨C8.x.later (Below.refl _ _).drew, L8.o.later (Below.refl _ _).drew, cell_later (Below.refl _ _).drew c9⟩ ?_
              intro W hW hWe
              have L9 : LS w gd go gs (.slice y1 d.bl.length m1) (.slice y3 d.ca.length m3) (.slice y4 d.qu.length m4) d (n0 + 1 + n1) wb F W := by rw [hWe]; exact L8.below (Below.refl _ _).drew
              have C9 : DS w gc (.slice s1 C.bl.length j1) (.slice s3 C.ca.length j3) (.slice s4 C.qu.length j4) C W := by rw [hWe]; exact C8.below (Below.refl _ _).drew
              have V9 : SlV W (.slice p9 n9 q9) (F.bl.getD i []) := by rw [hWe]; exact hv9.k5 (K5.below (Below.refl _ _).drew)
              clear hWe L8 C8 hv9 c9
              simp only [wpPlan, inOrder, List.filterMap_cons, List.filterMap_nil, List.getElem?_cons_zero, List.getElem?_cons_succ]
              have d0 := fun z => (hold_ok (S0 := fun W => Blk W gc 26 [.int .i64 C.dp, .int .i64 C.nx, .slice s1 C.bl.length j1, .slice s3 C.ca.length j3, .slice s4 C.qu.length j4] ∧ Blk W go 54 (wb.map Value.bool) ∧ W.cell? ⟨gs, i, none⟩ = some (.slice p9 n9 q9)) hW z).1.cell 0
              have d1 := fun z => (hold_ok (S0 := fun W => Blk W gc 26 [.int .i64 C.dp, .int .i64 C.nx, .slice s1 C.bl.length j1, .slice s3 C.ca.length j3, .slice s4 C.qu.length j4] ∧ Blk W go 54 (wb.map Value.bool) ∧ W.cell? ⟨gs, i, none⟩ = some (.slice p9 n9 q9)) hW z).1.cell 1
              have d2 := fun z => (hold_ok (S0 := fun W => Blk W gc 26 [.int .i64 C.dp, .int .i64 C.nx, .slice s1 C.bl.length j1, .slice s3 C.ca.length j3, .slice s4 C.qu.length j4] ∧ Blk W go 54 (wb.map Value.bool) ∧ W.cell? ⟨gs, i, none⟩ = some (.slice p9 n9 q9)) hW z).1.cell 2
              have d3 := fun z => (hold_ok (S0 := fun W => Blk W gc 26 [.int .i64 C.dp, .int .i64 C.nx, .slice s1 C.bl.length j1, .slice s3 C.ca.length j3, .slice s4 C.qu.length j4] ∧ Blk W go 54 (wb.map Value.bool) ∧ W.cell? ⟨gs, i, none⟩ = some (.slice p9 n9 q9)) hW z).1.cell 3
              have d4 := fun z => (hold_ok (S0 := fun W => Blk W gc 26 [.int .i64 C.dp, .int .i64 C.nx, .slice s1 C.bl.length j1, .slice s3 C.ca.length j3, .slice s4 C.qu.length j4] ∧ Blk W go 54 (wb.map Value.bool) ∧ W.cell? ⟨gs, i, none⟩ = some (.slice p9 n9 q9)) hW z).1.cell 4
              simp only [List.getElem?_cons_zero, List.getElem?_cons_succ] at d0 d1 d2 d3 d4
              have o0 := fun z => (hold_ok (S0 := fun W => Blk W gc 26 [.int .i64 C.dp, .int .i64 C.nx, .slice s1 C.bl.length j1, .slice s3 C.ca.length j3, .slice s4 C.qu.length j4] ∧ Blk W go 54 (wb.map Value.bool) ∧ W.cell? ⟨gs, i, none⟩ = some (.slice p9 n9 q9)) hW z).2.1.cell i
              have g0 := fun z => (hold_ok (S0 := fun W => Blk W gc 26 [.int .i64 C.dp, .int .i64 C.nx, .slice s1 C.bl.length j1, .slice s3 C.ca.length j3, .slice s4 C.qu.length j4] ∧ Blk W go 54 (wb.map Value.bool) ∧ W.cell? ⟨gs, i, none⟩ = some (.slice p9 n9 q9)) hW z).2.2
              have hoi : (wb.map Value.bool)[i]? = some (.bool ob) := by rw [List.getElem?_map, hob]; rfl
              rw [hoi] at o0
              clear hob hoi
              cases ob with
              | true =>
                show wpQuiet _ _ _ _ (_ :: _ :: _ :: _ :: _ :: _ :: _ :: _ :: _ :: [_]) _
                repeat (go_big_quiet_step (fail))
                refine wpQuiet_nil ?_
                clear d0 d1 d2 d3 d4 o0 g0
                show wpList _ _ _ [_] _ _
                go_wp2
                refine ⟨hold_of (S0 := fun W => Blk W gc 26 [.int .i64 C.dp, .int .i64 C.nx, .slice s1 C.bl.length j1, .slice s3 C.ca.length j3, .slice s4 C.qu.length j4] ∧ Blk W go 54 (wb.map Value.bool) ∧ W.cell? ⟨gs, i, none⟩ = some (.slice p9 n9 q9)) hW, ?_⟩
                show wpList _ _ _ [_] _ _
                go_wp2
                refine ⟨hold_of (S0 := fun W => Blk W gc 26 [.int .i64 C.dp, .int .i64 C.nx, .slice s1 C.bl.length j1, .slice s3 C.ca.length j3, .slice s4 C.qu.length j4] ∧ Blk W go 54 (wb.map Value.bool) ∧ W.cell? ⟨gs, i, none⟩ = some (.slice p9 n9 q9)) hW, ?_⟩
                show wpQuiet _ _ _ _ (_ :: [_]) _
                repeat (go_big_quiet_step (fail))
                refine wpQuiet_nil ?_
                refine NoPanic.normal ?_
                clear hW
                go_wp2
                go_roundg gg
                case rel => exact ⟨i + 1, by have := HG.out; omega, by go_num, L9, C9⟩
                case measure => omega
              | false =>
                show wpQuiet _ _ _ _ (_ :: _ :: _ :: _ :: _ :: _ :: _ :: _ :: _ :: [_]) _
                repeat (go_big_quiet_step (fail))
                refine wpQuiet_nil ?_
                clear d0 d1 d2 d3 d4 o0 g0
                have HE := Lib.hid (HUC.out i hi HOB.out)
                show wpList _ _ _ [_] _ _
                go_wp2_with fail
                refine (content_d C9.rdv fewC i).mono ?_
                rintro e w10 ⟨v, rfl, hv10, b10⟩
                rw [HE.out] at hv10
                have L10 := L9.below b10
                have C10 := C9.below b10
                have V10 := V9.k5 (K5.below b10)
                have hc10 := cell_later b10 hW.2.2
                obtain ⟨p10, q10, rfl, _, _, _, _⟩ := hv10.form HV9.out
                go_wp2
                refine ⟨hold_of (S0 := fun W => Blk W gc 26 [.int .i64 C.dp, .int .i64 C.nx, .slice s1 C.bl.length j1, .slice s3 C.ca.length j3, .slice s4 C.qu.length j4] ∧ Blk W go 54 (wb.map Value.bool) ∧ W.cell? ⟨gs, i, none⟩ = some (.slice p9 n9 q9)) ⟨C10.x, L10.o, hc10⟩, ?_⟩
                show wpList _ _ _ [_] _ _
                go_wp2_with fail
                refine (same_b hv10.rbv V10.rbv (by rw [HV9.out]; exact HN9.out) (by rw [HV9.out]; exact HN9.out)).mono ?_
                rintro e w11 ⟨rfl, b11⟩
                rw [show decide (F.bl.getD i [] = F.bl.getD i []) = true by simp]
                have L11 := L10.below b11
                have C11 := C10.below b11
                have hc11 := cell_later b11 hc10
                clear hv10 V10 L10 C10 hc10 V9 L9 C9 b10 b11 hW
                go_wp2
                refine ⟨hold_of (S0 := fun W => Blk W gc 26 [.int .i64 C.dp, .int .i64 C.nx, .slice s1 C.bl.length j1, .slice s3 C.ca.length j3, .slice s4 C.qu.length j4] ∧ Blk W go 54 (wb.map Value.bool) ∧ W.cell? ⟨gs, i, none⟩ = some (.slice p9 n9 q9)) ⟨C11.x, L11.o, hc11⟩, ?_⟩
                show wpQuiet _ _ _ _ (_ :: [_]) _
                repeat (go_big_quiet_step (fail))
                refine wpQuiet_nil ?_
                refine NoPanic.normal ?_
                clear hc11
                go_wp2
                go_roundg gg
                case rel => exact ⟨i + 1, by have := HG.out; omega, by go_num, L11, C11⟩
                case measure => omega
        | succ gg =>
          have hin : i < n1 := by omega
          obtain ⟨⟨wv, bv, vv, pv⟩, hs⟩ := get_some HN1.out hin
          obtain ⟨b, off, rfl, hc⟩ := (H1.below G1.s.b) (by rw [HN1.out]; omega)
          obtain ⟨s0, s1, s2, s3, ⟨hb0, hb1⟩, _, ⟨hp0, hp1⟩⟩ := hc i _ hs
          simp only at s0 s1 s2 s3 hb0 hb1 hp0 hp1
          have hbx := below_box wr (.cells #[.int .i64 wv, .int .u8 bv, .int .u8 vv, .int .u8 pv] 57)
          have G2 := G1.below hbx
          have X2 := Blk.new wr 57 #[.int .i64 wv, .int .u8 bv, .int .u8 vv, .int .u8 pv] [.int .i64 wv, .int .u8 bv, .int .u8 vv, .int .u8 pv] rfl
          have HG := Lib.hid hg
          clear hc hs hbx hg
          go_upto_region 21 with fail
          obtain ⟨w7, hw7⟩ : ∃ W, W = wr.alloc (.cells #[.int .i64 wv, .int .u8 bv, .int .u8 vv, .int .u8 pv] 57) := ⟨_, rfl⟩
          rw [← hw7] at G2 X2 ⊢
          obtain ⟨gx, hgx⟩ : ∃ g, wr.heap.size = g := ⟨_, rfl⟩
          rw [hgx] at X2 ⊢
          clear hw7 hgx G1 s0 s1 s2 s3
          have d0 := G2.s.x.cell 0
          have d1 := G2.s.x.cell 1
          have d2 := G2.s.x.cell 2
          have d3 := G2.s.x.cell 3
          have d4 := G2.s.x.cell 4
          simp only [List.getElem?_cons_zero, List.getElem?_cons_succ] at d0 d1 d2 d3 d4
          have z0 := X2.cell 0
          simp only [List.getElem?_cons_zero] at z0
          obtain ⟨bn, hbn, hbm⟩ := u8_mod hb0
          obtain ⟨pn', hpn, hpm⟩ := u8_mod hp0
          by_cases hw0 : wv = 0
          · subst hw0
            have hPP : ∃ E id r, subD d 2 bn (pg vv) = (E, id, r) ∧ ((r = 0 ∧ PD E (n0 + 1 + i + 1) ∧ UnW E F (wb.set bn true)) ∨ r = 8) := by
              have hrq : rqE 4 2 bn (pg vv).length = 0 := rqE_write (by omega) (by omega) pg_len
              rcases Nat.lt_or_ge d.qu.length 4 with hq | hq
              · have h := pd_sub G2.p (by omega) hq hrq
                exact ⟨_, _, _, h.1, .inl ⟨rfl, h.2, G2.u.sub⟩⟩
              · exact ⟨_, _, _, pd_full G2.p (by omega) hq hrq, .inr rfl⟩
            obtain ⟨E, id, r, hP, hcase⟩ := hPP
            go_wp2_with fail
            clear z0 d0 d1 d2 d3 d4
            go_cut [14, 15, 16] from 78 to 91 (fun p14 v15 v16 wr => ∃ (gz : Nat) (z1 z3 z4 : Option Addr) (k1 k3 k4 : Nat), p14 = .pointer (some ⟨gz, 0, none⟩) ∧ v15 = .int .i64 id ∧ v16 = .int .i64 r ∧ w.heap.size < gz ∧ DS w gz (.slice z1 E.bl.length k1) (.slice z3 E.ca.length k3) (.slice z4 E.qu.length k4) E wr ∧ LS w gd go gs (.slice y1 d.bl.length m1) (.slice y3 d.ca.length m3) (.slice y4 d.qu.length m4) d (n0 + 1 + i) wb F wr ∧ Blk wr gx 57 [.int .i64 0, .int .u8 bv, .int .u8 vv, .int .u8 pv])
            case first =>
              refine wp_region_plan (fun W => Blk W gd 26 [.int .i64 d.dp, .int .i64 d.nx, .slice y1 d.bl.length m1, .slice y3 d.ca.length m3, .slice y4 d.qu.length m4] ∧ Blk W gx 57 [.int .i64 0, .int .u8 bv, .int .u8 vv, .int .u8 pv]) (.quiet [0, 1, 2, 3, 4, 5, 6] (.fork 7 (.fork 8 (.quiet [9, 10, 11, 12] (.only 13 (.only 14 (.quiet [15, 16] .done)))) 13 (.only 8 (.quiet [9, 10, 11, 12] (.only 14 (.quiet [15, 16] .done))))) 13 (.only 7 (.only 8 (.quiet [9, 10, 11, 12] (.only 14 (.quiet [15, 16] .done))))))) 99 (by kernel_rfl) (by kernel_rfl) ⟨G2.s.x.later (Below.refl _ _).drew, X2.later (Below.refl _ _).drew⟩ ?_
              intro W hW hWe
              have G3 : LS w gd go gs (.slice y1 d.bl.length m1) (.slice y3 d.ca.length m3) (.slice y4 d.qu.length m4) d (n0 + 1 + i) wb F W := by rw [hWe]; exact G2.below (Below.refl _ _).drew
              clear hWe G2 X2
              simp only [wpPlan, inOrder, List.filterMap_cons, List.filterMap_nil, List.getElem?_cons_zero, List.getElem?_cons_succ]
              have q0 := fun z => (hold_ok (S0 := fun W => Blk W gd 26 [.int .i64 d.dp, .int .i64 d.nx, .slice y1 d.bl.length m1, .slice y3 d.ca.length m3, .slice y4 d.qu.length m4] ∧ Blk W gx 57 [.int .i64 0, .int .u8 bv, .int .u8 vv, .int .u8 pv]) hW z).1.cell 0
              have q1 := fun z => (hold_ok (S0 := fun W => Blk W gd 26 [.int .i64 d.dp, .int .i64 d.nx, .slice y1 d.bl.length m1, .slice y3 d.ca.length m3, .slice y4 d.qu.length m4] ∧ Blk W gx 57 [.int .i64 0, .int .u8 bv, .int .u8 vv, .int .u8 pv]) hW z).1.cell 1
              have q2 := fun z => (hold_ok (S0 := fun W => Blk W gd 26 [.int .i64 d.dp, .int .i64 d.nx, .slice y1 d.bl.length m1, .slice y3 d.ca.length m3, .slice y4 d.qu.length m4] ∧ Blk W gx 57 [.int .i64 0, .int .u8 bv, .int .u8 vv, .int .u8 pv]) hW z).1.cell 2
              have q3 := fun z => (hold_ok (S0 := fun W => Blk W gd 26 [.int .i64 d.dp, .int .i64 d.nx, .slice y1 d.bl.length m1, .slice y3 d.ca.length m3, .slice y4 d.qu.length m4] ∧ Blk W gx 57 [.int .i64 0, .int .u8 bv, .int .u8 vv, .int .u8 pv]) hW z).1.cell 3
              have q4 := fun z => (hold_ok (S0 := fun W => Blk W gd 26 [.int .i64 d.dp, .int .i64 d.nx, .slice y1 d.bl.length m1, .slice y3 d.ca.length m3, .slice y4 d.qu.length m4] ∧ Blk W gx 57 [.int .i64 0, .int .u8 bv, .int .u8 vv, .int .u8 pv]) hW z).1.cell 4
              have q5 := fun z => (hold_ok (S0 := fun W => Blk W gd 26 [.int .i64 d.dp, .int .i64 d.nx, .slice y1 d.bl.length m1, .slice y3 d.ca.length m3, .slice y4 d.qu.length m4] ∧ Blk W gx 57 [.int .i64 0, .int .u8 bv, .int .u8 vv, .int .u8 pv]) hW z).2.cell 1
              have q6 := fun z => (hold_ok (S0 := fun W => Blk W gd 26 [.int .i64 d.dp, .int .i64 d.nx, .slice y1 d.bl.length m1, .slice y3 d.ca.length m3, .slice y4 d.qu.length m4] ∧ Blk W gx 57 [.int .i64 0, .int .u8 bv, .int .u8 vv, .int .u8 pv]) hW z).2.cell 2
              simp only [List.getElem?_cons_zero, List.getElem?_cons_succ] at q0 q1 q2 q3 q4 q5 q6
              show wpQuiet _ _ _ _ (_ :: _ :: _ :: _ :: _ :: _ :: [_]) _
              repeat (go_big_quiet_step (fail))
              refine wpQuiet_nil ?_
              clear q0 q1 q2 q3 q4 q5 q6
              have hgw : gd < W.heap.size := G3.s.x.lt
              have hxw : gx < W.heap.size := hW.2.lt
              have hwl := G3.s.l
              refine ⟨?_, ?_⟩
              · skip
                show wpList _ _ _ [_] _ _
                go_wp2_with fail
                refine (page_34 vv _).mono ?_
                rintro e w5 ⟨v, rfl, hv5, b5⟩
                obtain ⟨p5, q5, rfl, _, _, _, _⟩ := hv5.form (n := 32) pg_len
                go_wp2
                have G5 := G3.below b5
                have X5 := hW.2.later b5
                refine ⟨hold_of (S0 := fun W => Blk W gd 26 [.int .i64 d.dp, .int .i64 d.nx, .slice y1 d.bl.length m1, .slice y3 d.ca.length m3, .slice y4 d.qu.length m4] ∧ Blk W gx 57 [.int .i64 0, .int .u8 bv, .int .u8 vv, .int .u8 pv]) ⟨G5.s.x, X5⟩, ?_⟩
                refine ⟨?_, ?_⟩
                · skip
                  show wpList _ _ _ [_] _ _
                  go_wp2_with fail
                  refine (submit_d G5.s.rdv (pd_few G5.p) 2 bn hv5.rbv (by rw [pg_len]; omega)).mono ?_
                  rintro e w7 ⟨v, rfl, hO, b7⟩
                  rw [hP] at hO ⊢
                  obtain ⟨VB, VC, VQ, z1, k1, z3, k3, z4, k4, rfl, rfl, rfl, rfl, r1, r2, r3⟩ := hO.cells
                  dsimp only at r1 r2 r3 ⊢
                  have G7 := G5.below b7
                  have X7 := X5.later b7
                  go_wp2
                  refine ⟨hold_of (S0 := fun W => Blk W gd 26 [.int .i64 d.dp, .int .i64 d.nx, .slice y1 d.bl.length m1, .slice y3 d.ca.length m3, .slice y4 d.qu.length m4] ∧ Blk W gx 57 [.int .i64 0, .int .u8 bv, .int .u8 vv, .int .u8 pv]) ⟨G7.s.x, X7⟩, ?_⟩
                  show wpQuiet _ _ _ _ (_ :: _ :: _ :: [_]) _
                  repeat (go_big_quiet_step (fail))
                  refine wpQuiet_nil ?_
                  have hbz := below_box w7 (.cells #[.int .i64 E.dp, .int .i64 E.nx, .slice z1 E.bl.length k1, .slice z3 E.ca.length k3, .slice z4 E.qu.length k4] 26)
                  have hz : DS w w7.heap.size (.slice z1 E.bl.length k1) (.slice z3 E.ca.length k3) (.slice z4 E.qu.length k4) E _ := DS.new ⟨r1, r2, r3⟩ G5.s.b.size G7.s.b
                  have hG := G7.below hbz
                  have hX := X7.later hbz
                  have hG0 := G7.below (below_box w7 (.cells #[.int .i64 0, .int .i64 0, .slice none 0 0, .slice none 0 0, .slice none 0 0] 26))
                  have hX0 := X7.later (below_box w7 (.cells #[.int .i64 0, .int .i64 0, .slice none 0 0, .slice none 0 0, .slice none 0 0] 26))
                  have hzl : w.heap.size < w7.heap.size := by have := G7.s.x.lt; omega
                  show wpList _ _ _ [_] _ _
                  go_wp2
                  refine ⟨hold_of (S0 := fun W => Blk W gd 26 [.int .i64 d.dp, .int .i64 d.nx, .slice y1 d.bl.length m1, .slice y3 d.ca.length m3, .slice y4 d.qu.length m4] ∧ Blk W gx 57 [.int .i64 0, .int .u8 bv, .int .u8 vv, .int .u8 pv]) ⟨hG0.s.x, hX0⟩, ?_⟩
                  show wpList _ _ _ [_] _ _
                  go_wp2
                  refine ⟨hold_of (S0 := fun W => Blk W gd 26 [.int .i64 d.dp, .int .i64 d.nx, .slice y1 d.bl.length m1, .slice y3 d.ca.length m3, .slice y4 d.qu.length m4] ∧ Blk W gx 57 [.int .i64 0, .int .u8 bv, .int .u8 vv, .int .u8 pv]) ⟨hG.s.x, hX⟩, ?_⟩
                  show wpQuiet _ _ _ _ (_ :: [_]) _
                  repeat (go_big_quiet_step (fail))
                  refine wpQuiet_nil ?_
                  refine NoPanic.normal ?_
                  go_wp2
                  go_meet
                  case rel => exact ⟨_, z1, z3, z4, k1, k3, k4, rfl, rfl, rfl, hzl, hz, hG, hX⟩
                · show wpList _ _ _ [_] _ _
                  have Z6 := Blk.new w5 26 #[.int .i64 0, .int .i64 0, .slice none 0 0, .slice none 0 0, .slice none 0 0] [.int .i64 0, .int .i64 0, .slice none 0 0, .slice none 0 0, .slice none 0 0] rfl
                  have G6 := G5.below (below_box w5 (.cells #[.int .i64 0, .int .i64 0, .slice none 0 0, .slice none 0 0, .slice none 0 0] 26))
                  have X6 := X5.later (below_box w5 (.cells #[.int .i64 0, .int .i64 0, .slice none 0 0, .slice none 0 0, .slice none 0 0] 26))
                  have hv6 := hv5.k5 (K5.below (below_box w5 (.cells #[.int .i64 0, .int .i64 0, .slice none 0 0, .slice none 0 0, .slice none 0 0] 26)))
                  have hw5 := b5.size
                  have hzl : w.heap.size < w5.heap.size := by omega
                  have hne : gd ≠ w5.heap.size := by omega
                  have hxz : gx < w5.heap.size := by omega
                  go_wp2
                  refine ⟨hold_of (S0 := fun W => Blk W gd 26 [.int .i64 d.dp, .int .i64 d.nx, .slice y1 d.bl.length m1, .slice y3 d.ca.length m3, .slice y4 d.qu.length m4] ∧ Blk W gx 57 [.int .i64 0, .int .u8 bv, .int .u8 vv, .int .u8 pv]) ⟨G6.s.x, X6⟩, ?_⟩
                  show wpList _ _ _ [_] _ _
                  go_wp2_with fail
                  refine (submit_d G6.s.rdv (pd_few G6.p) 2 bn hv6.rbv (by rw [pg_len]; omega)).mono ?_
                  rintro e w7 ⟨v, rfl, hO, b7⟩
                  rw [hP] at hO ⊢
                  obtain ⟨VB, VC, VQ, z1, k1, z3, k3, z4, k4, rfl, rfl, rfl, rfl, r1, r2, r3⟩ := hO.cells
                  dsimp only at r1 r2 r3 ⊢
                  have G7 := G6.below b7
                  have X7 := X6.later b7
                  go_wp2
                  refine ⟨hold_of (S0 := fun W => Blk W gd 26 [.int .i64 d.dp, .int .i64 d.nx, .slice y1 d.bl.length m1, .slice y3 d.ca.length m3, .slice y4 d.qu.length m4] ∧ Blk W gx 57 [.int .i64 0, .int .u8 bv, .int .u8 vv, .int .u8 pv]) ⟨G7.s.x, X7⟩, ?_⟩
                  show wpQuiet _ _ _ _ (_ :: _ :: _ :: [_]) _
                  repeat (go_big_quiet_step (fail))
                  refine wpQuiet_nil ?_
                  have Z7 := Z6.later b7
                  have hz := DS.put G7.s.b (Nat.le_of_lt hzl) Z7 ⟨r1, r2, r3⟩ G6.s.b.size
                  have hG := G7.far5 Z7 hne hzl (.int .i64 E.dp) (.int .i64 E.nx) (.slice z1 E.bl.length k1) (.slice z3 E.ca.length k3) (.slice z4 E.qu.length k4)
                  have hX := far5B X7 (Nat.ne_of_lt hxz) (.int .i64 E.dp) (.int .i64 E.nx) (.slice z1 E.bl.length k1) (.slice z3 E.ca.length k3) (.slice z4 E.qu.length k4)
                  have c0 := Z7.cell 0
                  have c1 := Z7.cell 1
                  have c2 := Z7.cell 2
                  have c3 := Z7.cell 3
                  have c4 := Z7.cell 4
                  have f0 := Z7.frozen 0
                  have f1 := Z7.frozen 1
                  have f2 := Z7.frozen 2
                  have f3 := Z7.frozen 3
                  have f4 := Z7.frozen 4
                  simp only [List.getElem?_cons_zero, List.getElem?_cons_succ] at c0 c1 c2 c3 c4
                  show wpList _ _ _ [_] _ _
                  go_wp2
                  refine ⟨hold_of (S0 := fun W => Blk W gd 26 [.int .i64 d.dp, .int .i64 d.nx, .slice y1 d.bl.length m1, .slice y3 d.ca.length m3, .slice y4 d.qu.length m4] ∧ Blk W gx 57 [.int .i64 0, .int .u8 bv, .int .u8 vv, .int .u8 pv]) ⟨hG.s.x, hX⟩, ?_⟩
                  show wpQuiet _ _ _ _ (_ :: [_]) _
                  repeat (go_big_quiet_step (fail))
                  refine wpQuiet_nil ?_
                  refine NoPanic.normal ?_
                  go_wp2
                  go_meet
                  case rel => exact ⟨_, z1, z3, z4, k1, k3, k4, rfl, rfl, rfl, hzl, hz, hG, hX⟩
              · show wpList _ _ _ [_] _ _
                have Z4 := Blk.new W 26 #[.int .i64 0, .int .i64 0, .slice none 0 0, .slice none 0 0, .slice none 0 0] [.int .i64 0, .int .i64 0, .slice none 0 0, .slice none 0 0, .slice none 0 0] rfl
                have G4 := G3.below (below_box W (.cells #[.int .i64 0, .int .i64 0, .slice none 0 0, .slice none 0 0, .slice none 0 0] 26))
                have X4 := hW.2.later (below_box W (.cells #[.int .i64 0, .int .i64 0, .slice none 0 0, .slice none 0 0, .slice none 0 0] 26))
                have hzl : w.heap.size < W.heap.size := by omega
                have hne : gd ≠ W.heap.size := by omega
                have hxz : gx < W.heap.size := by omega
                go_wp2
                refine ⟨hold_of (S0 := fun W => Blk W gd 26 [.int .i64 d.dp, .int .i64 d.nx, .slice y1 d.bl.length m1, .slice y3 d.ca.length m3, .slice y4 d.qu.length m4] ∧ Blk W gx 57 [.int .i64 0, .int .u8 bv, .int .u8 vv, .int .u8 pv]) ⟨G4.s.x, X4⟩, ?_⟩
                show wpList _ _ _ [_] _ _
                go_wp2_with fail
                refine (page_34 vv _).mono ?_
                rintro e w5 ⟨v, rfl, hv5, b5⟩
                obtain ⟨p5, q5, rfl, _, _, _, _⟩ := hv5.form (n := 32) pg_len
                go_wp2
                have G5 := G4.below b5
                have X5 := X4.later b5
                have Z6 := Z4.later b5
                refine ⟨hold_of (S0 := fun W => Blk W gd 26 [.int .i64 d.dp, .int .i64 d.nx, .slice y1 d.bl.length m1, .slice y3 d.ca.length m3, .slice y4 d.qu.length m4] ∧ Blk W gx 57 [.int .i64 0, .int .u8 bv, .int .u8 vv, .int .u8 pv]) ⟨G5.s.x, X5⟩, ?_⟩
                show wpList _ _ _ [_] _ _
                go_wp2_with fail
                refine (submit_d G5.s.rdv (pd_few G5.p) 2 bn hv5.rbv (by rw [pg_len]; omega)).mono ?_
                rintro e w7 ⟨v, rfl, hO, b7⟩
                rw [hP] at hO ⊢
                obtain ⟨VB, VC, VQ, z1, k1, z3, k3, z4, k4, rfl, rfl, rfl, rfl, r1, r2, r3⟩ := hO.cells
                dsimp only at r1 r2 r3 ⊢
                have G7 := G5.below b7
                have X7 := X5.later b7
                go_wp2
                refine ⟨hold_of (S0 := fun W => Blk W gd 26 [.int .i64 d.dp, .int .i64 d.nx, .slice y1 d.bl.length m1, .slice y3 d.ca.length m3, .slice y4 d.qu.length m4] ∧ Blk W gx 57 [.int .i64 0, .int .u8 bv, .int .u8 vv, .int .u8 pv]) ⟨G7.s.x, X7⟩, ?_⟩
                show wpQuiet _ _ _ _ (_ :: _ :: _ :: [_]) _
                repeat (go_big_quiet_step (fail))
                refine wpQuiet_nil ?_
                have Z7 := Z6.later b7
                have hz := DS.put G7.s.b (Nat.le_of_lt hzl) Z7 ⟨r1, r2, r3⟩ G5.s.b.size
                have hG := G7.far5 Z7 hne hzl (.int .i64 E.dp) (.int .i64 E.nx) (.slice z1 E.bl.length k1) (.slice z3 E.ca.length k3) (.slice z4 E.qu.length k4)
                have hX := far5B X7 (Nat.ne_of_lt hxz) (.int .i64 E.dp) (.int .i64 E.nx) (.slice z1 E.bl.length k1) (.slice z3 E.ca.length k3) (.slice z4 E.qu.length k4)
                have c0 := Z7.cell 0
                have c1 := Z7.cell 1
                have c2 := Z7.cell 2
                have c3 := Z7.cell 3
                have c4 := Z7.cell 4
                have f0 := Z7.frozen 0
                have f1 := Z7.frozen 1
                have f2 := Z7.frozen 2
                have f3 := Z7.frozen 3
                have f4 := Z7.frozen 4
                simp only [List.getElem?_cons_zero, List.getElem?_cons_succ] at c0 c1 c2 c3 c4
                show wpList _ _ _ [_] _ _
                go_wp2
                refine ⟨hold_of (S0 := fun W => Blk W gd 26 [.int .i64 d.dp, .int .i64 d.nx, .slice y1 d.bl.length m1, .slice y3 d.ca.length m3, .slice y4 d.qu.length m4] ∧ Blk W gx 57 [.int .i64 0, .int .u8 bv, .int .u8 vv, .int .u8 pv]) ⟨hG.s.x, hX⟩, ?_⟩
                show wpQuiet _ _ _ _ (_ :: [_]) _
                repeat (go_big_quiet_step (fail))
                refine wpQuiet_nil ?_
                refine NoPanic.normal ?_
                go_wp2
                go_meet
                case rel => exact ⟨_, z1, z3, z4, k1, k3, k4, rfl, rfl, rfl, hzl, hz, hG, hX⟩
            case rest =>
              clear G2 X2
              obtain ⟨gz, z1, z3, z4, k1, k3, k4, rfl, rfl, rfl, hzl, hz, hG, hX⟩ := hcut
              rcases hcase with ⟨rfl, hp, hu⟩ | rfl
              · obtain ⟨ob, hob⟩ := get_some hG.u.1 hbn
                have hq := hG.write hz.r (Nat.le_refl _) hp hu
                have hco := (far5B hG.o (hG.o.ne_type hG.s.x (by decide)) (.int .i64 E.dp) (.int .i64 E.nx) (.slice z1 E.bl.length k1) (.slice z3 E.ca.length k3) (.slice z4 E.qu.length k4))
                have co := hco.cell bn
                rw [List.getElem?_map, hob] at co
                have cfo := hco.frozen bn
                have hxx := far5B hX (hX.ne_type hG.s.x (by decide)) (.int .i64 E.dp) (.int .i64 E.nx) (.slice z1 E.bl.length k1) (.slice z3 E.ca.length k3) (.slice z4 E.qu.length k4)
                have z1' := hxx.cell 1
                simp only [List.getElem?_cons_zero, List.getElem?_cons_succ, Option.map_some] at z1' co
                clear hob hco hxx hp hu
                have d0 := hG.s.x.cell 0
                have d1 := hG.s.x.cell 1
                have d2 := hG.s.x.cell 2
                have d3 := hG.s.x.cell 3
                have d4 := hG.s.x.cell 4
                simp only [List.getElem?_cons_zero, List.getElem?_cons_succ] at d0 d1 d2 d3 d4
                have df0 := hG.s.x.frozen 0
                have df1 := hG.s.x.frozen 1
                have df2 := hG.s.x.frozen 2
                have df3 := hG.s.x.frozen 3
                have df4 := hG.s.x.frozen 4
                have c0 := hz.x.cell 0
                have c1 := hz.x.cell 1
                have c2 := hz.x.cell 2
                have c3 := hz.x.cell 3
                have c4 := hz.x.cell 4
                simp only [List.getElem?_cons_zero, List.getElem?_cons_succ] at c0 c1 c2 c3 c4
                have HQ := Lib.hid hq
                clear hq
                go_upto_region 25 with fail
                have hq := HQ.out
                obtain ⟨w8, hw8⟩ : ∃ W, W = ((((wc.setCell ⟨gd, 0, none⟩ (.int .i64 E.dp)).setCell ⟨gd, 1, none⟩ (.int .i64 E.nx)).setCell ⟨gd, 2, none⟩ (.slice z1 E.bl.length k1)).setCell ⟨gd, 3, none⟩ (.slice z3 E.ca.length k3)).setCell ⟨gd, 4, none⟩ (.slice z4 E.qu.length k4) := ⟨_, rfl⟩
                rw [← hw8] at hq co cfo z1' ⊢
                clear hw8 HQ hG hX hz d0 d1 d2 d3 d4 df0 df1 df2 df3 df4 c0 c1 c2 c3 c4
                go_wp2
                go_roundg gg
                case rel => exact ⟨i + 1, z1, z3, z4, k1, k3, k4, E, wb.set bn true, by have := HG.out; omega, by go_num, hq.mono (by omega)⟩
                case measure => omega
              · go_wp2
                go_roundg gg
                case rel => exact ⟨i + 1, y1, y3, y4, m1, m3, m4, d, wb, by have := HG.out; omega, by go_num, hG.mono (by omega)⟩
                case measure => omega
          · have t0 : (wv == 0) = false := by simpa using hw0
            obtain ⟨ok, hok⟩ : ∃ b : Bool, (wv != 4) = b := ⟨_, rfl⟩
            have hPP : ∃ E Q r, cmpD d pn' ok = (E, Q, r) ∧ ((r = 0 ∧ PD E (n0 + 1 + i) ∧ UnW E F wb) ∨ r = 2) := by
              rcases Nat.lt_or_ge pn' d.qu.length with hq | hq
              · obtain ⟨E, Q, h1, h2, _⟩ := pd_cmp G2.p hq ok
                exact ⟨_, _, _, h1, .inl ⟨rfl, h2, by have := G2.u.cmp G2.p hq ok; rwa [h1] at this⟩⟩
              · exact ⟨_, _, _, pd_range G2.p hq ok, .inr rfl⟩
            obtain ⟨E, Q, r, hP, hcase⟩ := hPP
            have z3 := X2.cell 3
            simp only [List.getElem?_cons_zero, List.getElem?_cons_succ] at z3
            go_wp2_with fail
            refine (complete_d G2.s.rdv (pd_few G2.p) pn' ok).mono ?_
            rintro e w8 ⟨v, vq, rfl, hO, hQ, b8⟩
            rw [hP] at hO hQ ⊢
            obtain ⟨VB, VC, VQ, z1, k1, z3', k3, z4, k4, rfl, rfl, rfl, rfl, r1, r2, r3⟩ := hO.cells
            obtain ⟨sv, rfl, hsv⟩ := hQ
            obtain ⟨x5, k5, rfl, _, _, _, _⟩ := hsv.form rfl
            dsimp only at r1 r2 r3 ⊢
            have G8 := G2.below b8
            have hbz := below_box w8 (.cells #[.int .i64 E.dp, .int .i64 E.nx, .slice z1 E.bl.length k1, .slice z3' E.ca.length k3, .slice z4 E.qu.length k4] 26)
            have hby := below_box (w8.alloc (.cells #[.int .i64 E.dp, .int .i64 E.nx, .slice z1 E.bl.length k1, .slice z3' E.ca.length k3, .slice z4 E.qu.length k4] 26)) (.cells #[.int .i64 Q.1, .int .i64 Q.2.1, .int .i64 Q.2.2.1, .slice x5 Q.2.2.2.length k5] 39)
            have hz := (show DS w w8.heap.size _ _ _ E _ from DS.new ⟨r1, r2, r3⟩ G2.s.b.size G8.s.b).below hby
            have hG := (G8.below hbz).below hby
            clear G2 X2 G8 z0 z3 d0 d1 d2 d3 d4 r1 r2 r3 hO hsv b8 hbz hby hok
            go_upto_region 27 with fail
            obtain ⟨w9, hw9⟩ : ∃ W, W = (w8.alloc (.cells #[.int .i64 E.dp, .int .i64 E.nx, .slice z1 E.bl.length k1, .slice z3' E.ca.length k3, .slice z4 E.qu.length k4] 26)).alloc (.cells #[.int .i64 Q.1, .int .i64 Q.2.1, .int .i64 Q.2.2.1, .slice x5 Q.2.2.2.length k5] 39) := ⟨_, rfl⟩
            rw [← hw9] at hz hG ⊢
            clear hw9
            rcases hcase with ⟨rfl, hp, hu⟩ | rfl
            · have hq := hG.store hz.r (Nat.le_refl _) hp hu
              have d0 := hG.s.x.cell 0
              have d1 := hG.s.x.cell 1
              have d2 := hG.s.x.cell 2
              have d3 := hG.s.x.cell 3
              have d4 := hG.s.x.cell 4
              simp only [List.getElem?_cons_zero, List.getElem?_cons_succ] at d0 d1 d2 d3 d4
              have df0 := hG.s.x.frozen 0
              have df1 := hG.s.x.frozen 1
              have df2 := hG.s.x.frozen 2
              have df3 := hG.s.x.frozen 3
              have df4 := hG.s.x.frozen 4
              have c0 := hz.x.cell 0
              have c1 := hz.x.cell 1
              have c2 := hz.x.cell 2
              have c3 := hz.x.cell 3
              have c4 := hz.x.cell 4
              simp only [List.getElem?_cons_zero, List.getElem?_cons_succ] at c0 c1 c2 c3 c4
              have HQ := Lib.hid hq
              clear hq hG hz hp hu
              go_wp2
              go_roundg gg
              case rel => exact ⟨i + 1, z1, z3', z4, k1, k3, k4, E, wb, by have := HG.out; omega, by go_num, HQ.out.mono (by omega)⟩
              case measure => omega
            · go_wp2
              go_roundg gg
              case rel => exact ⟨i + 1, y1, y3, y4, m1, m3, m4, d, wb, by have := HG.out; omega, by go_num, hG.mono (by omega)⟩
              case measure => omega
    | succ gg =>
      have hi : i < 4 := by omega
      have HG := Lib.hid hg
      have HCN := Lib.hid (cont_nil pF HFC.out hi)
      have HB32 := Lib.hid (bl32 pF hi)
      clear hg
      have d0 := S6.x.cell 0
      have d1 := S6.x.cell 1
      have d2 := S6.x.cell 2
      have d3 := S6.x.cell 3
      have d4 := S6.x.cell 4
      simp only [List.getElem?_cons_zero, List.getElem?_cons_succ] at d0 d1 d2 d3 d4
      go_wp2_with fail
      refine (content_d S6.rdv (pd_few pF) i).mono ?_
      rintro e w7 ⟨v, rfl, hv, b7⟩
      rw [HCN.out] at hv
      obtain ⟨p7, q7, rfl, _, _, _, _⟩ := hv.form HB32.out
      have S7 := S6.below b7
      have O7 := O6.later b7
      have W7 := W6.below b7
      have W8 := W7.put hi hv
      obtain ⟨vs, hB7, hvl, hvs⟩ := id W7
      have S8 := S7.other hB7 (.inr (.inr rfl)) hgs i (.slice p7 32 q7)
      have O8 := O7.far (p := ⟨gs, i, none⟩) (O7.ne_type hB7 (by decide)) (.slice p7 32 q7)
      have cf := hB7.frozen i
      have c0 := hB7.cell i
      rw [List.getElem?_append_right (by omega), List.getElem?_replicate, if_pos (by omega)] at c0
      clear hv b7 S6 O6 W6 S7 O7 W7 hvl hvs hB7 d0 d1 d2 d3 d4
      go_wp2
      go_roundg gg
      case rel => exact ⟨i + 1, by have := HG.out; omega, by go_num, S8, O8, W8⟩
      case measure => omega
end Go.Proofs.Ytlhbjmoncdljoaa
