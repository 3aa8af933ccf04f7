/- Walks: Crash, of the program. -/
import Derived.Test.YtlhbjmoncdljoaaD19
namespace Go.Proofs.Ytlhbjmoncdljoaa
open Go.RowKit Go.Over Go.Dev Go.Seg Go.Grow
/-- Picks in memory. -/
def Pk (w : World) (a : Option Addr) (l : List Bool) : Prop :=
  0 < l.length → ∃ b off, a = some ⟨b, off, none⟩ ∧ ∀ i, i < l.length → w.cell? ⟨b, off + i, none⟩ = some (.bool (l.getD i false))
theorem Pk.below {w w' : World} {a : Option Addr} {l : List Bool} (h : Pk w a l) (hb : Below w.heap.size w w') : Pk w' a l := fun h0 => by
  obtain ⟨b, off, ha, hc⟩ := h h0
  exact ⟨b, off, ha, fun i hi => cell_later hb (hc i hi)⟩
/-- A crash under way. -/
structure KS (w : World) (A : List Value) (pv : Value) (gp gr B gd gn : Nat) (dp nx : Int) (VB VC VQ : Value) (n : Nat) (bl : List (List Int)) (ca : List Ca) (qu : List Rq) (W : World) : Prop where
  b : Below w.heap.size w W
  a : Blk W w.heap.size 26 A
  p : Blk W gp 47 [pv]
  r : Blk W gr 26 zD
  rows : Rows3 W B VB VC VQ bl ca qu
  d : Blk W gd 26 [.int .i64 dp, .int .i64 nx, VB, VC, VQ]
  n : Blk W gn 3 [.int .i64 n]
  l1 : w.heap.size < gp
  l2 : gp < gr
  l3 : gr < B
  l4 : B ≤ gd
  l5 : gd < gn
section
variable {w : World} {A : List Value} {pv : Value} {gp gr B gd gn : Nat} {dp nx : Int} {VB VC VQ : Value} {n : Nat} {bl : List (List Int)} {ca : List Ca} {qu : List Rq} {W W' : World}
theorem KS.below (h : KS w A pv gp gr B gd gn dp nx VB VC VQ n bl ca qu W) (hb : Below W.heap.size W W') : KS w A pv gp gr B gd gn dp nx VB VC VQ n bl ca qu W' :=
  ⟨below_then h.b hb, h.a.later hb, h.p.later hb, h.r.later hb, h.rows.below hb, h.d.later hb, h.n.later hb, h.l1, h.l2, h.l3, h.l4, h.l5⟩
/-- A block's content is stored in its place. -/
theorem KS.block (h : KS w A pv gp gr B gd gn dp nx VB VC VQ n bl ca qu W) {i : Nat} (hi : i < bl.length) {v : Value} {x : List Int} (hv : SlV W v x) :
    ∃ g c cur, VB = .slice (some ⟨g, 0, none⟩) bl.length c ∧ Blk W g 31 cur ∧ i < cur.length ∧ KS w A pv gp gr B gd gn dp nx VB VC VQ n (bl.set i x) ca qu (W.setCell ⟨g, i, none⟩ v) := by
  obtain ⟨g, c, cur, hV, hg, hB, hl, hr⟩ := h.rows.b.store1 EB (by decide) hi (u := v) (s := x) ⟨v, rfl, hv⟩
  have l1 := h.l1; have l2 := h.l2; have l3 := h.l3
  exact ⟨g, c, cur, hV, hB, hl, h.b.setCell (by show w.heap.size ≤ g; omega) _, h.a.far (h.a.ne_type hB (by decide)) _, h.p.far (h.p.ne_type hB (by decide)) _, h.r.far (h.r.ne_type hB (by decide)) _,
    ⟨hr, h.rows.c.far EC hB (by decide) (by decide) _ _, h.rows.q.far EQ hB (by decide) (by decide) _ _⟩, h.d.far (h.d.ne_type hB (by decide)) _, h.n.far (h.n.ne_type hB (by decide)) _, h.l1, h.l2, h.l3, h.l4, h.l5⟩
/-- The count goes on. -/
theorem KS.count (h : KS w A pv gp gr B gd gn dp nx VB VC VQ n bl ca qu W) (n' : Nat) : KS w A pv gp gr B gd gn dp nx VB VC VQ n' bl ca qu (W.setCell ⟨gn, 0, none⟩ (.int .i64 n')) := by
  have l1 := h.l1; have l2 := h.l2; have l3 := h.l3; have l4 := h.l4; have l5 := h.l5
  exact ⟨h.b.setCell (by show w.heap.size ≤ gn; omega) _, h.a.far (h.a.ne_type h.n (by decide)) _, h.p.far (h.p.ne_type h.n (by decide)) _, h.r.far (h.r.ne_type h.n (by decide)) _,
    ⟨h.rows.b.far EB h.n (by decide) (by decide) _ _, h.rows.c.far EC h.n (by decide) (by decide) _ _, h.rows.q.far EQ h.n (by decide) (by decide) _ _⟩, h.d.far (h.d.ne_type h.n (by decide)) _, h.n.set 0 _, h.l1, h.l2, h.l3, h.l4, h.l5⟩
/-- Cache and queue are emptied. -/
theorem KS.emptied (h : KS w A pv gp gr B gd gn dp nx VB VC VQ n bl ca qu W) : KS w A pv gp gr B gd gn dp nx VB (.slice none 0 0) (.slice none 0 0) n bl [] [] ((W.setCell ⟨gd, 3, none⟩ (.slice none 0 0)).setCell ⟨gd, 4, none⟩ (.slice none 0 0)) := by
  have l1 := h.l1; have l2 := h.l2; have l3 := h.l3; have l4 := h.l4; have l5 := h.l5
  have hd := h.d.set 3 (.slice none 0 0)
  exact ⟨(h.b.setCell (by show w.heap.size ≤ gd; omega) _).setCell (by show w.heap.size ≤ gd; omega) _, (h.a.far (by show w.heap.size ≠ gd; omega) _).far (by show w.heap.size ≠ gd; omega) _, (h.p.far (h.p.ne_type h.d (by decide)) _).far (h.p.ne_type h.d (by decide)) _,
    (h.r.far (by show gr ≠ gd; omega) _).far (by show gr ≠ gd; omega) _, ⟨(h.rows.b.far EB h.d (by decide) (by decide) _ _).far EB hd (by decide) (by decide) _ _, Row.nil _ _, Row.nil _ _⟩, hd.set 4 _, (h.n.far (h.n.ne_type h.d (by decide)) _).far (h.n.ne_type h.d (by decide)) _, h.l1, h.l2, h.l3, h.l4, h.l5⟩
end
theorem kp_set {picks : List Bool} {n : Nat} {bl : List (List Int)} {f : Nat} {s : List Int} (h : picks.getD n false = true) : kp picks n bl f s = bl.set f s := by unfold kp; rw [if_pos h]; rfl
theorem kp_not {picks : List Bool} {n : Nat} {bl : List (List Int)} {f : Int} {s : List Int} (h : picks.getD n false = false) : kp picks n bl f s = bl := by unfold kp; rw [if_neg (by rw [h]; decide)]
set_option maxRecDepth 100000 in set_option maxHeartbeats 3200000 in
theorem keep_51 (w : World) (A : List Value) (pa : Option Addr) (pn pc : Nat) (picks : List Bool) (gp gr B gd gn : Nat) (dp nx : Int) (VB VC VQ : Value) (n nB : Nat) (bl : List (List Int)) (ca : List Ca) (qu : List Rq) (W : World)
    (K : KS w A (.slice pa pn pc) gp gr B gd gn dp nx VB VC VQ n bl ca qu W) (HP : Pk w pa picks) (hpn : picks.length = pn) (hB : bl.length = nB) (f : Nat) (hf : f < nB) (a : Option Addr) (s : List Int) (m c : Nat) (H : Bt W a s) (hm : s.length = m) (hz : a = none → c = 0) (hnc : m ≤ c) (hm2 : m ≤ 1000) (hn : n ≤ 100000) :
    Calls Try.prog 51 #[.int .i64 f, .slice a m c, .pointer (some ⟨gn, 0, none⟩), .pointer (some ⟨gp, 0, none⟩), .pointer (some ⟨gd, 0, none⟩)] W fun e W' => ∃ v, e = .returned v ∧ KS w A (.slice pa pn pc) gp gr B gd gn dp nx VB VC VQ (n + 1) (kp picks n bl f s) ca qu W' := by
  obtain ⟨bit, hbit⟩ : ∃ b, picks.getD n false = b := ⟨_, rfl⟩
  have n0 := K.n.cell 0
  have nf := K.n.frozen 0
  have p0 := K.p.cell 0
  have l4 := K.l4; have l5 := K.l5
  simp only [List.getElem?_cons_zero] at n0 p0
  have e1 : IntKind.i64.wrap ((n : Int) + 1) = ((n + 1 : Nat) : Int) := by rw [IntWalk.i64_in _ (by omega)]; omega
  have NB := Lib.hid hB; have HM := Lib.hid hm
  clear hB hm
  cases bit with
  | false =>
    rw [kp_not hbit]
    by_cases hlt : n < pn
    · obtain ⟨b, off, rfl, hc⟩ := (HP.below K.b) (by omega)
      have c0 := hc n (by omega)
      rw [hbit] at c0
      clear hc hbit
      go_enter Try.func51, Try.ntmps51
      go_wp2
      refine bodyPost_end (results_none rfl _ _ _) rfl ⟨_, rfl, K.count (n + 1)⟩
    · have t1 : decide ((n : Int) < (pn : Int)) = false := by simp; omega
      have hge : pn ≤ n := by omega
      clear hbit hlt
      go_enter Try.func51, Try.ntmps51
      go_wp2
      refine bodyPost_end (results_none rfl _ _ _) rfl ⟨_, rfl, K.count (n + 1)⟩
  | true =>
    rw [kp_set hbit]
    have hlt : n < pn := by
      rcases Nat.lt_or_ge n pn with h | h
      · exact h
      · rw [List.getD_eq_getElem?_getD, List.getElem?_eq_none (by omega)] at hbit; simp at hbit
    obtain ⟨b, off, rfl, hc⟩ := (HP.below K.b) (by omega)
    have c0 := hc n (by omega)
    rw [hbit] at c0
    obtain ⟨g1, k1, hV1, _, _, _⟩ := K.rows.b.get EB (by rw [NB.out]; omega)
    rw [NB.out] at hV1
    subst hV1
    clear hc hbit
    go_enter Try.func51, Try.ntmps51
    go_wp2_with fail
    clear c0 n0 nf p0
    refine wp_region_in (fun W => Blk W gd 26 [.int .i64 dp, .int .i64 nx, .slice (some ⟨g1, 0, none⟩) nB k1, VC, VQ]) [(true, 4), (false, 1), (true, 1), (false, 1)] [0, 1, 2, 3, 4, 5, 6] 6 (by kernel_rfl) (by kernel_rfl) (K.d.later (Below.refl _ _).drew) ?_
    intro W1 hW hWe
    have K1 : KS w A (.slice (some ⟨b, off, none⟩) pn pc) gp gr B gd gn dp nx (.slice (some ⟨g1, 0, none⟩) nB k1) VC VQ n bl ca qu W1 := by rw [hWe]; exact K.below (Below.refl _ _).drew
    have hbt : Bt W1 a s := by rw [hWe]; exact H.below (Below.refl _ _).drew
    clear hWe K H
    simp only [wpSegsL, inOrder, List.filterMap_cons, List.filterMap_nil, List.getElem?_cons_zero, List.getElem?_cons_succ, List.take_succ_cons, List.take_zero, List.drop_succ_cons, List.drop_zero]
    have q2 := fun z => (hold_ok (S0 := fun W => Blk W gd 26 [.int .i64 dp, .int .i64 nx, .slice (some ⟨g1, 0, none⟩) nB k1, VC, VQ]) hW z).cell 2
    simp only [List.getElem?_cons_zero, List.getElem?_cons_succ] at q2
    repeat (go_big_quiet_step (fail))
    refine wpQuiet_nil ?_
    clear q2 hW
    go_wp2_with fail
    refine (clone_44 a s m c W1 hbt HM.out hz hnc (by omega)).mono ?_
    rintro e w2 ⟨v, rfl, hv2, b2⟩
    obtain ⟨a2, c2, rfl, _, _, _, _⟩ := hv2.form HM.out
    have K2 := K1.below b2
    go_wp2
    refine ⟨hold_of (S0 := fun W => Blk W gd 26 [.int .i64 dp, .int .i64 nx, .slice (some ⟨g1, 0, none⟩) nB k1, VC, VQ]) K2.d, ?_⟩
    show wpQuiet _ _ _ _ [_] _
    repeat (go_big_quiet_step (fail))
    refine wpQuiet_nil ?_
    obtain ⟨g1', k1', cur, hV1, hB1, hl1, K3⟩ := K2.block (i := f) (by rw [NB.out]; exact hf) hv2
    rw [NB.out] at hV1
    cases hV1
    obtain ⟨u0, hu0⟩ : ∃ u, cur[f]? = some u := ⟨cur[f]'hl1, List.getElem?_eq_getElem hl1⟩
    have kc := hB1.cell f
    rw [hu0] at kc
    have kf := hB1.frozen f
    clear K1 hv2 b2 hu0 hB1 hbt K2
    have n0 := K3.n.cell 0
    have nf := K3.n.frozen 0
    simp only [List.getElem?_cons_zero] at n0
    have K4 := K3.count (n + 1)
    go_wp2
    refine ⟨trivial, NoPanic.normal ?_⟩
    go_wp2
    refine bodyPost_end (results_none rfl _ _ _) rfl ⟨_, rfl, K4⟩
end Go.Proofs.Ytlhbjmoncdljoaa
