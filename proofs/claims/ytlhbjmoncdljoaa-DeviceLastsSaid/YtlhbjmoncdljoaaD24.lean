/- Contracts over devices as values. -/
import Derived.Test.YtlhbjmoncdljoaaD13
import Derived.Test.YtlhbjmoncdljoaaD19
import Derived.Test.YtlhbjmoncdljoaaD15
import Derived.Test.YtlhbjmoncdljoaaD21
import Derived.Test.YtlhbjmoncdljoaaD22
import Derived.Test.YtlhbjmoncdljoaaD23
namespace Go.Proofs.Ytlhbjmoncdljoaa
open Go.RowKit Go.Over Go.Dev Go.Seg Go.Grow
/-- A value that is read as a device. -/
def Rdv (W : World) (v : Value) (d : D) : Prop := ∃ aB cB aC cC aQ cQ, v = .agg #[.int .i64 d.dp, .int .i64 d.nx, .slice aB d.bl.length cB, .slice aC d.ca.length cC, .slice aQ d.qu.length cQ] ∧ Bls W aB d.bl ∧ Cas W aC d.ca ∧ Rqs W aQ d.qu
/-- A value that is read as a request. -/
def Rqv (W : World) (v : Value) (q : Rq) : Prop := ∃ a c, v = .agg #[.int .i64 q.1, .int .i64 q.2.1, .int .i64 q.2.2.1, .slice a q.2.2.2.length c] ∧ q.2.2.2.length ≤ c ∧ c ≤ maxLen ∧ (a = none → c = 0) ∧ Bt W a q.2.2.2
/-- A value that is read as bytes. -/
def Rbv (W : World) (v : Value) (s : List Int) : Prop := ∃ a c, v = .slice a s.length c ∧ s.length ≤ c ∧ c ≤ maxLen ∧ (a = none → c = 0) ∧ Bt W a s
def Few (d : D) : Prop := d.bl.length ≤ 1000000 ∧ d.ca.length ≤ 1000000 ∧ d.qu.length ≤ 1000000
section
variable {W W' : World} {B : Nat} {v v' : Value} {d d' : D} {q q' : Rq} {s s' : List Int}
theorem Rdv.below (h : Rdv W v d) (hb : Below W.heap.size W W') : Rdv W' v d := by
  obtain ⟨aB, cB, aC, cC, aQ, cQ, hv, h1, h2, h3⟩ := h
  exact ⟨aB, cB, aC, cC, aQ, cQ, hv, h1.below hb, h2.below hb, h3.below hb⟩
theorem Rqv.below (h : Rqv W v q) (hb : Below W.heap.size W W') : Rqv W' v q := by
  obtain ⟨a, c, h1, h2, h3, h4, h5⟩ := h
  exact ⟨a, c, h1, h2, h3, h4, h5.below hb⟩
theorem Rbv.below (h : Rbv W v s) (hb : Below W.heap.size W W') : Rbv W' v s := by
  obtain ⟨a, c, h1, h2, h3, h4, h5⟩ := h
  exact ⟨a, c, h1, h2, h3, h4, h5.below hb⟩
theorem OwnD.rdv (h : OwnD W B v d) : Rdv W v d := by
  obtain ⟨VB, VC, VQ, rfl, h1, h2, h3⟩ := h
  obtain ⟨a1, c1, e1, _, _, _, g1⟩ := h1.bls rfl
  obtain ⟨a2, c2, e2, _, _, _, g2⟩ := h2.cas rfl
  obtain ⟨a3, c3, e3, _, _, _, g3⟩ := h3.rqs rfl
  subst e1 e2 e3
  exact ⟨a1, c1, a2, c2, a3, c3, rfl, g1, g2, g3⟩
theorem OwnQ.rqv (h : OwnQ W v q) : Rqv W v q := by
  obtain ⟨sv, rfl, hv⟩ := h
  obtain ⟨a, c, rfl, h1, h2, h3, h4⟩ := hv.form rfl
  exact ⟨a, c, rfl, h1, h2, h3, h4⟩
theorem SlV.rbv (h : SlV W v s) : Rbv W v s := by
  obtain ⟨a, c, rfl, h1, h2, h3, h4⟩ := h.form rfl
  exact ⟨a, c, rfl, h1, h2, h3, h4⟩
theorem check_d (h : Rdv W v d) (m : Few d) : Calls Try.prog 13 #[v] W fun e w' => e = .returned (.int .i64 (chk d)) ∧ Below W.heap.size W w' := by
  obtain ⟨aB, cB, aC, cC, aQ, cQ, rfl, h1, h2, h3⟩ := h
  exact check_13 d.dp d.nx aB aC aQ d.bl d.ca d.qu _ cB _ cC _ cQ W h1 h2 h3 rfl rfl rfl m.1 m.2.1 m.2.2
theorem check_r (h : Rdv W v d) (m : Few d) : Calls Try.prog 14 #[v] W fun e w' => e = .returned (.int .i64 (chk d)) ∧ Below W.heap.size W w' := by
  obtain ⟨aB, cB, aC, cC, aQ, cQ, rfl, h1, h2, h3⟩ := h
  exact check_14 d.dp d.nx aB aC aQ d.bl d.ca d.qu _ cB _ cC _ cQ W h1 h2 h3 rfl rfl rfl m.1 m.2.1 m.2.2
theorem few_d (h : Rdv W v d) : Calls Try.prog 12 #[v] W fun e w' => e = .returned (.bool (fewD d)) ∧ Below W.heap.size W w' := by
  obtain ⟨aB, cB, aC, cC, aQ, cQ, rfl, h1, h2, h3⟩ := h
  exact few_12 d.dp d.nx aB aC aQ d.bl d.ca d.qu _ cB _ cC _ cQ W h1 h2 h3 rfl rfl rfl
theorem choices_d (h : Rdv W v d) (m : Few d) : Calls Try.prog 20 #[v] W fun e w' => e = .returned (.int .i64 (chN d)) ∧ Below W.heap.size W w' := by
  obtain ⟨aB, cB, aC, cC, aQ, cQ, rfl, h1, h2, h3⟩ := h
  exact choices_20 d.dp d.nx aB aC aQ d.bl d.ca d.qu _ cB _ cC _ cQ W h1 h2 h3 rfl rfl rfl m.1 m.2.1 m.2.2
theorem choices_r (h : Rdv W v d) (m : Few d) : Calls Try.prog 21 #[v] W fun e w' => e = .returned (.int .i64 (chN d)) ∧ Below W.heap.size W w' := by
  obtain ⟨aB, cB, aC, cC, aQ, cQ, rfl, h1, h2, h3⟩ := h
  exact choices_21 d.dp d.nx aB aC aQ d.bl d.ca d.qu _ cB _ cC _ cQ W h1 h2 h3 rfl rfl rfl m.1 m.2.1 m.2.2
theorem content_d (h : Rdv W v d) (m : Few d) (f : Int) : Calls Try.prog 16 #[v, .int .i64 f] W fun e w' => ∃ u, e = .returned u ∧ SlV w' u (contD d f) ∧ Below W.heap.size W w' := by
  obtain ⟨aB, cB, aC, cC, aQ, cQ, rfl, h1, h2, h3⟩ := h
  exact content_16 d.dp d.nx aB aC aQ d.bl d.ca d.qu _ cB _ cC _ cQ f W h1 h2 h3 rfl rfl rfl m.1 m.2.1 m.2.2
theorem content_r (h : Rdv W v d) (m : Few d) (f : Int) : Calls Try.prog 17 #[v, .int .i64 f] W fun e w' => ∃ u, e = .returned u ∧ SlV w' u (contD d f) ∧ Below W.heap.size W w' := by
  obtain ⟨aB, cB, aC, cC, aQ, cQ, rfl, h1, h2, h3⟩ := h
  exact content_17 d.dp d.nx aB aC aQ d.bl d.ca d.qu _ cB _ cC _ cQ f W h1 h2 h3 rfl rfl rfl m.1 m.2.1 m.2.2
theorem durable_d (h : Rdv W v d) (m : Few d) (f : Int) : Calls Try.prog 18 #[v, .int .i64 f] W fun e w' => ∃ u, e = .returned u ∧ SlV w' u (durD d f) ∧ Below W.heap.size W w' := by
  obtain ⟨aB, cB, aC, cC, aQ, cQ, rfl, h1, h2, h3⟩ := h
  exact durable_18 d.dp d.nx aB aC aQ d.bl d.ca d.qu _ cB _ cC _ cQ f W h1 h2 h3 rfl rfl rfl m.1 m.2.1 m.2.2
theorem durable_r (h : Rdv W v d) (m : Few d) (f : Int) : Calls Try.prog 19 #[v, .int .i64 f] W fun e w' => ∃ u, e = .returned u ∧ SlV w' u (durD d f) ∧ Below W.heap.size W w' := by
  obtain ⟨aB, cB, aC, cC, aQ, cQ, rfl, h1, h2, h3⟩ := h
  exact durable_19 d.dp d.nx aB aC aQ d.bl d.ca d.qu _ cB _ cC _ cQ f W h1 h2 h3 rfl rfl rfl m.1 m.2.1 m.2.2
theorem submit_d (h : Rdv W v d) (m : Few d) (k b : Int) (hs : Rbv W v' s) (ms : s.length ≤ 1000) : Calls Try.prog 25 #[v, .int .i64 k, .int .i64 b, v'] W (DevAns2 (subD d k b s) W) := by
  obtain ⟨aB, cB, aC, cC, aQ, cQ, rfl, h1, h2, h3⟩ := h
  obtain ⟨a, c, rfl, g1, g2, g3, g4⟩ := hs
  exact submit_25 d.dp d.nx aB aC aQ d.bl d.ca d.qu _ cB _ cC _ cQ k b a s _ c W h1 h2 h3 rfl rfl rfl m.1 m.2.1 m.2.2 g4 rfl g3 g1 ms
theorem submit_r (h : Rdv W v d) (m : Few d) (k b : Int) (hs : Rbv W v' s) (ms : s.length ≤ 1000) : Calls Try.prog 26 #[v, .int .i64 k, .int .i64 b, v'] W (DevAns2 (subD d k b s) W) := by
  obtain ⟨aB, cB, aC, cC, aQ, cQ, rfl, h1, h2, h3⟩ := h
  obtain ⟨a, c, rfl, g1, g2, g3, g4⟩ := hs
  exact submit_26 d.dp d.nx aB aC aQ d.bl d.ca d.qu _ cB _ cC _ cQ k b a s _ c W h1 h2 h3 rfl rfl rfl m.1 m.2.1 m.2.2 g4 rfl g3 g1 ms
theorem complete_d (h : Rdv W v d) (m : Few d) (p : Int) (ok : Bool) : Calls Try.prog 27 #[v, .int .i64 p, .bool ok] W (DevAns3 (cmpD d p ok) W) := by
  obtain ⟨aB, cB, aC, cC, aQ, cQ, rfl, h1, h2, h3⟩ := h
  exact complete_27 d.dp d.nx aB aC aQ d.bl d.ca d.qu _ cB _ cC _ cQ p ok W h1 h2 h3 rfl rfl rfl m.1 m.2.1 m.2.2
theorem complete_r (h : Rdv W v d) (m : Few d) (p : Int) (ok : Bool) : Calls Try.prog 28 #[v, .int .i64 p, .bool ok] W (DevAns3 (cmpD d p ok) W) := by
  obtain ⟨aB, cB, aC, cC, aQ, cQ, rfl, h1, h2, h3⟩ := h
  exact complete_28 d.dp d.nx aB aC aQ d.bl d.ca d.qu _ cB _ cC _ cQ p ok W h1 h2 h3 rfl rfl rfl m.1 m.2.1 m.2.2
theorem crash_d (h : Rdv W v d) (m : Few d) (pa : Option Addr) (pn pc : Nat) (picks : List Bool) (hp : Pk W pa picks) (hn : picks.length = pn) : Calls Try.prog 30 #[v, .slice pa pn pc] W (DevAns (crD d picks) W) := by
  obtain ⟨aB, cB, aC, cC, aQ, cQ, rfl, h1, h2, h3⟩ := h
  exact crash_30 d.dp d.nx aB aC aQ d.bl d.ca d.qu _ cB _ cC _ cQ pa pn pc picks W h1 h2 h3 rfl rfl rfl m.1 m.2.1 m.2.2 hp hn
theorem same_b (h : Rbv W v s) (h' : Rbv W v' s') (m : s.length ≤ 1000000) (m' : s'.length ≤ 1000000) : Calls Try.prog 15 #[v, v'] W fun e w' => e = .returned (.bool (decide (s = s'))) ∧ Below W.heap.size W w' := by
  obtain ⟨a, c, rfl, g1, g2, g3, g4⟩ := h
  obtain ⟨a', c', rfl, g1', g2', g3', g4'⟩ := h'
  exact same_15 a a' s s' _ _ c c' W g4 g4' rfl rfl m m'
theorem same_q (h : Rqv W v q) (h' : Rqv W v' q') (m : q.2.2.2.length ≤ 1000000) (m' : q'.2.2.2.length ≤ 1000000) : Calls Try.prog 29 #[v, v'] W fun e w' => e = .returned (.bool (decide (q = q'))) ∧ Below W.heap.size W w' := by
  obtain ⟨a, c, rfl, g1, g2, g3, g4⟩ := h
  obtain ⟨a', c', rfl, g1', g2', g3', g4'⟩ := h'
  exact sameq_29 _ _ _ _ _ _ a a' _ _ _ _ c c' W g4 g4' rfl rfl m m'
theorem crash_r (h : Rdv W v d) (m : Few d) (pa : Option Addr) (pn pc : Nat) (picks : List Bool) (hp : Pk W pa picks) (hn : picks.length = pn) : Calls Try.prog 31 #[v, .slice pa pn pc] W (DevAns (crD d picks) W) := by
  obtain ⟨aB, cB, aC, cC, aQ, cQ, rfl, h1, h2, h3⟩ := h
  exact crash_31 d.dp d.nx aB aC aQ d.bl d.ca d.qu _ cB _ cC _ cQ pa pn pc picks W h1 h2 h3 rfl rfl rfl m.1 m.2.1 m.2.2 hp hn
/-- Data of moderate length. -/
def Mod (d : D) : Prop := (∀ b ∈ d.bl, b.length ≤ 1000) ∧ (∀ c ∈ d.ca, c.2.length ≤ 1000) ∧ (∀ q ∈ d.qu, q.2.2.2.length ≤ 1000)
theorem same_d (h : Rdv W v d) (h' : Rdv W v' d') (m : Few d) (l : Mod d) (l' : Mod d') : Calls Try.prog 24 #[v, v'] W fun e w' => e = .returned (.bool (sameD d d')) ∧ Below W.heap.size W w' := by
  obtain ⟨aB, cB, aC, cC, aQ, cQ, rfl, h1, h2, h3⟩ := h
  obtain ⟨aB', cB', aC', cC', aQ', cQ', rfl, h1', h2', h3'⟩ := h'
  exact same_24 d.dp d.nx aB aC aQ d.bl d.ca d.qu _ cB _ cC _ cQ d'.dp d'.nx aB' aC' aQ' d'.bl d'.ca d'.qu _ cB' _ cC' _ cQ' W h1 h2 h3 rfl rfl rfl m.1 m.2.1 m.2.2 l.1 l.2.1 l.2.2 h1' h2' h3' rfl rfl rfl l'.1 l'.2.1 l'.2.2
/-- A device variable of a function that makes it. -/
structure DS (w : World) (g : Nat) (VB VC VQ : Value) (d : D) (W : World) : Prop where
  b : Below w.heap.size w W
  l : w.heap.size ≤ g
  x : Blk W g 26 [.int .i64 d.dp, .int .i64 d.nx, VB, VC, VQ]
  r : Rows3 W w.heap.size VB VC VQ d.bl d.ca d.qu
section
variable {w : World} {g : Nat} {VB VC VQ VB' VC' VQ' : Value}
theorem DS.below (h : DS w g VB VC VQ d W) (hb : Below W.heap.size W W') : DS w g VB VC VQ d W' := ⟨below_then h.b hb, h.l, h.x.later hb, h.r.below hb⟩
theorem DS.rdv (h : DS w g VB VC VQ d W) : Rdv W (.agg #[.int .i64 d.dp, .int .i64 d.nx, VB, VC, VQ]) d := (h.r.own d.dp d.nx).rdv
theorem DS.new {w1 : World} (r : Rows3 w1 B VB VC VQ d.bl d.ca d.qu) (hB : w.heap.size ≤ B) (hb : Below w.heap.size w w1) : DS w w1.heap.size VB VC VQ d (w1.alloc (.cells #[.int .i64 d.dp, .int .i64 d.nx, VB, VC, VQ] 26)) :=
  ⟨below_then hb (below_box _ _), hb.size, Blk.new w1 26 _ _ rfl, (r.weaken hB).below (below_box _ _)⟩
theorem DS.store (h : DS w g VB VC VQ d W) (r : Rows3 W B VB' VC' VQ' d'.bl d'.ca d'.qu) (hB : w.heap.size ≤ B) :
    DS w g VB' VC' VQ' d' (((((W.setCell ⟨g, 0, none⟩ (.int .i64 d'.dp)).setCell ⟨g, 1, none⟩ (.int .i64 d'.nx)).setCell ⟨g, 2, none⟩ VB').setCell ⟨g, 3, none⟩ VC').setCell ⟨g, 4, none⟩ VQ') :=
  ⟨below5 h.b h.l _ _ _ _ _, h.l, set5 h.x _ _ _ _ _, (r.weaken hB).dev5 h.x _ _ _ _ _⟩
end
end
end Go.Proofs.Ytlhbjmoncdljoaa
