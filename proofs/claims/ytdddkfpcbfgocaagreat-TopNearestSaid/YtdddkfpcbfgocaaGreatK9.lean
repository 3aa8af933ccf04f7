/- Three zones on three nodes: what the statement on the nearest zone keeps. -/
import Derived.Test.YtdddkfpcbfgocaaGreatK8
namespace Go.Zn
open Go.Can
def np0 : Z := ⟨0, 0, 0, 6, 1, fun _ => []⟩
def np1 : Z := ⟨2, 1, 6, 4, 1, fun _ => []⟩
def np2 : Z := ⟨1, 0, 10, 5, 2, fun _ => []⟩
def npz (z : Nat) : Z := if z = 0 then np0 else if z = 1 then np1 else np2
structure Sh3 (a : A) : Prop where
  nodes : a.nodes = [0, 2, 1]
  nz : a.zs.length = 3
  nc : a.cs.length = 3
  p : ∀ z, z < 3 → Par (npz z) (zn a z)
theorem Sh3.of {a b : A} (h : Sh3 a) (s : Sa a b) : Sh3 b :=
  ⟨by rw [s.nodes]; exact h.nodes, by rw [s.nz]; exact h.nz, by rw [s.nc]; exact h.nc, fun z hz => (h.p z hz).trans (s.par z)⟩
end Go.Zn
namespace Go.Proofs.YtdddkfpcbfgocaaGreat
open Go.RowKit Go.Over Go.Zn Go.Can Go.Seg Go.Grow
theorem ps_N : PS [np0, np1, np2] := ⟨by decide, by decide, fun z hz => by
  simp at hz; rcases hz with rfl | rfl | rfl <;> decide, fun z hz => by
  simp at hz; rcases hz with rfl | rfl | rfl
  · exact .inl rfl
  · exact .inr rfl
  · exact .inl rfl, fun z hz => by simp at hz; rcases hz with rfl | rfl | rfl <;> decide, fun z hz => by simp at hz; rcases hz with rfl | rfl | rfl <;> decide, by decide⟩
/-- What a new allocator of these zones is. -/
def NewN (w : World) (e : Ending) (w' : World) : Prop :=
  ∃ v a, e = .returned (.tuple #[v, .int .i64 0]) ∧ Ra w' v a ∧ VA a ∧ Sh3 a ∧ Below w.heap.size w w'
theorem NewQ.n {w w' : World} {e : Ending} (h : NewQ w [0, 2, 1] 2 3 [np0, np1, np2] e w') : NewN w e w' := by
  obtain ⟨v, a, rfl, hR, hV, hb, e1, e2, e3, e4, e5, e6, e7⟩ := h
  refine ⟨v, a, rfl, hR, hV, ⟨e1, e4, by rw [hV.nc, e1]; rfl, fun z hz => ?_⟩, hb⟩
  rcases (show z = 0 ∨ z = 1 ∨ z = 2 by omega) with rfl | rfl | rfl
  · obtain ⟨p1, p2, p3, p4, p5⟩ := e5 0 np0 rfl
    exact ⟨p1, p2, p3, p4, p5⟩
  · obtain ⟨p1, p2, p3, p4, p5⟩ := e5 1 np1 rfl
    exact ⟨p1, p2, p3, p4, p5⟩
  · obtain ⟨p1, p2, p3, p4, p5⟩ := e5 2 np2 rfl
    exact ⟨p1, p2, p3, p4, p5⟩
/-- The allocator in its variable, beside the zones and the nodes that it was made of. -/
structure KN (w : World) (g5 bz bn : Nat) (s : Sh) (zc ccs : List Value) (a : A) (W : World) : Prop where
  b : Below w.heap.size w W
  l5 : w.heap.size ≤ g5
  x : Blk W g5 28 (s.cells a.bt a.hi)
  z : Blk W bz 56 [.int .i64 0, .int .i64 0, .int .i64 6, .int .i64 1, .int .i64 2, .int .i64 1, .int .i64 4, .int .i64 1, .int .i64 1, .int .i64 0, .int .i64 5, .int .i64 2]
  n : Blk W bn 3 [.int .i64 0, .int .i64 2, .int .i64 1]
  v : AW W s zc ccs a
  V : VA a
  S : Sh3 a
section
variable {w W W' : World} {g5 bz bn g : Nat} {s s' : Sh} {zc ccs zc' ccs' cs : List Value} {a a' : A}
theorem KN.below (h : KN w g5 bz bn s zc ccs a W) (hb : Below W.heap.size W W') : KN w g5 bz bn s zc ccs a W' :=
  ⟨below_then h.b hb, h.l5, h.x.later hb, h.z.later hb, h.n.later hb, h.v.below hb, h.V, h.S⟩
theorem KN.aput (h : KN w g5 bz bn s zc ccs a W) (hB : Blk W' g5 28 (s'.cells a'.bt a'.hi)) (hv : AW W s' zc' ccs' a') (hg : W.grownBy W' (some g5)) (hV : VA a') (hS : Sh3 a') : KN w g5 bz bn s' zc' ccs' a' W' := by
  have kp : ∀ {q t : Nat} {bs : List Value}, t ≠ 28 → Blk W q t bs → Blk W' q t bs := fun ht hq => hq.grown hg (by simpa using h.x.ne_type hq (Ne.symm ht))
  exact ⟨h.b.grown hg h.b.size (fun q hq => by cases hq; exact h.l5), h.l5, hB, kp (by decide) h.z, kp (by decide) h.n, hv.past (kp (by decide) hv.q.x) (kp (by decide) hv.c.x) (fun _ _ => kp (by decide)) (fun _ _ => kp (by decide)), hV, hS⟩
/-- Another variable for an allocator changes. -/
theorem KN.aset (h : KN w g5 bz bn s zc ccs a W) (hB : Blk W g 28 cs) (h5 : g ≠ g5) (hl : w.heap.size ≤ g) (hg : W.grownBy W' (some g)) : KN w g5 bz bn s zc ccs a W' := by
  have kp : ∀ {q t : Nat} {bs : List Value}, t ≠ 28 → Blk W q t bs → Blk W' q t bs := fun ht hq => hq.grown hg (by simpa using hB.ne_type hq (Ne.symm ht))
  exact ⟨h.b.grown hg h.b.size (fun q hq => by cases hq; exact hl), h.l5, h.x.grown hg (by simpa using h5), kp (by decide) h.z, kp (by decide) h.n, h.v.past (kp (by decide) h.v.q.x) (kp (by decide) h.v.c.x) (fun _ _ => kp (by decide)) (fun _ _ => kp (by decide)), h.V, h.S⟩
theorem KN.mn (h : KN w g5 bz bn s zc ccs a W) {z : Nat} (hz : z < 3) : W.cell? ⟨bz, z * 4 + 3, none⟩ = some (.int .i64 (zn a z).mn) := by
  rw [h.z.cell]
  have p := (h.S.p z hz).mn
  rcases (show z = 0 ∨ z = 1 ∨ z = 2 by omega) with rfl | rfl | rfl
  · rw [p]; rfl
  · rw [p]; rfl
  · rw [p]; rfl
theorem KN.nd (h : KN w g5 bz bn s zc ccs a W) {c : Nat} (hc : c < 3) : W.cell? ⟨bn, c, none⟩ = some (.int .i64 (a.nodes.getD c 0)) ∧ 0 ≤ a.nodes.getD c 0 ∧ a.nodes.getD c 0 < 4 := by
  rw [h.n.cell, h.S.nodes]
  rcases (show c = 0 ∨ c = 1 ∨ c = 2 by omega) with rfl | rfl | rfl
  · exact ⟨rfl, by decide, by decide⟩
  · exact ⟨rfl, by decide, by decide⟩
  · exact ⟨rfl, by decide, by decide⟩
end
def BOps (w : World) (a : Option Addr) (l : List Int) : Prop := 0 < l.length → ∃ b off, a = some ⟨b, off, none⟩ ∧ ∀ (i : Nat) (x : Int), l[i]? = some x → w.cell? ⟨b, off + i, none⟩ = some (.int .u8 x) ∧ (0 ≤ x ∧ x < 256)
theorem BOps.below {w w' : World} {a : Option Addr} {l : List Int} (h : BOps w a l) (hb : Below w.heap.size w w') : BOps w' a l := fun h0 => by
  obtain ⟨b, off, ha, hc⟩ := h h0
  exact ⟨b, off, ha, fun i x hx => ⟨cell_later hb (hc i x hx).1, (hc i x hx).2⟩⟩
end Go.Proofs.YtdddkfpcbfgocaaGreat
