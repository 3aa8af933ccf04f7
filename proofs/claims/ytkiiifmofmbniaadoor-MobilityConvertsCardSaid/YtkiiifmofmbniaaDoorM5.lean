/- Page blocks of a call's own: sixteen rows of numbers behind one variable. -/
import Derived.Test.YtkiiifmofmbniaaDoorM4
import Derived.Test.YtkiiifmofmbniaaDoorSeg5
namespace Go.Mob
/-- Row 0: the types; row 1 + i: list number i. -/
def rowL (p : P) (r : Nat) : List Int := if r = 0 then p.ty else p.fr (r - 1)
def setRow (p : P) (r : Nat) (l : List Int) : P := if r = 0 then ⟨p.st, l, p.fr⟩ else ⟨p.st, p.ty, upd p.fr (r - 1) l⟩
theorem rowL_set_self {p : P} {r : Nat} {l : List Int} : rowL (setRow p r l) r = l := by
  unfold rowL setRow
  split
  · rfl
  · exact upd_self
theorem rowL_set_ne {p : P} {r s : Nat} {l : List Int} (h : s ≠ r) : rowL (setRow p r l) s = rowL p s := by
  unfold rowL setRow
  split
  · split
    · omega
    · rfl
  · split
    · rfl
    · exact upd_ne (by omega)
theorem setRow_st {p : P} {r : Nat} {l : List Int} : (setRow p r l).st = p.st := by
  unfold setRow; split <;> rfl
end Go.Mob
namespace Go.Proofs.YtkiiifmofmbniaaDoor
open Go.RowKit Go.Over Go.Mob Go.Can Go.Seg Go.Grow
/-- Sixteen rows: the first m are the call's own. -/
structure MixP (W : World) (B : Nat) (cs : List Value) (p : P) (m : Nat) : Prop where
  len : cs.length = 17
  st : cs[0]? = some (.int .i64 p.st)
  row : ∀ r, r < 16 → ∃ v, cs[1 + r]? = some v ∧ Sl W v (rowL p r) ∧ (r < m → Own W B v (rowL p r))
  ap : ∀ r s u v, r < s → s < m → cs[1 + r]? = some u → cs[1 + s]? = some v → u.ownBlock = none ∨ u.ownBlock ≠ v.ownBlock
section
variable {W W' : World} {B m : Nat} {cs : List Value} {p : P}
theorem MixP.pv (h : MixP W B cs p m) : PV W cs p := by
  refine ⟨h.len, h.st, ?_, fun i hi => ?_⟩
  · obtain ⟨v, h1, h2, _⟩ := h.row 0 (by omega)
    exact ⟨v, h1, h2⟩
  · obtain ⟨v, h1, h2, _⟩ := h.row (1 + i) (by omega)
    refine ⟨v, by rw [← h1]; congr 1; omega, ?_⟩
    have : rowL p (1 + i) = p.fr i := by unfold rowL; rw [if_neg (by omega)]; congr 1; omega
    rwa [this] at h2
theorem MixP.of_pv (h : PV W cs p) (B : Nat) : MixP W B cs p 0 := by
  refine ⟨h.len, h.st, fun r hr => ?_, fun r s u v h1 h2 => by omega⟩
  rcases Nat.eq_zero_or_pos r with rfl | hp
  · obtain ⟨v, h1, h2⟩ := h.ty
    exact ⟨v, h1, h2, fun h => by omega⟩
  · obtain ⟨v, h1, h2⟩ := h.fr (r - 1) (by omega)
    refine ⟨v, by rw [← h1]; congr 1; omega, ?_, fun h => by omega⟩
    unfold rowL
    rw [if_neg (by omega)]
    exact h2
theorem MixP.later (h : MixP W B cs p m) (hb : Below W.heap.size W W') : MixP W' B cs p m :=
  ⟨h.len, h.st, fun r hr => by obtain ⟨v, h1, h2, h3⟩ := h.row r hr; exact ⟨v, h1, h2.below hb, fun hm => (h3 hm).later hb⟩, h.ap⟩
theorem MixP.weaken {B' : Nat} (h : MixP W B cs p m) (hB : B' ≤ B) : MixP W B' cs p m :=
  ⟨h.len, h.st, fun r hr => by obtain ⟨v, h1, h2, h3⟩ := h.row r hr; exact ⟨v, h1, h2, fun hm => own_weaken (h3 hm) hB⟩, h.ap⟩
/-- The next row is replaced by one of the call's own that is new. -/
theorem MixP.next (h : MixP W B cs p m) (hm : m < 16) {v : Value} (hv : Own W B v (rowL p m)) (hn : ∀ r u, r < m → cs[1 + r]? = some u → u.ownBlock = none ∨ u.ownBlock ≠ v.ownBlock) : MixP W B (cs.set (1 + m) v) p (m + 1) := by
  have hl := h.len
  refine ⟨by rw [List.length_set]; exact hl, by rw [List.getElem?_set_ne (by omega)]; exact h.st, fun r hr => ?_, fun r s u u' h1 h2 g1 g2 => ?_⟩
  · by_cases e : r = m
    · subst e
      exact ⟨v, List.getElem?_set_self (by omega), hv.sl, fun _ => hv⟩
    · obtain ⟨u, q1, q2, q3⟩ := h.row r hr
      exact ⟨u, by rw [List.getElem?_set_ne (by omega)]; exact q1, q2, fun h4 => q3 (by omega)⟩
  · rw [List.getElem?_set_ne (by omega)] at g1
    by_cases e : s = m
    · subst e
      rw [List.getElem?_set_self (by omega)] at g2
      cases g2
      exact hn r u (by omega) g1
    · rw [List.getElem?_set_ne (by omega)] at g2
      exact h.ap r s u u' h1 (by omega) g1 g2
end
/-- Page blocks of a call's own. -/
def OwnP (W : World) (B : Nat) (cs : List Value) (p : P) : Prop := MixP W B cs p 16
section
variable {W W' : World} {B : Nat} {cs : List Value} {p : P}
theorem OwnP.own (h : OwnP W B cs p) {r : Nat} (hr : r < 16) : ∃ v, cs[1 + r]? = some v ∧ Own W B v (rowL p r) := by
  obtain ⟨v, h1, _, h3⟩ := h.row r hr
  exact ⟨v, h1, h3 hr⟩
theorem OwnP.apart (h : OwnP W B cs p) {r s : Nat} {u v : Value} (hne : r ≠ s) (hr : r < 16) (hs : s < 16) (h1 : cs[1 + r]? = some u) (h2 : cs[1 + s]? = some v) : u.ownBlock = none ∨ u.ownBlock ≠ v.ownBlock := by
  rcases Nat.lt_or_ge r s with h3 | h3
  · exact h.ap r s u v h3 hs h1 h2
  · rcases h.ap s r v u (by omega) hr h2 h1 with h4 | h4
    · rcases hu : u.ownBlock with _ | b
      · exact .inl rfl
      · exact .inr (by rw [h4]; simp)
    · exact .inr (Ne.symm h4)
/-- A cell of a variable of page blocks is changed: the rows stay. -/
theorem Own.far {v : Value} {l : List Int} {g t : Nat} {bs : List Value} (h : Own W B v l) (hB : Blk W g t bs) (ht : 3 ≠ t) (i : Nat) (u : Value) : Own (W.setCell ⟨g, i, none⟩ u) B v l := by
  have hgr : W.grownBy (W.setCell ⟨g, i, none⟩ u) (some g) := ⟨rfl, rfl, rfl, by simp [World.setCell], fun k _ hk => Below.heap_setCell W ⟨g, i, none⟩ u k (fun e => hk (by rw [e]))⟩
  exact World.ownsRow.kept h hgr (.inr (hB.not_own h ht))
theorem Own.kept {v : Value} {l : List Int} {row : Option Nat} (h : Own W B v l) (hg : W.grownBy W' row) (hne : v.ownBlock = none ∨ v.ownBlock ≠ row) : Own W' B v l := World.ownsRow.kept h hg hne
theorem OwnP.far {g t : Nat} {bs : List Value} (h : OwnP W B cs p) (hB : Blk W g t bs) (ht : 3 ≠ t) (i : Nat) (u : Value) : OwnP (W.setCell ⟨g, i, none⟩ u) B cs p :=
  ⟨h.len, h.st, fun r hr => by obtain ⟨v, h1, h2⟩ := OwnP.own h hr; exact ⟨v, h1, (h2.far hB ht i u).sl, fun _ => h2.far hB ht i u⟩, h.ap⟩
/-- A row is changed by a call. -/
theorem OwnP.put {r : Nat} {u u' : Value} {l' : List Int} (h : OwnP W B cs p) (hr : r < 16) (hu : cs[1 + r]? = some u) (hg : W.grownBy W' u.ownBlock) (hO : Own W' B u' l') (hk : ∀ k, u'.ownBlock = some k → u.ownBlock = some k ∨ W.heap.size ≤ k) : OwnP W' B (cs.set (1 + r) u') (setRow p r l') := by
  have hl := h.len
  have kept : ∀ s v, s ≠ r → s < 16 → cs[1 + s]? = some v → Own W B v (rowL p s) → Own W' B v (rowL p s) := fun s v hs hs16 hv ho => ho.kept hg (h.apart hs hs16 hr hv hu)
  have apt : ∀ s v, s ≠ r → s < 16 → cs[1 + s]? = some v → v.ownBlock = none ∨ v.ownBlock ≠ u'.ownBlock := fun s v hs hs16 hv => by
    rcases hb : v.ownBlock with _ | b
    · exact .inl rfl
    · refine .inr fun e => ?_
      obtain ⟨v', q1, q2⟩ := OwnP.own h hs16
      rw [hv] at q1
      cases q1
      rcases hk b e.symm with h1 | h1
      · rcases h.apart hs hs16 hr hv hu with h2 | h2
        · rw [hb] at h2; cases h2
        · exact h2 (by rw [hb, h1])
      · have := (World.ownsRow.lt q2 b hb).2
        omega
  refine ⟨by rw [List.length_set]; exact hl, by rw [List.getElem?_set_ne (by omega), setRow_st]; exact h.st, fun s hs => ?_, fun s t x y h1 h2 g1 g2 => ?_⟩
  · by_cases e : s = r
    · subst e
      rw [rowL_set_self]
      exact ⟨u', List.getElem?_set_self (by omega), hO.sl, fun _ => hO⟩
    · obtain ⟨v, q1, q2⟩ := OwnP.own h hs
      rw [rowL_set_ne e]
      exact ⟨v, by rw [List.getElem?_set_ne (by omega)]; exact q1, (kept s v e hs q1 q2).sl, fun _ => kept s v e hs q1 q2⟩
  · by_cases e1 : s = r
    · subst e1
      rw [List.getElem?_set_self (by omega)] at g1
      cases g1
      rw [List.getElem?_set_ne (by omega)] at g2
      rcases apt t y (by omega) h2 g2 with h3 | h3
      · rcases hb : u'.ownBlock with _ | b
        · exact .inl rfl
        · exact .inr (by rw [h3]; simp)
      · exact .inr (Ne.symm h3)
    · rw [List.getElem?_set_ne (by omega)] at g1
      by_cases e2 : t = r
      · subst e2
        rw [List.getElem?_set_self (by omega)] at g2
        cases g2
        exact apt s x e1 (by omega) g1
      · rw [List.getElem?_set_ne (by omega)] at g2
        exact h.ap s t x y h1 h2 g1 g2
end
/-- A variable of page blocks of a call's own. -/
structure VP (w : World) (g : Nat) (cs : List Value) (p : P) (W : World) : Prop where
  b : Below w.heap.size w W
  l : w.heap.size ≤ g
  x : Blk W g 26 cs
  o : OwnP W w.heap.size cs p
section
variable {w W W' : World} {g : Nat} {cs : List Value} {p : P}
theorem VP.below (h : VP w g cs p W) (hb : Below W.heap.size W W') : VP w g cs p W' := ⟨below_then h.b hb, h.l, h.x.later hb, MixP.later h.o hb⟩
theorem VP.v (h : VP w g cs p W) : PV W cs p := MixP.pv h.o
theorem VP.rpv (h : VP w g cs p W) : Rpv W (.agg cs.toArray) p := ⟨cs, rfl, h.v⟩
/-- A row is changed by a call, and stored. -/
theorem VP.put {r : Nat} {u u' : Value} {l' : List Int} (h : VP w g cs p W) (hr : r < 16) (hu : cs[1 + r]? = some u) (hg : W.grownBy W' u.ownBlock) (hO : Own W' w.heap.size u' l') (hk : ∀ k, u'.ownBlock = some k → u.ownBlock = some k ∨ W.heap.size ≤ k) :
    VP w g (cs.set (1 + r) u') (setRow p r l') (W'.setCell ⟨g, 1 + r, none⟩ u') := by
  obtain ⟨v, q1, q2⟩ := OwnP.own h.o hr
  rw [hu] at q1
  cases q1
  have hx := h.x.grown hg (h.x.not_own q2 (by decide))
  have hb : Below w.heap.size w W' := h.b.grown hg h.b.size (fun k hk => (World.ownsRow.lt q2 k hk).1)
  exact ⟨hb.setCell (p := ⟨g, 1 + r, none⟩) h.l _, h.l, hx.set (1 + r) u', (OwnP.put h.o hr hu hg hO hk).far hx (by decide) _ _⟩
end
end Go.Proofs.YtkiiifmofmbniaaDoor
