/- Memory: the steps of a play, and the blocks that are held. -/
import Derived.Test.YtkiiifmofmbniaaDoorM16
import Derived.Test.YtkiiifmofmbniaaDoorQ7
namespace Go.Proofs.YtkiiifmofmbniaaDoor
open Go.RowKit Go.Over Go.Mob Go.Can Go.Seg Go.Grow
/-- The steps that lie at a. -/
def Ops (w : World) (a : Option Addr) (l : List Stp) : Prop := 0 < l.length → ∃ b off, a = some ⟨b, off, none⟩ ∧ ∀ i x, l[i]? = some x →
  w.cell? ⟨b, off + i * 4, none⟩ = some (.bool x.give) ∧ w.cell? ⟨b, off + i * 4 + 1, none⟩ = some (.int .u8 (x.order : Int)) ∧ w.cell? ⟨b, off + i * 4 + 2, none⟩ = some (.int .u8 (x.kind : Int)) ∧ w.cell? ⟨b, off + i * 4 + 3, none⟩ = some (.int .u8 (x.pick : Int)) ∧ x.order < 256 ∧ x.kind < 256 ∧ x.pick < 256
theorem Ops.below {w w' : World} {a : Option Addr} {l : List Stp} (h : Ops w a l) (hb : Below w.heap.size w w') : Ops w' a l := fun h0 => by
  obtain ⟨b, off, ha, hc⟩ := h h0
  refine ⟨b, off, ha, fun i x hx => ?_⟩
  obtain ⟨c0, c1, c2, c3, hr⟩ := hc i x hx
  exact ⟨cell_later hb c0, cell_later hb c1, cell_later hb c2, cell_later hb c3, hr⟩
/-- The cells of held blocks. -/
def hds (l : List Hd) : List Value := l.flatMap fun h => [.int .i64 h.1, .int .i64 (h.2 : Int)]
theorem hds_len (l : List Hd) : (hds l).length = l.length * 2 := by
  unfold hds
  induction l with
  | nil => rfl
  | cons x r ih => rw [List.flatMap_cons, List.length_append, ih]; simp; omega
theorem hds_append (l m : List Hd) : hds (l ++ m) = hds l ++ hds m := by unfold hds; rw [List.flatMap_append]
theorem hds_get : ∀ {l : List Hd} {i : Nat} {h : Hd}, l[i]? = some h → (hds l)[i * 2]? = some (.int .i64 h.1) ∧ (hds l)[i * 2 + 1]? = some (.int .i64 (h.2 : Int))
  | [], i, h, hi => by simp at hi
  | x :: r, 0, h, hi => by
    simp at hi; subst hi
    exact ⟨rfl, rfl⟩
  | x :: r, i + 1, h, hi => by
    obtain ⟨g1, g2⟩ := hds_get (l := r) (i := i) (by simpa using hi)
    have e : hds (x :: r) = [.int .i64 x.1, .int .i64 (x.2 : Int)] ++ hds r := rfl
    rw [e, List.getElem?_append_right (by simp; omega), List.getElem?_append_right (by simp; omega)]
    refine ⟨by rw [← g1]; congr 1; simp; omega, by rw [← g2]; congr 1; simp; omega⟩
/-- The held blocks, in a row of a call's own. -/
def HO (w : World) (B : Nat) (v : Value) (l : List Hd) : Prop := w.ownsRow B 46 2 v l.length (hds l)
theorem HO.later {w w' : World} {B : Nat} {v : Value} {l : List Hd} (h : HO w B v l) (hb : Below w.heap.size w w') : HO w' B v l := own_later h hb
theorem HO.apart {W : World} {B B' : Nat} {u v : Value} {l : List Hd} {m : List Int} (h : HO W B v l) (ho : Own W B' u m) : u.ownBlock = none ∨ u.ownBlock ≠ v.ownBlock := by
  rcases hu : u.ownBlock with _ | b
  · exact .inl rfl
  · refine .inr fun e => ?_
    rcases ho.2 with ⟨rfl, _⟩ | ⟨g1, c1, cur1, rfl, _, hh1, _⟩
    · simp [Value.ownBlock] at hu
    · rcases h.2 with ⟨rfl, _⟩ | ⟨g2, c2, cur2, rfl, _, hh2, _⟩
      · simp [Value.ownBlock] at e
      · have e1 : g1 = b := by simpa [Value.ownBlock] using hu
        have e2 : b = g2 := by simpa [Value.ownBlock] using e
        subst e1 e2
        rw [hh1] at hh2
        injection hh2 with hh2
        injection hh2 with _ h2
        exact absurd h2 (by decide)
/-- The held blocks grow: page blocks stay. -/
theorem VP.beside {w W W' : World} {g : Nat} {cs : List Value} {p : P} {v : Value} {l : List Hd} (h : VP w g cs p W) (hO : HO W w.heap.size v l) (hg : W.grownBy W' v.ownBlock) : VP w g cs p W' ∧ ∀ g' t bs, t ≠ 46 → Blk W g' t bs → Blk W' g' t bs := by
  refine ⟨⟨h.b.grown hg h.b.size (fun k hk => (World.ownsRow.lt hO k hk).1), h.l, h.x.grown hg (h.x.not_own hO (by decide)), h.o.len, h.o.st, fun r hr => ?_, h.o.ap⟩, fun g' t bs h2 h3 => h3.grown hg (h3.not_own hO (Ne.symm h2))⟩
  obtain ⟨u, q1, q2⟩ := OwnP.own h.o hr
  have := q2.kept hg (HO.apart hO q2)
  exact ⟨u, q1, this.sl, fun _ => this⟩
/-- A variable of page blocks takes others. -/
theorem VP.renew {w W W' : World} {g : Nat} {cs cs' : List Value} {p p' : P} (h : VP w g cs p W) (hO : OwnP W w.heap.size cs' p') (hB : Blk W' g 26 cs') (hg : W.grownBy W' (some g)) : VP w g cs' p' W' :=
  ⟨h.b.grown hg h.b.size (fun k hk => by cases hk; exact h.l), h.l, hB, OwnP.grown hO h.x hg⟩
theorem HO.far {W W' : World} {B g t : Nat} {bs : List Value} {v : Value} {l : List Hd} (h : HO W B v l) (hB : Blk W g t bs) (ht : 46 ≠ t) (hg : W.grownBy W' (some g)) : HO W' B v l :=
  World.ownsRow.kept h hg (.inr (hB.not_own h ht))
theorem HO.nil (w : World) (B : Nat) : HO w B (.slice none 0 0) [] := World.ownsRow_nil _ _ _ _
end Go.Proofs.YtkiiifmofmbniaaDoor
