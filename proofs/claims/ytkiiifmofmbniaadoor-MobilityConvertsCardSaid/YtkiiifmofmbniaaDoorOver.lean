/- A region that draws its order, whose operations only read old memory and whose calls only make new memory and hand back plain values: one walk of the text's order serves every order. The class of worlds is 'w and what is new'. -/
import Derived.WalkKit
import Derived.WalkSpells
import Derived.WalkLawsBesides
import Derived.Lib.Hide
import Derived.Deep.QuietTactic
import Derived.BigQuiet
namespace Go.Over
open Go.RowKit

theorem below_then {w w1 w2 : World} (h1 : Below w.heap.size w w1) (h2 : Below w1.heap.size w1 w2) : Below w.heap.size w w2 := h1.trans (h2.mono h1.size)
theorem below_alloc {w w1 : World} (h : Below w.heap.size w w1) (o : Obj) : Below w.heap.size w (w1.alloc o) := h.alloc h.size o
theorem bcell {W w1 : World} (hb : Below W.heap.size W w1) : (∀ b o, b < W.heap.size → w1.cell? ⟨b, o, none⟩ = W.cell? ⟨b, o, none⟩) ∧ (∀ b o, b < W.heap.size → w1.frozen? ⟨b, o, none⟩ = W.frozen? ⟨b, o, none⟩) :=
  ⟨fun b o h => hb.cell (p := ⟨b, o, none⟩) h, fun b o h => hb.frozen (p := ⟨b, o, none⟩) h⟩

/-! Cells in a world with new blocks, as 'if's over the blocks' numbers: the walk decides them by omega. -/
theorem cell_alloc_ite (w : World) (c : Array Value) (t : TypeId) (n i : Nat) :
    (w.alloc (.cells c t)).cell? ⟨n, i, none⟩ = if n < w.heap.size then w.cell? ⟨n, i, none⟩ else if n = w.heap.size then c[i]? else none := by
  split
  · exact World.cell?_alloc_past _ _ _ ‹_›
  · split
    · exact World.cell?_alloc_at _ _ _ _ ‹_›
    · have : (w.alloc (.cells c t)).heap[n]? = none := by
        show (w.heap.push _)[n]? = none
        rw [Array.getElem?_eq_none]; simp; omega
      simp [World.cell?, this]
theorem frozen_alloc_ite (w : World) (c : Array Value) (t : TypeId) (n i : Nat) :
    (w.alloc (.cells c t)).frozen? ⟨n, i, none⟩ = if n < w.heap.size then w.frozen? ⟨n, i, none⟩ else false := by
  split
  · exact World.frozen?_alloc_past _ _ _ ‹_›
  · rename_i h
    by_cases h2 : n = w.heap.size
    · exact World.frozen?_alloc_at _ _ _ _ h2
    · have : (w.alloc (.cells c t)).heap[n]? = none := by
        show (w.heap.push _)[n]? = none
        rw [Array.getElem?_eq_none]; simp; omega
      simp [World.frozen?, this]
/-- What a world holds beyond what is known of it. -/
def fresh (w : World) (b o : Nat) : Option Value := w.cell? ⟨b, o, none⟩
def freshF (w : World) (b o : Nat) : Bool := w.frozen? ⟨b, o, none⟩
theorem bcell2 {W w1 : World} (hb : Below W.heap.size W w1) : (∀ b o, w1.cell? ⟨b, o, none⟩ = if b < W.heap.size then W.cell? ⟨b, o, none⟩ else fresh w1 b o) ∧ (∀ b o, w1.frozen? ⟨b, o, none⟩ = if b < W.heap.size then W.frozen? ⟨b, o, none⟩ else freshF w1 b o) ∧ W.heap.size ≤ w1.heap.size := by
  refine ⟨fun b o => ?_, fun b o => ?_, hb.size⟩
  · split
    · exact hb.cell (p := ⟨b, o, none⟩) ‹_›
    · rfl
  · split
    · exact hb.frozen (p := ⟨b, o, none⟩) ‹_›
    · rfl
attribute [go_sem 100] cell_alloc_ite frozen_alloc_ite

open Classical in
/-- A world that is 'w and what is new', given as one: 'u' if it is such a world, else w itself. -/
noncomputable def over (w u : World) : World := if Below w.heap.size w u then u else w

theorem below_over (w u : World) : Below w.heap.size w (over w u) := by
  unfold over
  split
  · assumption
  · exact Below.refl _ _
theorem over_of {w u : World} (h : Below w.heap.size w u) : u = over w u := by
  unfold over; rw [if_pos h]
theorem over_cell {w : World} {a : Addr} {v : Value} (h : w.cell? a = some v) (u : World) : (over w u).cell? a = some v := cell_later (below_over w u) h

/-- A callee's contract, met in the class. -/
theorem calls_over {P : Program} {f : FuncId} {args : Array Value} {w u : World} {v : Value}
    (h : Calls P f args (over w u) fun e w' => e = .returned v ∧ Below (over w u).heap.size (over w u) w') :
    Calls P f args (over w u) fun e w'' => e = .returned v ∧ ∃ u', w'' = over w u' :=
  h.mono fun _ w'' ⟨he, hb⟩ => ⟨he, w'', over_of (below_then (below_over w u) hb)⟩
theorem calls_over_same {P : Program} {f : FuncId} {args : Array Value} {w u : World} {v : Value}
    (h : Calls P f args (over w u) fun e w' => e = .returned v ∧ over w u = w') :
    Calls P f args (over w u) fun e w'' => e = .returned v ∧ ∃ u', w'' = over w u' :=
  h.mono fun _ _ ⟨he, hb⟩ => ⟨he, u, hb.symm⟩

theorem wp_region_over {P : Program} {id : Nat} {Q : Exit → Act → World → Prop} {a : Act} {w : World} {l : List Oper} (hm : P.follows .mixedOrders = true) (hB : Region.lexB .any l.toArray = true)
    (h : wpQuiet P l.toArray (fun w' => ∃ u, w' = over w u) (fun a' => ∀ w', (∃ u, w' = over w u) → Q .normal a' w') l a) : (Code.region id l.toArray true).wp P Q a w :=
  wp_region_quiet (C := fun w' => ∃ u, w' = over w u) hm hB ⟨_, over_of (w := w) (u := { w with drawn := w.drawn + 1 }) (Below.drew (Below.refl _ _))⟩ (by simpa using h)

/-- Of the world only what is wanted is kept. -/
theorem wp_forget {P : Program} {c : Code} {Q : Exit → Act → World → Prop} {a : Act} {w : World} (F : World → Prop) (h : F w) (k : ∀ W, F W → c.wp P Q a W) : c.wp P Q a w := k w h
end Go.Over
