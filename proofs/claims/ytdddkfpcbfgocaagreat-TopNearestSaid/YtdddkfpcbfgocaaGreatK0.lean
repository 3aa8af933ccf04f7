/- A region that draws its order, whose operations only read old memory and whose calls only make new memory and hand back plain values: one walk of the text's order serves every order. The class of worlds is 'w and what is new'. A region that draws its order, walked in the order of the text: operations that only read (in whatever world of a class that the others keep) and operations that stand in a forced order. A region that draws its order, walked in an order of the prover's choice: operations that only read, in whatever world of a class that all others but the last keep; operations in a forced order; the last one free. The plain mathematics of caches of objects: what both programs compute. The plain mathematics of allocation and release of objects. The plain mathematics of allocation: the program's way and the reference's. The plain laws of allocation: both ways are one. The plain laws of allocation: what is handed out, and that the cache stays valid. The plain laws of release. Caches in memory. Walks: is a flag set; how many; the first error of a cache, of both; New, of both. Walks: the first error of a cache, of both programs. Walks: the first error of a cache, of the reference. Walks: the numbers of used and free objects, of both. Walks: the numbers of objects and the need, of the reference; the need of the program. Rows of a call's own that grow, at any element type: where the result of an append lies; a source that may be nil. Walks: the numbers of objects as lists, of the reference. Walks: lists of numbers; the objects, of both; the need, of the program. A block of memory whose cells are known. Walks: the objects, of both; the need, of the program. Walks: the need, of the program. Rows that are known whole, at any element size: copy, clear, append within the capacity, append of a make. Walks: slices.Insert of one slab into a row of the call's own. -/
import Derived.WalkKit
import Derived.WalkSpells
import Derived.WalkLawsBesides
import Derived.Lib.Hide
import Derived.Deep.QuietTactic
import Derived.BigQuiet
import Derived.Deep.RegionHeld3
import Derived.Test.YtdddkfpcbfgocaaGreatRows
import Derived.OwnWalk
import Derived.Deep.LoopGhost
import Derived.Laws.OwnMore
import Derived.Laws.Append
import Derived.Below
import Derived.Deep.Draws
import Derived.RegionTactic
import Derived.Laws.CopyOwn
import Derived.Lib.AppendZerosOnto
import Derived.Lib.Overlaps
namespace Go.Over
open Go.RowKit

theorem below_then {w w1 w2 : World} (h1 : Below w.heap.size w w1) (h2 : Below w1.heap.size w1 w2) : Below w.heap.size w w2 := h1.trans (h2.mono h1.size)
theorem below_alloc {w w1 : World} (h : Below w.heap.size w w1) (o : Obj) : Below w.heap.size w (w1.alloc o) := h.alloc h.size o
theorem bcell {W w1 : World} (hb : Below W.heap.size W w1) : (∀ b o, b < W.heap.size → w1.cell? ⟨b, o, none⟩ = W.cell? ⟨b, o, none⟩) ∧ (∀ b o, b < W.heap.size → w1.frozen? ⟨b, o, none⟩ = W.frozen? ⟨b, o, none⟩) :=
  ⟨fun b o h => hb.cell (p := ⟨b, o, none⟩) h, fun b o h => hb.frozen (p := ⟨b, o, none⟩) h⟩

/-! Cells in a world with new blocks, as 'if's over the blocks' numbers: the walk decides them by omega. -/
theorem cell_alloc_ite (w : World) (c : Array Value) (t : TypeId) (n i : Nat) :
    (w.alloc (.cells c t)).cell? ⟨n, i, none⟩ = if n < w.heap.size then w.cell? ⟨n, i, none⟩ else if n = w.heap.size then c[i]? else none := by
  split
  · exact World.cell?_alloc_past _ _ _ ‹_›
  · split
    · exact World.cell?_alloc_at _ _ _ _ ‹_›
    · have : (w.alloc (.cells c t)).heap[n]? = none := by
        show (w.heap.push _)[n]? = none
        rw [Array.getElem?_eq_none]; simp; omega
      simp [World.cell?, this]
theorem frozen_alloc_ite (w : World) (c : Array Value) (t : TypeId) (n i : Nat) :
    (w.alloc (.cells c t)).frozen? ⟨n, i, none⟩ = if n < w.heap.size then w.frozen? ⟨n, i, none⟩ else false := by
  split
  · exact World.frozen?_alloc_past _ _ _ ‹_›
  · rename_i h
    by_cases h2 : n = w.heap.size
    · exact World.frozen?_alloc_at _ _ _ _ h2
    · have : (w.alloc (.cells c t)).heap[n]? = none := by
        show (w.heap.push _)[n]? = none
        rw [Array.getElem?_eq_none]; simp; omega
      simp [World.frozen?, this]
/-- What a world holds beyond what is known of it. -/
def fresh (w : World) (b o : Nat) : Option Value := w.cell? ⟨b, o, none⟩
def freshF (w : World) (b o : Nat) : Bool := w.frozen? ⟨b, o, none⟩
theorem bcell2 {W w1 : World} (hb : Below W.heap.size W w1) : (∀ b o, w1.cell? ⟨b, o, none⟩ = if b < W.heap.size then W.cell? ⟨b, o, none⟩ else fresh w1 b o) ∧ (∀ b o, w1.frozen? ⟨b, o, none⟩ = if b < W.heap.size then W.frozen? ⟨b, o, none⟩ else freshF w1 b o) ∧ W.heap.size ≤ w1.heap.size := by
  refine ⟨fun b o => ?_, fun b o => ?_, hb.size⟩
  · split
    · exact hb.cell (p := ⟨b, o, none⟩) ‹_›
    · rfl
  · split
    · exact hb.frozen (p := ⟨b, o, none⟩) ‹_›
    · rfl
attribute [go_sem 100] cell_alloc_ite frozen_alloc_ite

open Classical in
/-- A world that is 'w and what is new', given as one: 'u' if it is such a world, else w itself. -/
noncomputable def over (w u : World) : World := if Below w.heap.size w u then u else w

theorem below_over (w u : World) : Below w.heap.size w (over w u) := by
  unfold over
  split
  · assumption
  · exact Below.refl _ _
theorem over_of {w u : World} (h : Below w.heap.size w u) : u = over w u := by
  unfold over; rw [if_pos h]
theorem over_cell {w : World} {a : Addr} {v : Value} (h : w.cell? a = some v) (u : World) : (over w u).cell? a = some v := cell_later (below_over w u) h

/-- A callee's contract, met in the class. -/
theorem calls_over {P : Program} {f : FuncId} {args : Array Value} {w u : World} {v : Value}
    (h : Calls P f args (over w u) fun e w' => e = .returned v ∧ Below (over w u).heap.size (over w u) w') :
    Calls P f args (over w u) fun e w'' => e = .returned v ∧ ∃ u', w'' = over w u' :=
  h.mono fun _ w'' ⟨he, hb⟩ => ⟨he, w'', over_of (below_then (below_over w u) hb)⟩
theorem calls_over_same {P : Program} {f : FuncId} {args : Array Value} {w u : World} {v : Value}
    (h : Calls P f args (over w u) fun e w' => e = .returned v ∧ over w u = w') :
    Calls P f args (over w u) fun e w'' => e = .returned v ∧ ∃ u', w'' = over w u' :=
  h.mono fun _ _ ⟨he, hb⟩ => ⟨he, u, hb.symm⟩

theorem wp_region_over {P : Program} {id : Nat} {Q : Exit → Act → World → Prop} {a : Act} {w : World} {l : List Oper} (hm : P.follows .mixedOrders = true) (hB : Region.lexB .any l.toArray = true)
    (h : wpQuiet P l.toArray (fun w' => ∃ u, w' = over w u) (fun a' => ∀ w', (∃ u, w' = over w u) → Q .normal a' w') l a) : (Code.region id l.toArray true).wp P Q a w :=
  wp_region_quiet (C := fun w' => ∃ u, w' = over w u) hm hB ⟨_, over_of (w := w) (u := { w with drawn := w.drawn + 1 }) (Below.drew (Below.refl _ _))⟩ (by simpa using h)

/-- Of the world only what is wanted is kept. -/
theorem wp_forget {P : Program} {c : Code} {Q : Exit → Act → World → Prop} {a : Act} {w : World} (F : World → Prop) (h : F w) (k : ∀ W, F W → c.wp P Q a W) : c.wp P Q a w := k w h
end Go.Over
namespace Go.Seg
section
variable {P : Program} {ops : Array Oper} {md : Region.Mode} {S : World → Prop} {Q : Exit → Act → World → Prop}

theorem wpOp_of_yields {i : Nat} {o : Oper} {v : Value} {a : Act} {w : World} (hi : ops[i]? = some o) (hy : YieldsAt P ops w o v a) {K : Act → World → Prop} (h : K (a.put o.dst v) w) : wpOp P ops Q i K a w :=
  wpOp_of_stOp (K := fun a' => K a' w) (fun _ h => h) (hy.stOp hi h)

/-- An operation that commutes with oi is carried out; what is known of oi stays. -/
theorem wpOp_put {j : Nat} {oi oj : Oper} {v : Value} (hj : ops[j]? = some oj) (hap : oi.apart ops oj = true)
    (hsi : ∀ cs b, oi.op ≠ .select cs b) (hsj : ∀ cs b, oj.op ≠ .select cs b)
    (hQ : ∀ c a d v w, Q (.panic c) (Act.put a d v) w → Q (.panic c) a w) {K : Act → World → Prop} {a : Act} {w : World}
    (hy : ∀ w, S w → YieldsAt P ops w oi v a) (h : wpOp P ops Q j K (a.put oi.dst v) w) :
    wpOp P ops Q j (fun a' w' => (∀ w, S w → YieldsAt P ops w oi v a') ∧ K (a'.put oi.dst v) w') a w := by
  obtain ⟨h1, h2, h3⟩ := Oper.apart_spec hap
  have keep : ∀ (a : Act), (∀ w, S w → YieldsAt P ops w oi v a) → ∀ u, (∀ w, S w → YieldsAt P ops w oi v (a.put oj.dst u)) := fun a hy u w hw =>
    (hy w hw).of_same (execOp_put oi hsi a oj.dst u h3) (wanted_put oi a oj.dst u h3)
  have keepD : ∀ d, (∀ w, S w → YieldsAt P ops w oi v { a with defers := d :: a.defers }) := fun d w hw => (hy w hw).of_same rfl rfl
  unfold wpOp at *
  simp only [hj] at *
  rw [wanted_put oj a oi.dst v h1] at h
  split
  · rename_i hw
    simp only [hw, if_true] at h
    rcases h with h | ⟨hasks, hlets⟩
    case inr => exact .inr ⟨by unfold Oper.asks at *; rw [execOp_put oj hsj a oi.dst v h1] at hasks; exact hasks, hlets⟩
    refine .inl ?_
    unfold Oper.wp at *
    rw [execOp_put oj hsj a oi.dst v h1] at h
    generalize (execOp a.eval oj).run P w = r at *
    cases r with
    | ok n w' =>
      cases n <;> simp only [Oper.upon] at h ⊢
      case value u => exact ⟨keep a hy u, by rw [← Act.put_comm a v u h2]; exact h⟩
      case skip => exact ⟨keep a hy _, by rw [← Act.put_comm a v undef h2]; exact h⟩
      case defer d =>
        refine ⟨keep _ (keepD d) _, ?_⟩
        rw [← Act.put_comm _ v undef h2, ← Act.put_defers]
        exact h
      case enter f args =>
        refine Calls.mono h fun e w'' he => ?_
        cases e with
        | returned u => exact ⟨keep a hy u, by rw [← Act.put_comm a v u h2]; exact he⟩
        | panicked c => exact hQ _ _ _ _ _ he
        | outgrown => exact he
      case row row args => exact Rows.mono h fun u w'' he => ⟨keep a hy u, by rw [← Act.put_comm a v u h2]; exact he⟩
    | halt x w' =>
      cases x <;> simp only [Oper.upon] at h ⊢
      exact hQ _ _ _ _ _ h
  · rename_i hw
    simp only [hw] at h
    exact ⟨keep a hy _, by rw [← Act.put_comm a v undef h2]; exact h⟩

/-- Whatever order is picked, the class is kept. -/
def wpAnyC (P : Program) (md : Region.Mode) (ops : Array Oper) (S : World → Prop) (Q : Exit → Act → World → Prop) : Nat → Array Bool → Act → World → Prop
  | 0, listed, a, w => Region.ready md ops listed = [] ∧ Q .normal a w
  | f + 1, listed, a, w =>
    (Region.ready md ops listed = [] → Q .normal a w) ∧
    ∀ i ∈ Region.ready md ops listed, wpOp P ops Q i (fun a' w' => S w' ∧ wpAnyC P md ops S Q f (listed.setIfInBounds i true) a' w') a w
theorem wpAny_of : ∀ (f : Nat) (listed : Array Bool) (a : Act) (w : World), wpAnyC P md ops S Q f listed a w → wpAny P md ops Q f listed a w
  | 0, _, _, _, h => h
  | f + 1, _, _, _, h => ⟨h.1, fun i hi => wpOp_mono (fun a' w' h' => wpAny_of f _ a' w' h'.2) (h.2 i hi)⟩

theorem first {i : Nat} {oi : Oper} {v : Value} (hi : ops[i]? = some oi) (hsel : ∀ (j : Nat) (o : Oper) cs b, ops[j]? = some o → o.op ≠ .select cs b)
    (hQ : ∀ c a d v w, Q (.panic c) (Act.put a d v) w → Q (.panic c) a w) :
    ∀ (fuel : Nat) (listed : Array Bool) (a : Act) (w : World), S w →
      (∀ j oj, ops[j]? = some oj → j ≠ i → listed.getD j true = false → (∀ e ∈ oj.after, Region.binds md e = true → e.on ≠ i) → oi.apart ops oj = true) →
      i ∈ Region.ready md ops listed → (∀ w, S w → YieldsAt P ops w oi v a) →
      wpAnyC P md ops S Q fuel (listed.setIfInBounds i true) (a.put oi.dst v) w → wpAnyC P md ops S Q (fuel + 1) listed a w := by
  intro fuel
  induction fuel with
  | zero =>
    intro listed a w hS _ hr hy H
    refine ⟨fun h => (by rw [h] at hr; cases hr), fun j hj => ?_⟩
    by_cases hji : j = i
    · subst hji; exact wpOp_of_yields hi (hy w hS) ⟨hS, H⟩
    · have := ready_mono hj hji
      rw [H.1] at this
      cases this
  | succ fuel ih =>
    intro listed a w hS hfree hr hy H
    refine ⟨fun h => (by rw [h] at hr; cases hr), fun j hj => ?_⟩
    by_cases hji : j = i
    · subst hji; exact wpOp_of_yields hi (hy w hS) ⟨hS, H⟩
    · have h1 := H.2 j (ready_mono hj hji)
      obtain ⟨hjun, oj, hoj, hall⟩ := mem_ready.1 hj
      have hnot : ∀ e ∈ oj.after, Region.binds md e = true → e.on ≠ i := fun e he hb heq => by
        have h1 := hall e he hb
        have h0 := (mem_ready.1 hr).1
        rw [heq] at h1
        rcases Nat.lt_or_ge i listed.size with h' | h'
        · simp [h'] at h0 h1; rw [h0] at h1; cases h1
        · simp [Array.getElem?_eq_none h'] at h1
      have h2 := wpOp_put hoj (hfree j oj hoj hji hjun hnot) (fun cs b => hsel i oi cs b hi) (fun cs b => hsel j oj cs b hoj) hQ hy h1
      have hfree' : ∀ k ok, ops[k]? = some ok → k ≠ i → (listed.setIfInBounds j true).getD k true = false →
          (∀ e ∈ ok.after, Region.binds md e = true → e.on ≠ i) → oi.apart ops ok = true := fun k ok hk hki hun hno => by
        refine hfree k ok hk hki ?_ hno
        by_cases hjk : j = k
        · subst hjk; exact hjun
        · rw [getD_set_ne true hjk] at hun; exact hun
      refine wpOp_mono (fun a' w' h3 => ⟨h3.2.1, ih (listed.setIfInBounds j true) a' w' h3.2.1 hfree' (ready_mono hr (Ne.symm hji)) h3.1 ?_⟩) h2
      rw [Array.setIfInBounds_comm _ _ hji]
      exact h3.2.2

/-- Operations that yield a value and nothing else. -/
def valueOp : Op → Bool
  | .move _ | .assign _ | .pick .. | .load .. | .binOp .. | .unOp .. | .convert .. | .slice .. | .fieldAddr .. | .field .. | .indexAddr .. | .index .. | .extract .. | .build .. | .nilCheck _ => true
  | .call { callee := .builtin .len, .. } | .call { callee := .builtin .cap, .. } => true
  | _ => false
theorem bind_value {α : Type} {m : Sem α} {f : α → Sem Next} {w w' : World} {n : Next} (hf : ∀ a w w' n, (f a).run P w = .ok n w' → ∃ v, n = .value v) (h : (m >>= f).run P w = .ok n w') : ∃ v, n = .value v := by
  simp only [Sem.run_bind] at h
  cases hx : m.run P w with
  | ok a w1 =>
    rw [hx] at h
    exact hf a w1 w' n h
  | halt x w1 =>
    rw [hx] at h
    simp [Result.andThen] at h
theorem pure_value {v : Value} {w w' : World} {n : Next} (h : (Pure.pure (Next.value v) : Sem Next).run P w = .ok n w') : ∃ v, n = .value v := by
  simp at h
  exact ⟨v, h.1.symm⟩
theorem nilCheck_value {ρ : Operand → Value} {dst : Option Tmp} {x : Operand} {type : TypeId} {pos : String} {after : Array Edge} {guard : Option (Nat × Bool)} {w w' : World} {n : Next}
    (hr : (execOp ρ { dst := dst, op := .nilCheck x, type := type, pos := pos, after := after, guard := guard }).run P w = .ok n w') : ∃ v, n = .value v := by
  unfold execOp at hr
  simp only at hr
  split at hr
  · simp [runtimePanic] at hr
  · simp [runtimePanic] at hr
  · simp [runtimePanic] at hr
  · split at hr
    · simp [runtimePanic] at hr
    · refine bind_value (fun _ _ _ _ h => bind_value (fun _ _ _ _ h => ?_) h) hr
      split at h
      · exact bind_value (fun _ _ _ _ h => pure_value h) h
      · exact pure_value h
    · exact pure_value hr
  all_goals first | exact pure_value hr | trace_state
theorem valueOp_run {ρ : Operand → Value} {o : Oper} (h : valueOp o.op = true) (w w' : World) (n : Next) (hr : (execOp ρ o).run P w = .ok n w') : ∃ v, n = .value v := by
  have key' : ∀ {α : Type} (m : Sem α) (g : α → Value), (m >>= fun v => (Pure.pure (Next.value (g v)) : Sem Next)).run P w = .ok n w' → ∃ v, n = .value v := by
    intro α m g hm
    simp only [Sem.run_bind] at hm
    cases hx : m.run P w with
    | ok v w1 =>
      rw [hx] at hm
      simp [Result.andThen] at hm
      exact ⟨g v, hm.1.symm⟩
    | halt x w1 =>
      rw [hx] at hm
      simp [Result.andThen] at hm
  have key := fun m : Sem Value => key' m id
  obtain ⟨dst, op, type, pos, after, guard⟩ := o
  cases op with
  | move x => simp [execOp] at hr; exact ⟨_, hr.1.symm⟩
  | assign x => simp [execOp] at hr; exact ⟨_, hr.1.symm⟩
  | pick c a b => exact key' _ _ hr
  | load t x => exact key _ hr
  | binOp b t x y u => exact key _ hr
  | unOp b t x => exact key _ hr
  | convert s d x => exact key _ hr
  | slice t x l hh m => exact key _ hr
  | fieldAddr t x i => exact key _ hr
  | field t x i => exact key _ hr
  | indexAddr t x i => exact key _ hr
  | index t x i => exact key _ hr
  | extract x i => exact key _ hr
  | build t ps => exact key _ hr
  | nilCheck x => exact nilCheck_value hr
  | call c =>
    obtain ⟨callee, args, argTypes⟩ := c
    cases callee with
    | builtin b => cases b <;> first | (simp [valueOp] at h; done) | exact key _ hr
    | value f => simp [valueOp] at h
    | invoke r m => simp [valueOp] at h
  | _ => simp [valueOp] at h
theorem yields_of_quiet {o : Oper} {a : Act} {K : Act → Prop} (hv : valueOp o.op = true) (hw : Region.wanted o (yielded ops a.tmps) = true) (h : o.quiet P a S K) : ∃ v, (∀ w, S w → YieldsAt P ops w o v a) ∧ K (a.put o.dst v) := by
  obtain ⟨v, h1, h2⟩ := h
  refine ⟨v, fun w hS => ?_, h2⟩
  have h3 := h1 w hS
  unfold Oper.quietAt at h3
  cases hr : (execOp a.eval o).run P w with
  | ok n w' =>
    rw [hr] at h3
    obtain ⟨u, rfl⟩ := valueOp_run hv w w' n hr
    simp only [Oper.quietUpon] at h3
    obtain ⟨rfl, rfl⟩ := h3
    exact .inl ⟨hw, .inl hr⟩
  | halt x w' =>
    rw [hr] at h3
    exact h3.elim

/-- The post of a piece in a forced order: the class is kept, and the rest follows. -/
def Kept (S : World → Prop) (K : Act → World → Prop) : Exit → Act → World → Prop
  | .normal, a, w => S w ∧ K a w
  | _, _, _ => False

/-- The pieces of a region in the order of the text: (true, n): n operations that only read; (false, n): n operations in a forced order. -/
def wpSegs (P : Program) (ops : Array Oper) (S : World → Prop) (Q : Exit → Act → World → Prop) : List (Bool × Nat) → List Oper → Act → World → Prop
  | [], _, a, w => Q .normal a w
  | (true, n) :: r, l, a, w => wpQuiet P ops S (fun a' => wpSegs P ops S Q r (l.drop n) a' w) (l.take n) a
  | (false, n) :: r, l, a, w => wpList P ops (Kept S fun a' w' => wpSegs P ops S Q r (l.drop n) a' w') (l.take n) a w

/-- One operation a time. -/
def wpEach (P : Program) (ops : Array Oper) (S : World → Prop) (Q : Exit → Act → World → Prop) : List Bool → List Oper → Act → World → Prop
  | true :: qs, o :: l, a, w => ∃ v, (∀ w, S w → YieldsAt P ops w o v a) ∧ wpEach P ops S Q qs l (a.put o.dst v) w
  | false :: qs, o :: l, a, w => if Region.wanted o (yielded ops a.tmps) then o.wp P a w (fun a' w' => S w' ∧ wpEach P ops S Q qs l a' w') Q else wpEach P ops S Q qs l (a.put o.dst undef) w
  | _, _, a, w => Q .normal a w
def flat : List (Bool × Nat) → List Bool
  | [] => []
  | (b, n) :: r => List.replicate n b ++ flat r
def eachB (md : Region.Mode) (ops : Array Oper) : List Bool → Nat → Array Bool → Bool
  | [], _, listed => (Region.ready md ops listed).isEmpty
  | true :: qs, k, listed => (Region.ready md ops listed).contains k && Region.free md ops listed k && eachB md ops qs (k + 1) (listed.setIfInBounds k true)
  | false :: qs, k, listed => decide (Region.ready md ops listed = [k]) && eachB md ops qs (k + 1) (listed.setIfInBounds k true)

theorem any_of_each (hs : Region.noSelect ops = true) (hQ : ∀ c a d v w, Q (.panic c) (Act.put a d v) w → Q (.panic c) a w) :
    ∀ (l : List Oper) (qs : List Bool) (k : Nat) (listed : Array Bool) (a : Act) (w : World), (∀ j, l[j]? = ops[k + j]?) → qs.length = l.length → eachB md ops qs k listed = true → S w →
      wpEach P ops S Q qs l a w → wpAnyC P md ops S Q l.length listed a w
  | [], [], k, listed, a, w, _, _, hB, _, h => ⟨by simpa [eachB] using hB, h⟩
  | [], _ :: _, _, _, _, _, _, hl, _, _, _ => by simp at hl
  | _ :: _, [], _, _, _, _, _, hl, _, _, _ => by simp at hl
  | o :: l, true :: qs, k, listed, a, w, hl, hlen, hB, hS, h => by
    have h0 : ops[k]? = some o := by simpa using (hl 0).symm
    simp only [eachB, Bool.and_eq_true] at hB
    obtain ⟨⟨hr, hf⟩, hB'⟩ := hB
    obtain ⟨v, hy, hK⟩ := h
    exact first h0 (Region.noSelect_spec hs) hQ l.length listed a w hS (Region.free_spec h0 hf) (by simpa using hr) hy
      (any_of_each hs hQ l qs (k + 1) _ _ _ (fun j => by have := hl (j + 1); simpa [Nat.add_assoc, Nat.add_comm 1 j] using this) (by simpa using hlen) hB' hS hK)
  | o :: l, false :: qs, k, listed, a, w, hl, hlen, hB, hS, h => by
    have h0 : ops[k]? = some o := by simpa using (hl 0).symm
    simp only [eachB, Bool.and_eq_true, decide_eq_true_eq] at hB
    obtain ⟨hr, hB'⟩ := hB
    refine ⟨fun h1 => (by rw [hr] at h1; cases h1), fun i hi => ?_⟩
    rw [hr] at hi
    have hik : i = k := by simpa using hi
    subst hik
    have rest : ∀ a' w', S w' → wpEach P ops S Q qs l a' w' → wpAnyC P md ops S Q l.length (listed.setIfInBounds i true) a' w' := fun a' w' hS' h' =>
      any_of_each hs hQ l qs (i + 1) _ _ _ (fun j => by have := hl (j + 1); simpa [Nat.add_assoc, Nat.add_comm 1 j] using this) (by simpa using hlen) hB' hS' h'
    unfold wpOp
    simp only [h0]
    unfold wpEach at h
    split
    · rename_i hw
      rw [if_pos hw] at h
      exact .inl (Oper.wp_mono (fun a' w' h' => ⟨h'.1, rest a' w' h'.1 h'.2⟩) h)
    · rename_i hw
      rw [if_neg hw] at h
      exact ⟨hS, rest _ _ hS h⟩

theorem each_of_quiet {qs : List Bool} {l2 : List Oper} {w : World} : ∀ (l : List Oper) (a : Act), (∀ o ∈ l, valueOp o.op = true) → wpQuiet P ops S (fun a' => wpEach P ops S Q qs l2 a' w) l a → wpEach P ops S Q (List.replicate l.length true ++ qs) (l ++ l2) a w
  | [], a, _, h => h
  | o :: l, a, hv, h => by
    show ∃ v, _
    unfold wpQuiet at h
    split at h
    · rename_i hw
      obtain ⟨v, h1, h2⟩ := yields_of_quiet (hv o (by simp)) hw h
      exact ⟨v, h1, each_of_quiet l _ (fun o ho => hv o (by simp [ho])) h2⟩
    · rename_i hw
      exact ⟨undef, fun w _ => .inr ⟨by simpa using hw, rfl⟩, each_of_quiet l _ (fun o ho => hv o (by simp [ho])) h⟩
theorem not_lets {K : Act → World → Prop} : ¬ LetsOut (Kept S K) := fun ⟨_, _, h⟩ => h
theorem wp_of_kept {o : Oper} {a : Act} {w : World} {K K' : Act → World → Prop} {K2 : Act → World → Prop} (h : ∀ a w, K a w → K' a w) (hh : o.wp P a w K (Kept S K2)) : o.wp P a w K' Q := by
  unfold Oper.wp at *
  generalize (execOp a.eval o).run P w = r at *
  cases r with
  | ok n w' =>
    cases n <;> simp only [Oper.upon] at hh ⊢ <;>
      first
        | exact h _ _ hh
        | exact Calls.mono hh (fun e w'' he => by cases e <;> first | exact h _ _ he | exact (he : False).elim | exact absurd he not_lets)
        | exact Rows.mono hh (fun _ _ he => h _ _ he)
  | halt x w' =>
    cases x <;> simp only [Oper.upon] at hh ⊢ <;> exact (hh : False).elim
/-- In a forced piece every operation must keep the class: what the piece's end says is asked at each. -/
theorem each_of_list {qs : List Bool} {l2 : List Oper} {o : Oper} {a : Act} {w : World} (h : wpList P ops (Kept S fun a' w' => wpEach P ops S Q qs l2 a' w') [o] a w) : wpEach P ops S Q (false :: qs) (o :: l2) a w := by
  unfold wpEach
  unfold wpList at h
  split at h
  · rename_i hw
    rw [if_pos hw]
    rcases h with h | ⟨_, h⟩
    · exact wp_of_kept (fun a w h => h) h
    · exact absurd h not_lets
  · rename_i hw
    rw [if_neg hw]
    exact h.2
def okSegs : List (Bool × Nat) → List Oper → Bool
  | [], l => l.isEmpty
  | (true, n) :: r, l => decide (n ≤ l.length) && (l.take n).all (fun o => valueOp o.op) && okSegs r (l.drop n)
  | (false, n) :: r, l => decide (n = 1) && !l.isEmpty && okSegs r (l.drop n)
theorem flat_length : ∀ (segs : List (Bool × Nat)) (l : List Oper), okSegs segs l = true → (flat segs).length = l.length
  | [], l, h => by simp [okSegs] at h; simp [flat, h]
  | (true, n) :: r, l, h => by
    simp only [okSegs, Bool.and_eq_true, decide_eq_true_eq] at h
    have := flat_length r _ h.2
    simp [flat, this]; omega
  | (false, n) :: r, l, h => by
    simp only [okSegs, Bool.and_eq_true, decide_eq_true_eq] at h
    have := flat_length r _ h.2
    obtain ⟨⟨rfl, h2⟩, _⟩ := h
    cases l with
    | nil => simp at h2
    | cons o l => simp [flat, this]
theorem wpQuiet_imp {Q1 Q2 : Act → Prop} (hq : ∀ a, Q1 a → Q2 a) : ∀ (l : List Oper) (a : Act), wpQuiet P ops S Q1 l a → wpQuiet P ops S Q2 l a
  | [], a, h => hq a h
  | o :: l, a, h => by
    unfold wpQuiet at h ⊢
    split
    · rename_i hw
      rw [if_pos hw] at h
      exact Oper.quiet_mono (fun a' h' => wpQuiet_imp hq l a' h') h
    · rename_i hw
      rw [if_neg hw] at h
      exact wpQuiet_imp hq l _ h
theorem wpList_one_imp {K K' : Act → World → Prop} (hk : ∀ a w, S w → K a w → K' a w) {o : Oper} {a : Act} {w : World} (h : wpList P ops (Kept S K) [o] a w) : wpList P ops (Kept S K') [o] a w := by
  unfold wpList at h ⊢
  split
  · rename_i hw
    rw [if_pos hw] at h
    rcases h with h | ⟨_, h⟩
    · exact .inl (wp_of_kept (fun a w h => ⟨h.1, hk _ _ h.1 h.2⟩) h)
    · exact absurd h not_lets
  · rename_i hw
    rw [if_neg hw] at h
    exact ⟨h.1, hk _ _ h.1 h.2⟩
theorem each_of_segs : ∀ (segs : List (Bool × Nat)) (l : List Oper) (a : Act) (w : World), okSegs segs l = true → wpSegs P ops S Q segs l a w → wpEach P ops S Q (flat segs) l a w
  | [], l, a, w, h, hh => hh
  | (true, n) :: r, l, a, w, h, hh => by
    simp only [okSegs, Bool.and_eq_true, decide_eq_true_eq] at h
    obtain ⟨⟨hn, hv⟩, hr⟩ := h
    have hlen : (l.take n).length = n := by simp; omega
    have e := each_of_quiet (Q := Q) (qs := flat r) (l2 := l.drop n) (w := w) (l.take n) a (fun o ho => List.all_eq_true.1 hv o ho)
      (wpQuiet_imp (fun a' h' => each_of_segs r _ a' w hr h') _ _ hh)
    rw [hlen, List.take_append_drop] at e
    exact e
  | (false, n) :: r, l, a, w, h, hh => by
    simp only [okSegs, Bool.and_eq_true, decide_eq_true_eq] at h
    obtain ⟨⟨rfl, hl⟩, hr⟩ := h
    cases l with
    | nil => simp at hl
    | cons o l => exact each_of_list (wpList_one_imp (fun a' w' _ h' => each_of_segs r _ a' w' hr h') hh)

open Classical in
/-- A world of the class, given as one: 'u' if it is one, else w. -/
noncomputable def hold (S0 : World → Prop) (w u : World) : World := if S0 u then u else w
theorem hold_ok {S0 : World → Prop} {w : World} (h : S0 w) (u : World) : S0 (hold S0 w u) := by
  unfold hold; split <;> assumption
theorem hold_of {S0 : World → Prop} {w u : World} (h : S0 u) : ∃ x, u = hold S0 w x := ⟨u, by unfold hold; rw [if_pos h]⟩

def regionB (segs : List (Bool × Nat)) (ops : Array Oper) : Bool := Region.noSelect ops && okSegs segs ops.toList && eachB .any ops (flat segs) 0 (Array.replicate ops.size false)

/-- THE REGION, PIECE BY PIECE IN THE ORDER OF THE TEXT. S0: what every piece keeps of the world. -/
theorem wp_region_segs {id : Nat} {a : Act} {w : World} {l : List Oper} (S0 : World → Prop) (segs : List (Bool × Nat)) (hm : P.follows .mixedOrders = true) (hB : regionB segs l.toArray = true) (h0 : S0 { w with drawn := w.drawn + 1 })
    (h : ∀ W, S0 W → W = { w with drawn := w.drawn + 1 } → wpSegs P l.toArray (fun w' => ∃ u, w' = hold S0 W u) (NoPanic Q) segs l a W) : (Code.region id l.toArray true).wp P Q a w := by
  refine wp_region_noPanic (wp_region_any hm ?_)
  simp only [regionB, Bool.and_eq_true] at hB
  have h1 := h _ h0 rfl
  have h2 := each_of_segs segs l _ _ (by simpa using hB.1.2) h1
  have h3 := any_of_each (md := .any) (S := fun w' => ∃ u, w' = hold S0 { w with drawn := w.drawn + 1 } u) (Q := NoPanic Q) hB.1.1 (fun c a d v w h => h) l (flat segs) 0 (Array.replicate l.toArray.size false) a { w with drawn := w.drawn + 1 } (by simp)
    (by rw [flat_length segs l (by simpa using hB.1.2)]) hB.2 (hold_of h0) h2
  have h4 := wpAny_of _ _ _ _ h3
  simpa using h4
end
end Go.Seg
namespace Go.Seg
section
variable {P : Program} {ops : Array Oper} {md : Region.Mode} {S : World → Prop} {Q : Exit → Act → World → Prop} {last : Nat}

/-- Whatever order is picked, the class is kept, but by the last one. -/
def wpAnyL (P : Program) (md : Region.Mode) (ops : Array Oper) (last : Nat) (S : World → Prop) (Q : Exit → Act → World → Prop) : Nat → Array Bool → Act → World → Prop
  | 0, listed, a, w => Region.ready md ops listed = [] ∧ Q .normal a w
  | f + 1, listed, a, w =>
    (Region.ready md ops listed = [] → Q .normal a w) ∧
    ∀ i ∈ Region.ready md ops listed, wpOp P ops Q i (fun a' w' => (i ≠ last → S w') ∧ wpAnyL P md ops last S Q f (listed.setIfInBounds i true) a' w') a w
theorem wpAnyL_any : ∀ (f : Nat) (listed : Array Bool) (a : Act) (w : World), wpAnyL P md ops last S Q f listed a w → wpAny P md ops Q f listed a w
  | 0, _, _, _, h => h
  | f + 1, _, _, _, h => ⟨h.1, fun i hi => wpOp_mono (fun a' w' h' => wpAnyL_any f _ a' w' h'.2) (h.2 i hi)⟩
/-- The last one waits for all others. -/
def Lasts (md : Region.Mode) (ops : Array Oper) (last : Nat) : Prop := ∀ o, ops[last]? = some o → ∀ i, i < ops.size → i ≠ last → ∃ e ∈ o.after, Region.binds md e = true ∧ e.on = i

theorem firstL (hlast : Lasts md ops last) {i : Nat} {oi : Oper} {v : Value} (hi : ops[i]? = some oi) (hil : i ≠ last) (hsel : ∀ (j : Nat) (o : Oper) cs b, ops[j]? = some o → o.op ≠ .select cs b)
    (hQ : ∀ c a d v w, Q (.panic c) (Act.put a d v) w → Q (.panic c) a w) :
    ∀ (fuel : Nat) (listed : Array Bool) (a : Act) (w : World), S w →
      (∀ j oj, ops[j]? = some oj → j ≠ i → listed.getD j true = false → (∀ e ∈ oj.after, Region.binds md e = true → e.on ≠ i) → oi.apart ops oj = true) →
      i ∈ Region.ready md ops listed → (∀ w, S w → YieldsAt P ops w oi v a) →
      wpAnyL P md ops last S Q fuel (listed.setIfInBounds i true) (a.put oi.dst v) w → wpAnyL P md ops last S Q (fuel + 1) listed a w := by
  intro fuel
  induction fuel with
  | zero =>
    intro listed a w hS _ hr hy H
    refine ⟨fun h => (by rw [h] at hr; cases hr), fun j hj => ?_⟩
    by_cases hji : j = i
    · subst hji; exact wpOp_of_yields hi (hy w hS) ⟨fun _ => hS, H⟩
    · have := ready_mono hj hji
      rw [H.1] at this
      cases this
  | succ fuel ih =>
    intro listed a w hS hfree hr hy H
    refine ⟨fun h => (by rw [h] at hr; cases hr), fun j hj => ?_⟩
    by_cases hji : j = i
    · subst hji; exact wpOp_of_yields hi (hy w hS) ⟨fun _ => hS, H⟩
    · have h1 := H.2 j (ready_mono hj hji)
      obtain ⟨hjun, oj, hoj, hall⟩ := mem_ready.1 hj
      have hnot : ∀ e ∈ oj.after, Region.binds md e = true → e.on ≠ i := fun e he hb heq => by
        have h1 := hall e he hb
        have h0 := (mem_ready.1 hr).1
        rw [heq] at h1
        rcases Nat.lt_or_ge i listed.size with h' | h'
        · simp [h'] at h0 h1; rw [h0] at h1; cases h1
        · simp [Array.getElem?_eq_none h'] at h1
      have hjl : j ≠ last := by
        rintro rfl
        obtain ⟨e, he, hb, heq⟩ := hlast oj hoj i (Array.getElem?_eq_some_iff.1 hi).1 hil
        exact hnot e he hb heq
      have h2 := wpOp_put hoj (hfree j oj hoj hji hjun hnot) (fun cs b => hsel i oi cs b hi) (fun cs b => hsel j oj cs b hoj) hQ hy h1
      have hfree' : ∀ k ok, ops[k]? = some ok → k ≠ i → (listed.setIfInBounds j true).getD k true = false →
          (∀ e ∈ ok.after, Region.binds md e = true → e.on ≠ i) → oi.apart ops ok = true := fun k ok hk hki hun hno => by
        refine hfree k ok hk hki ?_ hno
        by_cases hjk : j = k
        · subst hjk; exact hjun
        · rw [getD_set_ne true hjk] at hun; exact hun
      refine wpOp_mono (fun a' w' h3 => ⟨h3.2.1, ih (listed.setIfInBounds j true) a' w' (h3.2.1 hjl) hfree' (ready_mono hr (Ne.symm hji)) h3.1 ?_⟩) h2
      rw [Array.setIfInBounds_comm _ _ hji]
      exact h3.2.2

/-- The pieces: the last forced one need not keep the class. -/
def wpSegsL (P : Program) (ops : Array Oper) (S : World → Prop) (Q : Exit → Act → World → Prop) : List (Bool × Nat) → List Oper → Act → World → Prop
  | [], _, a, w => Q .normal a w
  | (true, n) :: r, l, a, w => wpQuiet P ops S (fun a' => wpSegsL P ops S Q r (l.drop n) a' w) (l.take n) a
  | [(false, n)], l, a, w => wpList P ops (Kept (fun _ => True) fun a' w' => Q .normal a' w') (l.take n) a w
  | (false, n) :: s :: r, l, a, w => wpList P ops (Kept S fun a' w' => wpSegsL P ops S Q (s :: r) (l.drop n) a' w') (l.take n) a w
/-- One operation a time. -/
def wpEachL (P : Program) (ops : Array Oper) (S : World → Prop) (Q : Exit → Act → World → Prop) : List Bool → List Oper → Act → World → Prop
  | true :: qs, o :: l, a, w => ∃ v, (∀ w, S w → YieldsAt P ops w o v a) ∧ wpEachL P ops S Q qs l (a.put o.dst v) w
  | [false], [o], a, w => if Region.wanted o (yielded ops a.tmps) then o.wp P a w (fun a' w' => Q .normal a' w') Q else Q .normal (a.put o.dst undef) w
  | false :: q :: qs, o :: o2 :: l, a, w => if Region.wanted o (yielded ops a.tmps) then o.wp P a w (fun a' w' => S w' ∧ wpEachL P ops S Q (q :: qs) (o2 :: l) a' w') Q else wpEachL P ops S Q (q :: qs) (o2 :: l) (a.put o.dst undef) w
  | [], [], a, w => Q .normal a w
  | _, _, _, _ => False
def eachBL (md : Region.Mode) (ops : Array Oper) : List Bool → List Nat → Array Bool → Bool
  | [], [], listed => (Region.ready md ops listed).isEmpty
  | true :: qs, k :: ks, listed => (Region.ready md ops listed).contains k && Region.free md ops listed k && eachBL md ops qs ks (listed.setIfInBounds k true)
  | false :: qs, k :: ks, listed => decide (Region.ready md ops listed = [k]) && eachBL md ops qs ks (listed.setIfInBounds k true)
  | _, _, _ => false

theorem anyL_of_each (hlast : Lasts md ops last) (hs : Region.noSelect ops = true) (hQ : ∀ c a d v w, Q (.panic c) (Act.put a d v) w → Q (.panic c) a w) :
    ∀ (l : List Oper) (qs : List Bool) (ks : List Nat) (listed : Array Bool) (a : Act) (w : World), (ks.map fun k => ops[k]?) = l.map some → qs.length = l.length → eachBL md ops qs ks listed = true →
      (∀ k ∈ ks.dropLast, k ≠ last) → (qs ≠ [] → qs.getLast? = some false → ks.getLast? = some last) → (qs.getLast? = some true → ∀ k ∈ ks, k ≠ last) → S w →
      wpEachL P ops S Q qs l a w → wpAnyL P md ops last S Q l.length listed a w
  | [], [], [], listed, a, w, _, _, hB, _, _, _, _, h => ⟨by simpa [eachBL] using hB, h⟩
  | [], [], k :: ks, _, _, _, hl, _, _, _, _, _, _, _ => by simp at hl
  | [], _ :: _, _, _, _, _, _, hl, _, _, _, _, _, _ => by simp at hl
  | _ :: _, [], _, _, _, _, _, hl, _, _, _, _, _, _ => by simp at hl
  | _ :: _, _ :: _, [], _, _, _, hl, _, _, _, _, _, _, _ => by simp at hl
  | o :: l, true :: qs, k :: ks, listed, a, w, hl, hlen, hB, hd, hfl, htl, hS, h => by
    simp only [List.map_cons, List.cons.injEq] at hl
    have h0 : ops[k]? = some o := hl.1
    simp only [eachBL, Bool.and_eq_true] at hB
    obtain ⟨⟨hr, hf⟩, hB'⟩ := hB
    obtain ⟨v, hy, hK⟩ := h
    have hkl : k ≠ last := by
      cases hks : ks with
      | nil =>
        have hln : l = [] := by
          have := congrArg List.length hl.2; rw [hks] at this; exact List.eq_nil_of_length_eq_zero (by simpa using this.symm)
        have hqn : qs = [] := by rw [hln] at hlen; simpa using hlen
        exact htl (by rw [hqn]; rfl) k (by simp)
      | cons k2 ks2 => exact hd k (by rw [hks]; simp)
    refine firstL hlast h0 hkl (Region.noSelect_spec hs) hQ l.length listed a w hS (Region.free_spec h0 hf) (by simpa using hr) hy
      (anyL_of_each hlast hs hQ l qs ks _ _ _ hl.2 (by simpa using hlen) hB' ?_ ?_ ?_ hS hK)
    · intro j hj
      cases hks : ks with
      | nil => rw [hks] at hj; simp at hj
      | cons k2 ks2 => exact hd j (by rw [hks] at hj ⊢; simp [List.dropLast]; exact .inr hj)
    · intro hq hql
      cases qs with
      | nil => exact absurd rfl hq
      | cons q qs =>
        have := hfl (by simp) (by simpa using hql)
        cases ks with
        | nil => have := congrArg List.length hl.2; simp at this hlen; omega
        | cons k2 ks2 => simpa using this
    · intro hql j hj
      cases qs with
      | nil => simp at hql
      | cons q qs => exact htl (by simpa using hql) j (by simp [hj])
  | [o], [false], k :: ks, listed, a, w, hl, hlen, hB, hd, hfl, htl, hS, h => by
    simp only [List.map_cons, List.cons.injEq] at hl
    have h0 : ops[k]? = some o := hl.1
    have hks : ks = [] := by simpa using hl.2
    subst hks
    simp only [eachBL, Bool.and_eq_true, decide_eq_true_eq] at hB
    obtain ⟨hr, hB'⟩ := hB
    refine ⟨fun h1 => (by rw [hr] at h1; cases h1), fun i hi => ?_⟩
    rw [hr] at hi
    have hik : i = k := by simpa using hi
    subst hik
    have hkl : i = last := by simpa using hfl (by simp) rfl
    unfold wpOp
    simp only [h0]
    unfold wpEachL at h
    have hrd : Region.ready md ops (listed.setIfInBounds i true) = [] := by simpa using hB'
    split
    · rename_i hw
      rw [if_pos hw] at h
      exact .inl (Oper.wp_mono (fun a' w' h' => ⟨fun hne => absurd hkl hne, ⟨hrd, h'⟩⟩) h)
    · rename_i hw
      rw [if_neg hw] at h
      exact ⟨fun hne => absurd hkl hne, ⟨hrd, h⟩⟩
  | [o], false :: q :: qs, _, _, _, _, _, hlen, _, _, _, _, _, _ => by simp at hlen
  | o :: o2 :: l, [false], _, _, _, _, _, hlen, _, _, _, _, _, _ => by simp at hlen
  | o :: o2 :: l, false :: q :: qs, k :: ks, listed, a, w, hl, hlen, hB, hd, hfl, htl, hS, h => by
    have hl0 := hl
    rw [List.map_cons, List.map_cons, List.cons.injEq] at hl
    have h0 : ops[k]? = some o := hl.1
    simp only [eachBL, Bool.and_eq_true, decide_eq_true_eq] at hB
    obtain ⟨hr, hB'⟩ := hB
    refine ⟨fun h1 => (by rw [hr] at h1; cases h1), fun i hi => ?_⟩
    rw [hr] at hi
    have hik : i = k := by simpa using hi
    subst hik
    have rest : ∀ a' w', S w' → wpEachL P ops S Q (q :: qs) (o2 :: l) a' w' → wpAnyL P md ops last S Q (o2 :: l).length (listed.setIfInBounds i true) a' w' := fun a' w' hS' h' => by
      refine anyL_of_each hlast hs hQ (o2 :: l) (q :: qs) ks _ _ _ hl.2 (by simpa using hlen) hB' ?_ ?_ ?_ hS' h'
      · intro j hj
        cases hks : ks with
        | nil => rw [hks] at hj; simp at hj
        | cons k2 ks2 => exact hd j (by rw [hks] at hj ⊢; simp [List.dropLast]; exact .inr hj)
      · intro hq hql
        have := hfl (by simp) (by simpa using hql)
        cases ks with
        | nil => simp at hl
        | cons k2 ks2 => simpa using this
      · intro hql j hj
        exact htl (by simpa using hql) j (by simp [hj])
    unfold wpOp
    simp only [h0]
    unfold wpEachL at h
    split
    · rename_i hw
      rw [if_pos hw] at h
      exact .inl (Oper.wp_mono (fun a' w' h' => ⟨fun _ => h'.1, rest a' w' h'.1 h'.2⟩) h)
    · rename_i hw
      rw [if_neg hw] at h
      exact ⟨fun _ => hS, rest _ _ hS h⟩

theorem eachL_of_quiet {qs : List Bool} {l2 : List Oper} {w : World} : ∀ (l : List Oper) (a : Act), (∀ o ∈ l, valueOp o.op = true) → wpQuiet P ops S (fun a' => wpEachL P ops S Q qs l2 a' w) l a → wpEachL P ops S Q (List.replicate l.length true ++ qs) (l ++ l2) a w
  | [], a, _, h => h
  | o :: l, a, hv, h => by
    show ∃ v, _
    unfold wpQuiet at h
    split at h
    · rename_i hw
      obtain ⟨v, h1, h2⟩ := yields_of_quiet (hv o (by simp)) hw h
      exact ⟨v, h1, eachL_of_quiet l _ (fun o ho => hv o (by simp [ho])) h2⟩
    · rename_i hw
      exact ⟨undef, fun w _ => .inr ⟨by simpa using hw, rfl⟩, eachL_of_quiet l _ (fun o ho => hv o (by simp [ho])) h⟩
theorem eachL_of_list {q : Bool} {qs : List Bool} {o2 : Oper} {l2 : List Oper} {o : Oper} {a : Act} {w : World} (h : wpList P ops (Kept S fun a' w' => wpEachL P ops S Q (q :: qs) (o2 :: l2) a' w') [o] a w) : wpEachL P ops S Q (false :: q :: qs) (o :: o2 :: l2) a w := by
  unfold wpEachL
  unfold wpList at h
  split at h
  · rename_i hw
    rw [if_pos hw]
    rcases h with h | ⟨_, h⟩
    · exact wp_of_kept (fun a w h => h) h
    · exact absurd h not_lets
  · rename_i hw
    rw [if_neg hw]
    exact h.2
theorem eachL_of_last {o : Oper} {a : Act} {w : World} (h : wpList P ops (Kept (fun _ => True) fun a' w' => Q .normal a' w') [o] a w) : wpEachL P ops S Q [false] [o] a w := by
  unfold wpEachL
  unfold wpList at h
  split at h
  · rename_i hw
    rw [if_pos hw]
    rcases h with h | ⟨_, h⟩
    · exact wp_of_kept (fun a w h => h.2) h
    · exact absurd h not_lets
  · rename_i hw
    rw [if_neg hw]
    exact h.2
theorem eachL_of_segs : ∀ (segs : List (Bool × Nat)) (l : List Oper) (a : Act) (w : World), okSegs segs l = true → (segs.all fun s => decide (0 < s.2)) = true → wpSegsL P ops S Q segs l a w → wpEachL P ops S Q (flat segs) l a w
  | [], l, a, w, h, _, hh => by
    simp [okSegs] at h; subst h; exact hh
  | (true, n) :: r, l, a, w, h, hp, hh => by
    simp only [okSegs, Bool.and_eq_true, decide_eq_true_eq] at h
    obtain ⟨⟨hn, hv⟩, hr⟩ := h
    simp only [List.all_cons, Bool.and_eq_true] at hp
    have hlen : (l.take n).length = n := by simp; omega
    have e := eachL_of_quiet (Q := Q) (qs := flat r) (l2 := l.drop n) (w := w) (l.take n) a (fun o ho => List.all_eq_true.1 hv o ho)
      (wpQuiet_imp (fun a' h' => eachL_of_segs r _ a' w hr hp.2 h') _ _ hh)
    rw [hlen, List.take_append_drop] at e
    exact e
  | [(false, n)], l, a, w, h, _, hh => by
    simp only [okSegs, Bool.and_eq_true, decide_eq_true_eq] at h
    obtain ⟨⟨rfl, hl⟩, hr⟩ := h
    cases l with
    | nil => simp at hl
    | cons o l =>
      have : l = [] := by simpa using hr
      subst this
      exact eachL_of_last hh
  | (false, n) :: s :: r, l, a, w, h, hp, hh => by
    simp only [okSegs, Bool.and_eq_true, decide_eq_true_eq] at h
    obtain ⟨⟨rfl, hl⟩, hr⟩ := h
    rw [List.all_cons, Bool.and_eq_true] at hp
    cases l with
    | nil => simp at hl
    | cons o l =>
      have hfl := flat_length (s :: r) l hr
      have hpos : 0 < (flat (s :: r)).length := by
        obtain ⟨b, n⟩ := s
        have := hp.2
        simp only [List.all_cons, Bool.and_eq_true, decide_eq_true_eq] at this
        simp [flat]; omega
      have h2 := wpList_one_imp (K' := fun a' w' => wpEachL P ops S Q (flat (s :: r)) l a' w') (fun a' w' _ h' => eachL_of_segs (s :: r) _ a' w' hr hp.2 h') hh
      show wpEachL P ops S Q (false :: flat (s :: r)) (o :: l) a w
      cases hf : flat (s :: r) with
      | nil => rw [hf] at hpos; simp at hpos
      | cons q qs =>
        cases l with
        | nil => rw [hfl] at hpos; simp at hpos
        | cons o2 l2 => rw [hf] at h2; exact eachL_of_list h2

def lastsB (md : Region.Mode) (ops : Array Oper) (last : Nat) : Bool := match ops[last]? with
  | none => true
  | some o => (List.range ops.size).all fun i => decide (i = last) || o.after.any fun e => Region.binds md e && decide (e.on = i)
theorem lastsB_spec (h : lastsB md ops last = true) : Lasts md ops last := by
  intro o ho i hi hne
  unfold lastsB at h
  rw [ho] at h
  have := List.all_eq_true.1 h i (List.mem_range.2 hi)
  simp only [Bool.or_eq_true, decide_eq_true_eq, Array.any_eq_true, Bool.and_eq_true] at this
  rcases this with h1 | ⟨j, hj, h2, h3⟩
  · exact absurd h1 hne
  · exact ⟨_, Array.getElem_mem hj, h2, h3⟩
/-- The order ord; where the last of it is a forced one, it waits for all others (else last is no operation's number). -/
def regionL (segs : List (Bool × Nat)) (ord : List Nat) (last : Nat) (l2 : List Oper) (ops : Array Oper) : Bool :=
  Region.noSelect ops && okSegs segs l2 && (segs.all fun s => decide (0 < s.2)) && eachBL .any ops (flat segs) ord (Array.replicate ops.size false) && lastsB .any ops last
    && decide (∀ k ∈ ord.dropLast, k ≠ last) && (match (flat segs).getLast? with | some false => decide (ord.getLast? = some last) | _ => decide (∀ k ∈ ord, k ≠ last))

theorem wp_region_ord {id : Nat} {a : Act} {w : World} {l : List Oper} (S0 : World → Prop) (segs : List (Bool × Nat)) (ord : List Nat) (last : Nat) (l2 : List Oper) (hm : P.follows .mixedOrders = true) (h2 : (ord.map fun k => l.toArray[k]?) = l2.map some) (h3 : l2.length = l.length)
    (hB : regionL segs ord last l2 l.toArray = true) (h0 : S0 { w with drawn := w.drawn + 1 })
    (h : ∀ W, S0 W → W = { w with drawn := w.drawn + 1 } → wpSegsL P l.toArray (fun w' => ∃ u, w' = hold S0 W u) (NoPanic Q) segs l2 a W) : (Code.region id l.toArray true).wp P Q a w := by
  refine wp_region_noPanic (wp_region_any hm ?_)
  simp only [regionL, Bool.and_eq_true, decide_eq_true_eq] at hB
  obtain ⟨⟨⟨⟨⟨⟨b1, b2⟩, b3⟩, b4⟩, b5⟩, b6⟩, b7⟩ := hB
  have g1 := h _ h0 rfl
  have g2 := eachL_of_segs segs l2 _ _ b2 b3 g1
  have g3 := anyL_of_each (md := .any) (last := last) (S := fun w' => ∃ u, w' = hold S0 { w with drawn := w.drawn + 1 } u) (Q := NoPanic Q) (lastsB_spec b5) b1 (fun c a d v w h => h) l2 (flat segs) ord (Array.replicate l.toArray.size false) a { w with drawn := w.drawn + 1 }
    h2 (flat_length segs l2 b2) b4 b6 (fun _ hf => by rw [hf] at b7; simpa using b7) (fun ht => by rw [ht] at b7; simpa using b7) (hold_of h0) g2
  have g4 := wpAnyL_any _ _ _ _ g3
  rw [h3] at g4
  simpa using g4
/-- The operations in the order ord. -/
def inOrder (l : List Oper) (ord : List Nat) : List Oper := ord.filterMap fun k => l[k]?
theorem inOrder_map {l : List Oper} : ∀ (ord : List Nat), (ord.all fun k => decide (k < l.length)) = true → (ord.map fun k => l.toArray[k]?) = (inOrder l ord).map some ∧ (inOrder l ord).length = ord.length
  | [], _ => ⟨rfl, rfl⟩
  | k :: ord, h => by
    simp only [List.all_cons, Bool.and_eq_true, decide_eq_true_eq] at h
    have ih := inOrder_map ord h.2
    have hk : l[k]? = some l[k] := List.getElem?_eq_getElem h.1
    unfold inOrder at ih ⊢
    simp only [List.getElem?_toArray] at ih
    simp only [List.map_cons, List.filterMap_cons, hk, List.length_cons, ih.1, ih.2, List.getElem?_toArray, and_self]
theorem wp_region_in {id : Nat} {a : Act} {w : World} {l : List Oper} (S0 : World → Prop) (segs : List (Bool × Nat)) (ord : List Nat) (last : Nat) (hm : P.follows .mixedOrders = true)
    (hB : ((ord.all fun k => decide (k < l.length)) && decide (ord.length = l.length) && regionL segs ord last (inOrder l ord) l.toArray) = true) (h0 : S0 { w with drawn := w.drawn + 1 })
    (h : ∀ W, S0 W → W = { w with drawn := w.drawn + 1 } → wpSegsL P l.toArray (fun w' => ∃ u, w' = hold S0 W u) (NoPanic Q) segs (inOrder l ord) a W) : (Code.region id l.toArray true).wp P Q a w := by
  simp only [Bool.and_eq_true, decide_eq_true_eq] at hB
  obtain ⟨⟨b1, b2⟩, b3⟩ := hB
  obtain ⟨c1, c2⟩ := inOrder_map ord b1
  exact wp_region_ord S0 segs ord last _ hm c1 (by rw [c2, b2]) b3 h0 h
end
end Go.Seg
namespace Go.Slb
/-- A slab: its frame, and which of its objects are used. -/
abbrev S := Int × List Bool

def chkL (o : Int) : Int → List S → Int
  | _, [] => 0
  | p, s :: r => if s.1 < 0 ∨ 256 ≤ s.1 then 2 else if s.1 ≤ p then 10 else if (s.2.length : Int) ≠ o then 3 else if s.2.contains true = false then 6 else chkL o s.1 r
/-- The first error of a cache. -/
def check (o : Int) (l : List S) : Int := if o < 1 ∨ 32 < o then 1 else chkL o (-1) l

/-- The frames ascend, from one above p on. -/
def Asc : Int → List S → Prop
  | _, [] => True
  | p, s :: r => p < s.1 ∧ Asc s.1 r
/-- What a valid cache is. -/
structure Ok (o : Int) (l : List S) : Prop where
  o1 : 1 ≤ o
  o2 : o ≤ 32
  asc : Asc (-1) l
  fr : ∀ s ∈ l, 0 ≤ s.1 ∧ s.1 < 256
  len : ∀ s ∈ l, (s.2.length : Int) = o
  used : ∀ s ∈ l, true ∈ s.2
theorem chkL_ok {o : Int} : ∀ {l : List S} {p : Int}, chkL o p l = 0 ↔ (Asc p l ∧ (∀ s ∈ l, 0 ≤ s.1 ∧ s.1 < 256) ∧ (∀ s ∈ l, (s.2.length : Int) = o) ∧ ∀ s ∈ l, true ∈ s.2)
  | [], p => by simp [chkL, Asc]
  | s :: r, p => by
    unfold chkL
    split
    · constructor
      · intro h; omega
      · rintro ⟨_, h, _⟩; have := h s (by simp); omega
    · split
      · constructor
        · intro h; omega
        · rintro ⟨h, _⟩; have := h.1; omega
      · split
        · rename_i h3
          constructor
          · intro h; omega
          · rintro ⟨_, _, h, _⟩; exact absurd (h s (by simp)) h3
        · split
          · rename_i h4
            constructor
            · intro h; omega
            · rintro ⟨_, _, _, h⟩
              have h5 := h s (by simp)
              have : s.2.contains true = true := by simpa using h5
              rw [this] at h4; cases h4
          · rename_i h1 h2 h3 h4
            rw [chkL_ok (l := r)]
            have h4' : true ∈ s.2 := by simpa using h4
            simp only [List.mem_cons, forall_eq_or_imp, Asc]
            constructor
            · rintro ⟨a, b, c, d⟩; exact ⟨⟨by omega, a⟩, ⟨by omega, b⟩, ⟨by omega, c⟩, h4', d⟩
            · rintro ⟨⟨_, a⟩, ⟨_, b⟩, ⟨_, c⟩, _, d⟩; exact ⟨a, b, c, d⟩
theorem check_ok {o : Int} {l : List S} : check o l = 0 ↔ Ok o l := by
  unfold check
  split
  · constructor
    · intro h; omega
    · intro h; have := h.o1; have := h.o2; omega
  · rw [chkL_ok]
    constructor
    · rintro ⟨a, b, c, d⟩; exact ⟨by omega, by omega, a, b, c, d⟩
    · intro h; exact ⟨h.asc, h.fr, h.len, h.used⟩

/-! ### Counting -/
def cnt (u : List Bool) : Nat := u.count true
def used : List S → Nat
  | [] => 0
  | s :: r => cnt s.2 + used r
def free (o : Int) (l : List S) : Int := l.length * o - used l
theorem used_le {o : Int} : ∀ {l : List S}, (∀ s ∈ l, (s.2.length : Int) = o) → (used l : Int) ≤ l.length * o
  | [], _ => by simp [used]
  | s :: r, h => by
    have h1 := used_le (l := r) fun t ht => h t (by simp [ht])
    have h2 := h s (by simp)
    have h3 := List.count_le_length (a := true) (l := s.2)
    simp only [used, cnt, List.length_cons, Int.natCast_add, Int.natCast_one, Int.add_mul, Int.one_mul]
    omega
def needL (o : Int) (l : List S) (n : Int) : Int := if n < 1 ∨ check o l ≠ 0 ∨ n ≤ free o l then 0 else (n - free o l - 1) / o + 1
theorem ceil_eq {m o : Int} (ho : 1 ≤ o) : (m - 1) / o + 1 = m / o + if 0 < m % o then 1 else 0 := by
  have h1 := Int.emod_add_mul_ediv m o
  have h2 := Int.emod_nonneg m (by omega : o ≠ 0)
  have h3 := Int.emod_lt_of_pos m (by omega : 0 < o)
  split
  · have e : m - 1 = (m % o - 1) + o * (m / o) := by omega
    rw [e, Int.add_mul_ediv_left _ _ (by omega), Int.ediv_eq_zero_of_lt (by omega) (by omega)]
    omega
  · have h0 : m % o = 0 := by omega
    have e : m - 1 = (o - 1) + o * (m / o - 1) := by rw [Int.mul_sub]; omega
    rw [e, Int.add_mul_ediv_left _ _ (by omega), Int.ediv_eq_zero_of_lt (by omega) (by omega)]
    omega

/-! ### The numbers of objects -/
def offs (f o : Int) (b : Bool) : Nat → List Bool → List Int
  | _, [] => []
  | k, u :: r => if u = b then (f * o + k) :: offs f o b (k + 1) r else offs f o b (k + 1) r
def objs (o : Int) (b : Bool) : List S → List Int
  | [] => []
  | s :: r => offs s.1 o b 0 s.2 ++ objs o b r
theorem offs_len (f o : Int) (b : Bool) : ∀ (u : List Bool) (k : Nat), (offs f o b k u).length = u.count b
  | [], _ => rfl
  | x :: r, k => by
    unfold offs
    by_cases h : x = b
    · rw [if_pos h]; simp [offs_len f o b r, h]
    · rw [if_neg h, offs_len f o b r, List.count_cons]; simp [h]
theorem objs_len (o : Int) : ∀ (l : List S), (objs o true l).length = used l
  | [] => rfl
  | s :: r => by simp [objs, used, offs_len, objs_len o r, cnt]
theorem mem_offs {f o : Int} {b : Bool} {x : Int} : ∀ {u : List Bool} {k : Nat}, x ∈ offs f o b k u ↔ ∃ i : Nat, u[i]? = some b ∧ x = f * o + ((k + i : Nat) : Int)
  | [], k => by simp [offs]
  | y :: r, k => by
    have ih := mem_offs (f := f) (o := o) (b := b) (x := x) (u := r) (k := k + 1)
    unfold offs
    constructor
    · intro h
      by_cases hy : y = b
      · rw [if_pos hy] at h
        rcases List.mem_cons.1 h with h | h
        · exact ⟨0, by simp [hy], by simpa using h⟩
        · obtain ⟨i, h1, h2⟩ := ih.1 h
          exact ⟨i + 1, by simpa using h1, by rw [h2]; congr 2; omega⟩
      · rw [if_neg hy] at h
        obtain ⟨i, h1, h2⟩ := ih.1 h
        exact ⟨i + 1, by simpa using h1, by rw [h2]; congr 2; omega⟩
    · rintro ⟨i, h1, h2⟩
      cases i with
      | zero =>
        have : y = b := by simpa using h1
        rw [if_pos this]; simp [h2]
      | succ i =>
        have h3 := ih.2 ⟨i, by simpa using h1, by rw [h2]; congr 2; omega⟩
        split
        · exact List.mem_cons_of_mem _ h3
        · exact h3
theorem mem_objs {o : Int} {b : Bool} {x : Int} : ∀ {l : List S}, x ∈ objs o b l ↔ ∃ s ∈ l, ∃ i : Nat, s.2[i]? = some b ∧ x = s.1 * o + (i : Int)
  | [] => by simp [objs]
  | s :: r => by
    simp only [objs, List.mem_append, mem_offs, mem_objs (l := r), List.mem_cons]
    constructor
    · rintro (⟨i, h1, h2⟩ | ⟨t, ht, i, h1, h2⟩)
      · exact ⟨s, .inl rfl, i, h1, by simpa using h2⟩
      · exact ⟨t, .inr ht, i, h1, h2⟩
    · rintro ⟨t, rfl | ht, i, h1, h2⟩
      · exact .inl ⟨i, h1, by simpa using h2⟩
      · exact .inr ⟨t, ht, i, h1, h2⟩

/-! ### More slabs -/
def ins (x : S) : List S → List S
  | [] => [x]
  | s :: r => if x.1 < s.1 then x :: s :: r else s :: ins x r
def hasF (f : Int) (l : List S) : Bool := l.any fun s => s.1 == f
/-- How many slabs lie below a frame. -/
def below (f : Int) (l : List S) : Nat := l.countP fun s => decide (s.1 < f)
theorem asc_weaken : ∀ {l : List S} {p q : Int}, Asc p l → q ≤ p → Asc q l
  | [], _, _, _, _ => trivial
  | _ :: _, _, _, h, hq => ⟨by have := h.1; omega, h.2⟩
theorem asc_lt : ∀ {l : List S} {p : Int}, Asc p l → ∀ s ∈ l, p < s.1
  | [], _, _, s, hs => by simp at hs
  | t :: r, p, h, s, hs => by
    rcases List.mem_cons.1 hs with rfl | hs
    · exact h.1
    · exact asc_lt (asc_weaken h.2 (by have := h.1; omega)) s hs
theorem ins_eq {x : S} : ∀ {l : List S} {p : Int}, Asc p l → hasF x.1 l = false → ins x l = l.take (below x.1 l) ++ x :: l.drop (below x.1 l)
  | [], _, _, _ => rfl
  | s :: r, p, h, hf => by
    simp only [hasF, List.any_cons, Bool.or_eq_false_iff, beq_eq_false_iff_ne] at hf
    unfold ins
    by_cases hx : x.1 < s.1
    · have hz : ∀ t ∈ r, ¬ t.1 < x.1 := fun t ht => by have := asc_lt h.2 t ht; omega
      have e : below x.1 (s :: r) = 0 := by
        unfold below; rw [List.countP_eq_zero]
        intro t ht
        rcases List.mem_cons.1 ht with rfl | ht
        · simp; omega
        · simpa using hz t ht
      rw [if_pos hx, e]; rfl
    · have hb : below x.1 (s :: r) = below x.1 r + 1 := by
        unfold below; rw [List.countP_cons, if_pos (by simp; omega)]
      rw [if_neg hx, hb, ins_eq h.2 hf.2]; rfl
theorem asc_ins {x : S} : ∀ {l : List S} {p : Int}, Asc p l → p < x.1 → hasF x.1 l = false → Asc p (ins x l)
  | [], _, _, hp, _ => ⟨hp, trivial⟩
  | s :: r, p, h, hp, hf => by
    simp only [hasF, List.any_cons, Bool.or_eq_false_iff, beq_eq_false_iff_ne] at hf
    unfold ins
    split
    · exact ⟨hp, by assumption, h.2⟩
    · exact ⟨h.1, asc_ins h.2 (by omega) hf.2⟩
theorem mem_ins {x s : S} : ∀ {l : List S}, s ∈ ins x l ↔ s = x ∨ s ∈ l
  | [] => by simp [ins]
  | t :: r => by
    unfold ins
    split
    · simp
    · rw [List.mem_cons, mem_ins (l := r), List.mem_cons]
      constructor
      · rintro (h | h | h)
        · exact .inr (.inl h)
        · exact .inl h
        · exact .inr (.inr h)
      · rintro (h | h | h)
        · exact .inr (.inl h)
        · exact .inl h
        · exact .inr (.inr h)
end Go.Slb
namespace Go.Slb
theorem asc_inj : ∀ {l : List S} {p : Int}, Asc p l → ∀ {s t : S}, s ∈ l → t ∈ l → s.1 = t.1 → s = t
  | [], _, _, _, _, hs, _, _ => by simp at hs
  | x :: r, p, h, s, t, hs, ht, e => by
    rcases List.mem_cons.1 hs with h1 | h1 <;> rcases List.mem_cons.1 ht with h2 | h2
    · rw [h1, h2]
    · have := asc_lt h.2 t h2; rw [h1] at e; omega
    · have := asc_lt h.2 s h1; rw [h2] at e; omega
    · exact asc_inj h.2 h1 h2 e
theorem obj_div {f o : Int} {i : Nat} (h : (i : Int) < o) : (f * o + (i : Int)) / o = f := by
  rw [Int.add_comm, Int.add_mul_ediv_right _ _ (by omega), Int.ediv_eq_zero_of_lt (by omega) (by omega)]; omega
theorem obj_mod {f o : Int} {i : Nat} (h : (i : Int) < o) : (f * o + (i : Int)) % o = i := by
  rw [Int.add_comm, Int.add_mul_emod_self_right, Int.emod_eq_of_lt (by omega) h]
theorem lt_of_flag {u : List Bool} {i : Nat} {b : Bool} (h : u[i]? = some b) : i < u.length := by
  rw [List.getElem?_eq_some_iff] at h; obtain ⟨h, _⟩ := h; exact h
/-- The flags of a slab are those that say which numbers are used. -/
theorem flag_iff {o : Int} {b : Bool} {l : List S} {p : Int} (ha : Asc p l) (hl : ∀ s ∈ l, (s.2.length : Int) = o) {s : S} (hs : s ∈ l) {i : Nat} (hi : i < s.2.length) : s.1 * o + (i : Int) ∈ objs o b l ↔ s.2[i]? = some b := by
  rw [mem_objs]
  constructor
  · rintro ⟨t, ht, j, hj, e⟩
    have h1 := hl s hs
    have h2 := hl t ht
    have h3 := lt_of_flag hj
    have e1 : s.1 = t.1 := by
      have a1 := obj_div (f := s.1) (o := o) (i := i) (by omega)
      have a2 := obj_div (f := t.1) (o := o) (i := j) (by omega)
      rw [← a1, ← a2, e]
    have e2 : i = j := by rw [e1] at e; omega
    rw [asc_inj ha hs ht e1, e2]; exact hj
  · intro h
    exact ⟨s, hs, i, h, rfl⟩
theorem ext {o : Int} {l m : List S} {p q : Int} (hl : Asc p l) (hm : Asc q m) (ll : ∀ s ∈ l, (s.2.length : Int) = o) (lm : ∀ s ∈ m, (s.2.length : Int) = o)
    (hf : l.map (·.1) = m.map (·.1)) (hx : ∀ x, x ∈ objs o true l ↔ x ∈ objs o true m) : l = m := by
  have hlen : l.length = m.length := by have := congrArg List.length hf; simpa using this
  apply List.ext_getElem hlen
  intro i h1 h2
  have e1 : l[i].1 = m[i].1 := by
    have h3 : i < (l.map (·.1)).length := by rw [List.length_map]; exact h1
    have := List.getElem_of_eq hf h3
    rw [List.getElem_map, List.getElem_map] at this
    exact this
  have u : l[i].2 = m[i].2 := by
    have a1 := ll l[i] (List.getElem_mem h1)
    have a2 := lm m[i] (List.getElem_mem h2)
    apply List.ext_getElem (by omega)
    intro j h3 h4
    have f1 := flag_iff (b := true) hl ll (List.getElem_mem h1) h3
    have f2 := flag_iff (b := true) hm lm (List.getElem_mem h2) h4
    rw [e1, hx] at f1
    have : l[i].2[j]? = some true ↔ m[i].2[j]? = some true := f1.symm.trans f2
    rw [List.getElem?_eq_getElem h3, List.getElem?_eq_getElem h4] at this
    exact Bool.eq_iff_iff.2 ⟨fun h => Option.some.inj (this.1 (congrArg some h)), fun h => Option.some.inj (this.2 (congrArg some h))⟩
  exact Prod.ext e1 u
def AscI : Int → List Int → Prop
  | _, [] => True
  | p, x :: r => p < x ∧ AscI x r
theorem ascI_lt : ∀ {l : List Int} {p : Int}, AscI p l → ∀ x ∈ l, p < x
  | [], _, _, s, hs => by simp at hs
  | t :: r, p, h, s, hs => by
    rcases List.mem_cons.1 hs with rfl | hs
    · exact h.1
    · have := ascI_lt h.2 s hs; have := h.1; omega
theorem ascI_ext : ∀ {l m : List Int} {p q : Int}, AscI p l → AscI q m → (∀ x, x ∈ l ↔ x ∈ m) → l = m
  | [], [], _, _, _, _, _ => rfl
  | [], y :: m, _, _, _, _, h => by have := (h y).2 (by simp); simp at this
  | x :: l, [], _, _, _, _, h => by have := (h x).1 (by simp); simp at this
  | x :: l, y :: m, p, q, hl, hm, h => by
    have e : x = y := by
      have h1 := (h x).1 (by simp)
      have h2 := (h y).2 (by simp)
      rcases List.mem_cons.1 h1 with h1 | h1
      · exact h1
      · rcases List.mem_cons.1 h2 with h2 | h2
        · exact h2.symm
        · have := ascI_lt hm.2 x h1; have := ascI_lt hl.2 y h2; omega
    subst e
    congr 1
    refine ascI_ext hl.2 hm.2 fun z => ?_
    constructor
    · intro hz
      have h1 := ascI_lt hl.2 z hz
      rcases List.mem_cons.1 ((h z).1 (List.mem_cons_of_mem _ hz)) with h2 | h2
      · omega
      · exact h2
    · intro hz
      have h1 := ascI_lt hm.2 z hz
      rcases List.mem_cons.1 ((h z).2 (List.mem_cons_of_mem _ hz)) with h2 | h2
      · omega
      · exact h2
theorem asc_map : ∀ {l : List S} {p : Int}, Asc p l → AscI p (l.map (·.1))
  | [], _, _ => trivial
  | _ :: _, _, h => ⟨h.1, asc_map h.2⟩
/-- Valid caches with the same used objects are equal. -/
theorem ok_ext {o : Int} {l m : List S} (hl : Ok o l) (hm : Ok o m) (hx : ∀ x, x ∈ objs o true l ↔ x ∈ objs o true m) : l = m := by
  refine ext hl.asc hm.asc hl.len hm.len (ascI_ext (asc_map hl.asc) (asc_map hm.asc) ?_) hx
  have key : ∀ {l m : List S}, Ok o l → Ok o m → (∀ x, x ∈ objs o true l → x ∈ objs o true m) → ∀ f, f ∈ l.map (·.1) → f ∈ m.map (·.1) := by
    intro l m hl hm hx f hf
    simp only [List.mem_map] at hf
    obtain ⟨s, hs, rfl⟩ := hf
    obtain ⟨i, hi⟩ := List.getElem?_of_mem (hl.used s hs)
    have h2 := hx _ (mem_objs.2 ⟨s, hs, i, hi, rfl⟩)
    obtain ⟨t, ht, j, hj, e⟩ := mem_objs.1 h2
    have a1 := hl.len s hs
    have a2 := hm.len t ht
    have a3 := lt_of_flag hi
    have a4 := lt_of_flag hj
    have e1 := obj_div (f := s.1) (o := o) (i := i) (by omega)
    have e2 := obj_div (f := t.1) (o := o) (i := j) (by omega)
    rw [e, e2] at e1
    exact List.mem_map.2 ⟨t, ht, e1⟩
  exact fun f => ⟨key hl hm (fun x => (hx x).1) f, key hm hl (fun x => (hx x).2) f⟩

/-! ### Marks -/
/-- The flag of one object is set to b. -/
def setO (o : Int) (b : Bool) (x : Int) (l : List S) : List S := l.map fun s => if s.1 = x / o then (s.1, s.2.set (x % o).toNat b) else s
theorem setO_fst (o : Int) (b : Bool) (x : Int) (l : List S) : (setO o b x l).map (·.1) = l.map (·.1) := by
  simp only [setO, List.map_map]; congr 1; funext s; simp only [Function.comp]; split <;> rfl
theorem asc_of_map : ∀ {l m : List S} {p : Int}, Asc p l → l.map (·.1) = m.map (·.1) → Asc p m
  | [], [], _, _, _ => trivial
  | [], _ :: _, _, _, h => by simp at h
  | _ :: _, [], _, _, h => by simp at h
  | x :: l, y :: m, p, h, e => by
    simp only [List.map_cons, List.cons.injEq] at e
    exact ⟨by rw [← e.1]; exact h.1, by rw [← e.1]; exact asc_of_map h.2 e.2⟩
theorem setO_len {o : Int} {b : Bool} {x : Int} {l : List S} (h : ∀ s ∈ l, (s.2.length : Int) = o) : ∀ s ∈ setO o b x l, (s.2.length : Int) = o := by
  intro s hs
  simp only [setO, List.mem_map] at hs
  obtain ⟨t, ht, rfl⟩ := hs
  split
  · simpa using h t ht
  · exact h t ht
theorem mem_setO {o : Int} (ho : 1 ≤ o) {b : Bool} {x : Int} {l : List S} (h : ∀ s ∈ l, (s.2.length : Int) = o) (hx : ∃ s ∈ l, s.1 = x / o) {y : Int} :
    y ∈ objs o true (setO o b x l) ↔ (if b = true then y = x ∨ y ∈ objs o true l else y ∈ objs o true l ∧ y ≠ x) := by
  have hm := Int.emod_nonneg x (by omega : o ≠ 0)
  have hm2 := Int.emod_lt_of_pos x (by omega : 0 < o)
  have hxe : x = (x / o) * o + (((x % o).toNat : Nat) : Int) := by
    have := Int.emod_add_mul_ediv x o
    rw [Int.mul_comm] at this
    omega
  have up : ∀ {t : S} {i : Nat}, t ∈ l → t.1 = x / o → t.1 * o + (i : Int) = x → i = (x % o).toNat := by
    intro t i _ e1 e2
    rw [e1] at e2; omega
  constructor
  · intro hy
    obtain ⟨s, hs, i, hi, e⟩ := mem_objs.1 hy
    simp only [setO, List.mem_map] at hs
    obtain ⟨t, ht, rfl⟩ := hs
    have hlt := h t ht
    split at hi
    · rename_i ht1
      rw [if_pos ht1] at e
      rw [List.getElem?_set] at hi
      split at hi
      · rename_i hk
        split at hi
        · cases hi
          rw [if_pos rfl]
          left; rw [e, hxe, ht1]; omega
        · cases hi
      · rename_i hk
        have hin : y ∈ objs o true l := mem_objs.2 ⟨t, ht, i, hi, e⟩
        split
        · exact .inr hin
        · refine ⟨hin, fun hyx => hk ?_⟩
          exact (up ht ht1 (by rw [← hyx]; exact e.symm)).symm
    · rename_i ht1
      rw [if_neg ht1] at e
      have hin : y ∈ objs o true l := mem_objs.2 ⟨t, ht, i, hi, e⟩
      split
      · exact .inr hin
      · refine ⟨hin, fun hyx => ht1 ?_⟩
        have a1 := lt_of_flag hi
        have := obj_div (f := t.1) (o := o) (i := i) (by omega)
        rw [← e, hyx] at this
        exact this.symm
  · intro hy
    have old : ∀ y, y ∈ objs o true l → y ≠ x → y ∈ objs o true (setO o b x l) := by
      intro y hy hne
      obtain ⟨t, ht, i, hi, e⟩ := mem_objs.1 hy
      by_cases ht1 : t.1 = x / o
      · refine mem_objs.2 ⟨(t.1, t.2.set (x % o).toNat b), ?_, i, ?_, e⟩
        · simp only [setO, List.mem_map]; exact ⟨t, ht, by rw [if_pos ht1]⟩
        · rw [List.getElem?_set, if_neg]
          · exact hi
          · intro hk
            apply hne
            rw [e, hxe, ht1]; omega
      · refine mem_objs.2 ⟨t, ?_, i, hi, e⟩
        simp only [setO, List.mem_map]; exact ⟨t, ht, by rw [if_neg ht1]⟩
    split at hy
    · rename_i hb
      subst hb
      by_cases hyx : y = x
      · obtain ⟨t, ht, ht1⟩ := hx
        have hl := h t ht
        refine mem_objs.2 ⟨(t.1, t.2.set (x % o).toNat true), ?_, (x % o).toNat, ?_, ?_⟩
        · simp only [setO, List.mem_map]; exact ⟨t, ht, by rw [if_pos ht1]⟩
        · rw [List.getElem?_set, if_pos rfl, if_pos (by omega)]
        · rw [hyx, ht1]; exact hxe
      · rcases hy with hy | hy
        · exact absurd hy hyx
        · exact old y hy hyx
    · exact old y hy.1 hy.2
theorem ne_of_lt : ∀ {l : List S} {p : Int}, Asc p l → ∀ {i j : Nat} (h : i < j) (hj : j < l.length), l[i]'(by omega) ≠ l[j]
  | [], _, _, i, j, h, hj => by simp at hj
  | x :: r, p, ha, 0, j + 1, h, hj => by
    intro e
    have hj' : j < r.length := by simpa using hj
    have := asc_lt ha.2 r[j] (List.getElem_mem _)
    simp at e
    rw [← e] at this
    omega
  | x :: r, p, ha, i + 1, j + 1, h, hj => by
    simp only [List.getElem_cons_succ]
    exact ne_of_lt ha.2 (by omega) (by simpa using hj)
theorem setO_nth {o : Int} {b : Bool} {x : Int} {l : List S} {p : Int} (ha : Asc p l) {i : Nat} {s : S} (hi : l[i]? = some s) (hs : s.1 = x / o) : setO o b x l = l.set i (s.1, s.2.set (x % o).toNat b) := by
  have hlt : i < l.length := by rw [List.getElem?_eq_some_iff] at hi; obtain ⟨h, _⟩ := hi; exact h
  have hsi : l[i] = s := by rw [List.getElem?_eq_getElem hlt] at hi; exact Option.some.inj hi
  apply List.ext_getElem (by simp [setO])
  intro j h1 h2
  have hj : j < l.length := by simpa [setO] using h1
  simp only [setO, List.getElem_map, List.getElem_set]
  by_cases hij : i = j
  · subst hij; rw [if_pos rfl, hsi, if_pos hs]
  · rw [if_neg hij, if_neg]
    intro h
    have e : l[j] = l[i] := asc_inj ha (List.getElem_mem hj) (List.getElem_mem hlt) (by rw [h, hsi, hs])
    exact hij (by
      rcases Nat.lt_trichotomy i j with h' | h' | h'
      · exact absurd e (ne_of_lt ha h' hj).symm
      · exact h'
      · exact absurd e (ne_of_lt ha h' hlt))
end Go.Slb
namespace Go.Slb
/-- n free objects of one slab are used: its flags, and the numbers. -/
def tkU (f o : Int) : Nat → Nat → List Bool → List Bool × List Int
  | _, _, [] => ([], [])
  | k, n, u :: r => if 0 < n ∧ u = false then (true :: (tkU f o (k + 1) (n - 1) r).1, (f * o + k) :: (tkU f o (k + 1) (n - 1) r).2) else (u :: (tkU f o (k + 1) n r).1, (tkU f o (k + 1) n r).2)
def tk (o : Int) (want : Int → Bool) : Nat → List S → List S × List Int
  | _, [] => ([], [])
  | n, s :: r => if want s.1 = true then ((s.1, (tkU s.1 o 0 n s.2).1) :: (tk o want (n - (tkU s.1 o 0 n s.2).2.length) r).1, (tkU s.1 o 0 n s.2).2 ++ (tk o want (n - (tkU s.1 o 0 n s.2).2.length) r).2) else (s :: (tk o want n r).1, (tk o want n r).2)
theorem tkU_two (f o : Int) : ∀ (u : List Bool) (k n : Nat), (tkU f o k n u).2 = (offs f o false k u).take n
  | [], _, _ => by simp [tkU, offs]
  | u :: r, k, n => by
    unfold tkU offs
    by_cases hu : u = false
    · by_cases hn : 0 < n
      · obtain ⟨n, rfl⟩ : ∃ m, n = m + 1 := ⟨n - 1, by omega⟩
        rw [if_pos ⟨hn, hu⟩, if_pos hu]
        simp [tkU_two f o r]
      · obtain rfl : n = 0 := by omega
        rw [if_neg (by omega)]
        simp [tkU_two f o r]
    · rw [if_neg (by simp [hu]), if_neg hu]
      exact tkU_two f o r _ _
theorem tkU_len (f o : Int) : ∀ (u : List Bool) (k n : Nat), (tkU f o k n u).1.length = u.length
  | [], _, _ => rfl
  | u :: r, k, n => by
    unfold tkU
    split
    · simp [tkU_len f o r]
    · simp [tkU_len f o r]
theorem tkU_mem (f o : Int) (x : Int) : ∀ (u : List Bool) (k n : Nat), x ∈ offs f o true k (tkU f o k n u).1 ↔ x ∈ offs f o true k u ∨ x ∈ (tkU f o k n u).2
  | [], _, _ => by simp [tkU]
  | u :: r, k, n => by
    unfold tkU
    by_cases hu : u = false
    · subst hu
      by_cases hn : 0 < n
      · rw [if_pos ⟨hn, rfl⟩]
        simp only [offs, if_true, List.mem_cons, tkU_mem f o x r]
        simp only [Bool.false_eq_true, if_false]
        constructor
        · rintro (h | h | h)
          · exact .inr (.inl h)
          · exact .inl h
          · exact .inr (.inr h)
        · rintro (h | h | h)
          · exact .inr (.inl h)
          · exact .inl h
          · exact .inr (.inr h)
      · rw [if_neg (by omega)]
        simp only [offs, Bool.false_eq_true, if_false, tkU_mem f o x r]
    · obtain rfl : u = true := by simpa using hu
      rw [if_neg (by simp)]
      simp only [offs, if_true, List.mem_cons, tkU_mem f o x r]
      exact or_assoc.symm
theorem tk_two (o : Int) (want : Int → Bool) : ∀ (l : List S) (n : Nat), (tk o want n l).2 = (objs o false (l.filter fun s => want s.1)).take n
  | [], n => by simp [tk, objs]
  | s :: r, n => by
    unfold tk
    by_cases h : want s.1 = true
    · rw [if_pos h, List.filter_cons, if_pos h]
      simp only [objs, tk_two o want r, tkU_two, List.take_append, List.length_take]
      congr 2; omega
    · rw [if_neg h, List.filter_cons, if_neg h]
      exact tk_two o want r n
theorem tk_fst (o : Int) (want : Int → Bool) : ∀ (l : List S) (n : Nat), (tk o want n l).1.map (·.1) = l.map (·.1)
  | [], _ => rfl
  | s :: r, n => by
    unfold tk
    split <;> simp [tk_fst o want r]
theorem tk_len {o : Int} (want : Int → Bool) : ∀ {l : List S} {n : Nat}, (∀ s ∈ l, (s.2.length : Int) = o) → ∀ s ∈ (tk o want n l).1, (s.2.length : Int) = o
  | [], _, _, s, hs => by simp [tk] at hs
  | t :: r, n, h, s, hs => by
    unfold tk at hs
    split at hs
    · rcases List.mem_cons.1 hs with rfl | hs
      · simp only [tkU_len]; exact h t (by simp)
      · exact tk_len want (fun x hx => h x (by simp [hx])) s hs
    · rcases List.mem_cons.1 hs with rfl | hs
      · exact h _ (by simp)
      · exact tk_len want (fun x hx => h x (by simp [hx])) s hs
theorem tk_mem (o : Int) (want : Int → Bool) (x : Int) : ∀ (l : List S) (n : Nat), x ∈ objs o true (tk o want n l).1 ↔ x ∈ objs o true l ∨ x ∈ (tk o want n l).2
  | [], n => by simp [tk]
  | s :: r, n => by
    unfold tk
    split
    · simp only [objs, List.mem_append, tkU_mem, tk_mem o want x r]
      constructor
      · rintro ((h | h) | h | h)
        · exact .inl (.inl h)
        · exact .inr (.inl h)
        · exact .inl (.inr h)
        · exact .inr (.inr h)
      · rintro ((h | h) | h | h)
        · exact .inl (.inl h)
        · exact .inr (.inl h)
        · exact .inl (.inr h)
        · exact .inr (.inr h)
    · simp only [objs, List.mem_append, tk_mem o want x r]
      exact or_assoc.symm
theorem tk_other (o : Int) (want : Int → Bool) : ∀ (l : List S) (n : Nat), (tk o want n l).1.filter (fun s => !want s.1) = l.filter (fun s => !want s.1)
  | [], _ => rfl
  | s :: r, n => by
    unfold tk
    by_cases h : want s.1 = true
    · rw [if_pos h]
      simp [h, tk_other o want r]
    · rw [if_neg h]
      simp [h, tk_other o want r]

/-! ### New slabs -/
def fresh (o f : Int) : S := (f, List.replicate o.toNat false)
/-- New slabs one by one: an error, or the slabs. -/
def addF (o : Int) : List Int → List S → Int × List S
  | [], out => (0, out)
  | f :: r, out => if f < 0 ∨ 256 ≤ f then (2, []) else if hasF f out = true then (7, []) else addF o r (ins (fresh o f) out)
theorem filter_ins_no {p : S → Bool} {x : S} (h : p x = false) : ∀ l : List S, (ins x l).filter p = l.filter p
  | [] => by simp [ins, h]
  | s :: r => by
    unfold ins
    split
    · rw [List.filter_cons, if_neg (by simp [h])]
    · rw [List.filter_cons, List.filter_cons, filter_ins_no h r]
theorem ins_first {x : S} {l : List S} (h : ∀ s ∈ l, x.1 < s.1) : ins x l = x :: l := by
  cases l with
  | nil => rfl
  | cons s r => unfold ins; rw [if_pos (h s (by simp))]
theorem ins_cons (x s : S) (r : List S) : ins x (s :: r) = if x.1 < s.1 then x :: s :: r else s :: ins x r := rfl
theorem filter_ins {p : S → Bool} {x : S} (h : p x = true) : ∀ {l : List S} {q : Int}, Asc q l → (ins x l).filter p = ins x (l.filter p)
  | [], _, _ => by simp [ins, h]
  | s :: r, q, ha => by
    rw [ins_cons]
    split
    · rename_i hx
      rw [List.filter_cons, if_pos h]
      refine (ins_first fun t ht => ?_).symm
      rcases List.mem_cons.1 ((List.mem_filter.1 ht).1) with rfl | ht
      · exact hx
      · have := asc_lt ha.2 t ht; omega
    · rename_i hx
      rw [List.filter_cons, List.filter_cons, filter_ins h ha.2]
      split
      · rw [ins_cons, if_neg hx]
      · rfl
theorem hasF_ins {f : Int} {x : S} {l : List S} : hasF f (ins x l) = (x.1 == f || hasF f l) := by
  rw [Bool.eq_iff_iff]
  simp only [hasF, List.any_eq_true, Bool.or_eq_true, mem_ins]
  constructor
  · rintro ⟨s, rfl | h, e⟩
    · exact .inl e
    · exact .inr ⟨s, h, e⟩
  · rintro (h | ⟨s, h, e⟩)
    · exact ⟨x, .inl rfl, h⟩
    · exact ⟨s, .inr h, e⟩
/-- What the new slabs are, if there is no error. -/
theorem addF_ok {o : Int} (ho : 0 ≤ o) (F : List Int) : ∀ (r : List Int) (out fr : List S), (∀ f ∈ r, f ∈ F) → Asc (-1) out → (∀ s ∈ out, 0 ≤ s.1 ∧ s.1 < 256) → (∀ s ∈ out, (s.2.length : Int) = o) → out.filter (fun s => F.contains s.1) = fr → (addF o r out).1 = 0 →
    Asc (-1) (addF o r out).2 ∧ (∀ s ∈ (addF o r out).2, 0 ≤ s.1 ∧ s.1 < 256) ∧ (∀ s ∈ (addF o r out).2, (s.2.length : Int) = o) ∧ (addF o r out).2.filter (fun s => F.contains s.1) = r.foldl (fun a f => ins (fresh o f) a) fr ∧ (addF o r out).2.filter (fun s => !F.contains s.1) = out.filter (fun s => !F.contains s.1) ∧
    (addF o r out).2.length = out.length + r.length ∧ (∀ f ∈ r, hasF f out = false) ∧ (∀ x, x ∈ objs o true (addF o r out).2 ↔ x ∈ objs o true out) ∧ (∀ s, s ∈ (addF o r out).2 ↔ s ∈ out ∨ ∃ f ∈ r, s = fresh o f)
  | [], out, fr, _, ha, hr, hl, hfr, h => by
    refine ⟨ha, hr, hl, hfr, rfl, by simp [addF], by simp, fun x => Iff.rfl, fun s => by simp [addF]⟩
  | f :: r, out, fr, hF, ha, hr, hl, hfr, h => by
    unfold addF at h ⊢
    split at h
    · simp at h
    · rename_i h1
      rw [if_neg h1]
      split at h
      · simp at h
      · rename_i h2
        have h2' : hasF f out = false := by simpa using h2
        rw [if_neg h2]
        have hFf := hF f (by simp)
        have ha' : Asc (-1) (ins (fresh o f) out) := asc_ins ha (by show -1 < f; omega) h2'
        have hr' : ∀ s ∈ ins (fresh o f) out, 0 ≤ s.1 ∧ s.1 < 256 := by
          intro s hs
          rcases mem_ins.1 hs with rfl | hs
          · show 0 ≤ f ∧ f < 256; omega
          · exact hr s hs
        have hl' : ∀ s ∈ ins (fresh o f) out, (s.2.length : Int) = o := by
          intro s hs
          rcases mem_ins.1 hs with rfl | hs
          · simp [fresh]; omega
          · exact hl s hs
        have hc : (fun s : S => F.contains s.1) (fresh o f) = true := by simpa [fresh] using hFf
        have hfr' : (ins (fresh o f) out).filter (fun s => F.contains s.1) = ins (fresh o f) fr := by rw [filter_ins hc ha, hfr]
        obtain ⟨q1, q2, q3, q4, q5, q6, q7, q8, q9⟩ := addF_ok ho F r _ _ (fun g hg => hF g (by simp [hg])) ha' hr' hl' hfr' h
        refine ⟨q1, q2, q3, q4, ?_, ?_, ?_, ?_, ?_⟩
        · rw [q5, filter_ins_no]
          simpa [fresh] using hFf
        · rw [q6]
          have : (ins (fresh o f) out).length = out.length + 1 := by rw [ins_eq ha h2']; simp; omega
          rw [this]; simp; omega
        · intro g hg
          rcases List.mem_cons.1 hg with rfl | hg
          · exact h2'
          · have := q7 g hg
            rw [hasF_ins] at this
            simp only [Bool.or_eq_false_iff] at this
            exact this.2
        · intro x
          rw [q8]
          simp only [mem_objs]
          constructor
          · rintro ⟨s, hs, i, hi, e⟩
            rcases mem_ins.1 hs with rfl | hs
            · simp [fresh, List.getElem?_replicate] at hi
            · exact ⟨s, hs, i, hi, e⟩
          · rintro ⟨s, hs, i, hi, e⟩
            exact ⟨s, mem_ins.2 (.inr hs), i, hi, e⟩
        · intro s
          rw [q9, mem_ins]
          simp only [List.mem_cons, exists_eq_or_imp]
          constructor
          · rintro ((h | h) | h)
            · exact .inr (.inl h)
            · exact .inl h
            · exact .inr (.inr h)
          · rintro (h | h | h)
            · exact .inl (.inr h)
            · exact .inl (.inl h)
            · exact .inr h
end Go.Slb
namespace Go.Slb
theorem objs_filter_other {o : Int} {b : Bool} {x : Int} {p : S → Bool} {l : List S} : x ∈ objs o b l ↔ x ∈ objs o b (l.filter p) ∨ x ∈ objs o b (l.filter fun s => !p s) := by
  simp only [mem_objs, List.mem_filter]
  constructor
  · rintro ⟨s, hs, i, hi, e⟩
    cases hp : p s
    · exact .inr ⟨s, ⟨hs, by simp [hp]⟩, i, hi, e⟩
    · exact .inl ⟨s, ⟨hs, hp⟩, i, hi, e⟩
  · rintro (⟨s, hs, i, hi, e⟩ | ⟨s, hs, i, hi, e⟩)
    · exact ⟨s, hs.1, i, hi, e⟩
    · exact ⟨s, hs.1, i, hi, e⟩
/-- The slabs that are new, in their order. -/
def news (o : Int) (F : List Int) : List S := F.foldl (fun a f => ins (fresh o f) a) []
/-- The objects that are taken. -/
def took (o : Int) (l : List S) (n : Nat) (F : List Int) : List Int := (objs o false l ++ objs o false (news o F)).take n
def allocP (o : Int) (l : List S) (n : Int) (F : List Int) : Int × List S × List Int :=
  if check o l ≠ 0 then (check o l, [], [])
  else if n < 1 ∨ (F.length : Int) ≠ needL o l n then (1, [], [])
  else if (addF o F l).1 ≠ 0 then ((addF o F l).1, [], [])
  else (0, (tk o (fun f => F.contains f) (n.toNat - (tk o (fun f => !F.contains f) n.toNat (addF o F l).2).2.length) (tk o (fun f => !F.contains f) n.toNat (addF o F l).2).1).1,
    (tk o (fun f => !F.contains f) n.toNat (addF o F l).2).2 ++ (tk o (fun f => F.contains f) (n.toNat - (tk o (fun f => !F.contains f) n.toNat (addF o F l).2).2.length) (tk o (fun f => !F.contains f) n.toNat (addF o F l).2).1).2)
def marks (o : Int) (xs : List Int) (l : List S) : List S := xs.foldl (fun a x => setO o true x a) l
def allocR (o : Int) (l : List S) (n : Int) (F : List Int) : Int × List S × List Int :=
  if check o l ≠ 0 then (check o l, [], [])
  else if n < 1 ∨ (F.length : Int) ≠ needL o l n then (1, [], [])
  else if (addF o F l).1 ≠ 0 then ((addF o F l).1, [], [])
  else (0, marks o (took o l n.toNat F) (addF o F l).2, took o l n.toNat F)
theorem marks_fst (o : Int) : ∀ (xs : List Int) (l : List S), (marks o xs l).map (·.1) = l.map (·.1)
  | [], _ => rfl
  | x :: xs, l => by
    show (marks o xs (setO o true x l)).map (·.1) = _
    rw [marks_fst o xs, setO_fst]
theorem marks_len {o : Int} : ∀ {xs : List Int} {l : List S}, (∀ s ∈ l, (s.2.length : Int) = o) → ∀ s ∈ marks o xs l, (s.2.length : Int) = o
  | [], _, h => h
  | _ :: xs, _, h => marks_len (xs := xs) (setO_len h)
theorem marks_mem {o : Int} (ho : 1 ≤ o) : ∀ {xs : List Int} {l : List S}, (∀ s ∈ l, (s.2.length : Int) = o) → (∀ x ∈ xs, ∃ s ∈ l, s.1 = x / o) → ∀ y, y ∈ objs o true (marks o xs l) ↔ y ∈ objs o true l ∨ y ∈ xs
  | [], _, _, _, y => by simp [marks]
  | x :: xs, l, h, hx, y => by
    show y ∈ objs o true (marks o xs (setO o true x l)) ↔ _
    rw [marks_mem ho (setO_len h) ?_ y, mem_setO ho h (hx x (by simp)), if_pos rfl]
    · simp only [List.mem_cons]
      constructor
      · rintro ((h | h) | h)
        · exact .inr (.inl h)
        · exact .inl h
        · exact .inr (.inr h)
      · rintro (h | h | h)
        · exact .inl (.inr h)
        · exact .inl (.inl h)
        · exact .inr h
    · intro z hz
      obtain ⟨s, hs, e⟩ := hx z (by simp [hz])
      have h2 := setO_fst o true x l
      have : s.1 ∈ (setO o true x l).map (·.1) := by rw [h2]; exact List.mem_map.2 ⟨s, hs, rfl⟩
      obtain ⟨t, ht, e2⟩ := List.mem_map.1 this
      exact ⟨t, ht, by rw [e2, e]⟩
/-- All that is known of a call that succeeds. -/
structure Done (o : Int) (l : List S) (n : Int) (F : List Int) : Prop where
  ok : Ok o l
  pos : 1 ≤ n
  need : (F.length : Int) = needL o l n
  add : (addF o F l).1 = 0
theorem Done.add_ok {o : Int} {l : List S} {n : Int} {F : List Int} (h : Done o l n F) :
    Asc (-1) (addF o F l).2 ∧ (∀ s ∈ (addF o F l).2, 0 ≤ s.1 ∧ s.1 < 256) ∧ (∀ s ∈ (addF o F l).2, (s.2.length : Int) = o) ∧ (addF o F l).2.filter (fun s => F.contains s.1) = news o F ∧ (addF o F l).2.filter (fun s => !F.contains s.1) = l ∧
    (addF o F l).2.length = l.length + F.length ∧ (∀ f ∈ F, hasF f l = false) ∧ (∀ x, x ∈ objs o true (addF o F l).2 ↔ x ∈ objs o true l) ∧ (∀ s, s ∈ (addF o F l).2 ↔ s ∈ l ∨ ∃ f ∈ F, s = fresh o f) := by
  have ho := h.ok.o1
  obtain ⟨q1, q2, q3, q4, q5, q6, q7, q8, q9⟩ := addF_ok (o := o) (by omega) F F l (l.filter fun s => F.contains s.1) (fun f hf => hf) h.ok.asc h.ok.fr h.ok.len rfl h.add
  have hno : ∀ s ∈ l, F.contains s.1 = false := by
    intro s hs
    rw [Bool.eq_false_iff]
    intro hc
    have := q7 s.1 (by simpa using hc)
    simp only [hasF, List.any_eq_false, beq_iff_eq] at this
    exact this s hs rfl
  refine ⟨q1, q2, q3, ?_, ?_, q6, q7, q8, q9⟩
  · rw [q4]
    have : l.filter (fun s => F.contains s.1) = [] := List.filter_eq_nil_iff.2 fun s hs => by rw [hno s hs]; decide
    rw [this]; rfl
  · rw [q5]
    exact List.filter_eq_self.2 fun s hs => by rw [hno s hs]; rfl
theorem Done.took_eq {o : Int} {l : List S} {n : Int} {F : List Int} (h : Done o l n F) :
    (tk o (fun f => !F.contains f) n.toNat (addF o F l).2).2 ++ (tk o (fun f => F.contains f) (n.toNat - (tk o (fun f => !F.contains f) n.toNat (addF o F l).2).2.length) (tk o (fun f => !F.contains f) n.toNat (addF o F l).2).1).2 = took o l n.toNat F := by
  obtain ⟨_, _, _, q4, q5, _⟩ := h.add_ok
  have e2 : (tk o (fun f => !F.contains f) n.toNat (addF o F l).2).1.filter (fun s => F.contains s.1) = news o F := by
    have := tk_other o (fun f => !F.contains f) (addF o F l).2 n.toNat
    simp only [Bool.not_not] at this
    rw [this, q4]
  rw [tk_two o (fun f => F.contains f), e2, tk_two, q5]
  unfold took
  rw [List.take_append, List.length_take]
  congr 2; omega
theorem alloc_eq (o : Int) (l : List S) (n : Int) (F : List Int) : allocP o l n F = allocR o l n F := by
  unfold allocP allocR
  split
  · rfl
  · rename_i h1
    split
    · rfl
    · rename_i h2
      split
      · rfl
      · rename_i h3
        have hd : Done o l n F := ⟨check_ok.1 (by omega), by omega, by omega, by omega⟩
        rw [hd.took_eq]
        congr 2
        have ho := hd.ok.o1
        obtain ⟨q1, q2, q3, q4, q5, q6, q7, q8, q9⟩ := hd.add_ok
        have hin : ∀ x ∈ took o l n.toNat F, ∃ s ∈ (addF o F l).2, s.1 = x / o := by
          intro x hx
          have hx2 := List.mem_of_mem_take hx
          rw [← q5, ← q4, List.mem_append, or_comm, ← objs_filter_other (p := fun s => F.contains s.1)] at hx2
          obtain ⟨s, hs, i, hi, e⟩ := mem_objs.1 hx2
          have a1 := q3 s hs
          have a2 := lt_of_flag hi
          exact ⟨s, hs, by rw [e, obj_div (by omega)]⟩
        refine ext (o := o) (p := -1) (q := -1) ?_ ?_ ?_ ?_ ?_ ?_
        · exact asc_of_map q1 (by rw [tk_fst, tk_fst])
        · exact asc_of_map q1 (by rw [marks_fst])
        · exact tk_len _ (tk_len _ q3)
        · exact marks_len q3
        · rw [tk_fst, tk_fst, marks_fst]
        · intro x
          rw [tk_mem, tk_mem, or_assoc, ← List.mem_append, hd.took_eq, marks_mem ho q3 hin]
end Go.Slb
namespace Go.Slb
theorem ascI_weaken : ∀ {l : List Int} {p q : Int}, AscI p l → q ≤ p → AscI q l
  | [], _, _, _, _ => trivial
  | _ :: _, _, _, h, hq => ⟨by have := h.1; omega, h.2⟩
theorem ascI_nodup : ∀ {l : List Int} {p : Int}, AscI p l → l.Nodup
  | [], _, _ => List.nodup_nil
  | x :: r, p, h => List.nodup_cons.2 ⟨fun hx => by have := ascI_lt h.2 x hx; omega, ascI_nodup h.2⟩
theorem ascI_append : ∀ {l m : List Int} {p q : Int}, AscI p l → AscI q m → (∀ x ∈ l, x ≤ q) → p ≤ q → AscI p (l ++ m)
  | [], _, _, _, _, hm, _, hp => ascI_weaken hm hp
  | x :: l, _, _, _, hl, hm, h, _ => ⟨hl.1, ascI_append hl.2 hm (fun y hy => h y (by simp [hy])) (h x (by simp))⟩
theorem offs_asc (f o : Int) (b : Bool) : ∀ (u : List Bool) (k : Nat), AscI (f * o + k - 1) (offs f o b k u)
  | [], _ => trivial
  | x :: r, k => by
    unfold offs
    have ih := offs_asc f o b r (k + 1)
    split
    · refine ⟨by omega, ?_⟩
      exact ascI_weaken ih (by push_cast; omega)
    · exact ascI_weaken ih (by push_cast; omega)
theorem objs_asc {o : Int} (ho : 1 ≤ o) {b : Bool} : ∀ {l : List S} {p : Int}, Asc p l → (∀ s ∈ l, (s.2.length : Int) = o) → AscI ((p + 1) * o - 1) (objs o b l)
  | [], _, _, _ => trivial
  | s :: r, p, ha, hl => by
    have ih := objs_asc ho (b := b) ha.2 fun t ht => hl t (by simp [ht])
    have h1 := offs_asc s.1 o b s.2 0
    have h2 := hl s (by simp)
    have hm : (p + 1) * o ≤ s.1 * o := Int.mul_le_mul_of_nonneg_right (by have := ha.1; omega) (by omega)
    refine ascI_append (q := (s.1 + 1) * o - 1) (ascI_weaken h1 (by omega)) ih ?_ ?_
    · intro x hx
      obtain ⟨i, hi, e⟩ := mem_offs.1 hx
      have := lt_of_flag hi
      rw [Int.add_mul]; omega
    · rw [Int.add_mul s.1]; omega
theorem count_false (u : List Bool) : u.count false + u.count true = u.length := by
  induction u with
  | nil => rfl
  | cons x r ih => cases x <;> simp <;> omega
theorem objs_false_len {o : Int} : ∀ {l : List S}, (∀ s ∈ l, (s.2.length : Int) = o) → ((objs o false l).length : Int) = free o l
  | [], _ => by simp [objs, free, used]
  | s :: r, h => by
    have ih := objs_false_len (l := r) fun t ht => h t (by simp [ht])
    have h1 := count_false s.2
    have h2 := h s (by simp)
    simp only [objs, free, used, cnt, List.length_append, offs_len, List.length_cons, Int.natCast_add, Int.natCast_one, Int.add_mul, Int.one_mul] at ih ⊢
    omega
theorem offs_fresh (f o : Int) : ∀ (m k : Nat), (offs f o false k (List.replicate m false)).length = m
  | m, k => by rw [offs_len]; simp
/-- Of each new slab the first object is among those that are taken. -/
theorem first_took {o : Int} (ho : 1 ≤ o) : ∀ (fr : List S) (m : Nat), (∀ s ∈ fr, ∃ f, s = fresh o f) → ((fr.length : Int) - 1) * o < m → ∀ s ∈ fr, s.1 * o ∈ (objs o false fr).take m
  | [], _, _, _, s, hs => by simp at hs
  | t :: r, m, hf, hm, s, hs => by
    obtain ⟨f, rfl⟩ := hf t (by simp)
    have hl : (offs f o false 0 (fresh o f).2).length = o.toNat := offs_fresh f o o.toNat 0
    have hr0 : (0 : Int) ≤ (r.length : Int) * o := Int.mul_nonneg (by omega) (by omega)
    have hm' : (r.length : Int) * o < m := by
      have : ((r.length : Int) + 1 - 1) = (r.length : Int) := by omega
      simp only [List.length_cons, Int.natCast_add, Int.natCast_one, this] at hm
      exact hm
    simp only [objs]
    rw [List.take_append]
    rcases List.mem_cons.1 hs with rfl | hs
    · refine List.mem_append.2 (.inl ?_)
      obtain ⟨m, rfl⟩ : ∃ k, m = k + 1 := ⟨m - 1, by omega⟩
      obtain ⟨q, hq⟩ : ∃ k, o.toNat = k + 1 := ⟨o.toNat - 1, by omega⟩
      simp [fresh, hq, List.replicate_succ, offs]
    · refine List.mem_append.2 (.inr ?_)
      refine first_took ho r _ (fun x hx => hf x (by simp [hx])) ?_ s hs
      have e : (fresh o f).1 = f := rfl
      rw [e, hl]
      have hr1 : ((r.length : Int) - 1) * o = (r.length : Int) * o - o := by rw [Int.sub_mul]; omega
      have hr2 : 1 ≤ r.length := by
        cases r with
        | nil => simp at hs
        | cons => simp
      have hr3 : o ≤ (r.length : Int) * o := by
        have := Int.mul_le_mul_of_nonneg_right (show (1 : Int) ≤ (r.length : Int) by omega) (show (0 : Int) ≤ o by omega)
        omega
      rw [hr1]; omega
theorem news_mem {o : Int} : ∀ (F : List Int) (a : List S) (s : S), s ∈ F.foldl (fun a f => ins (fresh o f) a) a ↔ s ∈ a ∨ ∃ f ∈ F, s = fresh o f
  | [], a, s => by simp
  | f :: F, a, s => by
    simp only [List.foldl_cons, news_mem F, mem_ins, List.mem_cons, exists_eq_or_imp]
    constructor
    · rintro ((h | h) | h)
      · exact .inr (.inl h)
      · exact .inl h
      · exact .inr (.inr h)
    · rintro (h | h | h)
      · exact .inl (.inr h)
      · exact .inl (.inl h)
      · exact .inr h
theorem ins_length (x : S) : ∀ l : List S, (ins x l).length = l.length + 1
  | [] => rfl
  | s :: r => by unfold ins; split <;> simp [ins_length x r]
theorem news_length {o : Int} : ∀ (F : List Int) (a : List S), (F.foldl (fun a f => ins (fresh o f) a) a).length = a.length + F.length
  | [], a => rfl
  | f :: F, a => by simp only [List.foldl_cons, news_length F, ins_length, List.length_cons]; omega
theorem need_bounds {o : Int} {l : List S} {n : Int} (hk : Ok o l) (hn : 1 ≤ n) : 0 ≤ needL o l n ∧ n ≤ needL o l n * o + free o l ∧ (0 < needL o l n → (needL o l n - 1) * o + free o l < n) := by
  have ho := hk.o1
  have hc : check o l = 0 := check_ok.2 hk
  unfold needL
  by_cases h : n ≤ free o l
  · rw [if_pos (by omega)]; omega
  · rw [if_neg (by omega)]
    have h1 := Int.emod_add_mul_ediv (n - free o l - 1) o
    have h2 := Int.emod_nonneg (n - free o l - 1) (by omega : o ≠ 0)
    have h3 := Int.emod_lt_of_pos (n - free o l - 1) (by omega : 0 < o)
    have h4 : 0 ≤ (n - free o l - 1) / o := Int.ediv_nonneg (by omega) (by omega)
    rw [Int.mul_comm] at h1
    have e1 : ((n - free o l - 1) / o + 1) * o = (n - free o l - 1) / o * o + o := by rw [Int.add_mul]; omega
    have e2 : ((n - free o l - 1) / o + 1 - 1) * o = (n - free o l - 1) / o * o := by congr 1; omega
    refine ⟨by omega, ?_, fun _ => ?_⟩
    · rw [e1]; omega
    · rw [e2]; omega
/-- The cache behind an allocation. -/
def after (o : Int) (l : List S) (n : Int) (F : List Int) : List S := (allocP o l n F).2.1
section
variable {o : Int} {l : List S} {n : Int} {F : List Int}
theorem Done.alloc (h : Done o l n F) : allocP o l n F = (0, after o l n F, took o l n.toNat F) := by
  have e : allocP o l n F = (0, (allocP o l n F).2.1, (allocP o l n F).2.2) ∧ (allocP o l n F).2.2 = took o l n.toNat F := by
    rw [alloc_eq]
    unfold allocR
    have h1 := check_ok.2 h.ok
    have h2 := h.need
    have h3 := h.pos
    rw [if_neg (by omega), if_neg (by omega), if_neg (by have := h.add; omega)]
    exact ⟨rfl, rfl⟩
  rw [e.1, e.2]; rfl
theorem Done.took_in (h : Done o l n F) : ∀ x ∈ took o l n.toNat F, ∃ s ∈ (addF o F l).2, s.1 = x / o := by
  obtain ⟨q1, q2, q3, q4, q5, q6, q7, q8, q9⟩ := h.add_ok
  have ho := h.ok.o1
  intro x hx
  have hx2 := List.mem_of_mem_take hx
  rw [← q5, ← q4, List.mem_append, or_comm, ← objs_filter_other (p := fun s => F.contains s.1)] at hx2
  obtain ⟨s, hs, i, hi, e⟩ := mem_objs.1 hx2
  have a1 := q3 s hs
  have a2 := lt_of_flag hi
  exact ⟨s, hs, by rw [e, obj_div (by omega)]⟩
theorem Done.after_eq (h : Done o l n F) : after o l n F = marks o (took o l n.toNat F) (addF o F l).2 := by
  unfold after
  rw [alloc_eq]
  unfold allocR
  have h1 := check_ok.2 h.ok
  have h2 := h.need
  have h3 := h.pos
  rw [if_neg (by omega), if_neg (by omega), if_neg (by have := h.add; omega)]
theorem Done.after_mem (h : Done o l n F) (x : Int) : x ∈ objs o true (after o l n F) ↔ x ∈ objs o true l ∨ x ∈ took o l n.toNat F := by
  obtain ⟨q1, q2, q3, q4, q5, q6, q7, q8, q9⟩ := h.add_ok
  rw [h.after_eq, marks_mem h.ok.o1 q3 h.took_in, q8]
theorem Done.took_len (h : Done o l n F) : (took o l n.toNat F).length = n.toNat := by
  have h1 := objs_false_len h.ok.len
  have h2 := need_bounds h.ok h.pos
  have h3 := h.need
  have ho := h.ok.o1
  have hl : ∀ s ∈ news o F, (s.2.length : Int) = o := by
    intro s hs
    rcases (news_mem F [] s).1 hs with hs | ⟨f, _, rfl⟩
    · simp at hs
    · simp [fresh]; omega
  have h4 := objs_false_len hl
  have hu : used (news o F) = 0 := by
    have : ∀ m : List S, (∀ s ∈ m, ∃ f, s = fresh o f) → used m = 0 := by
      intro m
      induction m with
      | nil => intro _; rfl
      | cons s r ih =>
        intro hm
        obtain ⟨f, rfl⟩ := hm s (by simp)
        simp [used, ih fun t ht => hm t (by simp [ht]), fresh, cnt, List.count_replicate]
    exact this _ fun s hs => by
      rcases (news_mem F [] s).1 hs with hs | ⟨f, _, e⟩
      · simp at hs
      · exact ⟨f, e⟩
  have hlen : (news o F).length = F.length := by unfold news; rw [news_length]; simp
  unfold free at h4
  rw [hu, hlen, h3] at h4
  unfold took
  rw [List.length_take, List.length_append]
  simp only [Int.natCast_zero] at h4
  omega
theorem Done.after_ok (h : Done o l n F) : Ok o (after o l n F) := by
  obtain ⟨q1, q2, q3, q4, q5, q6, q7, q8, q9⟩ := h.add_ok
  have ho := h.ok.o1
  have hf := marks_fst o (took o l n.toNat F) (addF o F l).2
  have hlen' := marks_len (xs := took o l n.toNat F) q3
  rw [← h.after_eq] at hf hlen'
  have hasc := asc_of_map q1 hf.symm
  refine ⟨ho, h.ok.o2, hasc, ?_, hlen', ?_⟩
  · intro s hs
    have : s.1 ∈ (after o l n F).map (·.1) := List.mem_map.2 ⟨s, hs, rfl⟩
    rw [hf] at this
    obtain ⟨t, ht, e⟩ := List.mem_map.1 this
    rw [← e]; exact q2 t ht
  · intro s hs
    have hs1 : s.1 ∈ (after o l n F).map (·.1) := List.mem_map.2 ⟨s, hs, rfl⟩
    rw [hf] at hs1
    obtain ⟨t, ht, e⟩ := List.mem_map.1 hs1
    -- some used object lies in the frame of t
    have : ∃ i : Nat, (i : Int) < o ∧ s.1 * o + (i : Int) ∈ objs o true (after o l n F) := by
      rw [← e]
      rcases (q9 t).1 ht with ht | ⟨f, hfF, rfl⟩
      · obtain ⟨i, hi⟩ := List.getElem?_of_mem (h.ok.used t ht)
        have a1 := h.ok.len t ht
        have a2 := lt_of_flag hi
        exact ⟨i, by omega, (h.after_mem _).2 (.inl (mem_objs.2 ⟨t, ht, i, hi, rfl⟩))⟩
      · refine ⟨0, by omega, (h.after_mem _).2 (.inr ?_)⟩
        have h1 := objs_false_len h.ok.len
        have h2 := need_bounds h.ok h.pos
        have h3 := h.need
        have hp : 0 < F.length := List.length_pos_of_mem hfF
        have hlen : (news o F).length = F.length := by unfold news; rw [news_length]; simp
        have hu := used_le h.ok.len
        have hfree : 0 ≤ free o l := by unfold free; omega
        unfold took
        rw [List.take_append]
        refine List.mem_append.2 (.inr ?_)
        have hmem : fresh o f ∈ news o F := (news_mem F [] _).2 (.inr ⟨f, hfF, rfl⟩)
        have := first_took ho (news o F) (n.toNat - (objs o false l).length) ?_ ?_ _ hmem
        · simpa [fresh] using this
        · intro x hx
          rcases (news_mem F [] x).1 hx with hx | ⟨g, _, e⟩
          · simp at hx
          · exact ⟨g, e⟩
        · rw [hlen, h3]
          have := h2.2.2 (by omega)
          omega
    obtain ⟨i, hi, hx⟩ := this
    have a1 := hlen' s hs
    have := (flag_iff hasc hlen' hs (i := i) (by omega)).1 hx
    exact List.mem_of_getElem? this
theorem Done.took_new (h : Done o l n F) : ∀ x ∈ took o l n.toNat F, x ∉ objs o true l := by
  obtain ⟨q1, q2, q3, q4, q5, q6, q7, q8, q9⟩ := h.add_ok
  intro x hx hx3
  have hx2 := List.mem_of_mem_take hx
  rw [← q5, ← q4, List.mem_append, or_comm, ← objs_filter_other (p := fun s => F.contains s.1)] at hx2
  rw [← q8] at hx3
  obtain ⟨s, hs, i, hi, e⟩ := mem_objs.1 hx2
  have a2 := lt_of_flag hi
  rw [e, flag_iff q1 q3 hs a2, hi] at hx3
  simp at hx3
theorem Done.took_nodup (h : Done o l n F) : (took o l n.toNat F).Nodup := by
  obtain ⟨q1, q2, q3, q4, q5, q6, q7, q8, q9⟩ := h.add_ok
  have ho := h.ok.o1
  have n1 : (objs o false l).Nodup := ascI_nodup (objs_asc ho h.ok.asc h.ok.len)
  have hnl : ∀ s ∈ news o F, (s.2.length : Int) = o := by
    intro s hs; rw [← q4] at hs; exact q3 s ((List.mem_filter.1 hs).1)
  have asc_filter : ∀ (p : S → Bool) (l : List S) (q : Int), Asc q l → Asc q (l.filter p) := by
    intro p l
    induction l with
    | nil => intro q _; exact trivial
    | cons s r ih =>
      intro q ha
      rw [List.filter_cons]
      split
      · exact ⟨ha.1, ih _ ha.2⟩
      · exact ih _ (asc_weaken ha.2 (by have := ha.1; omega))
  have n2 : (objs o false (news o F)).Nodup := ascI_nodup (objs_asc ho (by rw [← q4]; exact asc_filter _ _ _ q1) hnl)
  unfold took
  refine List.Sublist.nodup (List.take_sublist _ _) (List.nodup_append.2 ⟨n1, n2, ?_⟩)
  intro x hx y hy hxy
  subst hxy
  obtain ⟨s, hs, i, hi, e⟩ := mem_objs.1 hx
  obtain ⟨t, ht, j, hj, e2⟩ := mem_objs.1 hy
  have a1 := h.ok.len s hs
  have a2 := lt_of_flag hi
  have a3 := hnl t ht
  have a4 := lt_of_flag hj
  have d1 := obj_div (f := s.1) (o := o) (i := i) (by omega)
  have d2 := obj_div (f := t.1) (o := o) (i := j) (by omega)
  rw [← e] at d1; rw [← e2, d1] at d2
  rcases (news_mem F [] t).1 ht with ht | ⟨f, hf, rfl⟩
  · simp at ht
  · have := q7 f hf
    simp only [hasF, List.any_eq_false, beq_iff_eq] at this
    exact this s hs d2
theorem Done.used_eq (h : Done o l n F) : used (after o l n F) = used l + n.toNat := by
  rw [← objs_len o, ← objs_len o, ← h.took_len, ← List.length_append]
  have hp : (objs o true (after o l n F)).Perm (objs o true l ++ took o l n.toNat F) := by
    have ho := h.ok.o1
    refine (List.perm_ext_iff_of_nodup (ascI_nodup (objs_asc ho h.after_ok.asc h.after_ok.len)) ?_).2 ?_
    · refine List.nodup_append.2 ⟨ascI_nodup (objs_asc ho h.ok.asc h.ok.len), h.took_nodup, ?_⟩
      intro x hx y hy hxy
      subst hxy
      exact h.took_new x hy hx
    · intro x; rw [h.after_mem, List.mem_append]
  exact hp.length_eq
end
end Go.Slb
namespace Go.Slb
def full (s : S) : Bool := s.2.contains true
/-- The cache behind the release of a used object, and the frame that leaves it (-1: none). -/
def freeL (o : Int) (l : List S) (x : Int) : List S := (setO o false x l).filter full
def freeF (o : Int) (l : List S) (x : Int) : Int := if (setO o false x l).all full = true then -1 else x / o
theorem filter_set {p : S → Bool} {t : S} : ∀ {l : List S} {i : Nat}, (∀ s ∈ l, p s = true) → i < l.length → (l.set i t).filter p = if p t = true then l.set i t else l.eraseIdx i
  | [], i, _, h => by simp at h
  | s :: r, 0, hp, _ => by
    have hr : r.filter p = r := List.filter_eq_self.2 fun x hx => hp x (by simp [hx])
    simp only [List.set_cons_zero, List.filter_cons, hr, List.eraseIdx_zero, List.tail_cons]
  | s :: r, i + 1, hp, h => by
    have hs := hp s (by simp)
    simp only [List.set_cons_succ, List.filter_cons, hs, if_true, filter_set (l := r) (i := i) (fun x hx => hp x (by simp [hx])) (by simpa using h)]
    split <;> simp
theorem all_set {p : S → Bool} {t : S} {l : List S} {i : Nat} (hp : ∀ s ∈ l, p s = true) (hi : i < l.length) : (l.set i t).all p = p t := by
  rw [Bool.eq_iff_iff, List.all_eq_true]
  constructor
  · intro h; exact h t (List.mem_set hi t)
  · intro h s hs
    rcases List.mem_or_eq_of_mem_set hs with hs | rfl
    · exact hp s hs
    · exact h
section
variable {o : Int} {l : List S} {x : Int}
theorem Ok.allFull (h : Ok o l) : ∀ s ∈ l, full s = true := fun s hs => by simpa [full] using h.used s hs
/-- Where the slab of a used object lies. -/
theorem Ok.slab (h : Ok o l) (hx : x ∈ objs o true l) : ∃ (i : Nat) (s : S), l[i]? = some s ∧ s.1 = x / o ∧ 0 ≤ x ∧ s.2[(x % o).toNat]? = some true := by
  have ho := h.o1
  obtain ⟨s, hs, j, hj, e⟩ := mem_objs.1 hx
  obtain ⟨i, hi⟩ := List.getElem?_of_mem hs
  have a1 := h.len s hs
  have a2 := lt_of_flag hj
  have a3 := obj_div (f := s.1) (o := o) (i := j) (by omega)
  have a4 := obj_mod (f := s.1) (o := o) (i := j) (by omega)
  have a5 : 0 ≤ s.1 * o := Int.mul_nonneg (h.fr s hs).1 (by omega)
  refine ⟨i, s, hi, by rw [e, a3], by omega, ?_⟩
  rw [e, a4]; exact hj
theorem Ok.free_at (h : Ok o l) {i : Nat} {s : S} (hi : l[i]? = some s) (hs : s.1 = x / o) :
    freeL o l x = (if full (s.1, s.2.set (x % o).toNat false) = true then l.set i (s.1, s.2.set (x % o).toNat false) else l.eraseIdx i) ∧ freeF o l x = if full (s.1, s.2.set (x % o).toNat false) = true then -1 else s.1 := by
  have hlt : i < l.length := by rw [List.getElem?_eq_some_iff] at hi; obtain ⟨h, _⟩ := hi; exact h
  unfold freeL freeF
  rw [setO_nth h.asc hi hs, filter_set h.allFull hlt, all_set h.allFull hlt, hs]
  exact ⟨rfl, rfl⟩
theorem asc_filter (p : S → Bool) : ∀ {l : List S} {q : Int}, Asc q l → Asc q (l.filter p)
  | [], _, _ => trivial
  | s :: r, q, ha => by
    rw [List.filter_cons]
    split
    · exact ⟨ha.1, asc_filter p ha.2⟩
    · exact asc_filter p (asc_weaken ha.2 (by have := ha.1; omega))
theorem objs_full {b : Bool} (hb : b = true) {y : Int} {l : List S} : y ∈ objs o b (l.filter full) ↔ y ∈ objs o b l := by
  subst hb
  simp only [mem_objs, List.mem_filter]
  constructor
  · rintro ⟨s, hs, i, hi, e⟩; exact ⟨s, hs.1, i, hi, e⟩
  · rintro ⟨s, hs, i, hi, e⟩; exact ⟨s, ⟨hs, by simpa [full] using List.mem_of_getElem? hi⟩, i, hi, e⟩
theorem Ok.free_mem (h : Ok o l) (hx : x ∈ objs o true l) (y : Int) : y ∈ objs o true (freeL o l x) ↔ y ∈ objs o true l ∧ y ≠ x := by
  unfold freeL
  obtain ⟨i, s, hi, e, _⟩ := h.slab hx
  rw [objs_full rfl, mem_setO h.o1 h.len ⟨s, List.mem_of_getElem? hi, e⟩, if_neg (by decide)]
theorem Ok.free_ok (h : Ok o l) : Ok o (freeL o l x) := by
  have hf := setO_fst o false x l
  refine ⟨h.o1, h.o2, asc_filter _ (asc_of_map h.asc hf.symm), ?_, ?_, ?_⟩
  · intro s hs
    have : s.1 ∈ (setO o false x l).map (·.1) := List.mem_map.2 ⟨s, (List.mem_filter.1 hs).1, rfl⟩
    rw [hf] at this
    obtain ⟨t, ht, e⟩ := List.mem_map.1 this
    rw [← e]; exact h.fr t ht
  · intro s hs
    exact setO_len h.len s ((List.mem_filter.1 hs).1)
  · intro s hs
    have := (List.mem_filter.1 hs).2
    simpa [full] using this
/-- What becomes of the frames. -/
theorem Ok.free_frames (h : Ok o l) (hx : x ∈ objs o true l) :
    (freeF o l x = -1 ∧ (freeL o l x).map (·.1) = l.map (·.1)) ∨
    (freeF o l x = x / o ∧ 0 ≤ x / o ∧ x / o ∈ l.map (·.1) ∧ (freeL o l x).length + 1 = l.length ∧ ∀ f, f ∈ (freeL o l x).map (·.1) ↔ f ∈ l.map (·.1) ∧ f ≠ x / o) := by
  obtain ⟨i, s, hi, e, _⟩ := h.slab hx
  have hlt : i < l.length := by rw [List.getElem?_eq_some_iff] at hi; obtain ⟨h, _⟩ := hi; exact h
  obtain ⟨e1, e2⟩ := h.free_at hi e
  have hsi : l[i] = s := by rw [List.getElem?_eq_getElem hlt] at hi; exact Option.some.inj hi
  by_cases hc : full (s.1, s.2.set (x % o).toNat false) = true
  · left
    rw [if_pos hc] at e1 e2
    refine ⟨e2, ?_⟩
    rw [e1, List.map_set]
    apply List.ext_getElem (by simp)
    intro j h1 h2
    simp only [List.getElem_set, List.getElem_map]
    split
    · rename_i hij; subst hij; rw [hsi]
    · rfl
  · right
    rw [if_neg hc] at e1 e2
    have hfr := h.fr s (List.mem_of_getElem? hi)
    refine ⟨by rw [e2, e], by omega, List.mem_map.2 ⟨s, List.mem_of_getElem? hi, e⟩, ?_, fun f => ?_⟩
    · rw [e1, List.length_eraseIdx, if_pos hlt]; omega
    · rw [e1]
      simp only [List.mem_map, List.mem_eraseIdx_iff_getElem?]
      constructor
      · rintro ⟨t, ⟨j, hj, ht⟩, rfl⟩
        refine ⟨⟨t, List.mem_of_getElem? ht, rfl⟩, fun hf => hj ?_⟩
        have hjl : j < l.length := by rw [List.getElem?_eq_some_iff] at ht; obtain ⟨h, _⟩ := ht; exact h
        have htj : l[j] = t := by rw [List.getElem?_eq_getElem hjl] at ht; exact Option.some.inj ht
        have heq : l[j] = l[i] := asc_inj h.asc (List.getElem_mem hjl) (List.getElem_mem hlt) (by rw [htj, hsi, hf, e])
        rcases Nat.lt_trichotomy i j with h' | h' | h'
        · exact absurd heq.symm (ne_of_lt h.asc h' hjl)
        · exact h'.symm
        · exact absurd heq (ne_of_lt h.asc h' hlt)
      · rintro ⟨⟨t, ht, rfl⟩, hne⟩
        obtain ⟨j, hj⟩ := List.getElem?_of_mem ht
        refine ⟨t, ⟨j, fun hji => hne ?_, hj⟩, rfl⟩
        rw [hji, hi] at hj
        cases hj
        exact e
end
/-- Where the release of all that was allocated stands, when k objects are released. -/
structure Back (o : Int) (l : List S) (n : Int) (F : List Int) (k : Nat) (d : List S) (back : List Int) : Prop where
  ok : Ok o d
  mem : ∀ y, y ∈ objs o true d ↔ y ∈ objs o true l ∨ y ∈ (took o l n.toNat F).drop k
  nodup : back.Nodup
  fr : ∀ f ∈ back, f ∈ F ∧ f ∉ d.map (·.1)
  len : d.length + back.length = l.length + F.length
  of : ∀ f ∈ d.map (·.1), f ∈ l.map (·.1) ∨ f ∈ F
theorem frames_of {o : Int} {l d : List S} (hl : Ok o l) (hd : Ok o d) (h : ∀ y, y ∈ objs o true l → y ∈ objs o true d) : ∀ f ∈ l.map (·.1), f ∈ d.map (·.1) := by
  intro f hf
  obtain ⟨s, hs, rfl⟩ := List.mem_map.1 hf
  obtain ⟨i, hi⟩ := List.getElem?_of_mem (hl.used s hs)
  obtain ⟨t, ht, j, hj, e⟩ := mem_objs.1 (h _ (mem_objs.2 ⟨s, hs, i, hi, rfl⟩))
  have a1 := hl.len s hs
  have a2 := lt_of_flag hi
  have a3 := hd.len t ht
  have a4 := lt_of_flag hj
  have e1 := obj_div (f := s.1) (o := o) (i := i) (by omega)
  have e2 := obj_div (f := t.1) (o := o) (i := j) (by omega)
  rw [e, e2] at e1
  exact List.mem_map.2 ⟨t, ht, e1⟩
section
variable {o : Int} {l : List S} {n : Int} {F : List Int}
theorem Done.back0 (h : Done o l n F) : Back o l n F 0 (after o l n F) [] := by
  obtain ⟨q1, q2, q3, q4, q5, q6, q7, q8, q9⟩ := h.add_ok
  have hf : (after o l n F).map (·.1) = (addF o F l).2.map (·.1) := by rw [h.after_eq, marks_fst]
  refine ⟨h.after_ok, fun y => by rw [h.after_mem, List.drop_zero], List.nodup_nil, by simp, ?_, ?_⟩
  · have := congrArg List.length hf
    simp only [List.length_map] at this
    rw [this, q6]; rfl
  · intro f hff
    rw [hf] at hff
    obtain ⟨t, ht, rfl⟩ := List.mem_map.1 hff
    rcases (q9 t).1 ht with ht | ⟨f, hf, rfl⟩
    · exact .inl (List.mem_map.2 ⟨t, ht, rfl⟩)
    · exact .inr hf
theorem Back.step (hd : Done o l n F) {k : Nat} {d : List S} {back : List Int} (h : Back o l n F k d back) {x : Int} (hx : (took o l n.toNat F)[k]? = some x) :
    x ∈ objs o true d ∧ ((freeF o d x = -1 ∧ Back o l n F (k + 1) (freeL o d x) back) ∨ (freeF o d x = x / o ∧ 0 ≤ x / o ∧ x / o ∉ back ∧ x / o ∈ F ∧ Back o l n F (k + 1) (freeL o d x) (back ++ [x / o]))) := by
  have hk : k < (took o l n.toNat F).length := by rw [List.getElem?_eq_some_iff] at hx; obtain ⟨h, _⟩ := hx; exact h
  have hxe : (took o l n.toNat F)[k] = x := by rw [List.getElem?_eq_getElem hk] at hx; exact Option.some.inj hx
  have hdr : (took o l n.toNat F).drop k = x :: (took o l n.toNat F).drop (k + 1) := by rw [List.drop_eq_getElem_cons hk, hxe]
  have hxd : x ∈ objs o true d := (h.mem x).2 (.inr (by rw [hdr]; simp))
  have hxl : x ∉ objs o true l := hd.took_new x (List.mem_of_getElem? hx)
  have hnd : x ∉ (took o l n.toNat F).drop (k + 1) := by
    have := List.Sublist.nodup (List.drop_sublist k _) hd.took_nodup
    rw [hdr] at this
    exact (List.nodup_cons.1 this).1
  have hok : Ok o (freeL o d x) := h.ok.free_ok
  have hmem : ∀ y, y ∈ objs o true (freeL o d x) ↔ y ∈ objs o true l ∨ y ∈ (took o l n.toNat F).drop (k + 1) := by
    intro y
    rw [h.ok.free_mem hxd, h.mem, hdr, List.mem_cons]
    constructor
    · rintro ⟨h1 | h1 | h1, h2⟩
      · exact .inl h1
      · exact absurd h1 h2
      · exact .inr h1
    · rintro (h1 | h1)
      · exact ⟨.inl h1, fun e => hxl (e ▸ h1)⟩
      · exact ⟨.inr (.inr h1), fun e => hnd (e ▸ h1)⟩
  refine ⟨hxd, ?_⟩
  rcases h.ok.free_frames hxd with ⟨e1, e2⟩ | ⟨e1, e0, e2, e3, e4⟩
  · refine .inl ⟨e1, hok, hmem, h.nodup, ?_, ?_, ?_⟩
    · rw [e2]; exact h.fr
    · have := congrArg List.length e2
      simp only [List.length_map] at this
      rw [this]; exact h.len
    · rw [e2]; exact h.of
  · have hnb : x / o ∉ back := fun hb => (h.fr _ hb).2 e2
    have hlf : x / o ∉ l.map (·.1) := by
      intro hin
      have := frames_of hd.ok hok (fun y hy => (hmem y).2 (.inl hy)) _ hin
      exact ((e4 _).1 this).2 rfl
    have hF : x / o ∈ F := by
      rcases h.of _ e2 with h1 | h1
      · exact absurd h1 hlf
      · exact h1
    refine .inr ⟨e1, e0, hnb, hF, hok, hmem, ?_, ?_, ?_, ?_⟩
    · refine List.nodup_append.2 ⟨h.nodup, by simp, ?_⟩
      intro a ha b hb
      rw [List.mem_singleton.1 hb]
      exact fun e => hnb (e ▸ ha)
    · intro f hf
      rcases List.mem_append.1 hf with hf | hf
      · exact ⟨(h.fr f hf).1, fun h2 => (h.fr f hf).2 ((e4 f).1 h2).1⟩
      · rw [List.mem_singleton.1 hf]
        exact ⟨hF, fun h2 => ((e4 _).1 h2).2 rfl⟩
    · have := h.len
      simp; omega
    · intro f hf
      exact h.of f ((e4 f).1 hf).1
theorem Back.done (hd : Done o l n F) {d : List S} {back : List Int} (h : Back o l n F n.toNat d back) : d = l ∧ back.length = F.length := by
  have hnil : (took o l n.toNat F).drop n.toNat = [] := List.drop_eq_nil_of_le (by rw [hd.took_len]; exact Nat.le_refl _)
  have e : d = l := ok_ext h.ok hd.ok fun x => by rw [h.mem, hnil]; simp
  refine ⟨e, ?_⟩
  have := h.len
  rw [e] at this
  omega
end
end Go.Slb
namespace Go.Proofs.YtdddkfpcbfgocaaGreat.Sb
open Go.RowKit Go.Over Go.Slb Go.Seg
/-- Flags that lie at a. -/
def Flags (w : World) (a : Option Addr) (u : List Bool) : Prop :=
  0 < u.length → ∃ b off, a = some ⟨b, off, none⟩ ∧ ∀ i, i < u.length → w.cell? ⟨b, off + i, none⟩ = some (.bool (u.getD i false))
/-- A slab that lies at place o of block b. -/
def SlabAt (w : World) (b o : Nat) (s : S) : Prop :=
  w.cell? ⟨b, o, none⟩ = some (.int .i64 s.1) ∧ ∃ a c, w.cell? ⟨b, o + 1, none⟩ = some (.slice a s.2.length c) ∧ s.2.length ≤ c ∧ c ≤ maxLen ∧ (a = none → c = 0) ∧ Flags w a s.2
def Slabs (w : World) (a : Option Addr) (l : List S) : Prop :=
  0 < l.length → ∃ b off, a = some ⟨b, off, none⟩ ∧ ∀ i s, l[i]? = some s → SlabAt w b (off + i * 2) s
theorem Flags.below {w w' : World} {a : Option Addr} {u : List Bool} (h : Flags w a u) (hb : Below w.heap.size w w') : Flags w' a u := fun h0 => by
  obtain ⟨b, off, ha, hc⟩ := h h0
  exact ⟨b, off, ha, fun i hi => cell_later hb (hc i hi)⟩
theorem SlabAt.below {w w' : World} {b o : Nat} {s : S} (h : SlabAt w b o s) (hb : Below w.heap.size w w') : SlabAt w' b o s := by
  obtain ⟨h1, a, c, h2, h3, h4, h5, h6⟩ := h
  exact ⟨cell_later hb h1, a, c, cell_later hb h2, h3, h4, h5, h6.below hb⟩
theorem Slabs.below {w w' : World} {a : Option Addr} {l : List S} (h : Slabs w a l) (hb : Below w.heap.size w w') : Slabs w' a l := fun h0 => by
  obtain ⟨b, off, ha, hc⟩ := h h0
  exact ⟨b, off, ha, fun i s hs => (hc i s hs).below hb⟩
/-- Every slab has at most 40 flags, and there are at most n slabs. -/
def fewB : Nat → List S → Bool
  | _, [] => true
  | 0, _ :: _ => false
  | n + 1, s :: r => decide (s.2.length ≤ 40) && fewB n r
/-- A cache's own two cells. -/
theorem box_cells (w : World) (x y : Value) (t : TypeId) : (w.alloc (.cells #[x, y] t)).cell? ⟨w.heap.size, 0, none⟩ = some x ∧ (w.alloc (.cells #[x, y] t)).cell? ⟨w.heap.size, 1, none⟩ = some y := by
  constructor <;> simp [go_sem]
theorem below_box (w : World) (o : Obj) : Below w.heap.size w (w.alloc o) := below_alloc (Below.refl _ _) o
theorem drop_get {α : Type} {l : List α} {i : Nat} {s : α} (h : l[i]? = some s) : l.drop i = s :: l.drop (i + 1) := by
  have hlt : i < l.length := by rw [List.getElem?_eq_some_iff] at h; obtain ⟨h, _⟩ := h; exact h
  rw [List.drop_eq_getElem_cons hlt]
  rw [List.getElem?_eq_getElem hlt] at h
  rw [Option.some.inj h]
theorem get_some {α : Type} {l : List α} {i n : Nat} (hn : l.length = n) (h : i < n) : ∃ s, l[i]? = some s := ⟨l[i]'(by omega), List.getElem?_eq_getElem (by omega)⟩
end Go.Proofs.YtdddkfpcbfgocaaGreat.Sb
namespace Go.Proofs.YtdddkfpcbfgocaaGreat.Sb
open Go.RowKit Go.Over Go.Slb Go.Seg
theorem flag_drop {u : List Bool} {i n : Nat} (hn : u.length = n) (h : i < n) : u.drop i = u.getD i false :: u.drop (i + 1) := by
  rw [List.drop_eq_getElem_cons (by omega)]
  congr 1
  rw [List.getD_eq_getElem?_getD, List.getElem?_eq_getElem (by omega)]; rfl
def IdxOf (w : World) (r : Bool) (e : Ending) (w' : World) : Prop := ∃ k : Int, e = .returned (.int .i64 k) ∧ decide (0 ≤ k) = r ∧ w = w'
set_option maxRecDepth 100000 in set_option maxHeartbeats 1600000 in
theorem index_46 (a : Option Addr) (u : List Bool) (n c : Nat) (w : World) (H : Flags w a u) (hn : u.length = n) (hm : n ≤ maxLen) :
    Calls Tryz.prog 83 #[.slice a n c, .bool true] w (IdxOf w (u.contains true)) := by
  unfold maxLen at hm
  have HN := Lib.hid hn; clear hn
  go_enter Tryz.func83, Tryz.ntmps83
  go_wp2
  go_loopg [8] n (fun g i0 wr => ∃ (i : Nat), i + g = n ∧ i0 = .int .i64 i ∧ (u.drop i).contains true = u.contains true ∧ w = wr)
  case atStart => exact ⟨0, by omega, rfl, rfl, rfl⟩
  case round =>
    obtain ⟨i, hg, rfl, hF, rfl⟩ := hrel
    have HF := Lib.hid hF; clear hF
    cases gk with
    | succ g =>
      have hin : i < n := by omega
      obtain ⟨b, off, rfl, hc⟩ := H (by rw [HN.out]; omega)
      have c1 := hc i (by rw [HN.out]; exact hin)
      obtain ⟨x, hx⟩ : ∃ x, u.getD i false = x := ⟨_, rfl⟩
      rw [hx] at c1
      have HF2 := Lib.hid (show (u.contains true) = (x == true || (u.drop (i + 1)).contains true) by rw [← HF.out, flag_drop HN.out hin, hx]; cases x <;> simp)
      have HG := Lib.hid hg; clear hg hc hx
      cases x
      · go_wp2
        go_roundg g
        case rel => exact ⟨i + 1, by have := HG.out; omega, by go_num, by rw [HF2.out]; rfl, rfl⟩
        case measure => omega
      · go_wp2
        go_ret
        exact ⟨i, rfl, by rw [HF2.out]; simp, rfl⟩
    | zero =>
      obtain rfl : i = n := by omega
      clear hg
      go_wp2
      go_ret
      exact ⟨-1, rfl, by rw [← HF.out, List.drop_eq_nil_of_le (by rw [HN.out]; exact Nat.le_refl _)]; rfl, rfl⟩
set_option maxRecDepth 100000 in set_option maxHeartbeats 1600000 in
theorem contains_33 (a : Option Addr) (u : List Bool) (n c : Nat) (w : World) (H : Flags w a u) (hn : u.length = n) (hm : n ≤ maxLen) :
    Calls Tryz.prog 35 #[.slice a n c, .bool true] w fun e w' => e = .returned (.bool (u.contains true)) ∧ w = w' := by
  obtain ⟨r, hr⟩ : ∃ r, u.contains true = r := ⟨_, rfl⟩
  have hI := index_46 a u n c w H hn hm
  rw [hr] at hI ⊢
  have HI := Lib.hid hI; clear hI hr hn
  go_enter Tryz.func35, Tryz.ntmps35
  go_wp2_with (go_at_call 83; refine HI.out.mono ?_; rintro e w' ⟨k, rfl, hk, rfl⟩)
  go_ret
  exact ⟨rfl, rfl⟩
set_option maxRecDepth 100000 in set_option maxHeartbeats 1600000 in
theorem new_30 (o : Int) (w : World) :
    Calls Tryz.prog 30 #[.int .i64 o] w fun e w' => e = .returned (.tuple #[.agg #[.int .i64 (if o < 1 ∨ 32 < o then 0 else o), .slice none 0 0], .int .i64 (if o < 1 ∨ 32 < o then 1 else 0)]) ∧ Below w.heap.size w w' := by
  by_cases h1 : o < 1
  · rw [if_pos (.inl h1), if_pos (.inl h1)]
    go_enter Tryz.func30, Tryz.ntmps30
    go_wp2
    exact bodyPost_ret (v := .tuple #[.agg #[.int .i64 0, .slice none 0 0], .int .i64 1]) (by simp [results, Tryz.results30, go_sem]) rfl ⟨rfl, (by repeat (first | with_reducible exact Below.refl _ _ | with_reducible assumption | with_reducible refine below_alloc ?_ _ | with_reducible refine Below.drew ?_ | with_reducible refine below_drewN ?_ _ | with_reducible refine below_then ?_ (by with_reducible assumption)))⟩
  · by_cases h2 : 32 < o
    · rw [if_pos (.inr h2), if_pos (.inr h2)]
      go_enter Tryz.func30, Tryz.ntmps30
      go_wp2
      exact bodyPost_ret (v := .tuple #[.agg #[.int .i64 0, .slice none 0 0], .int .i64 1]) (by simp [results, Tryz.results30, go_sem]) rfl ⟨rfl, (by repeat (first | with_reducible exact Below.refl _ _ | with_reducible assumption | with_reducible refine below_alloc ?_ _ | with_reducible refine Below.drew ?_ | with_reducible refine below_drewN ?_ _ | with_reducible refine below_then ?_ (by with_reducible assumption)))⟩
    · rw [if_neg (by omega), if_neg (by omega)]
      go_enter Tryz.func30, Tryz.ntmps30
      go_wp2
      exact bodyPost_ret (v := .tuple #[.agg #[.int .i64 o, .slice none 0 0], .int .i64 0]) (by simp [results, Tryz.results30, go_sem]) rfl ⟨rfl, (by repeat (first | with_reducible exact Below.refl _ _ | with_reducible assumption | with_reducible refine below_alloc ?_ _ | with_reducible refine Below.drew ?_ | with_reducible refine below_drewN ?_ _ | with_reducible refine below_then ?_ (by with_reducible assumption)))⟩
end Go.Proofs.YtdddkfpcbfgocaaGreat.Sb
namespace Go.Proofs.YtdddkfpcbfgocaaGreat.Sb
open Go.RowKit Go.Over Go.Slb Go.Seg
/-- The frame before place i (-1: none). -/
def prev (l : List S) : Nat → Int
  | 0 => -1
  | i + 1 => (l.getD i (0, [])).1
theorem prev_get {l : List S} {i : Nat} {s : S} (h : l[i]? = some s) : prev l (i + 1) = s.1 := by
  show (l.getD i (0, [])).1 = s.1
  rw [List.getD_eq_getElem?_getD, h]; rfl
theorem chk_step {o : Int} {l : List S} {i : Nat} {s : S} (h : l[i]? = some s) : chkL o (prev l i) (l.drop i) =
    (if s.1 < 0 ∨ 256 ≤ s.1 then 2 else if s.1 ≤ prev l i then 10 else if (s.2.length : Int) ≠ o then 3 else if s.2.contains true = false then 6 else chkL o (prev l (i + 1)) (l.drop (i + 1))) := by
  rw [drop_get h, prev_get h]; rfl
theorem check_bad {o : Int} {l : List S} (h : o < 1 ∨ 32 < o) : check o l = 1 := by unfold check; rw [if_pos h]
theorem check_good {o : Int} {l : List S} (h : ¬ (o < 1 ∨ 32 < o)) : check o l = chkL o (-1) l := by unfold check; rw [if_neg h]
theorem ret_int {k : IntKind} {a b : Int} (h : a = b) : Ending.returned (.int k a) = .returned (.int k b) := by rw [h]
set_option maxRecDepth 100000 in set_option maxHeartbeats 1600000 in
theorem check_16 (o : Int) (a : Option Addr) (l : List S) (n c : Nat) (w : World) (H : Slabs w a l) (hn : l.length = n) (hm : n ≤ 1000000) :
    Calls Tryz.prog 32 #[.agg #[.int .i64 o, .slice a n c]] w fun e w' => e = .returned (.int .i64 (check o l)) ∧ Below w.heap.size w w' := by
  have HN := Lib.hid hn; clear hn
  obtain ⟨R, hR⟩ : ∃ R, check o l = R := ⟨_, rfl⟩
  rw [hR]
  by_cases ho : o < 1 ∨ 32 < o
  · obtain rfl : R = 1 := by rw [← hR, check_bad ho]
    clear hR
    rcases ho with ho | ho
    · go_enter Tryz.func32, Tryz.ntmps32
      go_wp2
      go_ret
      exact ⟨rfl, (by repeat (first | with_reducible exact Below.refl _ _ | with_reducible assumption | with_reducible refine below_alloc ?_ _ | with_reducible refine Below.drew ?_ | with_reducible refine below_drewN ?_ _ | with_reducible refine below_then ?_ (by with_reducible assumption)))⟩
    · have ho1 : ¬ o < 1 := by omega
      go_enter Tryz.func32, Tryz.ntmps32
      go_wp2
      go_ret
      exact ⟨rfl, (by repeat (first | with_reducible exact Below.refl _ _ | with_reducible assumption | with_reducible refine below_alloc ?_ _ | with_reducible refine Below.drew ?_ | with_reducible refine below_drewN ?_ _ | with_reducible refine below_then ?_ (by with_reducible assumption)))⟩
  · rw [check_good ho] at hR
    have HR := Lib.hid hR; clear hR
    have ho1 : ¬ o < 1 := by omega
    have ho2 : ¬ 32 < o := by omega
    clear ho
    obtain ⟨w1, hw1⟩ : ∃ w1, w1 = w.alloc (.cells #[.int .i64 o, .slice a n c] 31) := ⟨_, rfl⟩
    obtain ⟨k0, k1⟩ := box_cells w (.int .i64 o) (.slice a n c) 31
    have B1 := below_box w (.cells #[.int .i64 o, .slice a n c] 31)
    rw [← hw1] at k0 k1 B1
    have H1 := H.below B1
    have hz1 : w.heap.size < w1.heap.size := by rw [hw1]; simp
    have HW := Lib.hid hw1; clear hw1
    have K0 := Lib.hid k0; have K1 := Lib.hid k1
    go_enter Tryz.func32, Tryz.ntmps32
    go_wp2
    rw [← HW.out]
    clear HW
    go_loopg [16] n (fun g i0 wr => ∃ (i : Nat), i + g = n ∧ i0 = .int .i64 i ∧ chkL o (prev l i) (l.drop i) = R ∧ Below w1.heap.size w1 wr)
    case atStart => exact ⟨0, by omega, rfl, HR.out, Below.refl _ _⟩
    case round =>
      obtain ⟨i, hg, rfl, hF, hb⟩ := hrel
      clear k0 k1
      have c0 := cell_later hb K0.out
      have c1 := cell_later hb K1.out
      cases gk with
      | zero =>
        obtain rfl : i = n := by omega
        have HF := Lib.hid hF; clear hF hg
        go_wp2
        go_ret
        exact ⟨by rw [← HF.out, List.drop_eq_nil_of_le (by rw [HN.out]; exact Nat.le_refl _)]; rfl, below_then B1 hb⟩
      | succ g =>
        have hin : i < n := by omega
        obtain ⟨⟨f, u⟩, hs⟩ := get_some HN.out hin
        rw [chk_step hs] at hF
        have HF := Lib.hid hF; clear hF
        obtain ⟨b, off, rfl, hc⟩ := (H1.below hb) (by rw [HN.out]; omega)
        obtain ⟨s0, a', c', s1, hc1, hc2, hc3, hf⟩ := hc i _ hs
        obtain ⟨m, hm'⟩ : ∃ m, u.length = m := ⟨_, rfl⟩
        simp only [hm'] at s0 s1 hc1
        have hzw : w.heap.size < wr.heap.size := by have := hb.size; omega
        have hbz : b < wr.heap.size := World.block_lt_of_cell? wr _ s0
        have hprev : i = 0 ∨ (0 < i ∧ ∃ q, prev l i = q ∧ wr.cell? ⟨b, off + (i - 1) * 2, none⟩ = some (.int .i64 q)) := by
          cases i with
          | zero => exact .inl rfl
          | succ j =>
            obtain ⟨t, ht⟩ := get_some HN.out (show j < n by omega)
            exact .inr ⟨by omega, _, prev_get ht, (hc j t ht).1⟩
        have HM := Lib.hid hm'; have HG := Lib.hid hg
        clear hm' hg hs hc
        have hbr := below_then B1 hb
        by_cases hr : f < 0 ∨ 256 ≤ f
        · have HE := Lib.hid (show R = 2 by rw [← HF.out, if_pos hr])
          rcases hr with hr | hr
          · go_wp2
            go_ret
            exact ⟨ret_int HE.out.symm, (by repeat (first | with_reducible exact Below.refl _ _ | with_reducible assumption | with_reducible refine below_alloc ?_ _ | with_reducible refine Below.drew ?_ | with_reducible refine below_drewN ?_ _ | with_reducible refine below_then ?_ (by with_reducible assumption)))⟩
          · have hr1 : ¬ f < 0 := by omega
            go_wp2
            go_ret
            exact ⟨ret_int HE.out.symm, (by repeat (first | with_reducible exact Below.refl _ _ | with_reducible assumption | with_reducible refine below_alloc ?_ _ | with_reducible refine Below.drew ?_ | with_reducible refine below_drewN ?_ _ | with_reducible refine below_then ?_ (by with_reducible assumption)))⟩
        · have r1 : ¬ f < 0 := by omega
          have r2 : ¬ 256 ≤ f := by omega
          have HF2 := Lib.hid ((if_neg hr).symm.trans HF.out)
          clear hr HF
          have hQ : (prev l i = -1 ∧ i = 0) ∨ (0 < i ∧ ∃ q, prev l i = q ∧ wr.cell? ⟨b, off + (i - 1) * 2, none⟩ = some (.int .i64 q)) := by
            rcases hprev with rfl | h
            · exact .inl ⟨rfl, rfl⟩
            · exact .inr h
          clear hprev
          rcases hQ with ⟨hp, rfl⟩ | ⟨hi0, q, hq, cq⟩
          · have HF3 := Lib.hid (show (if ¬ ((m : Int) = o) then 3 else if u.contains true = false then 6 else chkL o (prev l 1) (l.drop 1)) = R by
              rw [← HF2.out, if_neg (show ¬ f ≤ prev l 0 by rw [hp]; omega), ← HM.out])
            clear hp
            simp only [Nat.zero_mul, Nat.add_zero] at s0 s1
            go_wp2
            go_quiet (fail)
            have hfw := hf.below (w' := wr.alloc (Obj.cells #[.int .i64 f, .slice a' m c'] 53)) (below_box _ _)
            by_cases hmo : (m : Int) = o
            · have HF4 := Lib.hid (show (if u.contains true = false then 6 else chkL o (prev l (0 + 1)) (l.drop (0 + 1))) = R by rw [← HF3.out, if_neg (show ¬ ¬ (m : Int) = o from fun h => h hmo)])
              have t1 : ((m : Int) != o) = false := by simp [hmo]
              clear hmo
              obtain ⟨x, hx⟩ : ∃ x, u.contains true = x := ⟨_, rfl⟩
              have HX := Lib.hid hx; clear hx
              go_wp2_with fail
              refine (contains_33 a' u m c' _ (hfw.below (below_drewN (Below.refl _ _) _)) HM.out (by omega)).mono ?_
              rintro e w' ⟨rfl, rfl⟩
              rw [HX.out]
              cases x
              · have HE := Lib.hid (show R = 6 by rw [← HF4.out, if_pos HX.out])
                go_wp2
                go_ret
                exact ⟨ret_int HE.out.symm, (by repeat (first | with_reducible exact Below.refl _ _ | with_reducible assumption | with_reducible refine below_alloc ?_ _ | with_reducible refine Below.drew ?_ | with_reducible refine below_drewN ?_ _ | with_reducible refine below_then ?_ (by with_reducible assumption)))⟩
              · have HE := Lib.hid (show chkL o (prev l (0 + 1)) (l.drop (0 + 1)) = R by rw [← HF4.out, if_neg (by rw [HX.out]; decide)])
                clear t1
                go_wp2
                go_roundg g
                case rel => exact ⟨0 + 1, by have := HG.out; omega, by go_num, HE.out, below_drewN (below_alloc hb _) _⟩
                case measure => omega
            · have HE := Lib.hid (show R = 3 by rw [← HF3.out, if_pos hmo])
              have t1 : ((m : Int) != o) = true := by simpa using hmo
              clear hmo
              go_wp2
              go_ret
              exact ⟨ret_int HE.out.symm, (by repeat (first | with_reducible exact Below.refl _ _ | with_reducible assumption | with_reducible refine below_alloc ?_ _ | with_reducible refine Below.drew ?_ | with_reducible refine below_drewN ?_ _ | with_reducible refine below_then ?_ (by with_reducible assumption)))⟩
          · by_cases hfq : f ≤ q
            · have HE := Lib.hid (show R = 10 by rw [← HF2.out, if_pos (by rw [hq]; exact hfq)])
              clear hq
              have e1 : IntKind.i64.wrap ((i : Int) - 1) = ((i - 1 : Nat) : Int) := by rw [IntWalk.i64_in _ (by omega)]; omega
              have e2 : (i : Int) - 1 = ((i - 1 : Nat) : Int) := by omega
              have hi9 : (0 : Int) < (i : Int) := by omega
              go_wp2
              go_quiet (fail)
              go_wp2
              go_ret
              exact ⟨ret_int HE.out.symm, (by repeat (first | with_reducible exact Below.refl _ _ | with_reducible assumption | with_reducible refine below_alloc ?_ _ | with_reducible refine Below.drew ?_ | with_reducible refine below_drewN ?_ _ | with_reducible refine below_then ?_ (by with_reducible assumption)))⟩
            · have HF3 := Lib.hid (show (if ¬ ((m : Int) = o) then 3 else if u.contains true = false then 6 else chkL o (prev l (i + 1)) (l.drop (i + 1))) = R by
                rw [← HF2.out, if_neg (show ¬ f ≤ prev l i by rw [hq]; exact hfq), ← HM.out])
              clear hq
              have e1 : IntKind.i64.wrap ((i : Int) - 1) = ((i - 1 : Nat) : Int) := by rw [IntWalk.i64_in _ (by omega)]; omega
              have e2 : (i : Int) - 1 = ((i - 1 : Nat) : Int) := by omega
              have hi9 : (0 : Int) < (i : Int) := by omega
              go_wp2
              go_quiet (fail)
              clear e1 e2
              have hfw := hf.below (w' := wr.alloc (Obj.cells #[.int .i64 f, .slice a' m c'] 53)) (below_box _ _)
              by_cases hmo : (m : Int) = o
              · have HF4 := Lib.hid (show (if u.contains true = false then 6 else chkL o (prev l (i + 1)) (l.drop (i + 1))) = R by rw [← HF3.out, if_neg (show ¬ ¬ (m : Int) = o from fun h => h hmo)])
                have t1 : ((m : Int) != o) = false := by simp [hmo]
                clear hmo
                obtain ⟨x, hx⟩ : ∃ x, u.contains true = x := ⟨_, rfl⟩
                have HX := Lib.hid hx; clear hx
                go_wp2_with fail
                refine (contains_33 a' u m c' _ (hfw.below (below_drewN (Below.refl _ _) _)) HM.out (by omega)).mono ?_
                rintro e w' ⟨rfl, rfl⟩
                rw [HX.out]
                cases x
                · have HE := Lib.hid (show R = 6 by rw [← HF4.out, if_pos HX.out])
                  go_wp2
                  go_ret
                  exact ⟨ret_int HE.out.symm, (by repeat (first | with_reducible exact Below.refl _ _ | with_reducible assumption | with_reducible refine below_alloc ?_ _ | with_reducible refine Below.drew ?_ | with_reducible refine below_drewN ?_ _ | with_reducible refine below_then ?_ (by with_reducible assumption)))⟩
                · have HE := Lib.hid (show chkL o (prev l (i + 1)) (l.drop (i + 1)) = R by rw [← HF4.out, if_neg (by rw [HX.out]; decide)])
                  clear t1
                  go_wp2
                  go_roundg g
                  case rel => exact ⟨i + 1, by have := HG.out; omega, by go_num, HE.out, below_drewN (below_alloc hb _) _⟩
                  case measure => omega
              · have HE := Lib.hid (show R = 3 by rw [← HF3.out, if_pos hmo])
                have t1 : ((m : Int) != o) = true := by simpa using hmo
                clear hmo
                go_wp2
                go_ret
                exact ⟨ret_int HE.out.symm, (by repeat (first | with_reducible exact Below.refl _ _ | with_reducible assumption | with_reducible refine below_alloc ?_ _ | with_reducible refine Below.drew ?_ | with_reducible refine below_drewN ?_ _ | with_reducible refine below_then ?_ (by with_reducible assumption)))⟩
end Go.Proofs.YtdddkfpcbfgocaaGreat.Sb
namespace Go.Proofs.YtdddkfpcbfgocaaGreat.Sb
open Go.RowKit Go.Over Go.Slb Go.Seg
theorem cnt_zero (u : List Bool) : cnt u = 0 ↔ u.contains true = false := by
  unfold cnt
  rw [List.count_eq_zero]
  simp
end Go.Proofs.YtdddkfpcbfgocaaGreat.Sb
namespace Go.Proofs.YtdddkfpcbfgocaaGreat.Sb
open Go.RowKit Go.Over Go.Slb Go.Seg
theorem asc_count : ∀ {l : List S} {p : Int}, Asc p l → (∀ s ∈ l, s.1 < 256) → p < 256 → (l.length : Int) ≤ 255 - p
  | [], _, _, _, h => by simp; omega
  | s :: r, p, ha, hf, _ => by
    have h1 := hf s (by simp)
    have := asc_count ha.2 (fun t ht => hf t (by simp [ht])) h1
    have := ha.1
    simp only [List.length_cons, Int.natCast_add, Int.natCast_one]; omega
theorem ok_count {o : Int} {l : List S} (h : Ok o l) : l.length ≤ 256 := by
  have := asc_count h.asc (fun s hs => (h.fr s hs).2) (by omega)
  omega
theorem used_drop {l : List S} {i : Nat} {s : S} (h : l[i]? = some s) : used (l.drop i) = cnt s.2 + used (l.drop (i + 1)) := by rw [drop_get h]; rfl
theorem cnt_drop {u : List Bool} {i n : Nat} (hn : u.length = n) (h : i < n) : cnt (u.drop i) = (if u.getD i false = true then 1 else 0) + cnt (u.drop (i + 1)) := by
  rw [flag_drop hn h]
  unfold cnt
  cases u.getD i false <;> simp <;> omega
/-- Frames, used and free objects of a cache (all 0 if it is not valid). -/
def acc (o : Int) (l : List S) : Value := if check o l = 0 then .tuple #[.int .i64 l.length, .int .i64 (used l), .int .i64 (free o l)] else .tuple #[.int .i64 0, .int .i64 0, .int .i64 0]
theorem acc_ok {o : Int} {l : List S} {n : Nat} (h : check o l = 0) (hn : l.length = n) : acc o l = .tuple #[.int .i64 n, .int .i64 (used l), .int .i64 (n * o - used l)] := by
  unfold acc; rw [if_pos h]; unfold free; rw [hn]
theorem acc_no {o : Int} {l : List S} (h : ¬ check o l = 0) : acc o l = .tuple #[.int .i64 0, .int .i64 0, .int .i64 0] := by
  unfold acc; rw [if_neg h]
set_option maxRecDepth 100000 in set_option maxHeartbeats 1600000 in
theorem account_27 (o : Int) (a : Option Addr) (l : List S) (n c : Nat) (w : World) (H : Slabs w a l) (hn : l.length = n) (hm : n ≤ 1000000) :
    Calls Tryz.prog 16 #[.agg #[.int .i64 o, .slice a n c]] w fun e w' => e = .returned (acc o l) ∧ Below w.heap.size w w' := by
  have HN := Lib.hid hn
  obtain ⟨w1, hw1⟩ : ∃ w1, w1 = w.alloc (.cells #[.int .i64 o, .slice a n c] 31) := ⟨_, rfl⟩
  obtain ⟨k0, k1⟩ := box_cells w (.int .i64 o) (.slice a n c) 31
  have B1 := below_box w (.cells #[.int .i64 o, .slice a n c] 31)
  rw [← hw1] at k0 k1 B1
  have H1 := H.below B1
  have hz1 : w.heap.size < w1.heap.size := by rw [hw1]; simp
  have HW := Lib.hid hw1; clear hw1
  have K0 := Lib.hid k0; have K1 := Lib.hid k1; have hn' := hn
  clear hn
  obtain ⟨V, hV⟩ : ∃ V, acc o l = V := ⟨_, rfl⟩
  rw [hV]
  obtain ⟨R, hR⟩ : ∃ R, check o l = R := ⟨_, rfl⟩
  by_cases h0 : R = 0
  · have hok := check_ok.1 (hR.trans h0)
    have hcount := ok_count hok
    rw [hn'] at hcount
    have ho1 := hok.o1
    have ho2 := hok.o2
    have hule := used_le hok.len
    rw [hn'] at hule
    rw [acc_ok (hR.trans h0) hn'] at hV
    have HL := Lib.hid hok.len
    subst h0
    have HR := Lib.hid hR; have HV := Lib.hid hV
    obtain ⟨p, hp⟩ : ∃ p : Int, (n : Int) * o = p := ⟨_, rfl⟩
    have hp1 : 0 ≤ p := by rw [← hp]; exact Int.mul_nonneg (by omega) (by omega)
    have hp2 : p ≤ 8192 := by
      rw [← hp]
      have h1 := Int.mul_le_mul_of_nonneg_right (show (n : Int) ≤ 256 by omega) (show (0 : Int) ≤ o by omega)
      omega
    rw [hp] at hule
    have HP := Lib.hid hp
    clear hR hV hn' hok hp
    go_enter Tryz.func16, Tryz.ntmps16
    go_wp2_with fail
    rw [← HW.out]
    clear k0 k1
    refine (check_16 o a l n c _ H1 HN.out hm).mono ?_
    rintro e w2 ⟨rfl, hb2⟩
    rw [HR.out]
    have k1 := cell_later hb2 K1.out
    clear HW
    go_wp2
    go_loopg [3, 15] n (fun g k0 i0 wr => ∃ (i k : Nat), i + g = n ∧ k0 = .int .i64 k ∧ i0 = .int .i64 i ∧ k ≤ i * 32 ∧ used l = k + used (l.drop i) ∧ Below w1.heap.size w1 wr)
    case atStart => exact ⟨0, 0, by omega, rfl, rfl, by omega, by simp, hb2⟩
    case round =>
      clear k1 hb2
      obtain ⟨i, k, hg, rfl, rfl, hki, hF, hb⟩ := hrel
      have c0 := cell_later hb K0.out
      have c1 := cell_later hb K1.out
      cases gk with
      | zero =>
        obtain rfl : i = n := by omega
        have hk : used l = k := by
          rw [hF, List.drop_eq_nil_of_le (by rw [HN.out]; exact Nat.le_refl _)]; rfl
        rw [hk] at hule
        have HK := Lib.hid hk
        have hp := HP.out
        have e1 : IntKind.i64.wrap (p - (k : Int)) = p - (k : Int) := IntWalk.i64_in _ (by omega)
        have e2 : IntKind.i64.wrap p = p := IntWalk.i64_in _ (by omega)
        clear hg hF hk
        go_wp2
        go_quiet (fail)
        go_wp2
        go_ret3
        exact ⟨by rw [← HV.out, HK.out, HP.out]; rfl, below_drewN (below_then B1 hb) _⟩
      | succ g =>
        have hin : i < n := by omega
        obtain ⟨⟨f, u⟩, hs⟩ := get_some HN.out hin
        have hum := HL.out _ (List.mem_of_getElem? hs)
        rw [used_drop hs] at hF
        obtain ⟨b, off, rfl, hc⟩ := (H1.below hb) (by rw [HN.out]; omega)
        obtain ⟨s0, a', c', s1, hc1, hc2, hc3, hf⟩ := hc i _ hs
        obtain ⟨m, hm'⟩ : ∃ m, u.length = m := ⟨_, rfl⟩
        simp only [hm'] at s0 s1 hc1 hum
        have hm32 : m ≤ 32 := by omega
        have HM := Lib.hid hm'; have HG := Lib.hid hg; have HF := Lib.hid hF
        have hi256 : i < 256 := by omega
        clear hm' hg hs hc hF hum
        go_wp2
        go_loopg [3, 22] m (fun g2 k0 i0 wi => ∃ (j kk : Nat), j + g2 = m ∧ k0 = .int .i64 ((k + kk : Nat) : Int) ∧ i0 = .int .i64 j ∧ kk ≤ j ∧ cnt u = kk + cnt (u.drop j) ∧ Below wr.heap.size wr wi)
        case atStart => exact ⟨0, 0, by omega, rfl, rfl, by omega, by simp, below_box _ _⟩
        case round =>
          obtain ⟨j, kk, hj, rfl, rfl, hkj, hcu, hbi⟩ := hrel
          cases gk with
          | zero =>
            obtain rfl : j = m := by omega
            have HC := Lib.hid (show cnt u = kk by rw [hcu, List.drop_eq_nil_of_le (by rw [HM.out]; exact Nat.le_refl _)]; rfl)
            clear hj hcu
            go_wp2
            go_roundg g
            case rel => exact ⟨i + 1, k + kk, by have := HG.out; omega, rfl, by go_num, by omega, by have := HF.out; have := HC.out; omega, below_then hb hbi⟩
            case measure => omega
          | succ g2 =>
            have hjm : j < m := by omega
            obtain ⟨b2, off2, rfl, hfc⟩ := (hf.below hbi) (by rw [HM.out]; omega)
            have c2 := hfc j (by rw [HM.out]; exact hjm)
            rw [cnt_drop HM.out hjm] at hcu
            obtain ⟨x, hx⟩ : ∃ x, u.getD j false = x := ⟨_, rfl⟩
            rw [hx] at c2 hcu
            have HC := Lib.hid hcu; have HJ := Lib.hid hj
            clear hcu hj hfc hx
            cases x
            · go_wp2
              go_roundg g2
              case rel => exact ⟨j + 1, kk, by have := HJ.out; omega, rfl, by go_num, by omega, by have := HC.out; simpa using this, hbi⟩
              case measure => omega
            · go_wp2
              go_roundg g2
              case rel => exact ⟨j + 1, kk + 1, by have := HJ.out; omega, by go_num, by go_num, by omega, by have := HC.out; simp at this; omega, hbi⟩
              case measure => omega
  · rw [acc_no (by rw [hR]; exact h0)] at hV
    have hne : (R != 0) = true := by simpa using h0
    have HR := Lib.hid hR; have HV := Lib.hid hV
    clear hR hV hn' h0
    go_enter Tryz.func16, Tryz.ntmps16
    go_wp2_with fail
    rw [← HW.out]
    clear k0 k1
    refine (check_16 o a l n c _ H1 HN.out hm).mono ?_
    rintro e w2 ⟨rfl, hb2⟩
    rw [HR.out]
    clear HW
    go_wp2
    go_ret3
    exact ⟨by rw [← HV.out]; rfl, below_then B1 hb2⟩
end Go.Proofs.YtdddkfpcbfgocaaGreat.Sb
namespace Go.Proofs.YtdddkfpcbfgocaaGreat.Sb
open Go.RowKit Go.Over Go.Slb Go.Seg
theorem need_no {o : Int} {l : List S} {n : Int} (h : n < 1 ∨ check o l ≠ 0 ∨ n ≤ free o l) : needL o l n = 0 := by unfold needL; rw [if_pos h]
theorem need_yes {o : Int} {l : List S} {n : Int} (h : ¬ (n < 1 ∨ check o l ≠ 0 ∨ n ≤ free o l)) : needL o l n = (n - free o l - 1) / o + 1 := by unfold needL; rw [if_neg h]
theorem acc_free {o : Int} {l : List S} (h : check o l = 0) : acc o l = .tuple #[.int .i64 l.length, .int .i64 (used l), .int .i64 (free o l)] := by unfold acc; rw [if_pos h]
theorem free_bound {o : Int} {l : List S} (h : Ok o l) : 0 ≤ free o l ∧ free o l ≤ 8192 := by
  have h1 := used_le h.len
  have h2 := ok_count h
  have h3 : (l.length : Int) * o ≤ 256 * 32 := by
    have a1 := Int.mul_le_mul_of_nonneg_right (show (l.length : Int) ≤ 256 by omega) (show (0 : Int) ≤ o by have := h.o1; omega)
    have := h.o2
    omega
  unfold free
  omega
end Go.Proofs.YtdddkfpcbfgocaaGreat.Sb
namespace Go.Grow
open Go.RowKit
/-- The facts on a slice type and its element type. -/
def Kind (P : Program) (t e : TypeId) (size bytes : Nat) : Prop :=
  ∃ i z, P.underlying t = some (.slice e) ∧ P.info? e = some i ∧ i.zero = some z ∧ i.size = size ∧ i.bytes = bytes ∧ z.cells.size = size ∧ 0 < size ∧ bytes ≤ 1000
theorem Kind.mk' {P : Program} {t e : TypeId} {size bytes : Nat} {z : Value} (h1 : P.underlying t = some (.slice e)) (h2 : (P.info? e).map (fun i => (i.zero, i.size, i.bytes)) = some (some z, size, bytes)) (h3 : z.cells.size = size) (h4 : 0 < size) (h5 : bytes ≤ 1000) : Kind P t e size bytes := by
  obtain ⟨i, hi, hz0, hz1, hz2⟩ := info_parts h2
  exact ⟨i, z, h1, hi, hz0, hz1, hz2, h3, h4, h5⟩
section
variable {P : Program} {t e : TypeId} {size bytes : Nat}
theorem append_where (K : Kind P t e size bytes) {w : World} {base ty : Nat} {v : Value} {n : Nat} {xs : List Value} (hown : w.ownsRow base e size v n xs) (a : Addr) (m c : Nat) (news : List Value) (hl : news.length = m * size) (hnews : ∀ j u, news[j]? = some u → w.cell? (a.add j) = some u)
    (h1 : ∀ u ∈ news, u.oneCell' = true) (hs : n + m ≤ 1000000) {v' : Value} {w' : World} (hr : (Builtin.append_ #[t, t] ty #[v, .slice (some a) m c]).run P w = .ok v' w') :
    (∀ k, v'.ownBlock = some k → v.ownBlock = some k ∨ w.heap.size ≤ k) := by
  obtain ⟨i, z, ht, hi, hz, hz1, hz2, hzs, hsz, hby⟩ := K
  have hl' : news.length = m * i.size := by rw [hz1, hl]
  have hb : ∀ k, k ≤ 1000000 → k * i.bytes ≤ 1000000000 := fun k hk => by
    rw [hz2]; exact Nat.le_trans (Nat.mul_le_mul hk hby) (by decide)
  intro k hk
  rcases hown.2 with ⟨rfl, rfl⟩ | ⟨g, cap, cur, rfl, hbg, hg, hnc, hcm, hcs, htake⟩
  · by_cases hm : m = 0
    · subst hm
      have hn : news = [] := List.eq_nil_of_length_eq_zero (by rw [hl, Nat.zero_mul])
      subst hn
      have h2 : (Builtin.append_ #[t, t] ty #[.slice none 0 0, .slice (some a) 0 c]).run P w = .ok (.slice none 0 0) w := by
        simp [Builtin.append_, run_underlying ht, sizeOf, typeInfo, hi, Builtin.lenOf, Builtin.firstCells, loadCells, loadCellsFrom]
      rw [h2] at hr
      cases hr
      simp [Value.ownBlock] at hk
    · have h2 := run_append_nil (P := P) w t ty e i _ ht hi hz a m c news hl' hnews (by omega) (by omega) (by have := hb m (by omega); omega)
      rw [h2] at hr
      cases hr
      simp [Value.ownBlock] at hk
      omega
  · by_cases hroom : n + m ≤ cap
    · have hfit : n * i.size + news.length ≤ cur.size := by
        rw [hl, hcs, hz1, ← Nat.add_mul]; exact Nat.mul_le_mul_right _ hroom
      have h2 := run_append_room (P := P) w t ty e i ht hi g n cap cur hg a m c news hl' hnews h1 hroom hfit
      rw [h2] at hr
      cases hr
      exact .inl (by simpa [Value.ownBlock] using hk)
    · have holds : ∀ j u, xs[j]? = some u → w.cell? ((⟨g, 0, none⟩ : Addr).add j) = some u := hown.cells (g := g) rfl
      have h2 := run_append_grow (P := P) w t ty e i _ ht hi hz ⟨g, 0, none⟩ n cap xs (by rw [hz1]; exact hown.1) holds a m c news hl' hnews (by omega) (by omega) (growslice_fits (by omega) (by have := hb (n + m) hs; omega))
      rw [h2] at hr
      cases hr
      simp [Value.ownBlock] at hk
      omega
/-- What is appended: nothing (nil), or cells that lie at an address. -/
def Src (w : World) (size : Nat) (ax : Option Addr) (m c : Nat) (news : List Value) : Prop :=
  news.length = m * size ∧ (∀ u ∈ news, u.oneCell' = true) ∧ ((ax = none ∧ m = 0 ∧ c = 0) ∨ ∃ ad, ax = some ad ∧ ∀ j u, news[j]? = some u → w.cell? (ad.add j) = some u)
theorem wpList_append_k (K : Kind P t e size bytes) {w : World} {ops : Array Oper} {rest : List Oper} {o : Oper} {a : Act} {Q : Exit → Act → World → Prop} {base : Nat} (hgd : o.guard = none) (s x : Operand)
    (ho : o.op = .call { callee := .builtin .append, args := #[s, x], argTypes := #[t, t] })
    (v : Value) (n : Nat) (l : List Value) (hs : a.eval s = v) (hown : w.ownsRow base e size v n l)
    (ax : Option Addr) (m c : Nat) (news : List Value) (hx : a.eval x = .slice ax m c) (hsrc : Src w size ax m c news)
    (hlen : n + m ≤ 1000000) (hbase : base ≤ w.heap.size)
    (h : ∀ v' w', w'.ownsRow base e size v' (n + m) (l ++ news) → w.grownBy w' v.ownBlock → (∀ k, v'.ownBlock = some k → v.ownBlock = some k ∨ w.heap.size ≤ k) → wpList P ops Q rest (a.put o.dst v') w') : wpList P ops Q (o :: rest) a w := by
  have K' := K
  obtain ⟨i, z, ht, hi, hz, hz1, hz2, hzs, hsz, hby⟩ := K'
  obtain ⟨hl, h1, hcase⟩ := hsrc
  refine wpList_plain hgd fun KK hK => ?_
  rcases hcase with ⟨rfl, rfl, rfl⟩ | ⟨ad, rfl, hnews⟩
  · have hn : news = [] := List.eq_nil_of_length_eq_zero (by rw [hl, Nat.zero_mul])
    subst hn
    have hr := run_append_owned_none (P := P) w base t o.type e i size ht hi v n l hown
    unfold Oper.wp execOp
    simp only [ho, resolve, invoke, builtin, Sem.run_bind, Sem.run_pure, Result.andThen_ok, List.map_toArray, List.map_cons, List.map_nil, hs, hx, hr]
    exact hK _ _ (h v w (by simpa using hown) (World.grownBy.refl w _) (fun k hk => .inl hk))
  · have hb : (n + m) * bytes ≤ 1000000000 := Nat.le_trans (Nat.mul_le_mul hlen hby) (by decide)
    obtain ⟨v', w', hr, h2, h3, _⟩ := run_append_own (P := P) w base t o.type e i z size bytes ht hi hz hz1 hz2 hzs hsz v n _ hown ad m c news hl hnews h1 (by unfold maxLen; omega) (by omega) hbase
    have h4 := append_where K hown ad m c news hl hnews h1 hlen hr
    unfold Oper.wp execOp
    simp only [ho, resolve, invoke, builtin, Sem.run_bind, Sem.run_pure, Result.andThen_ok, List.map_toArray, List.map_cons, List.map_nil, hs, hx, hr]
    exact hK _ _ (h v' w' h2 h3 h4)
end
/-- Cells in a new block. -/
theorem src_new (w : World) (cs : Array Value) (t : TypeId) (size m c : Nat) (hl : cs.size = m * size) (h1 : ∀ u ∈ cs.toList, u.oneCell' = true) : Src (w.alloc (.cells cs t)) size (some ⟨w.heap.size, 0, none⟩) m c cs.toList := by
  refine ⟨by simpa using hl, h1, .inr ⟨_, rfl, fun j u hj => ?_⟩⟩
  rw [show (⟨w.heap.size, 0, none⟩ : Addr).add j = ⟨w.heap.size, j, none⟩ by unfold Addr.add; split <;> simp_all]
  have : (w.alloc (.cells cs t)).heap[w.heap.size]? = some (.cells cs t) := by
    show (w.heap.push _)[w.heap.size]? = _; simp
  rw [World.cell?, this]
  simpa using hj
theorem below_grown {B : Nat} {w w' : World} (hb : Below w.heap.size w w') : w.grownBy w' (some (w.heap.size + B)) :=
  ⟨hb.os, hb.tape, hb.output, hb.size, fun k hk _ => hb.block k hk⟩
theorem own_later {w w' : World} {B e size n : Nat} {v : Value} {xs : List Value} (h : w.ownsRow B e size v n xs) (hb : Below w.heap.size w w') : w'.ownsRow B e size v n xs :=
  h.kept (row := none) ⟨hb.os, hb.tape, hb.output, hb.size, fun k hk _ => hb.block k hk⟩ (by cases hv : v.ownBlock <;> simp)
theorem own_weaken {w : World} {B B' e size n : Nat} {v : Value} {xs : List Value} (h : w.ownsRow B e size v n xs) (hb : B' ≤ B) : w.ownsRow B' e size v n xs := by
  refine ⟨h.1, ?_⟩
  rcases h.2 with h1 | ⟨g, cap, cur, h1, h2, h3⟩
  · exact .inl h1
  · exact .inr ⟨g, cap, cur, h1, by omega, h3⟩
theorem own_form {w : World} {B e size n : Nat} {v : Value} {xs : List Value} (h : w.ownsRow B e size v n xs) : ∃ a c, v = .slice a n c ∧ n ≤ c ∧ c ≤ maxLen ∧ (a = none → c = 0) := by
  rcases h.2 with ⟨rfl, rfl⟩ | ⟨g, cap, cur, rfl, _, _, h1, h2, _⟩
  · exact ⟨none, 0, rfl, Nat.le_refl _, Nat.zero_le _, fun _ => rfl⟩
  · exact ⟨_, cap, rfl, h1, h2, fun h => by cases h⟩
theorem own_pos {w : World} {B e size n : Nat} {v : Value} {xs : List Value} (h : w.ownsRow B e size v n xs) (hn : 0 < n) : ∃ g c, v = .slice (some ⟨g, 0, none⟩) n c ∧ B ≤ g ∧ g < w.heap.size ∧ n ≤ c ∧ c ≤ maxLen := by
  have hlt := h.lt
  rcases h.2 with ⟨rfl, rfl⟩ | ⟨g, cap, cur, rfl, h0, _, h1, h2, _⟩
  · omega
  · exact ⟨g, cap, rfl, h0, (hlt g rfl).2, h1, h2⟩
end Go.Grow
namespace Go.Proofs.YtdddkfpcbfgocaaGreat.Sb
open Go.RowKit Go.Over Go.Slb Go.Seg Go.Grow
theorem K31 : Kind Tryz.prog 24 3 1 8 := Kind.mk' (z := .int .i64 0) Tryz.underlying24 (by kernel_rfl) rfl (by decide) (by decide)
theorem K50 : Kind Tryz.prog 51 4 1 1 := Kind.mk' (z := .bool false) Tryz.underlying51 (by kernel_rfl) rfl (by decide) (by decide)
theorem K22 : Kind Tryz.prog 29 53 2 32 := Kind.mk' (z := .agg #[.int .i64 0, .slice none 0 0]) Tryz.underlying29 (by kernel_rfl) rfl (by decide) (by decide)
/-- Numbers that lie at a. -/
def Ints (w : World) (a : Option Addr) (l : List Int) : Prop :=
  0 < l.length → ∃ b off, a = some ⟨b, off, none⟩ ∧ ∀ i, i < l.length → w.cell? ⟨b, off + i, none⟩ = some (.int .i64 (l.getD i 0))
theorem Ints.below {w w' : World} {a : Option Addr} {l : List Int} (h : Ints w a l) (hb : Below w.heap.size w w') : Ints w' a l := fun h0 => by
  obtain ⟨b, off, ha, hc⟩ := h h0
  exact ⟨b, off, ha, fun i hi => cell_later hb (hc i hi)⟩
/-- Numbers in a row of the call's own. -/
def OwnI (w : World) (base : Nat) (v : Value) (l : List Int) : Prop := w.ownsRow base 3 1 v l.length (l.map (Value.int .i64))
theorem OwnI.ints {w : World} {base n : Nat} {v : Value} {l : List Int} (h : OwnI w base v l) (hn : l.length = n) : ∃ a c, v = .slice a n c ∧ n ≤ c ∧ c ≤ maxLen ∧ (a = none → c = 0) ∧ Ints w a l := by
  subst hn
  obtain ⟨a, c, rfl, h1, h2, h3⟩ := own_form h
  refine ⟨a, c, rfl, h1, h2, h3, fun h0 => ?_⟩
  obtain ⟨g, c', hv, _, _⟩ := own_pos h h0
  cases hv
  refine ⟨g, 0, rfl, fun i hi => ?_⟩
  have := World.ownsRow.cells h (g := g) rfl i (.int .i64 (l.getD i 0)) (by rw [List.getElem?_map, List.getElem?_eq_getElem hi, List.getD_eq_getElem?_getD, List.getElem?_eq_getElem hi]; rfl)
  rw [show (⟨g, 0, none⟩ : Addr).add i = ⟨g, 0 + i, none⟩ by unfold Addr.add; split <;> simp_all] at this
  exact this
theorem offs_drop {f o : Int} {b : Bool} {u : List Bool} {j m : Nat} (hm : u.length = m) (h : j < m) : offs f o b j (u.drop j) = (if u.getD j false = b then [f * o + j] else []) ++ offs f o b (j + 1) (u.drop (j + 1)) := by
  rw [flag_drop hm h]
  simp only [offs]
  split <;> simp
theorem objs_drop {o : Int} {b : Bool} {l : List S} {i : Nat} {s : S} (h : l[i]? = some s) : objs o b (l.drop i) = offs s.1 o b 0 s.2 ++ objs o b (l.drop (i + 1)) := by rw [drop_get h]; rfl
/-- What holds of a cache whose objects are listed. -/
structure Small (o : Int) (l : List S) : Prop where
  o0 : 0 ≤ o
  o1 : o ≤ 32
  n : l.length ≤ 1000
  fr : ∀ s ∈ l, 0 ≤ s.1 ∧ s.1 < 256
  len : ∀ s ∈ l, s.2.length ≤ 40
theorem small_ok {o : Int} {l : List S} (h : Ok o l) : Small o l :=
  ⟨by have := h.o1; omega, h.o2, by have := ok_count h; omega, h.fr, fun s hs => by have := h.len s hs; have := h.o2; omega⟩
theorem mul_small {f o : Int} (h1 : 0 ≤ f) (h2 : f < 256) (h3 : 0 ≤ o) (h4 : o ≤ 32) : 0 ≤ f * o ∧ f * o ≤ 8192 := by
  refine ⟨Int.mul_nonneg h1 h3, ?_⟩
  have a1 := Int.mul_le_mul_of_nonneg_right (show f ≤ 256 by omega) h3
  omega
end Go.Proofs.YtdddkfpcbfgocaaGreat.Sb
namespace Go.Proofs.YtdddkfpcbfgocaaGreat.Sb
open Go.RowKit Go.Over Go.Slb Go.Seg Go.Grow
theorem ints_drop {l : List Int} {i n : Nat} (hn : l.length = n) (h : i < n) : l.drop i = l.getD i 0 :: l.drop (i + 1) := by
  rw [List.drop_eq_getElem_cons (by omega)]
  congr 1
  rw [List.getD_eq_getElem?_getD, List.getElem?_eq_getElem (by omega)]; rfl
set_option maxRecDepth 100000 in set_option maxHeartbeats 1600000 in
theorem index_52 (a : Option Addr) (l : List Int) (n c : Nat) (y : Int) (w : World) (H : Ints w a l) (hn : l.length = n) (hm : n ≤ 1000000) :
    Calls Tryz.prog 168 #[.slice a n c, .int .i64 y] w (IdxOf w (l.contains y)) := by
  have HN := Lib.hid hn; clear hn
  obtain ⟨R, hR⟩ : ∃ R, l.contains y = R := ⟨_, rfl⟩
  rw [hR]
  have HR := Lib.hid hR; clear hR
  go_enter Tryz.func168, Tryz.ntmps168
  go_wp2
  go_loopg [8] n (fun g i0 wr => ∃ (i : Nat), i + g = n ∧ i0 = .int .i64 i ∧ (l.drop i).contains y = R ∧ w = wr)
  case atStart => exact ⟨0, by omega, rfl, HR.out, rfl⟩
  case round =>
    obtain ⟨i, hg, rfl, hF, rfl⟩ := hrel
    cases gk with
    | zero =>
      obtain rfl : i = n := by omega
      have HE := Lib.hid (show R = false by rw [← hF, List.drop_eq_nil_of_le (by rw [HN.out]; exact Nat.le_refl _)]; rfl)
      clear hg hF
      go_wp2
      go_ret
      exact ⟨-1, rfl, by rw [HE.out]; rfl, rfl⟩
    | succ g =>
      have hin : i < n := by omega
      obtain ⟨b1, off1, rfl, h1⟩ := H (by rw [HN.out]; omega)
      have c1 := h1 i (by rw [HN.out]; exact hin)
      rw [ints_drop HN.out hin] at hF
      obtain ⟨x, hx⟩ : ∃ x, l.getD i 0 = x := ⟨_, rfl⟩
      rw [hx] at c1 hF
      have HG := Lib.hid hg; have HF := Lib.hid hF; clear hg h1 hx hF
      by_cases hxy : y = x
      · have HE := Lib.hid (show R = true by rw [← HF.out, hxy]; simp)
        subst hxy
        have t1 : (y == y) = true := by simp
        go_wp2
        go_ret
        exact ⟨i, rfl, by rw [HE.out]; simp, rfl⟩
      · have t1 : (y == x) = false := by simpa using hxy
        go_wp2
        go_roundg g
        case rel => exact ⟨i + 1, by have := HG.out; omega, by go_num, by rw [← HF.out]; simp [hxy], rfl⟩
        case measure => omega
set_option maxRecDepth 100000 in set_option maxHeartbeats 1600000 in
theorem contains_39 (a : Option Addr) (l : List Int) (n c : Nat) (y : Int) (w : World) (H : Ints w a l) (hn : l.length = n) (hm : n ≤ 1000000) :
    Calls Tryz.prog 132 #[.slice a n c, .int .i64 y] w fun e w' => e = .returned (.bool (l.contains y)) ∧ w = w' := by
  obtain ⟨r, hr⟩ : ∃ r, l.contains y = r := ⟨_, rfl⟩
  have hI := index_52 a l n c y w H hn hm
  rw [hr] at hI ⊢
  have HI := Lib.hid hI; clear hI hr hn
  go_enter Tryz.func132, Tryz.ntmps132
  go_wp2_with (go_at_call 168; refine HI.out.mono ?_; rintro e w' ⟨k, rfl, hk, rfl⟩)
  go_ret
  exact ⟨rfl, rfl⟩
/-- n numbers (at most 60) from f on. -/
def nextL (f : Int) : Nat → List Int
  | 0 => []
  | k + 1 => nextL f k ++ [f + k]
theorem nextL_len (f : Int) : ∀ k, (nextL f k).length = k
  | 0 => rfl
  | k + 1 => by simp [nextL, nextL_len f k]
end Go.Proofs.YtdddkfpcbfgocaaGreat.Sb
namespace Go.Grow
open Go.RowKit Go.Over
def Blk (w : World) (g : Nat) (t : TypeId) (cs : List Value) : Prop := w.heap[g]? = some (.cells cs.toArray t (0, 0))
section
variable {w w' : World} {g : Nat} {t : TypeId} {cs : List Value}
theorem Blk.lt (h : Blk w g t cs) : g < w.heap.size := by
  rcases Nat.lt_or_ge g w.heap.size with hlt | hge
  · exact hlt
  · unfold Blk at h
    rw [Array.getElem?_eq_none hge] at h
    cases h
theorem Blk.cell (h : Blk w g t cs) (i : Nat) : w.cell? ⟨g, i, none⟩ = cs[i]? := by
  unfold Blk at h
  simp [World.cell?, h]
theorem Blk.frozen (h : Blk w g t cs) (i : Nat) : w.frozen? ⟨g, i, none⟩ = false := by
  unfold Blk at h
  simp [World.frozen?, h]
theorem Blk.new (w : World) (t : TypeId) (cs : Array Value) (l : List Value) (hl : cs = l.toArray) : Blk (w.alloc (.cells cs t)) w.heap.size t l := by
  subst hl
  show (w.heap.push _)[w.heap.size]? = _
  simp
theorem Blk.alloc (h : Blk w g t cs) (o : Obj) : Blk (w.alloc o) g t cs := by
  have := h.lt
  unfold Blk at h ⊢
  rw [Below.heap_alloc w o g this, h]
theorem Blk.below {B : Nat} (h : Blk w g t cs) (hb : Below B w w') (hg : g < B) : Blk w' g t cs := by
  unfold Blk at h ⊢
  rw [hb.block g hg, h]
theorem Blk.later (h : Blk w g t cs) (hb : Below w.heap.size w w') : Blk w' g t cs := h.below hb h.lt
theorem Blk.grown {row : Option Nat} (h : Blk w g t cs) (hb : w.grownBy w' row) (hg : row ≠ some g) : Blk w' g t cs := by
  unfold Blk at h ⊢
  rw [hb.block g (Blk.lt h) (fun e => hg e.symm), h]
theorem Blk.set (h : Blk w g t cs) (i : Nat) (u : Value) : Blk (w.setCell ⟨g, i, none⟩ u) g t (cs.set i u) := by
  unfold Blk at h ⊢
  simp [World.setCell, Array.getElem?_modify, h]
theorem Blk.far (h : Blk w g t cs) {p : Addr} (hp : g ≠ p.block) (u : Value) : Blk (w.setCell p u) g t cs := by
  unfold Blk at h ⊢
  rw [Below.heap_setCell w p u g hp, h]
theorem Blk.ne_type {g' : Nat} {t' : TypeId} {cs' : List Value} (h : Blk w g t cs) (h' : Blk w g' t' cs') (hne : t ≠ t') : g ≠ g' := by
  intro e
  subst e
  unfold Blk at h h'
  rw [h] at h'
  injection h' with h'
  injection h' with _ h2
  exact hne h2
/-- A row of another element type lies in another block. -/
theorem Blk.not_own {base e size n : Nat} {v : Value} {xs : List Value} (h : Blk w g t cs) (ho : w.ownsRow base e size v n xs) (hne : e ≠ t) : v.ownBlock ≠ some g := by
  rcases ho.2 with ⟨rfl, _⟩ | ⟨g', cap, cur, rfl, _, hh, _⟩
  · simp [Value.ownBlock]
  · intro he
    have e1 : g' = g := by simpa [Value.ownBlock] using he
    subst e1
    unfold Blk at h
    rw [h] at hh
    injection hh with hh
    injection hh with _ h2
    exact hne h2.symm
end
end Go.Grow
namespace Go.Proofs.YtdddkfpcbfgocaaGreat.Sb
open Go.RowKit Go.Over Go.Slb Go.Seg Go.Grow
set_option maxRecDepth 100000 in set_option maxHeartbeats 1600000 in
theorem objects_30 (o : Int) (a : Option Addr) (l : List S) (n c : Nat) (w : World) (H : Slabs w a l) (hn : l.length = n) (hm : n ≤ 1000000) :
    Calls Tryz.prog 9 #[.agg #[.int .i64 o, .slice a n c]] w fun e w' => ∃ v, e = .returned v ∧ OwnI w' w.heap.size v (if check o l = 0 then objs o true l else []) ∧ Below w.heap.size w w' := by
  have HN := Lib.hid hn
  obtain ⟨w1, hw1⟩ : ∃ w1, w1 = w.alloc (.cells #[.int .i64 o, .slice a n c] 31) := ⟨_, rfl⟩
  obtain ⟨k0, k1⟩ := box_cells w (.int .i64 o) (.slice a n c) 31
  have B1 := below_box w (.cells #[.int .i64 o, .slice a n c] 31)
  rw [← hw1] at k0 k1 B1
  have H1 := H.below B1
  have hz1 : w.heap.size < w1.heap.size := by rw [hw1]; simp
  have HW := Lib.hid hw1; clear hw1
  have K0 := Lib.hid k0; have K1 := Lib.hid k1
  obtain ⟨E, hE⟩ : ∃ E, check o l = E := ⟨_, rfl⟩
  rw [hE]
  by_cases h0 : E = 0
  · subst h0
    rw [if_pos rfl]
    have hS := small_ok (check_ok.1 hE)
    have HE := Lib.hid hE; clear hE
    obtain ⟨R, hR⟩ : ∃ R, objs o true l = R := ⟨_, rfl⟩
    rw [hR]
    have HR := Lib.hid hR; clear hR
    have hn1000 : n ≤ 1000 := by rw [← hn]; exact hS.n
    clear hn
    go_enter Tryz.func9, Tryz.ntmps9
    go_wp2_with fail
    rw [← HW.out]
    clear HW k0 k1
    refine (check_16 o a l n c _ H1 HN.out hm).mono ?_
    rintro e w2 ⟨rfl, hb2⟩
    rw [HE.out]
    have c1 := cell_later hb2 K1.out
    go_wp2
    go_loopg [3, 14] n (fun g v0 i0 wr => ∃ (i m : Nat) (D : List Int) (v : Value), i + g = n ∧ v = v0 ∧ i0 = .int .i64 i ∧ D.length = m ∧ m ≤ i * 40 ∧ R = D ++ objs o true (l.drop i) ∧ OwnI wr w1.heap.size v D ∧ Below w1.heap.size w1 wr)
    case atStart => exact ⟨0, 0, [], _, by omega, rfl, rfl, rfl, by omega, by rw [← HR.out]; rfl, World.ownsRow_nil _ _ _ _, hb2⟩
    case round =>
      clear c1 hb2
      obtain ⟨i, m, D, v, hg, rfl, rfl, hD, hm', hRD, hO, hb⟩ := hrel
      have HD := Lib.hid hD; have HRD := Lib.hid hRD
      clear hD hRD
      cases gk with
      | zero =>
        obtain rfl : i = n := by omega
        have HX := Lib.hid (show D = R by rw [HRD.out, List.drop_eq_nil_of_le (by rw [HN.out]; exact Nat.le_refl _)]; simp [objs])
        clear hg
        go_wp2
        go_ret
        exact ⟨_, rfl, by rw [← HX.out]; exact own_weaken hO (by omega), below_then B1 hb⟩
      | succ g =>
        have hin : i < n := by omega
        obtain ⟨⟨f, u⟩, hs⟩ := get_some HN.out hin
        have hfr := hS.fr _ (List.mem_of_getElem? hs)
        have hul := hS.len _ (List.mem_of_getElem? hs)
        have ho0 := hS.o0
        have ho1 := hS.o1
        have HRD2 := Lib.hid (HRD.out.trans (by rw [objs_drop hs]))
        obtain ⟨b, off, rfl, hc⟩ := H1 (by rw [HN.out]; omega)
        obtain ⟨s0, a', c', s1, hc1, hc2, hc3, hf⟩ := hc i _ hs
        obtain ⟨um, hmm⟩ : ∃ m, u.length = m := ⟨_, rfl⟩
        simp only [hmm] at s0 s1 hc1 hul hfr
        obtain ⟨p, hp⟩ : ∃ p : Int, f * o = p := ⟨_, rfl⟩
        have hpb := mul_small hfr.1 hfr.2 ho0 ho1
        rw [hp] at hpb
        obtain ⟨hp0, hp1⟩ := hpb
        have s0 := cell_later hb s0
        have s1 := cell_later hb s1
        obtain ⟨w2, hw2⟩ : ∃ w2, w2 = wr.alloc (.cells #[.int .i64 f, .slice a' um c'] 53) := ⟨_, rfl⟩
        have hJ := Blk.new wr 53 #[.int .i64 f, .slice a' um c'] [.int .i64 f, .slice a' um c'] rfl
        have hO2 : OwnI (wr.alloc (.cells #[.int .i64 f, .slice a' um c'] 53)) w1.heap.size v D := World.ownsRow.alloc hO _
        have hb2 := below_alloc hb (.cells #[.int .i64 f, .slice a' um c'] 53)
        rw [← hw2] at hJ hO2 hb2
        have j1 := hJ.cell 1
        have HW2 := Lib.hid hw2
        have HM := Lib.hid hmm; have HG := Lib.hid hg; have HP := Lib.hid hp
        clear hmm hg hs hc hp hw2 hO
        go_wp2
        rw [← HW2.out]
        clear s0 s1 HW2
        go_loopg [3, 21] um (fun g2 v0 i0 wi => ∃ (j m2 : Nat) (D2 : List Int) (v : Value), j + g2 = um ∧ v = v0 ∧ i0 = .int .i64 j ∧ D2.length = m2 ∧ m2 ≤ j ∧ offs f o true 0 u = D2 ++ offs f o true j (u.drop j) ∧ OwnI wi w1.heap.size v (D ++ D2) ∧ Below w1.heap.size w1 wi ∧ Blk wi wr.heap.size 53 [.int .i64 f, .slice a' um c'])
        case atStart => exact ⟨0, 0, [], _, by omega, rfl, rfl, rfl, by omega, rfl, by rw [List.append_nil]; exact hO2, hb2, hJ⟩
        case round =>
          clear hO2 hb2 hJ j1 hb
          obtain ⟨j, m2, D2, v, hj, rfl, rfl, hD2, hm2, hcu, hO, hb, hJ⟩ := hrel
          cases gk with
          | zero =>
            obtain rfl : j = um := by omega
            have HC := Lib.hid (show offs f o true 0 u = D2 by rw [hcu, List.drop_eq_nil_of_le (by rw [HM.out]; exact Nat.le_refl _)]; simp [offs])
            have HD2 := Lib.hid hD2
            clear hj hcu hD2
            go_wp2
            go_roundg g
            case rel => exact ⟨i + 1, m + m2, D ++ D2, _, by have := HG.out; omega, rfl, by go_num, by rw [List.length_append, HD.out, HD2.out], by omega, by rw [HRD2.out]; simp only [HC.out, List.append_assoc], hO, hb⟩
            case measure => omega
          | succ g2 =>
            have hjm : j < um := by omega
            have c0 := cell_later hb K0.out
            have j0 := hJ.cell 0
            obtain ⟨b2, off2, rfl, hfc⟩ := (hf.below hb) (by rw [HM.out]; omega)
            have c2 := hfc j (by rw [HM.out]; exact hjm)
            rw [offs_drop HM.out hjm] at hcu
            obtain ⟨x, hx⟩ : ∃ x, u.getD j false = x := ⟨_, rfl⟩
            rw [hx] at c2 hcu
            have HC := Lib.hid hcu; have HJ := Lib.hid hj; have HD2 := Lib.hid hD2
            clear hcu hj hfc hx hD2
            cases x
            · go_wp2
              go_roundg g2
              case rel => exact ⟨j + 1, m2, D2, _, by have := HJ.out; omega, rfl, by go_num, HD2.out, by omega, by have := HC.out; rw [if_neg (by decide)] at this; simpa using this, hO, hb, hJ⟩
              case measure => omega
            · have hp := HP.out
              go_wp2_with (at_builtin; refine wpList_append_k K31 rfl (.tmp 27) (.tmp 35) rfl _ _ _ rfl (World.ownsRow.alloc hO _) _ 1 1 _ rfl (src_new wr #[.int .i64 (p + j)] 3 1 1 1 rfl (by simp [Value.oneCell'])) ?c1 ?c2 ?_)
              case c1 => first | (rw [List.length_append, HD.out, HD2.out]; omega) | (rw [HD.out, HD2.out]; omega)
              case c2 => have := hb.size; simp; omega
              intro v3 w3 hown hgrow _
              have hb3 : Below w1.heap.size w1 w3 := (below_alloc hb _).grown hgrow (by have := hb.size; simp; omega) (fun q hq => (World.ownsRow.lt hO q hq).1)
              have hJ3 := (hJ.alloc (.cells #[.int .i64 (p + j)] 3)).grown hgrow (hJ.not_own hO (by decide))
              have hO3 : OwnI w3 w1.heap.size v3 (D ++ (D2 ++ [p + (j : Int)])) := by
                unfold OwnI
                simpa [Nat.add_assoc] using hown
              clear hown hgrow hO hb hJ hp c0 j0 c2
              go_wp2
              go_roundg g2
              case rel => exact ⟨j + 1, m2 + 1, D2 ++ [p + (j : Int)], _, by have := HJ.out; omega, rfl, by go_num, by rw [List.length_append, HD2.out]; rfl, by omega, by have := HC.out; simp only [if_true] at this; rw [this, HP.out]; simp, hO3, hb3, hJ3⟩
              case measure => omega
  · rw [if_neg h0]
    have hne : (E != 0) = true := by simpa using h0
    have HR := Lib.hid hE; clear hE hn h0
    go_enter Tryz.func9, Tryz.ntmps9
    go_wp2_with fail
    rw [← HW.out]
    clear HW k0 k1
    refine (check_16 o a l n c _ H1 HN.out hm).mono ?_
    rintro e w2 ⟨rfl, hb2⟩
    rw [HR.out]
    go_wp2
    go_ret
    exact ⟨_, rfl, World.ownsRow_nil _ _ _ _, below_then B1 hb2⟩
end Go.Proofs.YtdddkfpcbfgocaaGreat.Sb
namespace Go.Proofs.YtdddkfpcbfgocaaGreat.Sb
open Go.RowKit Go.Over Go.Slb Go.Seg Go.Grow
theorem need_ceil {o : Int} {l : List S} {N F : Int} (ho : 1 ≤ o) (hF : free o l = F) (hc : check o l = 0) (h1 : ¬ N < 1) (h2 : ¬ N ≤ F) : needL o l N = (N - F) / o + if 0 < (N - F) % o then 1 else 0 := by
  rw [need_yes (by rw [hF]; omega), hF, ceil_eq ho]
set_option maxRecDepth 100000 in set_option maxHeartbeats 1600000 in
theorem need_29 (o : Int) (a : Option Addr) (l : List S) (n c : Nat) (N : Int) (w : World) (H : Slabs w a l) (hn : l.length = n) (hm : n ≤ 1000000) (hN1 : -9223372036854775808 ≤ N) (hN2 : N ≤ 9223372036854775807) :
    Calls Tryz.prog 78 #[.agg #[.int .i64 o, .slice a n c], .int .i64 N] w fun e w' => e = .returned (.int .i64 (needL o l N)) ∧ Below w.heap.size w w' := by
  have HN := Lib.hid hn
  obtain ⟨w1, hw1⟩ : ∃ w1, w1 = w.alloc (.cells #[.int .i64 o, .slice a n c] 31) := ⟨_, rfl⟩
  obtain ⟨k0, k1⟩ := box_cells w (.int .i64 o) (.slice a n c) 31
  have B1 := below_box w (.cells #[.int .i64 o, .slice a n c] 31)
  rw [← hw1] at k0 k1 B1
  have H1 := H.below B1
  have hz1 : w.heap.size < w1.heap.size := by rw [hw1]; simp
  have HW := Lib.hid hw1; clear hw1
  have K0 := Lib.hid k0; have K1 := Lib.hid k1
  obtain ⟨R, hR⟩ : ∃ R, check o l = R := ⟨_, rfl⟩
  obtain ⟨V, hV⟩ : ∃ V, needL o l N = V := ⟨_, rfl⟩
  obtain ⟨A, hA⟩ : ∃ A, acc o l = A := ⟨_, rfl⟩
  rw [hV]
  have HA := Lib.hid hA
  clear hn
  by_cases h0 : R = 0
  · subst h0
    have hok := check_ok.1 hR
    have hfb := free_bound hok
    have hac := acc_free hR
    have ho1 := hok.o1
    have ho2 := hok.o2
    obtain ⟨F, hF⟩ : ∃ F, free o l = F := ⟨_, rfl⟩
    obtain ⟨U, hU⟩ : ∃ U, used l = U := ⟨_, rfl⟩
    rw [hF] at hfb
    rw [hF, hU, HN.out, hA] at hac
    subst hac
    have HR := Lib.hid hR; have HF := Lib.hid hF; have HV := Lib.hid hV
    clear hF hU hok hA hV
    go_enter Tryz.func78, Tryz.ntmps78
    go_wp2_with fail
    rw [← HW.out]
    clear HW k0 k1 hR
    refine (account_27 o a l n c _ H1 HN.out hm).mono ?_
    rintro e w2 ⟨rfl, hb2⟩
    rw [HA.out]
    have c0 := cell_later hb2 K0.out
    have c1 := cell_later hb2 K1.out
    by_cases h1 : N < 1
    · have HE := Lib.hid (show (0 : Int) = V by rw [← HV.out, need_no (.inl h1)])
      go_wp2
      go_ret
      exact ⟨ret_int HE.out, below_then B1 hb2⟩
    · go_wp2_with fail
      refine (check_16 o a l n c _ (H1.below hb2) HN.out hm).mono ?_
      rintro e w3 ⟨rfl, hb3⟩
      rw [HR.out]
      have hb := below_then B1 (below_then hb2 hb3)
      have c3 := cell_later (below_then hb2 hb3) K0.out
      clear hb2 hb3 c0 c1
      by_cases h2 : N ≤ F
      · have HE := Lib.hid (show (0 : Int) = V by rw [← HV.out, need_no (.inr (.inr (by rw [HF.out]; exact h2)))])
        go_wp2
        go_ret
        exact ⟨ret_int HE.out, hb⟩
      · have HE := Lib.hid (show (N - F) / o + (if 0 < (N - F) % o then 1 else 0) = V by rw [← HV.out, need_ceil ho1 HF.out HR.out (by omega) (by omega)])
        obtain ⟨q, hq⟩ : ∃ q, (N - F) / o = q := ⟨_, rfl⟩
        obtain ⟨r, hr⟩ : ∃ r, (N - F) % o = r := ⟨_, rfl⟩
        have hq0 : 0 ≤ q := by rw [← hq]; exact Int.ediv_nonneg (by omega) (by omega)
        have hq1 : q ≤ N - F := by rw [← hq]; exact Int.ediv_le_self _ (by omega)
        have hq3 : 0 < r → q < N - F := by
          intro hr0
          have h3 := Int.emod_add_mul_ediv (N - F) o
          rw [hq, hr] at h3
          have h4 : q ≤ o * q := by
            have := Int.mul_le_mul_of_nonneg_right ho1 hq0
            omega
          omega
        have hq2 : (N - F).tdiv o = q := by rw [Int.tdiv_eq_ediv_of_nonneg (by omega)]; exact hq
        have hr2 : (N - F).tmod o = r := by rw [Int.tmod_eq_emod_of_nonneg (by omega)]; exact hr
        have hr0 : 0 ≤ r := by rw [← hr]; exact Int.emod_nonneg _ (by omega)
        rw [hq, hr] at HE
        have hoz : (o == 0) = false := by simp; omega
        by_cases hrp : 0 < r
        · have HE2 := Lib.hid (show q + 1 = V by rw [← HE.out, if_pos hrp])
          have hq4 := hq3 hrp
          clear hq3
          go_wp2
          go_ret
          exact ⟨ret_int HE2.out, hb⟩
        · have HE2 := Lib.hid (show q = V by rw [← HE.out, if_neg hrp]; omega)
          clear hq3
          go_wp2
          go_ret
          exact ⟨ret_int HE2.out, hb⟩
  · rw [need_no (.inr (.inl (by rw [hR]; exact h0)))] at hV
    have hac := acc_no (show ¬ check o l = 0 by rw [hR]; exact h0)
    rw [hA] at hac
    subst hac
    have hne : (R != 0) = true := by simpa using h0
    have HR := Lib.hid hR; have HV := Lib.hid hV
    clear hR hV h0 hA
    go_enter Tryz.func78, Tryz.ntmps78
    go_wp2_with fail
    rw [← HW.out]
    clear HW k0 k1
    refine (account_27 o a l n c _ H1 HN.out hm).mono ?_
    rintro e w2 ⟨rfl, hb2⟩
    rw [HA.out]
    have c0 := cell_later hb2 K0.out
    have c1 := cell_later hb2 K1.out
    by_cases h1 : N < 1
    · go_wp2
      go_ret
      exact ⟨ret_int HV.out, below_then B1 hb2⟩
    · go_wp2_with fail
      refine (check_16 o a l n c _ (H1.below hb2) HN.out hm).mono ?_
      rintro e w3 ⟨rfl, hb3⟩
      rw [HR.out]
      have hb := below_then B1 (below_then hb2 hb3)
      clear hb2 hb3 c0 c1
      go_wp2
      go_ret
      exact ⟨ret_int HV.out, hb⟩
end Go.Proofs.YtdddkfpcbfgocaaGreat.Sb
namespace Go.Grow
open Go.RowKit Go.Over
/-- A row overwritten from place o on. -/
def lay (L : List Value) (o : Nat) (cs : List Value) : List Value := L.take o ++ cs ++ L.drop (o + cs.length)
theorem lay_len {L : List Value} {o : Nat} {cs : List Value} (h : o + cs.length ≤ L.length) : (lay L o cs).length = L.length := by
  simp [lay]; omega
theorem blk_setRow {w : World} {g : Nat} {T : TypeId} {cur new : List Value} (h : Blk w g T cur) : Blk (w.setRow g new.toArray) g T new ∧ w.grownBy (w.setRow g new.toArray) (some g) := by
  refine ⟨setRow_heap w g _ _ T _ h, rfl, rfl, rfl, by simp [World.setRow], fun k _ hk => setRow_other w g k _ (fun e => hk (by rw [e]))⟩
section
variable {P : Program} {t e : TypeId} {size bytes : Nat}
theorem run_copy_k (K : Kind P t e size bytes) {w : World} (ty : TypeId) (g o dLen dCap : Nat) (a : Addr) (sLen sCap : Nat) (cur : List Value) (T : TypeId) (cs : List Value) (hg : Blk w g T cur) (hn : cs.length = Nat.min sLen dLen * size)
    (hsrc : ∀ j v, cs[j]? = some v → w.cell? (a.add j) = some v) (hfit : o + cs.length ≤ cur.length) (h1 : ∀ v ∈ cs, v.oneCell' = true) :
    ∃ w', (Builtin.copy_ #[t, t] ty #[.slice (some ⟨g, o, none⟩) dLen dCap, .slice (some a) sLen sCap]).run P w = .ok (goInt (Nat.min sLen dLen)) w' ∧ Blk w' g T (lay cur o cs) ∧ w.grownBy w' (some g) := by
  obtain ⟨i, z, ht, hi, hz, hz1, hz2, hzs, hsz, hby⟩ := K
  have hl := run_loadCells_list (P := P) w a cs hsrc
  have hst := run_storeCells_at P g o T cs 0 cur.toArray w hg (by simpa using hfit) h1
  refine ⟨_, ?_, blk_setRow hg⟩
  simp only [Nat.add_zero] at hst
  simp [Builtin.copy_, run_underlying ht, Builtin.lenOf, Builtin.firstCells, sizeOf, typeInfo, hi, hz1, ← hn, hl, hst, lay]
theorem wpList_copy_k (K : Kind P t e size bytes) {w : World} {ops : Array Oper} {rest : List Oper} {o : Oper} {a : Act} {Q : Exit → Act → World → Prop} (hgd : o.guard = none) (d s : Operand)
    (ho : o.op = .call { callee := .builtin .copy, args := #[d, s], argTypes := #[t, t] })
    (g off dLen dCap : Nat) (ad : Addr) (sLen sCap : Nat) (hd : a.eval d = .slice (some ⟨g, off, none⟩) dLen dCap) (hs : a.eval s = .slice (some ad) sLen sCap)
    (cur : List Value) (T : TypeId) (cs : List Value) (hg : Blk w g T cur) (hn : cs.length = Nat.min sLen dLen * size)
    (hsrc : ∀ j v, cs[j]? = some v → w.cell? (ad.add j) = some v) (hfit : off + cs.length ≤ cur.length) (h1 : ∀ v ∈ cs, v.oneCell' = true)
    (h : ∀ w', Blk w' g T (lay cur off cs) → w.grownBy w' (some g) → wpList P ops Q rest (a.put o.dst (goInt (Nat.min sLen dLen))) w') : wpList P ops Q (o :: rest) a w := by
  refine wpList_plain hgd fun KK hK => ?_
  obtain ⟨w', hr, h2, h3⟩ := run_copy_k K o.type g off dLen dCap ad sLen sCap cur T cs hg hn hsrc hfit h1
  unfold Oper.wp execOp
  simp only [ho, resolve, invoke, builtin, Sem.run_bind, Sem.run_pure, Result.andThen_ok, List.map_toArray, List.map_cons, List.map_nil, hd, hs, hr]
  exact hK _ _ (h w' h2 h3)
/-- The cells of n zero values. -/
def zeros (z : Value) (n : Nat) : List Value := (Builtin.zeroCells z.cells n).toList
theorem wpList_clear_k (ht : P.underlying t = some (.slice e)) (hi : ∃ i z, P.info? e = some i ∧ i.zero = some z ∧ z.cells.size = size ∧ ∀ v ∈ z.cells.toList, v.oneCell' = true) {w : World} {ops : Array Oper} {rest : List Oper} {o : Oper} {a : Act} {Q : Exit → Act → World → Prop} (hgd : o.guard = none) (s : Operand)
    (ho : o.op = .call { callee := .builtin .clear, args := #[s], argTypes := #[t] })
    (g off n c : Nat) (hs : a.eval s = .slice (some ⟨g, off, none⟩) n c) (hn0 : 0 < n)
    (cur : List Value) (T : TypeId) (hg : Blk w g T cur) (hfit : off + n * size ≤ cur.length)
    (h : ∀ w' new, Blk w' g T new → new.length = cur.length → new.take off = cur.take off → w.grownBy w' (some g) → wpList P ops Q rest (a.put o.dst (.tuple #[])) w') : wpList P ops Q (o :: rest) a w := by
  obtain ⟨i, z, hi, hz, hzs, hz1⟩ := hi
  refine wpList_plain hgd fun KK hK => ?_
  have hlen : (zeros z n).length = n * size := by simp [zeros, Builtin.zeroCells, hzs]
  have h1 : ∀ v ∈ zeros z n, v.oneCell' = true := by
    intro v hv
    simp only [zeros, Builtin.zeroCells, Array.toList_map, List.mem_map] at hv
    obtain ⟨j, hj, rfl⟩ := hv
    have hj2 : j < n * size := by simpa [hzs] using hj
    have hpos : 0 < z.cells.size := by
      rcases Nat.eq_zero_or_pos z.cells.size with h0 | h0
      · rw [← hzs, h0, Nat.mul_zero] at hj2; omega
      · exact h0
    have hlt : j % z.cells.size < z.cells.size := Nat.mod_lt _ hpos
    rw [getElem!_pos z.cells (j % z.cells.size) hlt]
    exact hz1 _ (by simp)
  have hst := run_storeCells_at P g off T (zeros z n) 0 cur.toArray w hg (by rw [hlen]; simpa using hfit) h1
  simp only [Nat.add_zero] at hst
  obtain ⟨n, rfl⟩ : ∃ k, n = k + 1 := ⟨n - 1, by omega⟩
  have hr : (Builtin.clear_ #[t] o.type #[.slice (some ⟨g, off, none⟩) (n + 1) c]).run P w = .ok (.tuple #[]) (w.setRow g (lay cur off (zeros z (n + 1))).toArray) := by
    have hv : (zeroValue e).run P w = .ok z w := by simp [zeroValue, typeInfo, hi, hz]
    have hst2 : (storeCells ⟨g, off, none⟩ (Builtin.zeroCells z.cells (n + 1)).toList 0).run P w = .ok () (w.setRow g (lay cur off (zeros z (n + 1))).toArray) := hst
    simp [Builtin.clear_, run_underlying ht, hv, hst2]
  obtain ⟨q1, q2⟩ := blk_setRow (new := lay cur off (zeros z (n + 1))) hg
  have hln := lay_len (L := cur) (o := off) (cs := zeros z (n + 1)) (by rw [hlen]; exact hfit)
  have htk : (lay cur off (zeros z (n + 1))).take off = cur.take off := by
    have : off ≤ cur.length := by omega
    simp [lay, List.take_append, List.take_take]
    omega
  unfold Oper.wp execOp
  simp only [ho, resolve, invoke, builtin, Sem.run_bind, Sem.run_pure, Result.andThen_ok, List.map_toArray, List.map_cons, List.map_nil, hs, hr]
  exact hK _ _ (h _ _ q1 hln htk q2)
/-- append within the capacity. -/
theorem wpList_append_room_k (K : Kind P t e size bytes) {w : World} {ops : Array Oper} {rest : List Oper} {o : Oper} {a : Act} {Q : Exit → Act → World → Prop} (hgd : o.guard = none) (s x : Operand)
    (ho : o.op = .call { callee := .builtin .append, args := #[s, x], argTypes := #[t, t] })
    (g n cap : Nat) (ad : Addr) (m c : Nat) (hs : a.eval s = .slice (some ⟨g, 0, none⟩) n cap) (hx : a.eval x = .slice (some ad) m c)
    (cur : List Value) (hg : Blk w g e cur) (news : List Value) (hl : news.length = m * size) (hnews : ∀ j u, news[j]? = some u → w.cell? (ad.add j) = some u) (h1 : ∀ u ∈ news, u.oneCell' = true)
    (hroom : n + m ≤ cap) (hcap : cur.length = cap * size)
    (h : ∀ w', Blk w' g e (lay cur (n * size) news) → w.grownBy w' (some g) → wpList P ops Q rest (a.put o.dst (.slice (some ⟨g, 0, none⟩) (n + m) cap)) w') : wpList P ops Q (o :: rest) a w := by
  obtain ⟨i, z, ht, hi, hz, hz1, hz2, hzs, hsz, hby⟩ := K
  refine wpList_plain hgd fun KK hK => ?_
  have hfit : n * i.size + news.length ≤ cur.toArray.size := by
    simp only [List.size_toArray]
    rw [hl, hcap, hz1, ← Nat.add_mul]; exact Nat.mul_le_mul_right _ hroom
  have hr := run_append_room (P := P) w t o.type e i ht hi g n cap cur.toArray hg ad m c news (by rw [hz1]; exact hl) hnews h1 hroom hfit
  obtain ⟨q1, q2⟩ := blk_setRow (new := lay cur (n * size) news) hg
  unfold Oper.wp execOp
  simp only [ho, resolve, invoke, builtin, Sem.run_bind, Sem.run_pure, Result.andThen_ok, List.map_toArray, List.map_cons, List.map_nil, hs, hx, hr]
  refine hK _ _ ?_
  have e1 : (cur.toArray.toList.take (n * i.size) ++ news ++ cur.toArray.toList.drop (n * i.size + news.length)).toArray = (lay cur (n * size) news).toArray := by
    rw [hz1]; simp [lay]
  first
    | (rw [e1]; exact h _ q1 q2)
    | (simp only [hz1] at *; exact h _ q1 q2)
/-- append of a make, beyond the capacity: a new row. -/
theorem wpList_append_zeros_k (K : Kind P t e size bytes) {w : World} {ops : Array Oper} {rest : List Oper} {o : Oper} {a : Act} {Q : Exit → Act → World → Prop} (hgd : o.guard = none) (s x : Operand) (tn : TypeId) (htn : P.underlying tn = some (.int .i64))
    (ho : o.op = .call { callee := .builtin .append, args := #[s, x], argTypes := #[t, tn] })
    (ad : Addr) (n cap k : Nat) (hs : a.eval s = .slice (some ad) n cap) (hx : a.eval x = .int .i64 (k : Nat))
    (olds : List Value) (hl : olds.length = n * size) (hold : ∀ j u, olds[j]? = some u → w.cell? (ad.add j) = some u)
    (hk : 0 < k) (hcap : cap < n + k) (hlen : n + k ≤ 1000000)
    (h : ∀ w' G zs, Blk w' w.heap.size e (olds ++ zs) → olds.length + zs.length = G * size → n + k ≤ G → G ≤ maxLen → w.grownBy w' none → w.heap.size < w'.heap.size →
      wpList P ops Q rest (a.put o.dst (.slice (some ⟨w.heap.size, 0, none⟩) (n + k) G)) w') : wpList P ops Q (o :: rest) a w := by
  obtain ⟨i, z, ht, hi, hz, hz1, hz2, hzs, hsz, hby⟩ := K
  have hb : ∀ q, q ≤ 1000000 → q * i.bytes ≤ 1000000000 := fun q hq => by
    rw [hz2]; exact Nat.le_trans (Nat.mul_le_mul hq hby) (by decide)
  refine wpList_plain hgd fun KK hK => ?_
  have hf : (Builtin.firstCells i.size n (.slice (some ad) n cap)).run P w.drew = .ok olds.toArray w.drew := by
    rw [hz1]
    exact run_firstCells_some w.drew size n ad n cap olds hl hold
  have hr := Lib.run_append_grow_zeros w t tn o.type e i z .i64 .i64 ht htn hi hz (some ad) n cap olds hf k hk (by omega) hcap (by omega) (by have := hb k (by omega); omega) (growslice_fits (by omega) (by have := hb (n + k) hlen; omega))
  have hG1 : n + k ≤ grownCap w (n + k) cap e := grownCap_ge w _ _ _
  have hG2 : grownCap w (n + k) cap e ≤ maxLen := grownCap_le_maxLen w (n + k) cap e (by unfold maxLen; omega)
  obtain ⟨G, hG⟩ : ∃ G, grownCap w (n + k) cap e = G := ⟨_, rfl⟩
  rw [hG] at hr hG1 hG2
  unfold Oper.wp execOp
  simp only [ho, resolve, invoke, builtin, Sem.run_bind, Sem.run_pure, Result.andThen_ok, List.map_toArray, List.map_cons, List.map_nil, hs, hx, hr]
  refine hK _ _ (h _ G ((Builtin.zeroCells z.cells k).toList ++ (Builtin.zeroCells z.cells (G - (n + k))).toList) ?_ ?_ hG1 hG2 ?_ ?_)
  · refine Blk.new w.drew e _ _ ?_
    apply Array.ext'
    simp
  · simp only [List.length_append, Array.length_toList, Builtin.zeroCells, Array.size_map, Array.size_range, hzs, hl]
    rw [← Nat.add_mul, ← Nat.add_mul]
    congr 1; omega
  · exact ⟨rfl, rfl, rfl, by simp, fun q hq _ => Below.heap_alloc w.drew _ q hq⟩
  · simp
end
end Go.Grow
namespace Go.Proofs.YtdddkfpcbfgocaaGreat.Sb
open Go.RowKit Go.Over Go.Slb Go.Seg Go.Grow
theorem ins_here (cur xs : List Value) (i n : Nat) (x1 x2 : Value) (hi : i < n) (hx : xs.length = n * 2) (ht : cur.take (n * 2) = xs) :
    (lay (lay cur ((i + 1) * 2) (xs.drop (i * 2))) (i * 2) [x1, x2]).take ((n + 1) * 2) = xs.take (i * 2) ++ [x1, x2] ++ xs.drop (i * 2) := by
  have h1 : cur = xs ++ cur.drop (n * 2) := by rw [← ht, List.take_append_drop]
  have h2 : xs = xs.take (i * 2) ++ xs.drop (i * 2) := (List.take_append_drop _ _).symm
  obtain ⟨p, hp⟩ : ∃ p, xs.take (i * 2) = p := ⟨_, rfl⟩
  obtain ⟨q, hq⟩ : ∃ q, xs.drop (i * 2) = q := ⟨_, rfl⟩
  obtain ⟨r, hr⟩ : ∃ r, cur.drop (n * 2) = r := ⟨_, rfl⟩
  have lp : p.length = i * 2 := by rw [← hp, List.length_take]; omega
  have lq : q.length = (n - i) * 2 := by rw [← hq, List.length_drop]; omega
  rw [hp, hq] at h2 ⊢
  rw [h2, hr] at h1
  have e1 : lay cur ((i + 1) * 2) q = p ++ q.take 2 ++ q ++ r.drop 2 := by
    unfold lay
    rw [h1]
    have a1 : (p ++ q ++ r).take ((i + 1) * 2) = p ++ q.take 2 := by
      rw [List.append_assoc, List.take_append, List.take_of_length_le (by omega), List.take_append_of_le_length (by omega)]
      congr 2; omega
    have a2 : (p ++ q ++ r).drop ((i + 1) * 2 + q.length) = r.drop 2 := by
      rw [List.drop_append, List.drop_eq_nil_of_le (by simp; omega), List.nil_append]
      congr 1; simp; omega
    rw [a1, a2]
  have e2 : lay (p ++ q.take 2 ++ q ++ r.drop 2) (i * 2) [x1, x2] = p ++ [x1, x2] ++ q ++ r.drop 2 := by
    unfold lay
    have lq2 : (q.take 2).length = 2 := by rw [List.length_take]; omega
    have a1 : (p ++ q.take 2 ++ q ++ r.drop 2).take (i * 2) = p := by
      rw [List.append_assoc, List.append_assoc, List.take_append_of_le_length (by omega), List.take_of_length_le (by omega)]
    have a2 : (p ++ q.take 2 ++ q ++ r.drop 2).drop (i * 2 + [x1, x2].length) = q ++ r.drop 2 := by
      rw [List.append_assoc (p ++ q.take 2), List.drop_append, List.drop_eq_nil_of_le (by simp only [List.length_append, List.length_cons, List.length_nil]; omega), List.nil_append]
      rw [show i * 2 + [x1, x2].length - (p ++ q.take 2).length = 0 by simp only [List.length_append, List.length_cons, List.length_nil]; omega, List.drop_zero]
    rw [a1, a2]
    simp
  rw [e1, e2, List.append_assoc (p ++ [x1, x2]), ← List.append_assoc (p ++ [x1, x2]), List.take_append_of_le_length (by simp; omega), List.take_of_length_le (by simp; omega)]
theorem ins_there (xs zs : List Value) (i n : Nat) (x1 x2 : Value) (hi : i < n) (hx : xs.length = n * 2) :
    (lay (lay (xs.take (i * 2) ++ zs) (i * 2) [x1, x2]) ((i + 1) * 2) (xs.drop (i * 2))).take ((n + 1) * 2) = xs.take (i * 2) ++ [x1, x2] ++ xs.drop (i * 2) := by
  obtain ⟨p, hp⟩ : ∃ p, xs.take (i * 2) = p := ⟨_, rfl⟩
  obtain ⟨q, hq⟩ : ∃ q, xs.drop (i * 2) = q := ⟨_, rfl⟩
  have lp : p.length = i * 2 := by rw [← hp, List.length_take]; omega
  have lq : q.length = (n - i) * 2 := by rw [← hq, List.length_drop]; omega
  rw [hp]
  rw [hq]
  have e1 : lay (p ++ zs) (i * 2) [x1, x2] = p ++ [x1, x2] ++ zs.drop 2 := by
    unfold lay
    rw [List.take_append_of_le_length (by omega), List.take_of_length_le (by omega), List.drop_append, List.drop_eq_nil_of_le (by simp; omega), List.nil_append]
    congr 2; simp; omega
  have e2 : lay (p ++ [x1, x2] ++ zs.drop 2) ((i + 1) * 2) q = p ++ [x1, x2] ++ q ++ (zs.drop 2).drop q.length := by
    unfold lay
    rw [List.take_append_of_le_length (by simp; omega), List.take_of_length_le (by simp; omega), List.drop_append, List.drop_eq_nil_of_le (by simp; omega), List.nil_append]
    congr 2; simp; omega
  rw [e1, e2, List.take_append_of_le_length (by simp; omega), List.take_of_length_le (by simp; omega)]
/-- What Insert gives. -/
def InsAns (w : World) (base : Nat) (V : Value) (n : Nat) (ys : List Value) (e : Ending) (w' : World) : Prop :=
  ∃ V', e = .returned V' ∧ w'.ownsRow base 53 2 V' (n + 1) ys ∧ w.grownBy w' V.ownBlock ∧ (∀ k, V'.ownBlock = some k → V.ownBlock = some k ∨ w.heap.size ≤ k)
set_option maxRecDepth 100000 in set_option maxHeartbeats 1600000 in
theorem insert_end (base : Nat) (V : Value) (n : Nat) (xs : List Value) (x1 x2 : Value) (vb : Nat) (w : World) (hown : w.ownsRow base 53 2 V n xs) (hv : Blk w vb 53 [x1, x2]) (h1 : x1.oneCell' = true) (h2 : x2.oneCell' = true) (hn : n ≤ 100000) (hb : base ≤ w.heap.size) :
    Calls Tryz.prog 137 #[V, .int .i64 n, .slice (some ⟨vb, 0, none⟩) 1 1] w (InsAns w base V n (xs ++ [x1, x2])) := by
  obtain ⟨a, c, rfl, hnc, hcm, hz⟩ := own_form hown
  unfold maxLen at hcm
  have hsrc : Grow.Src w 2 (some ⟨vb, 0, none⟩) 1 1 [x1, x2] := by
    refine ⟨rfl, by simp [h1, h2], .inr ⟨_, rfl, fun j u hj => ?_⟩⟩
    rw [show (⟨vb, 0, none⟩ : Addr).add j = ⟨vb, j, none⟩ by unfold Addr.add; split <;> simp_all, hv.cell]
    exact hj
  have t0 : ((n : Int) == (n : Int)) = true := by simp
  go_enter Tryz.func137, Tryz.ntmps137
  go_wp2_with (at_builtin; refine wpList_append_k K22 rfl (.tmp 23) (.tmp 24) rfl _ n xs rfl hown _ 1 1 [x1, x2] rfl hsrc (by omega) hb ?_)
  all_goals
    intro V' w' ho hg hw
    go_wp2
    go_ret
    exact ⟨_, rfl, ho, by cases a <;> exact hg, by cases a <;> exact hw⟩
theorem row_open {w : World} {base n : Nat} {V : Value} {xs : List Value} (h : w.ownsRow base 53 2 V n xs) (hn : 0 < n) :
    ∃ g cap cur, V = .slice (some ⟨g, 0, none⟩) n cap ∧ base ≤ g ∧ Blk w g 53 cur ∧ n ≤ cap ∧ cap ≤ maxLen ∧ cur.length = cap * 2 ∧ cur.take (n * 2) = xs ∧ xs.length = n * 2 := by
  rcases h.2 with ⟨_, rfl⟩ | ⟨g, cap, cur, rfl, h1, h2, h3, h4, h5, h6⟩
  · omega
  · exact ⟨g, cap, cur.toList, rfl, h1, by unfold Blk; simpa using h2, h3, h4, by simpa using h5, h6, h.1⟩
theorem row_shut {w : World} {base n g cap : Nat} {cur xs : List Value} (hg : base ≤ g) (hb : Blk w g 53 cur) (hn : n ≤ cap) (hc : cap ≤ maxLen) (hl : cur.length = cap * 2) (ht : cur.take (n * 2) = xs) : w.ownsRow base 53 2 (.slice (some ⟨g, 0, none⟩) n cap) n xs := by
  refine ⟨by rw [← ht, List.length_take, hl]; omega, .inr ⟨g, cap, cur.toArray, rfl, hg, hb, hn, hc, by simpa using hl, by simpa using ht⟩⟩
theorem add_row (g o j : Nat) : (⟨g, o, none⟩ : Addr).add j = ⟨g, o + j, none⟩ := by unfold Addr.add; split <;> simp_all
theorem blk_src {w : World} {g o : Nat} {T : TypeId} {cur cs : List Value} (h : Blk w g T cur) (hc : ∀ j u, cs[j]? = some u → cur[o + j]? = some u) : ∀ j u, cs[j]? = some u → w.cell? ((⟨g, o, none⟩ : Addr).add j) = some u := by
  intro j u hj
  rw [add_row, h.cell]
  exact hc j u hj
theorem drop_src {cur xs : List Value} {k m : Nat} (ht : cur.take m = xs) : ∀ j u, (xs.drop k)[j]? = some u → cur[k + j]? = some u := by
  intro j u hj
  rw [List.getElem?_drop, ← ht, List.getElem?_take] at hj
  split at hj
  · exact hj
  · cases hj
theorem grown_trans {w w1 w2 : World} {row : Option Nat} (h : w.grownBy w1 row) (h' : w1.grownBy w2 row) : w.grownBy w2 row :=
  ⟨h'.os.trans h.os, h'.tape.trans h.tape, h'.output.trans h.output, Nat.le_trans h.size h'.size, fun k hk hne => (h'.block k (Nat.lt_of_lt_of_le hk h.size) hne).trans (h.block k hk hne)⟩
set_option maxRecDepth 100000 in set_option maxHeartbeats 1600000 in
theorem insert_room (base : Nat) (g n cap i : Nat) (cur xs : List Value) (x1 x2 : Value) (vb : Nat) (w : World) (hg : base ≤ g) (hB : Blk w g 53 cur) (hcl : cur.length = cap * 2) (hcm : cap ≤ maxLen) (ht : cur.take (n * 2) = xs) (hx : xs.length = n * 2) (h1c : ∀ u ∈ xs, u.oneCell' = true)
    (hv : Blk w vb 53 [x1, x2]) (h1 : x1.oneCell' = true) (h2 : x2.oneCell' = true) (hne : vb ≠ g) (hi : i < n) (hroom : n + 1 ≤ cap) (hn : n ≤ 100000) :
    Calls Tryz.prog 137 #[.slice (some ⟨g, 0, none⟩) n cap, .int .i64 i, .slice (some ⟨vb, 0, none⟩) 1 1] w (InsAns w base (.slice (some ⟨g, 0, none⟩) n cap) n (xs.take (i * 2) ++ [x1, x2] ++ xs.drop (i * 2))) := by
  unfold maxLen at hcm
  have hfin := Lib.hid (ins_here cur xs i n x1 x2 hi hx ht)
  have hcs := Lib.hid (show (xs.drop (i * 2)).length = (n - i) * 2 by rw [List.length_drop, hx]; omega)
  have hsrc := drop_src (k := i * 2) ht
  obtain ⟨q, hq⟩ : ∃ q, xs.drop (i * 2) = q := ⟨_, rfl⟩
  have h1q : ∀ u ∈ q, u.oneCell' = true := fun u hu => h1c u (by rw [← hq] at hu; exact List.mem_of_mem_drop hu)
  have hov : ∀ lb cb, (callFunc 173 #[.slice (some ⟨vb, 0, none⟩) 1 1, .slice (some ⟨g, (i + 1) * 2, none⟩) lb cb]).run Tryz.prog w = .ok (.value (.bool false)) w := fun lb cb => by
    have hs1 : w.shape? vb = some (53, 2) := by unfold Blk at hv; simp [World.shape?, hv]
    have hs2 : w.shape? g = some (53, cur.length) := by unfold Blk at hB; simp [World.shape?, hB]
    rw [run_callFunc_extern Tryz.func173 (by kernel_rfl) (by kernel_rfl) (by kernel_rfl) (e := Extern.SlicesOverlaps.overlaps #[29, 29] #[4]) (by kernel_rfl),
      Lib.run_overlaps_apart w 29 4 53 Tryz.underlying29 2 (by intro w; kernel_rfl) ⟨vb, 0, none⟩ ⟨g, (i + 1) * 2, none⟩ 1 1 lb cb hne 53 53 2 cur.length hs1 hs2 (by omega) (hv.frozen 0) (hv.frozen 2)]
    rfl
  have HSRC := Lib.hid hsrc
  have HT := Lib.hid ht; have HX := Lib.hid hx; have HQ := Lib.hid hq; have HCL := Lib.hid hcl; have H1C := Lib.hid h1c
  have t1 : ((i : Int) == (n : Int)) = false := by simp; omega
  have t2 : ¬ ((cap : Int) < (n : Int) + 1) := by omega
  clear hsrc ht hx hq hcl h1c
  go_enter Tryz.func137, Tryz.ntmps137
  go_wp2_with fail
  refine wp_region_segs (fun _ => True) [(true, 8), (false, 1)] (by kernel_rfl) (by kernel_rfl) trivial ?_
  intro W _ hWe
  have hBW : Blk W g 53 cur := by rw [hWe]; exact hB
  have hvW : Blk W vb 53 [x1, x2] := by rw [hWe]; exact hv
  have hgW : w.grownBy W (some g) := by rw [hWe]; exact ⟨rfl, rfl, rfl, Nat.le_refl _, fun _ _ _ => rfl⟩
  clear hWe hov
  simp only [wpSegs, List.take_succ_cons, List.take_zero, List.drop_succ_cons, List.drop_zero]
  have e1 : IntKind.i64.wrap ((i : Int) + 1) = (i : Int) + 1 := IntWalk.i64_in _ (by omega)
  have e3 : ((i : Int) + 1).toNat = i + 1 := by omega
  have e4 : (0 : Int) ≤ (i : Int) + 1 := by omega
  have e5 : (i : Int) + 1 ≤ (n : Int) + 1 := by omega
  have e6 : (i : Int) ≤ (n : Int) + 1 := by omega
  have e7 : ¬ cap = i + 1 := by omega
  have e8 : ¬ cap = i := by omega
  repeat (go_big_quiet_step (fail))
  refine wpQuiet_nil ?_
  clear e1 e3 e4 e5 e6
  refine wpList_copy_k K22 rfl (.tmp 73) (.tmp 76) rfl g ((i + 1) * 2) _ _ ⟨g, i * 2, none⟩ _ _ rfl rfl cur 53 (xs.drop (i * 2)) hBW ?c1 (blk_src hBW HSRC.out) ?c2 (by rw [HQ.out]; exact h1q) ?_
  case c1 => rw [hcs.out]; congr 1; simp only [Nat.min_def]; split <;> omega
  case c2 => rw [hcs.out, HCL.out]; omega
  intro w2 hB2 hg2
  have hv2 : Blk w2 vb 53 [x1, x2] := hvW.grown hg2 (by simpa using Ne.symm hne)
  have hgw2 : w.grownBy w2 (some g) := grown_trans hgW hg2
  refine wpList_nil ⟨hold_of (S0 := fun _ => True) trivial, NoPanic.normal ?_⟩
  simp only [Act.put, List.setIfInBounds_toArray, List.set_cons_succ, List.set_cons_zero]
  have hl2 := Lib.hid (show (lay cur ((i + 1) * 2) (xs.drop (i * 2))).length = cap * 2 by rw [lay_len (by rw [hcs.out, HCL.out]; omega), HCL.out])
  clear hBW hvW hgW hg2 hB hv
  go_wp2_with (refine wpList_copy_k K22 rfl (.tmp 80) (.tmp 81) rfl g (i * 2) _ _ ⟨vb, 0, none⟩ _ _ rfl rfl _ 53 [x1, x2] hB2 ?d1 (blk_src hv2 (by intro j u h; simpa using h)) ?d2 (by simp [h1, h2]) ?_)
  case d1 => simp only [Nat.min_def, List.length_cons, List.length_nil]; split <;> omega
  case d2 => rw [hl2.out]; simp; omega
  intro w3 hB3 hg3
  have hgw3 : w.grownBy w3 (some g) := grown_trans hgw2 hg3
  have hl3 := lay_len (L := lay cur ((i + 1) * 2) (xs.drop (i * 2))) (o := i * 2) (cs := [x1, x2]) (by rw [hl2.out]; simp; omega)
  have hown := row_shut (n := n + 1) hg hB3 (by omega) (by unfold maxLen; omega) (by rw [hl3, hl2.out]) hfin.out
  clear hB2 hg3 hgw2 hB3 hl3
  go_wp2
  go_ret
  exact ⟨_, rfl, hown, hgw3, fun k hk => .inl hk⟩
end Go.Proofs.YtdddkfpcbfgocaaGreat.Sb
