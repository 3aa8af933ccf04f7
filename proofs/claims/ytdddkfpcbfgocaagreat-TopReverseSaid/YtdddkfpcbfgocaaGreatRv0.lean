/- The frame of every law: what came in is read off as plain cells; a call that returns true and writes nothing that was there gives the row. A region that draws its order, walked in the order of the text: operations that only read (in whatever world of a class that the others keep) and operations that stand in a forced order. A region that draws its order, walked in an order of the prover's choice: operations that only read, in whatever world of a class that all others but the last keep; operations in a forced order; the last one free. A region that draws its order, where at one place two operations that are not alike in every world may come in either order: both are walked. The same fork where the last operation of the region is a forced one that waits for all others. A region that draws its order, walked along a plan: quiet operations, forced ones, forks of two, one in the other. Rows of a call's own that grow, at any element type: where the result of an append lies; a source that may be nil. A region that draws its order, whose operations only read old memory and whose calls only make new memory and hand back plain values: one walk of the text's order serves every order. The class of worlds is 'w and what is new'. A block of memory whose cells are known. Rows that are known whole, at any element size: copy, clear, append within the capacity, append of a make. The plain mathematics of a buddy system: free blocks that are valid are determined by the frames that they cover. The plain mathematics of a zone: free blocks of a range of frames. The plain mathematics of a zone: how many frames are free. The plain mathematics of an allocator: zones, and the caches of processors. -/
import Derived.WalkKit
import Derived.ProofKit
import Derived.OpenShut
import Derived.ShutString
import Derived.ChangeOld
import Derived.Below
import Derived.Deep.Slices
import Derived.SizedLaws
import Derived.Deep.QuietTactic
import Derived.BigQuiet
import Derived.Deep.RegionHeld3
import Derived.OwnWalk
import Derived.Laws.OwnMore
import Derived.Laws.Append
import Derived.Deep.Draws
import Derived.RegionTactic
import Derived.WalkSpells
import Derived.WalkLawsBesides
import Derived.Lib.Hide
import Derived.Laws.CopyOwn
import Derived.Lib.AppendZerosOnto
import Derived.Lib.Overlaps
namespace Go.Lift
open Go.ChangeShapes Go.WideShapes Go.ChangeAt Go.RowKit Go.Deep

/-- The cells 'cs' read as data of the type t, in w. -/
def Rd (P : Program) (w : World) (t : TypeId) (cs : List Value) : Prop :=
  ∃ (H : Type) (enc : TypeId × Value → H) (fuel : Nat) (x : DataW H × List MemPlace), DataW.trod enc P w 0 (fun _ => true) true fuel t cs = some x

section
variable {P : Program} {w : World} {t e : TypeId} {cs : List Value}
theorem Rd.int {k : IntKind} (h : Rd P w t cs) (ht : P.underlying t = some (.int k)) : ∃ n, cs = [.int k n] ∧ (Lit.int k n).wf = true := by
  obtain ⟨H, enc, fuel, x, h⟩ := h
  obtain ⟨n, h1, _, h2⟩ := DataW.trod_int ht h
  exact ⟨n, h1, h2⟩
theorem Rd.bool (h : Rd P w t cs) (ht : P.underlying t = some .bool) : ∃ b, cs = [.bool b] := by
  obtain ⟨H, enc, fuel, x, h⟩ := h
  obtain ⟨n, h1, _⟩ := DataW.trod_bool ht h
  exact ⟨n, h1⟩
theorem Rd.string (h : Rd P w t cs) (ht : P.underlying t = some .string) : ∃ s : ByteArray, cs = [.string s] ∧ s.size ≤ maxLen := by
  obtain ⟨H, enc, fuel, x, h⟩ := h
  obtain ⟨n, h1, _, h2⟩ := DataW.trod_string ht h
  exact ⟨n, h1, h2⟩
theorem Rd.struct {fs : Array Field} (h : Rd P w t cs) (ht : P.underlying t = some (.struct fs)) :
    cs.length = P.cellsOf t ∧ ∀ (i : Nat) (f : Field), fs[i]? = some f → Rd P w f.type ((cs.drop f.offset).take (P.cellsOf f.type)) := by
  obtain ⟨H, enc, fuel, x, h⟩ := h
  obtain ⟨xs, n, _, _, hl, hlen, hf⟩ := DataW.trod_struct ht h
  refine ⟨hl, fun i f hi => ?_⟩
  have hlt : i < fs.size := (Array.getElem?_eq_some_iff.1 hi).1
  exact ⟨H, enc, n, xs[i]'(by omega), by rw [hf i f hi]; exact List.getElem?_eq_getElem (by omega)⟩
theorem Rd.array {n : Nat} (h : Rd P w t cs) (ht : P.underlying t = some (.array n e)) :
    cs.length = P.cellsOf t ∧ ∀ (i : Nat), i < n → Rd P w e ((cs.drop (i * P.cellsOf e)).take (P.cellsOf e)) := by
  obtain ⟨H, enc, fuel, x, h⟩ := h
  obtain ⟨xs, m, _, _, hl, hlen, hf⟩ := DataW.trod_array ht h
  refine ⟨hl, fun i hi => ?_⟩
  exact ⟨H, enc, m, xs[i]'(by omega), by rw [hf i hi]; exact List.getElem?_eq_getElem (by omega)⟩
theorem Rd.slice (h : Rd P w t cs) (ht : P.underlying t = some (.slice e)) :
    cs = [.slice none 0 0] ∨ ∃ (a : Addr) (len cap : Nat), cs = [.slice (some a) len cap] ∧ len ≤ cap ∧ cap ≤ maxLen ∧
      ∀ i, i < cap → ∃ cs', cs'.length = P.cellsOf e ∧ (∀ j, j < P.cellsOf e → w.cell? ((a.add (i * P.cellsOf e)).add j) = cs'[j]?) ∧ Rd P w e cs' := by
  obtain ⟨H, enc, fuel, x, h⟩ := h
  rcases open_slice ht h with ⟨h0, _⟩ | ⟨a, len, cap, m, n, D, Pl, hcs, _, hl, hm, hmm, _, hi⟩
  · exact .inl h0
  · refine .inr ⟨a, len, cap, hcs, hl, hm, fun i hic => ?_⟩
    obtain ⟨cs', hc, hr⟩ := hi i (by rw [hmm]; exact hic)
    obtain ⟨_, h1, h2⟩ := World.cells?_some hc
    exact ⟨cs', h1, h2, H, enc, n, _, hr⟩
end

/-- What the walk is told of its arguments. -/
def Args (P : Program) (W : World) : List TypeId → List Value → Prop
  | [], [] => True
  | t :: ts, v :: vs => (∃ base, Value.okWide P W .any base t v) ∧ Rd P W t v.cells.toList ∧ Args P W ts vs
  | _, _ => False
theorem Args.nil {P : Program} {W : World} {vs : List Value} (h : Args P W [] vs) : vs = [] := by
  cases vs <;> simp [Args] at h ⊢
theorem Args.cons {P : Program} {W : World} {t : TypeId} {ts : List TypeId} {vs : List Value} (h : Args P W (t :: ts) vs) :
    ∃ v us, vs = v :: us ∧ (∃ base, Value.okWide P W .any base t v) ∧ Rd P W t v.cells.toList ∧ Args P W ts us := by
  cases vs with
  | nil => simp [Args] at h
  | cons v us => exact ⟨v, us, rfl, h⟩

section
variable {H : Type} {enc : TypeId × Value → H} {P : Program}
theorem args_of {W : World} {base : Nat} : ∀ {ts : List TypeId} {vs : List Value} {ds : List (DataW H)} {ps : List MemPlace}, DataW.TrodAll enc P W 0 (fun _ => true) true ts vs ds ps →
    (∀ (j : Nat) t v, ts[j]? = some t → vs[j]? = some v → Value.okWide P W .any base t v) → Args P W ts vs
  | [], vs, ds, ps, h, _ => by obtain ⟨rfl, _, _⟩ := trodAll_nil h; trivial
  | t :: ts, vs, ds, ps, h, hv => by
    obtain ⟨v, vs', d, ds', p, q, rfl, rfl, rfl, h0, h1⟩ := trodAll_cons h
    obtain ⟨fuel, hf⟩ := h0
    exact ⟨⟨base, hv 0 t v rfl rfl⟩, ⟨H, enc, fuel, _, hf⟩, args_of h1 fun j t v ht hv' => hv (j + 1) t v ht hv'⟩
theorem trodAll_stays (laid : laidOutB P = true) {W W' : World} (bel : Below W.heap.size W W') : ∀ {ts : List TypeId} {vs : List Value} {ds : List (DataW H)} {ps : List MemPlace},
    (∀ t ∈ ts, P.readableRec t = true ∧ t < P.types.size) → DataW.TrodAll enc P W 0 (fun _ => true) true ts vs ds ps → DataW.TrodAll enc P W' 0 (fun b => decide (b < W.heap.size)) true ts vs ds ps
  | [], vs, ds, ps, _, h => by obtain ⟨rfl, rfl, rfl⟩ := trodAll_nil h; rfl
  | t :: ts, vs, ds, ps, hr, h => by
    obtain ⟨v, vs', d, ds', p, q, rfl, rfl, rfl, h0, h1⟩ := trodAll_cons h
    have k0 := h0
    obtain ⟨m, hm⟩ := k0
    exact ⟨p, q, Below.trod laid (hr t (by simp)).1 (hr t (by simp)).2 h0 bel (DataW.trod_lt m _ _ _ hm), trodAll_stays laid bel (fun t ht => hr t (by simp [ht])) h1, rfl⟩
theorem trodAll_length {W : World} {base : Nat} {spare : Nat → Bool} {held : Bool} : ∀ {ts : List TypeId} {vs : List Value} {ds : List (DataW H)} {ps : List MemPlace}, DataW.TrodAll enc P W base spare held ts vs ds ps → ds.length = ts.length
  | [], vs, ds, ps, h => by obtain ⟨rfl, rfl, rfl⟩ := trodAll_nil h; rfl
  | t :: ts, vs, ds, ps, h => by
    obtain ⟨v, vs', d, ds', p, q, rfl, rfl, rfl, h0, h1⟩ := trodAll_cons h
    simp [trodAll_length h1]
end

theorem list2_of {α : Type} {l : List α} {x y : α} (h : l.length = 2) (h0 : (l.drop 0).take 1 = [x]) (h1 : (l.drop 1).take 1 = [y]) : l = [x, y] := by
  match l, h with
  | [a, b], _ => simp at h0 h1; simp [h0, h1]
theorem list3_of {α : Type} {l : List α} {x y z : α} (h : l.length = 3) (h0 : (l.drop 0).take 1 = [x]) (h1 : (l.drop 1).take 1 = [y]) (h2 : (l.drop 2).take 1 = [z]) : l = [x, y, z] := by
  match l, h with
  | [a, b, c], _ => simp at h0 h1 h2; simp [h0, h1, h2]
theorem list4_of {α : Type} {l : List α} {x y z u : α} (h : l.length = 4) (h0 : (l.drop 0).take 1 = [x]) (h1 : (l.drop 1).take 1 = [y]) (h2 : (l.drop 2).take 1 = [z]) (h3 : (l.drop 3).take 1 = [u]) : l = [x, y, z, u] := by
  match l, h with
  | [a, b, c, d], _ => simp at h0 h1 h2 h3; simp [h0, h1, h2, h3]
theorem arr_of_list {α : Type} {cs : Array α} {l : List α} (h : cs.toList = l) : cs = l.toArray := by rw [← h]
/-- A slice of ints that came in. -/
theorem Rd.ints {P : Program} {w : World} {t e : TypeId} {cs : List Value} {k : IntKind} (h : Rd P w t cs) (ht : P.underlying t = some (.slice e)) (he : P.underlying e = some (.int k)) (hc : P.cellsOf e = 1) :
    ∃ (a : Option Addr) (n c : Nat) (f : Nat → Int), cs = [.slice a n c] ∧ n ≤ c ∧ c ≤ maxLen ∧ (a = none → c = 0) ∧ (0 < n → ∃ b off, a = some ⟨b, off, none⟩ ∧ ∀ i, i < n → w.cell? ⟨b, off + i, none⟩ = some (.int k (f i))) ∧ (∀ i, n ≤ i → f i = 0) ∧ ∀ i, i < n → (Lit.int k (f i)).wf = true := by
  rcases h.slice ht with rfl | ⟨a, n, c, rfl, hn, hm, hi⟩
  · exact ⟨none, 0, 0, fun _ => 0, rfl, Nat.le_refl _, Nat.zero_le _, fun _ => rfl, fun h => by omega, fun _ _ => rfl, fun i h => by omega⟩
  · have key : ∀ i, ∃ x : Int, i < n → w.cell? (a.add i) = some (.int k x) ∧ (Lit.int k x).wf = true := by
      intro i
      by_cases h : i < n
      · obtain ⟨cs', h1, h2, h3⟩ := hi i (by omega)
        obtain ⟨x, rfl, wx⟩ := h3.int he
        have := h2 0 (by omega)
        rw [hc, Nat.mul_one] at this
        refine ⟨x, fun _ => ⟨?_, wx⟩⟩
        have e0 : (a.add i).add 0 = a.add i := by simp [Addr.add]
        rw [e0] at this
        simpa using this
      · exact ⟨0, fun h' => absurd h' h⟩
    obtain ⟨g, hg⟩ := Classical.axiomOfChoice key
    have hpos : ∀ i, i < n → (if i < n then g i else 0) = g i := fun i h => if_pos h
    refine ⟨some a, n, c, fun i => if i < n then g i else 0, rfl, hn, hm, (fun h => by cases h), fun h0 => ?_, fun i h => if_neg (by omega), fun i h => ?_⟩
    · obtain ⟨b, off, spot⟩ := a
      have hc0 := (hg 0 h0).1
      have hspot : spot = none := by simpa [Addr.add] using World.cell?_spot hc0
      subst hspot
      refine ⟨b, off, rfl, fun i hi => ?_⟩
      show _ = some (Value.int k (if i < n then g i else 0))
      rw [hpos i hi]
      have := (hg i hi).1
      rw [show (⟨b, off, none⟩ : Addr).add i = ⟨b, off + i, none⟩ by simp [Addr.add]] at this
      exact this
    · show (Lit.int k (if i < n then g i else 0)).wf = true
      rw [hpos i h]; exact (hg i h).2
/-- THE FRAME OF A LAW. -/
theorem law_lift {H : Type} {enc : TypeId × Value → H} {a : Assume} {C : Checked} {os : Os} {f : FuncId} {fn : Func} {s : ChangeSpec} {tb : TypeId}
    (own : ownKnob C.prog.godebug = none) (started : os.Started) (noInit : C.prog.inits.idxOf? f = none) (hfn : C.prog.funcs[f]? = some fn)
    (witness : ∃ (w : World) (tape : Tape) (i : Input), w.os = os ∧ (w.forCall tape i).Shaped C.prog ∧ i.vars = [] ∧ Input.okWide C.prog (w.forCall tape i) .any w.heap.size f i ∧
      s.pre6 enc C.prog fn [] false (w.forCall tape i).memory i.args ∧ a.holds C.prog (lone (Frame.enter C.prog f i.args .normal) [] (w.forCall tape i)))
    (laid : laidOutB C.prog = true) (hvars : s.vars = [])
    (hs : ∀ ds : List (DataW H), ds.length = fn.params.toList.length → s.fn H ds = { results := [.lit (.bool true)], args := ds })
    (hres : fn.resultTypes = #[tb]) (htb : C.prog.underlying tb = some .bool)
    (hrB : (fn.params.toList.all fun t => C.prog.readableRec t && decide (t < C.prog.types.size)) = true)
    (walk : ∀ (W : World) (vs : List Value), Args C.prog W fn.params.toList vs → Calls C.prog f vs.toArray W fun e w' => e = .returned (.bool true) ∧ Below W.heap.size W w') :
    ReturnsInHanded a C os f .any (s.pre6 enc C.prog fn [] false) (s.post enc C.prog fn false true false false) := by
  have hr : ∀ t ∈ fn.params.toList, C.prog.readableRec t = true ∧ t < C.prog.types.size := by
    intro t ht
    have := List.all_eq_true.1 hrB t ht
    simpa using this
  refine returnsInHanded_of_change own started noInit hfn witness ?_
  intro W base args ds gs before hval hW _ _
  have hW' := hW
  obtain ⟨p, q, hA, hV, rfl, hfz, hnd⟩ := hW
  rw [hvars] at hV
  obtain ⟨rfl, rfl⟩ := trodVars_none hV
  have hargs := args_of hA fun j t v ht hv => hval j t v (by simpa using ht) (by simpa using hv)
  have hlen := trodAll_length hA
  refine (walk W args.toList hargs).mono fun e W' ⟨he, bel⟩ => ?_
  subst he
  have e1 : s.fn H (ds ++ []) = { results := [.lit (.bool true)], args := ds } := by rw [List.append_nil]; exact hs ds hlen
  refine ⟨_, rfl, ds, [], _, [], p, [], hW', ?_, ?_, ?_, bel.frame _, fun h => by cases h⟩
  · rw [e1, hres]
    exact trodAll_mk1 (shut_bool htb _)
  · rw [e1]
    exact trodAll_stays laid bel hr hA
  · rw [e1, hvars]
    rfl
end Go.Lift
namespace Go.Seg
section
variable {P : Program} {ops : Array Oper} {md : Region.Mode} {S : World → Prop} {Q : Exit → Act → World → Prop}

theorem wpOp_of_yields {i : Nat} {o : Oper} {v : Value} {a : Act} {w : World} (hi : ops[i]? = some o) (hy : YieldsAt P ops w o v a) {K : Act → World → Prop} (h : K (a.put o.dst v) w) : wpOp P ops Q i K a w :=
  wpOp_of_stOp (K := fun a' => K a' w) (fun _ h => h) (hy.stOp hi h)

/-- An operation that commutes with oi is carried out; what is known of oi stays. -/
theorem wpOp_put {j : Nat} {oi oj : Oper} {v : Value} (hj : ops[j]? = some oj) (hap : oi.apart ops oj = true)
    (hsi : ∀ cs b, oi.op ≠ .select cs b) (hsj : ∀ cs b, oj.op ≠ .select cs b)
    (hQ : ∀ c a d v w, Q (.panic c) (Act.put a d v) w → Q (.panic c) a w) {K : Act → World → Prop} {a : Act} {w : World}
    (hy : ∀ w, S w → YieldsAt P ops w oi v a) (h : wpOp P ops Q j K (a.put oi.dst v) w) :
    wpOp P ops Q j (fun a' w' => (∀ w, S w → YieldsAt P ops w oi v a') ∧ K (a'.put oi.dst v) w') a w := by
  obtain ⟨h1, h2, h3⟩ := Oper.apart_spec hap
  have keep : ∀ (a : Act), (∀ w, S w → YieldsAt P ops w oi v a) → ∀ u, (∀ w, S w → YieldsAt P ops w oi v (a.put oj.dst u)) := fun a hy u w hw =>
    (hy w hw).of_same (execOp_put oi hsi a oj.dst u h3) (wanted_put oi a oj.dst u h3)
  have keepD : ∀ d, (∀ w, S w → YieldsAt P ops w oi v { a with defers := d :: a.defers }) := fun d w hw => (hy w hw).of_same rfl rfl
  unfold wpOp at *
  simp only [hj] at *
  rw [wanted_put oj a oi.dst v h1] at h
  split
  · rename_i hw
    simp only [hw, if_true] at h
    rcases h with h | ⟨hasks, hlets⟩
    case inr => exact .inr ⟨by unfold Oper.asks at *; rw [execOp_put oj hsj a oi.dst v h1] at hasks; exact hasks, hlets⟩
    refine .inl ?_
    unfold Oper.wp at *
    rw [execOp_put oj hsj a oi.dst v h1] at h
    generalize (execOp a.eval oj).run P w = r at *
    cases r with
    | ok n w' =>
      cases n <;> simp only [Oper.upon] at h ⊢
      case value u => exact ⟨keep a hy u, by rw [← Act.put_comm a v u h2]; exact h⟩
      case skip => exact ⟨keep a hy _, by rw [← Act.put_comm a v undef h2]; exact h⟩
      case defer d =>
        refine ⟨keep _ (keepD d) _, ?_⟩
        rw [← Act.put_comm _ v undef h2, ← Act.put_defers]
        exact h
      case enter f args =>
        refine Calls.mono h fun e w'' he => ?_
        cases e with
        | returned u => exact ⟨keep a hy u, by rw [← Act.put_comm a v u h2]; exact he⟩
        | panicked c => exact hQ _ _ _ _ _ he
        | outgrown => exact he
      case row row args => exact Rows.mono h fun u w'' he => ⟨keep a hy u, by rw [← Act.put_comm a v u h2]; exact he⟩
    | halt x w' =>
      cases x <;> simp only [Oper.upon] at h ⊢
      exact hQ _ _ _ _ _ h
  · rename_i hw
    simp only [hw] at h
    exact ⟨keep a hy _, by rw [← Act.put_comm a v undef h2]; exact h⟩

/-- Whatever order is picked, the class is kept. -/
def wpAnyC (P : Program) (md : Region.Mode) (ops : Array Oper) (S : World → Prop) (Q : Exit → Act → World → Prop) : Nat → Array Bool → Act → World → Prop
  | 0, listed, a, w => Region.ready md ops listed = [] ∧ Q .normal a w
  | f + 1, listed, a, w =>
    (Region.ready md ops listed = [] → Q .normal a w) ∧
    ∀ i ∈ Region.ready md ops listed, wpOp P ops Q i (fun a' w' => S w' ∧ wpAnyC P md ops S Q f (listed.setIfInBounds i true) a' w') a w
theorem wpAny_of : ∀ (f : Nat) (listed : Array Bool) (a : Act) (w : World), wpAnyC P md ops S Q f listed a w → wpAny P md ops Q f listed a w
  | 0, _, _, _, h => h
  | f + 1, _, _, _, h => ⟨h.1, fun i hi => wpOp_mono (fun a' w' h' => wpAny_of f _ a' w' h'.2) (h.2 i hi)⟩

theorem first {i : Nat} {oi : Oper} {v : Value} (hi : ops[i]? = some oi) (hsel : ∀ (j : Nat) (o : Oper) cs b, ops[j]? = some o → o.op ≠ .select cs b)
    (hQ : ∀ c a d v w, Q (.panic c) (Act.put a d v) w → Q (.panic c) a w) :
    ∀ (fuel : Nat) (listed : Array Bool) (a : Act) (w : World), S w →
      (∀ j oj, ops[j]? = some oj → j ≠ i → listed.getD j true = false → (∀ e ∈ oj.after, Region.binds md e = true → e.on ≠ i) → oi.apart ops oj = true) →
      i ∈ Region.ready md ops listed → (∀ w, S w → YieldsAt P ops w oi v a) →
      wpAnyC P md ops S Q fuel (listed.setIfInBounds i true) (a.put oi.dst v) w → wpAnyC P md ops S Q (fuel + 1) listed a w := by
  intro fuel
  induction fuel with
  | zero =>
    intro listed a w hS _ hr hy H
    refine ⟨fun h => (by rw [h] at hr; cases hr), fun j hj => ?_⟩
    by_cases hji : j = i
    · subst hji; exact wpOp_of_yields hi (hy w hS) ⟨hS, H⟩
    · have := ready_mono hj hji
      rw [H.1] at this
      cases this
  | succ fuel ih =>
    intro listed a w hS hfree hr hy H
    refine ⟨fun h => (by rw [h] at hr; cases hr), fun j hj => ?_⟩
    by_cases hji : j = i
    · subst hji; exact wpOp_of_yields hi (hy w hS) ⟨hS, H⟩
    · have h1 := H.2 j (ready_mono hj hji)
      obtain ⟨hjun, oj, hoj, hall⟩ := mem_ready.1 hj
      have hnot : ∀ e ∈ oj.after, Region.binds md e = true → e.on ≠ i := fun e he hb heq => by
        have h1 := hall e he hb
        have h0 := (mem_ready.1 hr).1
        rw [heq] at h1
        rcases Nat.lt_or_ge i listed.size with h' | h'
        · simp [h'] at h0 h1; rw [h0] at h1; cases h1
        · simp [Array.getElem?_eq_none h'] at h1
      have h2 := wpOp_put hoj (hfree j oj hoj hji hjun hnot) (fun cs b => hsel i oi cs b hi) (fun cs b => hsel j oj cs b hoj) hQ hy h1
      have hfree' : ∀ k ok, ops[k]? = some ok → k ≠ i → (listed.setIfInBounds j true).getD k true = false →
          (∀ e ∈ ok.after, Region.binds md e = true → e.on ≠ i) → oi.apart ops ok = true := fun k ok hk hki hun hno => by
        refine hfree k ok hk hki ?_ hno
        by_cases hjk : j = k
        · subst hjk; exact hjun
        · rw [getD_set_ne true hjk] at hun; exact hun
      refine wpOp_mono (fun a' w' h3 => ⟨h3.2.1, ih (listed.setIfInBounds j true) a' w' h3.2.1 hfree' (ready_mono hr (Ne.symm hji)) h3.1 ?_⟩) h2
      rw [Array.setIfInBounds_comm _ _ hji]
      exact h3.2.2

/-- Operations that yield a value and nothing else. -/
def valueOp : Op → Bool
  | .move _ | .assign _ | .pick .. | .load .. | .binOp .. | .unOp .. | .convert .. | .slice .. | .fieldAddr .. | .field .. | .indexAddr .. | .index .. | .extract .. | .build .. | .nilCheck _ => true
  | .call { callee := .builtin .len, .. } | .call { callee := .builtin .cap, .. } => true
  | _ => false
theorem bind_value {α : Type} {m : Sem α} {f : α → Sem Next} {w w' : World} {n : Next} (hf : ∀ a w w' n, (f a).run P w = .ok n w' → ∃ v, n = .value v) (h : (m >>= f).run P w = .ok n w') : ∃ v, n = .value v := by
  simp only [Sem.run_bind] at h
  cases hx : m.run P w with
  | ok a w1 =>
    rw [hx] at h
    exact hf a w1 w' n h
  | halt x w1 =>
    rw [hx] at h
    simp [Result.andThen] at h
theorem pure_value {v : Value} {w w' : World} {n : Next} (h : (Pure.pure (Next.value v) : Sem Next).run P w = .ok n w') : ∃ v, n = .value v := by
  simp at h
  exact ⟨v, h.1.symm⟩
theorem nilCheck_value {ρ : Operand → Value} {dst : Option Tmp} {x : Operand} {type : TypeId} {pos : String} {after : Array Edge} {guard : Option (Nat × Bool)} {w w' : World} {n : Next}
    (hr : (execOp ρ { dst := dst, op := .nilCheck x, type := type, pos := pos, after := after, guard := guard }).run P w = .ok n w') : ∃ v, n = .value v := by
  unfold execOp at hr
  simp only at hr
  split at hr
  · simp [runtimePanic] at hr
  · simp [runtimePanic] at hr
  · simp [runtimePanic] at hr
  · split at hr
    · simp [runtimePanic] at hr
    · refine bind_value (fun _ _ _ _ h => bind_value (fun _ _ _ _ h => ?_) h) hr
      split at h
      · exact bind_value (fun _ _ _ _ h => pure_value h) h
      · exact pure_value h
    · exact pure_value hr
  all_goals first | exact pure_value hr | trace_state
theorem valueOp_run {ρ : Operand → Value} {o : Oper} (h : valueOp o.op = true) (w w' : World) (n : Next) (hr : (execOp ρ o).run P w = .ok n w') : ∃ v, n = .value v := by
  have key' : ∀ {α : Type} (m : Sem α) (g : α → Value), (m >>= fun v => (Pure.pure (Next.value (g v)) : Sem Next)).run P w = .ok n w' → ∃ v, n = .value v := by
    intro α m g hm
    simp only [Sem.run_bind] at hm
    cases hx : m.run P w with
    | ok v w1 =>
      rw [hx] at hm
      simp [Result.andThen] at hm
      exact ⟨g v, hm.1.symm⟩
    | halt x w1 =>
      rw [hx] at hm
      simp [Result.andThen] at hm
  have key := fun m : Sem Value => key' m id
  obtain ⟨dst, op, type, pos, after, guard⟩ := o
  cases op with
  | move x => simp [execOp] at hr; exact ⟨_, hr.1.symm⟩
  | assign x => simp [execOp] at hr; exact ⟨_, hr.1.symm⟩
  | pick c a b => exact key' _ _ hr
  | load t x => exact key _ hr
  | binOp b t x y u => exact key _ hr
  | unOp b t x => exact key _ hr
  | convert s d x => exact key _ hr
  | slice t x l hh m => exact key _ hr
  | fieldAddr t x i => exact key _ hr
  | field t x i => exact key _ hr
  | indexAddr t x i => exact key _ hr
  | index t x i => exact key _ hr
  | extract x i => exact key _ hr
  | build t ps => exact key _ hr
  | nilCheck x => exact nilCheck_value hr
  | call c =>
    obtain ⟨callee, args, argTypes⟩ := c
    cases callee with
    | builtin b => cases b <;> first | (simp [valueOp] at h; done) | exact key _ hr
    | value f => simp [valueOp] at h
    | invoke r m => simp [valueOp] at h
  | _ => simp [valueOp] at h
theorem yields_of_quiet {o : Oper} {a : Act} {K : Act → Prop} (hv : valueOp o.op = true) (hw : Region.wanted o (yielded ops a.tmps) = true) (h : o.quiet P a S K) : ∃ v, (∀ w, S w → YieldsAt P ops w o v a) ∧ K (a.put o.dst v) := by
  obtain ⟨v, h1, h2⟩ := h
  refine ⟨v, fun w hS => ?_, h2⟩
  have h3 := h1 w hS
  unfold Oper.quietAt at h3
  cases hr : (execOp a.eval o).run P w with
  | ok n w' =>
    rw [hr] at h3
    obtain ⟨u, rfl⟩ := valueOp_run hv w w' n hr
    simp only [Oper.quietUpon] at h3
    obtain ⟨rfl, rfl⟩ := h3
    exact .inl ⟨hw, .inl hr⟩
  | halt x w' =>
    rw [hr] at h3
    exact h3.elim

/-- The post of a piece in a forced order: the class is kept, and the rest follows. -/
def Kept (S : World → Prop) (K : Act → World → Prop) : Exit → Act → World → Prop
  | .normal, a, w => S w ∧ K a w
  | _, _, _ => False

/-- The pieces of a region in the order of the text: (true, n): n operations that only read; (false, n): n operations in a forced order. -/
def wpSegs (P : Program) (ops : Array Oper) (S : World → Prop) (Q : Exit → Act → World → Prop) : List (Bool × Nat) → List Oper → Act → World → Prop
  | [], _, a, w => Q .normal a w
  | (true, n) :: r, l, a, w => wpQuiet P ops S (fun a' => wpSegs P ops S Q r (l.drop n) a' w) (l.take n) a
  | (false, n) :: r, l, a, w => wpList P ops (Kept S fun a' w' => wpSegs P ops S Q r (l.drop n) a' w') (l.take n) a w

/-- One operation a time. -/
def wpEach (P : Program) (ops : Array Oper) (S : World → Prop) (Q : Exit → Act → World → Prop) : List Bool → List Oper → Act → World → Prop
  | true :: qs, o :: l, a, w => ∃ v, (∀ w, S w → YieldsAt P ops w o v a) ∧ wpEach P ops S Q qs l (a.put o.dst v) w
  | false :: qs, o :: l, a, w => if Region.wanted o (yielded ops a.tmps) then o.wp P a w (fun a' w' => S w' ∧ wpEach P ops S Q qs l a' w') Q else wpEach P ops S Q qs l (a.put o.dst undef) w
  | _, _, a, w => Q .normal a w
def flat : List (Bool × Nat) → List Bool
  | [] => []
  | (b, n) :: r => List.replicate n b ++ flat r
def eachB (md : Region.Mode) (ops : Array Oper) : List Bool → Nat → Array Bool → Bool
  | [], _, listed => (Region.ready md ops listed).isEmpty
  | true :: qs, k, listed => (Region.ready md ops listed).contains k && Region.free md ops listed k && eachB md ops qs (k + 1) (listed.setIfInBounds k true)
  | false :: qs, k, listed => decide (Region.ready md ops listed = [k]) && eachB md ops qs (k + 1) (listed.setIfInBounds k true)

theorem any_of_each (hs : Region.noSelect ops = true) (hQ : ∀ c a d v w, Q (.panic c) (Act.put a d v) w → Q (.panic c) a w) :
    ∀ (l : List Oper) (qs : List Bool) (k : Nat) (listed : Array Bool) (a : Act) (w : World), (∀ j, l[j]? = ops[k + j]?) → qs.length = l.length → eachB md ops qs k listed = true → S w →
      wpEach P ops S Q qs l a w → wpAnyC P md ops S Q l.length listed a w
  | [], [], k, listed, a, w, _, _, hB, _, h => ⟨by simpa [eachB] using hB, h⟩
  | [], _ :: _, _, _, _, _, _, hl, _, _, _ => by simp at hl
  | _ :: _, [], _, _, _, _, _, hl, _, _, _ => by simp at hl
  | o :: l, true :: qs, k, listed, a, w, hl, hlen, hB, hS, h => by
    have h0 : ops[k]? = some o := by simpa using (hl 0).symm
    simp only [eachB, Bool.and_eq_true] at hB
    obtain ⟨⟨hr, hf⟩, hB'⟩ := hB
    obtain ⟨v, hy, hK⟩ := h
    exact first h0 (Region.noSelect_spec hs) hQ l.length listed a w hS (Region.free_spec h0 hf) (by simpa using hr) hy
      (any_of_each hs hQ l qs (k + 1) _ _ _ (fun j => by have := hl (j + 1); simpa [Nat.add_assoc, Nat.add_comm 1 j] using this) (by simpa using hlen) hB' hS hK)
  | o :: l, false :: qs, k, listed, a, w, hl, hlen, hB, hS, h => by
    have h0 : ops[k]? = some o := by simpa using (hl 0).symm
    simp only [eachB, Bool.and_eq_true, decide_eq_true_eq] at hB
    obtain ⟨hr, hB'⟩ := hB
    refine ⟨fun h1 => (by rw [hr] at h1; cases h1), fun i hi => ?_⟩
    rw [hr] at hi
    have hik : i = k := by simpa using hi
    subst hik
    have rest : ∀ a' w', S w' → wpEach P ops S Q qs l a' w' → wpAnyC P md ops S Q l.length (listed.setIfInBounds i true) a' w' := fun a' w' hS' h' =>
      any_of_each hs hQ l qs (i + 1) _ _ _ (fun j => by have := hl (j + 1); simpa [Nat.add_assoc, Nat.add_comm 1 j] using this) (by simpa using hlen) hB' hS' h'
    unfold wpOp
    simp only [h0]
    unfold wpEach at h
    split
    · rename_i hw
      rw [if_pos hw] at h
      exact .inl (Oper.wp_mono (fun a' w' h' => ⟨h'.1, rest a' w' h'.1 h'.2⟩) h)
    · rename_i hw
      rw [if_neg hw] at h
      exact ⟨hS, rest _ _ hS h⟩

theorem each_of_quiet {qs : List Bool} {l2 : List Oper} {w : World} : ∀ (l : List Oper) (a : Act), (∀ o ∈ l, valueOp o.op = true) → wpQuiet P ops S (fun a' => wpEach P ops S Q qs l2 a' w) l a → wpEach P ops S Q (List.replicate l.length true ++ qs) (l ++ l2) a w
  | [], a, _, h => h
  | o :: l, a, hv, h => by
    show ∃ v, _
    unfold wpQuiet at h
    split at h
    · rename_i hw
      obtain ⟨v, h1, h2⟩ := yields_of_quiet (hv o (by simp)) hw h
      exact ⟨v, h1, each_of_quiet l _ (fun o ho => hv o (by simp [ho])) h2⟩
    · rename_i hw
      exact ⟨undef, fun w _ => .inr ⟨by simpa using hw, rfl⟩, each_of_quiet l _ (fun o ho => hv o (by simp [ho])) h⟩
theorem not_lets {K : Act → World → Prop} : ¬ LetsOut (Kept S K) := fun ⟨_, _, h⟩ => h
theorem wp_of_kept {o : Oper} {a : Act} {w : World} {K K' : Act → World → Prop} {K2 : Act → World → Prop} (h : ∀ a w, K a w → K' a w) (hh : o.wp P a w K (Kept S K2)) : o.wp P a w K' Q := by
  unfold Oper.wp at *
  generalize (execOp a.eval o).run P w = r at *
  cases r with
  | ok n w' =>
    cases n <;> simp only [Oper.upon] at hh ⊢ <;>
      first
        | exact h _ _ hh
        | exact Calls.mono hh (fun e w'' he => by cases e <;> first | exact h _ _ he | exact (he : False).elim | exact absurd he not_lets)
        | exact Rows.mono hh (fun _ _ he => h _ _ he)
  | halt x w' =>
    cases x <;> simp only [Oper.upon] at hh ⊢ <;> exact (hh : False).elim
/-- In a forced piece every operation must keep the class: what the piece's end says is asked at each. -/
theorem each_of_list {qs : List Bool} {l2 : List Oper} {o : Oper} {a : Act} {w : World} (h : wpList P ops (Kept S fun a' w' => wpEach P ops S Q qs l2 a' w') [o] a w) : wpEach P ops S Q (false :: qs) (o :: l2) a w := by
  unfold wpEach
  unfold wpList at h
  split at h
  · rename_i hw
    rw [if_pos hw]
    rcases h with h | ⟨_, h⟩
    · exact wp_of_kept (fun a w h => h) h
    · exact absurd h not_lets
  · rename_i hw
    rw [if_neg hw]
    exact h.2
def okSegs : List (Bool × Nat) → List Oper → Bool
  | [], l => l.isEmpty
  | (true, n) :: r, l => decide (n ≤ l.length) && (l.take n).all (fun o => valueOp o.op) && okSegs r (l.drop n)
  | (false, n) :: r, l => decide (n = 1) && !l.isEmpty && okSegs r (l.drop n)
theorem flat_length : ∀ (segs : List (Bool × Nat)) (l : List Oper), okSegs segs l = true → (flat segs).length = l.length
  | [], l, h => by simp [okSegs] at h; simp [flat, h]
  | (true, n) :: r, l, h => by
    simp only [okSegs, Bool.and_eq_true, decide_eq_true_eq] at h
    have := flat_length r _ h.2
    simp [flat, this]; omega
  | (false, n) :: r, l, h => by
    simp only [okSegs, Bool.and_eq_true, decide_eq_true_eq] at h
    have := flat_length r _ h.2
    obtain ⟨⟨rfl, h2⟩, _⟩ := h
    cases l with
    | nil => simp at h2
    | cons o l => simp [flat, this]
theorem wpQuiet_imp {Q1 Q2 : Act → Prop} (hq : ∀ a, Q1 a → Q2 a) : ∀ (l : List Oper) (a : Act), wpQuiet P ops S Q1 l a → wpQuiet P ops S Q2 l a
  | [], a, h => hq a h
  | o :: l, a, h => by
    unfold wpQuiet at h ⊢
    split
    · rename_i hw
      rw [if_pos hw] at h
      exact Oper.quiet_mono (fun a' h' => wpQuiet_imp hq l a' h') h
    · rename_i hw
      rw [if_neg hw] at h
      exact wpQuiet_imp hq l _ h
theorem wpList_one_imp {K K' : Act → World → Prop} (hk : ∀ a w, S w → K a w → K' a w) {o : Oper} {a : Act} {w : World} (h : wpList P ops (Kept S K) [o] a w) : wpList P ops (Kept S K') [o] a w := by
  unfold wpList at h ⊢
  split
  · rename_i hw
    rw [if_pos hw] at h
    rcases h with h | ⟨_, h⟩
    · exact .inl (wp_of_kept (fun a w h => ⟨h.1, hk _ _ h.1 h.2⟩) h)
    · exact absurd h not_lets
  · rename_i hw
    rw [if_neg hw] at h
    exact ⟨h.1, hk _ _ h.1 h.2⟩
theorem each_of_segs : ∀ (segs : List (Bool × Nat)) (l : List Oper) (a : Act) (w : World), okSegs segs l = true → wpSegs P ops S Q segs l a w → wpEach P ops S Q (flat segs) l a w
  | [], l, a, w, h, hh => hh
  | (true, n) :: r, l, a, w, h, hh => by
    simp only [okSegs, Bool.and_eq_true, decide_eq_true_eq] at h
    obtain ⟨⟨hn, hv⟩, hr⟩ := h
    have hlen : (l.take n).length = n := by simp; omega
    have e := each_of_quiet (Q := Q) (qs := flat r) (l2 := l.drop n) (w := w) (l.take n) a (fun o ho => List.all_eq_true.1 hv o ho)
      (wpQuiet_imp (fun a' h' => each_of_segs r _ a' w hr h') _ _ hh)
    rw [hlen, List.take_append_drop] at e
    exact e
  | (false, n) :: r, l, a, w, h, hh => by
    simp only [okSegs, Bool.and_eq_true, decide_eq_true_eq] at h
    obtain ⟨⟨rfl, hl⟩, hr⟩ := h
    cases l with
    | nil => simp at hl
    | cons o l => exact each_of_list (wpList_one_imp (fun a' w' _ h' => each_of_segs r _ a' w' hr h') hh)

open Classical in
/-- A world of the class, given as one: 'u' if it is one, else w. -/
noncomputable def hold (S0 : World → Prop) (w u : World) : World := if S0 u then u else w
theorem hold_ok {S0 : World → Prop} {w : World} (h : S0 w) (u : World) : S0 (hold S0 w u) := by
  unfold hold; split <;> assumption
theorem hold_of {S0 : World → Prop} {w u : World} (h : S0 u) : ∃ x, u = hold S0 w x := ⟨u, by unfold hold; rw [if_pos h]⟩

def regionB (segs : List (Bool × Nat)) (ops : Array Oper) : Bool := Region.noSelect ops && okSegs segs ops.toList && eachB .any ops (flat segs) 0 (Array.replicate ops.size false)

/-- THE REGION, PIECE BY PIECE IN THE ORDER OF THE TEXT. S0: what every piece keeps of the world. -/
theorem wp_region_segs {id : Nat} {a : Act} {w : World} {l : List Oper} (S0 : World → Prop) (segs : List (Bool × Nat)) (hm : P.follows .mixedOrders = true) (hB : regionB segs l.toArray = true) (h0 : S0 { w with drawn := w.drawn + 1 })
    (h : ∀ W, S0 W → W = { w with drawn := w.drawn + 1 } → wpSegs P l.toArray (fun w' => ∃ u, w' = hold S0 W u) (NoPanic Q) segs l a W) : (Code.region id l.toArray true).wp P Q a w := by
  refine wp_region_noPanic (wp_region_any hm ?_)
  simp only [regionB, Bool.and_eq_true] at hB
  have h1 := h _ h0 rfl
  have h2 := each_of_segs segs l _ _ (by simpa using hB.1.2) h1
  have h3 := any_of_each (md := .any) (S := fun w' => ∃ u, w' = hold S0 { w with drawn := w.drawn + 1 } u) (Q := NoPanic Q) hB.1.1 (fun c a d v w h => h) l (flat segs) 0 (Array.replicate l.toArray.size false) a { w with drawn := w.drawn + 1 } (by simp)
    (by rw [flat_length segs l (by simpa using hB.1.2)]) hB.2 (hold_of h0) h2
  have h4 := wpAny_of _ _ _ _ h3
  simpa using h4
end
end Go.Seg
namespace Go.Seg
section
variable {P : Program} {ops : Array Oper} {md : Region.Mode} {S : World → Prop} {Q : Exit → Act → World → Prop} {last : Nat}

/-- Whatever order is picked, the class is kept, but by the last one. -/
def wpAnyL (P : Program) (md : Region.Mode) (ops : Array Oper) (last : Nat) (S : World → Prop) (Q : Exit → Act → World → Prop) : Nat → Array Bool → Act → World → Prop
  | 0, listed, a, w => Region.ready md ops listed = [] ∧ Q .normal a w
  | f + 1, listed, a, w =>
    (Region.ready md ops listed = [] → Q .normal a w) ∧
    ∀ i ∈ Region.ready md ops listed, wpOp P ops Q i (fun a' w' => (i ≠ last → S w') ∧ wpAnyL P md ops last S Q f (listed.setIfInBounds i true) a' w') a w
theorem wpAnyL_any : ∀ (f : Nat) (listed : Array Bool) (a : Act) (w : World), wpAnyL P md ops last S Q f listed a w → wpAny P md ops Q f listed a w
  | 0, _, _, _, h => h
  | f + 1, _, _, _, h => ⟨h.1, fun i hi => wpOp_mono (fun a' w' h' => wpAnyL_any f _ a' w' h'.2) (h.2 i hi)⟩
/-- The last one waits for all others. -/
def Lasts (md : Region.Mode) (ops : Array Oper) (last : Nat) : Prop := ∀ o, ops[last]? = some o → ∀ i, i < ops.size → i ≠ last → ∃ e ∈ o.after, Region.binds md e = true ∧ e.on = i

theorem firstL (hlast : Lasts md ops last) {i : Nat} {oi : Oper} {v : Value} (hi : ops[i]? = some oi) (hil : i ≠ last) (hsel : ∀ (j : Nat) (o : Oper) cs b, ops[j]? = some o → o.op ≠ .select cs b)
    (hQ : ∀ c a d v w, Q (.panic c) (Act.put a d v) w → Q (.panic c) a w) :
    ∀ (fuel : Nat) (listed : Array Bool) (a : Act) (w : World), S w →
      (∀ j oj, ops[j]? = some oj → j ≠ i → listed.getD j true = false → (∀ e ∈ oj.after, Region.binds md e = true → e.on ≠ i) → oi.apart ops oj = true) →
      i ∈ Region.ready md ops listed → (∀ w, S w → YieldsAt P ops w oi v a) →
      wpAnyL P md ops last S Q fuel (listed.setIfInBounds i true) (a.put oi.dst v) w → wpAnyL P md ops last S Q (fuel + 1) listed a w := by
  intro fuel
  induction fuel with
  | zero =>
    intro listed a w hS _ hr hy H
    refine ⟨fun h => (by rw [h] at hr; cases hr), fun j hj => ?_⟩
    by_cases hji : j = i
    · subst hji; exact wpOp_of_yields hi (hy w hS) ⟨fun _ => hS, H⟩
    · have := ready_mono hj hji
      rw [H.1] at this
      cases this
  | succ fuel ih =>
    intro listed a w hS hfree hr hy H
    refine ⟨fun h => (by rw [h] at hr; cases hr), fun j hj => ?_⟩
    by_cases hji : j = i
    · subst hji; exact wpOp_of_yields hi (hy w hS) ⟨fun _ => hS, H⟩
    · have h1 := H.2 j (ready_mono hj hji)
      obtain ⟨hjun, oj, hoj, hall⟩ := mem_ready.1 hj
      have hnot : ∀ e ∈ oj.after, Region.binds md e = true → e.on ≠ i := fun e he hb heq => by
        have h1 := hall e he hb
        have h0 := (mem_ready.1 hr).1
        rw [heq] at h1
        rcases Nat.lt_or_ge i listed.size with h' | h'
        · simp [h'] at h0 h1; rw [h0] at h1; cases h1
        · simp [Array.getElem?_eq_none h'] at h1
      have hjl : j ≠ last := by
        rintro rfl
        obtain ⟨e, he, hb, heq⟩ := hlast oj hoj i (Array.getElem?_eq_some_iff.1 hi).1 hil
        exact hnot e he hb heq
      have h2 := wpOp_put hoj (hfree j oj hoj hji hjun hnot) (fun cs b => hsel i oi cs b hi) (fun cs b => hsel j oj cs b hoj) hQ hy h1
      have hfree' : ∀ k ok, ops[k]? = some ok → k ≠ i → (listed.setIfInBounds j true).getD k true = false →
          (∀ e ∈ ok.after, Region.binds md e = true → e.on ≠ i) → oi.apart ops ok = true := fun k ok hk hki hun hno => by
        refine hfree k ok hk hki ?_ hno
        by_cases hjk : j = k
        · subst hjk; exact hjun
        · rw [getD_set_ne true hjk] at hun; exact hun
      refine wpOp_mono (fun a' w' h3 => ⟨h3.2.1, ih (listed.setIfInBounds j true) a' w' (h3.2.1 hjl) hfree' (ready_mono hr (Ne.symm hji)) h3.1 ?_⟩) h2
      rw [Array.setIfInBounds_comm _ _ hji]
      exact h3.2.2

/-- The pieces: the last forced one need not keep the class. -/
def wpSegsL (P : Program) (ops : Array Oper) (S : World → Prop) (Q : Exit → Act → World → Prop) : List (Bool × Nat) → List Oper → Act → World → Prop
  | [], _, a, w => Q .normal a w
  | (true, n) :: r, l, a, w => wpQuiet P ops S (fun a' => wpSegsL P ops S Q r (l.drop n) a' w) (l.take n) a
  | [(false, n)], l, a, w => wpList P ops (Kept (fun _ => True) fun a' w' => Q .normal a' w') (l.take n) a w
  | (false, n) :: s :: r, l, a, w => wpList P ops (Kept S fun a' w' => wpSegsL P ops S Q (s :: r) (l.drop n) a' w') (l.take n) a w
/-- One operation a time. -/
def wpEachL (P : Program) (ops : Array Oper) (S : World → Prop) (Q : Exit → Act → World → Prop) : List Bool → List Oper → Act → World → Prop
  | true :: qs, o :: l, a, w => ∃ v, (∀ w, S w → YieldsAt P ops w o v a) ∧ wpEachL P ops S Q qs l (a.put o.dst v) w
  | [false], [o], a, w => if Region.wanted o (yielded ops a.tmps) then o.wp P a w (fun a' w' => Q .normal a' w') Q else Q .normal (a.put o.dst undef) w
  | false :: q :: qs, o :: o2 :: l, a, w => if Region.wanted o (yielded ops a.tmps) then o.wp P a w (fun a' w' => S w' ∧ wpEachL P ops S Q (q :: qs) (o2 :: l) a' w') Q else wpEachL P ops S Q (q :: qs) (o2 :: l) (a.put o.dst undef) w
  | [], [], a, w => Q .normal a w
  | _, _, _, _ => False
def eachBL (md : Region.Mode) (ops : Array Oper) : List Bool → List Nat → Array Bool → Bool
  | [], [], listed => (Region.ready md ops listed).isEmpty
  | true :: qs, k :: ks, listed => (Region.ready md ops listed).contains k && Region.free md ops listed k && eachBL md ops qs ks (listed.setIfInBounds k true)
  | false :: qs, k :: ks, listed => decide (Region.ready md ops listed = [k]) && eachBL md ops qs ks (listed.setIfInBounds k true)
  | _, _, _ => false

theorem anyL_of_each (hlast : Lasts md ops last) (hs : Region.noSelect ops = true) (hQ : ∀ c a d v w, Q (.panic c) (Act.put a d v) w → Q (.panic c) a w) :
    ∀ (l : List Oper) (qs : List Bool) (ks : List Nat) (listed : Array Bool) (a : Act) (w : World), (ks.map fun k => ops[k]?) = l.map some → qs.length = l.length → eachBL md ops qs ks listed = true →
      (∀ k ∈ ks.dropLast, k ≠ last) → (qs ≠ [] → qs.getLast? = some false → ks.getLast? = some last) → (qs.getLast? = some true → ∀ k ∈ ks, k ≠ last) → S w →
      wpEachL P ops S Q qs l a w → wpAnyL P md ops last S Q l.length listed a w
  | [], [], [], listed, a, w, _, _, hB, _, _, _, _, h => ⟨by simpa [eachBL] using hB, h⟩
  | [], [], k :: ks, _, _, _, hl, _, _, _, _, _, _, _ => by simp at hl
  | [], _ :: _, _, _, _, _, _, hl, _, _, _, _, _, _ => by simp at hl
  | _ :: _, [], _, _, _, _, _, hl, _, _, _, _, _, _ => by simp at hl
  | _ :: _, _ :: _, [], _, _, _, hl, _, _, _, _, _, _, _ => by simp at hl
  | o :: l, true :: qs, k :: ks, listed, a, w, hl, hlen, hB, hd, hfl, htl, hS, h => by
    simp only [List.map_cons, List.cons.injEq] at hl
    have h0 : ops[k]? = some o := hl.1
    simp only [eachBL, Bool.and_eq_true] at hB
    obtain ⟨⟨hr, hf⟩, hB'⟩ := hB
    obtain ⟨v, hy, hK⟩ := h
    have hkl : k ≠ last := by
      cases hks : ks with
      | nil =>
        have hln : l = [] := by
          have := congrArg List.length hl.2; rw [hks] at this; exact List.eq_nil_of_length_eq_zero (by simpa using this.symm)
        have hqn : qs = [] := by rw [hln] at hlen; simpa using hlen
        exact htl (by rw [hqn]; rfl) k (by simp)
      | cons k2 ks2 => exact hd k (by rw [hks]; simp)
    refine firstL hlast h0 hkl (Region.noSelect_spec hs) hQ l.length listed a w hS (Region.free_spec h0 hf) (by simpa using hr) hy
      (anyL_of_each hlast hs hQ l qs ks _ _ _ hl.2 (by simpa using hlen) hB' ?_ ?_ ?_ hS hK)
    · intro j hj
      cases hks : ks with
      | nil => rw [hks] at hj; simp at hj
      | cons k2 ks2 => exact hd j (by rw [hks] at hj ⊢; simp [List.dropLast]; exact .inr hj)
    · intro hq hql
      cases qs with
      | nil => exact absurd rfl hq
      | cons q qs =>
        have := hfl (by simp) (by simpa using hql)
        cases ks with
        | nil => have := congrArg List.length hl.2; simp at this hlen; omega
        | cons k2 ks2 => simpa using this
    · intro hql j hj
      cases qs with
      | nil => simp at hql
      | cons q qs => exact htl (by simpa using hql) j (by simp [hj])
  | [o], [false], k :: ks, listed, a, w, hl, hlen, hB, hd, hfl, htl, hS, h => by
    simp only [List.map_cons, List.cons.injEq] at hl
    have h0 : ops[k]? = some o := hl.1
    have hks : ks = [] := by simpa using hl.2
    subst hks
    simp only [eachBL, Bool.and_eq_true, decide_eq_true_eq] at hB
    obtain ⟨hr, hB'⟩ := hB
    refine ⟨fun h1 => (by rw [hr] at h1; cases h1), fun i hi => ?_⟩
    rw [hr] at hi
    have hik : i = k := by simpa using hi
    subst hik
    have hkl : i = last := by simpa using hfl (by simp) rfl
    unfold wpOp
    simp only [h0]
    unfold wpEachL at h
    have hrd : Region.ready md ops (listed.setIfInBounds i true) = [] := by simpa using hB'
    split
    · rename_i hw
      rw [if_pos hw] at h
      exact .inl (Oper.wp_mono (fun a' w' h' => ⟨fun hne => absurd hkl hne, ⟨hrd, h'⟩⟩) h)
    · rename_i hw
      rw [if_neg hw] at h
      exact ⟨fun hne => absurd hkl hne, ⟨hrd, h⟩⟩
  | [o], false :: q :: qs, _, _, _, _, _, hlen, _, _, _, _, _, _ => by simp at hlen
  | o :: o2 :: l, [false], _, _, _, _, _, hlen, _, _, _, _, _, _ => by simp at hlen
  | o :: o2 :: l, false :: q :: qs, k :: ks, listed, a, w, hl, hlen, hB, hd, hfl, htl, hS, h => by
    have hl0 := hl
    rw [List.map_cons, List.map_cons, List.cons.injEq] at hl
    have h0 : ops[k]? = some o := hl.1
    simp only [eachBL, Bool.and_eq_true, decide_eq_true_eq] at hB
    obtain ⟨hr, hB'⟩ := hB
    refine ⟨fun h1 => (by rw [hr] at h1; cases h1), fun i hi => ?_⟩
    rw [hr] at hi
    have hik : i = k := by simpa using hi
    subst hik
    have rest : ∀ a' w', S w' → wpEachL P ops S Q (q :: qs) (o2 :: l) a' w' → wpAnyL P md ops last S Q (o2 :: l).length (listed.setIfInBounds i true) a' w' := fun a' w' hS' h' => by
      refine anyL_of_each hlast hs hQ (o2 :: l) (q :: qs) ks _ _ _ hl.2 (by simpa using hlen) hB' ?_ ?_ ?_ hS' h'
      · intro j hj
        cases hks : ks with
        | nil => rw [hks] at hj; simp at hj
        | cons k2 ks2 => exact hd j (by rw [hks] at hj ⊢; simp [List.dropLast]; exact .inr hj)
      · intro hq hql
        have := hfl (by simp) (by simpa using hql)
        cases ks with
        | nil => simp at hl
        | cons k2 ks2 => simpa using this
      · intro hql j hj
        exact htl (by simpa using hql) j (by simp [hj])
    unfold wpOp
    simp only [h0]
    unfold wpEachL at h
    split
    · rename_i hw
      rw [if_pos hw] at h
      exact .inl (Oper.wp_mono (fun a' w' h' => ⟨fun _ => h'.1, rest a' w' h'.1 h'.2⟩) h)
    · rename_i hw
      rw [if_neg hw] at h
      exact ⟨fun _ => hS, rest _ _ hS h⟩

theorem eachL_of_quiet {qs : List Bool} {l2 : List Oper} {w : World} : ∀ (l : List Oper) (a : Act), (∀ o ∈ l, valueOp o.op = true) → wpQuiet P ops S (fun a' => wpEachL P ops S Q qs l2 a' w) l a → wpEachL P ops S Q (List.replicate l.length true ++ qs) (l ++ l2) a w
  | [], a, _, h => h
  | o :: l, a, hv, h => by
    show ∃ v, _
    unfold wpQuiet at h
    split at h
    · rename_i hw
      obtain ⟨v, h1, h2⟩ := yields_of_quiet (hv o (by simp)) hw h
      exact ⟨v, h1, eachL_of_quiet l _ (fun o ho => hv o (by simp [ho])) h2⟩
    · rename_i hw
      exact ⟨undef, fun w _ => .inr ⟨by simpa using hw, rfl⟩, eachL_of_quiet l _ (fun o ho => hv o (by simp [ho])) h⟩
theorem eachL_of_list {q : Bool} {qs : List Bool} {o2 : Oper} {l2 : List Oper} {o : Oper} {a : Act} {w : World} (h : wpList P ops (Kept S fun a' w' => wpEachL P ops S Q (q :: qs) (o2 :: l2) a' w') [o] a w) : wpEachL P ops S Q (false :: q :: qs) (o :: o2 :: l2) a w := by
  unfold wpEachL
  unfold wpList at h
  split at h
  · rename_i hw
    rw [if_pos hw]
    rcases h with h | ⟨_, h⟩
    · exact wp_of_kept (fun a w h => h) h
    · exact absurd h not_lets
  · rename_i hw
    rw [if_neg hw]
    exact h.2
theorem eachL_of_last {o : Oper} {a : Act} {w : World} (h : wpList P ops (Kept (fun _ => True) fun a' w' => Q .normal a' w') [o] a w) : wpEachL P ops S Q [false] [o] a w := by
  unfold wpEachL
  unfold wpList at h
  split at h
  · rename_i hw
    rw [if_pos hw]
    rcases h with h | ⟨_, h⟩
    · exact wp_of_kept (fun a w h => h.2) h
    · exact absurd h not_lets
  · rename_i hw
    rw [if_neg hw]
    exact h.2
theorem eachL_of_segs : ∀ (segs : List (Bool × Nat)) (l : List Oper) (a : Act) (w : World), okSegs segs l = true → (segs.all fun s => decide (0 < s.2)) = true → wpSegsL P ops S Q segs l a w → wpEachL P ops S Q (flat segs) l a w
  | [], l, a, w, h, _, hh => by
    simp [okSegs] at h; subst h; exact hh
  | (true, n) :: r, l, a, w, h, hp, hh => by
    simp only [okSegs, Bool.and_eq_true, decide_eq_true_eq] at h
    obtain ⟨⟨hn, hv⟩, hr⟩ := h
    simp only [List.all_cons, Bool.and_eq_true] at hp
    have hlen : (l.take n).length = n := by simp; omega
    have e := eachL_of_quiet (Q := Q) (qs := flat r) (l2 := l.drop n) (w := w) (l.take n) a (fun o ho => List.all_eq_true.1 hv o ho)
      (wpQuiet_imp (fun a' h' => eachL_of_segs r _ a' w hr hp.2 h') _ _ hh)
    rw [hlen, List.take_append_drop] at e
    exact e
  | [(false, n)], l, a, w, h, _, hh => by
    simp only [okSegs, Bool.and_eq_true, decide_eq_true_eq] at h
    obtain ⟨⟨rfl, hl⟩, hr⟩ := h
    cases l with
    | nil => simp at hl
    | cons o l =>
      have : l = [] := by simpa using hr
      subst this
      exact eachL_of_last hh
  | (false, n) :: s :: r, l, a, w, h, hp, hh => by
    simp only [okSegs, Bool.and_eq_true, decide_eq_true_eq] at h
    obtain ⟨⟨rfl, hl⟩, hr⟩ := h
    rw [List.all_cons, Bool.and_eq_true] at hp
    cases l with
    | nil => simp at hl
    | cons o l =>
      have hfl := flat_length (s :: r) l hr
      have hpos : 0 < (flat (s :: r)).length := by
        obtain ⟨b, n⟩ := s
        have := hp.2
        simp only [List.all_cons, Bool.and_eq_true, decide_eq_true_eq] at this
        simp [flat]; omega
      have h2 := wpList_one_imp (K' := fun a' w' => wpEachL P ops S Q (flat (s :: r)) l a' w') (fun a' w' _ h' => eachL_of_segs (s :: r) _ a' w' hr hp.2 h') hh
      show wpEachL P ops S Q (false :: flat (s :: r)) (o :: l) a w
      cases hf : flat (s :: r) with
      | nil => rw [hf] at hpos; simp at hpos
      | cons q qs =>
        cases l with
        | nil => rw [hfl] at hpos; simp at hpos
        | cons o2 l2 => rw [hf] at h2; exact eachL_of_list h2

def lastsB (md : Region.Mode) (ops : Array Oper) (last : Nat) : Bool := match ops[last]? with
  | none => true
  | some o => (List.range ops.size).all fun i => decide (i = last) || o.after.any fun e => Region.binds md e && decide (e.on = i)
theorem lastsB_spec (h : lastsB md ops last = true) : Lasts md ops last := by
  intro o ho i hi hne
  unfold lastsB at h
  rw [ho] at h
  have := List.all_eq_true.1 h i (List.mem_range.2 hi)
  simp only [Bool.or_eq_true, decide_eq_true_eq, Array.any_eq_true, Bool.and_eq_true] at this
  rcases this with h1 | ⟨j, hj, h2, h3⟩
  · exact absurd h1 hne
  · exact ⟨_, Array.getElem_mem hj, h2, h3⟩
/-- The order ord; where the last of it is a forced one, it waits for all others (else last is no operation's number). -/
def regionL (segs : List (Bool × Nat)) (ord : List Nat) (last : Nat) (l2 : List Oper) (ops : Array Oper) : Bool :=
  Region.noSelect ops && okSegs segs l2 && (segs.all fun s => decide (0 < s.2)) && eachBL .any ops (flat segs) ord (Array.replicate ops.size false) && lastsB .any ops last
    && decide (∀ k ∈ ord.dropLast, k ≠ last) && (match (flat segs).getLast? with | some false => decide (ord.getLast? = some last) | _ => decide (∀ k ∈ ord, k ≠ last))

theorem wp_region_ord {id : Nat} {a : Act} {w : World} {l : List Oper} (S0 : World → Prop) (segs : List (Bool × Nat)) (ord : List Nat) (last : Nat) (l2 : List Oper) (hm : P.follows .mixedOrders = true) (h2 : (ord.map fun k => l.toArray[k]?) = l2.map some) (h3 : l2.length = l.length)
    (hB : regionL segs ord last l2 l.toArray = true) (h0 : S0 { w with drawn := w.drawn + 1 })
    (h : ∀ W, S0 W → W = { w with drawn := w.drawn + 1 } → wpSegsL P l.toArray (fun w' => ∃ u, w' = hold S0 W u) (NoPanic Q) segs l2 a W) : (Code.region id l.toArray true).wp P Q a w := by
  refine wp_region_noPanic (wp_region_any hm ?_)
  simp only [regionL, Bool.and_eq_true, decide_eq_true_eq] at hB
  obtain ⟨⟨⟨⟨⟨⟨b1, b2⟩, b3⟩, b4⟩, b5⟩, b6⟩, b7⟩ := hB
  have g1 := h _ h0 rfl
  have g2 := eachL_of_segs segs l2 _ _ b2 b3 g1
  have g3 := anyL_of_each (md := .any) (last := last) (S := fun w' => ∃ u, w' = hold S0 { w with drawn := w.drawn + 1 } u) (Q := NoPanic Q) (lastsB_spec b5) b1 (fun c a d v w h => h) l2 (flat segs) ord (Array.replicate l.toArray.size false) a { w with drawn := w.drawn + 1 }
    h2 (flat_length segs l2 b2) b4 b6 (fun _ hf => by rw [hf] at b7; simpa using b7) (fun ht => by rw [ht] at b7; simpa using b7) (hold_of h0) g2
  have g4 := wpAnyL_any _ _ _ _ g3
  rw [h3] at g4
  simpa using g4
/-- The operations in the order ord. -/
def inOrder (l : List Oper) (ord : List Nat) : List Oper := ord.filterMap fun k => l[k]?
theorem inOrder_map {l : List Oper} : ∀ (ord : List Nat), (ord.all fun k => decide (k < l.length)) = true → (ord.map fun k => l.toArray[k]?) = (inOrder l ord).map some ∧ (inOrder l ord).length = ord.length
  | [], _ => ⟨rfl, rfl⟩
  | k :: ord, h => by
    simp only [List.all_cons, Bool.and_eq_true, decide_eq_true_eq] at h
    have ih := inOrder_map ord h.2
    have hk : l[k]? = some l[k] := List.getElem?_eq_getElem h.1
    unfold inOrder at ih ⊢
    simp only [List.getElem?_toArray] at ih
    simp only [List.map_cons, List.filterMap_cons, hk, List.length_cons, ih.1, ih.2, List.getElem?_toArray, and_self]
theorem wp_region_in {id : Nat} {a : Act} {w : World} {l : List Oper} (S0 : World → Prop) (segs : List (Bool × Nat)) (ord : List Nat) (last : Nat) (hm : P.follows .mixedOrders = true)
    (hB : ((ord.all fun k => decide (k < l.length)) && decide (ord.length = l.length) && regionL segs ord last (inOrder l ord) l.toArray) = true) (h0 : S0 { w with drawn := w.drawn + 1 })
    (h : ∀ W, S0 W → W = { w with drawn := w.drawn + 1 } → wpSegsL P l.toArray (fun w' => ∃ u, w' = hold S0 W u) (NoPanic Q) segs (inOrder l ord) a W) : (Code.region id l.toArray true).wp P Q a w := by
  simp only [Bool.and_eq_true, decide_eq_true_eq] at hB
  obtain ⟨⟨b1, b2⟩, b3⟩ := hB
  obtain ⟨c1, c2⟩ := inOrder_map ord b1
  exact wp_region_ord S0 segs ord last _ hm c1 (by rw [c2, b2]) b3 h0 h
end
end Go.Seg
namespace Go.Seg
section
variable {P : Program} {ops : Array Oper} {md : Region.Mode} {S : World → Prop} {Q : Exit → Act → World → Prop} {last : Nat}
def setAll (listed : Array Bool) : List Nat → Array Bool
  | [] => listed
  | k :: ks => setAll (listed.setIfInBounds k true) ks
def quietB (md : Region.Mode) (ops : Array Oper) : List Nat → Array Bool → Bool
  | [], _ => true
  | k :: ks, listed => (Region.ready md ops listed).contains k && Region.free md ops listed k && quietB md ops ks (listed.setIfInBounds k true)
/-- Operations that only read, and what follows. -/
def wpEachF (P : Program) (ops : Array Oper) (S : World → Prop) (K : Act → World → Prop) : List Oper → Act → World → Prop
  | [], a, w => K a w
  | o :: l, a, w => ∃ v, (∀ w, S w → YieldsAt P ops w o v a) ∧ wpEachF P ops S K l (a.put o.dst v) w
theorem anyL_of_quiets (hlast : Lasts md ops last) (hs : Region.noSelect ops = true) (hQ : ∀ c a d v w, Q (.panic c) (Act.put a d v) w → Q (.panic c) a w) {f : Nat} :
    ∀ (l : List Oper) (ks : List Nat) (listed : Array Bool) (a : Act) (w : World), (ks.map fun k => ops[k]?) = l.map some → quietB md ops ks listed = true → (∀ k ∈ ks, k ≠ last) → S w →
      wpEachF P ops S (fun a' w' => wpAnyL P md ops last S Q f (setAll listed ks) a' w') l a w → wpAnyL P md ops last S Q (f + l.length) listed a w
  | [], [], _, _, _, _, _, _, _, h => h
  | [], _ :: _, _, _, _, hl, _, _, _, _ => by simp at hl
  | _ :: _, [], _, _, _, hl, _, _, _, _ => by simp at hl
  | o :: l, k :: ks, listed, a, w, hl, hB, hk, hS, h => by
    simp only [List.map_cons, List.cons.injEq] at hl
    simp only [quietB, Bool.and_eq_true] at hB
    obtain ⟨⟨hr, hf⟩, hB'⟩ := hB
    obtain ⟨v, hy, hK⟩ := h
    exact firstL hlast hl.1 (hk k (by simp)) (Region.noSelect_spec hs) hQ (f + l.length) listed a w hS (Region.free_spec hl.1 hf) (by simpa using hr) hy
      (anyL_of_quiets hlast hs hQ l ks _ _ _ hl.2 hB' (fun j hj => hk j (by simp [hj])) hS hK)
theorem eachF_of_quiet {K : Act → World → Prop} {w : World} : ∀ (l : List Oper) (a : Act), (∀ o ∈ l, valueOp o.op = true) → wpQuiet P ops S (fun a' => K a' w) l a → wpEachF P ops S K l a w
  | [], a, _, h => h
  | o :: l, a, hv, h => by
    show ∃ v, _
    unfold wpQuiet at h
    split at h
    · rename_i hw
      obtain ⟨v, h1, h2⟩ := yields_of_quiet (hv o (by simp)) hw h
      exact ⟨v, h1, eachF_of_quiet l _ (fun o ho => hv o (by simp [ho])) h2⟩
    · rename_i hw
      exact ⟨undef, fun w _ => .inr ⟨by simpa using hw, rfl⟩, eachF_of_quiet l _ (fun o ho => hv o (by simp [ho])) h⟩
theorem anyL_fork {f : Nat} {listed : Array Bool} {a : Act} {w : World} {k1 k2 : Nat} {o1 o2 : Oper} (hr : Region.ready md ops listed = [k1, k2]) (h1 : ops[k1]? = some o1) (h2 : ops[k2]? = some o2) (hS : S w)
    (g1 : wpList P ops (Kept S fun a' w' => wpAnyL P md ops last S Q f (listed.setIfInBounds k1 true) a' w') [o1] a w)
    (g2 : wpList P ops (Kept S fun a' w' => wpAnyL P md ops last S Q f (listed.setIfInBounds k2 true) a' w') [o2] a w) : wpAnyL P md ops last S Q (f + 1) listed a w := by
  refine ⟨fun h => (by rw [hr] at h; cases h), fun i hi => ?_⟩
  rw [hr] at hi
  have key : ∀ {k : Nat} {o : Oper}, ops[k]? = some o → wpList P ops (Kept S fun a' w' => wpAnyL P md ops last S Q f (listed.setIfInBounds k true) a' w') [o] a w →
      wpOp P ops Q k (fun a' w' => (k ≠ last → S w') ∧ wpAnyL P md ops last S Q f (listed.setIfInBounds k true) a' w') a w := by
    intro k o hk h
    unfold wpOp
    simp only [hk]
    unfold wpList at h
    split
    · rename_i hw
      rw [if_pos hw] at h
      rcases h with h | ⟨_, h⟩
      · exact .inl (wp_of_kept (fun a' w' h' => ⟨fun _ => h'.1, h'.2⟩) h)
      · exact absurd h not_lets
    · rename_i hw
      rw [if_neg hw] at h
      exact ⟨fun _ => hS, h.2⟩
  rcases List.mem_cons.1 hi with rfl | hi
  · exact key h1 g1
  · obtain rfl := List.mem_singleton.1 hi
    exact key h2 g2
def forkB (md : Region.Mode) (l : List Oper) (ks0 : List Nat) (k1 k2 : Nat) (segs1 : List (Bool × Nat)) (ks1 : List Nat) (segs2 : List (Bool × Nat)) (ks2 : List Nat) : Bool :=
  Region.noSelect l.toArray && quietB md l.toArray ks0 (Array.replicate l.toArray.size false) && (inOrder l ks0).all (fun o => valueOp o.op) && decide (Region.ready md l.toArray (setAll (Array.replicate l.toArray.size false) ks0) = [k1, k2])
    && (okSegs segs1 (inOrder l ks1) && (segs1.all fun s => decide (0 < s.2)) && eachBL md l.toArray (flat segs1) ks1 ((setAll (Array.replicate l.toArray.size false) ks0).setIfInBounds k1 true) && decide ((flat segs1).getLast? = some true))
    && (okSegs segs2 (inOrder l ks2) && (segs2.all fun s => decide (0 < s.2)) && eachBL md l.toArray (flat segs2) ks2 ((setAll (Array.replicate l.toArray.size false) ks0).setIfInBounds k2 true) && decide ((flat segs2).getLast? = some true))
    && (ks0.all (fun k => decide (k < l.length)) && ks1.all (fun k => decide (k < l.length)) && ks2.all (fun k => decide (k < l.length)) && decide (k1 < l.length) && decide (k2 < l.length))
    && decide (ks1.length + 1 + ks0.length = l.length) && decide (ks2.length + 1 + ks0.length = l.length)
theorem lasts_none {md : Region.Mode} {ops : Array Oper} : Lasts md ops ops.size := fun o ho => by
  rw [Array.getElem?_eq_none (Nat.le_refl _)] at ho; cases ho
theorem wp_region_fork {id : Nat} {a : Act} {w : World} {l : List Oper} (S0 : World → Prop) (ks0 : List Nat) (k1 k2 : Nat) (segs1 : List (Bool × Nat)) (ks1 : List Nat) (segs2 : List (Bool × Nat)) (ks2 : List Nat) (hm : P.follows .mixedOrders = true)
    (hB : forkB .any l ks0 k1 k2 segs1 ks1 segs2 ks2 = true) (h0 : S0 { w with drawn := w.drawn + 1 })
    (h : ∀ W, S0 W → W = { w with drawn := w.drawn + 1 } → wpQuiet P l.toArray (fun w' => ∃ u, w' = hold S0 W u) (fun a' =>
      wpList P l.toArray (Kept (fun w' => ∃ u, w' = hold S0 W u) fun a'' w'' => wpSegsL P l.toArray (fun w' => ∃ u, w' = hold S0 W u) (NoPanic Q) segs1 (inOrder l ks1) a'' w'') (inOrder l [k1]) a' W ∧
      wpList P l.toArray (Kept (fun w' => ∃ u, w' = hold S0 W u) fun a'' w'' => wpSegsL P l.toArray (fun w' => ∃ u, w' = hold S0 W u) (NoPanic Q) segs2 (inOrder l ks2) a'' w'') (inOrder l [k2]) a' W) (inOrder l ks0) a) : (Code.region id l.toArray true).wp P Q a w := by
  refine wp_region_noPanic (wp_region_any hm ?_)
  simp only [forkB, Bool.and_eq_true, decide_eq_true_eq] at hB
  obtain ⟨⟨⟨⟨⟨⟨⟨⟨b1, b2⟩, b3⟩, b4⟩, ⟨⟨c1, c2⟩, c3⟩, c4⟩, ⟨⟨d1, d2⟩, d3⟩, d4⟩, ⟨⟨⟨⟨e0, e1⟩, e2⟩, e3⟩, e4⟩⟩, f1⟩, f2⟩ := hB
  obtain ⟨i0, j0⟩ := inOrder_map ks0 e0
  obtain ⟨i1, j1⟩ := inOrder_map ks1 e1
  obtain ⟨i2, j2⟩ := inOrder_map ks2 e2
  have g0 := h _ h0 rfl
  have lt : ∀ {ks : List Nat}, (ks.all fun k => decide (k < l.length)) = true → ∀ k ∈ ks, k ≠ l.toArray.size := fun hk k hm => by
    have := List.all_eq_true.1 hk k hm
    simp at this ⊢; omega
  have drop : ∀ {ks : List Nat}, (ks.all fun k => decide (k < l.length)) = true → ∀ k ∈ ks.dropLast, k ≠ l.toArray.size := fun hk k hm => lt hk k (List.dropLast_subset _ hm)
  have hQ : ∀ c a d v w, NoPanic Q (.panic c) (Act.put a d v) w → NoPanic Q (.panic c) a w := fun c a d v w h => h
  have one : ∀ {k : Nat}, k < l.length → ∃ o, inOrder l [k] = [o] ∧ l.toArray[k]? = some o := fun {k} hk => ⟨l[k], by simp [inOrder, hk], by simp [hk]⟩
  obtain ⟨o1, m1, n1⟩ := one e3
  obtain ⟨o2, m2, n2⟩ := one e4
  have rest : ∀ {segs : List (Bool × Nat)} {ks : List Nat} {listed : Array Bool} {a' : Act} {w' : World}, okSegs segs (inOrder l ks) = true → (segs.all fun s => decide (0 < s.2)) = true → eachBL .any l.toArray (flat segs) ks listed = true → (flat segs).getLast? = some true →
      (ks.all fun k => decide (k < l.length)) = true → (∃ u, w' = hold S0 { w with drawn := w.drawn + 1 } u) → wpSegsL P l.toArray (fun w' => ∃ u, w' = hold S0 { w with drawn := w.drawn + 1 } u) (NoPanic Q) segs (inOrder l ks) a' w' →
      wpAnyL P .any l.toArray l.toArray.size (fun w' => ∃ u, w' = hold S0 { w with drawn := w.drawn + 1 } u) (NoPanic Q) (inOrder l ks).length listed a' w' := by
    intro segs ks listed a' w' q1 q2 q3 q4 q5 q6 q7
    exact anyL_of_each lasts_none b1 hQ (inOrder l ks) (flat segs) ks listed a' w' (inOrder_map ks q5).1 (flat_length segs _ q1) q3 (drop q5) (fun _ hf => by rw [q4] at hf; cases hf) (fun _ => lt q5) q6 (eachL_of_segs segs _ _ _ q1 q2 q7)
  have hS0 : ∃ u, { w with drawn := w.drawn + 1 } = hold S0 { w with drawn := w.drawn + 1 } u := hold_of h0
  have g2 : wpEachF P l.toArray (fun w' => ∃ u, w' = hold S0 { w with drawn := w.drawn + 1 } u) (fun a' w' => wpAnyL P .any l.toArray l.toArray.size (fun w' => ∃ u, w' = hold S0 { w with drawn := w.drawn + 1 } u) (NoPanic Q) ((inOrder l ks1).length + 1) (setAll (Array.replicate l.toArray.size false) ks0) a' w') (inOrder l ks0) a { w with drawn := w.drawn + 1 } := by
    refine eachF_of_quiet (inOrder l ks0) a (fun o ho => List.all_eq_true.1 b3 o ho) (wpQuiet_imp (fun a' hh => ?_) _ _ g0)
    obtain ⟨x1, x2⟩ := hh
    rw [m1] at x1
    rw [m2] at x2
    refine anyL_fork b4 n1 n2 hS0 ?_ ?_
    · refine wpList_one_imp ?_ x1
      intro a'' w'' hs hk
      exact rest c1 c2 c3 c4 e1 hs hk
    · refine wpList_one_imp ?_ x2
      intro a'' w'' hs hk
      rw [j1, show ks1.length = ks2.length by omega, ← j2]
      exact rest d1 d2 d3 d4 e2 hs hk
  have g3 := anyL_of_quiets lasts_none b1 hQ (inOrder l ks0) ks0 _ _ _ i0 b2 (lt e0) hS0 g2
  have g4 := wpAnyL_any _ _ _ _ g3
  rw [j1, j0, f1] at g4
  simpa using g4
end
end Go.Seg
namespace Go.Seg
section
variable {P : Program} {ops : Array Oper} {md : Region.Mode} {S : World → Prop} {Q : Exit → Act → World → Prop} {last : Nat}
def tailB (segs : List (Bool × Nat)) (ks : List Nat) (last : Nat) : Bool := decide (∀ k ∈ ks.dropLast, k ≠ last) && (match (flat segs).getLast? with | some false => decide (ks.getLast? = some last) | _ => decide (∀ k ∈ ks, k ≠ last))
def forkL (md : Region.Mode) (l : List Oper) (ks0 : List Nat) (k1 k2 : Nat) (segs1 : List (Bool × Nat)) (ks1 : List Nat) (segs2 : List (Bool × Nat)) (ks2 : List Nat) (last : Nat) : Bool :=
  Region.noSelect l.toArray && quietB md l.toArray ks0 (Array.replicate l.toArray.size false) && (inOrder l ks0).all (fun o => valueOp o.op) && decide (Region.ready md l.toArray (setAll (Array.replicate l.toArray.size false) ks0) = [k1, k2])
    && (okSegs segs1 (inOrder l ks1) && (segs1.all fun s => decide (0 < s.2)) && eachBL md l.toArray (flat segs1) ks1 ((setAll (Array.replicate l.toArray.size false) ks0).setIfInBounds k1 true) && tailB segs1 ks1 last)
    && (okSegs segs2 (inOrder l ks2) && (segs2.all fun s => decide (0 < s.2)) && eachBL md l.toArray (flat segs2) ks2 ((setAll (Array.replicate l.toArray.size false) ks0).setIfInBounds k2 true) && tailB segs2 ks2 last)
    && (ks0.all (fun k => decide (k < l.length)) && ks1.all (fun k => decide (k < l.length)) && ks2.all (fun k => decide (k < l.length)) && decide (k1 < l.length) && decide (k2 < l.length))
    && decide (ks1.length + 1 + ks0.length = l.length) && decide (ks2.length + 1 + ks0.length = l.length) && lastsB md l.toArray last && decide (∀ k ∈ ks0, k ≠ last)
theorem wp_region_forkL {id : Nat} {a : Act} {w : World} {l : List Oper} (S0 : World → Prop) (ks0 : List Nat) (k1 k2 : Nat) (segs1 : List (Bool × Nat)) (ks1 : List Nat) (segs2 : List (Bool × Nat)) (ks2 : List Nat) (last : Nat) (hm : P.follows .mixedOrders = true)
    (hB : forkL .any l ks0 k1 k2 segs1 ks1 segs2 ks2 last = true) (h0 : S0 { w with drawn := w.drawn + 1 })
    (h : ∀ W, S0 W → W = { w with drawn := w.drawn + 1 } → wpQuiet P l.toArray (fun w' => ∃ u, w' = hold S0 W u) (fun a' =>
      wpList P l.toArray (Kept (fun w' => ∃ u, w' = hold S0 W u) fun a'' w'' => wpSegsL P l.toArray (fun w' => ∃ u, w' = hold S0 W u) (NoPanic Q) segs1 (inOrder l ks1) a'' w'') (inOrder l [k1]) a' W ∧
      wpList P l.toArray (Kept (fun w' => ∃ u, w' = hold S0 W u) fun a'' w'' => wpSegsL P l.toArray (fun w' => ∃ u, w' = hold S0 W u) (NoPanic Q) segs2 (inOrder l ks2) a'' w'') (inOrder l [k2]) a' W) (inOrder l ks0) a) : (Code.region id l.toArray true).wp P Q a w := by
  refine wp_region_noPanic (wp_region_any hm ?_)
  simp only [forkL, tailB, Bool.and_eq_true, decide_eq_true_eq] at hB
  obtain ⟨⟨⟨⟨⟨⟨⟨⟨⟨⟨b1, b2⟩, b3⟩, b4⟩, ⟨⟨⟨c1, c2⟩, c3⟩, c4, c5⟩⟩, ⟨⟨⟨d1, d2⟩, d3⟩, d4, d5⟩⟩, ⟨⟨⟨⟨e0, e1⟩, e2⟩, e3⟩, e4⟩⟩, f1⟩, f2⟩, f3⟩, f4⟩ := hB
  obtain ⟨i0, j0⟩ := inOrder_map ks0 e0
  obtain ⟨i1, j1⟩ := inOrder_map ks1 e1
  obtain ⟨i2, j2⟩ := inOrder_map ks2 e2
  have g0 := h _ h0 rfl
  have hQ : ∀ c a d v w, NoPanic Q (.panic c) (Act.put a d v) w → NoPanic Q (.panic c) a w := fun c a d v w h => h
  have one : ∀ {k : Nat}, k < l.length → ∃ o, inOrder l [k] = [o] ∧ l.toArray[k]? = some o := fun {k} hk => ⟨l[k], by simp [inOrder, hk], by simp [hk]⟩
  obtain ⟨o1, m1, n1⟩ := one e3
  obtain ⟨o2, m2, n2⟩ := one e4
  have rest : ∀ {segs : List (Bool × Nat)} {ks : List Nat} {listed : Array Bool} {a' : Act} {w' : World}, okSegs segs (inOrder l ks) = true → (segs.all fun s => decide (0 < s.2)) = true → eachBL .any l.toArray (flat segs) ks listed = true → (∀ k ∈ ks.dropLast, k ≠ last) → (match (flat segs).getLast? with | some false => decide (ks.getLast? = some last) | _ => decide (∀ k ∈ ks, k ≠ last)) = true →
      (ks.all fun k => decide (k < l.length)) = true → (∃ u, w' = hold S0 { w with drawn := w.drawn + 1 } u) → wpSegsL P l.toArray (fun w' => ∃ u, w' = hold S0 { w with drawn := w.drawn + 1 } u) (NoPanic Q) segs (inOrder l ks) a' w' →
      wpAnyL P .any l.toArray last (fun w' => ∃ u, w' = hold S0 { w with drawn := w.drawn + 1 } u) (NoPanic Q) (inOrder l ks).length listed a' w' := by
    intro segs ks listed a' w' q1 q2 q3 q4 q4' q5 q6 q7
    exact anyL_of_each (lastsB_spec f3) b1 hQ (inOrder l ks) (flat segs) ks listed a' w' (inOrder_map ks q5).1 (flat_length segs _ q1) q3 q4 (fun _ hf => by rw [hf] at q4'; simpa using q4') (fun ht => by rw [ht] at q4'; simpa using q4') q6 (eachL_of_segs segs _ _ _ q1 q2 q7)
  have hS0 : ∃ u, { w with drawn := w.drawn + 1 } = hold S0 { w with drawn := w.drawn + 1 } u := hold_of h0
  have g2 : wpEachF P l.toArray (fun w' => ∃ u, w' = hold S0 { w with drawn := w.drawn + 1 } u) (fun a' w' => wpAnyL P .any l.toArray last (fun w' => ∃ u, w' = hold S0 { w with drawn := w.drawn + 1 } u) (NoPanic Q) ((inOrder l ks1).length + 1) (setAll (Array.replicate l.toArray.size false) ks0) a' w') (inOrder l ks0) a { w with drawn := w.drawn + 1 } := by
    refine eachF_of_quiet (inOrder l ks0) a (fun o ho => List.all_eq_true.1 b3 o ho) (wpQuiet_imp (fun a' hh => ?_) _ _ g0)
    obtain ⟨x1, x2⟩ := hh
    rw [m1] at x1
    rw [m2] at x2
    refine anyL_fork b4 n1 n2 hS0 ?_ ?_
    · refine wpList_one_imp ?_ x1
      intro a'' w'' hs hk
      exact rest c1 c2 c3 c4 c5 e1 hs hk
    · refine wpList_one_imp ?_ x2
      intro a'' w'' hs hk
      rw [j1, show ks1.length = ks2.length by omega, ← j2]
      exact rest d1 d2 d3 d4 d5 e2 hs hk
  have g3 := anyL_of_quiets (lastsB_spec f3) b1 hQ (inOrder l ks0) ks0 _ _ _ i0 b2 f4 hS0 g2
  have g4 := wpAnyL_any _ _ _ _ g3
  rw [j1, j0, f1] at g4
  simpa using g4
end
end Go.Seg
namespace Go.Seg
section
variable {P : Program} {md : Region.Mode} {S : World → Prop} {Q : Exit → Act → World → Prop}
inductive Plan where
  | done
  | quiet (ks : List Nat) (p : Plan)
  | only (k : Nat) (p : Plan)
  | last (k : Nat)
  | fork (k1 : Nat) (p1 : Plan) (k2 : Nat) (p2 : Plan)
def Plan.size : Plan → Nat
  | .done => 0
  | .quiet ks p => p.size + ks.length
  | .only _ p => p.size + 1
  | .last _ => 1
  | .fork _ p1 _ p2 => max p1.size p2.size + 1
def planB (md : Region.Mode) (l : List Oper) (lst : Nat) : Plan → Array Bool → Bool
  | .done, listed => (Region.ready md l.toArray listed).isEmpty
  | .quiet ks p, listed => quietB md l.toArray ks listed && (inOrder l ks).all (fun o => valueOp o.op) && ks.all (fun k => decide (k < l.length)) && decide (∀ k ∈ ks, k ≠ lst) && planB md l lst p (setAll listed ks)
  | .only k p, listed => decide (Region.ready md l.toArray listed = [k]) && decide (k < l.length) && planB md l lst p (listed.setIfInBounds k true)
  | .last k, listed => decide (k = lst) && decide (Region.ready md l.toArray listed = [k]) && decide (k < l.length) && (Region.ready md l.toArray (listed.setIfInBounds k true)).isEmpty
  | .fork k1 p1 k2 p2, listed => decide (Region.ready md l.toArray listed = [k1, k2]) && decide (k1 < l.length) && decide (k2 < l.length) && planB md l lst p1 (listed.setIfInBounds k1 true) && planB md l lst p2 (listed.setIfInBounds k2 true)
def wpPlan (P : Program) (l : List Oper) (S : World → Prop) (Q : Exit → Act → World → Prop) : Plan → Act → World → Prop
  | .done, a, w => Q .normal a w
  | .quiet ks p, a, w => wpQuiet P l.toArray S (fun a' => wpPlan P l S Q p a' w) (inOrder l ks) a
  | .only k p, a, w => wpList P l.toArray (Kept S fun a' w' => wpPlan P l S Q p a' w') (inOrder l [k]) a w
  | .last k, a, w => wpList P l.toArray (Kept (fun _ => True) fun a' w' => Q .normal a' w') (inOrder l [k]) a w
  | .fork k1 p1 k2 p2, a, w => wpList P l.toArray (Kept S fun a' w' => wpPlan P l S Q p1 a' w') (inOrder l [k1]) a w ∧ wpList P l.toArray (Kept S fun a' w' => wpPlan P l S Q p2 a' w') (inOrder l [k2]) a w
theorem op_of_list {ops : Array Oper} {S' : World → Prop} {K K' : Act → World → Prop} {a : Act} {w : World} {k : Nat} {o : Oper} (hk : ops[k]? = some o) (hkeep : S' w) (h : wpList P ops (Kept S' K) [o] a w) (hK : ∀ a' w', S' w' → K a' w' → K' a' w') : wpOp P ops Q k K' a w := by
  unfold wpOp
  simp only [hk]
  unfold wpList at h
  split
  · rename_i hw
    rw [if_pos hw] at h
    rcases h with h | ⟨_, h⟩
    · exact .inl (wp_of_kept (fun a' w' h' => hK _ _ h'.1 h'.2) h)
    · exact absurd h not_lets
  · rename_i hw
    rw [if_neg hw] at h
    exact hK _ _ hkeep h.2
theorem one_of {l : List Oper} {k : Nat} (hk : k < l.length) : ∃ o, inOrder l [k] = [o] ∧ l.toArray[k]? = some o := ⟨l[k], by simp [inOrder, hk], by simp [hk]⟩
theorem anyL_plan {l : List Oper} {lst : Nat} (hlast : Lasts md l.toArray lst) (hs : Region.noSelect l.toArray = true) (hQ : ∀ c a d v w, Q (.panic c) (Act.put a d v) w → Q (.panic c) a w) :
    ∀ (p : Plan) (x : Nat) (listed : Array Bool) (a : Act) (w : World), planB md l lst p listed = true → S w → wpPlan P l S Q p a w → wpAnyL P md l.toArray lst S Q (p.size + x) listed a w
  | .done, x, listed, a, w, hB, hS, h => by
    have he : Region.ready md l.toArray listed = [] := by simpa [planB] using hB
    cases x with
    | zero => exact ⟨he, h⟩
    | succ x => exact ⟨fun _ => h, fun i hi => by rw [he] at hi; cases hi⟩
  | .quiet ks p, x, listed, a, w, hB, hS, h => by
    simp only [planB, Bool.and_eq_true, decide_eq_true_eq] at hB
    obtain ⟨⟨⟨⟨b1, b2⟩, b3⟩, b4⟩, b5⟩ := hB
    obtain ⟨i0, j0⟩ := inOrder_map ks b3
    have g := anyL_of_quiets (P := P) (S := S) (Q := Q) hlast hs hQ (f := p.size + x) (inOrder l ks) ks listed a w i0 b1 b4 hS
      (eachF_of_quiet (inOrder l ks) a (fun o ho => List.all_eq_true.1 b2 o ho) (wpQuiet_imp (fun a' hh => anyL_plan hlast hs hQ p x _ a' w b5 hS hh) _ _ h))
    rw [j0] at g
    show wpAnyL P md l.toArray lst S Q (p.size + ks.length + x) listed a w
    rw [show p.size + ks.length + x = p.size + x + ks.length by omega]
    exact g
  | .only k p, x, listed, a, w, hB, hS, h => by
    simp only [planB, Bool.and_eq_true, decide_eq_true_eq] at hB
    obtain ⟨⟨b1, b2⟩, b3⟩ := hB
    obtain ⟨o, m1, m2⟩ := one_of b2
    simp only [wpPlan, m1] at h
    show wpAnyL P md l.toArray lst S Q (p.size + 1 + x) listed a w
    rw [show p.size + 1 + x = p.size + x + 1 by omega]
    refine ⟨fun h1 => (by rw [b1] at h1; cases h1), fun i hi => ?_⟩
    rw [b1] at hi
    obtain rfl := List.mem_singleton.1 hi
    exact op_of_list m2 hS h fun a' w' hs' hk => ⟨fun _ => hs', anyL_plan hlast hs hQ p x _ a' w' b3 hs' hk⟩
  | .last k, x, listed, a, w, hB, hS, h => by
    simp only [planB, Bool.and_eq_true, decide_eq_true_eq] at hB
    obtain ⟨⟨⟨b0, b1⟩, b2⟩, b3⟩ := hB
    obtain ⟨o, m1, m2⟩ := one_of b2
    simp only [wpPlan, m1] at h
    show wpAnyL P md l.toArray lst S Q (1 + x) listed a w
    rw [show 1 + x = x + 1 by omega]
    refine ⟨fun h1 => (by rw [b1] at h1; cases h1), fun i hi => ?_⟩
    rw [b1] at hi
    obtain rfl := List.mem_singleton.1 hi
    have he : Region.ready md l.toArray (listed.setIfInBounds i true) = [] := by simpa using b3
    refine op_of_list m2 trivial h fun a' w' _ hk => ⟨fun hne => absurd b0 hne, ?_⟩
    cases x with
    | zero => exact ⟨he, hk⟩
    | succ x => exact ⟨fun _ => hk, fun i hi => by rw [he] at hi; cases hi⟩
  | .fork k1 p1 k2 p2, x, listed, a, w, hB, hS, h => by
    simp only [planB, Bool.and_eq_true, decide_eq_true_eq] at hB
    obtain ⟨⟨⟨⟨b1, b2⟩, b3⟩, b4⟩, b5⟩ := hB
    obtain ⟨o1, m1, n1⟩ := one_of b2
    obtain ⟨o2, m2, n2⟩ := one_of b3
    simp only [wpPlan, m1, m2] at h
    show wpAnyL P md l.toArray lst S Q (max p1.size p2.size + 1 + x) listed a w
    rw [show max p1.size p2.size + 1 + x = max p1.size p2.size + x + 1 by omega]
    refine ⟨fun h1 => (by rw [b1] at h1; cases h1), fun i hi => ?_⟩
    rw [b1] at hi
    rcases List.mem_cons.1 hi with rfl | hi
    · refine op_of_list n1 hS h.1 fun a' w' hs' hk => ⟨fun _ => hs', ?_⟩
      have := anyL_plan hlast hs hQ p1 (max p1.size p2.size - p1.size + x) _ a' w' b4 hs' hk
      rwa [show p1.size + (max p1.size p2.size - p1.size + x) = max p1.size p2.size + x by omega] at this
    · obtain rfl := List.mem_singleton.1 hi
      refine op_of_list n2 hS h.2 fun a' w' hs' hk => ⟨fun _ => hs', ?_⟩
      have := anyL_plan hlast hs hQ p2 (max p1.size p2.size - p2.size + x) _ a' w' b5 hs' hk
      rwa [show p2.size + (max p1.size p2.size - p2.size + x) = max p1.size p2.size + x by omega] at this
def planRB (l : List Oper) (lst : Nat) (p : Plan) : Bool := Region.noSelect l.toArray && lastsB .any l.toArray lst && decide (p.size ≤ l.length) && planB .any l lst p (Array.replicate l.toArray.size false)
/-- THE REGION, ALONG A PLAN. S0: what every operation but the last keeps of the world. -/
theorem wp_region_plan {id : Nat} {a : Act} {w : World} {l : List Oper} (S0 : World → Prop) (p : Plan) (lst : Nat) (hm : P.follows .mixedOrders = true) (hB : planRB l lst p = true) (h0 : S0 { w with drawn := w.drawn + 1 })
    (h : ∀ W, S0 W → W = { w with drawn := w.drawn + 1 } → wpPlan P l (fun w' => ∃ u, w' = hold S0 W u) (NoPanic Q) p a W) : (Code.region id l.toArray true).wp P Q a w := by
  refine wp_region_noPanic (wp_region_any hm ?_)
  simp only [planRB, Bool.and_eq_true, decide_eq_true_eq] at hB
  obtain ⟨⟨⟨b1, b2⟩, b3⟩, b4⟩ := hB
  have g := anyL_plan (md := .any) (lastsB_spec b2) b1 (fun c a d v w h => h) p (l.length - p.size) _ a _ b4 (hold_of h0) (h _ h0 rfl)
  rw [show p.size + (l.length - p.size) = l.length by omega] at g
  have g4 := wpAnyL_any _ _ _ _ g
  simpa using g4
end
end Go.Seg
namespace Go.Grow
open Go.RowKit
/-- The facts on a slice type and its element type. -/
def Kind (P : Program) (t e : TypeId) (size bytes : Nat) : Prop :=
  ∃ i z, P.underlying t = some (.slice e) ∧ P.info? e = some i ∧ i.zero = some z ∧ i.size = size ∧ i.bytes = bytes ∧ z.cells.size = size ∧ 0 < size ∧ bytes ≤ 1000
theorem Kind.mk' {P : Program} {t e : TypeId} {size bytes : Nat} {z : Value} (h1 : P.underlying t = some (.slice e)) (h2 : (P.info? e).map (fun i => (i.zero, i.size, i.bytes)) = some (some z, size, bytes)) (h3 : z.cells.size = size) (h4 : 0 < size) (h5 : bytes ≤ 1000) : Kind P t e size bytes := by
  obtain ⟨i, hi, hz0, hz1, hz2⟩ := info_parts h2
  exact ⟨i, z, h1, hi, hz0, hz1, hz2, h3, h4, h5⟩
section
variable {P : Program} {t e : TypeId} {size bytes : Nat}
theorem append_where (K : Kind P t e size bytes) {w : World} {base ty : Nat} {v : Value} {n : Nat} {xs : List Value} (hown : w.ownsRow base e size v n xs) (a : Addr) (m c : Nat) (news : List Value) (hl : news.length = m * size) (hnews : ∀ j u, news[j]? = some u → w.cell? (a.add j) = some u)
    (h1 : ∀ u ∈ news, u.oneCell' = true) (hs : n + m ≤ 1000000) {v' : Value} {w' : World} (hr : (Builtin.append_ #[t, t] ty #[v, .slice (some a) m c]).run P w = .ok v' w') :
    (∀ k, v'.ownBlock = some k → v.ownBlock = some k ∨ w.heap.size ≤ k) := by
  obtain ⟨i, z, ht, hi, hz, hz1, hz2, hzs, hsz, hby⟩ := K
  have hl' : news.length = m * i.size := by rw [hz1, hl]
  have hb : ∀ k, k ≤ 1000000 → k * i.bytes ≤ 1000000000 := fun k hk => by
    rw [hz2]; exact Nat.le_trans (Nat.mul_le_mul hk hby) (by decide)
  intro k hk
  rcases hown.2 with ⟨rfl, rfl⟩ | ⟨g, cap, cur, rfl, hbg, hg, hnc, hcm, hcs, htake⟩
  · by_cases hm : m = 0
    · subst hm
      have hn : news = [] := List.eq_nil_of_length_eq_zero (by rw [hl, Nat.zero_mul])
      subst hn
      have h2 : (Builtin.append_ #[t, t] ty #[.slice none 0 0, .slice (some a) 0 c]).run P w = .ok (.slice none 0 0) w := by
        simp [Builtin.append_, run_underlying ht, sizeOf, typeInfo, hi, Builtin.lenOf, Builtin.firstCells, loadCells, loadCellsFrom]
      rw [h2] at hr
      cases hr
      simp [Value.ownBlock] at hk
    · have h2 := run_append_nil (P := P) w t ty e i _ ht hi hz a m c news hl' hnews (by omega) (by omega) (by have := hb m (by omega); omega)
      rw [h2] at hr
      cases hr
      simp [Value.ownBlock] at hk
      omega
  · by_cases hroom : n + m ≤ cap
    · have hfit : n * i.size + news.length ≤ cur.size := by
        rw [hl, hcs, hz1, ← Nat.add_mul]; exact Nat.mul_le_mul_right _ hroom
      have h2 := run_append_room (P := P) w t ty e i ht hi g n cap cur hg a m c news hl' hnews h1 hroom hfit
      rw [h2] at hr
      cases hr
      exact .inl (by simpa [Value.ownBlock] using hk)
    · have holds : ∀ j u, xs[j]? = some u → w.cell? ((⟨g, 0, none⟩ : Addr).add j) = some u := hown.cells (g := g) rfl
      have h2 := run_append_grow (P := P) w t ty e i _ ht hi hz ⟨g, 0, none⟩ n cap xs (by rw [hz1]; exact hown.1) holds a m c news hl' hnews (by omega) (by omega) (growslice_fits (by omega) (by have := hb (n + m) hs; omega))
      rw [h2] at hr
      cases hr
      simp [Value.ownBlock] at hk
      omega
/-- What is appended: nothing (nil), or cells that lie at an address. -/
def Src (w : World) (size : Nat) (ax : Option Addr) (m c : Nat) (news : List Value) : Prop :=
  news.length = m * size ∧ (∀ u ∈ news, u.oneCell' = true) ∧ ((ax = none ∧ m = 0 ∧ c = 0) ∨ ∃ ad, ax = some ad ∧ ∀ j u, news[j]? = some u → w.cell? (ad.add j) = some u)
theorem wpList_append_k (K : Kind P t e size bytes) {w : World} {ops : Array Oper} {rest : List Oper} {o : Oper} {a : Act} {Q : Exit → Act → World → Prop} {base : Nat} (hgd : o.guard = none) (s x : Operand)
    (ho : o.op = .call { callee := .builtin .append, args := #[s, x], argTypes := #[t, t] })
    (v : Value) (n : Nat) (l : List Value) (hs : a.eval s = v) (hown : w.ownsRow base e size v n l)
    (ax : Option Addr) (m c : Nat) (news : List Value) (hx : a.eval x = .slice ax m c) (hsrc : Src w size ax m c news)
    (hlen : n + m ≤ 1000000) (hbase : base ≤ w.heap.size)
    (h : ∀ v' w', w'.ownsRow base e size v' (n + m) (l ++ news) → w.grownBy w' v.ownBlock → (∀ k, v'.ownBlock = some k → v.ownBlock = some k ∨ w.heap.size ≤ k) → wpList P ops Q rest (a.put o.dst v') w') : wpList P ops Q (o :: rest) a w := by
  have K' := K
  obtain ⟨i, z, ht, hi, hz, hz1, hz2, hzs, hsz, hby⟩ := K'
  obtain ⟨hl, h1, hcase⟩ := hsrc
  refine wpList_plain hgd fun KK hK => ?_
  rcases hcase with ⟨rfl, rfl, rfl⟩ | ⟨ad, rfl, hnews⟩
  · have hn : news = [] := List.eq_nil_of_length_eq_zero (by rw [hl, Nat.zero_mul])
    subst hn
    have hr := run_append_owned_none (P := P) w base t o.type e i size ht hi v n l hown
    unfold Oper.wp execOp
    simp only [ho, resolve, invoke, builtin, Sem.run_bind, Sem.run_pure, Result.andThen_ok, List.map_toArray, List.map_cons, List.map_nil, hs, hx, hr]
    exact hK _ _ (h v w (by simpa using hown) (World.grownBy.refl w _) (fun k hk => .inl hk))
  · have hb : (n + m) * bytes ≤ 1000000000 := Nat.le_trans (Nat.mul_le_mul hlen hby) (by decide)
    obtain ⟨v', w', hr, h2, h3, _⟩ := run_append_own (P := P) w base t o.type e i z size bytes ht hi hz hz1 hz2 hzs hsz v n _ hown ad m c news hl hnews h1 (by unfold maxLen; omega) (by omega) hbase
    have h4 := append_where K hown ad m c news hl hnews h1 hlen hr
    unfold Oper.wp execOp
    simp only [ho, resolve, invoke, builtin, Sem.run_bind, Sem.run_pure, Result.andThen_ok, List.map_toArray, List.map_cons, List.map_nil, hs, hx, hr]
    exact hK _ _ (h v' w' h2 h3 h4)
end
/-- Cells in a new block. -/
theorem src_new (w : World) (cs : Array Value) (t : TypeId) (size m c : Nat) (hl : cs.size = m * size) (h1 : ∀ u ∈ cs.toList, u.oneCell' = true) : Src (w.alloc (.cells cs t)) size (some ⟨w.heap.size, 0, none⟩) m c cs.toList := by
  refine ⟨by simpa using hl, h1, .inr ⟨_, rfl, fun j u hj => ?_⟩⟩
  rw [show (⟨w.heap.size, 0, none⟩ : Addr).add j = ⟨w.heap.size, j, none⟩ by unfold Addr.add; split <;> simp_all]
  have : (w.alloc (.cells cs t)).heap[w.heap.size]? = some (.cells cs t) := by
    show (w.heap.push _)[w.heap.size]? = _; simp
  rw [World.cell?, this]
  simpa using hj
theorem below_grown {B : Nat} {w w' : World} (hb : Below w.heap.size w w') : w.grownBy w' (some (w.heap.size + B)) :=
  ⟨hb.os, hb.tape, hb.output, hb.size, fun k hk _ => hb.block k hk⟩
theorem own_later {w w' : World} {B e size n : Nat} {v : Value} {xs : List Value} (h : w.ownsRow B e size v n xs) (hb : Below w.heap.size w w') : w'.ownsRow B e size v n xs :=
  h.kept (row := none) ⟨hb.os, hb.tape, hb.output, hb.size, fun k hk _ => hb.block k hk⟩ (by cases hv : v.ownBlock <;> simp)
theorem own_weaken {w : World} {B B' e size n : Nat} {v : Value} {xs : List Value} (h : w.ownsRow B e size v n xs) (hb : B' ≤ B) : w.ownsRow B' e size v n xs := by
  refine ⟨h.1, ?_⟩
  rcases h.2 with h1 | ⟨g, cap, cur, h1, h2, h3⟩
  · exact .inl h1
  · exact .inr ⟨g, cap, cur, h1, by omega, h3⟩
theorem own_form {w : World} {B e size n : Nat} {v : Value} {xs : List Value} (h : w.ownsRow B e size v n xs) : ∃ a c, v = .slice a n c ∧ n ≤ c ∧ c ≤ maxLen ∧ (a = none → c = 0) := by
  rcases h.2 with ⟨rfl, rfl⟩ | ⟨g, cap, cur, rfl, _, _, h1, h2, _⟩
  · exact ⟨none, 0, rfl, Nat.le_refl _, Nat.zero_le _, fun _ => rfl⟩
  · exact ⟨_, cap, rfl, h1, h2, fun h => by cases h⟩
theorem own_pos {w : World} {B e size n : Nat} {v : Value} {xs : List Value} (h : w.ownsRow B e size v n xs) (hn : 0 < n) : ∃ g c, v = .slice (some ⟨g, 0, none⟩) n c ∧ B ≤ g ∧ g < w.heap.size ∧ n ≤ c ∧ c ≤ maxLen := by
  have hlt := h.lt
  rcases h.2 with ⟨rfl, rfl⟩ | ⟨g, cap, cur, rfl, h0, _, h1, h2, _⟩
  · omega
  · exact ⟨g, cap, rfl, h0, (hlt g rfl).2, h1, h2⟩
end Go.Grow
namespace Go.Over
open Go.RowKit

theorem below_then {w w1 w2 : World} (h1 : Below w.heap.size w w1) (h2 : Below w1.heap.size w1 w2) : Below w.heap.size w w2 := h1.trans (h2.mono h1.size)
theorem below_alloc {w w1 : World} (h : Below w.heap.size w w1) (o : Obj) : Below w.heap.size w (w1.alloc o) := h.alloc h.size o
theorem bcell {W w1 : World} (hb : Below W.heap.size W w1) : (∀ b o, b < W.heap.size → w1.cell? ⟨b, o, none⟩ = W.cell? ⟨b, o, none⟩) ∧ (∀ b o, b < W.heap.size → w1.frozen? ⟨b, o, none⟩ = W.frozen? ⟨b, o, none⟩) :=
  ⟨fun b o h => hb.cell (p := ⟨b, o, none⟩) h, fun b o h => hb.frozen (p := ⟨b, o, none⟩) h⟩

/-! Cells in a world with new blocks, as 'if's over the blocks' numbers: the walk decides them by omega. -/
theorem cell_alloc_ite (w : World) (c : Array Value) (t : TypeId) (n i : Nat) :
    (w.alloc (.cells c t)).cell? ⟨n, i, none⟩ = if n < w.heap.size then w.cell? ⟨n, i, none⟩ else if n = w.heap.size then c[i]? else none := by
  split
  · exact World.cell?_alloc_past _ _ _ ‹_›
  · split
    · exact World.cell?_alloc_at _ _ _ _ ‹_›
    · have : (w.alloc (.cells c t)).heap[n]? = none := by
        show (w.heap.push _)[n]? = none
        rw [Array.getElem?_eq_none]; simp; omega
      simp [World.cell?, this]
theorem frozen_alloc_ite (w : World) (c : Array Value) (t : TypeId) (n i : Nat) :
    (w.alloc (.cells c t)).frozen? ⟨n, i, none⟩ = if n < w.heap.size then w.frozen? ⟨n, i, none⟩ else false := by
  split
  · exact World.frozen?_alloc_past _ _ _ ‹_›
  · rename_i h
    by_cases h2 : n = w.heap.size
    · exact World.frozen?_alloc_at _ _ _ _ h2
    · have : (w.alloc (.cells c t)).heap[n]? = none := by
        show (w.heap.push _)[n]? = none
        rw [Array.getElem?_eq_none]; simp; omega
      simp [World.frozen?, this]
/-- What a world holds beyond what is known of it. -/
def fresh (w : World) (b o : Nat) : Option Value := w.cell? ⟨b, o, none⟩
def freshF (w : World) (b o : Nat) : Bool := w.frozen? ⟨b, o, none⟩
theorem bcell2 {W w1 : World} (hb : Below W.heap.size W w1) : (∀ b o, w1.cell? ⟨b, o, none⟩ = if b < W.heap.size then W.cell? ⟨b, o, none⟩ else fresh w1 b o) ∧ (∀ b o, w1.frozen? ⟨b, o, none⟩ = if b < W.heap.size then W.frozen? ⟨b, o, none⟩ else freshF w1 b o) ∧ W.heap.size ≤ w1.heap.size := by
  refine ⟨fun b o => ?_, fun b o => ?_, hb.size⟩
  · split
    · exact hb.cell (p := ⟨b, o, none⟩) ‹_›
    · rfl
  · split
    · exact hb.frozen (p := ⟨b, o, none⟩) ‹_›
    · rfl
attribute [go_sem 100] cell_alloc_ite frozen_alloc_ite

open Classical in
/-- A world that is 'w and what is new', given as one: 'u' if it is such a world, else w itself. -/
noncomputable def over (w u : World) : World := if Below w.heap.size w u then u else w

theorem below_over (w u : World) : Below w.heap.size w (over w u) := by
  unfold over
  split
  · assumption
  · exact Below.refl _ _
theorem over_of {w u : World} (h : Below w.heap.size w u) : u = over w u := by
  unfold over; rw [if_pos h]
theorem over_cell {w : World} {a : Addr} {v : Value} (h : w.cell? a = some v) (u : World) : (over w u).cell? a = some v := cell_later (below_over w u) h

/-- A callee's contract, met in the class. -/
theorem calls_over {P : Program} {f : FuncId} {args : Array Value} {w u : World} {v : Value}
    (h : Calls P f args (over w u) fun e w' => e = .returned v ∧ Below (over w u).heap.size (over w u) w') :
    Calls P f args (over w u) fun e w'' => e = .returned v ∧ ∃ u', w'' = over w u' :=
  h.mono fun _ w'' ⟨he, hb⟩ => ⟨he, w'', over_of (below_then (below_over w u) hb)⟩
theorem calls_over_same {P : Program} {f : FuncId} {args : Array Value} {w u : World} {v : Value}
    (h : Calls P f args (over w u) fun e w' => e = .returned v ∧ over w u = w') :
    Calls P f args (over w u) fun e w'' => e = .returned v ∧ ∃ u', w'' = over w u' :=
  h.mono fun _ _ ⟨he, hb⟩ => ⟨he, u, hb.symm⟩

theorem wp_region_over {P : Program} {id : Nat} {Q : Exit → Act → World → Prop} {a : Act} {w : World} {l : List Oper} (hm : P.follows .mixedOrders = true) (hB : Region.lexB .any l.toArray = true)
    (h : wpQuiet P l.toArray (fun w' => ∃ u, w' = over w u) (fun a' => ∀ w', (∃ u, w' = over w u) → Q .normal a' w') l a) : (Code.region id l.toArray true).wp P Q a w :=
  wp_region_quiet (C := fun w' => ∃ u, w' = over w u) hm hB ⟨_, over_of (w := w) (u := { w with drawn := w.drawn + 1 }) (Below.drew (Below.refl _ _))⟩ (by simpa using h)

/-- Of the world only what is wanted is kept. -/
theorem wp_forget {P : Program} {c : Code} {Q : Exit → Act → World → Prop} {a : Act} {w : World} (F : World → Prop) (h : F w) (k : ∀ W, F W → c.wp P Q a W) : c.wp P Q a w := k w h
end Go.Over
namespace Go.Grow
open Go.RowKit Go.Over
def Blk (w : World) (g : Nat) (t : TypeId) (cs : List Value) : Prop := w.heap[g]? = some (.cells cs.toArray t (0, 0))
section
variable {w w' : World} {g : Nat} {t : TypeId} {cs : List Value}
theorem Blk.lt (h : Blk w g t cs) : g < w.heap.size := by
  rcases Nat.lt_or_ge g w.heap.size with hlt | hge
  · exact hlt
  · unfold Blk at h
    rw [Array.getElem?_eq_none hge] at h
    cases h
theorem Blk.cell (h : Blk w g t cs) (i : Nat) : w.cell? ⟨g, i, none⟩ = cs[i]? := by
  unfold Blk at h
  simp [World.cell?, h]
theorem Blk.frozen (h : Blk w g t cs) (i : Nat) : w.frozen? ⟨g, i, none⟩ = false := by
  unfold Blk at h
  simp [World.frozen?, h]
theorem Blk.new (w : World) (t : TypeId) (cs : Array Value) (l : List Value) (hl : cs = l.toArray) : Blk (w.alloc (.cells cs t)) w.heap.size t l := by
  subst hl
  show (w.heap.push _)[w.heap.size]? = _
  simp
theorem Blk.alloc (h : Blk w g t cs) (o : Obj) : Blk (w.alloc o) g t cs := by
  have := h.lt
  unfold Blk at h ⊢
  rw [Below.heap_alloc w o g this, h]
theorem Blk.below {B : Nat} (h : Blk w g t cs) (hb : Below B w w') (hg : g < B) : Blk w' g t cs := by
  unfold Blk at h ⊢
  rw [hb.block g hg, h]
theorem Blk.later (h : Blk w g t cs) (hb : Below w.heap.size w w') : Blk w' g t cs := h.below hb h.lt
theorem Blk.grown {row : Option Nat} (h : Blk w g t cs) (hb : w.grownBy w' row) (hg : row ≠ some g) : Blk w' g t cs := by
  unfold Blk at h ⊢
  rw [hb.block g (Blk.lt h) (fun e => hg e.symm), h]
theorem Blk.set (h : Blk w g t cs) (i : Nat) (u : Value) : Blk (w.setCell ⟨g, i, none⟩ u) g t (cs.set i u) := by
  unfold Blk at h ⊢
  simp [World.setCell, Array.getElem?_modify, h]
theorem Blk.far (h : Blk w g t cs) {p : Addr} (hp : g ≠ p.block) (u : Value) : Blk (w.setCell p u) g t cs := by
  unfold Blk at h ⊢
  rw [Below.heap_setCell w p u g hp, h]
theorem Blk.ne_type {g' : Nat} {t' : TypeId} {cs' : List Value} (h : Blk w g t cs) (h' : Blk w g' t' cs') (hne : t ≠ t') : g ≠ g' := by
  intro e
  subst e
  unfold Blk at h h'
  rw [h] at h'
  injection h' with h'
  injection h' with _ h2
  exact hne h2
/-- A row of another element type lies in another block. -/
theorem Blk.not_own {base e size n : Nat} {v : Value} {xs : List Value} (h : Blk w g t cs) (ho : w.ownsRow base e size v n xs) (hne : e ≠ t) : v.ownBlock ≠ some g := by
  rcases ho.2 with ⟨rfl, _⟩ | ⟨g', cap, cur, rfl, _, hh, _⟩
  · simp [Value.ownBlock]
  · intro he
    have e1 : g' = g := by simpa [Value.ownBlock] using he
    subst e1
    unfold Blk at h
    rw [h] at hh
    injection hh with hh
    injection hh with _ h2
    exact hne h2.symm
end
end Go.Grow
namespace Go.Grow
open Go.RowKit Go.Over
/-- A row overwritten from place o on. -/
def lay (L : List Value) (o : Nat) (cs : List Value) : List Value := L.take o ++ cs ++ L.drop (o + cs.length)
theorem lay_len {L : List Value} {o : Nat} {cs : List Value} (h : o + cs.length ≤ L.length) : (lay L o cs).length = L.length := by
  simp [lay]; omega
theorem blk_setRow {w : World} {g : Nat} {T : TypeId} {cur new : List Value} (h : Blk w g T cur) : Blk (w.setRow g new.toArray) g T new ∧ w.grownBy (w.setRow g new.toArray) (some g) := by
  refine ⟨setRow_heap w g _ _ T _ h, rfl, rfl, rfl, by simp [World.setRow], fun k _ hk => setRow_other w g k _ (fun e => hk (by rw [e]))⟩
section
variable {P : Program} {t e : TypeId} {size bytes : Nat}
theorem run_copy_k (K : Kind P t e size bytes) {w : World} (ty : TypeId) (g o dLen dCap : Nat) (a : Addr) (sLen sCap : Nat) (cur : List Value) (T : TypeId) (cs : List Value) (hg : Blk w g T cur) (hn : cs.length = Nat.min sLen dLen * size)
    (hsrc : ∀ j v, cs[j]? = some v → w.cell? (a.add j) = some v) (hfit : o + cs.length ≤ cur.length) (h1 : ∀ v ∈ cs, v.oneCell' = true) :
    ∃ w', (Builtin.copy_ #[t, t] ty #[.slice (some ⟨g, o, none⟩) dLen dCap, .slice (some a) sLen sCap]).run P w = .ok (goInt (Nat.min sLen dLen)) w' ∧ Blk w' g T (lay cur o cs) ∧ w.grownBy w' (some g) := by
  obtain ⟨i, z, ht, hi, hz, hz1, hz2, hzs, hsz, hby⟩ := K
  have hl := run_loadCells_list (P := P) w a cs hsrc
  have hst := run_storeCells_at P g o T cs 0 cur.toArray w hg (by simpa using hfit) h1
  refine ⟨_, ?_, blk_setRow hg⟩
  simp only [Nat.add_zero] at hst
  simp [Builtin.copy_, run_underlying ht, Builtin.lenOf, Builtin.firstCells, sizeOf, typeInfo, hi, hz1, ← hn, hl, hst, lay]
theorem wpList_copy_k (K : Kind P t e size bytes) {w : World} {ops : Array Oper} {rest : List Oper} {o : Oper} {a : Act} {Q : Exit → Act → World → Prop} (hgd : o.guard = none) (d s : Operand)
    (ho : o.op = .call { callee := .builtin .copy, args := #[d, s], argTypes := #[t, t] })
    (g off dLen dCap : Nat) (ad : Addr) (sLen sCap : Nat) (hd : a.eval d = .slice (some ⟨g, off, none⟩) dLen dCap) (hs : a.eval s = .slice (some ad) sLen sCap)
    (cur : List Value) (T : TypeId) (cs : List Value) (hg : Blk w g T cur) (hn : cs.length = Nat.min sLen dLen * size)
    (hsrc : ∀ j v, cs[j]? = some v → w.cell? (ad.add j) = some v) (hfit : off + cs.length ≤ cur.length) (h1 : ∀ v ∈ cs, v.oneCell' = true)
    (h : ∀ w', Blk w' g T (lay cur off cs) → w.grownBy w' (some g) → wpList P ops Q rest (a.put o.dst (goInt (Nat.min sLen dLen))) w') : wpList P ops Q (o :: rest) a w := by
  refine wpList_plain hgd fun KK hK => ?_
  obtain ⟨w', hr, h2, h3⟩ := run_copy_k K o.type g off dLen dCap ad sLen sCap cur T cs hg hn hsrc hfit h1
  unfold Oper.wp execOp
  simp only [ho, resolve, invoke, builtin, Sem.run_bind, Sem.run_pure, Result.andThen_ok, List.map_toArray, List.map_cons, List.map_nil, hd, hs, hr]
  exact hK _ _ (h w' h2 h3)
/-- The cells of n zero values. -/
def zeros (z : Value) (n : Nat) : List Value := (Builtin.zeroCells z.cells n).toList
theorem wpList_clear_k (ht : P.underlying t = some (.slice e)) (hi : ∃ i z, P.info? e = some i ∧ i.zero = some z ∧ z.cells.size = size ∧ ∀ v ∈ z.cells.toList, v.oneCell' = true) {w : World} {ops : Array Oper} {rest : List Oper} {o : Oper} {a : Act} {Q : Exit → Act → World → Prop} (hgd : o.guard = none) (s : Operand)
    (ho : o.op = .call { callee := .builtin .clear, args := #[s], argTypes := #[t] })
    (g off n c : Nat) (hs : a.eval s = .slice (some ⟨g, off, none⟩) n c) (hn0 : 0 < n)
    (cur : List Value) (T : TypeId) (hg : Blk w g T cur) (hfit : off + n * size ≤ cur.length)
    (h : ∀ w' new, Blk w' g T new → new.length = cur.length → new.take off = cur.take off → w.grownBy w' (some g) → wpList P ops Q rest (a.put o.dst (.tuple #[])) w') : wpList P ops Q (o :: rest) a w := by
  obtain ⟨i, z, hi, hz, hzs, hz1⟩ := hi
  refine wpList_plain hgd fun KK hK => ?_
  have hlen : (zeros z n).length = n * size := by simp [zeros, Builtin.zeroCells, hzs]
  have h1 : ∀ v ∈ zeros z n, v.oneCell' = true := by
    intro v hv
    simp only [zeros, Builtin.zeroCells, Array.toList_map, List.mem_map] at hv
    obtain ⟨j, hj, rfl⟩ := hv
    have hj2 : j < n * size := by simpa [hzs] using hj
    have hpos : 0 < z.cells.size := by
      rcases Nat.eq_zero_or_pos z.cells.size with h0 | h0
      · rw [← hzs, h0, Nat.mul_zero] at hj2; omega
      · exact h0
    have hlt : j % z.cells.size < z.cells.size := Nat.mod_lt _ hpos
    rw [getElem!_pos z.cells (j % z.cells.size) hlt]
    exact hz1 _ (by simp)
  have hst := run_storeCells_at P g off T (zeros z n) 0 cur.toArray w hg (by rw [hlen]; simpa using hfit) h1
  simp only [Nat.add_zero] at hst
  obtain ⟨n, rfl⟩ : ∃ k, n = k + 1 := ⟨n - 1, by omega⟩
  have hr : (Builtin.clear_ #[t] o.type #[.slice (some ⟨g, off, none⟩) (n + 1) c]).run P w = .ok (.tuple #[]) (w.setRow g (lay cur off (zeros z (n + 1))).toArray) := by
    have hv : (zeroValue e).run P w = .ok z w := by simp [zeroValue, typeInfo, hi, hz]
    have hst2 : (storeCells ⟨g, off, none⟩ (Builtin.zeroCells z.cells (n + 1)).toList 0).run P w = .ok () (w.setRow g (lay cur off (zeros z (n + 1))).toArray) := hst
    simp [Builtin.clear_, run_underlying ht, hv, hst2]
  obtain ⟨q1, q2⟩ := blk_setRow (new := lay cur off (zeros z (n + 1))) hg
  have hln := lay_len (L := cur) (o := off) (cs := zeros z (n + 1)) (by rw [hlen]; exact hfit)
  have htk : (lay cur off (zeros z (n + 1))).take off = cur.take off := by
    have : off ≤ cur.length := by omega
    simp [lay, List.take_append, List.take_take]
    omega
  unfold Oper.wp execOp
  simp only [ho, resolve, invoke, builtin, Sem.run_bind, Sem.run_pure, Result.andThen_ok, List.map_toArray, List.map_cons, List.map_nil, hs, hr]
  exact hK _ _ (h _ _ q1 hln htk q2)
/-- append within the capacity. -/
theorem wpList_append_room_k (K : Kind P t e size bytes) {w : World} {ops : Array Oper} {rest : List Oper} {o : Oper} {a : Act} {Q : Exit → Act → World → Prop} (hgd : o.guard = none) (s x : Operand)
    (ho : o.op = .call { callee := .builtin .append, args := #[s, x], argTypes := #[t, t] })
    (g n cap : Nat) (ad : Addr) (m c : Nat) (hs : a.eval s = .slice (some ⟨g, 0, none⟩) n cap) (hx : a.eval x = .slice (some ad) m c)
    (cur : List Value) (hg : Blk w g e cur) (news : List Value) (hl : news.length = m * size) (hnews : ∀ j u, news[j]? = some u → w.cell? (ad.add j) = some u) (h1 : ∀ u ∈ news, u.oneCell' = true)
    (hroom : n + m ≤ cap) (hcap : cur.length = cap * size)
    (h : ∀ w', Blk w' g e (lay cur (n * size) news) → w.grownBy w' (some g) → wpList P ops Q rest (a.put o.dst (.slice (some ⟨g, 0, none⟩) (n + m) cap)) w') : wpList P ops Q (o :: rest) a w := by
  obtain ⟨i, z, ht, hi, hz, hz1, hz2, hzs, hsz, hby⟩ := K
  refine wpList_plain hgd fun KK hK => ?_
  have hfit : n * i.size + news.length ≤ cur.toArray.size := by
    simp only [List.size_toArray]
    rw [hl, hcap, hz1, ← Nat.add_mul]; exact Nat.mul_le_mul_right _ hroom
  have hr := run_append_room (P := P) w t o.type e i ht hi g n cap cur.toArray hg ad m c news (by rw [hz1]; exact hl) hnews h1 hroom hfit
  obtain ⟨q1, q2⟩ := blk_setRow (new := lay cur (n * size) news) hg
  unfold Oper.wp execOp
  simp only [ho, resolve, invoke, builtin, Sem.run_bind, Sem.run_pure, Result.andThen_ok, List.map_toArray, List.map_cons, List.map_nil, hs, hx, hr]
  refine hK _ _ ?_
  have e1 : (cur.toArray.toList.take (n * i.size) ++ news ++ cur.toArray.toList.drop (n * i.size + news.length)).toArray = (lay cur (n * size) news).toArray := by
    rw [hz1]; simp [lay]
  first
    | (rw [e1]; exact h _ q1 q2)
    | (simp only [hz1] at *; exact h _ q1 q2)
/-- append of a make, beyond the capacity: a new row. -/
theorem wpList_append_zeros_k (K : Kind P t e size bytes) {w : World} {ops : Array Oper} {rest : List Oper} {o : Oper} {a : Act} {Q : Exit → Act → World → Prop} (hgd : o.guard = none) (s x : Operand) (tn : TypeId) (htn : P.underlying tn = some (.int .i64))
    (ho : o.op = .call { callee := .builtin .append, args := #[s, x], argTypes := #[t, tn] })
    (ad : Addr) (n cap k : Nat) (hs : a.eval s = .slice (some ad) n cap) (hx : a.eval x = .int .i64 (k : Nat))
    (olds : List Value) (hl : olds.length = n * size) (hold : ∀ j u, olds[j]? = some u → w.cell? (ad.add j) = some u)
    (hk : 0 < k) (hcap : cap < n + k) (hlen : n + k ≤ 1000000)
    (h : ∀ w' G zs, Blk w' w.heap.size e (olds ++ zs) → olds.length + zs.length = G * size → n + k ≤ G → G ≤ maxLen → w.grownBy w' none → w.heap.size < w'.heap.size →
      wpList P ops Q rest (a.put o.dst (.slice (some ⟨w.heap.size, 0, none⟩) (n + k) G)) w') : wpList P ops Q (o :: rest) a w := by
  obtain ⟨i, z, ht, hi, hz, hz1, hz2, hzs, hsz, hby⟩ := K
  have hb : ∀ q, q ≤ 1000000 → q * i.bytes ≤ 1000000000 := fun q hq => by
    rw [hz2]; exact Nat.le_trans (Nat.mul_le_mul hq hby) (by decide)
  refine wpList_plain hgd fun KK hK => ?_
  have hf : (Builtin.firstCells i.size n (.slice (some ad) n cap)).run P w.drew = .ok olds.toArray w.drew := by
    rw [hz1]
    exact run_firstCells_some w.drew size n ad n cap olds hl hold
  have hr := Lib.run_append_grow_zeros w t tn o.type e i z .i64 .i64 ht htn hi hz (some ad) n cap olds hf k hk (by omega) hcap (by omega) (by have := hb k (by omega); omega) (growslice_fits (by omega) (by have := hb (n + k) hlen; omega))
  have hG1 : n + k ≤ grownCap w (n + k) cap e := grownCap_ge w _ _ _
  have hG2 : grownCap w (n + k) cap e ≤ maxLen := grownCap_le_maxLen w (n + k) cap e (by unfold maxLen; omega)
  obtain ⟨G, hG⟩ : ∃ G, grownCap w (n + k) cap e = G := ⟨_, rfl⟩
  rw [hG] at hr hG1 hG2
  unfold Oper.wp execOp
  simp only [ho, resolve, invoke, builtin, Sem.run_bind, Sem.run_pure, Result.andThen_ok, List.map_toArray, List.map_cons, List.map_nil, hs, hx, hr]
  refine hK _ _ (h _ G ((Builtin.zeroCells z.cells k).toList ++ (Builtin.zeroCells z.cells (G - (n + k))).toList) ?_ ?_ hG1 hG2 ?_ ?_)
  · refine Blk.new w.drew e _ _ ?_
    apply Array.ext'
    simp
  · simp only [List.length_append, Array.length_toList, Builtin.zeroCells, Array.size_map, Array.size_range, hzs, hl]
    rw [← Nat.add_mul, ← Nat.add_mul]
    congr 1; omega
  · exact ⟨rfl, rfl, rfl, by simp, fun q hq _ => Below.heap_alloc w.drew _ q hq⟩
  · simp
end
end Go.Grow
namespace Go.Can
def pw (k : Nat) : Int := ((2 ^ k : Nat) : Int)
theorem pw_cases {k : Nat} (h : k ≤ 4) : (k = 0 ∧ pw k = 1) ∨ (k = 1 ∧ pw k = 2) ∨ (k = 2 ∧ pw k = 4) ∨ (k = 3 ∧ pw k = 8) ∨ (k = 4 ∧ pw k = 16) := by
  have h2 : k = 0 ∨ k = 1 ∨ k = 2 ∨ k = 3 ∨ k = 4 := by omega
  rcases h2 with rfl | rfl | rfl | rfl | rfl <;> decide
theorem pw_pos (k : Nat) : 0 < pw k := by unfold pw; have := Nat.pow_pos (n := k) (show 0 < 2 by decide); omega
theorem pw_succ (k : Nat) : pw (k + 1) = 2 * pw k := by unfold pw; rw [Nat.pow_succ]; omega
theorem pw_zero : pw 0 = 1 := rfl
/-- The frame x lies in the block of order k at f. -/
def In (f : Int) (k : Nat) (x : Int) : Prop := f ≤ x ∧ x < f + pw k
theorem in_self (f : Int) (k : Nat) : In f k f := ⟨Int.le_refl _, by have := pw_pos k; omega⟩
theorem nest {f g x : Int} {k j : Nat} (hk : k ≤ 4) (hjk : j ≤ k) (hf : f % pw k = 0) (hg : g % pw j = 0) (h1 : In f k x) (h2 : In g j x) : f ≤ g ∧ g + pw j ≤ f + pw k := by
  obtain ⟨a1, a2⟩ := h1
  obtain ⟨b1, b2⟩ := h2
  rcases pw_cases hk with ⟨k1, k2⟩ | ⟨k1, k2⟩ | ⟨k1, k2⟩ | ⟨k1, k2⟩ | ⟨k1, k2⟩ <;>
    rcases pw_cases (show j ≤ 4 by omega) with ⟨j1, j2⟩ | ⟨j1, j2⟩ | ⟨j1, j2⟩ | ⟨j1, j2⟩ | ⟨j1, j2⟩ <;>
    (rw [k2] at hf a2 ⊢; rw [j2] at hg b2 ⊢; omega)
/-- Admissible blocks: aligned, and with a block its halves. -/
structure Reg (R : Int → Nat → Prop) : Prop where
  le : ∀ {f k}, R f k → k ≤ 4
  al : ∀ {f k}, R f k → f % pw k = 0
  lo : ∀ {f k}, R f (k + 1) → R f k
  hi : ∀ {f k}, R f (k + 1) → R (f + pw k) k
section
variable {R F G : Int → Nat → Prop} {S : Int → Prop} {f g h x : Int} {k j : Nat}
theorem Reg.sub (hR : Reg R) : ∀ (d : Nat) {g f : Int} {k : Nat}, R g (k + d) → f % pw k = 0 → g ≤ f → f + pw k ≤ g + pw (k + d) → R f k
  | 0, g, f, k, h, _, h1, h2 => by
    obtain rfl : g = f := by simp only [Nat.add_zero] at h2; omega
    exact h
  | d + 1, g, f, k, h, hf, h1, h2 => by
    have h' : R g (k + d + 1) := h
    have hle := hR.le h'
    have ha := hR.al h'
    have hl := hR.lo h'
    have hh := hR.hi h'
    have e : pw (k + (d + 1)) = 2 * pw (k + d) := pw_succ (k + d)
    rw [e] at h2
    rw [pw_succ] at ha
    by_cases hm : f < g + pw (k + d)
    · refine hR.sub d hl hf h1 ?_
      rcases pw_cases (show k ≤ 4 by omega) with ⟨k1, k2⟩ | ⟨k1, k2⟩ | ⟨k1, k2⟩ | ⟨k1, k2⟩ | ⟨k1, k2⟩ <;>
        rcases pw_cases (show k + d ≤ 4 by omega) with ⟨j1, j2⟩ | ⟨j1, j2⟩ | ⟨j1, j2⟩ | ⟨j1, j2⟩ | ⟨j1, j2⟩ <;>
        (rw [k2] at hf ⊢; rw [j2] at hm ha ⊢; omega)
    · refine hR.sub d hh hf (by omega) ?_
      omega
/-- What blocks cover. -/
def Cov (F : Int → Nat → Prop) (x : Int) : Prop := ∃ f k, F f k ∧ In f k x
/-- Blocks are valid: admissible, disjoint, and no two that could be one. -/
structure Val (R F : Int → Nat → Prop) : Prop where
  ins : ∀ {f k}, F f k → R f k
  dis : ∀ {f k g j x}, F f k → F g j → In f k x → In g j x → f = g ∧ k = j
  nob : ∀ {f k}, R f (k + 1) → F f k → F (f + pw k) k → False
/-- A block whose frames are all covered lies in one free block. -/
theorem Val.full (hR : Reg R) (hF : Val R F) : ∀ (j : Nat) (g : Int), R g j → (∀ x, In g j x → Cov F x) → ∃ f k, F f k ∧ j ≤ k ∧ f ≤ g ∧ g + pw j ≤ f + pw k
  | 0, g, _, hc => by
    obtain ⟨f, k, h1, h2, h3⟩ := hc g (in_self g 0)
    exact ⟨f, k, h1, Nat.zero_le _, h2, by rw [pw_zero]; omega⟩
  | j + 1, g, hr, hc => by
    have hj := hR.le hr
    have ha := hR.al hr
    have e := pw_succ j
    have hp := pw_pos j
    obtain ⟨f1, k1, a1, a2, a3, a4⟩ := hF.full hR j g (hR.lo hr) fun x hx => hc x ⟨hx.1, by have := hx.2; omega⟩
    obtain ⟨f2, k2, b1, b2, b3, b4⟩ := hF.full hR j (g + pw j) (hR.hi hr) fun x hx => hc x ⟨by have := hx.1; omega, by have := hx.2; omega⟩
    have r1 := hF.ins a1
    have r2 := hF.ins b1
    by_cases c1 : j + 1 ≤ k1
    · obtain ⟨n1, n2⟩ := nest (hR.le r1) c1 (hR.al r1) ha (x := g) ⟨a3, by omega⟩ (in_self _ _)
      exact ⟨f1, k1, a1, c1, n1, n2⟩
    by_cases c2 : j + 1 ≤ k2
    · obtain ⟨n1, n2⟩ := nest (hR.le r2) c2 (hR.al r2) ha (x := g + pw j) ⟨b3, by omega⟩ ⟨by omega, by omega⟩
      exact ⟨f2, k2, b1, c2, n1, n2⟩
    obtain rfl : k1 = j := by omega
    obtain rfl : k2 = k1 := by omega
    obtain rfl : f1 = g := by omega
    obtain rfl : f2 = f1 + pw k2 := by omega
    exact (hF.nob hr a1 b1).elim
/-- A block of frames of S that no larger one contains. -/
def Max (R : Int → Nat → Prop) (S : Int → Prop) (f : Int) (k : Nat) : Prop :=
  R f k ∧ (∀ x, In f k x → S x) ∧ ∀ h, R h (k + 1) → h ≤ f → f + pw k ≤ h + pw (k + 1) → ¬ ∀ x, In h (k + 1) x → S x
/-- The block that contains a block. -/
def par (f : Int) (k : Nat) : Int := f - f % pw (k + 1)
theorem par_spec (hk : k < 4) (hf : f % pw k = 0) : par f k % pw (k + 1) = 0 ∧ par f k ≤ f ∧ f + pw k ≤ par f k + pw (k + 1) := by
  unfold par
  rw [pw_succ]
  rcases pw_cases (show k ≤ 4 by omega) with ⟨k1, k2⟩ | ⟨k1, k2⟩ | ⟨k1, k2⟩ | ⟨k1, k2⟩ | ⟨k1, k2⟩ <;> (rw [k2] at hf ⊢; omega)
theorem Val.iff (hR : Reg R) (hF : Val R F) : F f k ↔ Max R (Cov F) f k := by
  constructor
  · intro h
    refine ⟨hF.ins h, fun x hx => ⟨f, k, h, hx⟩, fun p hp h1 h2 hc => ?_⟩
    obtain ⟨f', k', a1, a2, a3, a4⟩ := hF.full hR (k + 1) p hp hc
    have := pw_pos k
    have := (hF.dis h a1 (in_self f k) ⟨by omega, by omega⟩).2
    omega
  · rintro ⟨h1, h2, h3⟩
    obtain ⟨f', k', a1, a2, a3, a4⟩ := hF.full hR k f h1 h2
    by_cases hk : k = k'
    · subst hk
      obtain rfl : f = f' := by omega
      exact a1
    · have r := hF.ins a1
      have hk4 := hR.le r
      have hal := hR.al r
      obtain ⟨p1, p2, p3⟩ := par_spec (k := k) (by omega) (hR.al h1)
      have hp := pw_pos k
      obtain ⟨n1, n2⟩ := nest (j := k + 1) hk4 (by omega) hal p1 (x := f) ⟨a3, by omega⟩ ⟨p2, by omega⟩
      refine absurd ?_ (h3 (par f k) ?_ p2 p3)
      · intro x hx
        exact ⟨f', k', a1, by have := hx.1; omega, by have := hx.2; omega⟩
      · obtain ⟨d, rfl⟩ : ∃ d, k' = k + 1 + d := ⟨k' - (k + 1), by omega⟩
        exact hR.sub d r p1 n1 n2
theorem Val.uniq (hR : Reg R) (hF : Val R F) (hG : Val R G) (h : ∀ x, Cov F x ↔ Cov G x) : F f k ↔ G f k := by
  rw [hF.iff hR, hG.iff hR]
  have : Cov F = Cov G := funext fun x => propext (h x)
  rw [this]
/-- Maximal blocks are valid, and cover what they were made of, if each frame of S is admissible. -/
theorem max_dis (hR : Reg R) (h1 : Max R S f k) (h2 : Max R S g j) (hkj : k ≤ j) (hx : In f k x) (hy : In g j x) : f = g ∧ k = j := by
  obtain ⟨n1, n2⟩ := nest (hR.le h2.1) hkj (hR.al h2.1) (hR.al h1.1) hy hx
  by_cases hk : k = j
  · subst hk
    exact ⟨by omega, rfl⟩
  · exfalso
    have hj4 := hR.le h2.1
    obtain ⟨p1, p2, p3⟩ := par_spec (k := k) (by omega) (hR.al h1.1)
    have hp := pw_pos k
    obtain ⟨m1, m2⟩ := nest (j := k + 1) hj4 (by omega) (hR.al h2.1) p1 (x := f) ⟨n1, by omega⟩ ⟨p2, by omega⟩
    refine h1.2.2 (par f k) ?_ p2 p3 fun y hy => h2.2.1 y ⟨by have := hy.1; omega, by have := hy.2; omega⟩
    obtain ⟨d, rfl⟩ : ∃ d, j = k + 1 + d := ⟨j - (k + 1), by omega⟩
    exact hR.sub d h2.1 p1 m1 m2
theorem max_val (hR : Reg R) : Val R (Max R S) := by
  refine ⟨fun h => h.1, fun {f k g j x} h1 h2 hx hy => ?_, fun {f k} hr h1 h2 => ?_⟩
  · rcases Nat.le_total k j with h | h
    · exact max_dis hR h1 h2 h hx hy
    · have := max_dis hR h2 h1 h hy hx
      exact ⟨this.1.symm, this.2.symm⟩
  · have e := pw_succ k
    have hp := pw_pos k
    refine h1.2.2 f hr (Int.le_refl _) (by omega) fun x hx => ?_
    by_cases hm : x < f + pw k
    · exact h1.2.1 x ⟨hx.1, hm⟩
    · exact h2.2.1 x ⟨by omega, by have := hx.2; omega⟩
/-- A block of S lies in a maximal one. -/
theorem max_of (hR : Reg R) : ∀ (d : Nat) {f : Int} {k : Nat}, k + d = 4 → R f k → (∀ x, In f k x → S x) → ∃ g j, k ≤ j ∧ Max R S g j ∧ g ≤ f ∧ f + pw k ≤ g + pw j
  | d, f, k, hd, hr, hs => by
    by_cases hm : Max R S f k
    · exact ⟨f, k, Nat.le_refl _, hm, Int.le_refl _, Int.le_refl _⟩
    · have : ∃ h, R h (k + 1) ∧ h ≤ f ∧ f + pw k ≤ h + pw (k + 1) ∧ ∀ x, In h (k + 1) x → S x := by
        apply Classical.byContradiction
        intro hn
        refine hm ⟨hr, hs, fun h h1 h2 h3 h4 => hn ⟨h, h1, h2, h3, h4⟩⟩
      obtain ⟨p, p1, p2, p3, p4⟩ := this
      cases d with
      | zero => have := hR.le p1; omega
      | succ d =>
        obtain ⟨g, j, q1, q2, q3, q4⟩ := max_of hR d (by omega) p1 p4
        exact ⟨g, j, by omega, q2, by omega, by omega⟩
theorem max_cov (hR : Reg R) (h0 : ∀ x, S x → R x 0) : Cov (Max R S) x ↔ S x := by
  constructor
  · rintro ⟨f, k, h1, h2⟩
    exact h1.2.1 x h2
  · intro hx
    obtain ⟨g, j, _, q2, q3, q4⟩ := max_of hR (S := S) 4 rfl (h0 x hx) fun y hy => by
      have h1 := hy.1; have h2 := hy.2
      rw [pw_zero] at h2
      obtain rfl : y = x := by omega
      exact hx
    rw [pw_zero] at q4
    exact ⟨g, j, q2, q3, by omega⟩
/-- What is left of S when the maximal blocks above an order are gone: a block of this order of what is left is maximal. -/
theorem max_left (hR : Reg R) (hr : R f k) : Max R S f k ↔ ∀ x, In f k x → S x ∧ ∀ g j, k < j → Max R S g j → ¬ In g j x := by
  constructor
  · intro h x hx
    refine ⟨h.2.1 x hx, fun g j hj hg hx2 => ?_⟩
    have := (max_dis hR h hg (by omega) hx hx2).2
    omega
  · intro h
    have hk := hR.le hr
    obtain ⟨g, j, q1, q2, q3, q4⟩ := max_of hR (S := S) (4 - k) (by omega) hr fun x hx => (h x hx).1
    by_cases hkj : k = j
    · subst hkj
      obtain rfl : f = g := by omega
      exact q2
    · have hp := pw_pos k
      exact ((h f (in_self f k)).2 g j (by omega) q2 ⟨q3, by omega⟩).elim
/-- A block is added that nothing covers, and whose buddy is not there. -/
theorem Val.add (hF : Val R F) (hr : R f k) (hn : ∀ x, In f k x → ¬ Cov F x) (hb1 : R f (k + 1) → ¬ F (f + pw k) k) (hb2 : R (f - pw k) (k + 1) → ¬ F (f - pw k) k) : Val R fun g j => F g j ∨ (g = f ∧ j = k) := by
  refine ⟨?_, ?_, ?_⟩
  · rintro g j (h | ⟨rfl, rfl⟩)
    · exact hF.ins h
    · exact hr
  · rintro g j g' j' x (h | ⟨rfl, rfl⟩) (h' | ⟨rfl, rfl⟩) hx hy
    · exact hF.dis h h' hx hy
    · exact (hn x hy ⟨g, j, h, hx⟩).elim
    · exact (hn x hx ⟨g', j', h', hy⟩).elim
    · exact ⟨rfl, rfl⟩
  · rintro g j hr2 (h | ⟨rfl, rfl⟩) (h' | ⟨e, e2⟩)
    · exact hF.nob hr2 h h'
    · subst e2
      obtain rfl : g = f - pw j := by omega
      exact hb2 hr2 h
    · exact hb1 hr2 h'
    · have := pw_pos j; omega
theorem cov_add : Cov (fun g j => F g j ∨ (g = f ∧ j = k)) x ↔ Cov F x ∨ In f k x := by
  constructor
  · rintro ⟨g, j, h | ⟨rfl, rfl⟩, hx⟩
    · exact .inl ⟨g, j, h, hx⟩
    · exact .inr hx
  · rintro (⟨g, j, h, hx⟩ | h)
    · exact ⟨g, j, .inl h, hx⟩
    · exact ⟨f, k, .inr ⟨rfl, rfl⟩, h⟩
/-- A block is taken away. -/
theorem Val.del (hF : Val R F) (f : Int) (k : Nat) : Val R fun g j => F g j ∧ ¬ (g = f ∧ j = k) :=
  ⟨fun h => hF.ins h.1, fun h1 h2 => hF.dis h1.1 h2.1, fun hr h1 h2 => hF.nob hr h1.1 h2.1⟩
theorem Val.cov_del (hF : Val R F) (h : F f k) : Cov (fun g j => F g j ∧ ¬ (g = f ∧ j = k)) x ↔ Cov F x ∧ ¬ In f k x := by
  constructor
  · rintro ⟨g, j, ⟨h1, h2⟩, hx⟩
    exact ⟨⟨g, j, h1, hx⟩, fun hy => h2 (hF.dis h1 h hx hy)⟩
  · rintro ⟨⟨g, j, h1, hx⟩, hy⟩
    exact ⟨g, j, ⟨h1, by rintro ⟨rfl, rfl⟩; exact hy hx⟩, hx⟩
end
/-- Ascending lists of the same members are the same. -/
theorem asc_ext : ∀ {l m : List Int}, List.Pairwise (· < ·) l → List.Pairwise (· < ·) m → (∀ x, x ∈ l ↔ x ∈ m) → l = m
  | [], [], _, _, _ => rfl
  | [], y :: m, _, _, h => by have := (h y).2 (by simp); simp at this
  | x :: l, [], _, _, h => by have := (h x).1 (by simp); simp at this
  | x :: l, y :: m, hl, hm, h => by
    rw [List.pairwise_cons] at hl hm
    have hxy : x = y := by
      rcases List.mem_cons.1 ((h x).1 (by simp)) with h1 | h1
      · exact h1
      · rcases List.mem_cons.1 ((h y).2 (by simp)) with h2 | h2
        · exact h2.symm
        · have := hm.1 x h1; have := hl.1 y h2; omega
    subst hxy
    rw [asc_ext hl.2 hm.2 fun z => ⟨fun hz => ?_, fun hz => ?_⟩]
    · rcases List.mem_cons.1 ((h z).1 (by simp [hz])) with h1 | h1
      · have := hl.1 z hz; omega
      · exact h1
    · rcases List.mem_cons.1 ((h z).2 (by simp [hz])) with h1 | h1
      · have := hm.1 z hz; omega
      · exact h1
end Go.Can
namespace Go.Zn
open Go.Can
structure Z where
  nd : Int
  kd : Int
  st : Int
  ct : Int
  mn : Int
  fr : Nat → List Int
def R (st ct : Int) (f : Int) (k : Nat) : Prop := k ≤ 4 ∧ st ≤ f ∧ f + pw k ≤ st + ct ∧ f % pw k = 0
def F (fr : Nat → List Int) (f : Int) (k : Nat) : Prop := k ≤ 4 ∧ f ∈ fr k
theorem regR (st ct : Int) : Reg (R st ct) := by
  refine ⟨fun h => h.1, fun h => h.2.2.2, fun {f k} h => ?_, fun {f k} h => ?_⟩
  · obtain ⟨h1, h2, h3, h4⟩ := h
    rw [pw_succ] at h3 h4
    refine ⟨by omega, h2, ?_, ?_⟩
    · have := pw_pos k; omega
    · rcases pw_cases (show k ≤ 4 by omega) with ⟨k1, k2⟩ | ⟨k1, k2⟩ | ⟨k1, k2⟩ | ⟨k1, k2⟩ | ⟨k1, k2⟩ <;> (rw [k2] at h4 ⊢; omega)
  · obtain ⟨h1, h2, h3, h4⟩ := h
    rw [pw_succ] at h3 h4
    refine ⟨by omega, ?_, by omega, ?_⟩
    · have := pw_pos k; omega
    · rcases pw_cases (show k ≤ 4 by omega) with ⟨k1, k2⟩ | ⟨k1, k2⟩ | ⟨k1, k2⟩ | ⟨k1, k2⟩ | ⟨k1, k2⟩ <;> (rw [k2] at h4 ⊢; omega)
/-- The lists are valid. -/
structure Vd (st ct : Int) (fr : Nat → List Int) : Prop where
  asc : ∀ k, k < 5 → List.Pairwise (· < ·) (fr k)
  v : Val (R st ct) (F fr)
theorem Vd.adm {st ct : Int} {fr : Nat → List Int} (h : Vd st ct fr) {k : Nat} (hk : k < 5) {f : Int} (hf : f ∈ fr k) : R st ct f k := h.v.ins ⟨by omega, hf⟩
structure Rng (z : Z) : Prop where
  nd0 : 0 ≤ z.nd
  nd1 : z.nd < 4
  kd : z.kd = 0 ∨ z.kd = 1
  st0 : 0 ≤ z.st
  ct0 : 1 ≤ z.ct
  ct1 : z.st + z.ct ≤ 256
  mn0 : 0 ≤ z.mn
  mn1 : z.mn ≤ z.ct
structure VZ (z : Z) : Prop where
  r : Rng z
  l : Vd z.st z.ct z.fr
def upd (fr : Nat → List Int) (i : Nat) (l : List Int) : Nat → List Int := fun j => if j = i then l else fr j
theorem upd_self {fr : Nat → List Int} {i : Nat} {l : List Int} : upd fr i l i = l := if_pos rfl
theorem upd_ne {fr : Nat → List Int} {i j : Nat} {l : List Int} (h : j ≠ i) : upd fr i l j = fr j := if_neg h
def pos (l : List Int) (x : Int) : Nat := (l.takeWhile fun y => decide (y < x)).length
def ins (l : List Int) (x : Int) : List Int := l.take (pos l x) ++ [x] ++ l.drop (pos l x)
def del (l : List Int) (x : Int) : List Int := l.eraseIdx (pos l x)
def bud (k : Nat) (f : Int) : Int := if f % pw (k + 1) = 0 then f + pw k else f - pw k
theorem pos_lt {l : List Int} {x : Int} (hs : List.Pairwise (· < ·) l) (h : x ∈ l) : pos l x < l.length ∧ l[pos l x]? = some x := by
  induction l with
  | nil => simp at h
  | cons y r ih =>
    rw [List.pairwise_cons] at hs
    unfold pos
    rw [List.takeWhile_cons]
    by_cases hy : y < x
    · rw [if_pos (by simpa using hy)]
      have hr : x ∈ r := by
        rcases List.mem_cons.1 h with h2 | h2
        · omega
        · exact h2
      obtain ⟨q1, q2⟩ := ih hs.2 hr
      unfold pos at q1 q2
      refine ⟨by simp only [List.length_cons]; omega, ?_⟩
      rw [List.length_cons, List.getElem?_cons_succ]
      exact q2
    · rw [if_neg (by simpa using hy)]
      have hx : x = y := by
        rcases List.mem_cons.1 h with h2 | h2
        · exact h2
        · have := hs.1 x h2; omega
      subst hx
      exact ⟨by simp, by simp⟩
theorem take_lt : ∀ {l : List Int} {x : Int}, ∀ y ∈ l.take (pos l x), y < x
  | [], _, y, h => by simp at h
  | z :: r, x, y, h => by
    unfold pos at h
    rw [List.takeWhile_cons] at h
    split at h
    · rename_i hz
      rw [List.length_cons, List.take_succ_cons] at h
      rcases List.mem_cons.1 h with rfl | h
      · simpa using hz
      · exact take_lt (l := r) y h
    · simp at h
theorem drop_ge : ∀ {l : List Int} {x : Int}, List.Pairwise (· < ·) l → ∀ y ∈ l.drop (pos l x), x ≤ y
  | [], _, _, y, h => by simp at h
  | z :: r, x, hp, y, h => by
    rw [List.pairwise_cons] at hp
    unfold pos at h
    rw [List.takeWhile_cons] at h
    split at h
    · rw [List.length_cons, List.drop_succ_cons] at h
      exact drop_ge (l := r) hp.2 y h
    · rename_i hz
      have hz' : x ≤ z := by simpa using hz
      rw [List.length_nil, List.drop_zero] at h
      rcases List.mem_cons.1 h with rfl | h
      · exact hz'
      · have := hp.1 y h; omega
theorem mem_ins {l : List Int} {x y : Int} : y ∈ ins l x ↔ y = x ∨ y ∈ l := by
  unfold ins
  have e : y ∈ l ↔ y ∈ l.take (pos l x) ∨ y ∈ l.drop (pos l x) := by
    rw [← List.mem_append, List.take_append_drop]
  rw [e]
  simp only [List.mem_append, List.mem_singleton]
  constructor
  · rintro ((h | h) | h)
    · exact .inr (.inl h)
    · exact .inl h
    · exact .inr (.inr h)
  · rintro (h | h | h)
    · exact .inl (.inr h)
    · exact .inl (.inl h)
    · exact .inr h
theorem ins_asc {l : List Int} {x : Int} (h : List.Pairwise (· < ·) l) (hx : x ∉ l) : List.Pairwise (· < ·) (ins l x) := by
  unfold ins
  have hd : ∀ y ∈ l.drop (pos l x), x < y := fun y hy => by
    have := drop_ge h y hy
    rcases Int.lt_or_eq_of_le this with h1 | h1
    · exact h1
    · exact absurd (h1 ▸ List.mem_of_mem_drop hy) hx
  rw [List.pairwise_append, List.pairwise_append]
  refine ⟨⟨h.sublist (List.take_sublist _ _), by simp, fun a ha b hb => ?_⟩, h.sublist (List.drop_sublist _ _), fun a ha b hb => ?_⟩
  · obtain rfl := List.mem_singleton.1 hb
    exact take_lt a ha
  · rcases List.mem_append.1 ha with ha | ha
    · have := take_lt a ha; have := hd b hb; omega
    · obtain rfl := List.mem_singleton.1 ha
      exact hd b hb
theorem mem_del {l : List Int} {x y : Int} (h : List.Pairwise (· < ·) l) (hx : x ∈ l) : y ∈ del l x ↔ y ∈ l ∧ y ≠ x := by
  obtain ⟨p1, p2⟩ := pos_lt h hx
  have e : l = l.take (pos l x) ++ x :: l.drop (pos l x + 1) := by
    have hd : l.drop (pos l x) = x :: l.drop (pos l x + 1) := by
      rw [List.drop_eq_getElem_cons p1]
      rw [List.getElem?_eq_getElem p1] at p2
      rw [Option.some.inj p2]
    rw [← hd, List.take_append_drop]
  have hdel : del l x = l.take (pos l x) ++ l.drop (pos l x + 1) := by unfold del; rw [List.eraseIdx_eq_take_drop_succ]
  have hgt : ∀ z ∈ l.drop (pos l x + 1), x < z := by
    intro z hz
    have h2 := h
    rw [e, List.pairwise_append, List.pairwise_cons] at h2
    exact h2.2.1.1 z hz
  rw [hdel, List.mem_append]
  constructor
  · rintro (h1 | h1)
    · exact ⟨List.mem_of_mem_take h1, by have := take_lt y h1; omega⟩
    · exact ⟨List.mem_of_mem_drop h1, by have := hgt y h1; omega⟩
  · rintro ⟨h1, h2⟩
    rw [e] at h1
    rcases List.mem_append.1 h1 with h3 | h3
    · exact .inl h3
    · rcases List.mem_cons.1 h3 with h4 | h4
      · exact absurd h4 h2
      · exact .inr h4
theorem del_asc {l : List Int} {x : Int} (h : List.Pairwise (· < ·) l) : List.Pairwise (· < ·) (del l x) := h.sublist (List.eraseIdx_sublist _ _)
theorem bud_spec {k : Nat} {f : Int} (h : f % pw k = 0) (hk : k < 4) : (f % pw (k + 1) = 0 ∧ bud k f = f + pw k ∧ par f k = f) ∨ (f % pw (k + 1) ≠ 0 ∧ bud k f = f - pw k ∧ par f k = f - pw k) := by
  unfold bud par
  rw [pw_succ]
  rcases pw_cases (show k ≤ 4 by omega) with ⟨k1, k2⟩ | ⟨k1, k2⟩ | ⟨k1, k2⟩ | ⟨k1, k2⟩ | ⟨k1, k2⟩ <;> (rw [k2] at h ⊢; split <;> omega)
theorem halves {f x : Int} {k : Nat} (hk : k < 4) (h : f % pw k = 0) : In (par f k) (k + 1) x ↔ In f k x ∨ In (bud k f) k x := by
  have e := pw_succ k
  have hp := pw_pos k
  rcases bud_spec h hk with ⟨_, b2, b3⟩ | ⟨_, b2, b3⟩ <;> rw [b2, b3] <;> unfold In <;> rw [e] <;> omega
section
variable {st ct : Int} {fr : Nat → List Int} {f x : Int} {k : Nat}
theorem F_ins (hk : k < 5) : F (upd fr k (ins (fr k) f)) = fun g j => F fr g j ∨ (g = f ∧ j = k) := by
  funext g j
  apply propext
  constructor
  · rintro ⟨h1, h3⟩
    by_cases e : j = k
    · subst e
      rw [upd_self] at h3
      rcases mem_ins.1 h3 with h4 | h4
      · exact .inr ⟨h4, rfl⟩
      · exact .inl ⟨h1, h4⟩
    · rw [upd_ne e] at h3
      exact .inl ⟨h1, h3⟩
  · rintro (⟨h1, h3⟩ | ⟨rfl, rfl⟩)
    · refine ⟨h1, ?_⟩
      by_cases e : j = k
      · subst e
        rw [upd_self]
        exact mem_ins.2 (.inr h3)
      · rw [upd_ne e]; exact h3
    · exact ⟨by omega, by rw [upd_self]; exact mem_ins.2 (.inl rfl)⟩
theorem F_del (h : Vd st ct fr) (hk : k < 5) (hb : f ∈ fr k) : F (upd fr k (del (fr k) f)) = fun g j => F fr g j ∧ ¬ (g = f ∧ j = k) := by
  funext g j
  apply propext
  constructor
  · rintro ⟨h1, h3⟩
    by_cases e : j = k
    · subst e
      rw [upd_self] at h3
      obtain ⟨q1, q2⟩ := (mem_del (h.asc j hk) hb).1 h3
      exact ⟨⟨h1, q1⟩, fun c => q2 c.1⟩
    · rw [upd_ne e] at h3
      exact ⟨⟨h1, h3⟩, fun c => e c.2⟩
  · rintro ⟨⟨h1, h3⟩, h4⟩
    refine ⟨h1, ?_⟩
    by_cases e : j = k
    · subst e
      rw [upd_self]
      exact (mem_del (h.asc j hk) hb).2 ⟨h3, fun c => h4 ⟨c, rfl⟩⟩
    · rw [upd_ne e]; exact h3
theorem asc_upd (h : Vd st ct fr) {l : List Int} (hl : List.Pairwise (· < ·) l) : ∀ j, j < 5 → List.Pairwise (· < ·) (upd fr k l j) := fun j hj => by
  by_cases e : j = k
  · subst e; rw [upd_self]; exact hl
  · rw [upd_ne e]; exact h.asc j hj
theorem Vd.add (h : Vd st ct fr) (hr : R st ct f k) (hn : ∀ x, In f k x → ¬ Cov (F fr) x) (hb : k < 4 → R st ct (par f k) (k + 1) → bud k f ∉ fr k) :
    Vd st ct (upd fr k (ins (fr k) f)) ∧ ∀ x, Cov (F (upd fr k (ins (fr k) f))) x ↔ Cov (F fr) x ∨ In f k x := by
  have hk5 : k < 5 := by have := hr.1; omega
  have hnm : f ∉ fr k := fun hm => hn f (in_self f k) ⟨f, k, ⟨hr.1, hm⟩, in_self f k⟩
  have hF := F_ins (fr := fr) (f := f) hk5
  refine ⟨⟨asc_upd h (ins_asc (h.asc k hk5) hnm), ?_⟩, fun x => by rw [hF]; exact cov_add⟩
  rw [hF]
  refine h.v.add hr hn (fun h1 h2 => ?_) (fun h1 h2 => ?_)
  · have hk : k < 4 := by have := h1.1; omega
    rcases bud_spec hr.2.2.2 hk with ⟨_, b2, b3⟩ | ⟨b1, _⟩
    · exact hb hk (by rw [b3]; exact h1) (by rw [b2]; exact h2.2)
    · exact b1 h1.2.2.2
  · have hk : k < 4 := by have := h1.1; omega
    rcases bud_spec hr.2.2.2 hk with ⟨b1, _⟩ | ⟨_, b2, b3⟩
    · have h3 := h1.2.2.2
      have h4 := hr.2.2.2
      rw [pw_succ] at h3 b1
      rcases pw_cases (show k ≤ 4 by omega) with ⟨k1, k2⟩ | ⟨k1, k2⟩ | ⟨k1, k2⟩ | ⟨k1, k2⟩ | ⟨k1, k2⟩ <;> (rw [k2] at h3 b1 h4; omega)
    · exact hb hk (by rw [b3]; exact h1) (by rw [b2]; exact h2.2)
theorem Vd.rem (h : Vd st ct fr) (hk : k < 5) (hb : f ∈ fr k) : Vd st ct (upd fr k (del (fr k) f)) ∧ ∀ x, Cov (F (upd fr k (del (fr k) f))) x ↔ Cov (F fr) x ∧ ¬ In f k x := by
  have hF := F_del h hk hb
  refine ⟨⟨asc_upd h (del_asc (h.asc k hk)), ?_⟩, fun x => ?_⟩
  · rw [hF]; exact h.v.del _ _
  · rw [hF]; exact h.v.cov_del ⟨by omega, hb⟩
/-- What remains to be put: a block that nothing covers. -/
structure Put (st ct : Int) (fr : Nat → List Int) (f : Int) (k : Nat) (S : Int → Prop) : Prop where
  v : Vd st ct fr
  r : R st ct f k
  n : ∀ x, In f k x → ¬ Cov (F fr) x
  c : ∀ x, (Cov (F fr) x ∨ In f k x) ↔ S x
theorem Put.join {S : Int → Prop} (h : Put st ct fr f k S) (hk : k < 4) (hb : bud k f ∈ fr k) (hr : R st ct (par f k) (k + 1)) : Put st ct (upd fr k (del (fr k) (bud k f))) (par f k) (k + 1) S := by
  obtain ⟨q1, q2⟩ := h.v.rem (show k < 5 by omega) hb
  have hal := h.r.2.2.2
  refine ⟨q1, hr, fun x hx hc => ?_, fun x => ?_⟩
  · obtain ⟨c1, c2⟩ := (q2 x).1 hc
    rcases (halves hk hal).1 hx with h1 | h1
    · exact h.n x h1 c1
    · exact c2 h1
  · rw [← h.c, q2, halves hk hal]
    constructor
    · rintro (⟨h1, _⟩ | h1 | h1)
      · exact .inl h1
      · exact .inr h1
      · exact .inl ⟨_, _, ⟨by omega, hb⟩, h1⟩
    · rintro (h1 | h1)
      · by_cases hb : In (bud k f) k x
        · exact .inr (.inr hb)
        · exact .inl ⟨h1, hb⟩
      · exact .inr (.inl h1)
theorem Put.done {S : Int → Prop} (h : Put st ct fr f k S) (hb : k < 4 → R st ct (par f k) (k + 1) → bud k f ∉ fr k) : Vd st ct (upd fr k (ins (fr k) f)) ∧ ∀ x, Cov (F (upd fr k (ins (fr k) f))) x ↔ S x := by
  obtain ⟨q1, q2⟩ := h.v.add h.r h.n hb
  exact ⟨q1, fun x => by rw [q2, h.c]⟩
/-- A block is halved: one half is put, the other is what remains. -/
theorem Put.split {S : Int → Prop} (h : Put st ct fr f (k + 1) S) {g o : Int} (hg : (g = f ∧ o = f + pw k) ∨ (g = f + pw k ∧ o = f)) : Put st ct (upd fr k (ins (fr k) o)) g k S := by
  have hR := regR st ct
  have rl := hR.lo h.r
  have rh := hR.hi h.r
  have e := pw_succ k
  have hp := pw_pos k
  have hk : k < 4 := by have := h.r.1; omega
  have hgo : R st ct g k ∧ R st ct o k ∧ (∀ x, In f (k + 1) x ↔ In g k x ∨ In o k x) ∧ bud k o = g ∧ ∀ x, In g k x → ¬ In o k x := by
    have a1 := h.r.2.2.2
    have a2 := rl.2.2.2
    have a3 : (f + pw k) % pw k = 0 := rh.2.2.2
    have b1 : bud k f = f + pw k := by unfold bud; rw [if_pos a1]
    have b2 : bud k (f + pw k) = f := by
      unfold bud
      rw [if_neg]
      · omega
      · rw [e] at a1 ⊢
        rcases pw_cases (show k ≤ 4 by omega) with ⟨k1, k2⟩ | ⟨k1, k2⟩ | ⟨k1, k2⟩ | ⟨k1, k2⟩ | ⟨k1, k2⟩ <;> (rw [k2] at a1 ⊢; omega)
    rcases hg with ⟨rfl, rfl⟩ | ⟨rfl, rfl⟩
    · exact ⟨rl, rh, fun x => by unfold In; rw [e]; omega, b2, fun x => by unfold In; omega⟩
    · exact ⟨rh, rl, fun x => by unfold In; rw [e]; omega, b1, fun x => by unfold In; omega⟩
  obtain ⟨r1, r2, c1, b, d⟩ := hgo
  have hng : g ∉ fr k := fun hm => h.n g ((c1 g).2 (.inl (in_self g k))) ⟨g, k, ⟨by omega, hm⟩, in_self g k⟩
  obtain ⟨q1, q2⟩ := h.v.add r2 (fun x hx => h.n x ((c1 x).2 (.inr hx))) (fun _ _ => by rw [b]; exact hng)
  refine ⟨q1, r1, fun x hx hc => ?_, fun x => ?_⟩
  · rcases (q2 x).1 hc with h1 | h1
    · exact h.n x ((c1 x).2 (.inl hx)) h1
    · exact d x hx h1
  · rw [q2, ← h.c, c1]
    constructor
    · rintro ((h1 | h1) | h1)
      · exact .inl h1
      · exact .inr (.inr h1)
      · exact .inr (.inl h1)
    · rintro (h1 | h1 | h1)
      · exact .inl (.inl h1)
      · exact .inr h1
      · exact .inl (.inr h1)
/-- A free block is taken out: it remains to be put. -/
theorem Put.of (h : Vd st ct fr) (hk : k < 5) (hf : f ∈ fr k) : Put st ct (upd fr k (del (fr k) f)) f k (Cov (F fr)) := by
  obtain ⟨q1, q2⟩ := h.rem hk hf
  refine ⟨q1, h.adm hk hf, fun x hx hc => ((q2 x).1 hc).2 hx, fun x => ?_⟩
  rw [q2]
  constructor
  · rintro (h1 | h1)
    · exact h1.1
    · exact ⟨f, k, ⟨by omega, hf⟩, h1⟩
  · intro h1
    by_cases hi : In f k x
    · exact .inr hi
    · exact .inl ⟨h1, hi⟩
theorem Put.start (h : Vd st ct fr) (hr : R st ct f k) (hn : ∀ x, In f k x → ¬ Cov (F fr) x) : Put st ct fr f k (fun x => Cov (F fr) x ∨ In f k x) := ⟨h, hr, hn, fun _ => Iff.rfl⟩
/-- What is left when the block that remains is kept. -/
theorem Put.left {S : Int → Prop} (h : Put st ct fr f k S) : ∀ x, Cov (F fr) x ↔ S x ∧ ¬ In f k x := fun x => by
  rw [← h.c]
  constructor
  · intro h1
    exact ⟨.inl h1, fun h2 => h.n x h2 h1⟩
  · rintro ⟨h1 | h1, h2⟩
    · exact h1
    · exact absurd h1 h2
/-- Lists are determined by what they cover. -/
theorem vd_uniq {fq : Nat → List Int} (hp : Vd st ct fr) (hq : Vd st ct fq) (hc : ∀ x, Cov (F fr) x ↔ Cov (F fq) x) : ∀ k, k < 5 → fr k = fq k := by
  have hF : ∀ f k, F fr f k ↔ F fq f k := fun f k => hp.v.uniq (regR st ct) hq.v hc
  intro k hk
  exact asc_ext (hp.asc k hk) (hq.asc k hk) fun f => ⟨fun hf => ((hF f k).1 ⟨by omega, hf⟩).2, fun hf => ((hF f k).2 ⟨by omega, hf⟩).2⟩
theorem vd_empty : Vd st ct (fun _ => []) := by
  have hF : ∀ f k, ¬ F (fun _ => []) f k := fun f k ⟨_, h⟩ => by simp at h
  exact ⟨fun _ _ => List.Pairwise.nil, ⟨fun h => (hF _ _ h).elim, fun h => (hF _ _ h).elim, fun _ h => (hF _ _ h).elim⟩⟩
theorem cov_empty : ¬ Cov (F fun _ => []) x := by
  rintro ⟨f, k, ⟨_, h⟩, _⟩
  simp at h
theorem cov_in (h : Vd st ct fr) (hc : Cov (F fr) x) : st ≤ x ∧ x < st + ct := by
  obtain ⟨f, k, h1, h2⟩ := hc
  obtain ⟨_, h3, h4, _⟩ := h.v.ins h1
  unfold In at h2
  omega
/-- The block of an order that a frame lies in. -/
theorem cov_at (h : Vd st ct fr) : Cov (F fr) x ↔ ∃ k, k < 5 ∧ x - x % pw k ∈ fr k := by
  constructor
  · rintro ⟨f, k, hf, hin⟩
    have hr := h.v.ins hf
    have hal := hr.2.2.2
    refine ⟨k, by have := hf.1; omega, ?_⟩
    have e : x - x % pw k = f := by
      obtain ⟨a1, a2⟩ := hin
      rcases pw_cases hr.1 with ⟨k1, k2⟩ | ⟨k1, k2⟩ | ⟨k1, k2⟩ | ⟨k1, k2⟩ | ⟨k1, k2⟩ <;> (rw [k2] at a2 hal ⊢; omega)
    rw [e]; exact hf.2
  · rintro ⟨k, hk, hm⟩
    refine ⟨x - x % pw k, k, ⟨by omega, hm⟩, ?_⟩
    unfold In
    rcases pw_cases (show k ≤ 4 by omega) with ⟨k1, k2⟩ | ⟨k1, k2⟩ | ⟨k1, k2⟩ | ⟨k1, k2⟩ | ⟨k1, k2⟩ <;> (rw [k2]; omega)
/-- A free block of an order or a greater one exists exactly if all frames of some block are free. -/
theorem some_block (h : Vd st ct fr) {k : Nat} : (∃ j g, k ≤ j ∧ j < 5 ∧ g ∈ fr j) ↔ ∃ f, R st ct f k ∧ ∀ x, In f k x → Cov (F fr) x := by
  constructor
  · rintro ⟨j, g, h1, h2, h3⟩
    have hr := h.adm h2 h3
    refine ⟨g, (regR st ct).sub (j - k) (g := g) (by rw [show k + (j - k) = j by omega]; exact hr) ?_ (Int.le_refl _) ?_, fun x hx => ⟨g, j, ⟨by omega, h3⟩, ?_⟩⟩
    · have := hr.2.2.2
      rcases pw_cases (show j ≤ 4 by omega) with ⟨k1, k2⟩ | ⟨k1, k2⟩ | ⟨k1, k2⟩ | ⟨k1, k2⟩ | ⟨k1, k2⟩ <;>
        rcases pw_cases (show k ≤ 4 by omega) with ⟨j1, j2⟩ | ⟨j1, j2⟩ | ⟨j1, j2⟩ | ⟨j1, j2⟩ | ⟨j1, j2⟩ <;>
        (rw [k2] at this; rw [j2]; omega)
    · rw [show k + (j - k) = j by omega]
      rcases pw_cases (show j ≤ 4 by omega) with ⟨k1, k2⟩ | ⟨k1, k2⟩ | ⟨k1, k2⟩ | ⟨k1, k2⟩ | ⟨k1, k2⟩ <;>
        rcases pw_cases (show k ≤ 4 by omega) with ⟨j1, j2⟩ | ⟨j1, j2⟩ | ⟨j1, j2⟩ | ⟨j1, j2⟩ | ⟨j1, j2⟩ <;>
        (rw [k2, j2]; omega)
    · unfold In at hx ⊢
      rcases pw_cases (show j ≤ 4 by omega) with ⟨k1, k2⟩ | ⟨k1, k2⟩ | ⟨k1, k2⟩ | ⟨k1, k2⟩ | ⟨k1, k2⟩ <;>
        rcases pw_cases (show k ≤ 4 by omega) with ⟨j1, j2⟩ | ⟨j1, j2⟩ | ⟨j1, j2⟩ | ⟨j1, j2⟩ | ⟨j1, j2⟩ <;>
        (rw [j2] at hx; rw [k2]; omega)
  · rintro ⟨f, hr, hc⟩
    obtain ⟨g, j, h1, h2, _⟩ := h.v.full (regR st ct) k f hr hc
    exact ⟨j, g, h2, by have := h1.1; omega, h1.2⟩
end
end Go.Zn
namespace Go.Zn
open Go.Can
def cov (f : Int) : Nat → List Int
  | 0 => []
  | n + 1 => f :: cov (f + 1) n
def covL (k : Nat) (l : List Int) : List Int := l.flatMap fun f => cov f (2 ^ k)
def covN (fr : Nat → List Int) : Nat → List Int
  | 0 => []
  | n + 1 => covN fr n ++ covL n (fr n)
theorem mem_cov : ∀ {n : Nat} {f x : Int}, x ∈ cov f n ↔ f ≤ x ∧ x < f + n
  | 0, f, x => by
    constructor
    · intro h; simp [cov] at h
    · intro h; omega
  | n + 1, f, x => by
    rw [cov, List.mem_cons, mem_cov (n := n)]
    omega
theorem mem_cov2 {f x : Int} {k : Nat} : x ∈ cov f (2 ^ k) ↔ In f k x := mem_cov
theorem mem_covL {k : Nat} {l : List Int} {x : Int} : x ∈ covL k l ↔ ∃ f ∈ l, In f k x := by
  unfold covL
  rw [List.mem_flatMap]
  exact ⟨fun ⟨f, h1, h2⟩ => ⟨f, h1, mem_cov2.1 h2⟩, fun ⟨f, h1, h2⟩ => ⟨f, h1, mem_cov2.2 h2⟩⟩
theorem mem_covN {fr : Nat → List Int} {x : Int} : ∀ {n : Nat}, x ∈ covN fr n ↔ ∃ k, k < n ∧ ∃ f ∈ fr k, In f k x
  | 0 => by
    constructor
    · intro h; simp [covN] at h
    · rintro ⟨k, h, _⟩; omega
  | n + 1 => by
    unfold covN
    rw [List.mem_append, mem_covN (n := n), mem_covL]
    constructor
    · rintro (⟨k, h1, h2⟩ | h1)
      · exact ⟨k, by omega, h2⟩
      · exact ⟨n, by omega, h1⟩
    · rintro ⟨k, h1, h2⟩
      by_cases e : k = n
      · subst e; exact .inr h2
      · exact .inl ⟨k, by omega, h2⟩
theorem mem_cov5 {fr : Nat → List Int} {x : Int} : x ∈ covN fr 5 ↔ Cov (F fr) x := by
  rw [mem_covN]
  constructor
  · rintro ⟨k, h1, f, h2, h3⟩; exact ⟨f, k, ⟨by omega, h2⟩, h3⟩
  · rintro ⟨f, k, ⟨h1, h2⟩, h3⟩; exact ⟨k, by omega, f, h2, h3⟩
theorem cov_nodup : ∀ {n : Nat} {f : Int}, (cov f n).Nodup
  | 0, f => by simp [cov]
  | n + 1, f => by
    rw [cov, List.nodup_cons]
    exact ⟨fun h => by have := (mem_cov.1 h).1; omega, cov_nodup⟩
theorem covL_nodup {k : Nat} : ∀ {l : List Int}, l.Nodup → (∀ f g x, f ∈ l → g ∈ l → In f k x → In g k x → f = g) → (covL k l).Nodup
  | [], _, _ => by simp [covL]
  | y :: r, hn, h => by
    rw [List.nodup_cons] at hn
    have e : covL k (y :: r) = cov y (2 ^ k) ++ covL k r := by simp [covL]
    rw [e, List.nodup_append]
    refine ⟨cov_nodup, covL_nodup hn.2 fun f g x hf hg => h f g x (by simp [hf]) (by simp [hg]), fun a ha b hb hab => ?_⟩
    subst hab
    obtain ⟨g, g1, g2⟩ := mem_covL.1 hb
    have := h y g a (by simp) (by simp [g1]) (mem_cov2.1 ha) g2
    subst this
    exact hn.1 g1
theorem asc_nodup {l : List Int} (h : List.Pairwise (· < ·) l) : l.Nodup := h.imp fun h => by omega
theorem covN_nodup {st ct : Int} {fr : Nat → List Int} (h : Vd st ct fr) : ∀ {n : Nat}, n ≤ 5 → (covN fr n).Nodup
  | 0, _ => by simp [covN]
  | n + 1, hn => by
    unfold covN
    rw [List.nodup_append]
    refine ⟨covN_nodup h (by omega), covL_nodup (asc_nodup (h.asc n (by omega))) fun f g x hf hg hx hy => (h.v.dis ⟨by omega, hf⟩ ⟨by omega, hg⟩ hx hy).1, fun a ha b hb hab => ?_⟩
    subst hab
    obtain ⟨k, k1, f, f1, f2⟩ := mem_covN.1 ha
    obtain ⟨g, g1, g2⟩ := mem_covL.1 hb
    obtain ⟨_, e2⟩ := h.v.dis (⟨by omega, f1⟩ : F fr f k) (⟨by omega, g1⟩ : F fr g n) f2 g2
    omega
theorem cov_len : ∀ {n : Nat} {f : Int}, (cov f n).length = n
  | 0, _ => rfl
  | n + 1, f => by rw [cov, List.length_cons, cov_len]
theorem covL_len {k : Nat} : ∀ {l : List Int}, (covL k l).length = l.length * 2 ^ k
  | [] => by simp [covL]
  | y :: r => by
    have e : covL k (y :: r) = cov y (2 ^ k) ++ covL k r := by simp [covL]
    rw [e, List.length_append, cov_len, covL_len, List.length_cons, Nat.add_mul, Nat.one_mul, Nat.add_comm]
/-- The free frames in blocks of the orders below n. -/
def cntN (fr : Nat → List Int) : Nat → Nat
  | 0 => 0
  | n + 1 => cntN fr n + (fr n).length * 2 ^ n
theorem covN_len {fr : Nat → List Int} : ∀ {n : Nat}, (covN fr n).length = cntN fr n
  | 0 => rfl
  | n + 1 => by
    unfold covN cntN
    rw [List.length_append, covN_len, covL_len]
/-- Lists without repetition and of the same members are equally long. -/
theorem nodup_len : ∀ {l m : List Int}, l.Nodup → m.Nodup → (∀ x, x ∈ l → x ∈ m) → l.length ≤ m.length
  | [], _, _, _, _ => Nat.zero_le _
  | x :: r, m, hl, hm, h => by
    rw [List.nodup_cons] at hl
    have hx := h x (by simp)
    have h1 := nodup_len (l := r) (m := m.erase x) hl.2 (hm.sublist (List.erase_sublist)) fun y hy => by
      have hne : y ≠ x := fun e => hl.1 (e ▸ hy)
      exact (List.mem_erase_of_ne hne).2 (h y (by simp [hy]))
    rw [List.length_erase_of_mem hx] at h1
    have : 0 < m.length := List.length_pos_of_mem hx
    rw [List.length_cons]
    omega
theorem nodup_eq {l m : List Int} (hl : l.Nodup) (hm : m.Nodup) (h : ∀ x, x ∈ l ↔ x ∈ m) : l.length = m.length :=
  Nat.le_antisymm (nodup_len hl hm fun x hx => (h x).1 hx) (nodup_len hm hl fun x hx => (h x).2 hx)
open Classical in
/-- The members of a set among n numbers from a on. -/
noncomputable def cset (S : Int → Prop) (a : Int) (n : Nat) : List Int := (cov a n).filter fun x => decide (S x)
open Classical in
theorem mem_cset {S : Int → Prop} {a : Int} {n : Nat} {x : Int} : x ∈ cset S a n ↔ (a ≤ x ∧ x < a + n) ∧ S x := by
  unfold cset
  rw [List.mem_filter, mem_cov, decide_eq_true_eq]
open Classical in
theorem cset_nodup {S : Int → Prop} {a : Int} {n : Nat} : (cset S a n).Nodup := cov_nodup.sublist List.filter_sublist
noncomputable def nS (S : Int → Prop) (a : Int) (n : Nat) : Nat := (cset S a n).length
/-- A list without repetition that has the members of a set within a range. -/
theorem nS_of {S : Int → Prop} {a : Int} {n : Nat} {l : List Int} (hl : l.Nodup) (h : ∀ x, x ∈ l ↔ S x) (hr : ∀ x, S x → a ≤ x ∧ x < a + n) : l.length = nS S a n :=
  nodup_eq hl cset_nodup fun x => by rw [h, mem_cset]; exact ⟨fun h => ⟨hr x h, h⟩, fun h => h.2⟩
theorem cnt_cov {st ct : Int} {fr : Nat → List Int} (h : Vd st ct fr) (hc : 0 ≤ ct) : cntN fr 5 = nS (Cov (F fr)) st ct.toNat := by
  rw [← covN_len]
  exact nS_of (covN_nodup h (Nat.le_refl _)) (fun x => mem_cov5) fun x hx => by have := cov_in h hx; omega
theorem nS_ext {S T : Int → Prop} {a : Int} {n : Nat} (h : ∀ x, a ≤ x → x < a + n → (S x ↔ T x)) : nS S a n = nS T a n :=
  nodup_eq cset_nodup cset_nodup fun x => by
    rw [mem_cset, mem_cset]
    exact ⟨fun ⟨h1, h2⟩ => ⟨h1, (h x h1.1 h1.2).1 h2⟩, fun ⟨h1, h2⟩ => ⟨h1, (h x h1.1 h1.2).2 h2⟩⟩
theorem nS_pos {S : Int → Prop} {a : Int} {n : Nat} : 0 < nS S a n ↔ ∃ x, (a ≤ x ∧ x < a + n) ∧ S x := by
  unfold nS
  rw [List.length_pos_iff_exists_mem]
  exact ⟨fun ⟨x, h⟩ => ⟨x, mem_cset.1 h⟩, fun ⟨x, h⟩ => ⟨x, mem_cset.2 h⟩⟩
/-- One frame less. -/
theorem nS_del {S : Int → Prop} {a : Int} {n : Nat} {f : Int} (hf : (a ≤ f ∧ f < a + n) ∧ S f) : nS S a n = nS (fun x => S x ∧ x ≠ f) a n + 1 := by
  unfold nS
  rw [show (cset (fun x => S x ∧ x ≠ f) a n).length + 1 = (f :: cset (fun x => S x ∧ x ≠ f) a n).length by simp]
  refine nodup_eq cset_nodup ?_ fun x => ?_
  · rw [List.nodup_cons]
    exact ⟨fun h => (mem_cset.1 h).2.2 rfl, cset_nodup⟩
  · rw [List.mem_cons, mem_cset, mem_cset]
    by_cases e : x = f
    · subst e; exact ⟨fun _ => .inl rfl, fun _ => hf⟩
    · exact ⟨fun h => .inr ⟨h.1, h.2, e⟩, fun h => (h.resolve_left e).elim fun h1 h2 => ⟨h1, h2.1⟩⟩
end Go.Zn
namespace Go.Zn
open Go.Can
structure A where
  nodes : List Int
  bt : Nat
  hi : Nat
  zs : List Z
  cs : List (List (List Int))
def noZ : Z := ⟨0, 0, 0, 0, 0, fun _ => []⟩
def zn (a : A) (z : Nat) : Z := a.zs.getD z noZ
def lst (a : A) (c z : Nat) : List Int := (a.cs.getD c []).getD z []
def inZ (z : Z) (x : Int) : Prop := z.st ≤ x ∧ x < z.st + z.ct
/-- In a processor's cache. -/
def Ca (a : A) (z : Nat) (x : Int) : Prop := ∃ c, c < a.cs.length ∧ x ∈ lst a c z
/-- A frame of a zone is free. -/
def Fr (a : A) (z : Nat) (x : Int) : Prop := Cov (F (zn a z).fr) x ∨ Ca a z x
structure VA (a : A) : Prop where
  n0 : 1 ≤ a.nodes.length
  n4 : a.nodes.length ≤ 4
  nr : ∀ x ∈ a.nodes, 0 ≤ x ∧ x < 4
  b1 : 1 ≤ a.bt
  bh : a.bt ≤ a.hi
  h64 : a.hi ≤ 64
  z1 : 1 ≤ a.zs.length
  z6 : a.zs.length ≤ 6
  vz : ∀ z, z < a.zs.length → VZ (zn a z)
  s0 : (zn a 0).st = 0
  ss : ∀ z, z + 1 < a.zs.length → (zn a (z + 1)).st = (zn a z).st + (zn a z).ct
  nc : a.cs.length = a.nodes.length
  nl : ∀ c, c < a.cs.length → (a.cs.getD c []).length = a.zs.length
  le : ∀ c z, c < a.cs.length → z < a.zs.length → (lst a c z).length ≤ a.hi
  rg : ∀ c z, c < a.cs.length → z < a.zs.length → ∀ x ∈ lst a c z, inZ (zn a z) x ∧ ¬ Cov (F (zn a z).fr) x
  nd : ∀ c z, c < a.cs.length → z < a.zs.length → (lst a c z).Nodup
  ap : ∀ c d z, c < a.cs.length → d < a.cs.length → z < a.zs.length → c ≠ d → ∀ x ∈ lst a c z, x ∉ lst a d z
def setZ (a : A) (z : Nat) (y : Z) : A := { a with zs := a.zs.set z y }
def setC (a : A) (c z : Nat) (l : List Int) : A := { a with cs := a.cs.set c ((a.cs.getD c []).set z l) }
theorem getD_set {α : Type} {l : List α} {i j : Nat} {x d : α} (hi : i < l.length) : (l.set i x).getD j d = if j = i then x else l.getD j d := by
  rw [List.getD_eq_getElem?_getD, List.getD_eq_getElem?_getD, List.getElem?_set]
  by_cases e : j = i
  · subst e; rw [if_pos rfl, if_pos rfl, if_pos hi]; rfl
  · rw [if_neg (fun h => e h.symm), if_neg e]
theorem zn_setZ {a : A} {z y : Nat} {x : Z} (hz : z < a.zs.length) : zn (setZ a z x) y = if y = z then x else zn a y := getD_set hz
theorem lst_setZ {a : A} {z : Nat} {x : Z} {c y : Nat} : lst (setZ a z x) c y = lst a c y := rfl
theorem zn_setC {a : A} {c z : Nat} {l : List Int} {y : Nat} : zn (setC a c z l) y = zn a y := rfl
theorem lst_setC {a : A} {c z : Nat} {l : List Int} {d y : Nat} (hc : c < a.cs.length) (hz : z < (a.cs.getD c []).length) : lst (setC a c z l) d y = if d = c ∧ y = z then l else lst a d y := by
  show ((a.cs.set c ((a.cs.getD c []).set z l)).getD d []).getD y [] = _
  rw [getD_set hc]
  by_cases e : d = c
  · subst e
    rw [if_pos rfl, getD_set hz]
    by_cases e2 : y = z
    · rw [if_pos e2, if_pos ⟨rfl, e2⟩]
    · rw [if_neg e2, if_neg (fun h => e2 h.2)]; rfl
  · rw [if_neg e, if_neg (fun h => e h.1)]; rfl
/-- Zones of the same parameters. -/
structure Par (z y : Z) : Prop where
  nd : y.nd = z.nd
  kd : y.kd = z.kd
  st : y.st = z.st
  ct : y.ct = z.ct
  mn : y.mn = z.mn
theorem Par.refl (z : Z) : Par z z := ⟨rfl, rfl, rfl, rfl, rfl⟩
theorem Par.trans {x y z : Z} (h : Par x y) (g : Par y z) : Par x z := ⟨g.nd.trans h.nd, g.kd.trans h.kd, g.st.trans h.st, g.ct.trans h.ct, g.mn.trans h.mn⟩
theorem Par.rng {z y : Z} (h : Par z y) (r : Rng z) : Rng y := by
  obtain ⟨h1, h2, h3, h4, h5⟩ := h
  exact ⟨by rw [h1]; exact r.nd0, by rw [h1]; exact r.nd1, by rw [h2]; exact r.kd, by rw [h3]; exact r.st0, by rw [h4]; exact r.ct0, by rw [h3, h4]; exact r.ct1, by rw [h5]; exact r.mn0, by rw [h5, h4]; exact r.mn1⟩
/-- Allocators of the same parameters. -/
structure Sa (a b : A) : Prop where
  nodes : b.nodes = a.nodes
  bt : b.bt = a.bt
  hi : b.hi = a.hi
  nz : b.zs.length = a.zs.length
  nc : b.cs.length = a.cs.length
  par : ∀ z, Par (zn a z) (zn b z)
theorem Sa.refl (a : A) : Sa a a := ⟨rfl, rfl, rfl, rfl, rfl, fun _ => Par.refl _⟩
theorem Sa.trans {a b c : A} (h : Sa a b) (g : Sa b c) : Sa a c := ⟨g.nodes.trans h.nodes, g.bt.trans h.bt, g.hi.trans h.hi, g.nz.trans h.nz, g.nc.trans h.nc, fun z => (h.par z).trans (g.par z)⟩
theorem Sa.inZ {a b : A} (h : Sa a b) {z : Nat} {x : Int} : inZ (zn b z) x ↔ inZ (zn a z) x := by
  obtain ⟨_, _, h3, h4, _⟩ := h.par z
  unfold Zn.inZ
  rw [h3, h4]
section
variable {a : A} {c z : Nat} {x : Int}
theorem VA.lz (h : VA a) (hc : c < a.cs.length) (hz : z < a.zs.length) : z < (a.cs.getD c []).length := by rw [h.nl c hc]; exact hz
theorem VA.fr_in (h : VA a) (hz : z < a.zs.length) (hx : Fr a z x) : inZ (zn a z) x := by
  rcases hx with hx | ⟨c, hc, hx⟩
  · exact cov_in (h.vz z hz).l hx
  · exact (h.rg c z hc hz x hx).1
theorem Sa.setZ {y : Z} (hz : z < a.zs.length) (hp : Par (zn a z) y) : Sa a (setZ a z y) :=
  ⟨rfl, rfl, rfl, by simp [Zn.setZ], rfl, fun w => by
    rw [zn_setZ hz]
    split
    · rename_i e; rw [e]; exact hp
    · exact Par.refl _⟩
theorem Sa.setC {l : List Int} : Sa a (setC a c z l) := ⟨rfl, rfl, rfl, rfl, by simp [Zn.setC], fun _ => Par.refl _⟩
theorem VA.setZ {y : Z} (h : VA a) (hz : z < a.zs.length) (hp : Par (zn a z) y) (hy : Vd y.st y.ct y.fr) (hn : ∀ x, Cov (F y.fr) x → ¬ Ca a z x) : VA (setZ a z y) := by
  have hs := Sa.setZ hz hp
  refine ⟨h.n0, h.n4, h.nr, h.b1, h.bh, h.h64, by rw [hs.nz]; exact h.z1, by rw [hs.nz]; exact h.z6, fun w hw => ?_, ?_, fun w hw => ?_, h.nc, fun d hd => ?_, fun d w hd hw => ?_, fun d w hd hw x hx => ?_, fun d w hd hw => ?_, fun d e w hd he hw => ?_⟩
  · rw [hs.nz] at hw
    rw [zn_setZ hz]
    split
    · exact ⟨hp.rng (h.vz z hz).r, hy⟩
    · exact h.vz w hw
  · rw [(hs.par 0).st]; exact h.s0
  · rw [hs.nz] at hw
    rw [(hs.par _).st, (hs.par _).st, (hs.par _).ct]; exact h.ss w hw
  · rw [hs.nz]; exact h.nl d hd
  · rw [hs.nz] at hw; exact h.le d w hd hw
  · rw [hs.nz] at hw
    rw [lst_setZ] at hx
    obtain ⟨h1, h2⟩ := h.rg d w hd hw x hx
    refine ⟨hs.inZ.2 h1, ?_⟩
    rw [zn_setZ hz]
    split
    · rename_i e
      subst e
      exact fun hc => hn x hc ⟨d, hd, hx⟩
    · exact h2
  · rw [hs.nz] at hw; exact h.nd d w hd hw
  · rw [hs.nz] at hw; exact h.ap d e w hd he hw
theorem VA.setC {l : List Int} (h : VA a) (hc : c < a.cs.length) (hz : z < a.zs.length) (hl : l.Nodup) (hle : l.length ≤ a.hi) (hr : ∀ x ∈ l, inZ (zn a z) x ∧ ¬ Cov (F (zn a z).fr) x) (ha : ∀ x ∈ l, ∀ d, d < a.cs.length → d ≠ c → x ∉ lst a d z) : VA (setC a c z l) := by
  have hs := Sa.setC (a := a) (c := c) (z := z) (l := l)
  have hlz := h.lz hc hz
  have e := fun d y => lst_setC (l := l) (d := d) (y := y) hc hlz
  refine ⟨h.n0, h.n4, h.nr, h.b1, h.bh, h.h64, h.z1, h.z6, h.vz, h.s0, h.ss, by rw [hs.nc]; exact h.nc, fun d hd => ?_, fun d w hd hw => ?_, fun d w hd hw x hx => ?_, fun d w hd hw => ?_, fun d d' w hd hd' hw hne x hx => ?_⟩
  · rw [hs.nc] at hd
    show ((a.cs.set c ((a.cs.getD c []).set z l)).getD d []).length = a.zs.length
    rw [getD_set hc]
    split
    · rw [List.length_set]; exact h.nl c hc
    · exact h.nl d hd
  · rw [hs.nc] at hd
    rw [e]
    split
    · exact hle
    · exact h.le d w hd hw
  · rw [hs.nc] at hd
    rw [e] at hx
    split at hx
    · rename_i g
      rw [g.2]; exact hr x hx
    · exact h.rg d w hd hw x hx
  · rw [hs.nc] at hd
    rw [e]
    split
    · exact hl
    · exact h.nd d w hd hw
  · rw [hs.nc] at hd hd'
    rw [e] at hx ⊢
    split at hx
    · rename_i g
      rw [if_neg (fun g' => hne (g.1.trans g'.1.symm))]
      rw [g.2]
      exact ha x hx d' hd' (fun e => hne (g.1.trans e.symm))
    · rename_i g
      split
      · rename_i g'
        intro hm
        rw [g'.2] at hx
        refine ha x hm d hd (fun e => ?_) hx
        exact hne (e.trans g'.1.symm)
      · exact h.ap d d' w hd hd' hw hne x hx
theorem Fr_setZ {y : Z} (hz : z < a.zs.length) {w : Nat} : Fr (setZ a z y) w x ↔ if w = z then Cov (F y.fr) x ∨ Ca a z x else Fr a w x := by
  unfold Fr
  rw [zn_setZ hz]
  split
  · rename_i e; rw [e]; exact Iff.rfl
  · exact Iff.rfl
theorem Ca_setC {l : List Int} (h : VA a) (hc : c < a.cs.length) (hz : z < a.zs.length) {w : Nat} : Ca (setC a c z l) w x ↔ if w = z then x ∈ l ∨ ∃ d, d < a.cs.length ∧ d ≠ c ∧ x ∈ lst a d z else Ca a w x := by
  have e := fun d y => lst_setC (l := l) (d := d) (y := y) hc (h.lz hc hz)
  have hn : (setC a c z l).cs.length = a.cs.length := by simp [setC]
  unfold Ca
  rw [hn]
  split
  · rename_i ew
    subst ew
    constructor
    · rintro ⟨d, hd, hx⟩
      rw [e] at hx
      split at hx
      · exact .inl hx
      · rename_i g
        exact .inr ⟨d, hd, fun q => g ⟨q, rfl⟩, hx⟩
    · rintro (hx | ⟨d, hd, hne, hx⟩)
      · exact ⟨c, hc, by rw [e, if_pos ⟨rfl, rfl⟩]; exact hx⟩
      · exact ⟨d, hd, by rw [e, if_neg (fun g => hne g.1)]; exact hx⟩
  · rename_i ew
    constructor
    · rintro ⟨d, hd, hx⟩
      rw [e, if_neg (fun g => ew g.2)] at hx
      exact ⟨d, hd, hx⟩
    · rintro ⟨d, hd, hx⟩
      exact ⟨d, hd, by rw [e, if_neg (fun g => ew g.2)]; exact hx⟩
/-- Frames in hand: of a zone, and free nowhere. -/
structure Hand (a : A) (z : Nat) (l : List Int) : Prop where
  nd : l.Nodup
  rg : ∀ x ∈ l, inZ (zn a z) x ∧ ¬ Fr a z x
/-- A frame in hand is given to its zone. -/
theorem give_one {f : Int} {l : List Int} {y : Z} (h : VA a) (hz : z < a.zs.length) (hh : Hand a z (f :: l)) (hp : Par (zn a z) y) (hy : Vd y.st y.ct y.fr) (hc : ∀ x, Cov (F y.fr) x ↔ Cov (F (zn a z).fr) x ∨ x = f) :
    VA (setZ a z y) ∧ Hand (setZ a z y) z l ∧ ∀ w x, Fr (setZ a z y) w x ↔ Fr a w x ∨ (w = z ∧ x = f) := by
  have hf := hh.rg f (by simp)
  have hnd := List.nodup_cons.1 hh.nd
  have e : ∀ w x, Fr (setZ a z y) w x ↔ Fr a w x ∨ (w = z ∧ x = f) := fun w x => by
    rw [Fr_setZ hz]
    split
    · rename_i ew
      subst ew
      rw [hc]
      unfold Fr
      constructor
      · rintro ((h1 | h1) | h1)
        · exact .inl (.inl h1)
        · exact .inr ⟨rfl, h1⟩
        · exact .inl (.inr h1)
      · rintro ((h1 | h1) | h1)
        · exact .inl (.inl h1)
        · exact .inr h1
        · exact .inl (.inr h1.2)
    · rename_i ew
      exact ⟨.inl, fun h => h.elim id fun h => absurd h.1 ew⟩
  refine ⟨h.setZ hz hp hy fun x hx hca => ?_, ⟨hnd.2, fun x hx => ⟨(Sa.setZ hz hp).inZ.2 (hh.rg x (by simp [hx])).1, fun hfr => ?_⟩⟩, e⟩
  · rcases (hc x).1 hx with h1 | h1
    · obtain ⟨d, hd, hm⟩ := hca
      exact (h.rg d z hd hz x hm).2 h1
    · subst h1; exact hf.2 (.inr hca)
  · rcases (e z x).1 hfr with h1 | ⟨_, h1⟩
    · exact (hh.rg x (by simp [hx])).2 h1
    · subst h1; exact hnd.1 hx
/-- A frame is taken from a zone into the hand. -/
theorem take_one {f : Int} {l : List Int} {y : Z} (h : VA a) (hz : z < a.zs.length) (hh : Hand a z l) (hp : Par (zn a z) y) (hy : Vd y.st y.ct y.fr) (hf : Cov (F (zn a z).fr) f) (hc : ∀ x, Cov (F y.fr) x ↔ Cov (F (zn a z).fr) x ∧ x ≠ f) :
    VA (setZ a z y) ∧ Hand (setZ a z y) z (l ++ [f]) ∧ ∀ w x, Fr (setZ a z y) w x ↔ Fr a w x ∧ ¬ (w = z ∧ x = f) := by
  have hnc : ¬ Ca a z f := fun ⟨d, hd, hm⟩ => (h.rg d z hd hz f hm).2 hf
  have e : ∀ w x, Fr (setZ a z y) w x ↔ Fr a w x ∧ ¬ (w = z ∧ x = f) := fun w x => by
    rw [Fr_setZ hz]
    split
    · rename_i ew
      subst ew
      rw [hc]
      unfold Fr
      constructor
      · rintro (h1 | h1)
        · exact ⟨.inl h1.1, fun g => h1.2 g.2⟩
        · exact ⟨.inr h1, fun g => hnc (g.2 ▸ h1)⟩
      · rintro ⟨h1 | h1, h2⟩
        · exact .inl ⟨h1, fun g => h2 ⟨rfl, g⟩⟩
        · exact .inr h1
    · rename_i ew
      exact ⟨fun h => ⟨h, fun g => ew g.1⟩, fun h => h.1⟩
  refine ⟨h.setZ hz hp hy fun x hx hca => ?_, ⟨?_, fun x hx => ⟨?_, fun hfr => ?_⟩⟩, e⟩
  · obtain ⟨d, hd, hm⟩ := hca
    exact (h.rg d z hd hz x hm).2 ((hc x).1 hx).1
  · rw [List.nodup_append]
    refine ⟨hh.nd, by simp, fun u hu v hv huv => ?_⟩
    obtain rfl := List.mem_singleton.1 hv
    subst huv
    exact (hh.rg u hu).2 (.inl hf)
  · rcases List.mem_append.1 hx with h1 | h1
    · exact (Sa.setZ hz hp).inZ.2 (hh.rg x h1).1
    · obtain rfl := List.mem_singleton.1 h1
      exact (Sa.setZ hz hp).inZ.2 (cov_in (h.vz z hz).l hf)
  · obtain ⟨h2, h3⟩ := (e z x).1 hfr
    rcases List.mem_append.1 hx with h1 | h1
    · exact (hh.rg x h1).2 h2
    · exact h3 ⟨rfl, List.mem_singleton.1 h1⟩
/-- The list of a cache is taken out into the hand. -/
theorem drain_list (h : VA a) (hc : c < a.cs.length) (hz : z < a.zs.length) : VA (setC a c z []) ∧ Hand (setC a c z []) z (lst a c z) ∧ ∀ w x, Fr (setC a c z []) w x ↔ Fr a w x ∧ ¬ (w = z ∧ x ∈ lst a c z) := by
  have e : ∀ w x, Fr (setC a c z []) w x ↔ Fr a w x ∧ ¬ (w = z ∧ x ∈ lst a c z) := fun w x => by
    unfold Fr
    rw [Ca_setC h hc hz, zn_setC]
    split
    · rename_i ew
      subst ew
      constructor
      · rintro (h1 | h1 | ⟨d, hd, hne, hx⟩)
        · exact ⟨.inl h1, fun g => (h.rg c w hc hz x g.2).2 h1⟩
        · simp at h1
        · exact ⟨.inr ⟨d, hd, hx⟩, fun g => h.ap d c w hd hc hz hne x hx g.2⟩
      · rintro ⟨h1 | ⟨d, hd, hx⟩, h2⟩
        · exact .inl h1
        · exact .inr (.inr ⟨d, hd, fun e => h2 ⟨rfl, e ▸ hx⟩, hx⟩)
    · rename_i ew
      exact ⟨fun h => ⟨h, fun g => ew g.1⟩, fun h => h.1⟩
  refine ⟨h.setC hc hz List.nodup_nil (by simp) (fun x hx => by simp at hx) (fun x hx => by simp at hx), ⟨h.nd c z hc hz, fun x hx => ⟨(h.rg c z hc hz x hx).1, fun g => ((e z x).1 g).2 ⟨rfl, hx⟩⟩⟩, e⟩
/-- What is in hand goes into a cache whose list has none of it. -/
theorem cache_list {l m : List Int} (h : VA a) (hc : c < a.cs.length) (hz : z < a.zs.length) (hh : Hand a z m) (hl : l.Nodup) (hm : ∀ x, x ∈ l ↔ x ∈ lst a c z ∨ x ∈ m) (hle : l.length ≤ a.hi) :
    VA (setC a c z l) ∧ ∀ w x, Fr (setC a c z l) w x ↔ Fr a w x ∨ (w = z ∧ x ∈ m) := by
  refine ⟨h.setC hc hz hl hle (fun x hx => ?_) (fun x hx d hd hne hd2 => ?_), fun w x => ?_⟩
  · rcases (hm x).1 hx with h1 | h1
    · exact h.rg c z hc hz x h1
    · exact ⟨(hh.rg x h1).1, fun g => (hh.rg x h1).2 (.inl g)⟩
  · rcases (hm x).1 hx with h1 | h1
    · exact h.ap c d z hc hd hz (Ne.symm hne) x h1 hd2
    · exact (hh.rg x h1).2 (.inr ⟨d, hd, hd2⟩)
  · unfold Fr
    rw [Ca_setC h hc hz, zn_setC]
    split
    · rename_i ew
      subst ew
      rw [hm]
      constructor
      · rintro (h1 | (h1 | h1) | ⟨d, hd, _, hx⟩)
        · exact .inl (.inl h1)
        · exact .inl (.inr ⟨c, hc, h1⟩)
        · exact .inr ⟨rfl, h1⟩
        · exact .inl (.inr ⟨d, hd, hx⟩)
      · rintro ((h1 | ⟨d, hd, hx⟩) | ⟨_, h1⟩)
        · exact .inl h1
        · by_cases e : d = c
          · subst e; exact .inr (.inl (.inl hx))
          · exact .inr (.inr ⟨d, hd, e, hx⟩)
        · exact .inr (.inl (.inr h1))
    · rename_i ew
      exact ⟨.inl, fun h => h.elim id fun h => absurd h.1 ew⟩
/-- A frame is taken out of a cache's list. -/
theorem uncache {f : Int} {l : List Int} (h : VA a) (hc : c < a.cs.length) (hz : z < a.zs.length) (hf : f ∈ lst a c z) (hl : l.Nodup) (hm : ∀ x, x ∈ l ↔ x ∈ lst a c z ∧ x ≠ f) :
    VA (setC a c z l) ∧ ∀ w x, Fr (setC a c z l) w x ↔ Fr a w x ∧ ¬ (w = z ∧ x = f) := by
  refine ⟨h.setC hc hz hl (Nat.le_trans (nodup_len hl (h.nd c z hc hz) fun x hx => ((hm x).1 hx).1) (h.le c z hc hz)) (fun x hx => h.rg c z hc hz x ((hm x).1 hx).1) (fun x hx d hd hne => h.ap c d z hc hd hz (Ne.symm hne) x ((hm x).1 hx).1), fun w x => ?_⟩
  unfold Fr
  rw [Ca_setC h hc hz, zn_setC]
  split
  · rename_i ew
    subst ew
    rw [hm]
    constructor
    · rintro (h1 | h1 | ⟨d, hd, hne, hx⟩)
      · exact ⟨.inl h1, fun g => (h.rg c w hc hz f hf).2 (g.2 ▸ h1)⟩
      · exact ⟨.inr ⟨c, hc, h1.1⟩, fun g => h1.2 g.2⟩
      · exact ⟨.inr ⟨d, hd, hx⟩, fun g => h.ap d c w hd hc hz hne x hx (g.2 ▸ hf)⟩
    · rintro ⟨h1 | ⟨d, hd, hx⟩, h2⟩
      · exact .inl h1
      · by_cases e : d = c
        · subst e; exact .inr (.inl ⟨hx, fun g => h2 ⟨rfl, g⟩⟩)
        · exact .inr (.inr ⟨d, hd, e, hx⟩)
  · rename_i ew
    exact ⟨fun h => ⟨h, fun g => ew g.1⟩, fun h => h.1⟩
end
end Go.Zn
