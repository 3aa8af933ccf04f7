/- The frame of every law: what came in is read off as plain cells; a call that returns true and writes nothing that was there gives the row. -/
import Derived.WalkKit
import Derived.ProofKit
import Derived.OpenShut
import Derived.ShutString
import Derived.ChangeOld
import Derived.Below
import Derived.Deep.Slices
import Derived.SizedLaws
namespace Go.Lift
open Go.ChangeShapes Go.WideShapes Go.ChangeAt Go.RowKit Go.Deep

/-- The cells 'cs' read as data of the type t, in w. -/
def Rd (P : Program) (w : World) (t : TypeId) (cs : List Value) : Prop :=
  ∃ (H : Type) (enc : TypeId × Value → H) (fuel : Nat) (x : DataW H × List MemPlace), DataW.trod enc P w 0 (fun _ => true) true fuel t cs = some x

section
variable {P : Program} {w : World} {t e : TypeId} {cs : List Value}
theorem Rd.int {k : IntKind} (h : Rd P w t cs) (ht : P.underlying t = some (.int k)) : ∃ n, cs = [.int k n] ∧ (Lit.int k n).wf = true := by
  obtain ⟨H, enc, fuel, x, h⟩ := h
  obtain ⟨n, h1, _, h2⟩ := DataW.trod_int ht h
  exact ⟨n, h1, h2⟩
theorem Rd.bool (h : Rd P w t cs) (ht : P.underlying t = some .bool) : ∃ b, cs = [.bool b] := by
  obtain ⟨H, enc, fuel, x, h⟩ := h
  obtain ⟨n, h1, _⟩ := DataW.trod_bool ht h
  exact ⟨n, h1⟩
theorem Rd.string (h : Rd P w t cs) (ht : P.underlying t = some .string) : ∃ s : ByteArray, cs = [.string s] ∧ s.size ≤ maxLen := by
  obtain ⟨H, enc, fuel, x, h⟩ := h
  obtain ⟨n, h1, _, h2⟩ := DataW.trod_string ht h
  exact ⟨n, h1, h2⟩
theorem Rd.struct {fs : Array Field} (h : Rd P w t cs) (ht : P.underlying t = some (.struct fs)) :
    cs.length = P.cellsOf t ∧ ∀ (i : Nat) (f : Field), fs[i]? = some f → Rd P w f.type ((cs.drop f.offset).take (P.cellsOf f.type)) := by
  obtain ⟨H, enc, fuel, x, h⟩ := h
  obtain ⟨xs, n, _, _, hl, hlen, hf⟩ := DataW.trod_struct ht h
  refine ⟨hl, fun i f hi => ?_⟩
  have hlt : i < fs.size := (Array.getElem?_eq_some_iff.1 hi).1
  exact ⟨H, enc, n, xs[i]'(by omega), by rw [hf i f hi]; exact List.getElem?_eq_getElem (by omega)⟩
theorem Rd.array {n : Nat} (h : Rd P w t cs) (ht : P.underlying t = some (.array n e)) :
    cs.length = P.cellsOf t ∧ ∀ (i : Nat), i < n → Rd P w e ((cs.drop (i * P.cellsOf e)).take (P.cellsOf e)) := by
  obtain ⟨H, enc, fuel, x, h⟩ := h
  obtain ⟨xs, m, _, _, hl, hlen, hf⟩ := DataW.trod_array ht h
  refine ⟨hl, fun i hi => ?_⟩
  exact ⟨H, enc, m, xs[i]'(by omega), by rw [hf i hi]; exact List.getElem?_eq_getElem (by omega)⟩
theorem Rd.slice (h : Rd P w t cs) (ht : P.underlying t = some (.slice e)) :
    cs = [.slice none 0 0] ∨ ∃ (a : Addr) (len cap : Nat), cs = [.slice (some a) len cap] ∧ len ≤ cap ∧ cap ≤ maxLen ∧
      ∀ i, i < cap → ∃ cs', cs'.length = P.cellsOf e ∧ (∀ j, j < P.cellsOf e → w.cell? ((a.add (i * P.cellsOf e)).add j) = cs'[j]?) ∧ Rd P w e cs' := by
  obtain ⟨H, enc, fuel, x, h⟩ := h
  rcases open_slice ht h with ⟨h0, _⟩ | ⟨a, len, cap, m, n, D, Pl, hcs, _, hl, hm, hmm, _, hi⟩
  · exact .inl h0
  · refine .inr ⟨a, len, cap, hcs, hl, hm, fun i hic => ?_⟩
    obtain ⟨cs', hc, hr⟩ := hi i (by rw [hmm]; exact hic)
    obtain ⟨_, h1, h2⟩ := World.cells?_some hc
    exact ⟨cs', h1, h2, H, enc, n, _, hr⟩
end

/-- What the walk is told of its arguments. -/
def Args (P : Program) (W : World) : List TypeId → List Value → Prop
  | [], [] => True
  | t :: ts, v :: vs => (∃ base, Value.okWide P W .any base t v) ∧ Rd P W t v.cells.toList ∧ Args P W ts vs
  | _, _ => False
theorem Args.nil {P : Program} {W : World} {vs : List Value} (h : Args P W [] vs) : vs = [] := by
  cases vs <;> simp [Args] at h ⊢
theorem Args.cons {P : Program} {W : World} {t : TypeId} {ts : List TypeId} {vs : List Value} (h : Args P W (t :: ts) vs) :
    ∃ v us, vs = v :: us ∧ (∃ base, Value.okWide P W .any base t v) ∧ Rd P W t v.cells.toList ∧ Args P W ts us := by
  cases vs with
  | nil => simp [Args] at h
  | cons v us => exact ⟨v, us, rfl, h⟩

section
variable {H : Type} {enc : TypeId × Value → H} {P : Program}
theorem args_of {W : World} {base : Nat} : ∀ {ts : List TypeId} {vs : List Value} {ds : List (DataW H)} {ps : List MemPlace}, DataW.TrodAll enc P W 0 (fun _ => true) true ts vs ds ps →
    (∀ (j : Nat) t v, ts[j]? = some t → vs[j]? = some v → Value.okWide P W .any base t v) → Args P W ts vs
  | [], vs, ds, ps, h, _ => by obtain ⟨rfl, _, _⟩ := trodAll_nil h; trivial
  | t :: ts, vs, ds, ps, h, hv => by
    obtain ⟨v, vs', d, ds', p, q, rfl, rfl, rfl, h0, h1⟩ := trodAll_cons h
    obtain ⟨fuel, hf⟩ := h0
    exact ⟨⟨base, hv 0 t v rfl rfl⟩, ⟨H, enc, fuel, _, hf⟩, args_of h1 fun j t v ht hv' => hv (j + 1) t v ht hv'⟩
theorem trodAll_stays (laid : laidOutB P = true) {W W' : World} (bel : Below W.heap.size W W') : ∀ {ts : List TypeId} {vs : List Value} {ds : List (DataW H)} {ps : List MemPlace},
    (∀ t ∈ ts, P.readableRec t = true ∧ t < P.types.size) → DataW.TrodAll enc P W 0 (fun _ => true) true ts vs ds ps → DataW.TrodAll enc P W' 0 (fun b => decide (b < W.heap.size)) true ts vs ds ps
  | [], vs, ds, ps, _, h => by obtain ⟨rfl, rfl, rfl⟩ := trodAll_nil h; rfl
  | t :: ts, vs, ds, ps, hr, h => by
    obtain ⟨v, vs', d, ds', p, q, rfl, rfl, rfl, h0, h1⟩ := trodAll_cons h
    have k0 := h0
    obtain ⟨m, hm⟩ := k0
    exact ⟨p, q, Below.trod laid (hr t (by simp)).1 (hr t (by simp)).2 h0 bel (DataW.trod_lt m _ _ _ hm), trodAll_stays laid bel (fun t ht => hr t (by simp [ht])) h1, rfl⟩
theorem trodAll_length {W : World} {base : Nat} {spare : Nat → Bool} {held : Bool} : ∀ {ts : List TypeId} {vs : List Value} {ds : List (DataW H)} {ps : List MemPlace}, DataW.TrodAll enc P W base spare held ts vs ds ps → ds.length = ts.length
  | [], vs, ds, ps, h => by obtain ⟨rfl, rfl, rfl⟩ := trodAll_nil h; rfl
  | t :: ts, vs, ds, ps, h => by
    obtain ⟨v, vs', d, ds', p, q, rfl, rfl, rfl, h0, h1⟩ := trodAll_cons h
    simp [trodAll_length h1]
end

theorem list2_of {α : Type} {l : List α} {x y : α} (h : l.length = 2) (h0 : (l.drop 0).take 1 = [x]) (h1 : (l.drop 1).take 1 = [y]) : l = [x, y] := by
  match l, h with
  | [a, b], _ => simp at h0 h1; simp [h0, h1]
theorem list3_of {α : Type} {l : List α} {x y z : α} (h : l.length = 3) (h0 : (l.drop 0).take 1 = [x]) (h1 : (l.drop 1).take 1 = [y]) (h2 : (l.drop 2).take 1 = [z]) : l = [x, y, z] := by
  match l, h with
  | [a, b, c], _ => simp at h0 h1 h2; simp [h0, h1, h2]
theorem list4_of {α : Type} {l : List α} {x y z u : α} (h : l.length = 4) (h0 : (l.drop 0).take 1 = [x]) (h1 : (l.drop 1).take 1 = [y]) (h2 : (l.drop 2).take 1 = [z]) (h3 : (l.drop 3).take 1 = [u]) : l = [x, y, z, u] := by
  match l, h with
  | [a, b, c, d], _ => simp at h0 h1 h2 h3; simp [h0, h1, h2, h3]
theorem arr_of_list {α : Type} {cs : Array α} {l : List α} (h : cs.toList = l) : cs = l.toArray := by rw [← h]
/-- A slice of ints that came in. -/
theorem Rd.ints {P : Program} {w : World} {t e : TypeId} {cs : List Value} {k : IntKind} (h : Rd P w t cs) (ht : P.underlying t = some (.slice e)) (he : P.underlying e = some (.int k)) (hc : P.cellsOf e = 1) :
    ∃ (a : Option Addr) (n c : Nat) (f : Nat → Int), cs = [.slice a n c] ∧ n ≤ c ∧ c ≤ maxLen ∧ (a = none → c = 0) ∧ (0 < n → ∃ b off, a = some ⟨b, off, none⟩ ∧ ∀ i, i < n → w.cell? ⟨b, off + i, none⟩ = some (.int k (f i))) ∧ (∀ i, n ≤ i → f i = 0) ∧ ∀ i, i < n → (Lit.int k (f i)).wf = true := by
  rcases h.slice ht with rfl | ⟨a, n, c, rfl, hn, hm, hi⟩
  · exact ⟨none, 0, 0, fun _ => 0, rfl, Nat.le_refl _, Nat.zero_le _, fun _ => rfl, fun h => by omega, fun _ _ => rfl, fun i h => by omega⟩
  · have key : ∀ i, ∃ x : Int, i < n → w.cell? (a.add i) = some (.int k x) ∧ (Lit.int k x).wf = true := by
      intro i
      by_cases h : i < n
      · obtain ⟨cs', h1, h2, h3⟩ := hi i (by omega)
        obtain ⟨x, rfl, wx⟩ := h3.int he
        have := h2 0 (by omega)
        rw [hc, Nat.mul_one] at this
        refine ⟨x, fun _ => ⟨?_, wx⟩⟩
        have e0 : (a.add i).add 0 = a.add i := by simp [Addr.add]
        rw [e0] at this
        simpa using this
      · exact ⟨0, fun h' => absurd h' h⟩
    obtain ⟨g, hg⟩ := Classical.axiomOfChoice key
    have hpos : ∀ i, i < n → (if i < n then g i else 0) = g i := fun i h => if_pos h
    refine ⟨some a, n, c, fun i => if i < n then g i else 0, rfl, hn, hm, (fun h => by cases h), fun h0 => ?_, fun i h => if_neg (by omega), fun i h => ?_⟩
    · obtain ⟨b, off, spot⟩ := a
      have hc0 := (hg 0 h0).1
      have hspot : spot = none := by simpa [Addr.add] using World.cell?_spot hc0
      subst hspot
      refine ⟨b, off, rfl, fun i hi => ?_⟩
      show _ = some (Value.int k (if i < n then g i else 0))
      rw [hpos i hi]
      have := (hg i hi).1
      rw [show (⟨b, off, none⟩ : Addr).add i = ⟨b, off + i, none⟩ by simp [Addr.add]] at this
      exact this
    · show (Lit.int k (if i < n then g i else 0)).wf = true
      rw [hpos i h]; exact (hg i h).2
/-- THE FRAME OF A LAW. -/
theorem law_lift {H : Type} {enc : TypeId × Value → H} {a : Assume} {C : Checked} {os : Os} {f : FuncId} {fn : Func} {s : ChangeSpec} {tb : TypeId}
    (own : ownKnob C.prog.godebug = none) (started : os.Started) (noInit : C.prog.inits.idxOf? f = none) (hfn : C.prog.funcs[f]? = some fn)
    (witness : ∃ (w : World) (tape : Tape) (i : Input), w.os = os ∧ (w.forCall tape i).Shaped C.prog ∧ i.vars = [] ∧ Input.okWide C.prog (w.forCall tape i) .any w.heap.size f i ∧
      s.pre6 enc C.prog fn [] false (w.forCall tape i).memory i.args ∧ a.holds C.prog (lone (Frame.enter C.prog f i.args .normal) [] (w.forCall tape i)))
    (laid : laidOutB C.prog = true) (hvars : s.vars = [])
    (hs : ∀ ds : List (DataW H), ds.length = fn.params.toList.length → s.fn H ds = { results := [.lit (.bool true)], args := ds })
    (hres : fn.resultTypes = #[tb]) (htb : C.prog.underlying tb = some .bool)
    (hrB : (fn.params.toList.all fun t => C.prog.readableRec t && decide (t < C.prog.types.size)) = true)
    (walk : ∀ (W : World) (vs : List Value), Args C.prog W fn.params.toList vs → Calls C.prog f vs.toArray W fun e w' => e = .returned (.bool true) ∧ Below W.heap.size W w') :
    ReturnsInHanded a C os f .any (s.pre6 enc C.prog fn [] false) (s.post enc C.prog fn false true false false) := by
  have hr : ∀ t ∈ fn.params.toList, C.prog.readableRec t = true ∧ t < C.prog.types.size := by
    intro t ht
    have := List.all_eq_true.1 hrB t ht
    simpa using this
  refine returnsInHanded_of_change own started noInit hfn witness ?_
  intro W base args ds gs before hval hW _ _
  have hW' := hW
  obtain ⟨p, q, hA, hV, rfl, hfz, hnd⟩ := hW
  rw [hvars] at hV
  obtain ⟨rfl, rfl⟩ := trodVars_none hV
  have hargs := args_of hA fun j t v ht hv => hval j t v (by simpa using ht) (by simpa using hv)
  have hlen := trodAll_length hA
  refine (walk W args.toList hargs).mono fun e W' ⟨he, bel⟩ => ?_
  subst he
  have e1 : s.fn H (ds ++ []) = { results := [.lit (.bool true)], args := ds } := by rw [List.append_nil]; exact hs ds hlen
  refine ⟨_, rfl, ds, [], _, [], p, [], hW', ?_, ?_, ?_, bel.frame _, fun h => by cases h⟩
  · rw [e1, hres]
    exact trodAll_mk1 (shut_bool htb _)
  · rw [e1]
    exact trodAll_stays laid bel hr hA
  · rw [e1, hvars]
    rfl
end Go.Lift
