/- Caches in memory of a call's own: slabs whose flags lie in blocks of their own. -/
import Derived.Test.YthhdiiboblaclaaW11
namespace Go.Proofs.Ythhdiiboblaclaa
open Go.RowKit Go.Over Go.Slb Go.Seg Go.Grow
/-- A slab: its frame, its flags, the block of its flags and their capacity. -/
abbrev R := Int × List Bool × Nat × Nat
def sl (r : R) : S := (r.1, r.2.1)
def rv (r : R) : Value := .slice (some ⟨r.2.2.1, 0, none⟩) r.2.1.length r.2.2.2
def cellsR (rs : List R) : List Value := rs.flatMap fun r => [.int .i64 r.1, rv r]
structure OwnC (w : World) (base : Nat) (V : Value) (rs : List R) : Prop where
  out : w.ownsRow base 52 2 V rs.length (cellsR rs)
  inn : ∀ r ∈ rs, w.ownsRow base 4 1 (rv r) r.2.1.length (r.2.1.map Value.bool)
  nod : (rs.map (·.2.2.1)).Nodup
theorem cellsR_len (rs : List R) : (cellsR rs).length = rs.length * 2 := by
  induction rs with
  | nil => rfl
  | cons r rs ih => simp only [cellsR, List.flatMap_cons, List.length_append, List.length_cons, List.length_nil] at ih ⊢; omega
theorem cellsR_append (rs qs : List R) : cellsR (rs ++ qs) = cellsR rs ++ cellsR qs := by simp [cellsR]
theorem cellsR_one (rs : List R) : ∀ u ∈ cellsR rs, u.oneCell' = true := by
  intro u hu
  simp only [cellsR, List.mem_flatMap] at hu
  obtain ⟨r, _, h⟩ := hu
  simp at h
  rcases h with rfl | rfl <;> rfl
theorem cellsR_get : ∀ {rs : List R} {i : Nat} {r : R}, rs[i]? = some r → (cellsR rs)[i * 2]? = some (.int .i64 r.1) ∧ (cellsR rs)[i * 2 + 1]? = some (rv r)
  | [], i, r, h => by simp at h
  | q :: rs, 0, r, h => by
    simp at h; subst h
    exact ⟨rfl, rfl⟩
  | q :: rs, i + 1, r, h => by
    have ih := cellsR_get (rs := rs) (i := i) (r := r) (by simpa using h)
    have e : cellsR (q :: rs) = Value.int .i64 q.1 :: rv q :: cellsR rs := rfl
    rw [e, show (i + 1) * 2 = i * 2 + 1 + 1 by omega, show i * 2 + 1 + 1 + 1 = (i * 2 + 1) + 1 + 1 by omega]
    simpa using ih
theorem cellsR_take : ∀ (rs : List R) (i : Nat), (cellsR rs).take (i * 2) = cellsR (rs.take i)
  | [], i => by simp [cellsR]
  | q :: rs, 0 => by simp [cellsR]
  | q :: rs, i + 1 => by
    have e : cellsR (q :: rs) = Value.int .i64 q.1 :: rv q :: cellsR rs := rfl
    have e2 : cellsR ((q :: rs).take (i + 1)) = Value.int .i64 q.1 :: rv q :: cellsR (rs.take i) := rfl
    rw [e, e2, ← cellsR_take rs i, show (i + 1) * 2 = i * 2 + 1 + 1 by omega]
    rfl
theorem cellsR_drop : ∀ (rs : List R) (i : Nat), (cellsR rs).drop (i * 2) = cellsR (rs.drop i)
  | [], i => by simp [cellsR]
  | q :: rs, 0 => by simp
  | q :: rs, i + 1 => by
    have e : cellsR (q :: rs) = Value.int .i64 q.1 :: rv q :: cellsR rs := rfl
    have e2 : cellsR ((q :: rs).drop (i + 1)) = cellsR (rs.drop i) := rfl
    rw [e, e2, ← cellsR_drop rs i, show (i + 1) * 2 = i * 2 + 1 + 1 by omega]
    rfl
section
variable {w w' : World} {base : Nat} {V : Value} {rs : List R}
theorem flags_own {g c : Nat} {u : List Bool} {n : Nat} (h : w.ownsRow base 4 1 (.slice (some ⟨g, 0, none⟩) n c) n (u.map Value.bool)) (hn : u.length = n) : Flags w (some ⟨g, 0, none⟩) u := by
  intro h0
  refine ⟨g, 0, rfl, fun i hi => ?_⟩
  rw [Nat.zero_add, World.ownsRow.cellAt h i (by omega), List.getElem?_map, List.getElem?_eq_getElem hi, List.getD_eq_getElem?_getD, List.getElem?_eq_getElem hi]
  rfl
theorem cap_own {g c n : Nat} {xs : List Value} {e size : Nat} (h : w.ownsRow base e size (.slice (some ⟨g, 0, none⟩) n c) n xs) : n ≤ c ∧ c ≤ maxLen := by
  obtain ⟨a, c', h1, h2, h3, _⟩ := own_form h
  cases h1
  exact ⟨h2, h3⟩
theorem OwnC.slabs (h : OwnC w base V rs) {n : Nat} (hn : rs.length = n) : ∃ a c, V = .slice a n c ∧ n ≤ c ∧ c ≤ maxLen ∧ (a = none → c = 0) ∧ Slabs w a (rs.map sl) := by
  subst hn
  obtain ⟨a, c, hV, h1, h2, h3⟩ := own_form h.out
  refine ⟨a, c, hV, h1, h2, h3, fun h0 => ?_⟩
  have h0' : 0 < rs.length := by simpa using h0
  obtain ⟨g, c', hV', _⟩ := own_pos h.out h0'
  have hout := h.out
  rw [hV'] at hV hout
  cases hV
  refine ⟨g, 0, rfl, fun i s hs => ?_⟩
  rw [List.getElem?_map] at hs
  cases hr : rs[i]? with
  | none => rw [hr] at hs; cases hs
  | some r =>
    rw [hr] at hs
    cases hs
    have hlt : i < rs.length := by rw [List.getElem?_eq_some_iff] at hr; obtain ⟨h, _⟩ := hr; exact h
    obtain ⟨c1, c2⟩ := cellsR_get hr
    have hi := h.inn r (List.mem_of_getElem? hr)
    refine ⟨?_, some ⟨r.2.2.1, 0, none⟩, r.2.2.2, ?_, (cap_own hi).1, (cap_own hi).2, (fun h => by cases h), flags_own hi rfl⟩
    · rw [Nat.zero_add, World.ownsRow.cellAt hout (i * 2) (by omega), c1]; rfl
    · rw [Nat.zero_add, World.ownsRow.cellAt hout (i * 2 + 1) (by omega), c2]; rfl
theorem OwnC.later (h : OwnC w base V rs) (hb : Below w.heap.size w w') : OwnC w' base V rs :=
  ⟨own_later h.out hb, fun r hr => own_later (h.inn r hr) hb, h.nod⟩
theorem OwnC.weaken {base' : Nat} (h : OwnC w base V rs) (hb : base' ≤ base) : OwnC w base' V rs :=
  ⟨own_weaken h.out hb, fun r hr => own_weaken (h.inn r hr) hb, h.nod⟩
theorem OwnC.alloc (h : OwnC w base V rs) (o : Obj) : OwnC (w.alloc o) base V rs := h.later (below_box w o)
theorem OwnC.nil (w : World) (base : Nat) : OwnC w base (.slice none 0 0) [] := ⟨World.ownsRow_nil _ _ _ _, by simp, List.nodup_nil⟩
theorem inner_ne_outer {e e' size size' n n' : Nat} {v v' : Value} {xs xs' : List Value} {b' : Nat} (h : w.ownsRow base e size v n xs) (h' : w.ownsRow b' e' size' v' n' xs') (hne : e ≠ e') : v.ownBlock = none ∨ v.ownBlock ≠ v'.ownBlock := by
  rcases h.2 with ⟨rfl, _⟩ | ⟨g, cap, cur, rfl, _, hh, _⟩
  · exact .inl rfl
  · refine .inr fun he => ?_
    rcases h'.2 with ⟨rfl, _⟩ | ⟨g', cap', cur', rfl, _, hh', _⟩
    · simp [Value.ownBlock] at he
    · simp [Value.ownBlock] at he
      subst he
      rw [hh] at hh'
      injection hh' with hh'
      injection hh' with _ h2
      exact hne h2
/-- The outer row has changed, the flags lie where they lay. -/
theorem OwnC.outer (h : OwnC w base V rs) {V' : Value} {qs : List R} (hg : w.grownBy w' V.ownBlock) (ho : w'.ownsRow base 52 2 V' qs.length (cellsR qs)) (hsub : ∀ r ∈ qs, r ∈ rs ∨ w'.ownsRow base 4 1 (rv r) r.2.1.length (r.2.1.map Value.bool)) (hnd : (qs.map (·.2.2.1)).Nodup) : OwnC w' base V' qs := by
  refine ⟨ho, fun r hr => ?_, hnd⟩
  rcases hsub r hr with h1 | h1
  · exact (h.inn r h1).kept hg (inner_ne_outer (h.inn r h1) h.out (by decide))
  · exact h1
theorem nodup_inj : ∀ {l : List Nat} {i j x : Nat}, l.Nodup → l[i]? = some x → l[j]? = some x → i = j
  | [], i, j, x, _, h, _ => by simp at h
  | y :: l, 0, 0, x, _, _, _ => rfl
  | y :: l, 0, j + 1, x, hn, h1, h2 => by
    simp at h1 h2
    exact absurd (List.mem_of_getElem? h2) (by rw [← h1]; exact (List.nodup_cons.1 hn).1)
  | y :: l, i + 1, 0, x, hn, h1, h2 => by
    simp at h1 h2
    exact absurd (List.mem_of_getElem? h1) (by rw [← h2]; exact (List.nodup_cons.1 hn).1)
  | y :: l, i + 1, j + 1, x, hn, h1, h2 => by
    simp at h1 h2
    rw [nodup_inj (List.nodup_cons.1 hn).2 h1 h2]
/-- One flag is set. -/
theorem OwnC.flag (h : OwnC w base V rs) {i : Nat} {r : R} (hr : rs[i]? = some r) (k : Nat) (b : Bool) : OwnC (w.setCell ⟨r.2.2.1, k, none⟩ (.bool b)) base V (rs.set i (r.1, r.2.1.set k b, r.2.2.1, r.2.2.2)) := by
  have hi := h.inn r (List.mem_of_getElem? hr)
  have hlt : i < rs.length := by rw [List.getElem?_eq_some_iff] at hr; obtain ⟨h, _⟩ := hr; exact h
  have hri : rs[i] = r := by rw [List.getElem?_eq_getElem hlt] at hr; exact Option.some.inj hr
  obtain ⟨s1, s2⟩ := World.ownsRow.stored (w := w) (base := base) (e := 4) (size := 1) (g := r.2.2.1) (cap := r.2.2.2) (n := r.2.1.length) (xs := r.2.1.map Value.bool) hi k (.bool b)
  have hc : cellsR (rs.set i (r.1, r.2.1.set k b, r.2.2.1, r.2.2.2)) = cellsR rs := by
    have e1 : rs.set i (r.1, r.2.1.set k b, r.2.2.1, r.2.2.2) = rs.take i ++ (r.1, r.2.1.set k b, r.2.2.1, r.2.2.2) :: rs.drop (i + 1) := List.set_eq_take_append_cons_drop .. ▸ by simp [hlt]
    have e2 : rs = rs.take i ++ r :: rs.drop (i + 1) := by
      conv => lhs; rw [← List.take_append_drop i rs, List.drop_eq_getElem_cons hlt, hri]
    rw [e1]
    conv => rhs; rw [e2]
    simp [cellsR, rv]
  refine ⟨?_, fun q hq => ?_, ?_⟩
  · rw [List.length_set, hc]
    refine h.out.kept s2 ?_
    rcases inner_ne_outer hi h.out (by decide) with h1 | h1
    · simp [rv, Value.ownBlock] at h1
    · right; exact fun e => h1 (by rw [e]; rfl)
  · rcases List.mem_or_eq_of_mem_set hq with hq1 | rfl
    · by_cases hg : q.2.2.1 = r.2.2.1
      · -- the same block: the same row
        obtain ⟨j, hj, hjq⟩ := List.getElem_of_mem hq
        rw [List.length_set] at hj
        by_cases hij : i = j
        · subst hij
          rw [List.getElem_set_self] at hjq
          rw [← hjq]
          show (w.setCell _ _).ownsRow base 4 1 (.slice (some ⟨r.2.2.1, 0, none⟩) (r.2.1.set k b).length r.2.2.2) (r.2.1.set k b).length ((r.2.1.set k b).map Value.bool)
          rw [List.length_set, List.map_set]
          exact s1
        · rw [List.getElem_set_ne hij] at hjq
          exfalso
          have a1 : (rs.map (·.2.2.1))[i]? = some r.2.2.1 := by rw [List.getElem?_map, hr]; rfl
          have a2 : (rs.map (·.2.2.1))[j]? = some r.2.2.1 := by rw [List.getElem?_map, List.getElem?_eq_getElem hj, hjq, ← hg]; rfl
          exact hij (nodup_inj h.nod a1 a2)
      · exact (h.inn q hq1).kept s2 (.inr (by simp [rv, Value.ownBlock, hg]))
    · show (w.setCell _ _).ownsRow base 4 1 (.slice (some ⟨r.2.2.1, 0, none⟩) (r.2.1.set k b).length r.2.2.2) (r.2.1.set k b).length ((r.2.1.set k b).map Value.bool)
      rw [List.length_set, List.map_set]
      exact s1
  · rw [List.map_set]
    have : (rs.map (·.2.2.1)).set i r.2.2.1 = rs.map (·.2.2.1) := by
      apply List.ext_getElem (by simp)
      intro j h1 h2
      rw [List.getElem_set]
      split
      · rename_i hij; subst hij; simp [hri]
      · rfl
    show ((rs.map (·.2.2.1)).set i r.2.2.1).Nodup
    rw [this]; exact h.nod
end
end Go.Proofs.Ythhdiiboblaclaa
