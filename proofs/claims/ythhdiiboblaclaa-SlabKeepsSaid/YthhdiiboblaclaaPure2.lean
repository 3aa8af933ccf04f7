/- The plain mathematics of allocation and release of objects. -/
import Derived.Test.YthhdiiboblaclaaPure
namespace Go.Slb
theorem asc_inj : ∀ {l : List S} {p : Int}, Asc p l → ∀ {s t : S}, s ∈ l → t ∈ l → s.1 = t.1 → s = t
  | [], _, _, _, _, hs, _, _ => by simp at hs
  | x :: r, p, h, s, t, hs, ht, e => by
    rcases List.mem_cons.1 hs with h1 | h1 <;> rcases List.mem_cons.1 ht with h2 | h2
    · rw [h1, h2]
    · have := asc_lt h.2 t h2; rw [h1] at e; omega
    · have := asc_lt h.2 s h1; rw [h2] at e; omega
    · exact asc_inj h.2 h1 h2 e
theorem obj_div {f o : Int} {i : Nat} (h : (i : Int) < o) : (f * o + (i : Int)) / o = f := by
  rw [Int.add_comm, Int.add_mul_ediv_right _ _ (by omega), Int.ediv_eq_zero_of_lt (by omega) (by omega)]; omega
theorem obj_mod {f o : Int} {i : Nat} (h : (i : Int) < o) : (f * o + (i : Int)) % o = i := by
  rw [Int.add_comm, Int.add_mul_emod_self_right, Int.emod_eq_of_lt (by omega) h]
theorem lt_of_flag {u : List Bool} {i : Nat} {b : Bool} (h : u[i]? = some b) : i < u.length := by
  rw [List.getElem?_eq_some_iff] at h; obtain ⟨h, _⟩ := h; exact h
/-- The flags of a slab are those that say which numbers are used. -/
theorem flag_iff {o : Int} {b : Bool} {l : List S} {p : Int} (ha : Asc p l) (hl : ∀ s ∈ l, (s.2.length : Int) = o) {s : S} (hs : s ∈ l) {i : Nat} (hi : i < s.2.length) : s.1 * o + (i : Int) ∈ objs o b l ↔ s.2[i]? = some b := by
  rw [mem_objs]
  constructor
  · rintro ⟨t, ht, j, hj, e⟩
    have h1 := hl s hs
    have h2 := hl t ht
    have h3 := lt_of_flag hj
    have e1 : s.1 = t.1 := by
      have a1 := obj_div (f := s.1) (o := o) (i := i) (by omega)
      have a2 := obj_div (f := t.1) (o := o) (i := j) (by omega)
      rw [← a1, ← a2, e]
    have e2 : i = j := by rw [e1] at e; omega
    rw [asc_inj ha hs ht e1, e2]; exact hj
  · intro h
    exact ⟨s, hs, i, h, rfl⟩
theorem ext {o : Int} {l m : List S} {p q : Int} (hl : Asc p l) (hm : Asc q m) (ll : ∀ s ∈ l, (s.2.length : Int) = o) (lm : ∀ s ∈ m, (s.2.length : Int) = o)
    (hf : l.map (·.1) = m.map (·.1)) (hx : ∀ x, x ∈ objs o true l ↔ x ∈ objs o true m) : l = m := by
  have hlen : l.length = m.length := by have := congrArg List.length hf; simpa using this
  apply List.ext_getElem hlen
  intro i h1 h2
  have e1 : l[i].1 = m[i].1 := by
    have h3 : i < (l.map (·.1)).length := by rw [List.length_map]; exact h1
    have := List.getElem_of_eq hf h3
    rw [List.getElem_map, List.getElem_map] at this
    exact this
  have u : l[i].2 = m[i].2 := by
    have a1 := ll l[i] (List.getElem_mem h1)
    have a2 := lm m[i] (List.getElem_mem h2)
    apply List.ext_getElem (by omega)
    intro j h3 h4
    have f1 := flag_iff (b := true) hl ll (List.getElem_mem h1) h3
    have f2 := flag_iff (b := true) hm lm (List.getElem_mem h2) h4
    rw [e1, hx] at f1
    have : l[i].2[j]? = some true ↔ m[i].2[j]? = some true := f1.symm.trans f2
    rw [List.getElem?_eq_getElem h3, List.getElem?_eq_getElem h4] at this
    exact Bool.eq_iff_iff.2 ⟨fun h => Option.some.inj (this.1 (congrArg some h)), fun h => Option.some.inj (this.2 (congrArg some h))⟩
  exact Prod.ext e1 u
def AscI : Int → List Int → Prop
  | _, [] => True
  | p, x :: r => p < x ∧ AscI x r
theorem ascI_lt : ∀ {l : List Int} {p : Int}, AscI p l → ∀ x ∈ l, p < x
  | [], _, _, s, hs => by simp at hs
  | t :: r, p, h, s, hs => by
    rcases List.mem_cons.1 hs with rfl | hs
    · exact h.1
    · have := ascI_lt h.2 s hs; have := h.1; omega
theorem ascI_ext : ∀ {l m : List Int} {p q : Int}, AscI p l → AscI q m → (∀ x, x ∈ l ↔ x ∈ m) → l = m
  | [], [], _, _, _, _, _ => rfl
  | [], y :: m, _, _, _, _, h => by have := (h y).2 (by simp); simp at this
  | x :: l, [], _, _, _, _, h => by have := (h x).1 (by simp); simp at this
  | x :: l, y :: m, p, q, hl, hm, h => by
    have e : x = y := by
      have h1 := (h x).1 (by simp)
      have h2 := (h y).2 (by simp)
      rcases List.mem_cons.1 h1 with h1 | h1
      · exact h1
      · rcases List.mem_cons.1 h2 with h2 | h2
        · exact h2.symm
        · have := ascI_lt hm.2 x h1; have := ascI_lt hl.2 y h2; omega
    subst e
    congr 1
    refine ascI_ext hl.2 hm.2 fun z => ?_
    constructor
    · intro hz
      have h1 := ascI_lt hl.2 z hz
      rcases List.mem_cons.1 ((h z).1 (List.mem_cons_of_mem _ hz)) with h2 | h2
      · omega
      · exact h2
    · intro hz
      have h1 := ascI_lt hm.2 z hz
      rcases List.mem_cons.1 ((h z).2 (List.mem_cons_of_mem _ hz)) with h2 | h2
      · omega
      · exact h2
theorem asc_map : ∀ {l : List S} {p : Int}, Asc p l → AscI p (l.map (·.1))
  | [], _, _ => trivial
  | _ :: _, _, h => ⟨h.1, asc_map h.2⟩
/-- Valid caches with the same used objects are equal. -/
theorem ok_ext {o : Int} {l m : List S} (hl : Ok o l) (hm : Ok o m) (hx : ∀ x, x ∈ objs o true l ↔ x ∈ objs o true m) : l = m := by
  refine ext hl.asc hm.asc hl.len hm.len (ascI_ext (asc_map hl.asc) (asc_map hm.asc) ?_) hx
  have key : ∀ {l m : List S}, Ok o l → Ok o m → (∀ x, x ∈ objs o true l → x ∈ objs o true m) → ∀ f, f ∈ l.map (·.1) → f ∈ m.map (·.1) := by
    intro l m hl hm hx f hf
    simp only [List.mem_map] at hf
    obtain ⟨s, hs, rfl⟩ := hf
    obtain ⟨i, hi⟩ := List.getElem?_of_mem (hl.used s hs)
    have h2 := hx _ (mem_objs.2 ⟨s, hs, i, hi, rfl⟩)
    obtain ⟨t, ht, j, hj, e⟩ := mem_objs.1 h2
    have a1 := hl.len s hs
    have a2 := hm.len t ht
    have a3 := lt_of_flag hi
    have a4 := lt_of_flag hj
    have e1 := obj_div (f := s.1) (o := o) (i := i) (by omega)
    have e2 := obj_div (f := t.1) (o := o) (i := j) (by omega)
    rw [e, e2] at e1
    exact List.mem_map.2 ⟨t, ht, e1⟩
  exact fun f => ⟨key hl hm (fun x => (hx x).1) f, key hm hl (fun x => (hx x).2) f⟩

/-! ### Marks -/
/-- The flag of one object is set to b. -/
def setO (o : Int) (b : Bool) (x : Int) (l : List S) : List S := l.map fun s => if s.1 = x / o then (s.1, s.2.set (x % o).toNat b) else s
theorem setO_fst (o : Int) (b : Bool) (x : Int) (l : List S) : (setO o b x l).map (·.1) = l.map (·.1) := by
  simp only [setO, List.map_map]; congr 1; funext s; simp only [Function.comp]; split <;> rfl
theorem asc_of_map : ∀ {l m : List S} {p : Int}, Asc p l → l.map (·.1) = m.map (·.1) → Asc p m
  | [], [], _, _, _ => trivial
  | [], _ :: _, _, _, h => by simp at h
  | _ :: _, [], _, _, h => by simp at h
  | x :: l, y :: m, p, h, e => by
    simp only [List.map_cons, List.cons.injEq] at e
    exact ⟨by rw [← e.1]; exact h.1, by rw [← e.1]; exact asc_of_map h.2 e.2⟩
theorem setO_len {o : Int} {b : Bool} {x : Int} {l : List S} (h : ∀ s ∈ l, (s.2.length : Int) = o) : ∀ s ∈ setO o b x l, (s.2.length : Int) = o := by
  intro s hs
  simp only [setO, List.mem_map] at hs
  obtain ⟨t, ht, rfl⟩ := hs
  split
  · simpa using h t ht
  · exact h t ht
theorem mem_setO {o : Int} (ho : 1 ≤ o) {b : Bool} {x : Int} {l : List S} (h : ∀ s ∈ l, (s.2.length : Int) = o) (hx : ∃ s ∈ l, s.1 = x / o) {y : Int} :
    y ∈ objs o true (setO o b x l) ↔ (if b = true then y = x ∨ y ∈ objs o true l else y ∈ objs o true l ∧ y ≠ x) := by
  have hm := Int.emod_nonneg x (by omega : o ≠ 0)
  have hm2 := Int.emod_lt_of_pos x (by omega : 0 < o)
  have hxe : x = (x / o) * o + (((x % o).toNat : Nat) : Int) := by
    have := Int.emod_add_mul_ediv x o
    rw [Int.mul_comm] at this
    omega
  have up : ∀ {t : S} {i : Nat}, t ∈ l → t.1 = x / o → t.1 * o + (i : Int) = x → i = (x % o).toNat := by
    intro t i _ e1 e2
    rw [e1] at e2; omega
  constructor
  · intro hy
    obtain ⟨s, hs, i, hi, e⟩ := mem_objs.1 hy
    simp only [setO, List.mem_map] at hs
    obtain ⟨t, ht, rfl⟩ := hs
    have hlt := h t ht
    split at hi
    · rename_i ht1
      rw [if_pos ht1] at e
      rw [List.getElem?_set] at hi
      split at hi
      · rename_i hk
        split at hi
        · cases hi
          rw [if_pos rfl]
          left; rw [e, hxe, ht1]; omega
        · cases hi
      · rename_i hk
        have hin : y ∈ objs o true l := mem_objs.2 ⟨t, ht, i, hi, e⟩
        split
        · exact .inr hin
        · refine ⟨hin, fun hyx => hk ?_⟩
          exact (up ht ht1 (by rw [← hyx]; exact e.symm)).symm
    · rename_i ht1
      rw [if_neg ht1] at e
      have hin : y ∈ objs o true l := mem_objs.2 ⟨t, ht, i, hi, e⟩
      split
      · exact .inr hin
      · refine ⟨hin, fun hyx => ht1 ?_⟩
        have a1 := lt_of_flag hi
        have := obj_div (f := t.1) (o := o) (i := i) (by omega)
        rw [← e, hyx] at this
        exact this.symm
  · intro hy
    have old : ∀ y, y ∈ objs o true l → y ≠ x → y ∈ objs o true (setO o b x l) := by
      intro y hy hne
      obtain ⟨t, ht, i, hi, e⟩ := mem_objs.1 hy
      by_cases ht1 : t.1 = x / o
      · refine mem_objs.2 ⟨(t.1, t.2.set (x % o).toNat b), ?_, i, ?_, e⟩
        · simp only [setO, List.mem_map]; exact ⟨t, ht, by rw [if_pos ht1]⟩
        · rw [List.getElem?_set, if_neg]
          · exact hi
          · intro hk
            apply hne
            rw [e, hxe, ht1]; omega
      · refine mem_objs.2 ⟨t, ?_, i, hi, e⟩
        simp only [setO, List.mem_map]; exact ⟨t, ht, by rw [if_neg ht1]⟩
    split at hy
    · rename_i hb
      subst hb
      by_cases hyx : y = x
      · obtain ⟨t, ht, ht1⟩ := hx
        have hl := h t ht
        refine mem_objs.2 ⟨(t.1, t.2.set (x % o).toNat true), ?_, (x % o).toNat, ?_, ?_⟩
        · simp only [setO, List.mem_map]; exact ⟨t, ht, by rw [if_pos ht1]⟩
        · rw [List.getElem?_set, if_pos rfl, if_pos (by omega)]
        · rw [hyx, ht1]; exact hxe
      · rcases hy with hy | hy
        · exact absurd hy hyx
        · exact old y hy hyx
    · exact old y hy.1 hy.2
theorem ne_of_lt : ∀ {l : List S} {p : Int}, Asc p l → ∀ {i j : Nat} (h : i < j) (hj : j < l.length), l[i]'(by omega) ≠ l[j]
  | [], _, _, i, j, h, hj => by simp at hj
  | x :: r, p, ha, 0, j + 1, h, hj => by
    intro e
    have hj' : j < r.length := by simpa using hj
    have := asc_lt ha.2 r[j] (List.getElem_mem _)
    simp at e
    rw [← e] at this
    omega
  | x :: r, p, ha, i + 1, j + 1, h, hj => by
    simp only [List.getElem_cons_succ]
    exact ne_of_lt ha.2 (by omega) (by simpa using hj)
theorem setO_nth {o : Int} {b : Bool} {x : Int} {l : List S} {p : Int} (ha : Asc p l) {i : Nat} {s : S} (hi : l[i]? = some s) (hs : s.1 = x / o) : setO o b x l = l.set i (s.1, s.2.set (x % o).toNat b) := by
  have hlt : i < l.length := by rw [List.getElem?_eq_some_iff] at hi; obtain ⟨h, _⟩ := hi; exact h
  have hsi : l[i] = s := by rw [List.getElem?_eq_getElem hlt] at hi; exact Option.some.inj hi
  apply List.ext_getElem (by simp [setO])
  intro j h1 h2
  have hj : j < l.length := by simpa [setO] using h1
  simp only [setO, List.getElem_map, List.getElem_set]
  by_cases hij : i = j
  · subst hij; rw [if_pos rfl, hsi, if_pos hs]
  · rw [if_neg hij, if_neg]
    intro h
    have e : l[j] = l[i] := asc_inj ha (List.getElem_mem hj) (List.getElem_mem hlt) (by rw [h, hsi, hs])
    exact hij (by
      rcases Nat.lt_trichotomy i j with h' | h' | h'
      · exact absurd e (ne_of_lt ha h' hj).symm
      · exact h'
      · exact absurd e (ne_of_lt ha h' hlt))
end Go.Slb
