/- The plain laws of release. -/
import Derived.Test.YthhdiiboblaclaaPure5
namespace Go.Slb
def full (s : S) : Bool := s.2.contains true
/-- The cache behind the release of a used object, and the frame that leaves it (-1: none). -/
def freeL (o : Int) (l : List S) (x : Int) : List S := (setO o false x l).filter full
def freeF (o : Int) (l : List S) (x : Int) : Int := if (setO o false x l).all full = true then -1 else x / o
theorem filter_set {p : S → Bool} {t : S} : ∀ {l : List S} {i : Nat}, (∀ s ∈ l, p s = true) → i < l.length → (l.set i t).filter p = if p t = true then l.set i t else l.eraseIdx i
  | [], i, _, h => by simp at h
  | s :: r, 0, hp, _ => by
    have hr : r.filter p = r := List.filter_eq_self.2 fun x hx => hp x (by simp [hx])
    simp only [List.set_cons_zero, List.filter_cons, hr, List.eraseIdx_zero, List.tail_cons]
  | s :: r, i + 1, hp, h => by
    have hs := hp s (by simp)
    simp only [List.set_cons_succ, List.filter_cons, hs, if_true, filter_set (l := r) (i := i) (fun x hx => hp x (by simp [hx])) (by simpa using h)]
    split <;> simp
theorem all_set {p : S → Bool} {t : S} {l : List S} {i : Nat} (hp : ∀ s ∈ l, p s = true) (hi : i < l.length) : (l.set i t).all p = p t := by
  rw [Bool.eq_iff_iff, List.all_eq_true]
  constructor
  · intro h; exact h t (List.mem_set hi t)
  · intro h s hs
    rcases List.mem_or_eq_of_mem_set hs with hs | rfl
    · exact hp s hs
    · exact h
section
variable {o : Int} {l : List S} {x : Int}
theorem Ok.allFull (h : Ok o l) : ∀ s ∈ l, full s = true := fun s hs => by simpa [full] using h.used s hs
/-- Where the slab of a used object lies. -/
theorem Ok.slab (h : Ok o l) (hx : x ∈ objs o true l) : ∃ (i : Nat) (s : S), l[i]? = some s ∧ s.1 = x / o ∧ 0 ≤ x ∧ s.2[(x % o).toNat]? = some true := by
  have ho := h.o1
  obtain ⟨s, hs, j, hj, e⟩ := mem_objs.1 hx
  obtain ⟨i, hi⟩ := List.getElem?_of_mem hs
  have a1 := h.len s hs
  have a2 := lt_of_flag hj
  have a3 := obj_div (f := s.1) (o := o) (i := j) (by omega)
  have a4 := obj_mod (f := s.1) (o := o) (i := j) (by omega)
  have a5 : 0 ≤ s.1 * o := Int.mul_nonneg (h.fr s hs).1 (by omega)
  refine ⟨i, s, hi, by rw [e, a3], by omega, ?_⟩
  rw [e, a4]; exact hj
theorem Ok.free_at (h : Ok o l) {i : Nat} {s : S} (hi : l[i]? = some s) (hs : s.1 = x / o) :
    freeL o l x = (if full (s.1, s.2.set (x % o).toNat false) = true then l.set i (s.1, s.2.set (x % o).toNat false) else l.eraseIdx i) ∧ freeF o l x = if full (s.1, s.2.set (x % o).toNat false) = true then -1 else s.1 := by
  have hlt : i < l.length := by rw [List.getElem?_eq_some_iff] at hi; obtain ⟨h, _⟩ := hi; exact h
  unfold freeL freeF
  rw [setO_nth h.asc hi hs, filter_set h.allFull hlt, all_set h.allFull hlt, hs]
  exact ⟨rfl, rfl⟩
theorem asc_filter (p : S → Bool) : ∀ {l : List S} {q : Int}, Asc q l → Asc q (l.filter p)
  | [], _, _ => trivial
  | s :: r, q, ha => by
    rw [List.filter_cons]
    split
    · exact ⟨ha.1, asc_filter p ha.2⟩
    · exact asc_filter p (asc_weaken ha.2 (by have := ha.1; omega))
theorem objs_full {b : Bool} (hb : b = true) {y : Int} {l : List S} : y ∈ objs o b (l.filter full) ↔ y ∈ objs o b l := by
  subst hb
  simp only [mem_objs, List.mem_filter]
  constructor
  · rintro ⟨s, hs, i, hi, e⟩; exact ⟨s, hs.1, i, hi, e⟩
  · rintro ⟨s, hs, i, hi, e⟩; exact ⟨s, ⟨hs, by simpa [full] using List.mem_of_getElem? hi⟩, i, hi, e⟩
theorem Ok.free_mem (h : Ok o l) (hx : x ∈ objs o true l) (y : Int) : y ∈ objs o true (freeL o l x) ↔ y ∈ objs o true l ∧ y ≠ x := by
  unfold freeL
  obtain ⟨i, s, hi, e, _⟩ := h.slab hx
  rw [objs_full rfl, mem_setO h.o1 h.len ⟨s, List.mem_of_getElem? hi, e⟩, if_neg (by decide)]
theorem Ok.free_ok (h : Ok o l) : Ok o (freeL o l x) := by
  have hf := setO_fst o false x l
  refine ⟨h.o1, h.o2, asc_filter _ (asc_of_map h.asc hf.symm), ?_, ?_, ?_⟩
  · intro s hs
    have : s.1 ∈ (setO o false x l).map (·.1) := List.mem_map.2 ⟨s, (List.mem_filter.1 hs).1, rfl⟩
    rw [hf] at this
    obtain ⟨t, ht, e⟩ := List.mem_map.1 this
    rw [← e]; exact h.fr t ht
  · intro s hs
    exact setO_len h.len s ((List.mem_filter.1 hs).1)
  · intro s hs
    have := (List.mem_filter.1 hs).2
    simpa [full] using this
/-- What becomes of the frames. -/
theorem Ok.free_frames (h : Ok o l) (hx : x ∈ objs o true l) :
    (freeF o l x = -1 ∧ (freeL o l x).map (·.1) = l.map (·.1)) ∨
    (freeF o l x = x / o ∧ 0 ≤ x / o ∧ x / o ∈ l.map (·.1) ∧ (freeL o l x).length + 1 = l.length ∧ ∀ f, f ∈ (freeL o l x).map (·.1) ↔ f ∈ l.map (·.1) ∧ f ≠ x / o) := by
  obtain ⟨i, s, hi, e, _⟩ := h.slab hx
  have hlt : i < l.length := by rw [List.getElem?_eq_some_iff] at hi; obtain ⟨h, _⟩ := hi; exact h
  obtain ⟨e1, e2⟩ := h.free_at hi e
  have hsi : l[i] = s := by rw [List.getElem?_eq_getElem hlt] at hi; exact Option.some.inj hi
  by_cases hc : full (s.1, s.2.set (x % o).toNat false) = true
  · left
    rw [if_pos hc] at e1 e2
    refine ⟨e2, ?_⟩
    rw [e1, List.map_set]
    apply List.ext_getElem (by simp)
    intro j h1 h2
    simp only [List.getElem_set, List.getElem_map]
    split
    · rename_i hij; subst hij; rw [hsi]
    · rfl
  · right
    rw [if_neg hc] at e1 e2
    have hfr := h.fr s (List.mem_of_getElem? hi)
    refine ⟨by rw [e2, e], by omega, List.mem_map.2 ⟨s, List.mem_of_getElem? hi, e⟩, ?_, fun f => ?_⟩
    · rw [e1, List.length_eraseIdx, if_pos hlt]; omega
    · rw [e1]
      simp only [List.mem_map, List.mem_eraseIdx_iff_getElem?]
      constructor
      · rintro ⟨t, ⟨j, hj, ht⟩, rfl⟩
        refine ⟨⟨t, List.mem_of_getElem? ht, rfl⟩, fun hf => hj ?_⟩
        have hjl : j < l.length := by rw [List.getElem?_eq_some_iff] at ht; obtain ⟨h, _⟩ := ht; exact h
        have htj : l[j] = t := by rw [List.getElem?_eq_getElem hjl] at ht; exact Option.some.inj ht
        have heq : l[j] = l[i] := asc_inj h.asc (List.getElem_mem hjl) (List.getElem_mem hlt) (by rw [htj, hsi, hf, e])
        rcases Nat.lt_trichotomy i j with h' | h' | h'
        · exact absurd heq.symm (ne_of_lt h.asc h' hjl)
        · exact h'.symm
        · exact absurd heq (ne_of_lt h.asc h' hlt)
      · rintro ⟨⟨t, ht, rfl⟩, hne⟩
        obtain ⟨j, hj⟩ := List.getElem?_of_mem ht
        refine ⟨t, ⟨j, fun hji => hne ?_, hj⟩, rfl⟩
        rw [hji, hi] at hj
        cases hj
        exact e
end
/-- Where the release of all that was allocated stands, when k objects are released. -/
structure Back (o : Int) (l : List S) (n : Int) (F : List Int) (k : Nat) (d : List S) (back : List Int) : Prop where
  ok : Ok o d
  mem : ∀ y, y ∈ objs o true d ↔ y ∈ objs o true l ∨ y ∈ (took o l n.toNat F).drop k
  nodup : back.Nodup
  fr : ∀ f ∈ back, f ∈ F ∧ f ∉ d.map (·.1)
  len : d.length + back.length = l.length + F.length
  of : ∀ f ∈ d.map (·.1), f ∈ l.map (·.1) ∨ f ∈ F
theorem frames_of {o : Int} {l d : List S} (hl : Ok o l) (hd : Ok o d) (h : ∀ y, y ∈ objs o true l → y ∈ objs o true d) : ∀ f ∈ l.map (·.1), f ∈ d.map (·.1) := by
  intro f hf
  obtain ⟨s, hs, rfl⟩ := List.mem_map.1 hf
  obtain ⟨i, hi⟩ := List.getElem?_of_mem (hl.used s hs)
  obtain ⟨t, ht, j, hj, e⟩ := mem_objs.1 (h _ (mem_objs.2 ⟨s, hs, i, hi, rfl⟩))
  have a1 := hl.len s hs
  have a2 := lt_of_flag hi
  have a3 := hd.len t ht
  have a4 := lt_of_flag hj
  have e1 := obj_div (f := s.1) (o := o) (i := i) (by omega)
  have e2 := obj_div (f := t.1) (o := o) (i := j) (by omega)
  rw [e, e2] at e1
  exact List.mem_map.2 ⟨t, ht, e1⟩
section
variable {o : Int} {l : List S} {n : Int} {F : List Int}
theorem Done.back0 (h : Done o l n F) : Back o l n F 0 (after o l n F) [] := by
  obtain ⟨q1, q2, q3, q4, q5, q6, q7, q8, q9⟩ := h.add_ok
  have hf : (after o l n F).map (·.1) = (addF o F l).2.map (·.1) := by rw [h.after_eq, marks_fst]
  refine ⟨h.after_ok, fun y => by rw [h.after_mem, List.drop_zero], List.nodup_nil, by simp, ?_, ?_⟩
  · have := congrArg List.length hf
    simp only [List.length_map] at this
    rw [this, q6]; rfl
  · intro f hff
    rw [hf] at hff
    obtain ⟨t, ht, rfl⟩ := List.mem_map.1 hff
    rcases (q9 t).1 ht with ht | ⟨f, hf, rfl⟩
    · exact .inl (List.mem_map.2 ⟨t, ht, rfl⟩)
    · exact .inr hf
theorem Back.step (hd : Done o l n F) {k : Nat} {d : List S} {back : List Int} (h : Back o l n F k d back) {x : Int} (hx : (took o l n.toNat F)[k]? = some x) :
    x ∈ objs o true d ∧ ((freeF o d x = -1 ∧ Back o l n F (k + 1) (freeL o d x) back) ∨ (freeF o d x = x / o ∧ 0 ≤ x / o ∧ x / o ∉ back ∧ x / o ∈ F ∧ Back o l n F (k + 1) (freeL o d x) (back ++ [x / o]))) := by
  have hk : k < (took o l n.toNat F).length := by rw [List.getElem?_eq_some_iff] at hx; obtain ⟨h, _⟩ := hx; exact h
  have hxe : (took o l n.toNat F)[k] = x := by rw [List.getElem?_eq_getElem hk] at hx; exact Option.some.inj hx
  have hdr : (took o l n.toNat F).drop k = x :: (took o l n.toNat F).drop (k + 1) := by rw [List.drop_eq_getElem_cons hk, hxe]
  have hxd : x ∈ objs o true d := (h.mem x).2 (.inr (by rw [hdr]; simp))
  have hxl : x ∉ objs o true l := hd.took_new x (List.mem_of_getElem? hx)
  have hnd : x ∉ (took o l n.toNat F).drop (k + 1) := by
    have := List.Sublist.nodup (List.drop_sublist k _) hd.took_nodup
    rw [hdr] at this
    exact (List.nodup_cons.1 this).1
  have hok : Ok o (freeL o d x) := h.ok.free_ok
  have hmem : ∀ y, y ∈ objs o true (freeL o d x) ↔ y ∈ objs o true l ∨ y ∈ (took o l n.toNat F).drop (k + 1) := by
    intro y
    rw [h.ok.free_mem hxd, h.mem, hdr, List.mem_cons]
    constructor
    · rintro ⟨h1 | h1 | h1, h2⟩
      · exact .inl h1
      · exact absurd h1 h2
      · exact .inr h1
    · rintro (h1 | h1)
      · exact ⟨.inl h1, fun e => hxl (e ▸ h1)⟩
      · exact ⟨.inr (.inr h1), fun e => hnd (e ▸ h1)⟩
  refine ⟨hxd, ?_⟩
  rcases h.ok.free_frames hxd with ⟨e1, e2⟩ | ⟨e1, e0, e2, e3, e4⟩
  · refine .inl ⟨e1, hok, hmem, h.nodup, ?_, ?_, ?_⟩
    · rw [e2]; exact h.fr
    · have := congrArg List.length e2
      simp only [List.length_map] at this
      rw [this]; exact h.len
    · rw [e2]; exact h.of
  · have hnb : x / o ∉ back := fun hb => (h.fr _ hb).2 e2
    have hlf : x / o ∉ l.map (·.1) := by
      intro hin
      have := frames_of hd.ok hok (fun y hy => (hmem y).2 (.inl hy)) _ hin
      exact ((e4 _).1 this).2 rfl
    have hF : x / o ∈ F := by
      rcases h.of _ e2 with h1 | h1
      · exact absurd h1 hlf
      · exact h1
    refine .inr ⟨e1, e0, hnb, hF, hok, hmem, ?_, ?_, ?_, ?_⟩
    · refine List.nodup_append.2 ⟨h.nodup, by simp, ?_⟩
      intro a ha b hb
      rw [List.mem_singleton.1 hb]
      exact fun e => hnb (e ▸ ha)
    · intro f hf
      rcases List.mem_append.1 hf with hf | hf
      · exact ⟨(h.fr f hf).1, fun h2 => (h.fr f hf).2 ((e4 f).1 h2).1⟩
      · rw [List.mem_singleton.1 hf]
        exact ⟨hF, fun h2 => ((e4 _).1 h2).2 rfl⟩
    · have := h.len
      simp; omega
    · intro f hf
      exact h.of f ((e4 f).1 hf).1
theorem Back.done (hd : Done o l n F) {d : List S} {back : List Int} (h : Back o l n F n.toNat d back) : d = l ∧ back.length = F.length := by
  have hnil : (took o l n.toNat F).drop n.toNat = [] := List.drop_eq_nil_of_le (by rw [hd.took_len]; exact Nat.le_refl _)
  have e : d = l := ok_ext h.ok hd.ok fun x => by rw [h.mem, hnil]; simp
  refine ⟨e, ?_⟩
  have := h.len
  rw [e] at this
  omega
end
end Go.Slb
