/- The plain laws of allocation: both ways are one. -/
import Derived.Test.YthhdiiboblaclaaPure3
namespace Go.Slb
theorem objs_filter_other {o : Int} {b : Bool} {x : Int} {p : S → Bool} {l : List S} : x ∈ objs o b l ↔ x ∈ objs o b (l.filter p) ∨ x ∈ objs o b (l.filter fun s => !p s) := by
  simp only [mem_objs, List.mem_filter]
  constructor
  · rintro ⟨s, hs, i, hi, e⟩
    cases hp : p s
    · exact .inr ⟨s, ⟨hs, by simp [hp]⟩, i, hi, e⟩
    · exact .inl ⟨s, ⟨hs, hp⟩, i, hi, e⟩
  · rintro (⟨s, hs, i, hi, e⟩ | ⟨s, hs, i, hi, e⟩)
    · exact ⟨s, hs.1, i, hi, e⟩
    · exact ⟨s, hs.1, i, hi, e⟩
/-- The slabs that are new, in their order. -/
def news (o : Int) (F : List Int) : List S := F.foldl (fun a f => ins (fresh o f) a) []
/-- The objects that are taken. -/
def took (o : Int) (l : List S) (n : Nat) (F : List Int) : List Int := (objs o false l ++ objs o false (news o F)).take n
def allocP (o : Int) (l : List S) (n : Int) (F : List Int) : Int × List S × List Int :=
  if check o l ≠ 0 then (check o l, [], [])
  else if n < 1 ∨ (F.length : Int) ≠ needL o l n then (1, [], [])
  else if (addF o F l).1 ≠ 0 then ((addF o F l).1, [], [])
  else (0, (tk o (fun f => F.contains f) (n.toNat - (tk o (fun f => !F.contains f) n.toNat (addF o F l).2).2.length) (tk o (fun f => !F.contains f) n.toNat (addF o F l).2).1).1,
    (tk o (fun f => !F.contains f) n.toNat (addF o F l).2).2 ++ (tk o (fun f => F.contains f) (n.toNat - (tk o (fun f => !F.contains f) n.toNat (addF o F l).2).2.length) (tk o (fun f => !F.contains f) n.toNat (addF o F l).2).1).2)
def marks (o : Int) (xs : List Int) (l : List S) : List S := xs.foldl (fun a x => setO o true x a) l
def allocR (o : Int) (l : List S) (n : Int) (F : List Int) : Int × List S × List Int :=
  if check o l ≠ 0 then (check o l, [], [])
  else if n < 1 ∨ (F.length : Int) ≠ needL o l n then (1, [], [])
  else if (addF o F l).1 ≠ 0 then ((addF o F l).1, [], [])
  else (0, marks o (took o l n.toNat F) (addF o F l).2, took o l n.toNat F)
theorem marks_fst (o : Int) : ∀ (xs : List Int) (l : List S), (marks o xs l).map (·.1) = l.map (·.1)
  | [], _ => rfl
  | x :: xs, l => by
    show (marks o xs (setO o true x l)).map (·.1) = _
    rw [marks_fst o xs, setO_fst]
theorem marks_len {o : Int} : ∀ {xs : List Int} {l : List S}, (∀ s ∈ l, (s.2.length : Int) = o) → ∀ s ∈ marks o xs l, (s.2.length : Int) = o
  | [], _, h => h
  | _ :: xs, _, h => marks_len (xs := xs) (setO_len h)
theorem marks_mem {o : Int} (ho : 1 ≤ o) : ∀ {xs : List Int} {l : List S}, (∀ s ∈ l, (s.2.length : Int) = o) → (∀ x ∈ xs, ∃ s ∈ l, s.1 = x / o) → ∀ y, y ∈ objs o true (marks o xs l) ↔ y ∈ objs o true l ∨ y ∈ xs
  | [], _, _, _, y => by simp [marks]
  | x :: xs, l, h, hx, y => by
    show y ∈ objs o true (marks o xs (setO o true x l)) ↔ _
    rw [marks_mem ho (setO_len h) ?_ y, mem_setO ho h (hx x (by simp)), if_pos rfl]
    · simp only [List.mem_cons]
      constructor
      · rintro ((h | h) | h)
        · exact .inr (.inl h)
        · exact .inl h
        · exact .inr (.inr h)
      · rintro (h | h | h)
        · exact .inl (.inr h)
        · exact .inl (.inl h)
        · exact .inr h
    · intro z hz
      obtain ⟨s, hs, e⟩ := hx z (by simp [hz])
      have h2 := setO_fst o true x l
      have : s.1 ∈ (setO o true x l).map (·.1) := by rw [h2]; exact List.mem_map.2 ⟨s, hs, rfl⟩
      obtain ⟨t, ht, e2⟩ := List.mem_map.1 this
      exact ⟨t, ht, by rw [e2, e]⟩
/-- All that is known of a call that succeeds. -/
structure Done (o : Int) (l : List S) (n : Int) (F : List Int) : Prop where
  ok : Ok o l
  pos : 1 ≤ n
  need : (F.length : Int) = needL o l n
  add : (addF o F l).1 = 0
theorem Done.add_ok {o : Int} {l : List S} {n : Int} {F : List Int} (h : Done o l n F) :
    Asc (-1) (addF o F l).2 ∧ (∀ s ∈ (addF o F l).2, 0 ≤ s.1 ∧ s.1 < 256) ∧ (∀ s ∈ (addF o F l).2, (s.2.length : Int) = o) ∧ (addF o F l).2.filter (fun s => F.contains s.1) = news o F ∧ (addF o F l).2.filter (fun s => !F.contains s.1) = l ∧
    (addF o F l).2.length = l.length + F.length ∧ (∀ f ∈ F, hasF f l = false) ∧ (∀ x, x ∈ objs o true (addF o F l).2 ↔ x ∈ objs o true l) ∧ (∀ s, s ∈ (addF o F l).2 ↔ s ∈ l ∨ ∃ f ∈ F, s = fresh o f) := by
  have ho := h.ok.o1
  obtain ⟨q1, q2, q3, q4, q5, q6, q7, q8, q9⟩ := addF_ok (o := o) (by omega) F F l (l.filter fun s => F.contains s.1) (fun f hf => hf) h.ok.asc h.ok.fr h.ok.len rfl h.add
  have hno : ∀ s ∈ l, F.contains s.1 = false := by
    intro s hs
    rw [Bool.eq_false_iff]
    intro hc
    have := q7 s.1 (by simpa using hc)
    simp only [hasF, List.any_eq_false, beq_iff_eq] at this
    exact this s hs rfl
  refine ⟨q1, q2, q3, ?_, ?_, q6, q7, q8, q9⟩
  · rw [q4]
    have : l.filter (fun s => F.contains s.1) = [] := List.filter_eq_nil_iff.2 fun s hs => by rw [hno s hs]; decide
    rw [this]; rfl
  · rw [q5]
    exact List.filter_eq_self.2 fun s hs => by rw [hno s hs]; rfl
theorem Done.took_eq {o : Int} {l : List S} {n : Int} {F : List Int} (h : Done o l n F) :
    (tk o (fun f => !F.contains f) n.toNat (addF o F l).2).2 ++ (tk o (fun f => F.contains f) (n.toNat - (tk o (fun f => !F.contains f) n.toNat (addF o F l).2).2.length) (tk o (fun f => !F.contains f) n.toNat (addF o F l).2).1).2 = took o l n.toNat F := by
  obtain ⟨_, _, _, q4, q5, _⟩ := h.add_ok
  have e2 : (tk o (fun f => !F.contains f) n.toNat (addF o F l).2).1.filter (fun s => F.contains s.1) = news o F := by
    have := tk_other o (fun f => !F.contains f) (addF o F l).2 n.toNat
    simp only [Bool.not_not] at this
    rw [this, q4]
  rw [tk_two o (fun f => F.contains f), e2, tk_two, q5]
  unfold took
  rw [List.take_append, List.length_take]
  congr 2; omega
theorem alloc_eq (o : Int) (l : List S) (n : Int) (F : List Int) : allocP o l n F = allocR o l n F := by
  unfold allocP allocR
  split
  · rfl
  · rename_i h1
    split
    · rfl
    · rename_i h2
      split
      · rfl
      · rename_i h3
        have hd : Done o l n F := ⟨check_ok.1 (by omega), by omega, by omega, by omega⟩
        rw [hd.took_eq]
        congr 2
        have ho := hd.ok.o1
        obtain ⟨q1, q2, q3, q4, q5, q6, q7, q8, q9⟩ := hd.add_ok
        have hin : ∀ x ∈ took o l n.toNat F, ∃ s ∈ (addF o F l).2, s.1 = x / o := by
          intro x hx
          have hx2 := List.mem_of_mem_take hx
          rw [← q5, ← q4, List.mem_append, or_comm, ← objs_filter_other (p := fun s => F.contains s.1)] at hx2
          obtain ⟨s, hs, i, hi, e⟩ := mem_objs.1 hx2
          have a1 := q3 s hs
          have a2 := lt_of_flag hi
          exact ⟨s, hs, by rw [e, obj_div (by omega)]⟩
        refine ext (o := o) (p := -1) (q := -1) ?_ ?_ ?_ ?_ ?_ ?_
        · exact asc_of_map q1 (by rw [tk_fst, tk_fst])
        · exact asc_of_map q1 (by rw [marks_fst])
        · exact tk_len _ (tk_len _ q3)
        · exact marks_len q3
        · rw [tk_fst, tk_fst, marks_fst]
        · intro x
          rw [tk_mem, tk_mem, or_assoc, ← List.mem_append, hd.took_eq, marks_mem ho q3 hin]
end Go.Slb
