/- The plain mathematics of allocation: the program's way and the reference's. -/
import Derived.Test.YthhdiiboblaclaaPure2
namespace Go.Slb
/-- n free objects of one slab are used: its flags, and the numbers. -/
def tkU (f o : Int) : Nat → Nat → List Bool → List Bool × List Int
  | _, _, [] => ([], [])
  | k, n, u :: r => if 0 < n ∧ u = false then (true :: (tkU f o (k + 1) (n - 1) r).1, (f * o + k) :: (tkU f o (k + 1) (n - 1) r).2) else (u :: (tkU f o (k + 1) n r).1, (tkU f o (k + 1) n r).2)
def tk (o : Int) (want : Int → Bool) : Nat → List S → List S × List Int
  | _, [] => ([], [])
  | n, s :: r => if want s.1 = true then ((s.1, (tkU s.1 o 0 n s.2).1) :: (tk o want (n - (tkU s.1 o 0 n s.2).2.length) r).1, (tkU s.1 o 0 n s.2).2 ++ (tk o want (n - (tkU s.1 o 0 n s.2).2.length) r).2) else (s :: (tk o want n r).1, (tk o want n r).2)
theorem tkU_two (f o : Int) : ∀ (u : List Bool) (k n : Nat), (tkU f o k n u).2 = (offs f o false k u).take n
  | [], _, _ => by simp [tkU, offs]
  | u :: r, k, n => by
    unfold tkU offs
    by_cases hu : u = false
    · by_cases hn : 0 < n
      · obtain ⟨n, rfl⟩ : ∃ m, n = m + 1 := ⟨n - 1, by omega⟩
        rw [if_pos ⟨hn, hu⟩, if_pos hu]
        simp [tkU_two f o r]
      · obtain rfl : n = 0 := by omega
        rw [if_neg (by omega)]
        simp [tkU_two f o r]
    · rw [if_neg (by simp [hu]), if_neg hu]
      exact tkU_two f o r _ _
theorem tkU_len (f o : Int) : ∀ (u : List Bool) (k n : Nat), (tkU f o k n u).1.length = u.length
  | [], _, _ => rfl
  | u :: r, k, n => by
    unfold tkU
    split
    · simp [tkU_len f o r]
    · simp [tkU_len f o r]
theorem tkU_mem (f o : Int) (x : Int) : ∀ (u : List Bool) (k n : Nat), x ∈ offs f o true k (tkU f o k n u).1 ↔ x ∈ offs f o true k u ∨ x ∈ (tkU f o k n u).2
  | [], _, _ => by simp [tkU]
  | u :: r, k, n => by
    unfold tkU
    by_cases hu : u = false
    · subst hu
      by_cases hn : 0 < n
      · rw [if_pos ⟨hn, rfl⟩]
        simp only [offs, if_true, List.mem_cons, tkU_mem f o x r]
        simp only [Bool.false_eq_true, if_false]
        constructor
        · rintro (h | h | h)
          · exact .inr (.inl h)
          · exact .inl h
          · exact .inr (.inr h)
        · rintro (h | h | h)
          · exact .inr (.inl h)
          · exact .inl h
          · exact .inr (.inr h)
      · rw [if_neg (by omega)]
        simp only [offs, Bool.false_eq_true, if_false, tkU_mem f o x r]
    · obtain rfl : u = true := by simpa using hu
      rw [if_neg (by simp)]
      simp only [offs, if_true, List.mem_cons, tkU_mem f o x r]
      exact or_assoc.symm
theorem tk_two (o : Int) (want : Int → Bool) : ∀ (l : List S) (n : Nat), (tk o want n l).2 = (objs o false (l.filter fun s => want s.1)).take n
  | [], n => by simp [tk, objs]
  | s :: r, n => by
    unfold tk
    by_cases h : want s.1 = true
    · rw [if_pos h, List.filter_cons, if_pos h]
      simp only [objs, tk_two o want r, tkU_two, List.take_append, List.length_take]
      congr 2; omega
    · rw [if_neg h, List.filter_cons, if_neg h]
      exact tk_two o want r n
theorem tk_fst (o : Int) (want : Int → Bool) : ∀ (l : List S) (n : Nat), (tk o want n l).1.map (·.1) = l.map (·.1)
  | [], _ => rfl
  | s :: r, n => by
    unfold tk
    split <;> simp [tk_fst o want r]
theorem tk_len {o : Int} (want : Int → Bool) : ∀ {l : List S} {n : Nat}, (∀ s ∈ l, (s.2.length : Int) = o) → ∀ s ∈ (tk o want n l).1, (s.2.length : Int) = o
  | [], _, _, s, hs => by simp [tk] at hs
  | t :: r, n, h, s, hs => by
    unfold tk at hs
    split at hs
    · rcases List.mem_cons.1 hs with rfl | hs
      · simp only [tkU_len]; exact h t (by simp)
      · exact tk_len want (fun x hx => h x (by simp [hx])) s hs
    · rcases List.mem_cons.1 hs with rfl | hs
      · exact h _ (by simp)
      · exact tk_len want (fun x hx => h x (by simp [hx])) s hs
theorem tk_mem (o : Int) (want : Int → Bool) (x : Int) : ∀ (l : List S) (n : Nat), x ∈ objs o true (tk o want n l).1 ↔ x ∈ objs o true l ∨ x ∈ (tk o want n l).2
  | [], n => by simp [tk]
  | s :: r, n => by
    unfold tk
    split
    · simp only [objs, List.mem_append, tkU_mem, tk_mem o want x r]
      constructor
      · rintro ((h | h) | h | h)
        · exact .inl (.inl h)
        · exact .inr (.inl h)
        · exact .inl (.inr h)
        · exact .inr (.inr h)
      · rintro ((h | h) | h | h)
        · exact .inl (.inl h)
        · exact .inr (.inl h)
        · exact .inl (.inr h)
        · exact .inr (.inr h)
    · simp only [objs, List.mem_append, tk_mem o want x r]
      exact or_assoc.symm
theorem tk_other (o : Int) (want : Int → Bool) : ∀ (l : List S) (n : Nat), (tk o want n l).1.filter (fun s => !want s.1) = l.filter (fun s => !want s.1)
  | [], _ => rfl
  | s :: r, n => by
    unfold tk
    by_cases h : want s.1 = true
    · rw [if_pos h]
      simp [h, tk_other o want r]
    · rw [if_neg h]
      simp [h, tk_other o want r]

/-! ### New slabs -/
def fresh (o f : Int) : S := (f, List.replicate o.toNat false)
/-- New slabs one by one: an error, or the slabs. -/
def addF (o : Int) : List Int → List S → Int × List S
  | [], out => (0, out)
  | f :: r, out => if f < 0 ∨ 256 ≤ f then (2, []) else if hasF f out = true then (7, []) else addF o r (ins (fresh o f) out)
theorem filter_ins_no {p : S → Bool} {x : S} (h : p x = false) : ∀ l : List S, (ins x l).filter p = l.filter p
  | [] => by simp [ins, h]
  | s :: r => by
    unfold ins
    split
    · rw [List.filter_cons, if_neg (by simp [h])]
    · rw [List.filter_cons, List.filter_cons, filter_ins_no h r]
theorem ins_first {x : S} {l : List S} (h : ∀ s ∈ l, x.1 < s.1) : ins x l = x :: l := by
  cases l with
  | nil => rfl
  | cons s r => unfold ins; rw [if_pos (h s (by simp))]
theorem ins_cons (x s : S) (r : List S) : ins x (s :: r) = if x.1 < s.1 then x :: s :: r else s :: ins x r := rfl
theorem filter_ins {p : S → Bool} {x : S} (h : p x = true) : ∀ {l : List S} {q : Int}, Asc q l → (ins x l).filter p = ins x (l.filter p)
  | [], _, _ => by simp [ins, h]
  | s :: r, q, ha => by
    rw [ins_cons]
    split
    · rename_i hx
      rw [List.filter_cons, if_pos h]
      refine (ins_first fun t ht => ?_).symm
      rcases List.mem_cons.1 ((List.mem_filter.1 ht).1) with rfl | ht
      · exact hx
      · have := asc_lt ha.2 t ht; omega
    · rename_i hx
      rw [List.filter_cons, List.filter_cons, filter_ins h ha.2]
      split
      · rw [ins_cons, if_neg hx]
      · rfl
theorem hasF_ins {f : Int} {x : S} {l : List S} : hasF f (ins x l) = (x.1 == f || hasF f l) := by
  rw [Bool.eq_iff_iff]
  simp only [hasF, List.any_eq_true, Bool.or_eq_true, mem_ins]
  constructor
  · rintro ⟨s, rfl | h, e⟩
    · exact .inl e
    · exact .inr ⟨s, h, e⟩
  · rintro (h | ⟨s, h, e⟩)
    · exact ⟨x, .inl rfl, h⟩
    · exact ⟨s, .inr h, e⟩
/-- What the new slabs are, if there is no error. -/
theorem addF_ok {o : Int} (ho : 0 ≤ o) (F : List Int) : ∀ (r : List Int) (out fr : List S), (∀ f ∈ r, f ∈ F) → Asc (-1) out → (∀ s ∈ out, 0 ≤ s.1 ∧ s.1 < 256) → (∀ s ∈ out, (s.2.length : Int) = o) → out.filter (fun s => F.contains s.1) = fr → (addF o r out).1 = 0 →
    Asc (-1) (addF o r out).2 ∧ (∀ s ∈ (addF o r out).2, 0 ≤ s.1 ∧ s.1 < 256) ∧ (∀ s ∈ (addF o r out).2, (s.2.length : Int) = o) ∧ (addF o r out).2.filter (fun s => F.contains s.1) = r.foldl (fun a f => ins (fresh o f) a) fr ∧ (addF o r out).2.filter (fun s => !F.contains s.1) = out.filter (fun s => !F.contains s.1) ∧
    (addF o r out).2.length = out.length + r.length ∧ (∀ f ∈ r, hasF f out = false) ∧ (∀ x, x ∈ objs o true (addF o r out).2 ↔ x ∈ objs o true out) ∧ (∀ s, s ∈ (addF o r out).2 ↔ s ∈ out ∨ ∃ f ∈ r, s = fresh o f)
  | [], out, fr, _, ha, hr, hl, hfr, h => by
    refine ⟨ha, hr, hl, hfr, rfl, by simp [addF], by simp, fun x => Iff.rfl, fun s => by simp [addF]⟩
  | f :: r, out, fr, hF, ha, hr, hl, hfr, h => by
    unfold addF at h ⊢
    split at h
    · simp at h
    · rename_i h1
      rw [if_neg h1]
      split at h
      · simp at h
      · rename_i h2
        have h2' : hasF f out = false := by simpa using h2
        rw [if_neg h2]
        have hFf := hF f (by simp)
        have ha' : Asc (-1) (ins (fresh o f) out) := asc_ins ha (by show -1 < f; omega) h2'
        have hr' : ∀ s ∈ ins (fresh o f) out, 0 ≤ s.1 ∧ s.1 < 256 := by
          intro s hs
          rcases mem_ins.1 hs with rfl | hs
          · show 0 ≤ f ∧ f < 256; omega
          · exact hr s hs
        have hl' : ∀ s ∈ ins (fresh o f) out, (s.2.length : Int) = o := by
          intro s hs
          rcases mem_ins.1 hs with rfl | hs
          · simp [fresh]; omega
          · exact hl s hs
        have hc : (fun s : S => F.contains s.1) (fresh o f) = true := by simpa [fresh] using hFf
        have hfr' : (ins (fresh o f) out).filter (fun s => F.contains s.1) = ins (fresh o f) fr := by rw [filter_ins hc ha, hfr]
        obtain ⟨q1, q2, q3, q4, q5, q6, q7, q8, q9⟩ := addF_ok ho F r _ _ (fun g hg => hF g (by simp [hg])) ha' hr' hl' hfr' h
        refine ⟨q1, q2, q3, q4, ?_, ?_, ?_, ?_, ?_⟩
        · rw [q5, filter_ins_no]
          simpa [fresh] using hFf
        · rw [q6]
          have : (ins (fresh o f) out).length = out.length + 1 := by rw [ins_eq ha h2']; simp; omega
          rw [this]; simp; omega
        · intro g hg
          rcases List.mem_cons.1 hg with rfl | hg
          · exact h2'
          · have := q7 g hg
            rw [hasF_ins] at this
            simp only [Bool.or_eq_false_iff] at this
            exact this.2
        · intro x
          rw [q8]
          simp only [mem_objs]
          constructor
          · rintro ⟨s, hs, i, hi, e⟩
            rcases mem_ins.1 hs with rfl | hs
            · simp [fresh, List.getElem?_replicate] at hi
            · exact ⟨s, hs, i, hi, e⟩
          · rintro ⟨s, hs, i, hi, e⟩
            exact ⟨s, mem_ins.2 (.inr hs), i, hi, e⟩
        · intro s
          rw [q9, mem_ins]
          simp only [List.mem_cons, exists_eq_or_imp]
          constructor
          · rintro ((h | h) | h)
            · exact .inr (.inl h)
            · exact .inl h
            · exact .inr (.inr h)
          · rintro (h | h | h)
            · exact .inl (.inr h)
            · exact .inl (.inl h)
            · exact .inr h
end Go.Slb
