/- The plain mathematics of caches of objects: what both programs compute. -/
namespace Go.Slb
/-- A slab: its frame, and which of its objects are used. -/
abbrev S := Int × List Bool

def chkL (o : Int) : Int → List S → Int
  | _, [] => 0
  | p, s :: r => if s.1 < 0 ∨ 256 ≤ s.1 then 2 else if s.1 ≤ p then 10 else if (s.2.length : Int) ≠ o then 3 else if s.2.contains true = false then 6 else chkL o s.1 r
/-- The first error of a cache. -/
def check (o : Int) (l : List S) : Int := if o < 1 ∨ 32 < o then 1 else chkL o (-1) l

/-- The frames ascend, from one above p on. -/
def Asc : Int → List S → Prop
  | _, [] => True
  | p, s :: r => p < s.1 ∧ Asc s.1 r
/-- What a valid cache is. -/
structure Ok (o : Int) (l : List S) : Prop where
  o1 : 1 ≤ o
  o2 : o ≤ 32
  asc : Asc (-1) l
  fr : ∀ s ∈ l, 0 ≤ s.1 ∧ s.1 < 256
  len : ∀ s ∈ l, (s.2.length : Int) = o
  used : ∀ s ∈ l, true ∈ s.2
theorem chkL_ok {o : Int} : ∀ {l : List S} {p : Int}, chkL o p l = 0 ↔ (Asc p l ∧ (∀ s ∈ l, 0 ≤ s.1 ∧ s.1 < 256) ∧ (∀ s ∈ l, (s.2.length : Int) = o) ∧ ∀ s ∈ l, true ∈ s.2)
  | [], p => by simp [chkL, Asc]
  | s :: r, p => by
    unfold chkL
    split
    · constructor
      · intro h; omega
      · rintro ⟨_, h, _⟩; have := h s (by simp); omega
    · split
      · constructor
        · intro h; omega
        · rintro ⟨h, _⟩; have := h.1; omega
      · split
        · rename_i h3
          constructor
          · intro h; omega
          · rintro ⟨_, _, h, _⟩; exact absurd (h s (by simp)) h3
        · split
          · rename_i h4
            constructor
            · intro h; omega
            · rintro ⟨_, _, _, h⟩
              have h5 := h s (by simp)
              have : s.2.contains true = true := by simpa using h5
              rw [this] at h4; cases h4
          · rename_i h1 h2 h3 h4
            rw [chkL_ok (l := r)]
            have h4' : true ∈ s.2 := by simpa using h4
            simp only [List.mem_cons, forall_eq_or_imp, Asc]
            constructor
            · rintro ⟨a, b, c, d⟩; exact ⟨⟨by omega, a⟩, ⟨by omega, b⟩, ⟨by omega, c⟩, h4', d⟩
            · rintro ⟨⟨_, a⟩, ⟨_, b⟩, ⟨_, c⟩, _, d⟩; exact ⟨a, b, c, d⟩
theorem check_ok {o : Int} {l : List S} : check o l = 0 ↔ Ok o l := by
  unfold check
  split
  · constructor
    · intro h; omega
    · intro h; have := h.o1; have := h.o2; omega
  · rw [chkL_ok]
    constructor
    · rintro ⟨a, b, c, d⟩; exact ⟨by omega, by omega, a, b, c, d⟩
    · intro h; exact ⟨h.asc, h.fr, h.len, h.used⟩

/-! ### Counting -/
def cnt (u : List Bool) : Nat := u.count true
def used : List S → Nat
  | [] => 0
  | s :: r => cnt s.2 + used r
def free (o : Int) (l : List S) : Int := l.length * o - used l
theorem used_le {o : Int} : ∀ {l : List S}, (∀ s ∈ l, (s.2.length : Int) = o) → (used l : Int) ≤ l.length * o
  | [], _ => by simp [used]
  | s :: r, h => by
    have h1 := used_le (l := r) fun t ht => h t (by simp [ht])
    have h2 := h s (by simp)
    have h3 := List.count_le_length (a := true) (l := s.2)
    simp only [used, cnt, List.length_cons, Int.natCast_add, Int.natCast_one, Int.add_mul, Int.one_mul]
    omega
def needL (o : Int) (l : List S) (n : Int) : Int := if n < 1 ∨ check o l ≠ 0 ∨ n ≤ free o l then 0 else (n - free o l - 1) / o + 1
theorem ceil_eq {m o : Int} (ho : 1 ≤ o) : (m - 1) / o + 1 = m / o + if 0 < m % o then 1 else 0 := by
  have h1 := Int.emod_add_mul_ediv m o
  have h2 := Int.emod_nonneg m (by omega : o ≠ 0)
  have h3 := Int.emod_lt_of_pos m (by omega : 0 < o)
  split
  · have e : m - 1 = (m % o - 1) + o * (m / o) := by omega
    rw [e, Int.add_mul_ediv_left _ _ (by omega), Int.ediv_eq_zero_of_lt (by omega) (by omega)]
    omega
  · have h0 : m % o = 0 := by omega
    have e : m - 1 = (o - 1) + o * (m / o - 1) := by rw [Int.mul_sub]; omega
    rw [e, Int.add_mul_ediv_left _ _ (by omega), Int.ediv_eq_zero_of_lt (by omega) (by omega)]
    omega

/-! ### The numbers of objects -/
def offs (f o : Int) (b : Bool) : Nat → List Bool → List Int
  | _, [] => []
  | k, u :: r => if u = b then (f * o + k) :: offs f o b (k + 1) r else offs f o b (k + 1) r
def objs (o : Int) (b : Bool) : List S → List Int
  | [] => []
  | s :: r => offs s.1 o b 0 s.2 ++ objs o b r
theorem offs_len (f o : Int) (b : Bool) : ∀ (u : List Bool) (k : Nat), (offs f o b k u).length = u.count b
  | [], _ => rfl
  | x :: r, k => by
    unfold offs
    by_cases h : x = b
    · rw [if_pos h]; simp [offs_len f o b r, h]
    · rw [if_neg h, offs_len f o b r, List.count_cons]; simp [h]
theorem objs_len (o : Int) : ∀ (l : List S), (objs o true l).length = used l
  | [] => rfl
  | s :: r => by simp [objs, used, offs_len, objs_len o r, cnt]
theorem mem_offs {f o : Int} {b : Bool} {x : Int} : ∀ {u : List Bool} {k : Nat}, x ∈ offs f o b k u ↔ ∃ i : Nat, u[i]? = some b ∧ x = f * o + ((k + i : Nat) : Int)
  | [], k => by simp [offs]
  | y :: r, k => by
    have ih := mem_offs (f := f) (o := o) (b := b) (x := x) (u := r) (k := k + 1)
    unfold offs
    constructor
    · intro h
      by_cases hy : y = b
      · rw [if_pos hy] at h
        rcases List.mem_cons.1 h with h | h
        · exact ⟨0, by simp [hy], by simpa using h⟩
        · obtain ⟨i, h1, h2⟩ := ih.1 h
          exact ⟨i + 1, by simpa using h1, by rw [h2]; congr 2; omega⟩
      · rw [if_neg hy] at h
        obtain ⟨i, h1, h2⟩ := ih.1 h
        exact ⟨i + 1, by simpa using h1, by rw [h2]; congr 2; omega⟩
    · rintro ⟨i, h1, h2⟩
      cases i with
      | zero =>
        have : y = b := by simpa using h1
        rw [if_pos this]; simp [h2]
      | succ i =>
        have h3 := ih.2 ⟨i, by simpa using h1, by rw [h2]; congr 2; omega⟩
        split
        · exact List.mem_cons_of_mem _ h3
        · exact h3
theorem mem_objs {o : Int} {b : Bool} {x : Int} : ∀ {l : List S}, x ∈ objs o b l ↔ ∃ s ∈ l, ∃ i : Nat, s.2[i]? = some b ∧ x = s.1 * o + (i : Int)
  | [] => by simp [objs]
  | s :: r => by
    simp only [objs, List.mem_append, mem_offs, mem_objs (l := r), List.mem_cons]
    constructor
    · rintro (⟨i, h1, h2⟩ | ⟨t, ht, i, h1, h2⟩)
      · exact ⟨s, .inl rfl, i, h1, by simpa using h2⟩
      · exact ⟨t, .inr ht, i, h1, h2⟩
    · rintro ⟨t, rfl | ht, i, h1, h2⟩
      · exact .inl ⟨i, h1, by simpa using h2⟩
      · exact .inr ⟨t, ht, i, h1, h2⟩

/-! ### More slabs -/
def ins (x : S) : List S → List S
  | [] => [x]
  | s :: r => if x.1 < s.1 then x :: s :: r else s :: ins x r
def hasF (f : Int) (l : List S) : Bool := l.any fun s => s.1 == f
/-- How many slabs lie below a frame. -/
def below (f : Int) (l : List S) : Nat := l.countP fun s => decide (s.1 < f)
theorem asc_weaken : ∀ {l : List S} {p q : Int}, Asc p l → q ≤ p → Asc q l
  | [], _, _, _, _ => trivial
  | _ :: _, _, _, h, hq => ⟨by have := h.1; omega, h.2⟩
theorem asc_lt : ∀ {l : List S} {p : Int}, Asc p l → ∀ s ∈ l, p < s.1
  | [], _, _, s, hs => by simp at hs
  | t :: r, p, h, s, hs => by
    rcases List.mem_cons.1 hs with rfl | hs
    · exact h.1
    · exact asc_lt (asc_weaken h.2 (by have := h.1; omega)) s hs
theorem ins_eq {x : S} : ∀ {l : List S} {p : Int}, Asc p l → hasF x.1 l = false → ins x l = l.take (below x.1 l) ++ x :: l.drop (below x.1 l)
  | [], _, _, _ => rfl
  | s :: r, p, h, hf => by
    simp only [hasF, List.any_cons, Bool.or_eq_false_iff, beq_eq_false_iff_ne] at hf
    unfold ins
    by_cases hx : x.1 < s.1
    · have hz : ∀ t ∈ r, ¬ t.1 < x.1 := fun t ht => by have := asc_lt h.2 t ht; omega
      have e : below x.1 (s :: r) = 0 := by
        unfold below; rw [List.countP_eq_zero]
        intro t ht
        rcases List.mem_cons.1 ht with rfl | ht
        · simp; omega
        · simpa using hz t ht
      rw [if_pos hx, e]; rfl
    · have hb : below x.1 (s :: r) = below x.1 r + 1 := by
        unfold below; rw [List.countP_cons, if_pos (by simp; omega)]
      rw [if_neg hx, hb, ins_eq h.2 hf.2]; rfl
theorem asc_ins {x : S} : ∀ {l : List S} {p : Int}, Asc p l → p < x.1 → hasF x.1 l = false → Asc p (ins x l)
  | [], _, _, hp, _ => ⟨hp, trivial⟩
  | s :: r, p, h, hp, hf => by
    simp only [hasF, List.any_cons, Bool.or_eq_false_iff, beq_eq_false_iff_ne] at hf
    unfold ins
    split
    · exact ⟨hp, by assumption, h.2⟩
    · exact ⟨h.1, asc_ins h.2 (by omega) hf.2⟩
theorem mem_ins {x s : S} : ∀ {l : List S}, s ∈ ins x l ↔ s = x ∨ s ∈ l
  | [] => by simp [ins]
  | t :: r => by
    unfold ins
    split
    · simp
    · rw [List.mem_cons, mem_ins (l := r), List.mem_cons]
      constructor
      · rintro (h | h | h)
        · exact .inr (.inl h)
        · exact .inl h
        · exact .inr (.inr h)
      · rintro (h | h | h)
        · exact .inr (.inl h)
        · exact .inl h
        · exact .inr (.inr h)
end Go.Slb
