/- The plain laws of allocation: what is handed out, and that the cache stays valid. -/
import Derived.Test.YthhdiiboblaclaaPure4
namespace Go.Slb
theorem ascI_weaken : ∀ {l : List Int} {p q : Int}, AscI p l → q ≤ p → AscI q l
  | [], _, _, _, _ => trivial
  | _ :: _, _, _, h, hq => ⟨by have := h.1; omega, h.2⟩
theorem ascI_nodup : ∀ {l : List Int} {p : Int}, AscI p l → l.Nodup
  | [], _, _ => List.nodup_nil
  | x :: r, p, h => List.nodup_cons.2 ⟨fun hx => by have := ascI_lt h.2 x hx; omega, ascI_nodup h.2⟩
theorem ascI_append : ∀ {l m : List Int} {p q : Int}, AscI p l → AscI q m → (∀ x ∈ l, x ≤ q) → p ≤ q → AscI p (l ++ m)
  | [], _, _, _, _, hm, _, hp => ascI_weaken hm hp
  | x :: l, _, _, _, hl, hm, h, _ => ⟨hl.1, ascI_append hl.2 hm (fun y hy => h y (by simp [hy])) (h x (by simp))⟩
theorem offs_asc (f o : Int) (b : Bool) : ∀ (u : List Bool) (k : Nat), AscI (f * o + k - 1) (offs f o b k u)
  | [], _ => trivial
  | x :: r, k => by
    unfold offs
    have ih := offs_asc f o b r (k + 1)
    split
    · refine ⟨by omega, ?_⟩
      exact ascI_weaken ih (by push_cast; omega)
    · exact ascI_weaken ih (by push_cast; omega)
theorem objs_asc {o : Int} (ho : 1 ≤ o) {b : Bool} : ∀ {l : List S} {p : Int}, Asc p l → (∀ s ∈ l, (s.2.length : Int) = o) → AscI ((p + 1) * o - 1) (objs o b l)
  | [], _, _, _ => trivial
  | s :: r, p, ha, hl => by
    have ih := objs_asc ho (b := b) ha.2 fun t ht => hl t (by simp [ht])
    have h1 := offs_asc s.1 o b s.2 0
    have h2 := hl s (by simp)
    have hm : (p + 1) * o ≤ s.1 * o := Int.mul_le_mul_of_nonneg_right (by have := ha.1; omega) (by omega)
    refine ascI_append (q := (s.1 + 1) * o - 1) (ascI_weaken h1 (by omega)) ih ?_ ?_
    · intro x hx
      obtain ⟨i, hi, e⟩ := mem_offs.1 hx
      have := lt_of_flag hi
      rw [Int.add_mul]; omega
    · rw [Int.add_mul s.1]; omega
theorem count_false (u : List Bool) : u.count false + u.count true = u.length := by
  induction u with
  | nil => rfl
  | cons x r ih => cases x <;> simp <;> omega
theorem objs_false_len {o : Int} : ∀ {l : List S}, (∀ s ∈ l, (s.2.length : Int) = o) → ((objs o false l).length : Int) = free o l
  | [], _ => by simp [objs, free, used]
  | s :: r, h => by
    have ih := objs_false_len (l := r) fun t ht => h t (by simp [ht])
    have h1 := count_false s.2
    have h2 := h s (by simp)
    simp only [objs, free, used, cnt, List.length_append, offs_len, List.length_cons, Int.natCast_add, Int.natCast_one, Int.add_mul, Int.one_mul] at ih ⊢
    omega
theorem offs_fresh (f o : Int) : ∀ (m k : Nat), (offs f o false k (List.replicate m false)).length = m
  | m, k => by rw [offs_len]; simp
/-- Of each new slab the first object is among those that are taken. -/
theorem first_took {o : Int} (ho : 1 ≤ o) : ∀ (fr : List S) (m : Nat), (∀ s ∈ fr, ∃ f, s = fresh o f) → ((fr.length : Int) - 1) * o < m → ∀ s ∈ fr, s.1 * o ∈ (objs o false fr).take m
  | [], _, _, _, s, hs => by simp at hs
  | t :: r, m, hf, hm, s, hs => by
    obtain ⟨f, rfl⟩ := hf t (by simp)
    have hl : (offs f o false 0 (fresh o f).2).length = o.toNat := offs_fresh f o o.toNat 0
    have hr0 : (0 : Int) ≤ (r.length : Int) * o := Int.mul_nonneg (by omega) (by omega)
    have hm' : (r.length : Int) * o < m := by
      have : ((r.length : Int) + 1 - 1) = (r.length : Int) := by omega
      simp only [List.length_cons, Int.natCast_add, Int.natCast_one, this] at hm
      exact hm
    simp only [objs]
    rw [List.take_append]
    rcases List.mem_cons.1 hs with rfl | hs
    · refine List.mem_append.2 (.inl ?_)
      obtain ⟨m, rfl⟩ : ∃ k, m = k + 1 := ⟨m - 1, by omega⟩
      obtain ⟨q, hq⟩ : ∃ k, o.toNat = k + 1 := ⟨o.toNat - 1, by omega⟩
      simp [fresh, hq, List.replicate_succ, offs]
    · refine List.mem_append.2 (.inr ?_)
      refine first_took ho r _ (fun x hx => hf x (by simp [hx])) ?_ s hs
      have e : (fresh o f).1 = f := rfl
      rw [e, hl]
      have hr1 : ((r.length : Int) - 1) * o = (r.length : Int) * o - o := by rw [Int.sub_mul]; omega
      have hr2 : 1 ≤ r.length := by
        cases r with
        | nil => simp at hs
        | cons => simp
      have hr3 : o ≤ (r.length : Int) * o := by
        have := Int.mul_le_mul_of_nonneg_right (show (1 : Int) ≤ (r.length : Int) by omega) (show (0 : Int) ≤ o by omega)
        omega
      rw [hr1]; omega
theorem news_mem {o : Int} : ∀ (F : List Int) (a : List S) (s : S), s ∈ F.foldl (fun a f => ins (fresh o f) a) a ↔ s ∈ a ∨ ∃ f ∈ F, s = fresh o f
  | [], a, s => by simp
  | f :: F, a, s => by
    simp only [List.foldl_cons, news_mem F, mem_ins, List.mem_cons, exists_eq_or_imp]
    constructor
    · rintro ((h | h) | h)
      · exact .inr (.inl h)
      · exact .inl h
      · exact .inr (.inr h)
    · rintro (h | h | h)
      · exact .inl (.inr h)
      · exact .inl (.inl h)
      · exact .inr h
theorem ins_length (x : S) : ∀ l : List S, (ins x l).length = l.length + 1
  | [] => rfl
  | s :: r => by unfold ins; split <;> simp [ins_length x r]
theorem news_length {o : Int} : ∀ (F : List Int) (a : List S), (F.foldl (fun a f => ins (fresh o f) a) a).length = a.length + F.length
  | [], a => rfl
  | f :: F, a => by simp only [List.foldl_cons, news_length F, ins_length, List.length_cons]; omega
theorem need_bounds {o : Int} {l : List S} {n : Int} (hk : Ok o l) (hn : 1 ≤ n) : 0 ≤ needL o l n ∧ n ≤ needL o l n * o + free o l ∧ (0 < needL o l n → (needL o l n - 1) * o + free o l < n) := by
  have ho := hk.o1
  have hc : check o l = 0 := check_ok.2 hk
  unfold needL
  by_cases h : n ≤ free o l
  · rw [if_pos (by omega)]; omega
  · rw [if_neg (by omega)]
    have h1 := Int.emod_add_mul_ediv (n - free o l - 1) o
    have h2 := Int.emod_nonneg (n - free o l - 1) (by omega : o ≠ 0)
    have h3 := Int.emod_lt_of_pos (n - free o l - 1) (by omega : 0 < o)
    have h4 : 0 ≤ (n - free o l - 1) / o := Int.ediv_nonneg (by omega) (by omega)
    rw [Int.mul_comm] at h1
    have e1 : ((n - free o l - 1) / o + 1) * o = (n - free o l - 1) / o * o + o := by rw [Int.add_mul]; omega
    have e2 : ((n - free o l - 1) / o + 1 - 1) * o = (n - free o l - 1) / o * o := by congr 1; omega
    refine ⟨by omega, ?_, fun _ => ?_⟩
    · rw [e1]; omega
    · rw [e2]; omega
/-- The cache behind an allocation. -/
def after (o : Int) (l : List S) (n : Int) (F : List Int) : List S := (allocP o l n F).2.1
section
variable {o : Int} {l : List S} {n : Int} {F : List Int}
theorem Done.alloc (h : Done o l n F) : allocP o l n F = (0, after o l n F, took o l n.toNat F) := by
  have e : allocP o l n F = (0, (allocP o l n F).2.1, (allocP o l n F).2.2) ∧ (allocP o l n F).2.2 = took o l n.toNat F := by
    rw [alloc_eq]
    unfold allocR
    have h1 := check_ok.2 h.ok
    have h2 := h.need
    have h3 := h.pos
    rw [if_neg (by omega), if_neg (by omega), if_neg (by have := h.add; omega)]
    exact ⟨rfl, rfl⟩
  rw [e.1, e.2]; rfl
theorem Done.took_in (h : Done o l n F) : ∀ x ∈ took o l n.toNat F, ∃ s ∈ (addF o F l).2, s.1 = x / o := by
  obtain ⟨q1, q2, q3, q4, q5, q6, q7, q8, q9⟩ := h.add_ok
  have ho := h.ok.o1
  intro x hx
  have hx2 := List.mem_of_mem_take hx
  rw [← q5, ← q4, List.mem_append, or_comm, ← objs_filter_other (p := fun s => F.contains s.1)] at hx2
  obtain ⟨s, hs, i, hi, e⟩ := mem_objs.1 hx2
  have a1 := q3 s hs
  have a2 := lt_of_flag hi
  exact ⟨s, hs, by rw [e, obj_div (by omega)]⟩
theorem Done.after_eq (h : Done o l n F) : after o l n F = marks o (took o l n.toNat F) (addF o F l).2 := by
  unfold after
  rw [alloc_eq]
  unfold allocR
  have h1 := check_ok.2 h.ok
  have h2 := h.need
  have h3 := h.pos
  rw [if_neg (by omega), if_neg (by omega), if_neg (by have := h.add; omega)]
theorem Done.after_mem (h : Done o l n F) (x : Int) : x ∈ objs o true (after o l n F) ↔ x ∈ objs o true l ∨ x ∈ took o l n.toNat F := by
  obtain ⟨q1, q2, q3, q4, q5, q6, q7, q8, q9⟩ := h.add_ok
  rw [h.after_eq, marks_mem h.ok.o1 q3 h.took_in, q8]
theorem Done.took_len (h : Done o l n F) : (took o l n.toNat F).length = n.toNat := by
  have h1 := objs_false_len h.ok.len
  have h2 := need_bounds h.ok h.pos
  have h3 := h.need
  have ho := h.ok.o1
  have hl : ∀ s ∈ news o F, (s.2.length : Int) = o := by
    intro s hs
    rcases (news_mem F [] s).1 hs with hs | ⟨f, _, rfl⟩
    · simp at hs
    · simp [fresh]; omega
  have h4 := objs_false_len hl
  have hu : used (news o F) = 0 := by
    have : ∀ m : List S, (∀ s ∈ m, ∃ f, s = fresh o f) → used m = 0 := by
      intro m
      induction m with
      | nil => intro _; rfl
      | cons s r ih =>
        intro hm
        obtain ⟨f, rfl⟩ := hm s (by simp)
        simp [used, ih fun t ht => hm t (by simp [ht]), fresh, cnt, List.count_replicate]
    exact this _ fun s hs => by
      rcases (news_mem F [] s).1 hs with hs | ⟨f, _, e⟩
      · simp at hs
      · exact ⟨f, e⟩
  have hlen : (news o F).length = F.length := by unfold news; rw [news_length]; simp
  unfold free at h4
  rw [hu, hlen, h3] at h4
  unfold took
  rw [List.length_take, List.length_append]
  simp only [Int.natCast_zero] at h4
  omega
theorem Done.after_ok (h : Done o l n F) : Ok o (after o l n F) := by
  obtain ⟨q1, q2, q3, q4, q5, q6, q7, q8, q9⟩ := h.add_ok
  have ho := h.ok.o1
  have hf := marks_fst o (took o l n.toNat F) (addF o F l).2
  have hlen' := marks_len (xs := took o l n.toNat F) q3
  rw [← h.after_eq] at hf hlen'
  have hasc := asc_of_map q1 hf.symm
  refine ⟨ho, h.ok.o2, hasc, ?_, hlen', ?_⟩
  · intro s hs
    have : s.1 ∈ (after o l n F).map (·.1) := List.mem_map.2 ⟨s, hs, rfl⟩
    rw [hf] at this
    obtain ⟨t, ht, e⟩ := List.mem_map.1 this
    rw [← e]; exact q2 t ht
  · intro s hs
    have hs1 : s.1 ∈ (after o l n F).map (·.1) := List.mem_map.2 ⟨s, hs, rfl⟩
    rw [hf] at hs1
    obtain ⟨t, ht, e⟩ := List.mem_map.1 hs1
    -- some used object lies in the frame of t
    have : ∃ i : Nat, (i : Int) < o ∧ s.1 * o + (i : Int) ∈ objs o true (after o l n F) := by
      rw [← e]
      rcases (q9 t).1 ht with ht | ⟨f, hfF, rfl⟩
      · obtain ⟨i, hi⟩ := List.getElem?_of_mem (h.ok.used t ht)
        have a1 := h.ok.len t ht
        have a2 := lt_of_flag hi
        exact ⟨i, by omega, (h.after_mem _).2 (.inl (mem_objs.2 ⟨t, ht, i, hi, rfl⟩))⟩
      · refine ⟨0, by omega, (h.after_mem _).2 (.inr ?_)⟩
        have h1 := objs_false_len h.ok.len
        have h2 := need_bounds h.ok h.pos
        have h3 := h.need
        have hp : 0 < F.length := List.length_pos_of_mem hfF
        have hlen : (news o F).length = F.length := by unfold news; rw [news_length]; simp
        have hu := used_le h.ok.len
        have hfree : 0 ≤ free o l := by unfold free; omega
        unfold took
        rw [List.take_append]
        refine List.mem_append.2 (.inr ?_)
        have hmem : fresh o f ∈ news o F := (news_mem F [] _).2 (.inr ⟨f, hfF, rfl⟩)
        have := first_took ho (news o F) (n.toNat - (objs o false l).length) ?_ ?_ _ hmem
        · simpa [fresh] using this
        · intro x hx
          rcases (news_mem F [] x).1 hx with hx | ⟨g, _, e⟩
          · simp at hx
          · exact ⟨g, e⟩
        · rw [hlen, h3]
          have := h2.2.2 (by omega)
          omega
    obtain ⟨i, hi, hx⟩ := this
    have a1 := hlen' s hs
    have := (flag_iff hasc hlen' hs (i := i) (by omega)).1 hx
    exact List.mem_of_getElem? this
theorem Done.took_new (h : Done o l n F) : ∀ x ∈ took o l n.toNat F, x ∉ objs o true l := by
  obtain ⟨q1, q2, q3, q4, q5, q6, q7, q8, q9⟩ := h.add_ok
  intro x hx hx3
  have hx2 := List.mem_of_mem_take hx
  rw [← q5, ← q4, List.mem_append, or_comm, ← objs_filter_other (p := fun s => F.contains s.1)] at hx2
  rw [← q8] at hx3
  obtain ⟨s, hs, i, hi, e⟩ := mem_objs.1 hx2
  have a2 := lt_of_flag hi
  rw [e, flag_iff q1 q3 hs a2, hi] at hx3
  simp at hx3
theorem Done.took_nodup (h : Done o l n F) : (took o l n.toNat F).Nodup := by
  obtain ⟨q1, q2, q3, q4, q5, q6, q7, q8, q9⟩ := h.add_ok
  have ho := h.ok.o1
  have n1 : (objs o false l).Nodup := ascI_nodup (objs_asc ho h.ok.asc h.ok.len)
  have hnl : ∀ s ∈ news o F, (s.2.length : Int) = o := by
    intro s hs; rw [← q4] at hs; exact q3 s ((List.mem_filter.1 hs).1)
  have asc_filter : ∀ (p : S → Bool) (l : List S) (q : Int), Asc q l → Asc q (l.filter p) := by
    intro p l
    induction l with
    | nil => intro q _; exact trivial
    | cons s r ih =>
      intro q ha
      rw [List.filter_cons]
      split
      · exact ⟨ha.1, ih _ ha.2⟩
      · exact ih _ (asc_weaken ha.2 (by have := ha.1; omega))
  have n2 : (objs o false (news o F)).Nodup := ascI_nodup (objs_asc ho (by rw [← q4]; exact asc_filter _ _ _ q1) hnl)
  unfold took
  refine List.Sublist.nodup (List.take_sublist _ _) (List.nodup_append.2 ⟨n1, n2, ?_⟩)
  intro x hx y hy hxy
  subst hxy
  obtain ⟨s, hs, i, hi, e⟩ := mem_objs.1 hx
  obtain ⟨t, ht, j, hj, e2⟩ := mem_objs.1 hy
  have a1 := h.ok.len s hs
  have a2 := lt_of_flag hi
  have a3 := hnl t ht
  have a4 := lt_of_flag hj
  have d1 := obj_div (f := s.1) (o := o) (i := i) (by omega)
  have d2 := obj_div (f := t.1) (o := o) (i := j) (by omega)
  rw [← e] at d1; rw [← e2, d1] at d2
  rcases (news_mem F [] t).1 ht with ht | ⟨f, hf, rfl⟩
  · simp at ht
  · have := q7 f hf
    simp only [hasF, List.any_eq_false, beq_iff_eq] at this
    exact this s hs d2
theorem Done.used_eq (h : Done o l n F) : used (after o l n F) = used l + n.toNat := by
  rw [← objs_len o, ← objs_len o, ← h.took_len, ← List.length_append]
  have hp : (objs o true (after o l n F)).Perm (objs o true l ++ took o l n.toNat F) := by
    have ho := h.ok.o1
    refine (List.perm_ext_iff_of_nodup (ascI_nodup (objs_asc ho h.after_ok.asc h.after_ok.len)) ?_).2 ?_
    · refine List.nodup_append.2 ⟨ascI_nodup (objs_asc ho h.ok.asc h.ok.len), h.took_nodup, ?_⟩
      intro x hx y hy hxy
      subst hxy
      exact h.took_new x hy hx
    · intro x; rw [h.after_mem, List.mem_append]
  exact hp.length_eq
end
end Go.Slb
