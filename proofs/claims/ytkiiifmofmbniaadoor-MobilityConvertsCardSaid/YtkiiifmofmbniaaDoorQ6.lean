/- The plain law of page blocks: steps on three page blocks. -/
import Derived.Test.YtkiiifmofmbniaaDoorQ5
namespace Go.Mob
open Go.Can
theorem newN_ok {st : Int} {ty : List Int} : ∀ (n i : Nat) (p : P), i + n = ty.length → NewS st ty i p → NewS st ty ty.length (newN st ty n i p)
  | 0, i, p, h, hN => by
    obtain rfl : i = ty.length := by omega
    exact hN
  | n + 1, i, p, h, hN => newN_ok n (i + 1) _ (by omega) (hN.step (by omega)).2
theorem new_ok {st : Int} {ty : List Int} (h : rngB ⟨st, ty, fun _ => []⟩ = true) : ∃ q, newP st ty = (q, 0) ∧ NewS st ty ty.length q :=
  ⟨_, by unfold newP; rw [if_neg (by rw [h]; decide)], newN_ok ty.length 0 _ (by omega) (NewS.start h)⟩
/-- A step. -/
structure Stp where
  give : Bool
  order : Nat
  kind : Nat
  pick : Nat
abbrev Hd := Int × Nat
def stepP (s : P × List Hd) (x : Stp) : Option (P × List Hd) :=
  if x.give = true then
    if s.2.length = 0 then some s
    else if (freeP s.1 (s.2.getD (x.pick % s.2.length) (0, 0)).1 ((s.2.getD (x.pick % s.2.length) (0, 0)).2 : Int)).2 ≠ 0 then none
    else some ((freeP s.1 (s.2.getD (x.pick % s.2.length) (0, 0)).1 ((s.2.getD (x.pick % s.2.length) (0, 0)).2 : Int)).1, s.2.eraseIdx (x.pick % s.2.length))
  else
    if (allocP s.1 ((x.order % 5 : Nat) : Int) ((x.kind % 3 : Nat) : Int)).2.2 = 0 then some ((allocP s.1 ((x.order % 5 : Nat) : Int) ((x.kind % 3 : Nat) : Int)).1, s.2 ++ [((allocP s.1 ((x.order % 5 : Nat) : Int) ((x.kind % 3 : Nat) : Int)).2.1, x.order % 5)])
    else if (allocP s.1 ((x.order % 5 : Nat) : Int) ((x.kind % 3 : Nat) : Int)).2.2 ≠ 16 then none
    else some s
/-- Three page blocks from 32 on, and the blocks that are held. -/
structure PI (s : P × List Hd) : Prop where
  v : Vd s.1
  b0 : s.1.st = 32
  n : s.1.ty.length = 3
  r : ∀ h ∈ s.2, R s.1 h.1 h.2
  d : List.Pairwise (fun a b : Hd => ∀ x, In a.1 a.2 x → ¬ In b.1 b.2 x) s.2
  c : ∀ x, Cov (F s.1) x ↔ 32 ≤ x ∧ x < 80 ∧ ∀ h ∈ s.2, ¬ In h.1 h.2 x
theorem R_same {p q : P} (h1 : q.st = p.st) (h2 : q.ty.length = p.ty.length) : R q = R p := by
  funext f k
  unfold R insB
  rw [h1, h2]
/-- Two entries of a list whose entries are apart. -/
theorem pair_two {α : Type} {Q : α → α → Prop} (hs : ∀ a b, Q a b → Q b a) : ∀ {l : List α}, List.Pairwise Q l → ∀ {i j : Nat} {a b : α}, l[i]? = some a → l[j]? = some b → i ≠ j → Q a b
  | [], _, i, j, a, b, h, _, _ => by simp at h
  | x :: r, h, i, j, a, b, hi, hj, hij => by
    rw [List.pairwise_cons] at h
    cases i with
    | zero =>
      cases j with
      | zero => omega
      | succ j =>
        simp at hi; subst hi
        exact h.1 b (List.mem_of_getElem? (by simpa using hj))
    | succ i =>
      cases j with
      | zero =>
        simp at hj; subst hj
        exact hs _ _ (h.1 a (List.mem_of_getElem? (by simpa using hi)))
      | succ j => exact pair_two hs h.2 (by simpa using hi) (by simpa using hj) (by omega)
theorem mem_erase_idx {α : Type} {l : List α} {i : Nat} {a : α} : a ∈ l.eraseIdx i ↔ ∃ j, j ≠ i ∧ l[j]? = some a := by
  rw [List.mem_eraseIdx_iff_getElem?]
theorem PI.give {s : P × List Hd} (h : PI s) {i : Nat} {b : Hd} (hb : s.2[i]? = some b) : freeP s.1 b.1 (b.2 : Int) = (putP s.1 b.1 b.2, 0) ∧ PI (putP s.1 b.1 b.2, s.2.eraseIdx i) := by
  have hm := List.mem_of_getElem? hb
  have hn : ∀ x, In b.1 b.2 x → ¬ Cov (F s.1) x := fun x hx hc => ((h.c x).1 hc).2.2 b hm hx
  have hr := h.r b hm
  obtain ⟨q1, q2⟩ := put_vd h.v hr hn
  have hst : (putP s.1 b.1 b.2).st = s.1.st := rfl
  have hty : (putP s.1 b.1 b.2).ty = s.1.ty := rfl
  refine ⟨free_ok h.v hr hn, q1, h.b0, h.n, fun a ha => ?_, h.d.sublist (List.eraseIdx_sublist _ _), fun x => ?_⟩
  · rw [R_same hst (by rw [hty])]
    exact h.r a (List.mem_of_mem_eraseIdx ha)
  · show Cov (F (putP s.1 b.1 b.2)) x ↔ _
    rw [q2, h.c]
    constructor
    · rintro (⟨h1, h2, h3⟩ | h1)
      · exact ⟨h1, h2, fun a ha => h3 a (List.mem_of_mem_eraseIdx ha)⟩
      · obtain ⟨z1, z2, _⟩ := ins_lt h.v.l.rng (show b.2 < 5 by have := hr.1; omega) hr.2
        obtain ⟨i1, _, _⟩ := ins_open hr.2
        have hs := h.b0; have hn := h.n
        refine ⟨by have := h1.1; omega, by have := h1.2; omega, fun a ha => ?_⟩
        obtain ⟨j, hj, hja⟩ := mem_erase_idx.1 ha
        exact pair_two (fun a b hab x h1 h2 => hab x h2 h1) h.d hb hja (Ne.symm hj) x h1
    · rintro ⟨h1, h2, h3⟩
      by_cases hx : In b.1 b.2 x
      · exact .inr hx
      · refine .inl ⟨h1, h2, fun a ha => ?_⟩
        obtain ⟨j, hja⟩ := List.getElem?_of_mem ha
        by_cases e : j = i
        · subst e; rw [hb] at hja; cases hja; exact hx
        · exact h3 a (mem_erase_idx.2 ⟨j, e, hja⟩)
theorem PI.took {s : P × List Hd} (h : PI s) {k : Nat} {q : P} {f : Int} (T : Took s.1 k q f) : PI (q, s.2 ++ [(f, k)]) := by
  have hR := R_same T.s T.n
  refine ⟨T.v, T.s.trans h.b0, T.n.trans h.n, fun a ha => ?_, ?_, fun x => ?_⟩
  · show R q _ _
    rw [hR]
    rcases List.mem_append.1 ha with h1 | h1
    · exact h.r a h1
    · obtain rfl := List.mem_singleton.1 h1
      exact T.r
  · rw [List.pairwise_append]
    refine ⟨h.d, List.pairwise_singleton _ _, fun a ha b hb x h1 h2 => ?_⟩
    obtain rfl := List.mem_singleton.1 hb
    exact ((h.c x).1 (T.i x h2)).2.2 a ha h1
  · show Cov (F q) x ↔ _
    rw [T.c, h.c]
    constructor
    · rintro ⟨⟨h1, h2, h3⟩, h4⟩
      refine ⟨h1, h2, fun a ha => ?_⟩
      rcases List.mem_append.1 ha with h5 | h5
      · exact h3 a h5
      · obtain rfl := List.mem_singleton.1 h5
        exact h4
    · rintro ⟨h1, h2, h3⟩
      exact ⟨⟨h1, h2, fun a ha => h3 a (List.mem_append_left _ ha)⟩, h3 (f, k) (List.mem_append_right _ (List.mem_singleton.2 rfl))⟩
theorem step_ok {s : P × List Hd} (h : PI s) (x : Stp) : ∃ s', stepP s x = some s' ∧ PI s' ∧ s'.2.length ≤ s.2.length + 1 := by
  unfold stepP
  by_cases hg : x.give = true
  · rw [if_pos hg]
    by_cases h0 : s.2.length = 0
    · rw [if_pos h0]
      exact ⟨s, rfl, h, by omega⟩
    · rw [if_neg h0]
      have hlt := Nat.mod_lt x.pick (show 0 < s.2.length by omega)
      obtain ⟨i, hi⟩ : ∃ i, x.pick % s.2.length = i := ⟨_, rfl⟩
      rw [hi] at hlt ⊢
      obtain ⟨b, hb⟩ : ∃ b, s.2[i]? = some b := ⟨_, List.getElem?_eq_getElem hlt⟩
      have hbd : s.2.getD i (0, 0) = b := by rw [List.getD_eq_getElem?_getD, hb]; rfl
      rw [hbd]
      obtain ⟨e, hP⟩ := h.give hb
      rw [e, if_neg (by simp)]
      exact ⟨_, rfl, hP, by simp only [List.length_eraseIdx]; split <;> omega⟩
  · rw [if_neg hg]
    have hk := Nat.mod_lt x.order (show 0 < 5 by decide)
    have ht := Nat.mod_lt x.kind (show 0 < 3 by decide)
    cases hf : find s.1 (x.order % 5) ((x.kind % 3 : Nat) : Int) with
    | none =>
      rw [(alloc_none h.v hk ht hf).1, if_neg (by simp), if_neg (by simp)]
      exact ⟨s, rfl, h, by omega⟩
    | some r =>
      obtain ⟨u, j⟩ := r
      obtain ⟨q, f, e, T, _⟩ := alloc_ok h.v hk ht hf
      rw [e, if_pos rfl]
      exact ⟨_, rfl, h.took T, by simp⟩
def playP (s : P × List Hd) : List Stp → Option (P × List Hd)
  | [] => some s
  | x :: r => match stepP s x with
    | some s' => playP s' r
    | none => none
theorem play_ok : ∀ (l : List Stp) {s : P × List Hd}, PI s → ∃ s', playP s l = some s' ∧ PI s' ∧ s'.2.length ≤ s.2.length + l.length
  | [], s, h => ⟨s, rfl, h, by simp⟩
  | x :: r, s, h => by
    obtain ⟨s1, h1, h2, h3⟩ := step_ok h x
    obtain ⟨s2, g1, g2, g3⟩ := play_ok r h2
    refine ⟨s2, ?_, g2, by simp only [List.length_cons]; omega⟩
    unfold playP
    rw [h1]
    exact g1
theorem three_rng {a b c : Nat} (ha : a < 3) (hb : b < 3) (hc : c < 3) : rngB ⟨32, [(a : Int), (b : Int), (c : Int)], fun _ => []⟩ = true := by
  simp [rngB, kindB]
  omega
theorem PI.start {a b c : Nat} (ha : a < 3) (hb : b < 3) (hc : c < 3) : ∃ q, newP 32 [(a : Int), (b : Int), (c : Int)] = (q, 0) ∧ PI (q, []) := by
  obtain ⟨q, e, hN⟩ := new_ok (three_rng ha hb hc)
  refine ⟨q, e, hN.v, hN.s, by show q.ty.length = 3; rw [hN.t]; rfl, by simp, List.Pairwise.nil, fun x => ?_⟩
  show Cov (F q) x ↔ _
  rw [hN.c]
  simp
end Go.Mob
