/- The plain law of page blocks: lists that are computed from a set of frames. -/
import Derived.Test.YtkiiifmofmbniaaDoorN1
namespace Go.Mob
open Go.Can
/-- The lists when all blocks above order k, and those of order k ahead of f, were looked at; L is what is left of S. -/
structure Wi (p : P) (S : Int → Prop) (k : Nat) (f : Int) (fr : Nat → List Int) (L : Int → Prop) : Prop where
  mem : ∀ t j g, t < 3 → j < 5 → (g ∈ fr (5 * t + j) ↔ Max (R p) S g j ∧ tyAt p g = ((t : Nat) : Int) ∧ (k < j ∨ (j = k ∧ g < f)))
  asc : ∀ i, i < 15 → List.Pairwise (· < ·) (fr i)
  left : ∀ x, L x ↔ S x ∧ ∀ g j, (k < j ∨ (j = k ∧ g < f)) → Max (R p) S g j → ¬ In g j x
  al : f % pw k = 0
  k4 : k ≤ 4
section
variable {p : P} {S : Int → Prop} {k : Nat} {f : Int} {fr : Nat → List Int} {L : Int → Prop}
theorem Wi.start (hr : rngB p = true) : Wi p S 4 p.st (fun _ => []) S := by
  obtain ⟨r1, r2, _⟩ := rng_of hr
  have hno : ∀ g j, Max (R p) S g j → ¬ (4 < j ∨ (j = 4 ∧ g < p.st)) := fun g j hm h => by
    have h1 := hm.1.1
    have h2 := (ins_open hm.1.2).1
    omega
  refine ⟨fun t j g _ _ => ⟨fun h => by simp at h, fun ⟨h1, _, h3⟩ => absurd h3 (hno g j h1)⟩, fun i _ => List.Pairwise.nil, fun x => ⟨fun h => ⟨h, fun g j h1 h2 => absurd h1 (hno g j h2)⟩, fun h => h.1⟩, ?_, Nat.le_refl _⟩
  rw [show pw 4 = 16 from rfl]
  exact r2
/-- A block is whole in what is left exactly if it is maximal. -/
theorem Wi.all (hr : rngB p = true) (h : Wi p S k f fr L) (hin : insB p f k = true) : (∀ x, In f k x → L x) ↔ Max (R p) S f k := by
  have hR := regR hr
  have hrf : R p f k := ⟨h.k4, hin⟩
  rw [max_left hR hrf]
  constructor
  · intro ha x hx
    obtain ⟨h1, h2⟩ := (h.left x).1 (ha x hx)
    exact ⟨h1, fun g j hj hm => h2 g j (.inl hj) hm⟩
  · intro ha x hx
    obtain ⟨h1, h2⟩ := ha x hx
    refine (h.left x).2 ⟨h1, fun g j hj hm hgx => ?_⟩
    rcases hj with hj | ⟨rfl, hgf⟩
    · exact h2 g j hj hm hgx
    · obtain ⟨n1, n2⟩ := nest h.k4 (Nat.le_refl _) (hR.al hrf) (hR.al hm.1) hx hgx
      omega
/-- Blocks of one order ahead of the next. -/
theorem ahead_iff (hr : rngB p = true) (h : Wi p S k f fr L) {g : Int} (hg : R p g k) : g < f + pw k ↔ g < f ∨ g = f := by
  have h1 := (regR hr).al hg
  have h2 := h.al
  have hp := pw_pos k
  constructor
  · intro h3
    by_cases h4 : f < g
    · have := mul_gap h.k4 h2 h1 h4
      omega
    · omega
  · rintro (h3 | h3) <;> omega
theorem next_al (h : f % pw k = 0) : (f + pw k) % pw k = 0 := by
  rw [Int.add_emod_right]; exact h
theorem Wi.skip (hr : rngB p = true) (h : Wi p S k f fr L) (hn : ¬ Max (R p) S f k) : Wi p S k (f + pw k) fr L := by
  have key : ∀ g j, Max (R p) S g j → ((k < j ∨ (j = k ∧ g < f + pw k)) ↔ (k < j ∨ (j = k ∧ g < f))) := fun g j hm => by
    constructor
    · rintro (h1 | ⟨rfl, h1⟩)
      · exact .inl h1
      · rcases (ahead_iff hr h hm.1).1 h1 with h2 | rfl
        · exact .inr ⟨rfl, h2⟩
        · exact absurd hm hn
    · rintro (h1 | ⟨rfl, h1⟩)
      · exact .inl h1
      · exact .inr ⟨rfl, by have := pw_pos j; omega⟩
  refine ⟨fun t j g ht hj => ?_, h.asc, fun x => ?_, next_al h.al, h.k4⟩
  · rw [h.mem t j g ht hj]
    exact ⟨fun ⟨a, b, c⟩ => ⟨a, b, (key g j a).2 c⟩, fun ⟨a, b, c⟩ => ⟨a, b, (key g j a).1 c⟩⟩
  · rw [h.left x]
    exact ⟨fun ⟨a, b⟩ => ⟨a, fun g j c d => b g j ((key g j d).1 c) d⟩, fun ⟨a, b⟩ => ⟨a, fun g j c d => b g j ((key g j d).2 c) d⟩⟩
theorem Wi.take (hr : rngB p = true) (h : Wi p S k f fr L) (hm : Max (R p) S f k) {t : Nat} (ht : t < 3) (hty : tyAt p f = (t : Int)) {L' : Int → Prop} (hL : ∀ x, L' x ↔ L x ∧ ¬ In f k x) :
    Wi p S k (f + pw k) (upd fr (5 * t + k) (fr (5 * t + k) ++ [f])) L' := by
  have hk4 := h.k4
  have key : ∀ g j, Max (R p) S g j → ((k < j ∨ (j = k ∧ g < f + pw k)) ↔ (k < j ∨ (j = k ∧ g < f)) ∨ (g = f ∧ j = k)) := fun g j hg => by
    constructor
    · rintro (h1 | ⟨rfl, h1⟩)
      · exact .inl (.inl h1)
      · rcases (ahead_iff hr h hg.1).1 h1 with h2 | rfl
        · exact .inl (.inr ⟨rfl, h2⟩)
        · exact .inr ⟨rfl, rfl⟩
    · rintro ((h1 | ⟨rfl, h1⟩) | ⟨rfl, rfl⟩)
      · exact .inl h1
      · exact .inr ⟨rfl, by have := pw_pos j; omega⟩
      · exact .inr ⟨rfl, by have := pw_pos j; omega⟩
  refine ⟨fun u j g hu hj => ?_, fun i hi => ?_, fun x => ?_, next_al h.al, h.k4⟩
  · by_cases e : 5 * u + j = 5 * t + k
    · have e1 : u = t := by omega
      have e2 : j = k := by omega
      subst e1 e2
      rw [upd_self, List.mem_append, List.mem_singleton, h.mem u j g hu hj]
      constructor
      · rintro (⟨a, b, c⟩ | rfl)
        · exact ⟨a, b, (key g j a).2 (.inl c)⟩
        · exact ⟨hm, hty, (key g j hm).2 (.inr ⟨rfl, rfl⟩)⟩
      · rintro ⟨a, b, c⟩
        rcases (key g j a).1 c with c1 | ⟨c1, _⟩
        · exact .inl ⟨a, b, c1⟩
        · exact .inr c1
    · rw [upd_ne e, h.mem u j g hu hj]
      constructor
      · rintro ⟨a, b, c⟩
        exact ⟨a, b, (key g j a).2 (.inl c)⟩
      · rintro ⟨a, b, c⟩
        refine ⟨a, b, ?_⟩
        rcases (key g j a).1 c with c1 | ⟨rfl, rfl⟩
        · exact c1
        · rw [hty] at b
          exact absurd (by omega) e
  · by_cases e : i = 5 * t + k
    · subst e
      rw [upd_self, List.pairwise_append]
      refine ⟨h.asc _ hi, List.pairwise_singleton _ _, fun a ha b hb => ?_⟩
      obtain rfl := List.mem_singleton.1 hb
      have := ((h.mem t k a ht (by omega)).1 ha).2.2
      omega
    · rw [upd_ne e]; exact h.asc i hi
  · rw [hL, h.left x]
    constructor
    · rintro ⟨⟨a, b⟩, c⟩
      refine ⟨a, fun g j d e => ?_⟩
      rcases (key g j e).1 d with d1 | ⟨rfl, rfl⟩
      · exact b g j d1 e
      · exact c
    · rintro ⟨a, b⟩
      exact ⟨⟨a, fun g j d e => b g j ((key g j e).2 (.inl d)) e⟩, b f k ((key f k hm).2 (.inr ⟨rfl, rfl⟩)) hm⟩
/-- An order is through. -/
theorem Wi.next (hr : rngB p = true) (h : Wi p S (k + 1) (p.st + 16 * (p.ty.length : Int)) fr L) : Wi p S k p.st fr L := by
  obtain ⟨r1, r2, _⟩ := rng_of hr
  have hk4 := h.k4
  have key : ∀ g j, Max (R p) S g j → ((k < j ∨ (j = k ∧ g < p.st)) ↔ (k + 1 < j ∨ (j = k + 1 ∧ g < p.st + 16 * (p.ty.length : Int)))) := fun g j hm => by
    obtain ⟨i1, i2, _⟩ := ins_open hm.1.2
    omega
  refine ⟨fun t j g ht hj => ?_, h.asc, fun x => ?_, ?_, by omega⟩
  · rw [h.mem t j g ht hj]
    exact ⟨fun ⟨a, b, c⟩ => ⟨a, b, (key g j a).2 c⟩, fun ⟨a, b, c⟩ => ⟨a, b, (key g j a).1 c⟩⟩
  · rw [h.left x]
    exact ⟨fun ⟨a, b⟩ => ⟨a, fun g j c d => b g j ((key g j d).1 c) d⟩, fun ⟨a, b⟩ => ⟨a, fun g j c d => b g j ((key g j d).2 c) d⟩⟩
  · rcases pw_cases (show k ≤ 4 by omega) with ⟨k1, k2⟩ | ⟨k1, k2⟩ | ⟨k1, k2⟩ | ⟨k1, k2⟩ | ⟨k1, k2⟩ <;> (rw [k2]; omega)
/-- All is through. -/
theorem Wi.done (hr : rngB p = true) (h : Wi p S 0 (p.st + 16 * (p.ty.length : Int)) fr L) (hS : ∀ x, S x → p.st ≤ x ∧ x < p.st + 16 * (p.ty.length : Int)) : Vd ⟨p.st, p.ty, fr⟩ ∧ ∀ x, Cov (F ⟨p.st, p.ty, fr⟩) x ↔ S x := by
  have hR := regR hr
  have hRe : R ⟨p.st, p.ty, fr⟩ = R p := rfl
  have hF : F ⟨p.st, p.ty, fr⟩ = Max (R p) S := by
    funext g j
    apply propext
    constructor
    · rintro ⟨h1, t, h2, h3⟩
      exact ((h.mem t j g h2 (by omega)).1 h3).1
    · intro hm
      obtain ⟨t, ht, hty⟩ := ty_at hr hm.1.2
      have hj := hm.1.1
      obtain ⟨_, i2, _⟩ := ins_open hm.1.2
      exact ⟨hj, t, ht, (h.mem t j g ht (by omega)).2 ⟨hm, hty, by omega⟩⟩
  have h0 : ∀ x, S x → R p x 0 := fun x hx => ⟨Nat.zero_le _, by
    obtain ⟨a, b⟩ := hS x hx
    unfold insB
    rw [decide_eq_true_eq, pw_zero]
    exact ⟨a, b, by omega⟩⟩
  refine ⟨⟨⟨hr, fun i hi f hf => ?_, h.asc⟩, ?_⟩, fun x => ?_⟩
  · have := (h.mem (i / 5) (i % 5) f (by omega) (by omega)).1 (by rw [show 5 * (i / 5) + i % 5 = i by omega]; exact hf)
    exact ⟨this.1.1.2, this.2.1⟩
  · rw [hRe, hF]; exact max_val hR
  · rw [hF]; exact max_cov hR h0
end
end Go.Mob
