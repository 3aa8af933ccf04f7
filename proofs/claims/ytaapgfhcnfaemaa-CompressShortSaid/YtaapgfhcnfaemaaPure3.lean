/- The plain laws on the number of runs and the length of an encoding. -/
import Derived.Test.YtaapgfhcnfaemaaPure2
namespace Go.Zip
/-- How many of the first k bytes differ from the one before. -/
def chg (l : List Int) : Nat → Nat
  | 0 => 0
  | k + 1 => chg l k + if get l (k + 1) = get l k then 0 else 1
theorem chg_mono (l : List Int) : ∀ {a b : Nat}, a ≤ b → chg l a ≤ chg l b
  | a, 0, h => by obtain rfl : a = 0 := by omega
                  exact Nat.le_refl _
  | a, b + 1, h => by
    rcases Nat.lt_or_ge a (b + 1) with h1 | h1
    · have := chg_mono l (show a ≤ b by omega)
      simp only [chg]; omega
    · obtain rfl : a = b + 1 := by omega
      exact Nat.le_refl _
theorem chg_same {l : List Int} {i : Nat} : ∀ (n : Nat), (∀ m, m < n + 1 → get l (i + m) = get l i) → chg l (i + n) = chg l i
  | 0, _ => rfl
  | n + 1, h => by
    have ih := chg_same (l := l) (i := i) n fun m hm => h m (by omega)
    have h1 := h (n + 1) (by omega)
    have h2 := h n (by omega)
    show chg l (i + n + 1) = _
    simp only [chg]
    rw [if_pos (by rw [show i + n + 1 = i + (n + 1) by omega, h1, h2]), ih]; rfl
theorem runLen_stop {l : List Int} {i : Nat} (h : i + runLen l i < l.length) : get l (i + runLen l i) ≠ get l i := by
  have hp : runP l i l.length = false := by
    simp only [runP, Bool.and_eq_false_iff, decide_eq_false_iff_not]; left; omega
  have := (firstNot_no l.length (runP l i) hp).1
  unfold runLen at h ⊢
  simp only [runP, Bool.and_eq_false_iff, decide_eq_false_iff_not, beq_eq_false_iff_ne] at this
  rw [show i + (firstNot (runP l i) l.length + 1) = i + 1 + firstNot (runP l i) l.length by omega] at h ⊢
  rcases this with h1 | h1
  · exact absurd h h1
  · exact h1
theorem runsL_len {l : List Int} (hl : l.length = 32) : ∀ (f i : Nat), i < 32 → 32 ≤ i + f → (runsL l f i).length = 2 * (1 + (chg l 31 - chg l i))
  | 0, i, h1, h2 => by omega
  | f + 1, i, h1, h2 => by
    have h3 := runLen_le (l := l) (i := i) (by omega)
    have h4 := runLen_pos l i
    have h5 : chg l (i + (runLen l i - 1)) = chg l i := chg_same _ fun m hm => runLen_get (by omega)
    simp only [runsL]
    rw [if_pos (by omega)]
    simp only [List.length_cons]
    by_cases h6 : i + runLen l i < 32
    · rw [runsL_len hl f _ h6 (by omega)]
      have h7 := runLen_stop (l := l) (i := i) (by omega)
      have h8 : chg l (i + runLen l i) = chg l i + 1 := by
        rw [show i + runLen l i = i + (runLen l i - 1) + 1 by omega]
        simp only [chg]
        rw [h5, if_neg]
        intro e
        apply h7
        rw [show i + runLen l i = i + (runLen l i - 1) + 1 by omega, e]
        exact runLen_get (by omega)
      have h9 := chg_mono l (show i + runLen l i ≤ 31 by omega)
      rw [h8] at h9 ⊢
      omega
    · have e : i + runLen l i = 32 := by omega
      rw [e]
      have hz : runsL l f 32 = [] := by
        cases f with
        | zero => rfl
        | succ f => simp only [runsL]; rw [if_neg (by omega)]
      rw [hz, ← h5, show i + (runLen l i - 1) = 31 by omega]
      simp
theorem rep_get {n i : Nat} {x : Int} {l : List Int} (e : l = List.replicate n x) (hi : i < n) : get l i = x := by subst e; simp [get, hi]
theorem full_chg {l : List Int} (hl : l.length = 32) : fullB l = decide (chg l 31 = 0) := by
  rw [Bool.eq_iff_iff, decide_eq_true_eq]
  constructor
  · intro h
    have e := full_eq h
    have hz : ∀ i, i < 32 → get l i = get l 0 := fun i hi => rep_get e hi
    have := chg_same (l := l) (i := 0) 31 (fun m hm => by rw [Nat.zero_add]; exact hz m hm)
    simpa [chg] using this
  · intro h
    have hz : ∀ i, i ≤ 31 → get l i = get l 0 := by
      intro i
      induction i with
      | zero => intro _; rfl
      | succ i ih =>
        intro hi
        have h1 := chg_mono l hi
        have h2 := ih (by omega)
        rw [h] at h1
        simp only [chg] at h1
        split at h1
        · rename_i h3; rw [h3, h2]
        · omega
    simp only [fullB, Bool.and_eq_true, decide_eq_true_eq, List.all_eq_true, beq_iff_eq]
    refine ⟨hl, fun x hx => ?_⟩
    obtain ⟨i, hi, rfl⟩ := List.getElem_of_mem hx
    rw [← get_lt hi]
    exact hz i (by omega)
theorem lits_len (l : List Int) {a b : Nat} (hb : b ≤ l.length) : (lits l a b).length ≠ 1 := by
  unfold lits
  split
  · simp; omega
  · simp
theorem matL_len {l : List Int} : ∀ (f i a : Nat), i ≤ l.length → (matL l f i a).length ≠ 1
  | 0, _, _, _ => by simp [matL]
  | f + 1, i, a, h => by
    simp only [matL]
    split
    · split
      · exact matL_len f _ _ (by omega)
      · simp only [List.length_append, List.length_cons]; omega
    · exact lits_len l (Nat.le_refl _)
theorem pack_short {l : List Int} (hl : l.length = 32) : (packL l).length ≤ 1 + 2 * (1 + chg l 31) ∧ ((packL l).length = 2 ↔ chg l 31 = 0) := by
  have h1 := full_chg hl
  have h2 := runsL_len hl 32 0 (by omega) (by omega)
  have h3 := matL_len (l := l) 33 0 0 (by omega)
  rw [show chg l 0 = 0 from rfl, Nat.sub_zero] at h2
  have hs : (shorter l).length ≤ 1 + 2 * (1 + chg l 31) ∧ (chg l 31 ≠ 0 → (shorter l).length ≠ 2) := by
    unfold shorter
    split
    · rename_i h
      simp only [List.length_cons] at h ⊢
      omega
    · simp only [List.length_cons]
      omega
  unfold packL
  by_cases hf : fullB l = true
  · rw [if_pos hf]
    have : chg l 31 = 0 := by rw [h1] at hf; simpa using hf
    simp [this]
  · rw [if_neg hf]
    have h0 : chg l 31 ≠ 0 := by rw [h1] at hf; simpa using hf
    split
    · rename_i hb
      simp only [List.length_cons, hl]
      omega
    · have := hs.2 h0
      refine ⟨hs.1, ?_⟩
      constructor
      · intro h; exact absurd h this
      · intro h; exact absurd h h0
end Go.Zip
