/- The plain mathematics of a zone's free lists: what both checks compute. -/
namespace Go.Bud
def rangesB (nd kd st ct mn : Int) : Bool := decide (0 ≤ nd ∧ nd < 4 ∧ (kd = 0 ∨ kd = 1) ∧ 0 ≤ st ∧ st < 256 ∧ 1 ≤ ct ∧ ct ≤ 256 - st ∧ 0 ≤ mn ∧ mn ≤ ct)
def pw (k : Nat) : Int := ((2 ^ k : Nat) : Int)
theorem pw_pos (k : Nat) : 0 < pw k := by unfold pw; have := Nat.pow_pos (n := k) (show 0 < 2 by decide); omega
theorem pw_succ (k : Nat) : pw (k + 1) = 2 * pw k := by unfold pw; rw [Nat.pow_succ]; omega
def insideB (st ct f : Int) (k : Nat) : Bool := decide (st ≤ f ∧ f % pw k = 0 ∧ pw k ≤ ct ∧ f ≤ st + ct - pw k)
/-- The first error of a list, behind the element p (if b). -/
def le1 (st ct : Int) (k : Nat) : Bool → Int → List Int → Int
  | _, _, [] => 0
  | b, p, f :: r => if insideB st ct f k = false then 3 else if b = true ∧ f ≤ p then 10 else le1 st ct k true f r
def le (st ct : Int) : Nat → List (List Int) → Int
  | _, [] => 0
  | k, l :: r => if le1 st ct k false 0 l = 0 then le st ct (k + 1) r else le1 st ct k false 0 l
def cov (f : Int) : Nat → List Int
  | 0 => []
  | n + 1 => f :: cov (f + 1) n
def covL (k : Nat) (l : List Int) : List Int := l.flatMap fun f => cov f (2 ^ k)
def covA : Nat → List (List Int) → List Int
  | _, [] => []
  | k, l :: r => covL k l ++ covA (k + 1) r
def bud (k : Nat) (f : Int) : Int := if f % pw (k + 1) = 0 then f + pw k else f - pw k
/-- A block that could be joined with its buddy. -/
def st1 (st ct : Int) (k : Nat) (l : List Int) : Bool := l.any fun f => l.contains (bud k f) && insideB st ct (min f (bud k f)) (k + 1)
def stA (st ct : Int) : Nat → Nat → List (List Int) → Bool
  | 0, _, _ => false
  | _, _, [] => false
  | n + 1, k, l :: r => st1 st ct k l || stA st ct n (k + 1) r
def dup : List Int → Bool
  | [] => false
  | x :: r => r.contains x || dup r
def chk (nd kd st ct mn : Int) (L : List (List Int)) : Int :=
  if rangesB nd kd st ct mn = false then 2 else if le st ct 0 L ≠ 0 then le st ct 0 L else if dup (covA 0 L) = true then 7 else if stA st ct 4 0 L = true then 11 else 0

/-- The lists are valid: blocks of the zone, ascending. -/
structure Val (st ct : Int) (k : Nat) (b : Bool) (p : Int) (l : List Int) : Prop where
  ins : ∀ f ∈ l, insideB st ct f k = true
  asc : List.Pairwise (· < ·) l
  up : b = true → ∀ f ∈ l, p < f
theorem le1_val {st ct : Int} {k : Nat} : ∀ {l : List Int} {b : Bool} {p : Int}, le1 st ct k b p l = 0 → Val st ct k b p l
  | [], _, _, _ => ⟨by simp, List.Pairwise.nil, by simp⟩
  | f :: r, b, p, h => by
    unfold le1 at h
    split at h
    · omega
    · rename_i h1
      split at h
      · omega
      · rename_i h2
        have ih := le1_val h
        have h1' : insideB st ct f k = true := by simpa using h1
        refine ⟨?_, ?_, ?_⟩
        · intro x hx
          rcases List.mem_cons.1 hx with rfl | hx
          · exact h1'
          · exact ih.ins x hx
        · exact List.Pairwise.cons (fun x hx => ih.up rfl x hx) ih.asc
        · intro hb x hx
          have hp : p < f := by
            rcases Int.lt_or_le p f with h3 | h3
            · exact h3
            · exact absurd ⟨hb, h3⟩ h2
          rcases List.mem_cons.1 hx with rfl | hx
          · exact hp
          · have := ih.up rfl x hx; omega
def adj (st ct : Int) (k : Nat) : List Int → Bool
  | a :: b :: r => (decide (b = a + pw k) && insideB st ct a (k + 1)) || adj st ct k (b :: r)
  | _ => false
theorem ins_mod {st ct f : Int} {k : Nat} (h : insideB st ct f k = true) : f % pw k = 0 := by
  unfold insideB at h
  rw [decide_eq_true_eq] at h
  exact h.2.1
theorem mod_down {f : Int} {k : Nat} (h : f % pw (k + 1) = 0) : f % pw k = 0 := by
  rw [pw_succ] at h
  have h1 := Int.emod_add_mul_ediv f (2 * pw k)
  rw [h, Int.zero_add] at h1
  rw [← h1, Int.mul_assoc, Int.mul_comm, Int.mul_assoc, Int.mul_emod_right]
/-- Multiples of p that are less than p apart are the same. -/
theorem mult_gap {a b p : Int} (hp : 0 < p) (ha : a % p = 0) (hb : b % p = 0) (h : a < b) : a + p ≤ b := by
  have h1 := Int.emod_add_mul_ediv a p
  have h2 := Int.emod_add_mul_ediv b p
  rw [ha, Int.zero_add] at h1
  rw [hb, Int.zero_add] at h2
  have h3 : a / p < b / p := by
    rcases Int.lt_or_le (a / p) (b / p) with h4 | h4
    · exact h4
    · have := Int.mul_le_mul_of_nonneg_left h4 (by omega : 0 ≤ p); omega
  have h4 := Int.mul_le_mul_of_nonneg_left (show a / p + 1 ≤ b / p by omega) (by omega : 0 ≤ p)
  rw [Int.mul_add, Int.mul_one] at h4
  omega
theorem bud_up {f : Int} {k : Nat} (h : f % pw (k + 1) = 0) : bud k f = f + pw k := by unfold bud; rw [if_pos h]
theorem bud_min {f : Int} {k : Nat} (hf : f % pw k = 0) : (min f (bud k f)) % pw (k + 1) = 0 ∧ (bud k f = min f (bud k f) + pw k ∧ f = min f (bud k f) ∨ f = min f (bud k f) + pw k ∧ bud k f = min f (bud k f)) := by
  have hp := pw_pos k
  unfold bud
  split
  · rename_i h
    rw [Int.min_eq_left (by omega)]
    exact ⟨h, .inl ⟨rfl, rfl⟩⟩
  · rename_i h
    rw [Int.min_eq_right (by omega)]
    refine ⟨?_, .inr ⟨by omega, rfl⟩⟩
    rw [pw_succ] at h ⊢
    have h1 := Int.emod_add_mul_ediv f (pw k)
    rw [hf, Int.zero_add] at h1
    rcases (show f / pw k % 2 = 0 ∨ f / pw k % 2 = 1 by omega) with h2 | h2
    · exfalso
      apply h
      have h3 := Int.emod_add_mul_ediv (f / pw k) 2
      rw [h2, Int.zero_add] at h3
      rw [← h1, ← h3, show pw k * (2 * (f / pw k / 2)) = 2 * pw k * (f / pw k / 2) by rw [Int.mul_comm 2 (pw k), Int.mul_assoc], Int.mul_emod_right]
    · have h3 := Int.emod_add_mul_ediv (f / pw k) 2
      rw [h2] at h3
      have h4 : f - pw k = 2 * pw k * (f / pw k / 2) := by
        have : f = pw k * (1 + 2 * (f / pw k / 2)) := by rw [h3]; exact h1.symm
        rw [Int.mul_add, Int.mul_one] at this
        rw [Int.mul_comm 2 (pw k), Int.mul_assoc]
        omega
      rw [h4, Int.mul_emod_right]
theorem adj_of {st ct : Int} {k : Nat} : ∀ {l : List Int}, (∀ f ∈ l, f % pw k = 0) → List.Pairwise (· < ·) l → ∀ m, m ∈ l → m + pw k ∈ l → insideB st ct m (k + 1) = true → adj st ct k l = true
  | [], _, _, m, h, _, _ => by simp at h
  | [a], _, _, m, h1, h2, _ => by
    have hp := pw_pos k
    simp at h1 h2; omega
  | a :: b :: r, hm, hp, m, h1, h2, h3 => by
    have hpk := pw_pos k
    rw [List.pairwise_cons] at hp
    unfold adj
    rw [Bool.or_eq_true]
    rcases List.mem_cons.1 h1 with rfl | h1'
    · left
      have h4 : m + pw k ∈ b :: r := by
        rcases List.mem_cons.1 h2 with h | h
        · omega
        · exact h
      have h5 := mult_gap hpk (hm m (by simp)) (hm b (by simp)) (hp.1 b (by simp))
      have h6 : b ≤ m + pw k := by
        rcases List.mem_cons.1 h4 with h | h
        · omega
        · rw [List.pairwise_cons] at hp
          have := hp.2.1 _ h; omega
      simp [h3]; omega
    · right
      have h4 : m + pw k ∈ b :: r := by
        rcases List.mem_cons.1 h2 with h | h
        · have := hp.1 m h1'; omega
        · exact h
      exact adj_of (fun f hf => hm f (by simp [hf])) hp.2 m h1' h4 h3
theorem adj_get {st ct : Int} {k : Nat} : ∀ {l : List Int}, adj st ct k l = true → ∃ m, m ∈ l ∧ m + pw k ∈ l ∧ insideB st ct m (k + 1) = true
  | [], h => by simp [adj] at h
  | [a], h => by simp [adj] at h
  | a :: b :: r, h => by
    unfold adj at h
    rw [Bool.or_eq_true] at h
    rcases h with h | h
    · simp at h
      exact ⟨a, by simp, by rw [← h.1]; simp, h.2⟩
    · obtain ⟨m, h1, h2, h3⟩ := adj_get h
      exact ⟨m, by simp [h1], by simp [h2], h3⟩
theorem st1_adj {st ct : Int} {k : Nat} {l : List Int} {b : Bool} {p : Int} (h : Val st ct k b p l) : st1 st ct k l = adj st ct k l := by
  rw [Bool.eq_iff_iff]
  have hm : ∀ f ∈ l, f % pw k = 0 := fun f hf => ins_mod (h.ins f hf)
  unfold st1
  rw [List.any_eq_true]
  constructor
  · rintro ⟨f, hf, hx⟩
    simp only [Bool.and_eq_true, List.contains_eq_mem, decide_eq_true_eq] at hx
    obtain ⟨h1, h2⟩ := bud_min (k := k) (hm f hf)
    rcases h2 with ⟨h2, h3⟩ | ⟨h2, h3⟩
    · exact adj_of hm h.asc _ (by rw [← h3]; exact hf) (by rw [← h2]; exact hx.1) hx.2
    · exact adj_of hm h.asc _ (by rw [← h3]; exact hx.1) (by rw [← h2]; exact hf) hx.2
  · intro ha
    obtain ⟨m, h1, h2, h3⟩ := adj_get ha
    have h4 := bud_up (ins_mod h3)
    refine ⟨m, h1, ?_⟩
    have hp := pw_pos k
    simp only [Bool.and_eq_true, List.contains_eq_mem, decide_eq_true_eq]
    rw [h4, Int.min_eq_left (by omega)]
    exact ⟨h2, h3⟩
theorem dup_count : ∀ {l : List Int}, dup l = true ↔ ∃ x, 1 < l.count x
  | [] => by simp [dup]
  | y :: r => by
    unfold dup
    rw [Bool.or_eq_true, dup_count (l := r)]
    constructor
    · rintro (h | ⟨x, h⟩)
      · have h' : y ∈ r := by simpa using h
        exact ⟨y, by rw [List.count_cons_self]; have := List.count_pos_iff.2 h'; omega⟩
      · refine ⟨x, ?_⟩
        rw [List.count_cons]; omega
    · rintro ⟨x, h⟩
      by_cases hx : x = y
      · subst hx
        left
        rw [List.count_cons_self] at h
        have := List.count_pos_iff.1 (show 0 < r.count x by omega)
        simpa using this
      · right
        rw [List.count_cons_of_ne (Ne.symm hx)] at h
        exact ⟨x, h⟩
end Go.Bud
