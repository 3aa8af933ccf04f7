/- The plain law of page blocks: the document's check is the program's. -/
import Derived.Test.YtkiiifmofmbniaaDoorQ6
namespace Go.Mob
open Go.Can
/-- Neighbours in a list that could be one block. -/
def rs1 (k : Nat) : List Int → Bool
  | x :: y :: r => (decide (y = x + pw k) && decide (x % pw (k + 1) = 0)) || rs1 k (y :: r)
  | _ => false
theorem rs1_step {k : Nat} {l : List Int} {i : Nat} {x y : Int} (hx : l[i]? = some x) (hy : l[i + 1]? = some y) : rs1 k (l.drop i) = ((decide (y = x + pw k) && decide (x % pw (k + 1) = 0)) || rs1 k (l.drop (i + 1))) := by
  rw [drop_get' hx, drop_get' hy]
  rfl
where
  drop_get' {l : List Int} {i : Nat} {s : Int} (h : l[i]? = some s) : l.drop i = s :: l.drop (i + 1) := by
    have hlt : i < l.length := by rw [List.getElem?_eq_some_iff] at h; obtain ⟨h, _⟩ := h; exact h
    rw [List.drop_eq_getElem_cons hlt]
    rw [List.getElem?_eq_getElem hlt] at h
    rw [Option.some.inj h]
theorem rs1_end {k : Nat} {l : List Int} {i : Nat} (h : l.length ≤ i + 1) : rs1 k (l.drop i) = false := by
  have h1 : (l.drop i).length ≤ 1 := by rw [List.length_drop]; omega
  match hl : l.drop i, h1 with
  | [], _ => rfl
  | [a], _ => rfl
  | a :: b :: r, h1 => simp at h1
theorem mul_gap {a b : Int} {k : Nat} (hk : k ≤ 4) (ha : a % pw k = 0) (hb : b % pw k = 0) (h : a < b) : a + pw k ≤ b := by
  rcases pw_cases hk with ⟨k1, k2⟩ | ⟨k1, k2⟩ | ⟨k1, k2⟩ | ⟨k1, k2⟩ | ⟨k1, k2⟩ <;> (rw [k2] at ha hb ⊢; omega)
theorem rs1_pair {k : Nat} (hk : k < 4) : ∀ {l : List Int}, List.Pairwise (· < ·) l → (∀ f ∈ l, f % pw k = 0) → (rs1 k l = true ↔ ∃ x, x ∈ l ∧ x + pw k ∈ l ∧ x % pw (k + 1) = 0)
  | [], _, _ => by simp [rs1]
  | [a], _, _ => by
    have hp := pw_pos k
    constructor
    · intro h; cases h
    · rintro ⟨x, h1, h2, _⟩
      have e1 := List.mem_singleton.1 h1
      have e2 := List.mem_singleton.1 h2
      omega
  | a :: b :: r, hp, hm => by
    have ih := rs1_pair hk (l := b :: r) (List.pairwise_cons.1 hp).2 (fun f hf => hm f (List.mem_cons_of_mem _ hf))
    have hpp := pw_pos k
    have hab : a < b := (List.pairwise_cons.1 hp).1 b (by simp)
    have hg := mul_gap (show k ≤ 4 by omega) (hm a (by simp)) (hm b (by simp)) hab
    unfold rs1
    rw [Bool.or_eq_true, ih, Bool.and_eq_true, decide_eq_true_eq, decide_eq_true_eq]
    constructor
    · rintro (⟨h1, h2⟩ | ⟨x, h1, h2, h3⟩)
      · exact ⟨a, by simp, by rw [← h1]; simp, h2⟩
      · exact ⟨x, List.mem_cons_of_mem _ h1, List.mem_cons_of_mem _ h2, h3⟩
    · rintro ⟨x, h1, h2, h3⟩
      rcases List.mem_cons.1 h1 with rfl | h1
      · left
        rcases List.mem_cons.1 h2 with h4 | h4
        · omega
        · rcases List.mem_cons.1 h4 with h5 | h5
          · exact ⟨h5.symm, h3⟩
          · have := (List.pairwise_cons.1 (List.pairwise_cons.1 hp).2).1 _ h5
            omega
      · right
        have h6 := (List.pairwise_cons.1 hp).1 x h1
        rcases List.mem_cons.1 h2 with h4 | h4
        · omega
        · exact ⟨x, h1, h4, h3⟩
theorem rs1_any {k : Nat} (hk : k < 4) {l : List Int} (hp : List.Pairwise (· < ·) l) (hm : ∀ f ∈ l, f % pw k = 0) : rs1 k l = l.any fun f => l.contains (bud k f) := by
  have e : rs1 k l = true ↔ (l.any fun f => l.contains (bud k f)) = true := by
    rw [rs1_pair hk hp hm, List.any_eq_true]
    constructor
    · rintro ⟨x, h1, h2, h3⟩
      refine ⟨x, h1, ?_⟩
      rcases bud_spec (hm x h1) hk with ⟨_, b2, _⟩ | ⟨b1, _⟩
      · rw [b2]; simpa using h2
      · exact absurd h3 b1
    · rintro ⟨x, h1, h2⟩
      have h2 : bud k x ∈ l := by simpa using h2
      rcases bud_spec (hm x h1) hk with ⟨b1, b2, _⟩ | ⟨b1, b2, b3⟩
      · rw [b2] at h2
        exact ⟨x, h1, h2, b1⟩
      · rw [b2] at h2
        refine ⟨x - pw k, h2, by rw [show x - pw k + pw k = x by omega]; exact h1, ?_⟩
        have := hm x h1
        rw [pw_succ] at b1 ⊢
        rcases pw_cases (show k ≤ 4 by omega) with ⟨k1, k2⟩ | ⟨k1, k2⟩ | ⟨k1, k2⟩ | ⟨k1, k2⟩ | ⟨k1, k2⟩ <;> (rw [k2] at this b1 ⊢; omega)
  exact Bool.eq_iff_iff.2 e
def rsN (p : P) : Nat → Nat → Bool
  | 0, _ => false
  | n + 1, i => (decide (i % 5 < 4) && rs1 (i % 5) (p.fr i)) || rsN p n (i + 1)
def rsA (p : P) (i : Nat) : Bool := rsN p (15 - i) i
theorem rsA_end (p : P) : rsA p 15 = false := rfl
theorem rsA_step {p : P} {i : Nat} (h : i < 15) : rsA p i = ((decide (i % 5 < 4) && rs1 (i % 5) (p.fr i)) || rsA p (i + 1)) := by
  unfold rsA; rw [a_step h]; rfl
theorem rsA_st {p : P} (h : Lst p) : ∀ (n i : Nat), i + n = 15 → rsA p i = stA p i
  | 0, i, hi => by
    obtain rfl : i = 15 := by omega
    rfl
  | n + 1, i, hi => by
    rw [rsA_step (by omega), stA_step (by omega), rsA_st h n (i + 1) (by omega)]
    unfold st1
    by_cases hk : i % 5 < 4
    · rw [rs1_any hk (h.asc i (by omega)) fun f hf => (ins_open (h.ins i (by omega) f hf).1).2.2]
    · simp [hk]
/-- How many free blocks cover a frame. -/
def cnt (p : P) (x : Nat) : Nat := (covA p 0).count (x : Int)
def cnts (C : List Int) : List Int := (List.range 256).map fun (i : Nat) => ((C.count (i : Int) : Nat) : Int)
theorem cnts_len (C : List Int) : (cnts C).length = 256 := by simp [cnts]
theorem cnts_get (C : List Int) {i : Nat} (h : i < 256) : (cnts C)[i]? = some ((C.count (i : Int) : Nat) : Int) := by simp [cnts, h]
theorem cov_range {p : P} (h : Lst p) {x : Int} (hx : x ∈ covA p 0) : p.st ≤ x ∧ x < p.st + 16 * (p.ty.length : Int) ∧ 0 ≤ x ∧ x < 256 := by
  obtain ⟨f, k, hf, hin⟩ := cov_iff.1 hx
  have hr := (F_at h hf).1
  obtain ⟨z1, z2, z3⟩ := ins_lt h.rng (show k < 5 by have := hr.1; omega) hr.2
  have := (ins_open hr.2).1
  have h1 := hin.1; have h2 := hin.2
  omega
theorem dup_cnt {p : P} (h : Lst p) : dup (covA p 0) = true ↔ ∃ x : Nat, x < 256 ∧ 1 < cnt p x := by
  rw [dup_count]
  constructor
  · rintro ⟨x, hx⟩
    have hm : x ∈ covA p 0 := List.count_pos_iff.1 (by omega)
    obtain ⟨_, _, h1, h2⟩ := cov_range h hm
    refine ⟨x.toNat, by omega, ?_⟩
    unfold cnt
    rw [show ((x.toNat : Nat) : Int) = x by omega]
    exact hx
  · rintro ⟨x, _, hx⟩
    exact ⟨x, hx⟩
/-- Whether a frame from i on is covered twice. -/
def manyN (p : P) : Nat → Nat → Bool
  | 0, _ => false
  | n + 1, i => decide (1 < cnt p i) || manyN p n (i + 1)
theorem manyN_iff {p : P} : ∀ {n i : Nat}, manyN p n i = true ↔ ∃ x, i ≤ x ∧ x < i + n ∧ 1 < cnt p x
  | 0, i => by
    constructor
    · intro h; cases h
    · rintro ⟨x, h1, h2, _⟩; omega
  | n + 1, i => by
    unfold manyN
    rw [Bool.or_eq_true, manyN_iff (n := n), decide_eq_true_eq]
    constructor
    · rintro (h | ⟨x, h1, h2, h3⟩)
      · exact ⟨i, Nat.le_refl _, by omega, h⟩
      · exact ⟨x, by omega, by omega, h3⟩
    · rintro ⟨x, h1, h2, h3⟩
      by_cases e : x = i
      · subst e; exact .inl h3
      · exact .inr ⟨x, by omega, by omega, h3⟩
theorem dup_many {p : P} (h : Lst p) : dup (covA p 0) = manyN p 256 0 := by
  have e : dup (covA p 0) = true ↔ manyN p 256 0 = true := by
    rw [dup_cnt h, manyN_iff]
    exact ⟨fun ⟨x, h1, h2⟩ => ⟨x, Nat.zero_le _, by omega, h2⟩, fun ⟨x, _, h1, h2⟩ => ⟨x, by omega, h2⟩⟩
  exact Bool.eq_iff_iff.2 e
theorem chk_ref (p : P) : chk p = if rngB p = false then 2 else if leA p 0 ≠ 0 then leA p 0 else if manyN p 256 0 = true then 7 else if rsA p 0 = true then 11 else 0 := by
  rw [chk_eq]
  by_cases h1 : rngB p = false
  · rw [if_pos h1, if_pos h1]
  · rw [if_neg h1, if_neg h1]
    by_cases h2 : leA p 0 ≠ 0
    · rw [if_pos h2, if_pos h2]
    · rw [if_neg h2, if_neg h2]
      have hl := lst_of (by simpa using h1) (by simpa using h2)
      rw [dup_many hl, rsA_st hl 15 0 rfl]
end Go.Mob
