/- The plain law of page blocks: mixed page blocks. -/
import Derived.Test.YtkiiifmofmbniaaDoorN1
namespace Go.Mob
open Go.Can
/-- Whether an entry of a page block's sixteen is held for another type. -/
def oth (ty : List Int) (b : Nat) (t : Int) : Bool := decide (0 ≤ t ∧ t ≠ ty.getD b 0)
def mix1 (ty l : List Int) (b : Nat) : Bool := ((l.drop (16 * b)).take 16).any (oth ty b)
def mixR (ty l : List Int) : Nat → Nat → Nat
  | 0, _ => 0
  | n + 1, b => (if mix1 ty l b = true then 1 else 0) + mixR ty l n (b + 1)
/-- From entry i on, page block i / 16 not counted yet (or counted). -/
theorem mixN_skip {ty : List Int} : ∀ {l : List Int} {i : Nat} {m : Nat}, m ≤ l.length → (∀ j, j < m → (i + j) / 16 = i / 16) → mixN ty l i ((i / 16 : Nat) : Int) = mixN ty (l.drop m) (i + m) ((i / 16 : Nat) : Int)
  | l, i, 0, _, _ => by simp
  | [], i, m + 1, h, _ => by simp at h
  | t :: r, i, m + 1, h, hj => by
    have e1 : mixN ty (t :: r) i ((i / 16 : Nat) : Int) = mixN ty r (i + 1) ((i / 16 : Nat) : Int) := by
      show (if _ then _ else _) = _
      rw [if_neg (by rintro ⟨_, _, h⟩; exact h rfl)]
    rw [e1, List.drop_succ_cons]
    by_cases hm : m = 0
    · subst hm; simp
    · have h1 := hj 1 (by omega)
      have := mixN_skip (ty := ty) (l := r) (i := i + 1) (m := m) (by simpa using h) fun j hjm => by
        have := hj (j + 1) (by omega)
        rw [show i + 1 + j = i + (j + 1) by omega, this, h1]
      rw [h1] at this
      rw [this]
      congr 1
      omega
theorem mixN_row {ty : List Int} {b : Nat} {last : Int} (hlast : last < (b : Int)) : ∀ (m : Nat) {l : List Int}, m ≤ 16 → m ≤ l.length → (∀ t ∈ l.take m, -1 ≤ t) →
    ∃ last', mixN ty l (16 * b + (16 - m)) last = (if (l.take m).any (oth ty b) = true then 1 else 0) + mixN ty (l.drop m) (16 * (b + 1)) last' ∧ last' < ((b + 1 : Nat) : Int)
  | 0, l, _, _, _ => ⟨last, by simp [show 16 * b + 16 = 16 * (b + 1) by omega], by omega⟩
  | m + 1, [], _, h, _ => by simp at h
  | m + 1, t :: r, hm, hl, hr => by
    have hd : (16 * b + (16 - (m + 1))) / 16 = b := by omega
    have e0 : mixN ty (t :: r) (16 * b + (16 - (m + 1))) last = if t ≠ -1 ∧ t ≠ ty.getD b 0 ∧ (b : Int) ≠ last then mixN ty r (16 * b + (16 - (m + 1)) + 1) (b : Int) + 1 else mixN ty r (16 * b + (16 - (m + 1)) + 1) last := by
      show (if _ then _ else _) = _
      rw [hd]
    have e2 : 16 * b + (16 - (m + 1)) + 1 = 16 * b + (16 - m) := by omega
    have ht : -1 ≤ t := hr t (by simp)
    rw [List.take_succ_cons, List.any_cons, List.drop_succ_cons]
    by_cases hc : 0 ≤ t ∧ t ≠ ty.getD b 0
    · have ho : oth ty b t = true := decide_eq_true hc
      rw [e0, if_pos ⟨by omega, hc.2, by omega⟩, ho, e2]
      have hd2 : (16 * b + (16 - m)) / 16 = b ∨ m = 0 := by omega
      refine ⟨(b : Int), ?_, by omega⟩
      rcases hd2 with h2 | rfl
      · have := mixN_skip (ty := ty) (l := r) (i := 16 * b + (16 - m)) (m := m) (by simpa using hl) fun j hj => by omega
        rw [h2] at this
        rw [this, show 16 * b + (16 - m) + m = 16 * (b + 1) by omega]
        simp; omega
      · simp [show 16 * b + 16 = 16 * (b + 1) by omega]; omega
    · have ho : oth ty b t = false := decide_eq_false hc
      have hn : ¬ (t ≠ -1 ∧ t ≠ ty.getD b 0 ∧ (b : Int) ≠ last) := by
        rintro ⟨h1, h2, _⟩
        exact hc ⟨by omega, h2⟩
      rw [e0, if_neg hn, ho, e2, Bool.false_or]
      exact mixN_row hlast m (by omega) (by simpa using hl) fun u hu => hr u (by rw [List.take_succ_cons]; exact List.mem_cons_of_mem _ hu)
theorem mixN_ref {ty : List Int} : ∀ (n b : Nat) (l : List Int) (last : Int), last < (b : Int) → l.length = 16 * (b + n) → (∀ t ∈ l, -1 ≤ t) → mixN ty (l.drop (16 * b)) (16 * b) last = mixR ty l n b
  | 0, b, l, last, _, hl, _ => by
    rw [List.drop_eq_nil_of_le (by omega)]; rfl
  | n + 1, b, l, last, hlast, hl, hr => by
    obtain ⟨last', h1, h2⟩ := mixN_row (ty := ty) hlast 16 (l := l.drop (16 * b)) (Nat.le_refl _) (by rw [List.length_drop]; omega) fun t ht => hr t (List.mem_of_mem_drop (List.mem_of_mem_take ht))
    rw [show 16 * b + (16 - 16) = 16 * b by omega] at h1
    rw [h1, List.drop_drop, show 16 * b + 16 = 16 * (b + 1) by omega, mixN_ref n (b + 1) l last' h2 (by omega) hr]
    rfl
/-- What the document says. -/
theorem mixed_ref (p : P) (l : List Int) : mixedP p l = if chk p ≠ 0 then (0, chk p) else if l.length ≠ 16 * p.ty.length then (0, 3) else if l.any (fun t => decide (t < -1) || decide (3 ≤ t)) = true then (0, 1) else (((mixR p.ty l p.ty.length 0 : Nat) : Int), 0) := by
  unfold mixedP
  have e : (fun t : Int => decide (t ≠ -1) && !kindB t) = fun t => decide (t < -1) || decide (3 ≤ t) := by
    funext t
    unfold kindB
    rw [Bool.eq_iff_iff]
    simp
    omega
  rw [e]
  by_cases h1 : chk p ≠ 0
  · rw [if_pos h1, if_pos h1]
  · rw [if_neg h1, if_neg h1]
    by_cases h2 : l.length ≠ 16 * p.ty.length
    · rw [if_pos h2, if_pos h2]
    · rw [if_neg h2, if_neg h2]
      by_cases h3 : l.any (fun t => decide (t < -1) || decide (3 ≤ t)) = true
      · rw [if_pos h3, if_pos h3]
      · rw [if_neg h3, if_neg h3]
        have hall : ∀ t ∈ l, -1 ≤ t := fun t ht => by
          rw [Bool.not_eq_true, List.any_eq_false] at h3
          have := h3 t ht
          simp at this
          omega
        have := mixN_ref (ty := p.ty) p.ty.length 0 l (-1) (by omega) (by omega) hall
        rw [Nat.mul_zero, List.drop_zero] at this
        rw [this]
end Go.Mob
