/- The plain law of page blocks: what the last three statements say. -/
import Derived.Test.YtkiiifmofmbniaaDoorQ6
namespace Go.Mob
open Go.Can
theorem R_zero {p : P} {f : Int} {k : Nat} (h : R p f k) : insB p f 0 = true := ins_zero h.2
theorem type_ok {p : P} (h : Vd p) {f : Int} (hf : insB p f 0 = true) : typeP p f = tyAt p f := by
  unfold typeP
  rw [if_pos ⟨chk_of h, hf⟩]
theorem stays {s : P × List Hd} (h : PI s) {k t j : Nat} (hk : k < 5) (ht : t < 3) (hkj : k ≤ j) (hj : j < 5) (hne : (s.1.fr (5 * t + j)).length ≠ 0) :
    ∃ q f, allocP s.1 (k : Int) (t : Int) = (q, f, 0) ∧ typeP q f = (t : Int) ∧ q.ty = s.1.ty := by
  obtain ⟨i, hi⟩ := find_own hkj hj hne
  obtain ⟨q, f, e, T, ho⟩ := alloc_ok h.v hk ht hi
  obtain ⟨o1, o2⟩ := ho rfl
  refine ⟨q, f, e, ?_, o1⟩
  have hr : R q f k := by rw [R_same T.s T.n]; exact T.r
  rw [type_ok T.v (R_zero hr), ← o2]
  unfold tyAt
  rw [o1, T.s]
/-- A request succeeds exactly if an admissible block of frames that nobody holds is there. -/
theorem serves {s : P × List Hd} (h : PI s) {k t : Nat} (hk : k < 5) (ht : t < 3) :
    ((∃ g, R s.1 g k ∧ ∀ x, In g k x → ∀ b ∈ s.2, ¬ In b.1 b.2 x) ∧ ∃ q f, allocP s.1 (k : Int) (t : Int) = (q, f, 0)) ∨
    ((¬ ∃ g, R s.1 g k ∧ ∀ x, In g k x → ∀ b ∈ s.2, ¬ In b.1 b.2 x) ∧ allocP s.1 (k : Int) (t : Int) = (zero, 0, 16)) := by
  cases hf : find s.1 k (t : Int) with
  | none =>
    obtain ⟨e, hn⟩ := alloc_none h.v hk ht hf
    refine .inr ⟨?_, e⟩
    rintro ⟨g, hg, hx⟩
    refine hn g hg fun x hxx => (h.c x).2 ?_
    obtain ⟨z1, z2, _⟩ := ins_lt h.v.l.rng hk hg.2
    obtain ⟨i1, _, _⟩ := ins_open hg.2
    have hs := h.b0; have hn := h.n
    exact ⟨by have := hxx.1; omega, by have := hxx.2; omega, hx x hxx⟩
  | some r =>
    obtain ⟨u, j⟩ := r
    obtain ⟨q, f, e, T, _⟩ := alloc_ok h.v hk ht hf
    exact .inl ⟨⟨f, T.r, fun x hx => ((h.c x).1 (T.i x hx)).2.2⟩, q, f, e⟩
/-- Everything is given back. -/
def backP (p : P) : List Hd → Option P
  | [] => some p
  | h :: r => if (freeP p h.1 (h.2 : Int)).2 ≠ 0 then none else backP (freeP p h.1 (h.2 : Int)).1 r
theorem back_ok : ∀ (l : List Hd) {p : P}, PI (p, l) → ∃ q, backP p l = some q ∧ PI (q, [])
  | [], p, h => ⟨p, rfl, h⟩
  | b :: r, p, h => by
    obtain ⟨e, hP⟩ := h.give (i := 0) (b := b) rfl
    obtain ⟨q, g1, g2⟩ := back_ok r (p := putP p b.1 b.2) hP
    refine ⟨q, ?_, g2⟩
    unfold backP
    rw [show freeP p b.1 (b.2 : Int) = (putP p b.1 b.2, 0) from e, if_neg (by simp)]
    exact g1
theorem all_F {q : P} (h : PI (q, [])) : ∀ f k, F q f k ↔ k = 4 ∧ (f = 32 ∨ f = 48 ∨ f = 64) := by
  have hs : q.st = 32 := h.b0
  have hn : q.ty.length = 3 := h.n
  have hc : ∀ x, Cov (F q) x ↔ 32 ≤ x ∧ x < 80 := fun x => by
    have := h.c x
    simpa using this
  have hR : ∀ g : Int, g = 32 ∨ g = 48 ∨ g = 64 → R q g 4 := fun g hg => ⟨by omega, by unfold insB; rw [decide_eq_true_eq, hs, hn, show pw 4 = 16 from rfl]; omega⟩
  have h4 : ∀ g : Int, g = 32 ∨ g = 48 ∨ g = 64 → F q g 4 := fun g hg => by
    obtain ⟨f, k, f1, f2, f3, f4⟩ := h.v.v.full (regR h.v.l.rng) 4 g (hR g hg) fun x hx => (hc x).2 (by
      have h1 := hx.1; have h2 := hx.2
      rw [show pw 4 = 16 from rfl] at h2
      omega)
    obtain rfl : k = 4 := by have := f1.1; omega
    obtain rfl : f = g := by omega
    exact f1
  intro f k
  constructor
  · intro hf
    obtain ⟨h1, h2⟩ := (hc f).1 ⟨f, k, hf, in_self f k⟩
    obtain ⟨g, hg, hin⟩ : ∃ g : Int, (g = 32 ∨ g = 48 ∨ g = 64) ∧ In g 4 f := by
      unfold In
      rw [show pw 4 = 16 from rfl]
      rcases (show f < 48 ∨ (48 ≤ f ∧ f < 64) ∨ 64 ≤ f by omega) with h3 | h3 | h3
      · exact ⟨32, by omega, by omega⟩
      · exact ⟨48, by omega, by omega⟩
      · exact ⟨64, by omega, by omega⟩
    obtain ⟨e1, e2⟩ := h.v.v.dis hf (h4 g hg) (in_self f k) hin
    exact ⟨e2, by omega⟩
  · rintro ⟨rfl, hf⟩
    exact h4 f hf
theorem all_lists {q : P} (h : PI (q, [])) {t : Nat} (ht : t < 3) : (∀ k, k < 4 → q.fr (5 * t + k) = []) ∧ q.fr (5 * t + 4) = [32, 48, 64].filter (fun f => decide (tyAt q f = (t : Int))) := by
  have hF := all_F h
  refine ⟨fun k hk => ?_, ?_⟩
  · rw [List.eq_nil_iff_forall_not_mem]
    intro f hf
    have := ((hF f k).1 ⟨by omega, t, ht, hf⟩).1
    omega
  · refine asc_ext (h.v.l.asc _ (by omega)) ((show List.Pairwise (· < ·) [(32 : Int), 48, 64] by decide).sublist List.filter_sublist) fun f => ?_
    rw [List.mem_filter]
    constructor
    · intro hf
      have h1 := ((hF f 4).1 ⟨by omega, t, ht, hf⟩).2
      have h2 := (h.v.l.ins (5 * t + 4) (by omega) f hf).2
      rw [show (5 * t + 4) / 5 = t by omega] at h2
      exact ⟨by simp; omega, by rw [decide_eq_true_eq]; exact h2⟩
    · rintro ⟨h1, h2⟩
      have h1 : f = 32 ∨ f = 48 ∨ f = 64 := by simpa using h1
      have h2 := of_decide_eq_true h2
      obtain ⟨_, u, hu, h3, h4⟩ := F_at (p := q) h.v.l ((hF f 4).2 ⟨rfl, h1⟩)
      have : u = t := by omega
      rwa [this] at h4
theorem all_types {q : P} (h : PI (q, [])) (f : Int) (hf : f = 32 ∨ f = 48 ∨ f = 64) : tyAt q f = 0 ∨ tyAt q f = 1 ∨ tyAt q f = 2 := by
  obtain ⟨_, u, hu, h3, _⟩ := F_at (p := q) h.v.l ((all_F h f 4).2 ⟨rfl, hf⟩)
  omega
theorem all_sum {q : P} (h : PI (q, [])) : (q.fr 4).length + (q.fr 9).length + (q.fr 14).length = 3 := by
  have e0 := (all_lists h (t := 0) (by decide)).2
  have e1 := (all_lists h (t := 1) (by decide)).2
  have e2 := (all_lists h (t := 2) (by decide)).2
  simp only [Nat.mul_zero, Nat.zero_add, show 5 * 1 + 4 = 9 from rfl, show 5 * 2 + 4 = 14 from rfl] at e0 e1 e2
  rw [e0, e1, e2]
  rcases all_types h 32 (by omega) with a | a | a <;> rcases all_types h 48 (by omega) with b | b | b <;> rcases all_types h 64 (by omega) with c | c | c <;> simp [a, b, c]
theorem all_count {q : P} (h : PI (q, [])) : countP q 0 + countP q 1 + countP q 2 = 48 := by
  have hs := all_sum h
  have key : ∀ t : Nat, t < 3 → countP q (t : Int) = 16 * ((q.fr (5 * t + 4)).length : Int) := fun t ht => by
    have h0 := (all_lists h ht).1
    unfold countP
    rw [if_pos ⟨chk_of h.v, by unfold kindB; simp; omega⟩]
    unfold base
    rw [Int.toNat_natCast]
    simp only [cntN, h0 0 (by decide), h0 1 (by decide), h0 2 (by decide), h0 3 (by decide), List.length_nil, Nat.zero_add, show 3 + 1 = 4 from rfl, show 2 + 1 = 3 from rfl, show 1 + 1 = 2 from rfl, show pw 4 = 16 from rfl]
    omega
  have k0 := key 0 (by decide)
  have k1 := key 1 (by decide)
  have k2 := key 2 (by decide)
  simp only [Nat.mul_zero, Nat.zero_add, show 5 * 1 + 4 = 9 from rfl, show 5 * 2 + 4 = 14 from rfl] at k0 k1 k2
  have j0 : countP q 0 = 16 * ((q.fr 4).length : Int) := k0
  have j1 : countP q 1 = 16 * ((q.fr 9).length : Int) := k1
  have j2 : countP q 2 = 16 * ((q.fr 14).length : Int) := k2
  omega
end Go.Mob
