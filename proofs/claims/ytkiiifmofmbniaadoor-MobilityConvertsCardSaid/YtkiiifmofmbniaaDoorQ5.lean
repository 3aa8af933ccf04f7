/- The plain law of page blocks: a request and a return, on valid page blocks. -/
import Derived.Test.YtkiiifmofmbniaaDoorQ4
import Derived.Test.YtkiiifmofmbniaaDoorM13
namespace Go.Mob
open Go.Can
/-- What a request that is served does. -/
structure Took (p : P) (k : Nat) (q : P) (f : Int) : Prop where
  v : Vd q
  s : q.st = p.st
  n : q.ty.length = p.ty.length
  r : R p f k
  i : ∀ x, In f k x → Cov (F p) x
  c : ∀ x, Cov (F q) x ↔ Cov (F p) x ∧ ¬ In f k x
theorem take_core {q : P} (h : Vd q) {f : Int} {b j k : Nat} (hb : b < 3) (hj : j < 5) (hkj : k ≤ j) (hm : f ∈ q.fr (5 * b + j)) :
    Took q k ⟨q.st, q.ty, split (5 * b) f (j - k) j (upd q.fr (5 * b + j) (del (q.fr (5 * b + j)) f))⟩ f := by
  obtain ⟨d1, d2, d3, d4, d5⟩ := take_del h hb hj hm
  obtain ⟨s1, s2⟩ := split_vd hb (j - k) _ f j (by omega) d1 d2 d3 fun x hx hc => ((d5 x).1 hc).2 hx
  obtain ⟨i1, i2, i3⟩ := ins_open d2.2
  simp only at i1 i2
  have hmo := pw_mono hkj
  have hsub : ∀ x, In f k x → In f j x := fun x hx => ⟨hx.1, by have := hx.2; omega⟩
  refine ⟨s1, rfl, rfl, ⟨by omega, ?_⟩, fun x hx => d4 x (hsub x hx), fun x => ?_⟩
  · unfold insB
    rw [decide_eq_true_eq]
    refine ⟨i1, i2, ?_⟩
    rcases pw_cases (show k ≤ 4 by omega) with ⟨k1, k2⟩ | ⟨k1, k2⟩ | ⟨k1, k2⟩ | ⟨k1, k2⟩ | ⟨k1, k2⟩ <;>
      rcases pw_cases (show j ≤ 4 by omega) with ⟨j1, j2⟩ | ⟨j1, j2⟩ | ⟨j1, j2⟩ | ⟨j1, j2⟩ | ⟨j1, j2⟩ <;>
      (rw [j2] at i3; rw [k2]; omega)
  · rw [s2, d5, show j - (j - k) = k by omega]
    constructor
    · rintro (⟨h1, h2⟩ | ⟨h1, h2⟩)
      · exact ⟨h1, fun h3 => h2 (hsub x h3)⟩
      · exact ⟨d4 x h1, h2⟩
    · rintro ⟨h1, h2⟩
      by_cases h3 : In f j x
      · exact .inr ⟨h3, h2⟩
      · exact .inl ⟨h1, h3⟩
theorem alloc_ok {p : P} (h : Vd p) {k t : Nat} (hk : k < 5) (ht : t < 3) {u : Int} {j : Nat} (hf : find p k (t : Int) = some (u, j)) :
    ∃ q f, allocP p (k : Int) (t : Int) = (q, f, 0) ∧ Took p k q f ∧ (u = (t : Int) → q.ty = p.ty ∧ tyAt p f = (t : Int)) := by
  obtain ⟨a, ha, rfl, hkj, hj5, hne⟩ := find_spec ht hk hf
  have e0 : allocP p (k : Int) (t : Int) = ((takeP p a j k t).1, (takeP p a j k t).2, 0) := by
    unfold allocP
    rw [if_neg (by rw [chk_of h]; decide), if_neg (by omega), if_neg (by unfold kindB; simp; omega), Int.toNat_natCast, hf]
  obtain ⟨f, hfe⟩ : ∃ f, (p.fr (5 * a + j)).getD 0 0 = f := ⟨_, rfl⟩
  have hmem : f ∈ p.fr (5 * a + j) := by
    rw [List.getD_eq_getElem?_getD, List.getElem?_eq_getElem (by omega)] at hfe
    rw [← hfe]
    exact List.getElem_mem _
  obtain ⟨g1, g2⟩ := h.l.ins (5 * a + j) (by omega) f hmem
  rw [show (5 * a + j) % 5 = j by omega] at g1
  rw [show (5 * a + j) / 5 = a by omega] at g2
  have e1 : (takeP p a j k t).2 = f := by unfold takeP base; rw [Int.toNat_natCast]; exact hfe
  by_cases hcv : (a : Int) ≠ (t : Int) ∧ 3 ≤ j
  · obtain ⟨c1, c2, c3⟩ := conv_mem h ha ht hj5 hmem (ins_zero g1) (t := t)
    have e2 : (takeP p a j k t).1 = ⟨(conv p f t).st, (conv p f t).ty, split (5 * t) f (j - k) j (upd (conv p f t).fr (5 * t + j) (del ((conv p f t).fr (5 * t + j)) f))⟩ := by
      unfold takeP base
      rw [Int.toNat_natCast, hfe]
      simp only [if_pos hcv, Int.toNat_natCast]
    have T := take_core c1 ht hj5 hkj c3
    have hst : (conv p f (t : Int)).st = p.st := rfl
    have hty : (conv p f (t : Int)).ty.length = p.ty.length := by unfold conv; rw [List.length_set]
    have hR : R (conv p f (t : Int)) = R p := by funext y i; unfold R insB; rw [hst, hty]
    refine ⟨_, f, by rw [e0, e1, e2], ⟨T.v, T.s.trans hst, T.n.trans hty, by rw [← hR]; exact T.r, fun x hx => by rw [← c2]; exact T.i x hx, fun x => by rw [T.c, c2]⟩, fun e => absurd e hcv.1⟩
  · have e2 : (takeP p a j k t).1 = ⟨p.st, p.ty, split (5 * a) f (j - k) j (upd p.fr (5 * a + j) (del (p.fr (5 * a + j)) f))⟩ := by
      unfold takeP base
      rw [Int.toNat_natCast, hfe]
      simp only [if_neg hcv]
    have T := take_core h ha hj5 hkj hmem
    exact ⟨_, f, by rw [e0, e1, e2], T, fun e => ⟨rfl, by rw [g2]; exact e⟩⟩
theorem alloc_none {p : P} (h : Vd p) {k t : Nat} (hk : k < 5) (ht : t < 3) (hf : find p k (t : Int) = none) :
    allocP p (k : Int) (t : Int) = (zero, 0, 16) ∧ ∀ g, R p g k → ¬ ∀ x, In g k x → Cov (F p) x := by
  refine ⟨?_, fun g hg hc => ?_⟩
  · unfold allocP
    rw [if_neg (by rw [chk_of h]; decide), if_neg (by omega), if_neg (by unfold kindB; simp; omega), Int.toNat_natCast, hf]
  · obtain ⟨f, i, ⟨h1, a, ha, hm⟩, h2, _⟩ := h.v.full (regR h.l.rng) k g hg hc
    have := find_none ht hk hf a i ha h2 (by omega)
    rw [List.length_eq_zero_iff.1 this] at hm
    cases hm
theorem own_some {fr : Nat → List Int} {b : Nat} : ∀ {n k j : Nat}, k ≤ j → j < k + n → (fr (b + j)).length ≠ 0 → ∃ i, own fr b n k = some i
  | 0, k, j, h1, h2, _ => by omega
  | n + 1, k, j, h1, h2, h3 => by
    unfold own
    by_cases e : (fr (b + k)).length ≠ 0
    · exact ⟨k, if_pos e⟩
    · rw [if_neg e]
      exact own_some (j := j) (by by_cases e2 : j = k; subst e2; exact absurd h3 e; omega) (by omega) h3
/-- If a block of the type itself is free, it serves. -/
theorem find_own {p : P} {k t j : Nat} (hkj : k ≤ j) (hj : j < 5) (h : (p.fr (5 * t + j)).length ≠ 0) : ∃ i, find p k (t : Int) = some ((t : Int), i) := by
  obtain ⟨i, hi⟩ := own_some (fr := p.fr) (b := 5 * t) (n := 5 - k) (k := k) hkj (by omega) h
  exact ⟨i, by unfold find base; rw [Int.toNat_natCast, hi]⟩
theorem free_ok {p : P} (h : Vd p) {f : Int} {k : Nat} (hr : R p f k) (hn : ∀ x, In f k x → ¬ Cov (F p) x) : freeP p f (k : Int) = (putP p f k, 0) := by
  have hk := hr.1
  obtain ⟨z1, z2, z3⟩ := ins_lt h.l.rng (show k < 5 by omega) hr.2
  obtain ⟨i1, i2, _⟩ := ins_open hr.2
  unfold freeP
  rw [if_neg (by rw [chk_of h]; decide), Int.toNat_natCast, if_neg (by rw [hr.2]; rintro (h | h | h); omega; omega; cases h), if_neg]
  rw [anyFree_no h fun i hi => ?_]
  · decide
  · have hp : ((2 ^ k : Nat) : Int) = pw k := rfl
    have hx : In f k (f + (i : Int)) := ⟨by omega, by omega⟩
    refine ⟨?_, hn _ hx⟩
    unfold insB
    rw [decide_eq_true_eq, pw_zero]
    exact ⟨by omega, by omega, by omega⟩
end Go.Mob
