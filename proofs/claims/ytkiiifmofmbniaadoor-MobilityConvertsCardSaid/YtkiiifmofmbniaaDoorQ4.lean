/- The plain law of page blocks: what is valid passes Check. -/
import Derived.Test.YtkiiifmofmbniaaDoorQ3
namespace Go.Mob
open Go.Can
theorem le1_zero {p : P} {i : Nat} : ∀ {l : List Int} {b : Bool} {q : Int}, (∀ f ∈ l, bad p i f = false) → List.Pairwise (· < ·) l → (b = true → ∀ f ∈ l, q < f) → le1 p i b q l = 0
  | [], _, _, _, _, _ => rfl
  | f :: r, b, q, h1, h2, h3 => by
    rw [List.pairwise_cons] at h2
    unfold le1
    rw [if_neg (by rw [h1 f (by simp)]; decide), if_neg (fun h => by have := h3 h.1 f (by simp); omega)]
    exact le1_zero (fun x hx => h1 x (by simp [hx])) h2.2 fun _ x hx => h2.1 x hx
theorem leA_zero {p : P} (h : Lst p) : ∀ (n i : Nat), i + n = 15 → leA p i = 0
  | 0, i, hi => by obtain rfl : i = 15 := by omega
                   exact leA_end p
  | n + 1, i, hi => by
    have h1 : le1 p i false 0 (p.fr i) = 0 := le1_zero (fun f hf => by
      obtain ⟨g1, g2⟩ := h.ins i (by omega) f hf
      unfold bad
      rw [g1, g2]
      simp) (h.asc i (by omega)) (fun h => by cases h)
    rw [leA_step (by omega), if_pos h1]
    exact leA_zero h n (i + 1) (by omega)
theorem cov_nodup : ∀ {n : Nat} {f : Int}, (cov f n).Nodup
  | 0, f => by simp [cov]
  | n + 1, f => by
    rw [cov, List.nodup_cons]
    exact ⟨fun h => by have := (mem_cov.1 h).1; omega, cov_nodup⟩
theorem covL_nodup {k : Nat} : ∀ {l : List Int}, l.Nodup → (∀ f g x, f ∈ l → g ∈ l → In f k x → In g k x → f = g) → (covL k l).Nodup
  | [], _, _ => by simp [covL]
  | y :: r, hn, h => by
    rw [List.nodup_cons] at hn
    have e : covL k (y :: r) = cov y (2 ^ k) ++ covL k r := by simp [covL]
    rw [e, List.nodup_append]
    refine ⟨cov_nodup, covL_nodup hn.2 fun f g x hf hg => h f g x (by simp [hf]) (by simp [hg]), fun a ha b hb hab => ?_⟩
    subst hab
    obtain ⟨g, g1, g2⟩ := mem_covL.1 hb
    have := h y g a (by simp) (by simp [g1]) (mem_cov2.1 ha) g2
    subst this
    exact hn.1 g1
theorem asc_nodup {l : List Int} (h : List.Pairwise (· < ·) l) : l.Nodup := h.imp fun h => by omega
theorem F_of {p : P} {i : Nat} (hi : i < 15) {f : Int} (hf : f ∈ p.fr i) : F p f (i % 5) :=
  ⟨by omega, i / 5, by omega, by rw [show 5 * (i / 5) + i % 5 = i by omega]; exact hf⟩
theorem covA_nodup {p : P} (h : Vd p) : ∀ (n i : Nat), i + n = 15 → (covA p i).Nodup
  | 0, i, hi => by
    obtain rfl : i = 15 := by omega
    rw [covA_end]; simp
  | n + 1, i, hi => by
    rw [covA_step (by omega), List.nodup_append]
    refine ⟨covL_nodup (asc_nodup (h.l.asc i (by omega))) fun f g x hf hg hx hy => (h.v.dis (F_of (by omega) hf) (F_of (by omega) hg) hx hy).1, covA_nodup h n (i + 1) (by omega), fun a ha b hb hab => ?_⟩
    subst hab
    obtain ⟨f, f1, f2⟩ := mem_covL.1 ha
    obtain ⟨j, j1, j2, g, g1, g2⟩ := (mem_covA n (i + 1) (by omega)).1 hb
    obtain ⟨e1, e2⟩ := h.v.dis (F_of (by omega) f1) (F_of j2 g1) f2 g2
    subst e1
    have t1 := (h.l.ins i (by omega) f f1).2
    have t2 := (h.l.ins j j2 f g1).2
    omega
theorem chk_of {p : P} (h : Vd p) : chk p = 0 := by
  have hs : stA p 0 = false := (stA_all (p := p) 15 0 rfl).2 fun j _ hj => by
    unfold st1
    by_cases hk : j % 5 < 4
    · rw [decide_eq_true hk, Bool.true_and, List.any_eq_false]
      intro f hf hb
      have hb : bud (j % 5) f ∈ p.fr j := by simpa using hb
      obtain ⟨g1, g2⟩ := h.l.ins j hj f hf
      obtain ⟨b1, b2⟩ := h.l.ins j hj _ hb
      have r1 : R p f (j % 5) := ⟨by omega, g1⟩
      have r2 : R p (bud (j % 5) f) (j % 5) := ⟨by omega, b1⟩
      have rp := ins_par h.l.rng hk g1
      rcases bud_spec (ins_open g1).2.2 hk with ⟨_, e2, e3⟩ | ⟨_, e2, e3⟩
      · rw [e3] at rp
        exact h.v.nob ⟨by omega, rp⟩ (F_of hj hf) (by rw [← e2]; exact F_of hj hb)
      · rw [e3] at rp
        rw [e2] at hb
        exact h.v.nob ⟨by omega, rp⟩ (F_of hj hb) (by rw [show f - pw (j % 5) + pw (j % 5) = f by omega]; exact F_of hj hf)
    · rw [decide_eq_false hk]; rfl
  rw [chk_eq, if_neg (by rw [h.l.rng]; decide), if_neg (by rw [leA_zero h.l 15 0 rfl]; decide), if_neg (by rw [dup_nodup.2 (covA_nodup h 15 0 rfl)]; decide), if_neg (by rw [hs]; decide)]
/-! Is a frame free? -/
theorem freeN_iff {p : P} {x : Int} : ∀ {n k : Nat}, freeN p x n k = true ↔ ∃ j, k ≤ j ∧ j < k + n ∧ x - x % pw j ∈ p.fr (base (tyAt p x) + j)
  | 0, k => by
    constructor
    · intro h; cases h
    · rintro ⟨j, h1, h2, _⟩; omega
  | n + 1, k => by
    unfold freeN
    rw [Bool.or_eq_true, freeN_iff (n := n) (k := k + 1)]
    constructor
    · rintro (h | ⟨j, h1, h2, h3⟩)
      · exact ⟨k, Nat.le_refl _, by omega, by simpa using h⟩
      · exact ⟨j, by omega, by omega, h3⟩
    · rintro ⟨j, h1, h2, h3⟩
      by_cases e : j = k
      · subst e; exact .inl (by simpa using h3)
      · exact .inr ⟨j, by omega, by omega, h3⟩
theorem isFree_iff {p : P} (h : Vd p) {x : Int} (hx : insB p x 0 = true) : isFree p x = true ↔ Cov (F p) x := by
  obtain ⟨t, ht, hty⟩ := ty_at h.l.rng hx
  unfold isFree
  rw [freeN_iff, hty]
  unfold base
  rw [Int.toNat_natCast]
  constructor
  · rintro ⟨j, _, h2, h3⟩
    refine ⟨x - x % pw j, j, ⟨by omega, t, ht, h3⟩, ?_⟩
    unfold In
    rcases pw_cases (show j ≤ 4 by omega) with ⟨k1, k2⟩ | ⟨k1, k2⟩ | ⟨k1, k2⟩ | ⟨k1, k2⟩ | ⟨k1, k2⟩ <;> (rw [k2]; omega)
  · rintro ⟨f, j, hf, hin⟩
    obtain ⟨hr, u, hu, h2, h3⟩ := F_at h.l hf
    have h4 := ty_in h.l.rng hr hin
    have hal := (ins_open hr.2).2.2
    have e : x - x % pw j = f := by
      obtain ⟨a1, a2⟩ := hin
      have := hr.1
      rcases pw_cases hr.1 with ⟨k1, k2⟩ | ⟨k1, k2⟩ | ⟨k1, k2⟩ | ⟨k1, k2⟩ | ⟨k1, k2⟩ <;> (rw [k2] at a2 hal ⊢; omega)
    refine ⟨j, Nat.zero_le _, by have := hr.1; omega, ?_⟩
    rw [e, show t = u by omega]
    exact h3
theorem anyFree_no {p : P} (h : Vd p) : ∀ {n : Nat} {f : Int}, (∀ i : Nat, i < n → insB p (f + (i : Int)) 0 = true ∧ ¬ Cov (F p) (f + (i : Int))) → anyFree p f n = false
  | 0, f, _ => rfl
  | n + 1, f, hh => by
    unfold anyFree
    rw [Bool.or_eq_false_iff]
    obtain ⟨h1, h2⟩ := hh 0 (by omega)
    simp only [Int.natCast_zero, Int.add_zero] at h1 h2
    refine ⟨?_, anyFree_no h fun i hi => ?_⟩
    · cases hc : isFree p f with
      | false => rfl
      | true => exact absurd ((isFree_iff h h1).1 hc) h2
    · have := hh (i + 1) (by omega)
      rwa [show f + ((i + 1 : Nat) : Int) = f + 1 + (i : Int) by omega] at this
end Go.Mob
