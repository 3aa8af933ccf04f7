/- The plain mathematics of page blocks: what a check that finds nothing says. -/
import Derived.Test.YtkiiifmofmbniaaDoorM7
namespace Go.Mob
open Go.Can
theorem take_lt : ∀ {l : List Int} {x : Int}, ∀ y ∈ l.take (pos l x), y < x
  | [], _, y, h => by simp at h
  | z :: r, x, y, h => by
    unfold pos at h
    rw [List.takeWhile_cons] at h
    split at h
    · rename_i hz
      rw [List.length_cons, List.take_succ_cons] at h
      rcases List.mem_cons.1 h with rfl | h
      · simpa using hz
      · exact take_lt (l := r) y h
    · simp at h
theorem drop_ge : ∀ {l : List Int} {x : Int}, List.Pairwise (· < ·) l → ∀ y ∈ l.drop (pos l x), x ≤ y
  | [], _, _, y, h => by simp at h
  | z :: r, x, hp, y, h => by
    rw [List.pairwise_cons] at hp
    unfold pos at h
    rw [List.takeWhile_cons] at h
    split at h
    · rw [List.length_cons, List.drop_succ_cons] at h
      exact drop_ge (l := r) hp.2 y h
    · rename_i hz
      have hz' : x ≤ z := by simpa using hz
      rw [List.length_nil, List.drop_zero] at h
      rcases List.mem_cons.1 h with rfl | h
      · exact hz'
      · have := hp.1 y h; omega
theorem mem_ins {l : List Int} {x y : Int} : y ∈ ins l x ↔ y = x ∨ y ∈ l := by
  unfold ins
  have e : y ∈ l ↔ y ∈ l.take (pos l x) ∨ y ∈ l.drop (pos l x) := by
    rw [← List.mem_append, List.take_append_drop]
  rw [e]
  simp only [List.mem_append, List.mem_singleton]
  constructor
  · rintro ((h | h) | h)
    · exact .inr (.inl h)
    · exact .inl h
    · exact .inr (.inr h)
  · rintro (h | h | h)
    · exact .inl (.inr h)
    · exact .inl (.inl h)
    · exact .inr h
theorem ins_asc {l : List Int} {x : Int} (h : List.Pairwise (· < ·) l) (hx : x ∉ l) : List.Pairwise (· < ·) (ins l x) := by
  unfold ins
  have hd : ∀ y ∈ l.drop (pos l x), x < y := fun y hy => by
    have := drop_ge h y hy
    rcases Int.lt_or_eq_of_le this with h1 | h1
    · exact h1
    · exact absurd (h1 ▸ List.mem_of_mem_drop hy) hx
  rw [List.pairwise_append, List.pairwise_append]
  refine ⟨⟨h.sublist (List.take_sublist _ _), by simp, fun a ha b hb => ?_⟩, h.sublist (List.drop_sublist _ _), fun a ha b hb => ?_⟩
  · obtain rfl := List.mem_singleton.1 hb
    exact take_lt a ha
  · rcases List.mem_append.1 ha with ha | ha
    · have := take_lt a ha; have := hd b hb; omega
    · obtain rfl := List.mem_singleton.1 ha
      exact hd b hb
theorem mem_del {l : List Int} {x y : Int} (h : List.Pairwise (· < ·) l) (hx : l.contains x = true) : y ∈ del l x ↔ y ∈ l ∧ y ≠ x := by
  obtain ⟨p1, p2⟩ := pos_lt h hx
  have e : l = l.take (pos l x) ++ x :: l.drop (pos l x + 1) := by
    have hd : l.drop (pos l x) = x :: l.drop (pos l x + 1) := by
      rw [List.drop_eq_getElem_cons p1]
      rw [List.getElem?_eq_getElem p1] at p2
      rw [Option.some.inj p2]
    rw [← hd, List.take_append_drop]
  have hdel : del l x = l.take (pos l x) ++ l.drop (pos l x + 1) := by unfold del; rw [List.eraseIdx_eq_take_drop_succ]
  have hgt : ∀ z ∈ l.drop (pos l x + 1), x < z := by
    intro z hz
    have h2 := h
    rw [e, List.pairwise_append, List.pairwise_cons] at h2
    exact h2.2.1.1 z hz
  rw [hdel, List.mem_append]
  constructor
  · rintro (h1 | h1)
    · exact ⟨List.mem_of_mem_take h1, by have := take_lt y h1; omega⟩
    · exact ⟨List.mem_of_mem_drop h1, by have := hgt y h1; omega⟩
  · rintro ⟨h1, h2⟩
    rw [e] at h1
    rcases List.mem_append.1 h1 with h3 | h3
    · exact .inl h3
    · rcases List.mem_cons.1 h3 with h4 | h4
      · exact absurd h4 h2
      · exact .inr h4
/-- The admissible blocks, and the free ones. -/
def R (p : P) (f : Int) (k : Nat) : Prop := k ≤ 4 ∧ insB p f k = true
def F (p : P) (f : Int) (k : Nat) : Prop := k ≤ 4 ∧ ∃ t : Nat, t < 3 ∧ f ∈ p.fr (5 * t + k)
theorem regR {p : P} (h : rngB p = true) : Reg (R p) := by
  obtain ⟨r1, r2, r3, r4, r5, _⟩ := rng_of h
  refine ⟨fun h => h.1, fun h => (ins_open h.2).2.2, fun {f k} h => ?_, fun {f k} h => ?_⟩
  · obtain ⟨h1, h2⟩ := h
    obtain ⟨i1, i2, i3⟩ := ins_open h2
    refine ⟨by omega, ?_⟩
    unfold insB
    rw [pw_succ] at i3
    rw [decide_eq_true_eq]
    rcases pw_cases (show k ≤ 4 by omega) with ⟨k1, k2⟩ | ⟨k1, k2⟩ | ⟨k1, k2⟩ | ⟨k1, k2⟩ | ⟨k1, k2⟩ <;> (rw [k2] at i3 ⊢; omega)
  · obtain ⟨h1, h2⟩ := h
    obtain ⟨i1, i2, i3⟩ := ins_open h2
    refine ⟨by omega, ?_⟩
    unfold insB
    rw [pw_succ] at i3
    rw [decide_eq_true_eq]
    rcases pw_cases (show k ≤ 4 by omega) with ⟨k1, k2⟩ | ⟨k1, k2⟩ | ⟨k1, k2⟩ | ⟨k1, k2⟩ | ⟨k1, k2⟩ <;> (rw [k2] at i3 ⊢; omega)
theorem mem_cov : ∀ {n : Nat} {f x : Int}, x ∈ cov f n ↔ f ≤ x ∧ x < f + n
  | 0, f, x => by
    constructor
    · intro h; simp [cov] at h
    · intro h; omega
  | n + 1, f, x => by
    rw [cov, List.mem_cons, mem_cov (n := n)]
    omega
theorem mem_cov2 {f x : Int} {k : Nat} : x ∈ cov f (2 ^ k) ↔ In f k x := mem_cov
theorem mem_covL {k : Nat} {l : List Int} {x : Int} : x ∈ covL k l ↔ ∃ f ∈ l, In f k x := by
  unfold covL
  rw [List.mem_flatMap]
  exact ⟨fun ⟨f, h1, h2⟩ => ⟨f, h1, mem_cov2.1 h2⟩, fun ⟨f, h1, h2⟩ => ⟨f, h1, mem_cov2.2 h2⟩⟩
theorem mem_covA {p : P} {x : Int} : ∀ (n i : Nat), i + n = 15 → (x ∈ covA p i ↔ ∃ j, i ≤ j ∧ j < 15 ∧ ∃ f ∈ p.fr j, In f (j % 5) x)
  | 0, i, h => by
    obtain rfl : i = 15 := by omega
    rw [covA_end]
    constructor
    · intro h; simp at h
    · rintro ⟨j, h1, h2, _⟩; omega
  | n + 1, i, h => by
    rw [covA_step (by omega), List.mem_append, mem_covL, mem_covA n (i + 1) (by omega)]
    constructor
    · rintro (⟨f, h1, h2⟩ | ⟨j, h1, h2, h3⟩)
      · exact ⟨i, Nat.le_refl _, by omega, f, h1, h2⟩
      · exact ⟨j, by omega, h2, h3⟩
    · rintro ⟨j, h1, h2, f, h3, h4⟩
      by_cases e : j = i
      · subst e; exact .inl ⟨f, h3, h4⟩
      · exact .inr ⟨j, by omega, h2, f, h3, h4⟩
theorem cov_iff {p : P} {x : Int} : x ∈ covA p 0 ↔ Cov (F p) x := by
  rw [mem_covA 15 0 rfl]
  constructor
  · rintro ⟨j, _, h2, f, h3, h4⟩
    exact ⟨f, j % 5, ⟨by omega, j / 5, by omega, by rw [show 5 * (j / 5) + j % 5 = j by omega]; exact h3⟩, h4⟩
  · rintro ⟨f, k, ⟨h1, t, h2, h3⟩, h4⟩
    exact ⟨5 * t + k, Nat.zero_le _, by omega, f, h3, by rw [show (5 * t + k) % 5 = k by omega]; exact h4⟩
theorem dup_nodup : ∀ {l : List Int}, dup l = false ↔ l.Nodup
  | [] => by simp [dup]
  | x :: r => by
    unfold dup
    rw [List.nodup_cons, Bool.or_eq_false_iff, dup_nodup (l := r)]
    simp
theorem nodup_covA {p : P} : ∀ (n i : Nat), i + n = 15 → (covA p i).Nodup → (∀ j, i ≤ j → j < 15 → (covL (j % 5) (p.fr j)).Nodup) ∧ ∀ j j', i ≤ j → j < j' → j' < 15 → ∀ f ∈ p.fr j, ∀ g ∈ p.fr j', ∀ x, In f (j % 5) x → In g (j' % 5) x → False
  | 0, i, h, _ => ⟨fun j h1 h2 => by omega, fun j j' h1 h2 h3 => by omega⟩
  | n + 1, i, h, hn => by
    rw [covA_step (by omega)] at hn
    rw [List.nodup_append] at hn
    obtain ⟨h1, h2, h3⟩ := hn
    obtain ⟨q1, q2⟩ := nodup_covA n (i + 1) (by omega) h2
    refine ⟨fun j g1 g2 => ?_, fun j j' g1 g2 g3 f hf g hg x hx hy => ?_⟩
    · by_cases e : j = i
      · subst e; exact h1
      · exact q1 j (by omega) g2
    · by_cases e : j = i
      · subst e
        exact h3 x (mem_covL.2 ⟨f, hf, hx⟩) x ((mem_covA n (j + 1) (by omega)).2 ⟨j', by omega, g3, g, hg, hy⟩) rfl
      · exact q2 j j' (by omega) g2 g3 f hf g hg x hx hy
theorem nodup_covL {k : Nat} : ∀ {l : List Int}, (covL k l).Nodup → ∀ (i j : Nat) (f g x : Int), i < j → l[i]? = some f → l[j]? = some g → In f k x → In g k x → False
  | [], _, i, j, f, g, x, _, h, _, _, _ => by simp at h
  | y :: r, hn, i, j, f, g, x, hij, hi, hj, hx, hy => by
    have e : covL k (y :: r) = cov y (2 ^ k) ++ covL k r := by simp [covL]
    rw [e, List.nodup_append] at hn
    obtain ⟨_, h2, h3⟩ := hn
    obtain ⟨j', rfl⟩ : ∃ j', j = j' + 1 := ⟨j - 1, by omega⟩
    rw [List.getElem?_cons_succ] at hj
    cases i with
    | zero =>
      simp at hi
      subst hi
      exact h3 x (mem_cov2.2 hx) x (mem_covL.2 ⟨g, List.mem_of_getElem? hj, hy⟩) rfl
    | succ i =>
      rw [List.getElem?_cons_succ] at hi
      exact nodup_covL h2 i j' f g x (by omega) hi hj hx hy
theorem bud_spec {k : Nat} {f : Int} (h : f % pw k = 0) (hk : k < 4) : (f % pw (k + 1) = 0 ∧ bud k f = f + pw k ∧ par f k = f) ∨ (f % pw (k + 1) ≠ 0 ∧ bud k f = f - pw k ∧ par f k = f - pw k) := by
  unfold bud par
  rw [pw_succ]
  rcases pw_cases (show k ≤ 4 by omega) with ⟨k1, k2⟩ | ⟨k1, k2⟩ | ⟨k1, k2⟩ | ⟨k1, k2⟩ | ⟨k1, k2⟩ <;> (rw [k2] at h ⊢; split <;> omega)
theorem stA_all {p : P} : ∀ (n i : Nat), i + n = 15 → (stA p i = false ↔ ∀ j, i ≤ j → j < 15 → st1 (j % 5) (p.fr j) = false)
  | 0, i, h => by
    obtain rfl : i = 15 := by omega
    rw [stA_end]
    exact ⟨fun _ j h1 h2 => by omega, fun _ => rfl⟩
  | n + 1, i, h => by
    rw [stA_step (by omega), Bool.or_eq_false_iff, stA_all n (i + 1) (by omega)]
    constructor
    · rintro ⟨h1, h2⟩ j g1 g2
      by_cases e : j = i
      · subst e; exact h1
      · exact h2 j (by omega) g2
    · intro h1
      exact ⟨h1 i (Nat.le_refl _) (by omega), fun j g1 g2 => h1 j (by omega) g2⟩
theorem F_at {p : P} (h : Lst p) {f : Int} {k : Nat} (hf : F p f k) : R p f k ∧ ∃ t : Nat, t < 3 ∧ tyAt p f = (t : Int) ∧ f ∈ p.fr (5 * t + k) := by
  obtain ⟨h1, t, h2, h3⟩ := hf
  obtain ⟨g1, g2⟩ := h.ins (5 * t + k) (by omega) f h3
  rw [show (5 * t + k) % 5 = k by omega] at g1
  rw [show (5 * t + k) / 5 = t by omega] at g2
  exact ⟨⟨h1, g1⟩, t, h2, g2, h3⟩
/-- A block's frames are of one type. -/
theorem ty_in {p : P} (h : rngB p = true) {f x : Int} {k : Nat} (hr : R p f k) (hx : In f k x) : tyAt p x = tyAt p f := by
  obtain ⟨r1, r2, r3, r4, r5, _⟩ := rng_of h
  obtain ⟨i1, i2, i3⟩ := ins_open hr.2
  obtain ⟨x1, x2⟩ := hx
  unfold tyAt
  have : (x - p.st) / 16 = (f - p.st) / 16 := by
    rcases pw_cases hr.1 with ⟨k1, k2⟩ | ⟨k1, k2⟩ | ⟨k1, k2⟩ | ⟨k1, k2⟩ | ⟨k1, k2⟩ <;> (rw [k2] at i3 x2; omega)
  rw [this]
/-- The lists are valid. -/
structure Vd (p : P) : Prop where
  l : Lst p
  v : Val (R p) (F p)
theorem vd_of {p : P} (h : chk p = 0) : Vd p := by
  rw [chk_eq] at h
  split at h
  · omega
  rename_i hr
  have hr : rngB p = true := by simpa using hr
  split at h
  · rename_i h1; exact absurd h h1
  rename_i h1
  have hl := lst_of hr (by simpa using h1)
  split at h
  · omega
  rename_i h2
  split at h
  · omega
  rename_i h3
  have hd : (covA p 0).Nodup := dup_nodup.1 (by simpa using h2)
  obtain ⟨n1, n2⟩ := nodup_covA 15 0 rfl hd
  have hs := (stA_all (p := p) 15 0 rfl).1 (by simpa using h3)
  refine ⟨hl, fun hf => (F_at hl hf).1, fun {f k g j x} hf hg hx hy => ?_, fun {f k} hr2 h4 h5 => ?_⟩
  · obtain ⟨a1, t, a2, a3⟩ := hf
    obtain ⟨b1, u, b2, b3⟩ := hg
    rcases Nat.lt_trichotomy (5 * t + k) (5 * u + j) with c | c | c
    · exact (n2 (5 * t + k) (5 * u + j) (Nat.zero_le _) c (by omega) f a3 g b3 x (by rw [show (5 * t + k) % 5 = k by omega]; exact hx) (by rw [show (5 * u + j) % 5 = j by omega]; exact hy)).elim
    · have hkj : k = j := by omega
      have htu : t = u := by omega
      subst hkj htu
      refine ⟨?_, rfl⟩
      have hn := n1 (5 * t + k) (Nat.zero_le _) (by omega)
      rw [show (5 * t + k) % 5 = k by omega] at hn
      obtain ⟨i1, e1⟩ := List.getElem?_of_mem a3
      obtain ⟨i2, e2⟩ := List.getElem?_of_mem b3
      rcases Nat.lt_trichotomy i1 i2 with d | d | d
      · exact (nodup_covL hn i1 i2 f g x d e1 e2 hx hy).elim
      · subst d; rw [e1] at e2; exact Option.some.inj e2
      · exact (nodup_covL hn i2 i1 g f x d e2 e1 hy hx).elim
    · exact (n2 (5 * u + j) (5 * t + k) (Nat.zero_le _) c (by omega) g b3 f a3 x (by rw [show (5 * u + j) % 5 = j by omega]; exact hy) (by rw [show (5 * t + k) % 5 = k by omega]; exact hx)).elim
  · obtain ⟨r1, t, r2, r3, r4⟩ := F_at hl h4
    obtain ⟨s1, u, s2, s3, s4⟩ := F_at hl h5
    have hk : k < 4 := by have := hr2.1; omega
    have hty := ty_in hr hr2 (x := f + pw k) ⟨by have := pw_pos k; omega, by have := pw_succ k; have := pw_pos k; omega⟩
    obtain rfl : t = u := by omega
    have h6 := hs (5 * t + k) (Nat.zero_le _) (by omega)
    rw [show (5 * t + k) % 5 = k by omega] at h6
    unfold st1 at h6
    rw [decide_eq_true hk, Bool.true_and, List.any_eq_false] at h6
    refine h6 f r4 ?_
    rcases bud_spec (ins_open r1.2).2.2 hk with ⟨_, b2, _⟩ | ⟨b1, _⟩
    · rw [b2]; simpa using s4
    · exact absurd (ins_open hr2.2).2.2 b1
end Go.Mob
