/- The plain law of page blocks: what a request takes, and a conversion. -/
import Derived.Test.YtkiiifmofmbniaaDoorM11
namespace Go.Mob
open Go.Can
theorem own_spec {fr : Nat → List Int} {b : Nat} : ∀ {n k j : Nat}, own fr b n k = some j → k ≤ j ∧ j < k + n ∧ (fr (b + j)).length ≠ 0
  | 0, k, j, h => by simp [own] at h
  | n + 1, k, j, h => by
    unfold own at h
    split at h
    · rename_i h1
      cases h
      exact ⟨Nat.le_refl _, by omega, h1⟩
    · obtain ⟨h1, h2, h3⟩ := own_spec h
      exact ⟨by omega, by omega, h3⟩
theorem own_none {fr : Nat → List Int} {b : Nat} : ∀ {n k : Nat}, own fr b n k = none → ∀ j, k ≤ j → j < k + n → (fr (b + j)).length = 0
  | 0, k, _, j, h1, h2 => by omega
  | n + 1, k, h, j, h1, h2 => by
    unfold own at h
    split at h
    · cases h
    · rename_i h3
      by_cases e : j = k
      · subst e; omega
      · exact own_none h j (by omega) (by omega)
theorem fall_two {t : Nat} (ht : t < 3) : ∃ a b : Nat, a < 3 ∧ b < 3 ∧ a ≠ t ∧ b ≠ t ∧ a ≠ b ∧ (fall (t : Int)).getD 0 0 = (a : Int) ∧ (fall (t : Int)).getD 1 0 = (b : Int) := by
  rcases (show t = 0 ∨ t = 1 ∨ t = 2 by omega) with rfl | rfl | rfl
  · exact ⟨2, 1, by decide, by decide, by decide, by decide, by decide, rfl, rfl⟩
  · exact ⟨2, 0, by decide, by decide, by decide, by decide, by decide, rfl, rfl⟩
  · exact ⟨1, 0, by decide, by decide, by decide, by decide, by decide, rfl, rfl⟩
theorem other_spec {fr : Nat → List Int} {t : Nat} (ht : t < 3) : ∀ {n k : Nat} {u : Int} {j : Nat}, n ≤ k + 1 → other fr (t : Int) n k = some (u, j) → ∃ a : Nat, a < 3 ∧ u = (a : Int) ∧ a ≠ t ∧ j ≤ k ∧ k < j + n ∧ (fr (5 * a + j)).length ≠ 0
  | 0, k, u, j, _, h => by simp [other] at h
  | n + 1, k, u, j, hn, h => by
    obtain ⟨a, b, ha, hb, h1, h2, h3, e1, e2⟩ := fall_two ht
    unfold other at h
    rw [e1, e2] at h
    unfold base at h
    rw [Int.toNat_natCast, Int.toNat_natCast] at h
    split at h
    · rename_i g1
      cases h
      exact ⟨a, ha, rfl, h1, Nat.le_refl _, by omega, g1⟩
    · split at h
      · rename_i g2
        cases h
        exact ⟨b, hb, rfl, h2, Nat.le_refl _, by omega, g2⟩
      · cases k with
        | zero =>
          obtain rfl : n = 0 := by omega
          simp [other] at h
        | succ k =>
          obtain ⟨c, c1, c2, c3, c4, c5, c6⟩ := other_spec ht (n := n) (k := k) (by omega) h
          exact ⟨c, c1, c2, c3, by omega, by omega, c6⟩
theorem other_none {fr : Nat → List Int} {t : Nat} (ht : t < 3) : ∀ {n k : Nat}, n ≤ k + 1 → other fr (t : Int) n k = none → ∀ a j : Nat, a < 3 → a ≠ t → j ≤ k → k < j + n → (fr (5 * a + j)).length = 0
  | 0, k, _, _, a, j, _, _, h1, h2 => by omega
  | n + 1, k, hn, h, c, j, hc, hct, h1, h2 => by
    obtain ⟨a, b, ha, hb, h3, h4, h5, e1, e2⟩ := fall_two ht
    unfold other at h
    rw [e1, e2] at h
    unfold base at h
    rw [Int.toNat_natCast, Int.toNat_natCast] at h
    split at h
    · cases h
    · rename_i g1
      split at h
      · cases h
      · rename_i g2
        by_cases e : j = k
        · subst e
          rcases (show c = a ∨ c = b by omega) with rfl | rfl <;> omega
        · cases k with
          | zero => omega
          | succ k => exact other_none ht (n := n) (k := k) (by omega) h c j hc hct (by omega) (by omega)
theorem find_spec {p : P} {k t : Nat} {u : Int} {j : Nat} (ht : t < 3) (hk : k < 5) (h : find p k (t : Int) = some (u, j)) : ∃ a : Nat, a < 3 ∧ u = (a : Int) ∧ k ≤ j ∧ j < 5 ∧ (p.fr (5 * a + j)).length ≠ 0 := by
  unfold find base at h
  rw [Int.toNat_natCast] at h
  split at h
  · rename_i i hi
    cases h
    obtain ⟨h1, h2, h3⟩ := own_spec hi
    exact ⟨t, ht, rfl, h1, by omega, h3⟩
  · obtain ⟨a, h1, h2, _, h4, h5, h6⟩ := other_spec ht (by omega) h
    exact ⟨a, h1, h2, by omega, by omega, h6⟩
theorem find_none {p : P} {k t : Nat} (ht : t < 3) (hk : k < 5) (h : find p k (t : Int) = none) : ∀ a j : Nat, a < 3 → k ≤ j → j < 5 → (p.fr (5 * a + j)).length = 0 := by
  unfold find base at h
  rw [Int.toNat_natCast] at h
  split at h
  · cases h
  · rename_i hi
    intro a j ha h1 h2
    by_cases e : a = t
    · subst e; exact own_none hi j h1 (by omega)
    · exact other_none ht (by omega) h a j ha e (by omega) (by omega)
theorem pw_mono {i k : Nat} (h : i ≤ k) : pw i ≤ pw k := by
  unfold pw
  have := Nat.pow_le_pow_right (n := 2) (by decide) h
  omega
/-- A block is split: its upper half is put. -/
theorem split_step {st : Int} {ty : List Int} {b : Nat} (hb : b < 3) {fr : Nat → List Int} {f : Int} {k : Nat} (h : Vd ⟨st, ty, fr⟩) (hr : R ⟨st, ty, fr⟩ f (k + 1)) (hty : tyAt ⟨st, ty, fr⟩ f = (b : Int)) (hn : ∀ x, In f (k + 1) x → ¬ Cov (F ⟨st, ty, fr⟩) x) :
    Vd ⟨st, ty, upd fr (5 * b + k) (ins (fr (5 * b + k)) (f + pw k))⟩ ∧ R ⟨st, ty, upd fr (5 * b + k) (ins (fr (5 * b + k)) (f + pw k))⟩ f k ∧ tyAt ⟨st, ty, upd fr (5 * b + k) (ins (fr (5 * b + k)) (f + pw k))⟩ f = (b : Int) ∧
    (∀ x, Cov (F ⟨st, ty, upd fr (5 * b + k) (ins (fr (5 * b + k)) (f + pw k))⟩) x ↔ Cov (F ⟨st, ty, fr⟩) x ∨ (In f (k + 1) x ∧ ¬ In f k x)) := by
  have hk : k < 4 := by have := hr.1; omega
  obtain ⟨i1, i2, i3⟩ := ins_open hr.2
  obtain ⟨z1, z2, z3⟩ := ins_lt h.l.rng (show k + 1 < 5 by omega) hr.2
  have e2 := pw_succ k
  have hp := pw_pos k
  have z2 : f + pw (k + 1) ≤ st + 16 * (ty.length : Int) := z2
  have i1 : st ≤ f := i1
  have hal : f % pw k = 0 ∧ (f + pw k) % pw k = 0 ∧ (f + pw k) % pw (k + 1) ≠ 0 := by
    rw [e2] at i3 ⊢
    rcases pw_cases (show k ≤ 4 by omega) with ⟨k1, k2⟩ | ⟨k1, k2⟩ | ⟨k1, k2⟩ | ⟨k1, k2⟩ | ⟨k1, k2⟩ <;> (rw [k2] at i3 ⊢; omega)
  have hr' : R ⟨st, ty, fr⟩ (f + pw k) k := ⟨by omega, by unfold insB; rw [decide_eq_true_eq]; exact ⟨by show st ≤ _; omega, by show f + pw k < st + 16 * (ty.length : Int); omega, hal.2.1⟩⟩
  have hup : In f (k + 1) (f + pw k) := ⟨by omega, by omega⟩
  have hty' : tyAt ⟨st, ty, fr⟩ (f + pw k) = (b : Int) := by rw [ty_in h.l.rng hr hup]; exact hty
  have hbud : bud k (f + pw k) = f := by unfold bud; rw [if_neg hal.2.2]; omega
  obtain ⟨q1, q2⟩ := h.ins hr' hb hty' (fun x hx => hn x ⟨by have := hx.1; omega, by have := hx.2; omega⟩) fun _ => by
    rw [hbud]
    cases hc : (fr (5 * b + k)).contains f with
    | false => rfl
    | true => exact absurd ⟨f, k, ⟨by omega, b, hb, by simpa using hc⟩, in_self f k⟩ (hn f (in_self f (k + 1)))
  refine ⟨q1, ⟨by omega, ?_⟩, hty, fun x => ?_⟩
  · unfold insB
    rw [decide_eq_true_eq]
    exact ⟨i1, i2, hal.1⟩
  · rw [q2]
    by_cases hc : Cov (F ⟨st, ty, fr⟩) x
    · simp [hc]
    · simp only [hc, false_or]
      unfold In
      omega
theorem split_vd {st : Int} {ty : List Int} {b : Nat} (hb : b < 3) : ∀ (n : Nat) (fr : Nat → List Int) (f : Int) (k : Nat), n ≤ k → Vd ⟨st, ty, fr⟩ → R ⟨st, ty, fr⟩ f k → tyAt ⟨st, ty, fr⟩ f = (b : Int) → (∀ x, In f k x → ¬ Cov (F ⟨st, ty, fr⟩) x) →
    Vd ⟨st, ty, split (5 * b) f n k fr⟩ ∧ ∀ x, Cov (F ⟨st, ty, split (5 * b) f n k fr⟩) x ↔ Cov (F ⟨st, ty, fr⟩) x ∨ (In f k x ∧ ¬ In f (k - n) x)
  | 0, fr, f, k, hk, h, hr, hty, hn => ⟨h, fun x => by show Cov (F ⟨st, ty, fr⟩) x ↔ _; rw [Nat.sub_zero]; exact ⟨.inl, fun h => h.elim id fun h => absurd h.1 h.2⟩⟩
  | n + 1, fr, f, k, hk, h, hr, hty, hn => by
    obtain ⟨k, rfl⟩ : ∃ k', k = k' + 1 := ⟨k - 1, by omega⟩
    obtain ⟨q1, q2, q3, q4⟩ := split_step hb h hr hty hn
    have hp := pw_succ k
    have hp0 := pw_pos k
    obtain ⟨r1, r2⟩ := split_vd hb n _ f k (by omega) q1 q2 q3 fun x hx hc => by
      rcases (q4 x).1 hc with h1 | h1
      · exact hn x ⟨hx.1, by have := hx.2; omega⟩ h1
      · exact h1.2 hx
    refine ⟨r1, fun x => ?_⟩
    show Cov (F ⟨st, ty, split (5 * b) f n k (upd fr (5 * b + k) (ins (fr (5 * b + k)) (f + pw k)))⟩) x ↔ _
    rw [r2, q4, show k + 1 - (n + 1) = k - n by omega]
    have hm := pw_mono (show k - n ≤ k by omega)
    by_cases hc : Cov (F ⟨st, ty, fr⟩) x
    · simp [hc]
    · simp only [hc, false_or]
      unfold In
      omega
/-- A free block is taken out of its list. -/
theorem take_del {q : P} (h : Vd q) {f : Int} {b j : Nat} (hb : b < 3) (hj : j < 5) (hm : f ∈ q.fr (5 * b + j)) :
    Vd ⟨q.st, q.ty, upd q.fr (5 * b + j) (del (q.fr (5 * b + j)) f)⟩ ∧ R ⟨q.st, q.ty, upd q.fr (5 * b + j) (del (q.fr (5 * b + j)) f)⟩ f j ∧ tyAt ⟨q.st, q.ty, upd q.fr (5 * b + j) (del (q.fr (5 * b + j)) f)⟩ f = (b : Int) ∧
    (∀ x, In f j x → Cov (F q) x) ∧ ∀ x, Cov (F ⟨q.st, q.ty, upd q.fr (5 * b + j) (del (q.fr (5 * b + j)) f)⟩) x ↔ Cov (F q) x ∧ ¬ In f j x := by
  have hc : (q.fr (5 * b + j)).contains f = true := by simpa using hm
  have hF := F_del (p := q) h.l hb hj hc
  have hFb : F q f j := ⟨by omega, b, hb, hm⟩
  obtain ⟨g1, g2⟩ := h.l.ins (5 * b + j) (by omega) f hm
  rw [show (5 * b + j) % 5 = j by omega] at g1
  rw [show (5 * b + j) / 5 = b by omega] at g2
  refine ⟨⟨Lst.del h.l (5 * b + j) f, ?_⟩, ⟨by omega, g1⟩, g2, fun x hx => ⟨f, j, hFb, hx⟩, fun x => ?_⟩
  · rw [hF]
    exact h.v.del _ _
  · rw [hF]
    exact h.v.cov_del hFb
/-! A conversion. -/
theorem convN_at {A : Int} {a t : Nat} (hat : a ≠ t) : ∀ (n k : Nat) (fr : Nat → List Int), k + n = 5 →
    (∀ k', k ≤ k' → k' < 5 → convN A (5 * a) (5 * t) n k fr (5 * a + k') = (fr (5 * a + k')).filter (fun f => !inPB A f) ∧ convN A (5 * a) (5 * t) n k fr (5 * t + k') = ((fr (5 * a + k')).filter (inPB A)).foldl ins (fr (5 * t + k'))) ∧
    ∀ i, (∀ k', k ≤ k' → k' < 5 → i ≠ 5 * a + k' ∧ i ≠ 5 * t + k') → convN A (5 * a) (5 * t) n k fr i = fr i
  | 0, k, fr, hk => ⟨fun k' h1 h2 => by omega, fun i _ => rfl⟩
  | n + 1, k, fr, hk => by
    obtain ⟨q1, q2⟩ := convN_at hat n (k + 1) (convK A fr (5 * a + k) (5 * t + k)) (by omega)
    refine ⟨fun k' h1 h2 => ?_, fun i hi => ?_⟩
    · by_cases e : k' = k
      · subst e
        have e1 := q2 (5 * a + k') fun k'' g1 g2 => by omega
        have e2 := q2 (5 * t + k') fun k'' g1 g2 => by omega
        refine ⟨e1.trans ?_, e2.trans ?_⟩
        · unfold convK; rw [upd_self]
        · unfold convK; rw [upd_ne (by omega), upd_self]
      · obtain ⟨e1, e2⟩ := q1 k' (by omega) h2
        have u1 : convK A fr (5 * a + k) (5 * t + k) (5 * a + k') = fr (5 * a + k') := by unfold convK; rw [upd_ne (by omega), upd_ne (by omega)]
        have u2 : convK A fr (5 * a + k) (5 * t + k) (5 * t + k') = fr (5 * t + k') := by unfold convK; rw [upd_ne (by omega), upd_ne (by omega)]
        rw [u1] at e1 e2
        rw [u2] at e2
        exact ⟨e1, e2⟩
    · refine (q2 i fun k' h1 h2 => hi k' (by omega) h2).trans ?_
      obtain ⟨h1, h2⟩ := hi k (Nat.le_refl _) (by omega)
      unfold convK
      rw [upd_ne h1, upd_ne h2]
theorem conv_vd {p : P} (h : Vd p) {f : Int} {t : Nat} (hf : insB p f 0 = true) (ht : t < 3) : Vd (conv p f (t : Int)) ∧ F (conv p f (t : Int)) = F p ∧
    (∀ x, insB p x 0 = true → tyAt (conv p f (t : Int)) x = if inPB (f - f % 16) x = true then (t : Int) else tyAt p x) := by
  obtain ⟨r1, r2, r3, r4, r5, r6⟩ := rng_of h.l.rng
  obtain ⟨i1, i2, _⟩ := ins_open hf
  obtain ⟨a, ha, hta⟩ := ty_at h.l.rng hf
  obtain ⟨i, hi⟩ : ∃ i, ((f - p.st) / 16).toNat = i := ⟨_, rfl⟩
  obtain ⟨A, hA⟩ : ∃ A, f - f % 16 = A := ⟨_, rfl⟩
  have hAi : p.st + 16 * (i : Int) = A := by omega
  have hil : i < p.ty.length := by omega
  have htyc : ∀ x : Int, p.st ≤ x → x < p.st + 16 * (p.ty.length : Int) → (p.ty.set i (t : Int)).getD ((x - p.st) / 16).toNat 0 = if inPB A x = true then (t : Int) else tyAt p x := fun x x1 x2 => by
    unfold inPB
    rw [List.getD_eq_getElem?_getD]
    by_cases e : ((x - p.st) / 16).toNat = i
    · rw [e, List.getElem?_set_self hil, if_pos (by simp; omega)]; rfl
    · rw [List.getElem?_set_ne (by omega), if_neg (by simp; omega)]
      unfold tyAt
      rw [List.getD_eq_getElem?_getD]
  have hsame : ∀ x, insB p x 0 = true → inPB A x = true → tyAt p x = (a : Int) := fun x hx hp => by
    rw [← hta]
    unfold tyAt
    obtain ⟨x1, x2, _⟩ := ins_open hx
    have hp := of_decide_eq_true hp
    have : (x - p.st) / 16 = (f - p.st) / 16 := by omega
    rw [this]
  have hins : ∀ fr x k, insB ⟨p.st, p.ty.set i (t : Int), fr⟩ x k = insB p x k := fun fr x k => by unfold insB; rw [List.length_set]
  have hrng : ∀ fr, rngB ⟨p.st, p.ty.set i (t : Int), fr⟩ = true := fun fr => by
    simp only [rngB, Bool.and_eq_true, decide_eq_true_eq, List.all_eq_true, kindB, List.length_set]
    refine ⟨⟨r1, r2, r3, r4, r5⟩, fun x hx => ?_⟩
    rcases List.mem_or_eq_of_mem_set hx with h1 | h1
    · exact r6 x h1
    · omega
  have hzero : ∀ {x k}, insB p x k = true → insB p x 0 = true := fun {x k} hx => by
    obtain ⟨x1, x2, _⟩ := ins_open hx
    unfold insB
    rw [decide_eq_true_eq, pw_zero]
    exact ⟨x1, x2, by omega⟩
  by_cases hat : a = t
  · have e : conv p f (t : Int) = ⟨p.st, p.ty.set i (t : Int), p.fr⟩ := by
      unfold conv
      rw [hi, hta, if_pos (by omega)]
    have ety : p.ty.set i (t : Int) = p.ty := by
      have hx : p.ty[i]? = some (t : Int) := by
        unfold tyAt at hta
        rw [hi, List.getD_eq_getElem?_getD, List.getElem?_eq_getElem hil] at hta
        rw [List.getElem?_eq_getElem hil]
        have : p.ty[i] = (a : Int) := hta
        rw [this, hat]
      obtain ⟨hlt, he⟩ := List.getElem?_eq_some_iff.1 hx
      rw [← he, List.set_getElem_self]
    rw [e, ety]
    refine ⟨h, rfl, fun x hx => ?_⟩
    rw [hA]
    split
    · rename_i hp
      rw [← hat]
      exact hsame x hx hp
    · rfl
  · obtain ⟨fr, hfr⟩ : ∃ fr, convN A (5 * a) (5 * t) 5 0 p.fr = fr := ⟨_, rfl⟩
    have e : conv p f (t : Int) = ⟨p.st, p.ty.set i (t : Int), fr⟩ := by
      unfold conv base
      rw [hi, hta, if_neg (by omega), Int.toNat_natCast, Int.toNat_natCast, hA, hfr]
    rw [e, hA]
    obtain ⟨c1, c2⟩ := convN_at hat 5 0 p.fr (by omega) (A := A)
    rw [hfr] at c1 c2
    have hfold : ∀ k, k < 5 → List.Pairwise (· < ·) (fr (5 * t + k)) ∧ ∀ y, y ∈ fr (5 * t + k) ↔ (y ∈ p.fr (5 * a + k) ∧ inPB A y = true) ∨ y ∈ p.fr (5 * t + k) := fun k hk => by
      rw [(c1 k (by omega) hk).2]
      obtain ⟨g1, g2⟩ := fold_ins (l := (p.fr (5 * a + k)).filter (inPB A)) (m := p.fr (5 * t + k)) ((h.l.asc _ (by omega)).sublist List.filter_sublist) (h.l.asc _ (by omega)) fun x hx hx2 => by
        have h1 := (h.l.ins (5 * a + k) (by omega) x (List.mem_filter.1 hx).1).2
        have h2 := (h.l.ins (5 * t + k) (by omega) x hx2).2
        rw [h1] at h2
        omega
      exact ⟨g1, fun y => by rw [g2, List.mem_filter]⟩
    have ha5 : ∀ k, k < 5 → fr (5 * a + k) = (p.fr (5 * a + k)).filter (fun f => !inPB A f) := fun k hk => (c1 k (by omega) hk).1
    have hoth : ∀ u k, u ≠ a → u ≠ t → k < 5 → fr (5 * u + k) = p.fr (5 * u + k) := fun u k h1 h2 hk => c2 _ fun k' _ g2 => by omega
    have hL : Lst ⟨p.st, p.ty.set i (t : Int), fr⟩ := by
      refine ⟨hrng fr, fun j hj y hy => ?_, fun j hj => ?_⟩
      · obtain ⟨u, k, rfl, hk, hu⟩ : ∃ u k, j = 5 * u + k ∧ k < 5 ∧ u < 3 := ⟨j / 5, j % 5, by omega, by omega, by omega⟩
        rw [hins, show (5 * u + k) % 5 = k by omega, show (5 * u + k) / 5 = u by omega]
        simp only at hy
        have key : (∃ v, v < 3 ∧ y ∈ p.fr (5 * v + k) ∧ (u : Int) = if inPB A y = true then (t : Int) else (v : Int)) := by
          by_cases e1 : u = a
          · subst e1
            rw [ha5 k hk, List.mem_filter] at hy
            refine ⟨u, ha, hy.1, ?_⟩
            have := hy.2
            rw [if_neg (by simpa using this)]
          · by_cases e2 : u = t
            · subst e2
              rcases ((hfold k hk).2 y).1 hy with h1 | h1
              · exact ⟨a, ha, h1.1, by rw [if_pos h1.2]⟩
              · exact ⟨u, hu, h1, by split <;> rfl⟩
            · rw [hoth u k e1 e2 hk] at hy
              refine ⟨u, hu, hy, ?_⟩
              obtain ⟨g1, g2⟩ := h.l.ins (5 * u + k) (by omega) y hy
              rw [show (5 * u + k) / 5 = u by omega] at g2
              rw [if_neg]
              intro hp
              have := hsame y (hzero g1) hp
              omega
        obtain ⟨v, hv, hyv, huv⟩ := key
        obtain ⟨g1, g2⟩ := h.l.ins (5 * v + k) (by omega) y hyv
        rw [show (5 * v + k) % 5 = k by omega] at g1
        rw [show (5 * v + k) / 5 = v by omega] at g2
        refine ⟨g1, ?_⟩
        obtain ⟨x1, x2, _⟩ := ins_open g1
        rw [huv, ← g2]
        exact htyc y x1 x2
      · obtain ⟨u, k, rfl, hk, hu⟩ : ∃ u k, j = 5 * u + k ∧ k < 5 ∧ u < 3 := ⟨j / 5, j % 5, by omega, by omega, by omega⟩
        simp only
        by_cases e1 : u = a
        · subst e1
          rw [ha5 k hk]
          exact (h.l.asc _ (by omega)).sublist List.filter_sublist
        · by_cases e2 : u = t
          · subst e2; exact (hfold k hk).1
          · rw [hoth u k e1 e2 hk]
            exact h.l.asc _ (by omega)
    have hF : F ⟨p.st, p.ty.set i (t : Int), fr⟩ = F p := by
      funext y k
      apply propext
      constructor
      · rintro ⟨h1, u, hu, hy⟩
        refine ⟨h1, ?_⟩
        simp only at hy
        by_cases e1 : u = a
        · subst e1
          rw [ha5 k (by omega), List.mem_filter] at hy
          exact ⟨u, hu, hy.1⟩
        · by_cases e2 : u = t
          · subst e2
            rcases ((hfold k (by omega)).2 y).1 hy with h2 | h2
            · exact ⟨a, ha, h2.1⟩
            · exact ⟨u, hu, h2⟩
          · rw [hoth u k e1 e2 (by omega)] at hy
            exact ⟨u, hu, hy⟩
      · rintro ⟨h1, u, hu, hy⟩
        refine ⟨h1, ?_⟩
        simp only
        by_cases e1 : u = a
        · subst e1
          by_cases hp : inPB A y = true
          · exact ⟨t, ht, ((hfold k (by omega)).2 y).2 (.inl ⟨hy, hp⟩)⟩
          · exact ⟨u, hu, by rw [ha5 k (by omega), List.mem_filter]; exact ⟨hy, by simpa using hp⟩⟩
        · by_cases e2 : u = t
          · subst e2
            exact ⟨u, hu, ((hfold k (by omega)).2 y).2 (.inr hy)⟩
          · exact ⟨u, hu, by rw [hoth u k e1 e2 (by omega)]; exact hy⟩
    have hR : R ⟨p.st, p.ty.set i (t : Int), fr⟩ = R p := by
      funext y k
      unfold R
      rw [hins]
    refine ⟨⟨hL, ?_⟩, hF, fun x hx => ?_⟩
    · rw [hF, hR]
      exact h.v
    · obtain ⟨x1, x2, _⟩ := ins_open hx
      exact htyc x x1 x2
end Go.Mob
