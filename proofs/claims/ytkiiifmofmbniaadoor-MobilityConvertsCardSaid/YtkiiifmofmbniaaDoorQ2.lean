/- The plain mathematics of page blocks: a block that is put in; lists are determined by what they cover. -/
import Derived.Test.YtkiiifmofmbniaaDoorQ1
namespace Go.Mob
open Go.Can
theorem Lst.upd' {p : P} (h : Lst p) {t k : Nat} (hk : k < 5) {l : List Int} (h1 : List.Pairwise (· < ·) l) (h2 : ∀ f ∈ l, insB p f k = true ∧ tyAt p f = (t : Int)) : Lst ⟨p.st, p.ty, upd p.fr (5 * t + k) l⟩ := by
  refine ⟨h.rng, fun j hj f hf => ?_, fun j hj => ?_⟩
  · by_cases e : j = 5 * t + k
    · subst e
      simp only [upd_self] at hf
      rw [show (5 * t + k) % 5 = k by omega, show (5 * t + k) / 5 = t by omega]
      exact h2 f hf
    · simp only [upd_ne e] at hf
      exact h.ins j hj f hf
  · by_cases e : j = 5 * t + k
    · subst e
      simp only [upd_self]
      exact h1
    · simp only [upd_ne e]
      exact h.asc j hj
theorem F_del {p : P} (h : Lst p) {t k : Nat} (ht : t < 3) (hk : k < 5) {b : Int} (hb : (p.fr (5 * t + k)).contains b = true) : F ⟨p.st, p.ty, upd p.fr (5 * t + k) (del (p.fr (5 * t + k)) b)⟩ = fun g j => F p g j ∧ ¬ (g = b ∧ j = k) := by
  funext g j
  have hbm : b ∈ p.fr (5 * t + k) := by simpa using hb
  have hbt := (h.ins (5 * t + k) (by omega) b hbm).2
  rw [show (5 * t + k) / 5 = t by omega] at hbt
  apply propext
  constructor
  · rintro ⟨h1, u, h2, h3⟩
    by_cases e : 5 * u + j = 5 * t + k
    · simp only [e, upd_self] at h3
      obtain ⟨q1, q2⟩ := (mem_del (h.asc _ (by omega)) hb).1 h3
      exact ⟨⟨h1, u, h2, by rw [e]; exact q1⟩, fun c => q2 c.1⟩
    · simp only [upd_ne e] at h3
      refine ⟨⟨h1, u, h2, h3⟩, ?_⟩
      rintro ⟨rfl, rfl⟩
      have := (h.ins (5 * u + j) (by omega) g h3).2
      rw [show (5 * u + j) / 5 = u by omega] at this
      omega
  · rintro ⟨⟨h1, u, h2, h3⟩, h4⟩
    refine ⟨h1, u, h2, ?_⟩
    by_cases e : 5 * u + j = 5 * t + k
    · simp only [e, upd_self]
      rw [e] at h3
      exact (mem_del (h.asc _ (by omega)) hb).2 ⟨h3, fun c => h4 ⟨c, by omega⟩⟩
    · simp only [upd_ne e]
      exact h3
theorem F_ins {p : P} {t k : Nat} (ht : t < 3) (hk : k < 5) {f : Int} : F ⟨p.st, p.ty, upd p.fr (5 * t + k) (ins (p.fr (5 * t + k)) f)⟩ = fun g j => F p g j ∨ (g = f ∧ j = k) := by
  funext g j
  apply propext
  constructor
  · rintro ⟨h1, u, h2, h3⟩
    by_cases e : 5 * u + j = 5 * t + k
    · simp only [e, upd_self] at h3
      rcases mem_ins.1 h3 with h4 | h4
      · exact .inr ⟨h4, by omega⟩
      · exact .inl ⟨h1, u, h2, by rw [e]; exact h4⟩
    · simp only [upd_ne e] at h3
      exact .inl ⟨h1, u, h2, h3⟩
  · rintro (⟨h1, u, h2, h3⟩ | ⟨rfl, rfl⟩)
    · refine ⟨h1, u, h2, ?_⟩
      by_cases e : 5 * u + j = 5 * t + k
      · simp only [e, upd_self]
        rw [e] at h3
        exact mem_ins.2 (.inr h3)
      · simp only [upd_ne e]
        exact h3
    · exact ⟨by omega, t, ht, by simp only [upd_self]; exact mem_ins.2 (.inl rfl)⟩
theorem halves {f x : Int} {k : Nat} (hk : k < 4) (h : f % pw k = 0) : In (par f k) (k + 1) x ↔ In f k x ∨ In (bud k f) k x := by
  have e := pw_succ k
  have hp := pw_pos k
  rcases bud_spec h hk with ⟨_, b2, b3⟩ | ⟨_, b2, b3⟩ <;> rw [b2, b3] <;> unfold In <;> rw [e] <;> omega
/-- A block that nothing covers is added, and its buddy is not there. -/
theorem Vd.ins {p : P} (h : Vd p) {f : Int} {k t : Nat} (hr : R p f k) (ht : t < 3) (hty : tyAt p f = (t : Int)) (hn : ∀ x, In f k x → ¬ Cov (F p) x) (hb : k < 4 → (p.fr (5 * t + k)).contains (bud k f) = false) :
    Vd ⟨p.st, p.ty, upd p.fr (5 * t + k) (ins (p.fr (5 * t + k)) f)⟩ ∧ ∀ x, Cov (F ⟨p.st, p.ty, upd p.fr (5 * t + k) (ins (p.fr (5 * t + k)) f)⟩) x ↔ Cov (F p) x ∨ In f k x := by
  have hk5 : k < 5 := by have := hr.1; omega
  have hnm : f ∉ p.fr (5 * t + k) := fun hm => hn f (in_self f k) ⟨f, k, ⟨hr.1, t, ht, hm⟩, in_self f k⟩
  have hF := F_ins (p := p) ht hk5 (f := f)
  refine ⟨⟨h.l.upd' hk5 (ins_asc (h.l.asc _ (by omega)) hnm) fun g hg => ?_, ?_⟩, fun x => by rw [hF]; exact cov_add⟩
  · rcases mem_ins.1 hg with rfl | hg
    · exact ⟨hr.2, hty⟩
    · have := h.l.ins (5 * t + k) (by omega) g hg
      rwa [show (5 * t + k) % 5 = k by omega, show (5 * t + k) / 5 = t by omega] at this
  · rw [hF]
    refine h.v.add (R := R p) hr hn (fun h1 h2 => ?_) (fun h1 h2 => ?_)
    · have hk : k < 4 := by have := h1.1; omega
      obtain ⟨_, u, s2, s3, s4⟩ := F_at h.l h2
      have hty2 := ty_in h.l.rng h1 (x := f + pw k) ⟨by have := pw_pos k; omega, by have := pw_succ k; have := pw_pos k; omega⟩
      obtain rfl : t = u := by omega
      rcases bud_spec (ins_open hr.2).2.2 hk with ⟨_, b2, _⟩ | ⟨b1, _⟩
      · have := hb hk
        rw [b2] at this
        simp at this
        exact this s4
      · exact b1 (ins_open h1.2).2.2
    · have hk : k < 4 := by have := h1.1; omega
      obtain ⟨_, u, s2, s3, s4⟩ := F_at h.l h2
      have hty2 := ty_in h.l.rng h1 (x := f) ⟨by have := pw_pos k; omega, by have := pw_succ k; have := pw_pos k; omega⟩
      obtain rfl : t = u := by omega
      have h3 := (ins_open h1.2).2.2
      rcases bud_spec (ins_open hr.2).2.2 hk with ⟨b1, _⟩ | ⟨_, b2, _⟩
      · rw [pw_succ] at h3 b1
        have h4 := (ins_open hr.2).2.2
        rcases pw_cases (show k ≤ 4 by omega) with ⟨k1, k2⟩ | ⟨k1, k2⟩ | ⟨k1, k2⟩ | ⟨k1, k2⟩ | ⟨k1, k2⟩ <;> (rw [k2] at h3 b1 h4; omega)
      · have := hb hk
        rw [b2] at this
        simp at this
        exact this s4
theorem putN_vd {st : Int} {ty : List Int} {t : Nat} (ht : t < 3) : ∀ (n : Nat) (fr : Nat → List Int) (f : Int) (k : Nat), k + n = 4 → Vd ⟨st, ty, fr⟩ → R ⟨st, ty, fr⟩ f k → tyAt ⟨st, ty, fr⟩ f = (t : Int) → (∀ x, In f k x → ¬ Cov (F ⟨st, ty, fr⟩) x) →
    Vd ⟨st, ty, putN (5 * t) n fr f k⟩ ∧ ∀ x, Cov (F ⟨st, ty, putN (5 * t) n fr f k⟩) x ↔ Cov (F ⟨st, ty, fr⟩) x ∨ In f k x
  | 0, fr, f, k, hk, h, hr, hty, hn => h.ins hr ht hty hn (fun h => by omega)
  | n + 1, fr, f, k, hk, h, hr, hty, hn => by
    unfold putN
    split
    · rename_i hc
      have hk4 : k < 4 := by omega
      have hal := (ins_open hr.2).2.2
      have hbm : bud k f ∈ fr (5 * t + k) := by simpa using hc
      have hFb : F ⟨st, ty, fr⟩ (bud k f) k := ⟨hr.1, t, ht, hbm⟩
      have hF := F_del (p := ⟨st, ty, fr⟩) h.l ht (show k < 5 by omega) hc
      have hV : Vd ⟨st, ty, upd fr (5 * t + k) (del (fr (5 * t + k)) (bud k f))⟩ := by
        refine ⟨Lst.del (p := ⟨st, ty, fr⟩) h.l (5 * t + k) (bud k f), ?_⟩
        rw [hF]
        exact h.v.del _ _
      have hcv : ∀ x, Cov (F ⟨st, ty, upd fr (5 * t + k) (del (fr (5 * t + k)) (bud k f))⟩) x ↔ Cov (F ⟨st, ty, fr⟩) x ∧ ¬ In (bud k f) k x := fun x => by
        rw [hF]
        exact h.v.cov_del hFb
      have hrp : R ⟨st, ty, upd fr (5 * t + k) (del (fr (5 * t + k)) (bud k f))⟩ (par f k) (k + 1) := ⟨by omega, ins_par (p := ⟨st, ty, fr⟩) h.l.rng hk4 hr.2⟩
      have htp : tyAt ⟨st, ty, upd fr (5 * t + k) (del (fr (5 * t + k)) (bud k f))⟩ (par f k) = (t : Int) := by
        rw [← hty]
        have := ty_in (p := ⟨st, ty, fr⟩) h.l.rng (show R ⟨st, ty, fr⟩ (par f k) (k + 1) from hrp) (x := f) ((halves hk4 hal).2 (.inl (in_self f k)))
        exact this.symm
      obtain ⟨q1, q2⟩ := putN_vd ht n (upd fr (5 * t + k) (del (fr (5 * t + k)) (bud k f))) (par f k) (k + 1) (by omega) hV hrp htp fun x hx hc2 => by
        obtain ⟨c1, c2⟩ := (hcv x).1 hc2
        rcases (halves hk4 hal).1 hx with h1 | h1
        · exact hn x h1 c1
        · exact c2 h1
      refine ⟨q1, fun x => ?_⟩
      rw [q2, hcv, halves hk4 hal]
      constructor
      · rintro (⟨h1, _⟩ | h1 | h1)
        · exact .inl h1
        · exact .inr h1
        · exact .inl ⟨_, _, hFb, h1⟩
      · rintro (h1 | h1)
        · by_cases hb : In (bud k f) k x
          · exact .inr (.inr hb)
          · exact .inl ⟨h1, hb⟩
        · exact .inr (.inl h1)
    · rename_i hc
      exact h.ins hr ht hty hn fun _ => by simpa using hc
/-- The type of an admissible frame. -/
theorem ty_at {p : P} (h : rngB p = true) {f : Int} {k : Nat} (hi : insB p f k = true) : ∃ t : Nat, t < 3 ∧ tyAt p f = (t : Int) := by
  obtain ⟨r1, r2, r3, r4, r5, r6⟩ := rng_of h
  obtain ⟨i1, i2, _⟩ := ins_open hi
  have hx : tyAt p f ∈ p.ty := by
    unfold tyAt
    rw [List.getD_eq_getElem?_getD, List.getElem?_eq_getElem (by omega)]
    exact List.getElem_mem _
  have := r6 _ hx
  exact ⟨(tyAt p f).toNat, by omega, by omega⟩
theorem put_vd {p : P} (h : Vd p) {f : Int} {k : Nat} (hr : R p f k) (hn : ∀ x, In f k x → ¬ Cov (F p) x) : Vd (putP p f k) ∧ ∀ x, Cov (F (putP p f k)) x ↔ Cov (F p) x ∨ In f k x := by
  obtain ⟨t, ht, hty⟩ := ty_at h.l.rng hr.2
  have e : putP p f k = ⟨p.st, p.ty, putN (5 * t) (4 - k) p.fr f k⟩ := by
    unfold putP base
    rw [hty, Int.toNat_natCast]
  rw [e]
  exact putN_vd ht (4 - k) p.fr f k (by have := hr.1; omega) h hr hty hn
/-- Lists are determined by what they cover. -/
theorem vd_uniq {p q : P} (hp : Vd p) (hq : Vd q) (h1 : p.st = q.st) (h2 : p.ty = q.ty) (hc : ∀ x, Cov (F p) x ↔ Cov (F q) x) : ∀ i, i < 15 → p.fr i = q.fr i := by
  have hR : R q = R p := by funext f k; unfold R insB; rw [h1, h2]
  have hvq : Val (R p) (F q) := by rw [← hR]; exact hq.v
  have hF : ∀ f k, F p f k ↔ F q f k := fun f k => hp.v.uniq (regR hp.l.rng) hvq hc
  have hty : ∀ f, tyAt p f = tyAt q f := fun f => by unfold tyAt; rw [h1, h2]
  intro i hi
  refine asc_ext (hp.l.asc i hi) (hq.l.asc i hi) fun f => ⟨fun hf => ?_, fun hf => ?_⟩
  · have h3 := (hp.l.ins i hi f hf).2
    obtain ⟨_, u, _, g3, g4⟩ := F_at hq.l ((hF f (i % 5)).1 ⟨by omega, i / 5, by omega, by rw [show 5 * (i / 5) + i % 5 = i by omega]; exact hf⟩)
    rw [← hty, h3] at g3
    rwa [show 5 * u + i % 5 = i by omega] at g4
  · have h3 := (hq.l.ins i hi f hf).2
    obtain ⟨_, u, _, g3, g4⟩ := F_at hp.l ((hF f (i % 5)).2 ⟨by omega, i / 5, by omega, by rw [show 5 * (i / 5) + i % 5 = i by omega]; exact hf⟩)
    rw [hty, h3] at g3
    rwa [show 5 * u + i % 5 = i by omega] at g4
theorem vd_empty {st : Int} {ty : List Int} (h : rngB ⟨st, ty, fun _ => []⟩ = true) : Vd ⟨st, ty, fun _ => []⟩ := by
  have hF : ∀ f k, ¬ F ⟨st, ty, fun _ => []⟩ f k := fun f k ⟨_, t, _, h⟩ => by simp at h
  exact ⟨⟨h, fun i _ f hf => by simp at hf, fun i _ => List.Pairwise.nil⟩, ⟨fun h => (hF _ _ h).elim, fun h => (hF _ _ h).elim, fun _ h => (hF _ _ h).elim⟩⟩
end Go.Mob
