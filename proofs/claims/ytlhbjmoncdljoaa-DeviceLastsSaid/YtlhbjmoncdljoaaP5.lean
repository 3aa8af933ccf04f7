/- The plain mathematics of devices: what a game of acts keeps. -/
import Derived.Test.YtlhbjmoncdljoaaP4
import Derived.Test.YtlhbjmoncdljoaaD23
namespace Go.Dev
/-- A device of a game after k acts. -/
structure PD (d : D) (k : Nat) : Prop where
  ok : Ok d
  dp : d.dp = 4
  nb : d.bl.length = 4
  nx : d.nx ≤ k
theorem PD.mono {d : D} {k k' : Nat} (h : PD d k) (hk : k ≤ k') : PD d k' := ⟨h.ok, h.dp, h.nb, by have := h.nx; omega⟩
theorem PD.q4 {d : D} {k : Nat} (h : PD d k) : d.qu.length ≤ 4 := by have := h.ok.q1; have := h.dp; omega
theorem pd0 : newD 4 (List.replicate 4 (pg 0)) = (⟨4, 0, List.replicate 4 (pg 0), [], []⟩, 0) := by rfl
theorem pd0_pd : PD ⟨4, 0, List.replicate 4 (pg 0), [], []⟩ 0 := ⟨chk_ok.1 (by rfl), rfl, rfl, by simp⟩
theorem pd_sub {d : D} {k : Nat} (h : PD d k) (hk : k ≤ 1000) (hq : d.qu.length < 4) {kd b : Int} {s : List Int} (hr : rqE 4 kd b s.length = 0) :
    subD d kd b s = (⟨d.dp, d.nx + 1, d.bl, d.ca, d.qu ++ [(d.nx, kd, b, s)]⟩, d.nx, 0) ∧ PD ⟨d.dp, d.nx + 1, d.bl, d.ca, d.qu ++ [(d.nx, kd, b, s)]⟩ (k + 1) := by
  have hdp := h.dp; have hnx := h.nx
  have hr' : rqE d.bl.length kd b s.length = 0 := by rw [h.nb]; exact hr
  refine ⟨subD_ok (chk_ok.2 h.ok) hr' (by omega) (by omega), ok_sub h.ok hr' (by omega) (by omega), h.dp, h.nb, by simp only; omega⟩
theorem pd_full {d : D} {k : Nat} (h : PD d k) (hk : k ≤ 1000) (hq : 4 ≤ d.qu.length) {kd b : Int} {s : List Int} (hr : rqE 4 kd b s.length = 0) : subD d kd b s = (zero, 0, 8) := by
  have hdp := h.dp; have hnx := h.nx
  exact subD_full (chk_ok.2 h.ok) (by rw [h.nb]; exact hr) (by omega) (by omega)
theorem cmp_all {d : D} {q : Rq} {p : Nat} (h : Ok d) (hq : d.qu[p]? = some q) (ok : Bool) : ∃ bl ca s', cmpD d p ok = (⟨d.dp, d.nx, bl, ca, d.qu.eraseIdx p⟩, (q.1, q.2.1, q.2.2.1, s'), 0) ∧ bl.length = d.bl.length ∧ Ok ⟨d.dp, d.nx, bl, ca, d.qu.eraseIdx p⟩ ∧ s'.length ≤ 32 ∧
    ((ok = false ∧ bl = d.bl ∧ ca = d.ca ∧ s' = q.2.2.2) ∨ (q.2.1 = 1 ∧ bl = d.bl ∧ ca = d.ca) ∨ (q.2.1 = 2 ∧ bl = d.bl ∧ ca = putC q.2.2.1 q.2.2.2 d.ca) ∨ (q.2.1 = 3 ∧ bl = flushB d.bl d.ca ∧ ca = [])) := by
  obtain ⟨d', q', h1, h2, h3⟩ := ok_cmp h hq ok
  have hc := chk_ok.2 h
  have hm := h.qu q (List.mem_of_getElem? hq)
  obtain ⟨i, k, b, s⟩ := q
  cases ok with
  | false =>
    rw [cmpD_fail hc hq] at h1 ⊢
    cases h1
    exact ⟨d.bl, d.ca, s, rfl, rfl, h2, h3, .inl ⟨rfl, rfl, rfl, rfl⟩⟩
  | true =>
    rw [cmpD_ok hc hq] at h1 ⊢
    rcases rqE_kind hm.2 with ⟨hk, _⟩ | ⟨hk, _⟩ | ⟨hk, _⟩
    · simp only at hk; subst hk
      rw [cmpQ_read] at h1 ⊢
      cases h1
      exact ⟨d.bl, d.ca, _, rfl, rfl, h2, h3, .inr (.inl ⟨rfl, rfl, rfl⟩)⟩
    · simp only at hk; subst hk
      rw [cmpQ_write] at h1 ⊢
      cases h1
      exact ⟨d.bl, _, s, rfl, rfl, h2, h3, .inr (.inr (.inl ⟨rfl, rfl, rfl⟩))⟩
    · simp only at hk; subst hk
      rw [cmpQ_flush] at h1 ⊢
      cases h1
      exact ⟨_, [], s, rfl, flushB_len, h2, h3, .inr (.inr (.inr ⟨rfl, rfl, rfl⟩))⟩
theorem pd_cmp {d : D} {k : Nat} {p : Nat} (h : PD d k) (hp : p < d.qu.length) (ok : Bool) : ∃ d' q', cmpD d p ok = (d', q', 0) ∧ PD d' k ∧ d'.qu = d.qu.eraseIdx p ∧ q'.2.2.2.length ≤ 32 := by
  obtain ⟨q, hq⟩ := get_some (l := d.qu) rfl hp
  obtain ⟨bl, ca, s', h1, h2, h3, h4, _⟩ := cmp_all h.ok hq ok
  exact ⟨_, _, h1, ⟨h3, h.dp, by rw [← h.nb]; exact h2, h.nx⟩, rfl, h4⟩
theorem pd_range {d : D} {k : Nat} {p : Nat} (h : PD d k) (hp : d.qu.length ≤ p) (ok : Bool) : cmpD d p ok = (zero, zq, 2) := cmpD_range (chk_ok.2 h.ok) (.inr (by omega))
theorem u8_mod {x : Int} (h0 : 0 ≤ x) : ∃ n : Nat, n < 4 ∧ Int.tmod x 4 = n := ⟨(Int.tmod x 4).toNat, by have := Int.tmod_eq_emod_of_nonneg (b := 4) h0; omega, by have := Int.tmod_eq_emod_of_nonneg (b := 4) h0; omega⟩
end Go.Dev
