/- The zones that come in, opened. -/
import Derived.Test.YtneibbefkjjlnaaFrame
import Derived.Test.YtneibbefkjjlnaaZone9
namespace Go.Proofs.Ytneibbefkjjlnaa
open Go.ChangeShapes Go.WideShapes Go.ChangeAt Go.RowKit Go.Lift Go.Bud Go.Over Go.Grow
theorem cells33 : Try.prog.cellsOf 33 = 1 := by kernel_rfl
theorem cells42 : Try.prog.cellsOf 42 = 5 := by kernel_rfl
theorem cells44 : Try.prog.cellsOf 44 = 10 := by kernel_rfl
theorem i64_wf {x : Int} (h : (Lit.int .i64 x).wf = true) : -9223372036854775808 ≤ x ∧ x ≤ 9223372036854775807 := by
  simp [Lit.wf, IntKind.min, IntKind.max, IntKind.bits, IntKind.signed] at h
  omega
theorem take1_get {α : Type} {cs : List α} {k : Nat} {v : α} (h : (cs.drop k).take 1 = [v]) : cs[k]? = some v := by
  cases hd : cs.drop k with
  | nil => rw [hd] at h; simp at h
  | cons x r =>
    rw [hd] at h
    simp at h
    subst h
    have := congrArg (fun l => l[0]?) hd
    simpa using this
theorem list_such {β : Type} {Q : Nat → β → Prop} : ∀ (n : Nat), (∀ i, i < n → ∃ x, Q i x) → ∃ l : List β, l.length = n ∧ ∀ i x, l[i]? = some x → Q i x
  | 0, _ => ⟨[], rfl, fun i x h => by simp at h⟩
  | n + 1, h => by
    obtain ⟨l, hl, hq⟩ := list_such n fun i hi => h i (by omega)
    obtain ⟨x, hx⟩ := h n (by omega)
    refine ⟨l ++ [x], by simp [hl], fun i y hy => ?_⟩
    rcases Nat.lt_or_ge i n with hi | hi
    · rw [List.getElem?_append_left (by omega)] at hy
      exact hq i y hy
    · rw [List.getElem?_append_right (by omega), hl] at hy
      have e : i - n = 0 := by
        rw [List.getElem?_eq_some_iff] at hy
        obtain ⟨h1, _⟩ := hy
        simp at h1; omega
      rw [e] at hy
      simp at hy
      subst hy
      have : i = n := by omega
      subst this; exact hx
section
variable {W : World} {v : Value}
theorem rd_ints {cs : List Value} (hr : Rd Try.prog W 33 cs) : ∃ a l n c, cs = [.slice a n c] ∧ Ints W a l ∧ l.length = n ∧ n ≤ maxLen := by
  obtain ⟨a, n, c, f, h, h1, h2, _, h4, _, _⟩ := hr.ints Try.underlying33 Try.underlying3 cells3
  have hl : ((List.range n).map f).length = n := by simp
  refine ⟨a, (List.range n).map f, n, c, h, fun h0 => ?_, hl, by omega⟩
  rw [hl] at h0
  obtain ⟨b, off, rfl, hc⟩ := h4 h0
  refine ⟨b, off, rfl, fun i hi => ?_⟩
  rw [hl] at hi
  rw [hc i hi]
  simp [hi]
theorem rd_int {cs : List Value} {k : Nat} (hr : Rd Try.prog W 3 ((cs.drop k).take (Try.prog.cellsOf 3))) : ∃ x, cs[k]? = some (.int .i64 x) ∧ -9223372036854775808 ≤ x ∧ x ≤ 9223372036854775807 := by
  obtain ⟨x, hx, wx⟩ := hr.int Try.underlying3
  rw [cells3] at hx
  exact ⟨x, take1_get hx, i64_wf wx⟩
theorem rd_row {cs : List Value} (hr : Rd Try.prog W 42 ((cs.drop 5).take (Try.prog.cellsOf 42))) (k : Nat) (hk : k < 5) : ∃ a l n c, cs[5 + k]? = some (.slice a n c) ∧ Ints W a l ∧ l.length = n ∧ n ≤ maxLen := by
  obtain ⟨_, hf⟩ := hr.array Try.underlying42
  have h1 := hf k hk
  rw [cells33, Nat.mul_one, cells42] at h1
  obtain ⟨a, l, n, c, h2, h3⟩ := rd_ints h1
  refine ⟨a, l, n, c, ?_, h3⟩
  have h4 := take1_get h2
  rw [List.getElem?_take_of_lt hk, List.getElem?_drop] at h4
  exact h4
theorem arg_zones (hv : ∃ base, Value.okWide Try.prog W .any base 41 v) (hr : Rd Try.prog W 41 v.cells.toList) : ∃ a l n c, v = .slice a n c ∧ Zones W a l ∧ l.length = n := by
  obtain ⟨_, hv⟩ := hv
  obtain ⟨a, n, c, rfl⟩ := okWide_slice Try.underlying41 hv
  rcases hr.slice Try.underlying41 with h | ⟨a', n', c', h, hn, hm, hi⟩
  · simp [Value.cells] at h
    obtain ⟨rfl, rfl, rfl⟩ := h
    exact ⟨_, [], _, _, rfl, fun h => absurd h (by simp), rfl⟩
  · simp [Value.cells] at h
    obtain ⟨rfl, rfl, rfl⟩ := h
    obtain ⟨l, hl, hq⟩ := list_such (Q := fun i (z : Zn) => ∀ b off, a' = ⟨b, off, none⟩ → ZAt W b (off + i * 10) z) n fun i hi' => by
      obtain ⟨cs', h1, h2, h3⟩ := hi i (by omega)
      rw [cells44] at h1 h2
      obtain ⟨_, hf⟩ := h3.struct Try.underlying44
      obtain ⟨nd, p0, _⟩ := rd_int (show Rd Try.prog W 3 ((cs'.drop 0).take (Try.prog.cellsOf 3)) from hf 0 _ rfl)
      obtain ⟨kd, p1, _⟩ := rd_int (show Rd Try.prog W 3 ((cs'.drop 1).take (Try.prog.cellsOf 3)) from hf 1 _ rfl)
      obtain ⟨st, p2, j2, j3⟩ := rd_int (show Rd Try.prog W 3 ((cs'.drop 2).take (Try.prog.cellsOf 3)) from hf 2 _ rfl)
      obtain ⟨ct, p3, j0, j1⟩ := rd_int (show Rd Try.prog W 3 ((cs'.drop 3).take (Try.prog.cellsOf 3)) from hf 3 _ rfl)
      obtain ⟨mn, p4, _⟩ := rd_int (show Rd Try.prog W 3 ((cs'.drop 4).take (Try.prog.cellsOf 3)) from hf 4 _ rfl)
      have hrow := rd_row (show Rd Try.prog W 42 ((cs'.drop 5).take (Try.prog.cellsOf 42)) from hf 5 _ rfl)
      obtain ⟨a0, l0, n0, c0, s0, H0, h0, m0⟩ := hrow 0 (by decide)
      obtain ⟨a1, l1, n1, c1, s1, H1, h1', m1⟩ := hrow 1 (by decide)
      obtain ⟨a2, l2, n2, c2, s2, H2, h2', m2⟩ := hrow 2 (by decide)
      obtain ⟨a3, l3, n3, c3, s3, H3, h3', m3⟩ := hrow 3 (by decide)
      obtain ⟨a4, l4, n4, c4, s4, H4, h4', m4⟩ := hrow 4 (by decide)
      refine ⟨⟨nd, kd, st, ct, mn, a0, l0, n0, c0, a1, l1, n1, c1, a2, l2, n2, c2, a3, l3, n3, c3, a4, l4, n4, c4⟩, fun b off hab => ?_⟩
      subst hab
      have q : ∀ j, j < 10 → W.cell? ⟨b, off + i * 10 + j, none⟩ = cs'[j]? := fun j hj => by
        have := h2 j hj
        rwa [add_row, add_row] at this
      exact ⟨(q 0 (by decide)).trans p0, (q 1 (by decide)).trans p1, (q 2 (by decide)).trans p2, (q 3 (by decide)).trans p3, (q 4 (by decide)).trans p4, (q 5 (by decide)).trans s0, H0, h0, m0, (q 6 (by decide)).trans s1, H1, h1', m1, (q 7 (by decide)).trans s2, H2, h2', m2, (q 8 (by decide)).trans s3, H3, h3', m3, (q 9 (by decide)).trans s4, H4, h4', m4, j0, j1, j2, j3⟩
    subst hl
    refine ⟨some a', l, _, c, rfl, fun h0 => ?_, rfl⟩
    obtain ⟨b, off, spot⟩ := a'
    have hspot : spot = none := by
      obtain ⟨cs', h1, h2, h3⟩ := hi 0 (by omega)
      rw [cells44] at h1 h2
      have h4 := h2 0 (by decide)
      obtain ⟨v0, hv0⟩ : ∃ v0, cs'[0]? = some v0 := ⟨_, List.getElem?_eq_getElem (by omega)⟩
      rw [hv0] at h4
      simpa [Addr.add] using World.cell?_spot h4
    subst hspot
    exact ⟨b, off, rfl, fun i z hz => hq i z hz b off rfl⟩
end
end Go.Proofs.Ytneibbefkjjlnaa
