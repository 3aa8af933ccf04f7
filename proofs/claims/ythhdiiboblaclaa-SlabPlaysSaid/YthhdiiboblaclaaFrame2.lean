/- The arguments of the law on sequences, opened. -/
import Derived.Test.YthhdiiboblaclaaFrame
import Derived.Test.YthhdiiboblaclaaL6
namespace Go.Proofs.Ythhdiiboblaclaa
open Go.ChangeShapes Go.WideShapes Go.ChangeAt Go.RowKit Go.Lift Go.Slb Go.Grow Go.Over
section
variable {W : World} {v : Value}
theorem arg_u8 (hv : ∃ base, Value.okWide Try.prog W .any base 5 v) (hr : Rd Try.prog W 5 v.cells.toList) : ∃ n, v = .int .u8 n ∧ 0 ≤ n ∧ n ≤ 255 := by
  obtain ⟨_, hv⟩ := hv
  obtain ⟨n, rfl⟩ := okWide_int Try.underlying5 hv
  obtain ⟨m, h, wm⟩ := hr.int Try.underlying5
  simp [Value.cells] at h
  subst h
  simp [Lit.wf, IntKind.min, IntKind.max, IntKind.bits, IntKind.signed] at wm
  exact ⟨_, rfl, by omega, by omega⟩
theorem arg_ops (hv : ∃ base, Value.okWide Try.prog W .any base 38 v) (hr : Rd Try.prog W 38 v.cells.toList) : ∃ a l n c, v = .slice a n c ∧ OpsAt W a l ∧ l.length = n ∧ ∀ p ∈ l, (-9223372036854775808 ≤ p.1 ∧ p.1 ≤ 9223372036854775807) ∧ (-9223372036854775808 ≤ p.2 ∧ p.2 ≤ 9223372036854775807) := by
  obtain ⟨_, hv⟩ := hv
  obtain ⟨a, n, c, rfl⟩ := okWide_slice Try.underlying38 hv
  rcases hr.slice Try.underlying38 with h | ⟨a', n', c', h, hn, hm, hi⟩
  · simp [Value.cells] at h
    obtain ⟨rfl, rfl, rfl⟩ := h
    exact ⟨_, [], _, _, rfl, fun h => absurd h (by simp), rfl, by simp⟩
  · simp [Value.cells] at h
    obtain ⟨rfl, rfl, rfl⟩ := h
    obtain ⟨l, hl, hq⟩ := list_such (Q := fun i (p : Int × Int) => (W.cell? ((a'.add (i * 2)).add 0) = some (.int .i64 p.1) ∧ W.cell? ((a'.add (i * 2)).add 1) = some (.int .i64 p.2)) ∧ (-9223372036854775808 ≤ p.1 ∧ p.1 ≤ 9223372036854775807) ∧ (-9223372036854775808 ≤ p.2 ∧ p.2 ≤ 9223372036854775807)) n fun i hi' => by
      obtain ⟨cs', h1, h2, h3⟩ := hi i (by omega)
      rw [cells40] at h1 h2
      obtain ⟨hl, hf⟩ := h3.struct Try.underlying40
      obtain ⟨x, hx, wx⟩ := (show Rd Try.prog W 3 ((cs'.drop 0).take (Try.prog.cellsOf 3)) from hf 0 _ rfl).int Try.underlying3
      obtain ⟨y, hy, wy⟩ := (show Rd Try.prog W 3 ((cs'.drop 1).take (Try.prog.cellsOf 3)) from hf 1 _ rfl).int Try.underlying3
      rw [cells3] at hx hy
      have e := list2_of h1 hx hy
      subst e
      exact ⟨(x, y), ⟨h2 0 (by omega), h2 1 (by omega)⟩, i64_wf wx, i64_wf wy⟩
    subst hl
    refine ⟨some a', l, _, c, rfl, fun h0 => ?_, rfl, fun p hp => ?_⟩
    · obtain ⟨b, off, spot⟩ := a'
      have hc0 := (hq 0 _ (List.getElem?_eq_getElem h0)).1.1
      have hspot : spot = none := by simpa [Addr.add] using World.cell?_spot hc0
      subst hspot
      refine ⟨b, off, rfl, fun i p hp => ?_⟩
      obtain ⟨h1, h2⟩ := (hq i p hp).1
      rw [add_row, add_row] at h1 h2
      exact ⟨h1, h2⟩
    · obtain ⟨i, hi⟩ := List.getElem?_of_mem hp
      exact (hq i p hi).2
end
end Go.Proofs.Ythhdiiboblaclaa
