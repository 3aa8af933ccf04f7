/- What is the same in every row of this seat: the arguments opened. -/
import Derived.Test.YthhdiiboblaclaaRows
import Derived.Test.YthhdiiboblaclaaLift
import Derived.Test.YthhdiiboblaclaaBase
import Derived.Test.YthhdiiboblaclaaW10
namespace Go.Proofs.Ythhdiiboblaclaa
open Go.ChangeShapes Go.WideShapes Go.ChangeAt Go.RowKit Go.Lift Go.Slb Go.Grow Go.Over
theorem own : ownKnob Try.prog.godebug = none := by kernel_rfl
theorem laidOut : laidOutB Try.prog = true := by kernel_rfl
theorem cells3 : Try.prog.cellsOf 3 = 1 := by kernel_rfl
theorem cells4 : Try.prog.cellsOf 4 = 1 := by kernel_rfl
theorem cells22 : Try.prog.cellsOf 22 = 1 := by kernel_rfl
theorem cells24 : Try.prog.cellsOf 24 = 2 := by kernel_rfl
theorem cells40 : Try.prog.cellsOf 40 = 2 := by kernel_rfl
theorem cells50 : Try.prog.cellsOf 50 = 1 := by kernel_rfl
theorem cells52 : Try.prog.cellsOf 52 = 2 := by kernel_rfl
theorem i64_wf {x : Int} (h : (Lit.int .i64 x).wf = true) : -9223372036854775808 ≤ x ∧ x ≤ 9223372036854775807 := by
  simp [Lit.wf, IntKind.min, IntKind.max, IntKind.bits, IntKind.signed] at h
  omega
theorem list_such {β : Type} {Q : Nat → β → Prop} : ∀ (n : Nat), (∀ i, i < n → ∃ x, Q i x) → ∃ l : List β, l.length = n ∧ ∀ i x, l[i]? = some x → Q i x
  | 0, _ => ⟨[], rfl, fun i x h => by simp at h⟩
  | n + 1, h => by
    obtain ⟨l, hl, hq⟩ := list_such n fun i hi => h i (by omega)
    obtain ⟨x, hx⟩ := h n (by omega)
    refine ⟨l ++ [x], by simp [hl], fun i y hy => ?_⟩
    rcases Nat.lt_or_ge i n with hi | hi
    · rw [List.getElem?_append_left (by omega)] at hy
      exact hq i y hy
    · rw [List.getElem?_append_right (by omega), hl] at hy
      have e : i - n = 0 := by
        rw [List.getElem?_eq_some_iff] at hy
        obtain ⟨h1, _⟩ := hy
        simp at h1; omega
      rw [e] at hy
      simp at hy
      subst hy
      have : i = n := by omega
      subst this; exact hx
section
variable {W : World} {v : Value}
theorem rd_bools {cs : List Value} (hr : Rd Try.prog W 50 cs) : ∃ a u c, cs = [.slice a u.length c] ∧ u.length ≤ c ∧ c ≤ maxLen ∧ (a = none → c = 0) ∧ Flags W a u := by
  rcases hr.slice Try.underlying50 with rfl | ⟨a, n, c, rfl, hn, hm, hi⟩
  · exact ⟨none, [], 0, rfl, Nat.le_refl _, Nat.zero_le _, fun _ => rfl, fun h => absurd h (by simp)⟩
  · obtain ⟨u, hu, hq⟩ := list_such (Q := fun i (b : Bool) => W.cell? (a.add i) = some (.bool b)) n fun i hi' => by
      obtain ⟨cs', h1, h2, h3⟩ := hi i (by omega)
      obtain ⟨b, rfl⟩ := h3.bool Try.underlying4
      have := h2 0 (by rw [cells4]; omega)
      rw [cells4, Nat.mul_one] at this
      have e0 : (a.add i).add 0 = a.add i := by simp [Addr.add]
      rw [e0] at this
      exact ⟨b, this⟩
    subst hu
    refine ⟨some a, u, c, rfl, hn, hm, (fun h => by cases h), fun h0 => ?_⟩
    obtain ⟨b, off, spot⟩ := a
    have hc0 := hq 0 _ (List.getElem?_eq_getElem h0)
    have hspot : spot = none := by simpa [Addr.add] using World.cell?_spot hc0
    subst hspot
    refine ⟨b, off, rfl, fun i hi => ?_⟩
    have := hq i _ (List.getElem?_eq_getElem hi)
    rw [add_row] at this
    rw [this, List.getD_eq_getElem?_getD, List.getElem?_eq_getElem hi]; rfl
theorem rd_slabs {cs : List Value} (hr : Rd Try.prog W 22 cs) : ∃ a l c, cs = [.slice a l.length c] ∧ Slabs W a l := by
  rcases hr.slice Try.underlying22 with rfl | ⟨a, n, c, rfl, hn, hm, hi⟩
  · exact ⟨none, [], 0, rfl, fun h => absurd h (by simp)⟩
  · obtain ⟨l, hl, hq⟩ := list_such (Q := fun i (s : S) => W.cell? ((a.add (i * 2)).add 0) = some (.int .i64 s.1) ∧ ∃ a' c', W.cell? ((a.add (i * 2)).add 1) = some (.slice a' s.2.length c') ∧ s.2.length ≤ c' ∧ c' ≤ maxLen ∧ (a' = none → c' = 0) ∧ Flags W a' s.2) n fun i hi' => by
      obtain ⟨cs', h1, h2, h3⟩ := hi i (by omega)
      rw [cells52] at h1 h2
      obtain ⟨hl, hf⟩ := h3.struct Try.underlying52
      obtain ⟨x, hx, _⟩ := (show Rd Try.prog W 3 ((cs'.drop 0).take (Try.prog.cellsOf 3)) from hf 0 _ rfl).int Try.underlying3
      obtain ⟨a', u, c', hu, hu1, hu2, hu3, hu4⟩ := rd_bools (show Rd Try.prog W 50 ((cs'.drop 1).take (Try.prog.cellsOf 50)) from hf 1 _ rfl)
      rw [cells3] at hx
      rw [cells50] at hu
      have e := list2_of h1 hx hu
      subst e
      have g0 := h2 0 (by omega)
      have g1 := h2 1 (by omega)
      exact ⟨(x, u), g0, a', c', g1, hu1, hu2, hu3, hu4⟩
    subst hl
    refine ⟨some a, l, c, rfl, fun h0 => ?_⟩
    obtain ⟨b, off, spot⟩ := a
    have hc0 := (hq 0 _ (List.getElem?_eq_getElem h0)).1
    have hspot : spot = none := by simpa [Addr.add] using World.cell?_spot hc0
    subst hspot
    refine ⟨b, off, rfl, fun i s hs => ?_⟩
    obtain ⟨h1, a', c', h2, h3⟩ := hq i s hs
    rw [add_row, add_row] at h1 h2
    exact ⟨h1, a', c', h2, h3⟩
theorem arg_int (hv : ∃ base, Value.okWide Try.prog W .any base 3 v) (hr : Rd Try.prog W 3 v.cells.toList) : ∃ n, v = .int .i64 n ∧ -9223372036854775808 ≤ n ∧ n ≤ 9223372036854775807 := by
  obtain ⟨_, hv⟩ := hv
  obtain ⟨n, rfl⟩ := okWide_int Try.underlying3 hv
  obtain ⟨m, h, wm⟩ := hr.int Try.underlying3
  simp [Value.cells] at h
  subst h
  exact ⟨_, rfl, i64_wf wm⟩
theorem arg_cache (hv : ∃ base, Value.okWide Try.prog W .any base 24 v) (hr : Rd Try.prog W 24 v.cells.toList) : ∃ o a l n c, v = .agg #[.int .i64 o, .slice a n c] ∧ Slabs W a l ∧ l.length = n ∧ -9223372036854775808 ≤ o ∧ o ≤ 9223372036854775807 := by
  obtain ⟨_, hv⟩ := hv
  obtain ⟨cs, rfl, hsz⟩ := okWide_struct Try.underlying24 hv
  replace hr : Rd Try.prog W 24 cs.toList := hr
  obtain ⟨hl, hf⟩ := hr.struct Try.underlying24
  obtain ⟨x, hx, wx⟩ := (show Rd Try.prog W 3 ((cs.toList.drop 0).take (Try.prog.cellsOf 3)) from hf 0 _ rfl).int Try.underlying3
  obtain ⟨a, l, c, hs, h1⟩ := rd_slabs (show Rd Try.prog W 22 ((cs.toList.drop 1).take (Try.prog.cellsOf 22)) from hf 1 _ rfl)
  rw [cells24] at hl
  rw [cells3] at hx
  rw [cells22] at hs
  exact ⟨x, a, l, _, c, by rw [arr_of_list (list2_of hl hx hs)], h1, rfl, i64_wf wx⟩
theorem arg_list (hv : ∃ base, Value.okWide Try.prog W .any base 31 v) (hr : Rd Try.prog W 31 v.cells.toList) : ∃ a l n c, v = .slice a n c ∧ Ints W a l ∧ l.length = n ∧ n ≤ c ∧ c ≤ maxLen ∧ (a = none → c = 0) := by
  obtain ⟨_, hv⟩ := hv
  obtain ⟨a, n, c, rfl⟩ := okWide_slice Try.underlying31 hv
  obtain ⟨a', n', c', f, h, h1, h2, h3, h4, _, _⟩ := hr.ints Try.underlying31 Try.underlying3 cells3
  simp [Value.cells] at h
  obtain ⟨rfl, rfl, rfl⟩ := h
  have hl : ((List.range n).map f).length = n := by simp
  refine ⟨_, (List.range n).map f, _, _, rfl, fun h0 => ?_, hl, h1, h2, h3⟩
  rw [hl] at h0
  obtain ⟨b, off, rfl, hc⟩ := h4 h0
  refine ⟨b, off, rfl, fun i hi => ?_⟩
  rw [hl] at hi
  rw [hc i hi]
  simp [hi]
end
end Go.Proofs.Ythhdiiboblaclaa
