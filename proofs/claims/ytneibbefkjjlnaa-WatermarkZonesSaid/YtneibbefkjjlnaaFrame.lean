/- What is the same in every row of this seat: the arguments opened. -/
import Derived.Test.YtneibbefkjjlnaaRows
import Derived.Test.YtneibbefkjjlnaaLift
import Derived.Test.YtneibbefkjjlnaaWalks2
namespace Go.Proofs.Ytneibbefkjjlnaa
open Go.ChangeShapes Go.WideShapes Go.ChangeAt Go.RowKit Go.Lift

theorem own : ownKnob Try.prog.godebug = none := by kernel_rfl
theorem laidOut : laidOutB Try.prog = true := by kernel_rfl
theorem cells3 : Try.prog.cellsOf 3 = 1 := by kernel_rfl
theorem cells23 : Try.prog.cellsOf 23 = 3 := by kernel_rfl
theorem cells29 : Try.prog.cellsOf 29 = 2 := by kernel_rfl
theorem cells5 : Try.prog.cellsOf 5 = 1 := by kernel_rfl
theorem cells38 : Try.prog.cellsOf 38 = 3 := by kernel_rfl

section
variable {W : World} {v : Value}
theorem arg_int (hv : ∃ base, Value.okWide Try.prog W .any base 3 v) (hr : Rd Try.prog W 3 v.cells.toList) : ∃ n, v = .int .i64 n ∧ (Lit.int .i64 n).wf = true := by
  obtain ⟨_, hv⟩ := hv
  obtain ⟨n, rfl⟩ := okWide_int Try.underlying3 hv
  obtain ⟨m, h, wm⟩ := hr.int Try.underlying3
  simp [Value.cells] at h
  subst h
  exact ⟨_, rfl, wm⟩
theorem arg_bool (hv : ∃ base, Value.okWide Try.prog W .any base 4 v) : ∃ b, v = .bool b := by
  obtain ⟨_, hv⟩ := hv
  exact okWide_bool Try.underlying4 hv
theorem arg_marks (hv : ∃ base, Value.okWide Try.prog W .any base 23 v) (hr : Rd Try.prog W 23 v.cells.toList) :
    ∃ a b c, v = .agg #[.int .i64 a, .int .i64 b, .int .i64 c] ∧ (Lit.int .i64 a).wf = true ∧ (Lit.int .i64 b).wf = true ∧ (Lit.int .i64 c).wf = true := by
  obtain ⟨_, hv⟩ := hv
  obtain ⟨cs, rfl, hsz⟩ := okWide_struct Try.underlying23 hv
  replace hr : Rd Try.prog W 23 cs.toList := hr
  obtain ⟨hl, hf⟩ := hr.struct Try.underlying23
  obtain ⟨x, hx, wx⟩ := (show Rd Try.prog W 3 ((cs.toList.drop 0).take (Try.prog.cellsOf 3)) from hf 0 _ rfl).int Try.underlying3
  obtain ⟨y, hy, wy⟩ := (show Rd Try.prog W 3 ((cs.toList.drop 1).take (Try.prog.cellsOf 3)) from hf 1 _ rfl).int Try.underlying3
  obtain ⟨z, hz, wz⟩ := (show Rd Try.prog W 3 ((cs.toList.drop 2).take (Try.prog.cellsOf 3)) from hf 2 _ rfl).int Try.underlying3
  rw [cells23] at hl
  simp only [cells3] at hx hy hz
  exact ⟨x, y, z, by rw [arr_of_list (list3_of hl hx hy hz)], wx, wy, wz⟩
theorem okWide_array {P : Program} {w : World} {r : Reach} {base : Nat} {t e : TypeId} {n : Nat} {v : Value} (ht : P.underlying t = some (.array n e)) (h : Value.okWide P w r base t v) : ∃ cs, v = .agg cs ∧ cs.size = P.cellsOf t := by
  simp only [Value.okWide, ht] at h
  obtain ⟨cs, h1, h2, _⟩ := h
  exact ⟨cs, h1, h2⟩
theorem arg_two (hv : ∃ base, Value.okWide Try.prog W .any base 29 v) (hr : Rd Try.prog W 29 v.cells.toList) :
    ∃ a b, v = .agg #[.int .i64 a, .int .i64 b] ∧ (Lit.int .i64 a).wf = true ∧ (Lit.int .i64 b).wf = true := by
  obtain ⟨_, hv⟩ := hv
  obtain ⟨cs, rfl, hsz⟩ := okWide_array Try.underlying29 hv
  replace hr : Rd Try.prog W 29 cs.toList := hr
  obtain ⟨hl, hf⟩ := hr.array Try.underlying29
  obtain ⟨x, hx, wx⟩ := (hf 0 (by decide)).int Try.underlying3
  obtain ⟨y, hy, wy⟩ := (hf 1 (by decide)).int Try.underlying3
  rw [cells29] at hl
  simp only [cells3] at hx hy
  exact ⟨x, y, by rw [arr_of_list (list2_of hl hx hy)], wx, wy⟩
theorem arg_bytes3 (hv : ∃ base, Value.okWide Try.prog W .any base 38 v) (hr : Rd Try.prog W 38 v.cells.toList) :
    ∃ a b c, v = .agg #[.int .u8 a, .int .u8 b, .int .u8 c] ∧ (Lit.int .u8 a).wf = true ∧ (Lit.int .u8 b).wf = true ∧ (Lit.int .u8 c).wf = true := by
  obtain ⟨_, hv⟩ := hv
  obtain ⟨cs, rfl, hsz⟩ := okWide_array Try.underlying38 hv
  replace hr : Rd Try.prog W 38 cs.toList := hr
  obtain ⟨hl, hf⟩ := hr.array Try.underlying38
  obtain ⟨x, hx, wx⟩ := (hf 0 (by decide)).int Try.underlying5
  obtain ⟨y, hy, wy⟩ := (hf 1 (by decide)).int Try.underlying5
  obtain ⟨z, hz, wz⟩ := (hf 2 (by decide)).int Try.underlying5
  rw [cells38] at hl
  simp only [cells5] at hx hy hz
  exact ⟨x, y, z, by rw [arr_of_list (list3_of hl hx hy hz)], wx, wy, wz⟩
theorem arg_list (hv : ∃ base, Value.okWide Try.prog W .any base 33 v) (hr : Rd Try.prog W 33 v.cells.toList) : ∃ a n c f, v = .slice a n c ∧ SliceInts W a n f := by
  obtain ⟨_, hv⟩ := hv
  obtain ⟨a, n, c, rfl⟩ := okWide_slice Try.underlying33 hv
  obtain ⟨a', n', c', f, h, h1, h2, _, h4, h5, _⟩ := hr.ints Try.underlying33 Try.underlying3 cells3
  simp [Value.cells] at h
  obtain ⟨rfl, rfl, rfl⟩ := h
  unfold maxLen at h2
  exact ⟨_, _, _, f, rfl, by omega, h4, h5⟩
end
end Go.Proofs.Ytneibbefkjjlnaa
