/- What is the same in every row of this seat: the arguments opened. -/
import Derived.Test.YtaapgfhcnfaemaaRows
import Derived.Test.YtaapgfhcnfaemaaLift
import Derived.Test.YtaapgfhcnfaemaaLaws2
import Derived.Stop.BytesEq
namespace Go.Proofs.Ytaapgfhcnfaemaa
open Go.ChangeShapes Go.WideShapes Go.ChangeAt Go.RowKit Go.Lift Go.Zip
theorem own : ownKnob Try.prog.godebug = none := by kernel_rfl
theorem laidOut : laidOutB Try.prog = true := by kernel_rfl
theorem cells5 : Try.prog.cellsOf 5 = 1 := by kernel_rfl
theorem cells29 : Try.prog.cellsOf 29 = 32 := by kernel_rfl
theorem okWide_array {P : Program} {w : World} {r : Reach} {base : Nat} {t e : TypeId} {n : Nat} {v : Value} (ht : P.underlying t = some (.array n e)) (h : Value.okWide P w r base t v) : ∃ cs, v = .agg cs ∧ cs.size = P.cellsOf t := by
  simp only [Value.okWide, ht] at h
  obtain ⟨cs, h1, h2, _⟩ := h
  exact ⟨cs, h1, h2⟩
theorem u8_wf {x : Int} (h : (Lit.int .u8 x).wf = true) : 0 ≤ x ∧ x ≤ 255 := by
  simp [Lit.wf, IntKind.min, IntKind.max, IntKind.bits, IntKind.signed] at h
  omega
section
variable {W : World} {v : Value}
theorem arg_u8 (hv : ∃ base, Value.okWide Try.prog W .any base 5 v) (hr : Rd Try.prog W 5 v.cells.toList) : ∃ n, v = .int .u8 n ∧ 0 ≤ n ∧ n ≤ 255 := by
  obtain ⟨_, hv⟩ := hv
  obtain ⟨n, rfl⟩ := okWide_int Try.underlying5 hv
  obtain ⟨m, h, wm⟩ := hr.int Try.underlying5
  simp [Value.cells] at h
  subst h
  exact ⟨_, rfl, u8_wf wm⟩
theorem arg_bytes (hv : ∃ base, Value.okWide Try.prog W .any base 22 v) (hr : Rd Try.prog W 22 v.cells.toList) : ∃ a l n c, v = .slice a n c ∧ In W a l n c := by
  obtain ⟨_, hv⟩ := hv
  obtain ⟨a, n, c, rfl⟩ := okWide_slice Try.underlying22 hv
  obtain ⟨a', n', c', f, h, h1, h2, h3, h4, _, h6⟩ := hr.ints Try.underlying22 Try.underlying5 cells5
  simp [Value.cells] at h
  obtain ⟨rfl, rfl, rfl⟩ := h
  have hl : ((List.range n).map f).length = n := by simp
  refine ⟨_, (List.range n).map f, _, _, rfl, ⟨fun hn => ⟨by rw [hl]; omega, fun h0 => ?_, ?_⟩, hl, h1, h2, h3⟩⟩
  · rw [hl] at h0
    obtain ⟨b, off, rfl, hc⟩ := h4 h0
    refine ⟨b, off, rfl, fun i hi => ?_⟩
    rw [hl] at hi
    rw [hc i hi, get_lt (by rw [hl]; exact hi)]
    simp
  · intro x hx
    obtain ⟨i, hi, rfl⟩ := List.mem_map.1 hx
    exact u8_wf (h6 i (List.mem_range.1 hi))
theorem bytes_of : ∀ {l : List Value}, (∀ i, i < l.length → ∃ x, (l.drop i).take 1 = [.int .u8 x] ∧ (Lit.int .u8 x).wf = true) → ∃ xs : List UInt8, l = xs.map Extern.Stop.cell
  | [], _ => ⟨[], rfl⟩
  | v :: l, h => by
    obtain ⟨x, hx, hw⟩ := h 0 (by simp)
    obtain ⟨xs, rfl⟩ := bytes_of (l := l) fun i hi => by
      have := h (i + 1) (by simp; omega)
      simpa using this
    have hb := u8_wf hw
    refine ⟨UInt8.ofNat x.toNat :: xs, ?_⟩
    simp at hx
    subst hx
    simp [Extern.Stop.cell]
    omega
theorem arg_page (hv : ∃ base, Value.okWide Try.prog W .any base 29 v) (hr : Rd Try.prog W 29 v.cells.toList) : ∃ xs : List UInt8, xs.length = 32 ∧ v = .agg (xs.map Extern.Stop.cell).toArray := by
  obtain ⟨_, hv⟩ := hv
  obtain ⟨cs, rfl, hsz⟩ := okWide_array Try.underlying29 hv
  replace hr : Rd Try.prog W 29 cs.toList := hr
  obtain ⟨hl, hf⟩ := hr.array Try.underlying29
  rw [cells29] at hl
  obtain ⟨xs, hxs⟩ := bytes_of (l := cs.toList) fun i hi => by
    have := (hf i (by omega)).int Try.underlying5
    simpa [cells5] using this
  refine ⟨xs, by have := congrArg List.length hxs; simp at this hl; omega, by rw [← hxs]⟩
/-- A page as numbers. -/
theorem page_nums (xs : List UInt8) (h : xs.length = 32) : ∃ l : List Int, l.length = 32 ∧ (∀ x ∈ l, 0 ≤ x ∧ x ≤ 255) ∧ (xs.map Extern.Stop.cell).toArray = (l.map (Value.int .u8)).toArray := by
  refine ⟨xs.map fun b => (b.toNat : Int), by simpa using h, ?_, by rw [List.map_map]; rfl⟩
  intro x hx
  obtain ⟨b, _, rfl⟩ := List.mem_map.1 hx
  have := b.toNat_lt
  omega
end
end Go.Proofs.Ytaapgfhcnfaemaa
