/- WatermarkCycle returns true for every marks and list of numbers of free frames, and changes no argument; no condition. -/
import Derived.Test.YtneibbefkjjlnaaFrame
import Derived.Test.YtneibbefkjjlnaaWalks7
namespace Go.Proofs.Ytneibbefkjjlnaa
open Go.ChangeShapes Go.WideShapes Go.ChangeAt Go.RowKit Go.Lift
set_option maxRecDepth 100000 in
theorem watermarkCycle_lifted (os : Os) (started : os.Started) (H : Type) (enc : TypeId × Value → H) :
    ReturnsInHanded {} Try.checked os 8 .any (Rows.watermarkCycleSpec.pre6 enc Try.prog Try.f8 Rows.watermarkCycleRow.domain false) (Rows.watermarkCycleSpec.post enc Try.prog Try.f8 false true false false) := by
  refine law_lift (C := Try.checked) (tb := 4) own started (by kernel_rfl) Try.func8
    (ChangeSpec.witness6 (enc := enc) (C := Try.checked) false ⟨#[], #[.agg #[.int .i64 0, .int .i64 0, .int .i64 0], .slice none 0 0], []⟩ 8 (by kernel_rfl) (by kernel_rfl) (by kernel_rfl) (by kernel_rfl))
    laidOut rfl ?_ rfl Try.underlying4 (by kernel_rfl) ?_
  · intro ds h
    have h' : ds.length = 2 := h
    match ds, h' with
    | [_, _], _ => rfl
  · intro W vs h
    have h' : Args Try.prog W [23, 33] vs := h
    obtain ⟨v0, vs, rfl, k0, r0, h'⟩ := h'.cons
    obtain ⟨v1, vs, rfl, k1, r1, h'⟩ := h'.cons
    obtain rfl := h'.nil
    obtain ⟨x, y, z, rfl, _⟩ := arg_marks k0 r0
    obtain ⟨a, n, c, f, rfl, H⟩ := arg_list k1 r1
    exact law_cycle a n c f x y z W H
theorem watermarkCycle_holds : Rows.WatermarkCycleSaid :=
  OpenClaim.holds_of_wide 8 Try.f8 rfl rfl rfl rfl rfl rfl rfl ⟨rfl, rfl, rfl, rfl, rfl⟩ rfl rfl rfl rfl rfl (by kernel_rfl) Try.func8 (by kernel_rfl)
    (of_decide_eq_true (by kernel_rfl)) (by unfold Func.isWrapper; rw [if_neg (of_decide_eq_false (by kernel_rfl))]; exact ⟨rfl, rfl⟩)
    (fun os started H enc _ => watermarkCycle_lifted os started H enc)
#print axioms watermarkCycle_holds
end Go.Proofs.Ytneibbefkjjlnaa
