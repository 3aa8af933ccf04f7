/- WatermarkFloors returns true for every marks, contexts, numbers of free frames and states, and changes no argument; no condition. -/
import Derived.Test.YtneibbefkjjlnaaFrame
import Derived.Test.YtneibbefkjjlnaaWalks5
namespace Go.Proofs.Ytneibbefkjjlnaa
open Go.ChangeShapes Go.WideShapes Go.ChangeAt Go.RowKit Go.Lift
set_option maxRecDepth 100000 in
theorem watermarkFloors_lifted (os : Os) (started : os.Started) (H : Type) (enc : TypeId × Value → H) :
    ReturnsInHanded {} Try.checked os 4 .any (Rows.watermarkFloorsSpec.pre6 enc Try.prog Try.f4 Rows.watermarkFloorsRow.domain false) (Rows.watermarkFloorsSpec.post enc Try.prog Try.f4 false true false false) := by
  refine law_lift (C := Try.checked) (tb := 4) own started (by kernel_rfl) Try.func4
    (ChangeSpec.witness6 (enc := enc) (C := Try.checked) false ⟨#[], #[.agg #[.int .i64 0, .int .i64 0, .int .i64 0], .agg #[.int .i64 0, .int .i64 0], .bool false], []⟩ 8 (by kernel_rfl) (by kernel_rfl) (by kernel_rfl) (by kernel_rfl))
    laidOut rfl ?_ rfl Try.underlying4 (by kernel_rfl) ?_
  · intro ds h
    have h' : ds.length = 3 := h
    match ds, h' with
    | [_, _, _], _ => rfl
  · intro W vs h
    have h' : Args Try.prog W [23, 29, 4] vs := h
    obtain ⟨v0, vs, rfl, k0, r0, h'⟩ := h'.cons
    obtain ⟨v1, vs, rfl, k1, r1, h'⟩ := h'.cons
    obtain ⟨v2, vs, rfl, k2, r2, h'⟩ := h'.cons
    obtain rfl := h'.nil
    obtain ⟨a, b, c, rfl, _⟩ := arg_marks k0 r0
    obtain ⟨x, y, rfl, _⟩ := arg_two k1 r1
    obtain ⟨r, rfl⟩ := arg_bool k2
    exact law_floors a b c x y r W
theorem watermarkFloors_holds : Rows.WatermarkFloorsSaid :=
  OpenClaim.holds_of_wide 4 Try.f4 rfl rfl rfl rfl rfl rfl rfl ⟨rfl, rfl, rfl, rfl, rfl⟩ rfl rfl rfl rfl rfl (by kernel_rfl) Try.func4 (by kernel_rfl)
    (of_decide_eq_true (by kernel_rfl)) (by unfold Func.isWrapper; rw [if_neg (of_decide_eq_false (by kernel_rfl))]; exact ⟨rfl, rfl⟩)
    (fun os started H enc _ => watermarkFloors_lifted os started H enc)
#print axioms watermarkFloors_holds
end Go.Proofs.Ytneibbefkjjlnaa
