/- DeviceCompletes returns true for every device, position and outcome, and changes no argument; no condition. -/
import Derived.Test.YtlhbjmoncdljoaaDFrame
import Derived.Test.YtlhbjmoncdljoaaE2
namespace Go.Proofs.Ytlhbjmoncdljoaa
open Go.ChangeShapes Go.WideShapes Go.ChangeAt Go.RowKit Go.Lift
set_option maxRecDepth 100000 in
theorem deviceCompletes_lifted (os : Os) (started : os.Started) (H : Type) (enc : TypeId × Value → H) :
    ReturnsInHanded {} Try.checked os 6 .any (Rows.deviceCompletesSpec.pre6 enc Try.prog Try.f6 Rows.deviceCompletesRow.domain false) (Rows.deviceCompletesSpec.post enc Try.prog Try.f6 false true false false) := by
  refine law_lift (C := Try.checked) (tb := 4) own started (by kernel_rfl) Try.func6
    (ChangeSpec.witness6 (enc := enc) (C := Try.checked) false ⟨#[], #[.agg #[.int .i64 0, .int .i64 0, .slice none 0 0, .slice none 0 0, .slice none 0 0], .int .i64 0, .bool false], []⟩ 8 (by kernel_rfl) (by kernel_rfl) (by kernel_rfl) (by kernel_rfl))
    laidOut rfl ?_ rfl Try.underlying4 (by kernel_rfl) ?_
  · intro ds h
    have h' : ds.length = 3 := h
    match ds, h' with
    | [_, _, _], _ => rfl
  · intro W vs h
    have h' : Args Try.prog W [26, 3, 4] vs := h
    obtain ⟨v0, vs, rfl, k0, r0, h'⟩ := h'.cons
    obtain ⟨v1, vs, rfl, k1, r1, h'⟩ := h'.cons
    obtain ⟨v2, vs, rfl, k2, r2, h'⟩ := h'.cons
    obtain rfl := h'.nil
    obtain ⟨d, H⟩ := arg_dev k0 r0
    obtain ⟨x, rfl⟩ := arg_int k1 r1
    obtain ⟨b, rfl⟩ := arg_bool k2 r2
    exact law_completes _ d x b W H
theorem deviceCompletes_holds : Rows.DeviceCompletesSaid :=
  OpenClaim.holds_of_wide 6 Try.f6 rfl rfl rfl rfl rfl rfl rfl ⟨rfl, rfl, rfl, rfl, rfl⟩ rfl rfl rfl rfl rfl (by kernel_rfl) Try.func6 (by kernel_rfl)
    (of_decide_eq_true (by kernel_rfl)) (by unfold Func.isWrapper; rw [if_neg (of_decide_eq_false (by kernel_rfl))]; exact ⟨rfl, rfl⟩)
    (fun os started H enc _ => deviceCompletes_lifted os started H enc)
#print axioms deviceCompletes_holds
end Go.Proofs.Ytlhbjmoncdljoaa
