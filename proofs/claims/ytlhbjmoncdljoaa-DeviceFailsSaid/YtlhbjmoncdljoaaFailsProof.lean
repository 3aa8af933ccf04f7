/- DeviceFails returns true for every list of acts and every position, and changes no argument; no condition. -/
import Derived.Test.YtlhbjmoncdljoaaDFrame
import Derived.Test.YtlhbjmoncdljoaaE7
namespace Go.Proofs.Ytlhbjmoncdljoaa
open Go.ChangeShapes Go.WideShapes Go.ChangeAt Go.RowKit Go.Lift
set_option maxRecDepth 100000 in
theorem deviceFails_lifted (os : Os) (started : os.Started) (H : Type) (enc : TypeId × Value → H) :
    ReturnsInHanded {} Try.checked os 10 .any (Rows.deviceFailsSpec.pre6 enc Try.prog Try.f10 Rows.deviceFailsRow.domain false) (Rows.deviceFailsSpec.post enc Try.prog Try.f10 false true false false) := by
  refine law_lift (C := Try.checked) (tb := 4) own started (by kernel_rfl) Try.func10
    (ChangeSpec.witness6 (enc := enc) (C := Try.checked) false ⟨#[], #[.slice none 0 0, .int .u8 0], []⟩ 8 (by kernel_rfl) (by kernel_rfl) (by kernel_rfl) (by kernel_rfl))
    laidOut rfl ?_ rfl Try.underlying4 (by kernel_rfl) ?_
  · intro ds h
    have h' : ds.length = 2 := h
    match ds, h' with
    | [_, _], _ => rfl
  · intro W vs h
    have h' : Args Try.prog W [50, 5] vs := h
    obtain ⟨v0, vs, rfl, k0, r0, h'⟩ := h'.cons
    obtain ⟨v1, vs, rfl, k1, r1, h'⟩ := h'.cons
    obtain rfl := h'.nil
    obtain ⟨a0, l0, n0, c0, rfl, H0, hn0⟩ := arg_acts k0 r0
    obtain ⟨x, rfl, hx0, _⟩ := arg_u8 k1 r1
    exact law_fails a0 l0 n0 c0 x hx0 W H0 hn0
theorem deviceFails_holds : Rows.DeviceFailsSaid :=
  OpenClaim.holds_of_wide 10 Try.f10 rfl rfl rfl rfl rfl rfl rfl ⟨rfl, rfl, rfl, rfl, rfl⟩ rfl rfl rfl rfl rfl (by kernel_rfl) Try.func10 (by kernel_rfl)
    (of_decide_eq_true (by kernel_rfl)) (by unfold Func.isWrapper; rw [if_neg (of_decide_eq_false (by kernel_rfl))]; exact ⟨rfl, rfl⟩)
    (fun os started H enc _ => deviceFails_lifted os started H enc)
#print axioms deviceFails_holds
end Go.Proofs.Ytlhbjmoncdljoaa
