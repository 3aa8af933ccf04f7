/- DeviceKeepsAll returns true for every list of acts, and changes no argument; no condition. -/
import Derived.Test.YtlhbjmoncdljoaaDFrame
import Derived.Test.YtlhbjmoncdljoaaE6
namespace Go.Proofs.Ytlhbjmoncdljoaa
open Go.ChangeShapes Go.WideShapes Go.ChangeAt Go.RowKit Go.Lift
set_option maxRecDepth 100000 in
theorem deviceKeepsAll_lifted (os : Os) (started : os.Started) (H : Type) (enc : TypeId × Value → H) :
    ReturnsInHanded {} Try.checked os 9 .any (Rows.deviceKeepsAllSpec.pre6 enc Try.prog Try.f9 Rows.deviceKeepsAllRow.domain false) (Rows.deviceKeepsAllSpec.post enc Try.prog Try.f9 false true false false) := by
  refine law_lift (C := Try.checked) (tb := 4) own started (by kernel_rfl) Try.func9
    (ChangeSpec.witness6 (enc := enc) (C := Try.checked) false ⟨#[], #[.slice none 0 0], []⟩ 8 (by kernel_rfl) (by kernel_rfl) (by kernel_rfl) (by kernel_rfl))
    laidOut rfl ?_ rfl Try.underlying4 (by kernel_rfl) ?_
  · intro ds h
    have h' : ds.length = 1 := h
    match ds, h' with
    | [_], _ => rfl
  · intro W vs h
    have h' : Args Try.prog W [50] vs := h
    obtain ⟨v0, vs, rfl, k0, r0, h'⟩ := h'.cons
    obtain rfl := h'.nil
    obtain ⟨a0, l0, n0, c0, rfl, H0, hn0⟩ := arg_acts k0 r0
    exact law_keepsall a0 l0 n0 c0 W H0 hn0
theorem deviceKeepsAll_holds : Rows.DeviceKeepsAllSaid :=
  OpenClaim.holds_of_wide 9 Try.f9 rfl rfl rfl rfl rfl rfl rfl ⟨rfl, rfl, rfl, rfl, rfl⟩ rfl rfl rfl rfl rfl (by kernel_rfl) Try.func9 (by kernel_rfl)
    (of_decide_eq_true (by kernel_rfl)) (by unfold Func.isWrapper; rw [if_neg (of_decide_eq_false (by kernel_rfl))]; exact ⟨rfl, rfl⟩)
    (fun os started H enc _ => deviceKeepsAll_lifted os started H enc)
#print axioms deviceKeepsAll_holds
end Go.Proofs.Ytlhbjmoncdljoaa
