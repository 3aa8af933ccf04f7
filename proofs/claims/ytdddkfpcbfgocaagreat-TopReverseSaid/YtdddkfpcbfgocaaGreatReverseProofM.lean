/- TopReverse returns true for every list of operations, and changes no argument; no condition. -/
import Derived.Test.YtdddkfpcbfgocaaGreatRv4
namespace Go.Proofs.YtdddkfpcbfgocaaGreat
open Go.ChangeShapes Go.WideShapes Go.ChangeAt Go.RowKit Go.Lift
set_option maxRecDepth 100000 in
theorem topReverse_lifted (os : Os) (started : os.Started) (H : Type) (enc : TypeId × Value → H) :
    ReturnsInHanded {} Tryz.checked os 6 .any (Rows.topReverseSpec.pre6 enc Tryz.prog Tryz.f6 Rows.topReverseRow.domain false) (Rows.topReverseSpec.post enc Tryz.prog Tryz.f6 false true false false) := by
  refine law_lift (C := Tryz.checked) (tb := 4) own started (by kernel_rfl) Tryz.func6
    (ChangeSpec.witness6 (enc := enc) (C := Tryz.checked) false ⟨#[], #[.slice none 0 0], []⟩ 8 (by kernel_rfl) (by kernel_rfl) (by kernel_rfl) (by kernel_rfl))
    laidOut rfl ?_ rfl Tryz.underlying4 (by kernel_rfl) ?_
  · intro ds h
    have h' : ds.length = 1 := h
    match ds, h' with
    | [_], _ => rfl
  · intro W vs h
    have h' : Args Tryz.prog W [62] vs := h
    obtain ⟨v0, vs, rfl, k0, r0, h'⟩ := h'.cons
    obtain rfl := h'.nil
    obtain ⟨oa, os, n, c, rfl, HO, hn⟩ := arg_mops k0 r0
    exact reverse oa os n c W HO hn
theorem topReverse_holds : Rows.TopReverseSaid :=
  OpenClaim.holds_of_wide 6 Tryz.f6 rfl rfl rfl rfl rfl rfl rfl ⟨rfl, rfl, rfl, rfl, rfl⟩ rfl rfl rfl rfl rfl (by kernel_rfl) Tryz.func6 (by kernel_rfl)
    (of_decide_eq_true (by kernel_rfl)) (by unfold Func.isWrapper; rw [if_neg (of_decide_eq_false (by kernel_rfl))]; exact ⟨rfl, rfl⟩)
    (fun os started H enc _ => topReverse_lifted os started H enc)
#print axioms topReverse_holds
end Go.Proofs.YtdddkfpcbfgocaaGreat
