/- TopSlabFrames returns true for every list of operations and number, and changes no argument; no condition. -/
import Derived.Test.YtdddkfpcbfgocaaGreatK7
import Derived.Test.YtdddkfpcbfgocaaGreatK8
namespace Go.Proofs.YtdddkfpcbfgocaaGreat
open Go.ChangeShapes Go.WideShapes Go.ChangeAt Go.RowKit Go.Lift
set_option maxRecDepth 100000 in
theorem topSlabFrames_lifted (os : Os) (started : os.Started) (H : Type) (enc : TypeId × Value → H) :
    ReturnsInHanded {} Tryz.checked os 4 .any (Rows.topSlabFramesSpec.pre6 enc Tryz.prog Tryz.f4 Rows.topSlabFramesRow.domain false) (Rows.topSlabFramesSpec.post enc Tryz.prog Tryz.f4 false true false false) := by
  refine law_lift (C := Tryz.checked) (tb := 4) own started (by kernel_rfl) Tryz.func4
    (ChangeSpec.witness6 (enc := enc) (C := Tryz.checked) false ⟨#[], #[.slice none 0 0, .int .u8 0], []⟩ 8 (by kernel_rfl) (by kernel_rfl) (by kernel_rfl) (by kernel_rfl))
    laidOut rfl ?_ rfl Tryz.underlying4 (by kernel_rfl) ?_
  · intro ds h
    have h' : ds.length = 2 := h
    match ds, h' with
    | [_, _], _ => rfl
  · intro W vs h
    have h' : Args Tryz.prog W [22, 5] vs := h
    obtain ⟨v0, vs, rfl, k0, r0, h'⟩ := h'.cons
    obtain ⟨v1, vs, rfl, k1, r1, h'⟩ := h'.cons
    obtain rfl := h'.nil
    obtain ⟨oa, os, n, c, rfl, HO, hn⟩ := arg_sops k0 r0
    obtain ⟨o, rfl, o0, o1⟩ := arg_u8 k1 r1
    exact slabFrames o oa os n c W HO hn o0 o1
theorem topSlabFrames_holds : Rows.TopSlabFramesSaid :=
  OpenClaim.holds_of_wide 4 Tryz.f4 rfl rfl rfl rfl rfl rfl rfl ⟨rfl, rfl, rfl, rfl, rfl⟩ rfl rfl rfl rfl rfl (by kernel_rfl) Tryz.func4 (by kernel_rfl)
    (of_decide_eq_true (by kernel_rfl)) (by unfold Func.isWrapper; rw [if_neg (of_decide_eq_false (by kernel_rfl))]; exact ⟨rfl, rfl⟩)
    (fun os started H enc _ => topSlabFrames_lifted os started H enc)
#print axioms topSlabFrames_holds
end Go.Proofs.YtdddkfpcbfgocaaGreat
