/- TopNearest returns true for every list of bytes, and changes no argument; no condition. -/
import Derived.Test.YtdddkfpcbfgocaaGreatK10
namespace Go.Proofs.YtdddkfpcbfgocaaGreat
open Go.ChangeShapes Go.WideShapes Go.ChangeAt Go.RowKit Go.Lift
set_option maxRecDepth 100000 in
theorem topNearest_lifted (os : Os) (started : os.Started) (H : Type) (enc : TypeId × Value → H) :
    ReturnsInHanded {} Tryz.checked os 5 .any (Rows.topNearestSpec.pre6 enc Tryz.prog Tryz.f5 Rows.topNearestRow.domain false) (Rows.topNearestSpec.post enc Tryz.prog Tryz.f5 false true false false) := by
  refine law_lift (C := Tryz.checked) (tb := 4) own started (by kernel_rfl) Tryz.func5
    (ChangeSpec.witness6 (enc := enc) (C := Tryz.checked) false ⟨#[], #[.slice none 0 0], []⟩ 8 (by kernel_rfl) (by kernel_rfl) (by kernel_rfl) (by kernel_rfl))
    laidOut rfl ?_ rfl Tryz.underlying4 (by kernel_rfl) ?_
  · intro ds h
    have h' : ds.length = 1 := h
    match ds, h' with
    | [_], _ => rfl
  · intro W vs h
    have h' : Args Tryz.prog W [54] vs := h
    obtain ⟨v0, vs, rfl, k0, r0, h'⟩ := h'.cons
    obtain rfl := h'.nil
    obtain ⟨oa, os, n, c, rfl, HO, hn⟩ := arg_bops k0 r0
    exact nearest oa os n c W HO hn
theorem topNearest_holds : Rows.TopNearestSaid :=
  OpenClaim.holds_of_wide 5 Tryz.f5 rfl rfl rfl rfl rfl rfl rfl ⟨rfl, rfl, rfl, rfl, rfl⟩ rfl rfl rfl rfl rfl (by kernel_rfl) Tryz.func5 (by kernel_rfl)
    (of_decide_eq_true (by kernel_rfl)) (by unfold Func.isWrapper; rw [if_neg (of_decide_eq_false (by kernel_rfl))]; exact ⟨rfl, rfl⟩)
    (fun os started H enc _ => topNearest_lifted os started H enc)
#print axioms topNearest_holds
end Go.Proofs.YtdddkfpcbfgocaaGreat
