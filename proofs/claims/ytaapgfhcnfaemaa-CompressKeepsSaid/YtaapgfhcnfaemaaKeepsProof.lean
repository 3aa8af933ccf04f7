/- CompressKeeps returns true for all data, and changes no argument; no condition. -/
import Derived.Test.YtaapgfhcnfaemaaFrame
import Derived.Test.YtaapgfhcnfaemaaLaws6
namespace Go.Proofs.Ytaapgfhcnfaemaa
open Go.ChangeShapes Go.WideShapes Go.ChangeAt Go.RowKit Go.Lift
set_option maxRecDepth 100000 in
theorem compressKeeps_lifted (os : Os) (started : os.Started) (H : Type) (enc : TypeId × Value → H) :
    ReturnsInHanded {} Try.checked os 10 .any (Rows.compressKeepsSpec.pre6 enc Try.prog Try.f10 Rows.compressKeepsRow.domain false) (Rows.compressKeepsSpec.post enc Try.prog Try.f10 false true false false) := by
  refine law_lift (C := Try.checked) (tb := 4) own started (by kernel_rfl) Try.func10
    (ChangeSpec.witness6 (enc := enc) (C := Try.checked) false ⟨#[], #[.slice none 0 0], []⟩ 8 (by kernel_rfl) (by kernel_rfl) (by kernel_rfl) (by kernel_rfl))
    laidOut rfl ?_ rfl Try.underlying4 (by kernel_rfl) ?_
  · intro ds h
    have h' : ds.length = 1 := h
    match ds, h' with
    | [_], _ => rfl
  · intro W vs h
    have h' : Args Try.prog W [22] vs := h
    obtain ⟨v0, vs, rfl, k0, r0, h'⟩ := h'.cons
    obtain rfl := h'.nil
    obtain ⟨a, l, n, c, rfl, H⟩ := arg_bytes k0 r0
    exact law_keeps a l n c W H
theorem compressKeeps_holds : Rows.CompressKeepsSaid :=
  OpenClaim.holds_of_wide 10 Try.f10 rfl rfl rfl rfl rfl rfl rfl ⟨rfl, rfl, rfl, rfl, rfl⟩ rfl rfl rfl rfl rfl (by kernel_rfl) Try.func10 (by kernel_rfl)
    (of_decide_eq_true (by kernel_rfl)) (by unfold Func.isWrapper; rw [if_neg (of_decide_eq_false (by kernel_rfl))]; exact ⟨rfl, rfl⟩)
    (fun os started H enc _ => compressKeeps_lifted os started H enc)
#print axioms compressKeeps_holds
end Go.Proofs.Ytaapgfhcnfaemaa
