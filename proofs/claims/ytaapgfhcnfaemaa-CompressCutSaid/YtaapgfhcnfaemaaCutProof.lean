/- CompressCut returns true for all data and every byte, and changes no argument; no condition. -/
import Derived.Test.YtaapgfhcnfaemaaFrame
import Derived.Test.YtaapgfhcnfaemaaLaws4
namespace Go.Proofs.Ytaapgfhcnfaemaa
open Go.ChangeShapes Go.WideShapes Go.ChangeAt Go.RowKit Go.Lift
set_option maxRecDepth 100000 in
theorem compressCut_lifted (os : Os) (started : os.Started) (H : Type) (enc : TypeId × Value → H) :
    ReturnsInHanded {} Try.checked os 8 .any (Rows.compressCutSpec.pre6 enc Try.prog Try.f8 Rows.compressCutRow.domain false) (Rows.compressCutSpec.post enc Try.prog Try.f8 false true false false) := by
  refine law_lift (C := Try.checked) (tb := 4) own started (by kernel_rfl) Try.func8
    (ChangeSpec.witness6 (enc := enc) (C := Try.checked) false ⟨#[], #[.slice none 0 0, .int .u8 0], []⟩ 8 (by kernel_rfl) (by kernel_rfl) (by kernel_rfl) (by kernel_rfl))
    laidOut rfl ?_ rfl Try.underlying4 (by kernel_rfl) ?_
  · intro ds h
    have h' : ds.length = 2 := h
    match ds, h' with
    | [_, _], _ => rfl
  · intro W vs h
    have h' : Args Try.prog W [22, 5] vs := h
    obtain ⟨v0, vs, rfl, k0, r0, h'⟩ := h'.cons
    obtain ⟨v1, vs, rfl, k1, r1, h'⟩ := h'.cons
    obtain rfl := h'.nil
    obtain ⟨a, l, n, c, rfl, H⟩ := arg_bytes k0 r0
    obtain ⟨x, rfl, hx0, hx1⟩ := arg_u8 k1 r1
    exact law_cut a l n c x hx0 hx1 W H
theorem compressCut_holds : Rows.CompressCutSaid :=
  OpenClaim.holds_of_wide 8 Try.f8 rfl rfl rfl rfl rfl rfl rfl ⟨rfl, rfl, rfl, rfl, rfl⟩ rfl rfl rfl rfl rfl (by kernel_rfl) Try.func8 (by kernel_rfl)
    (of_decide_eq_true (by kernel_rfl)) (by unfold Func.isWrapper; rw [if_neg (of_decide_eq_false (by kernel_rfl))]; exact ⟨rfl, rfl⟩)
    (fun os started H enc _ => compressCut_lifted os started H enc)
#print axioms compressCut_holds
end Go.Proofs.Ytaapgfhcnfaemaa
