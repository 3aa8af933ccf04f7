/- WatermarkOrder returns true for every list of free blocks, marks and three bytes, and changes no argument; no condition. -/
import Derived.Test.YtneibbefkjjlnaaFrame
import Derived.Test.YtneibbefkjjlnaaWalks9
namespace Go.Proofs.Ytneibbefkjjlnaa
open Go.ChangeShapes Go.WideShapes Go.ChangeAt Go.RowKit Go.Lift
set_option maxRecDepth 100000 in
theorem watermarkOrder_lifted (os : Os) (started : os.Started) (H : Type) (enc : TypeId × Value → H) :
    ReturnsInHanded {} Try.checked os 7 .any (Rows.watermarkOrderSpec.pre6 enc Try.prog Try.f7 Rows.watermarkOrderRow.domain false) (Rows.watermarkOrderSpec.post enc Try.prog Try.f7 false true false false) := by
  refine law_lift (C := Try.checked) (tb := 4) own started (by kernel_rfl) Try.func7
    (ChangeSpec.witness6 (enc := enc) (C := Try.checked) false ⟨#[], #[.slice none 0 0, .agg #[.int .i64 0, .int .i64 0, .int .i64 0], .agg #[.int .u8 0, .int .u8 0, .int .u8 0]], []⟩ 8 (by kernel_rfl) (by kernel_rfl) (by kernel_rfl) (by kernel_rfl))
    laidOut rfl ?_ rfl Try.underlying4 (by kernel_rfl) ?_
  · intro ds h
    have h' : ds.length = 3 := h
    match ds, h' with
    | [_, _, _], _ => rfl
  · intro W vs h
    have h' : Args Try.prog W [33, 23, 38] vs := h
    obtain ⟨v0, vs, rfl, k0, r0, h'⟩ := h'.cons
    obtain ⟨v1, vs, rfl, k1, r1, h'⟩ := h'.cons
    obtain ⟨v2, vs, rfl, k2, r2, h'⟩ := h'.cons
    obtain rfl := h'.nil
    obtain ⟨a, n, c, f, rfl, H⟩ := arg_list k0 r0
    obtain ⟨x, y, z, rfl, _⟩ := arg_marks k1 r1
    obtain ⟨o, q, r, rfl, b0, b1, b2⟩ := arg_bytes3 k2 r2
    have b0 := bounds_u8 b0
    have b1 := bounds_u8 b1
    have b2 := bounds_u8 b2
    exact law_order a n c f x y z o q r W H (by omega) (by omega) (by omega)
theorem watermarkOrder_holds : Rows.WatermarkOrderSaid :=
  OpenClaim.holds_of_wide 7 Try.f7 rfl rfl rfl rfl rfl rfl rfl ⟨rfl, rfl, rfl, rfl, rfl⟩ rfl rfl rfl rfl rfl (by kernel_rfl) Try.func7 (by kernel_rfl)
    (of_decide_eq_true (by kernel_rfl)) (by unfold Func.isWrapper; rw [if_neg (of_decide_eq_false (by kernel_rfl))]; exact ⟨rfl, rfl⟩)
    (fun os started H enc _ => watermarkOrder_lifted os started H enc)
#print axioms watermarkOrder_holds
end Go.Proofs.Ytneibbefkjjlnaa
