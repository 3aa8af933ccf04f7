/- CompressShort returns true for every page, and changes no argument; no condition. -/
import Derived.Test.YtaapgfhcnfaemaaFrame
import Derived.Test.YtaapgfhcnfaemaaLaws5
namespace Go.Proofs.Ytaapgfhcnfaemaa
open Go.ChangeShapes Go.WideShapes Go.ChangeAt Go.RowKit Go.Lift
set_option maxRecDepth 100000 in
theorem compressShort_lifted (os : Os) (started : os.Started) (H : Type) (enc : TypeId × Value → H) :
    ReturnsInHanded {} Try.checked os 6 .any (Rows.compressShortSpec.pre6 enc Try.prog Try.f6 Rows.compressShortRow.domain false) (Rows.compressShortSpec.post enc Try.prog Try.f6 false true false false) := by
  refine law_lift (C := Try.checked) (tb := 4) own started (by kernel_rfl) Try.func6
    (ChangeSpec.witness6 (enc := enc) (C := Try.checked) false ⟨#[], #[.agg #[.int .u8 0, .int .u8 0, .int .u8 0, .int .u8 0, .int .u8 0, .int .u8 0, .int .u8 0, .int .u8 0, .int .u8 0, .int .u8 0, .int .u8 0, .int .u8 0, .int .u8 0, .int .u8 0, .int .u8 0, .int .u8 0, .int .u8 0, .int .u8 0, .int .u8 0, .int .u8 0, .int .u8 0, .int .u8 0, .int .u8 0, .int .u8 0, .int .u8 0, .int .u8 0, .int .u8 0, .int .u8 0, .int .u8 0, .int .u8 0, .int .u8 0, .int .u8 0]], []⟩ 8 (by kernel_rfl) (by kernel_rfl) (by kernel_rfl) (by kernel_rfl))
    laidOut rfl ?_ rfl Try.underlying4 (by kernel_rfl) ?_
  · intro ds h
    have h' : ds.length = 1 := h
    match ds, h' with
    | [_], _ => rfl
  · intro W vs h
    have h' : Args Try.prog W [29] vs := h
    obtain ⟨v0, vs, rfl, k0, r0, h'⟩ := h'.cons
    obtain rfl := h'.nil
    obtain ⟨xs, hx, rfl⟩ := arg_page k0 r0
    obtain ⟨l, h1, h2, h3⟩ := page_nums xs hx
    exact law_short l h1 h2 _ h3 W
theorem compressShort_holds : Rows.CompressShortSaid :=
  OpenClaim.holds_of_wide 6 Try.f6 rfl rfl rfl rfl rfl rfl rfl ⟨rfl, rfl, rfl, rfl, rfl⟩ rfl rfl rfl rfl rfl (by kernel_rfl) Try.func6 (by kernel_rfl)
    (of_decide_eq_true (by kernel_rfl)) (by unfold Func.isWrapper; rw [if_neg (of_decide_eq_false (by kernel_rfl))]; exact ⟨rfl, rfl⟩)
    (fun os started H enc _ => compressShort_lifted os started H enc)
#print axioms compressShort_holds
end Go.Proofs.Ytaapgfhcnfaemaa
