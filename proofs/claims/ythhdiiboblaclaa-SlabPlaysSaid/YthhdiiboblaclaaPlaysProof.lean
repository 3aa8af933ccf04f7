/- SlabPlays returns true for every number and every list of operations, and changes no argument; no condition. -/
import Derived.Test.YthhdiiboblaclaaFrame2
import Derived.Test.YthhdiiboblaclaaL6
namespace Go.Proofs.Ythhdiiboblaclaa
open Go.ChangeShapes Go.WideShapes Go.ChangeAt Go.RowKit Go.Lift
set_option maxRecDepth 100000 in
theorem slabPlays_lifted (os : Os) (started : os.Started) (H : Type) (enc : TypeId × Value → H) :
    ReturnsInHanded {} Try.checked os 6 .any (Rows.slabPlaysSpec.pre6 enc Try.prog Try.f6 Rows.slabPlaysRow.domain false) (Rows.slabPlaysSpec.post enc Try.prog Try.f6 false true false false) := by
  refine law_lift (C := Try.checked) (tb := 4) own started (by kernel_rfl) Try.func6
    (ChangeSpec.witness6 (enc := enc) (C := Try.checked) false ⟨#[], #[.int .u8 0, .slice none 0 0], []⟩ 8 (by kernel_rfl) (by kernel_rfl) (by kernel_rfl) (by kernel_rfl))
    laidOut rfl ?_ rfl Try.underlying4 (by kernel_rfl) ?_
  · intro ds h
    have h' : ds.length = 2 := h
    match ds, h' with
    | [_, _], _ => rfl
  · intro W vs h
    have h' : Args Try.prog W [5, 38] vs := h
    obtain ⟨v0, vs, rfl, k0, r0, h'⟩ := h'.cons
    obtain ⟨v1, vs, rfl, k1, r1, h'⟩ := h'.cons
    obtain rfl := h'.nil
    obtain ⟨x, rfl, hx0, hx1⟩ := arg_u8 k0 r0
    obtain ⟨a, l, n, c, rfl, H, hn, hr⟩ := arg_ops k1 r1
    exact law_plays x hx0 hx1 a l n c W H hn hr
theorem slabPlays_holds : Rows.SlabPlaysSaid :=
  OpenClaim.holds_of_wide 6 Try.f6 rfl rfl rfl rfl rfl rfl rfl ⟨rfl, rfl, rfl, rfl, rfl⟩ rfl rfl rfl rfl rfl (by kernel_rfl) Try.func6 (by kernel_rfl)
    (of_decide_eq_true (by kernel_rfl)) (by unfold Func.isWrapper; rw [if_neg (of_decide_eq_false (by kernel_rfl))]; exact ⟨rfl, rfl⟩)
    (fun os started H enc _ => slabPlays_lifted os started H enc)
#print axioms slabPlays_holds
end Go.Proofs.Ythhdiiboblaclaa
