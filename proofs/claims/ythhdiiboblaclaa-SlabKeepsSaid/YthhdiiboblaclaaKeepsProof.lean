/- SlabKeeps returns true for every cache, number and list of frames, and changes no argument; no condition. -/
import Derived.Test.YthhdiiboblaclaaFrame
import Derived.Test.YthhdiiboblaclaaL7
namespace Go.Proofs.Ythhdiiboblaclaa
open Go.ChangeShapes Go.WideShapes Go.ChangeAt Go.RowKit Go.Lift
set_option maxRecDepth 100000 in
theorem slabKeeps_lifted (os : Os) (started : os.Started) (H : Type) (enc : TypeId × Value → H) :
    ReturnsInHanded {} Try.checked os 11 .any (Rows.slabKeepsSpec.pre6 enc Try.prog Try.f11 Rows.slabKeepsRow.domain false) (Rows.slabKeepsSpec.post enc Try.prog Try.f11 false true false false) := by
  refine law_lift (C := Try.checked) (tb := 4) own started (by kernel_rfl) Try.func11
    (ChangeSpec.witness6 (enc := enc) (C := Try.checked) false ⟨#[], #[.agg #[.int .i64 0, .slice none 0 0], .int .i64 0, .slice none 0 0], []⟩ 8 (by kernel_rfl) (by kernel_rfl) (by kernel_rfl) (by kernel_rfl))
    laidOut rfl ?_ rfl Try.underlying4 (by kernel_rfl) ?_
  · intro ds h
    have h' : ds.length = 3 := h
    match ds, h' with
    | [_, _, _], _ => rfl
  · intro W vs h
    have h' : Args Try.prog W [24, 3, 31] vs := h
    obtain ⟨v0, vs, rfl, k0, r0, h'⟩ := h'.cons
    obtain ⟨v1, vs, rfl, k1, r1, h'⟩ := h'.cons
    obtain ⟨v2, vs, rfl, k2, r2, h'⟩ := h'.cons
    obtain rfl := h'.nil
    obtain ⟨o, a, l, n, c, rfl, H, hn, ho1, ho2⟩ := arg_cache k0 r0
    obtain ⟨x, rfl, hx1, hx2⟩ := arg_int k1 r1
    obtain ⟨fa, F, fm, fc, rfl, HF, hfm, hfc, hfc2, hfz⟩ := arg_list k2 r2
    exact law_keeps o a l n c x fa F fm fc W H hn hx1 hx2 HF hfm hfc hfz
theorem slabKeeps_holds : Rows.SlabKeepsSaid :=
  OpenClaim.holds_of_wide 11 Try.f11 rfl rfl rfl rfl rfl rfl rfl ⟨rfl, rfl, rfl, rfl, rfl⟩ rfl rfl rfl rfl rfl (by kernel_rfl) Try.func11 (by kernel_rfl)
    (of_decide_eq_true (by kernel_rfl)) (by unfold Func.isWrapper; rw [if_neg (of_decide_eq_false (by kernel_rfl))]; exact ⟨rfl, rfl⟩)
    (fun os started H enc _ => slabKeeps_lifted os started H enc)
#print axioms slabKeeps_holds
end Go.Proofs.Ythhdiiboblaclaa
