/- TopBlockFits returns true for every machine, list of steps and order, and changes no argument; no condition. -/
import Derived.Test.YtdddkfpcbfgocaaG7
import Derived.Test.YtdddkfpcbfgocaaG12
namespace Go.Proofs.Ytdddkfpcbfgocaa
open Go.ChangeShapes Go.WideShapes Go.ChangeAt Go.RowKit Go.Lift
set_option maxRecDepth 100000 in
theorem topBlockFits_lifted (os : Os) (started : os.Started) (H : Type) (enc : TypeId × Value → H) :
    ReturnsInHanded {} Try.checked os 4 .any (Rows.topBlockFitsSpec.pre6 enc Try.prog Try.f4 Rows.topBlockFitsRow.domain false) (Rows.topBlockFitsSpec.post enc Try.prog Try.f4 false true false false) := by
  refine law_lift (C := Try.checked) (tb := 4) own started (by kernel_rfl) Try.func4
    (ChangeSpec.witness6 (enc := enc) (C := Try.checked) false ⟨#[], #[.agg #[.int .u8 0, .int .u8 0, .int .u8 0, .int .u8 0, .int .u8 0, .int .u8 0, .bool false, .bool false, .bool false, .int .u8 0, .bool false], .slice none 0 0, .int .u8 0], []⟩ 8 (by kernel_rfl) (by kernel_rfl) (by kernel_rfl) (by kernel_rfl))
    laidOut rfl ?_ rfl Try.underlying4 (by kernel_rfl) ?_
  · intro ds h
    have h' : ds.length = 3 := h
    match ds, h' with
    | [_, _, _], _ => rfl
  · intro W vs h
    have h' : Args Try.prog W [25, 26, 5] vs := h
    obtain ⟨v0, vs, rfl, k0, r0, h'⟩ := h'.cons
    obtain ⟨v1, vs, rfl, k1, r1, h'⟩ := h'.cons
    obtain ⟨v2, vs, rfl, k2, r2, h'⟩ := h'.cons
    obtain rfl := h'.nil
    obtain ⟨mc, th, rfl, HM, hmc⟩ := arg_mach k0 r0
    obtain ⟨oa, os, n, c, rfl, HO, hn⟩ := arg_fops k1 r1
    obtain ⟨o, rfl, o0, o1⟩ := arg_u8 k2 r2
    exact fitsL o mc th oa os n c W HM HO hn hmc o0 o1
theorem topBlockFits_holds : Rows.TopBlockFitsSaid :=
  OpenClaim.holds_of_wide 4 Try.f4 rfl rfl rfl rfl rfl rfl rfl ⟨rfl, rfl, rfl, rfl, rfl⟩ rfl rfl rfl rfl rfl (by kernel_rfl) Try.func4 (by kernel_rfl)
    (of_decide_eq_true (by kernel_rfl)) (by unfold Func.isWrapper; rw [if_neg (of_decide_eq_false (by kernel_rfl))]; exact ⟨rfl, rfl⟩)
    (fun os started H enc _ => topBlockFits_lifted os started H enc)
#print axioms topBlockFits_holds
end Go.Proofs.Ytdddkfpcbfgocaa
