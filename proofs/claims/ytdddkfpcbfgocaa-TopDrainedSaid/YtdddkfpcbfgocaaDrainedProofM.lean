/- TopDrained returns true for every machine and every list of steps, and changes no argument; no condition. -/
import Derived.Test.YtdddkfpcbfgocaaG7
import Derived.Test.YtdddkfpcbfgocaaG11
namespace Go.Proofs.Ytdddkfpcbfgocaa
open Go.ChangeShapes Go.WideShapes Go.ChangeAt Go.RowKit Go.Lift
set_option maxRecDepth 100000 in
theorem topDrained_lifted (os : Os) (started : os.Started) (H : Type) (enc : TypeId × Value → H) :
    ReturnsInHanded {} Try.checked os 3 .any (Rows.topDrainedSpec.pre6 enc Try.prog Try.f3 Rows.topDrainedRow.domain false) (Rows.topDrainedSpec.post enc Try.prog Try.f3 false true false false) := by
  refine law_lift (C := Try.checked) (tb := 4) own started (by kernel_rfl) Try.func3
    (ChangeSpec.witness6 (enc := enc) (C := Try.checked) false ⟨#[], #[.agg #[.int .u8 0, .int .u8 0, .int .u8 0, .int .u8 0, .int .u8 0, .int .u8 0, .bool false, .bool false, .bool false, .int .u8 0, .bool false], .slice none 0 0], []⟩ 8 (by kernel_rfl) (by kernel_rfl) (by kernel_rfl) (by kernel_rfl))
    laidOut rfl ?_ rfl Try.underlying4 (by kernel_rfl) ?_
  · intro ds h
    have h' : ds.length = 2 := h
    match ds, h' with
    | [_, _], _ => rfl
  · intro W vs h
    have h' : Args Try.prog W [25, 26] vs := h
    obtain ⟨v0, vs, rfl, k0, r0, h'⟩ := h'.cons
    obtain ⟨v1, vs, rfl, k1, r1, h'⟩ := h'.cons
    obtain rfl := h'.nil
    obtain ⟨mc, th, rfl, HM, hmc⟩ := arg_mach k0 r0
    obtain ⟨oa, os, n, c, rfl, HO, hn⟩ := arg_fops k1 r1
    exact drained mc th oa os n c W HM HO hn hmc
theorem topDrained_holds : Rows.TopDrainedSaid :=
  OpenClaim.holds_of_wide 3 Try.f3 rfl rfl rfl rfl rfl rfl rfl ⟨rfl, rfl, rfl, rfl, rfl⟩ rfl rfl rfl rfl rfl (by kernel_rfl) Try.func3 (by kernel_rfl)
    (of_decide_eq_true (by kernel_rfl)) (by unfold Func.isWrapper; rw [if_neg (of_decide_eq_false (by kernel_rfl))]; exact ⟨rfl, rfl⟩)
    (fun os started H enc _ => topDrained_lifted os started H enc)
#print axioms topDrained_holds
end Go.Proofs.Ytdddkfpcbfgocaa
