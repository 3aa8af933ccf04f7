/- DeviceLasts returns true for all lists of acts and of picks, and changes no argument; no condition. -/
import Derived.Test.YtlhbjmoncdljoaaDFrame
import Derived.Test.YtlhbjmoncdljoaaE5
namespace Go.Proofs.Ytlhbjmoncdljoaa
open Go.ChangeShapes Go.WideShapes Go.ChangeAt Go.RowKit Go.Lift
set_option maxRecDepth 100000 in
theorem deviceLasts_lifted (os : Os) (started : os.Started) (H : Type) (enc : TypeId × Value → H) :
    ReturnsInHanded {} Try.checked os 8 .any (Rows.deviceLastsSpec.pre6 enc Try.prog Try.f8 Rows.deviceLastsRow.domain false) (Rows.deviceLastsSpec.post enc Try.prog Try.f8 false true false false) := by
  refine law_lift (C := Try.checked) (tb := 4) own started (by kernel_rfl) Try.func8
    (ChangeSpec.witness6 (enc := enc) (C := Try.checked) false ⟨#[], #[.slice none 0 0, .slice none 0 0, .slice none 0 0], []⟩ 8 (by kernel_rfl) (by kernel_rfl) (by kernel_rfl) (by kernel_rfl))
    laidOut rfl ?_ rfl Try.underlying4 (by kernel_rfl) ?_
  · intro ds h
    have h' : ds.length = 3 := h
    match ds, h' with
    | [_, _, _], _ => rfl
  · intro W vs h
    have h' : Args Try.prog W [50, 50, 47] vs := h
    obtain ⟨v0, vs, rfl, k0, r0, h'⟩ := h'.cons
    obtain ⟨v1, vs, rfl, k1, r1, h'⟩ := h'.cons
    obtain ⟨v2, vs, rfl, k2, r2, h'⟩ := h'.cons
    obtain rfl := h'.nil
    obtain ⟨a0, l0, n0, c0, rfl, H0, hn0⟩ := arg_acts k0 r0
    obtain ⟨a1, l1, n1, c1, rfl, H1, hn1⟩ := arg_acts k1 r1
    obtain ⟨pa, picks, pn, pc, rfl, HP, hpn⟩ := arg_bools k2 r2
    exact law_lasts a0 l0 n0 c0 a1 l1 n1 c1 pa pn pc picks W H0 hn0 H1 hn1 HP hpn
theorem deviceLasts_holds : Rows.DeviceLastsSaid :=
  OpenClaim.holds_of_wide 8 Try.f8 rfl rfl rfl rfl rfl rfl rfl ⟨rfl, rfl, rfl, rfl, rfl⟩ rfl rfl rfl rfl rfl (by kernel_rfl) Try.func8 (by kernel_rfl)
    (of_decide_eq_true (by kernel_rfl)) (by unfold Func.isWrapper; rw [if_neg (of_decide_eq_false (by kernel_rfl))]; exact ⟨rfl, rfl⟩)
    (fun os started H enc _ => deviceLasts_lifted os started H enc)
#print axioms deviceLasts_holds
end Go.Proofs.Ytlhbjmoncdljoaa
