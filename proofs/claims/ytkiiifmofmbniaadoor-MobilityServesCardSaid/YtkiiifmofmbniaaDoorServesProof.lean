/- MobilityServes returns true for all types, every list of steps and every request, and changes no argument; no condition but the listed variable. -/
import Derived.Test.YtkiiifmofmbniaaDoorMFrame
import Derived.Test.YtkiiifmofmbniaaDoorL3
import Derived.Test.YtkiiifmofmbniaaDoorCards
import Derived.Test.YtkiiifmofmbniaaDoorTie
namespace Go.Proofs.YtkiiifmofmbniaaDoor
open Go.ChangeShapes Go.WideShapes Go.ChangeAt Go.RowKit Go.Lift
set_option maxRecDepth 100000 in
theorem mobilityServes_lifted (os : Os) (started : os.Started) (H : Type) (enc : TypeId × Value → H) :
    ReturnsInHanded {} Tryd.checked os 7 .any (fun w args => (Rows.mobilityServesSpec.pre enc Tryd.prog Tryd.f7 [] false w args ∧ laidMetH Tryd.prog laidL w) ∧ sizedMet enc Tryd.prog Tryd.f7 (OpenSpec.ofChange Rows.mobilityServesSpec) false w args) (Rows.mobilityServesSpec.post enc Tryd.prog Tryd.f7 false true false false) := by
  refine law_lift_x (C := Tryd.checked) (tb := 4) (X := laidMetH Tryd.prog laidL) met_heap own started (by kernel_rfl) Tryd.func7
    (ChangeSpec.witness_shaped (enc := enc) (C := Tryd.checked) (os := os) (X := fun w _ => laidMetH Tryd.prog laidL w) false (World.doorLaid Tryd.prog 17 os) #[.agg #[.int .u8 0, .int .u8 0, .int .u8 0], .slice none 0 0, .agg #[.int .u8 0, .int .u8 0]] 8 rfl (World.shaped_of_RefB (by kernel_rfl) (by kernel_rfl)) (by kernel_rfl) (by kernel_rfl) (by kernel_rfl) (door_met os _))
    laidOut rfl ?_ rfl Tryd.underlying4 (by kernel_rfl) ?_
  · intro ds h
    have h' : ds.length = 3 := h
    match ds, h' with
    | [_, _, _], _ => rfl
  · intro W vs h hX
    have h' : Args Tryd.prog W [38, 39, 40] vs := h
    obtain ⟨v0, vs, rfl, k0, r0, h'⟩ := h'.cons
    obtain ⟨v1, vs, rfl, k1, r1, h'⟩ := h'.cons
    obtain ⟨v2, vs, rfl, k2, r2, h'⟩ := h'.cons
    obtain rfl := h'.nil
    obtain ⟨x, y, z, rfl, x1, y1, z1⟩ := arg_u3 k0 r0
    obtain ⟨a, l, n, c, rfl, HO, hn⟩ := arg_ops k1 r1
    obtain ⟨ao, ak, rfl, o1, o2⟩ := arg_u2 k2 r2
    exact serves_7 x y z ao ak a l n c W x1 y1 z1 o1 o2 HO hn (fb_of hX)
theorem mobilityServes_holds : Rows.MobilityServesSaid :=
  OpenClaim.holds_of_wide 7 Tryd.f7 rfl rfl rfl rfl rfl rfl rfl ⟨rfl, rfl, rfl, rfl, rfl⟩ rfl rfl rfl rfl rfl (by kernel_rfl) Tryd.func7 (by kernel_rfl)
    (of_decide_eq_true (by kernel_rfl)) (by unfold Func.isWrapper; first | (rw [if_pos (by decide +kernel)]; kernel_rfl) | (rw [if_neg (by decide +kernel)]; exact ⟨rfl, rfl⟩))
    (fun os started H enc _ => mobilityServes_lifted os started H enc)
theorem mobilityServes_card : Rows.MobilityServesCardSaid :=
  Claim7.holds_tied_plain_at .later [] [.data] true (true, "f20c6305fddbf45f6e3537739d67e46503b2ee4fb02b5e1148a9a9b4df30457b") false
    mobilityServes_holds (fun _ h => by cases h) (by kernel_rfl) (fun _ h => by cases h) mobilityServes_row_tie rfl ⟨rfl, rfl⟩ (by kernel_rfl) rfl
    (fun f fn hf hfn => by
      obtain rfl : f = 7 := Option.some.inj ((show Tryd.prog.funcNamed "estovers/estoverslaw13.MobilityServes" = some 7 by kernel_rfl).symm.trans hf) |>.symm
      obtain rfl : fn = Tryd.f7 := (Option.some.inj (Tryd.func7.symm.trans hfn)).symm
      exact ⟨by kernel_rfl, fun j t ht => by
        rw [Tryd.params7] at ht
        have hm : t ∈ [38, 39, 40] := by simpa using Array.mem_of_getElem? ht
        have hall : ([38, 39, 40].all fun u => !Tryd.prog.wantsStandIn u) = true := by kernel_rfl
        exact (show Tryd.prog.wantsStandIn t = false by simpa using List.all_eq_true.1 hall t hm)⟩)
    (by kernel_rfl)
#print axioms mobilityServes_card
end Go.Proofs.YtkiiifmofmbniaaDoor
