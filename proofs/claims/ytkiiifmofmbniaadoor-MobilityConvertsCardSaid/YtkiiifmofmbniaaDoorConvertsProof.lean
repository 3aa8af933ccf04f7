/- MobilityConverts returns true for all page blocks, frames and types, and changes no argument; no condition but the listed variable. -/
import Derived.Test.YtkiiifmofmbniaaDoorMFrame
import Derived.Test.YtkiiifmofmbniaaDoorN21
import Derived.Test.YtkiiifmofmbniaaDoorCards
import Derived.Test.YtkiiifmofmbniaaDoorTie
namespace Go.Proofs.YtkiiifmofmbniaaDoor
open Go.ChangeShapes Go.WideShapes Go.ChangeAt Go.RowKit Go.Lift
set_option maxRecDepth 100000 in
theorem mobilityConverts_lifted (os : Os) (started : os.Started) (H : Type) (enc : TypeId × Value → H) :
    ReturnsInHanded {} Tryd.checked os 10 .any (fun w args => (Rows.mobilityConvertsSpec.pre enc Tryd.prog Tryd.f10 [] false w args ∧ laidMetH Tryd.prog laidL w) ∧ sizedMet enc Tryd.prog Tryd.f10 (OpenSpec.ofChange Rows.mobilityConvertsSpec) false w args) (Rows.mobilityConvertsSpec.post enc Tryd.prog Tryd.f10 false true false false) := by
  refine law_lift_x (C := Tryd.checked) (tb := 4) (X := laidMetH Tryd.prog laidL) met_heap own started (by kernel_rfl) Tryd.func10
    (ChangeSpec.witness_shaped (enc := enc) (C := Tryd.checked) (os := os) (X := fun w _ => laidMetH Tryd.prog laidL w) false (World.doorLaid Tryd.prog 17 os) #[.agg #[.int .i64 0, .slice none 0 0, .slice none 0 0, .slice none 0 0, .slice none 0 0, .slice none 0 0, .slice none 0 0, .slice none 0 0, .slice none 0 0, .slice none 0 0, .slice none 0 0, .slice none 0 0, .slice none 0 0, .slice none 0 0, .slice none 0 0, .slice none 0 0, .slice none 0 0], .int .i64 0, .int .i64 0] 8 rfl (World.shaped_of_RefB (by kernel_rfl) (by kernel_rfl)) (by kernel_rfl) (by kernel_rfl) (by kernel_rfl) (door_met os _))
    laidOut rfl ?_ rfl Tryd.underlying4 (by kernel_rfl) ?_
  · intro ds h
    have h' : ds.length = 3 := h
    match ds, h' with
    | [_, _, _], _ => rfl
  · intro W vs h hX
    have h' : Args Tryd.prog W [26, 3, 3] vs := h
    obtain ⟨v0, vs, rfl, k0, r0, h'⟩ := h'.cons
    obtain ⟨v1, vs, rfl, k1, r1, h'⟩ := h'.cons
    obtain ⟨v2, vs, rfl, k2, r2, h'⟩ := h'.cons
    obtain rfl := h'.nil
    obtain ⟨p, H, hfit⟩ := arg_pb k0 r0
    obtain ⟨x1, rfl, hx1⟩ := arg_int k1 r1
    obtain ⟨x2, rfl, hx2⟩ := arg_int k2 r2
    exact converts_10 _ p x1 x2 W H (fb_of hX)
theorem mobilityConverts_holds : Rows.MobilityConvertsSaid :=
  OpenClaim.holds_of_wide 10 Tryd.f10 rfl rfl rfl rfl rfl rfl rfl ⟨rfl, rfl, rfl, rfl, rfl⟩ rfl rfl rfl rfl rfl (by kernel_rfl) Tryd.func10 (by kernel_rfl)
    (of_decide_eq_true (by kernel_rfl)) (by unfold Func.isWrapper; first | (rw [if_pos (by decide +kernel)]; kernel_rfl) | (rw [if_neg (by decide +kernel)]; exact ⟨rfl, rfl⟩))
    (fun os started H enc _ => mobilityConverts_lifted os started H enc)
theorem mobilityConverts_card : Rows.MobilityConvertsCardSaid :=
  Claim7.holds_tied_plain_at .later [] [.data] true (true, "f20c6305fddbf45f6e3537739d67e46503b2ee4fb02b5e1148a9a9b4df30457b") false
    mobilityConverts_holds (fun _ h => by cases h) (by kernel_rfl) (fun _ h => by cases h) mobilityConverts_row_tie rfl ⟨rfl, rfl⟩ (by kernel_rfl) rfl
    (fun f fn hf hfn => by
      obtain rfl : f = 10 := Option.some.inj ((show Tryd.prog.funcNamed "estovers/estoverslaw13.MobilityConverts" = some 10 by kernel_rfl).symm.trans hf) |>.symm
      obtain rfl : fn = Tryd.f10 := (Option.some.inj (Tryd.func10.symm.trans hfn)).symm
      exact ⟨by kernel_rfl, fun j t ht => by
        rw [Tryd.params10] at ht
        have hm : t ∈ [26, 3, 3] := by simpa using Array.mem_of_getElem? ht
        have hall : ([26, 3, 3].all fun u => !Tryd.prog.wantsStandIn u) = true := by kernel_rfl
        exact (show Tryd.prog.wantsStandIn t = false by simpa using List.all_eq_true.1 hall t hm)⟩)
    (by kernel_rfl)
#print axioms mobilityConverts_card
end Go.Proofs.YtkiiifmofmbniaaDoor
