/- MobilityBegins returns true for every start and all types, and changes no argument; no condition but the listed variable. -/
import Derived.Test.YtkiiifmofmbniaaDoorMFrame
import Derived.Test.YtkiiifmofmbniaaDoorN14
import Derived.Test.YtkiiifmofmbniaaDoorCards
import Derived.Test.YtkiiifmofmbniaaDoorTie
namespace Go.Proofs.YtkiiifmofmbniaaDoor
open Go.ChangeShapes Go.WideShapes Go.ChangeAt Go.RowKit Go.Lift
set_option maxRecDepth 100000 in
theorem mobilityBegins_lifted (os : Os) (started : os.Started) (H : Type) (enc : TypeId × Value → H) :
    ReturnsInHanded {} Tryd.checked os 4 .any (fun w args => (Rows.mobilityBeginsSpec.pre enc Tryd.prog Tryd.f4 [] false w args ∧ laidMetH Tryd.prog laidL w) ∧ sizedMet enc Tryd.prog Tryd.f4 (OpenSpec.ofChange Rows.mobilityBeginsSpec) false w args) (Rows.mobilityBeginsSpec.post enc Tryd.prog Tryd.f4 false true false false) := by
  refine law_lift_x (C := Tryd.checked) (tb := 4) (X := laidMetH Tryd.prog laidL) met_heap own started (by kernel_rfl) Tryd.func4
    (ChangeSpec.witness_shaped (enc := enc) (C := Tryd.checked) (os := os) (X := fun w _ => laidMetH Tryd.prog laidL w) false (World.doorLaid Tryd.prog 17 os) #[.int .i64 0, .slice none 0 0] 8 rfl (World.shaped_of_RefB (by kernel_rfl) (by kernel_rfl)) (by kernel_rfl) (by kernel_rfl) (by kernel_rfl) (door_met os _))
    laidOut rfl ?_ rfl Tryd.underlying4 (by kernel_rfl) ?_
  · intro ds h
    have h' : ds.length = 2 := h
    match ds, h' with
    | [_, _], _ => rfl
  · intro W vs h hX
    have h' : Args Tryd.prog W [3, 22] vs := h
    obtain ⟨v0, vs, rfl, k0, r0, h'⟩ := h'.cons
    obtain ⟨v1, vs, rfl, k1, r1, h'⟩ := h'.cons
    obtain rfl := h'.nil
    obtain ⟨st, rfl, _⟩ := arg_int k0 r0
    obtain ⟨l, ⟨a, c, rfl, h1, h2, h3, HI⟩, _⟩ := arg_ints k1 r1
    exact begins_4 st a l _ c W HI rfl h1 h2 h3 (fb_of hX)
theorem mobilityBegins_holds : Rows.MobilityBeginsSaid :=
  OpenClaim.holds_of_wide 4 Tryd.f4 rfl rfl rfl rfl rfl rfl rfl ⟨rfl, rfl, rfl, rfl, rfl⟩ rfl rfl rfl rfl rfl (by kernel_rfl) Tryd.func4 (by kernel_rfl)
    (of_decide_eq_true (by kernel_rfl)) (by unfold Func.isWrapper; first | (rw [if_pos (by decide +kernel)]; kernel_rfl) | (rw [if_neg (by decide +kernel)]; exact ⟨rfl, rfl⟩))
    (fun os started H enc _ => mobilityBegins_lifted os started H enc)
theorem mobilityBegins_card : Rows.MobilityBeginsCardSaid :=
  Claim7.holds_tied_plain_at .later [] [.data] true (true, "f20c6305fddbf45f6e3537739d67e46503b2ee4fb02b5e1148a9a9b4df30457b") false
    mobilityBegins_holds (fun _ h => by cases h) (by kernel_rfl) (fun _ h => by cases h) mobilityBegins_row_tie rfl ⟨rfl, rfl⟩ (by kernel_rfl) rfl
    (fun f fn hf hfn => by
      obtain rfl : f = 4 := Option.some.inj ((show Tryd.prog.funcNamed "estovers/estoverslaw13.MobilityBegins" = some 4 by kernel_rfl).symm.trans hf) |>.symm
      obtain rfl : fn = Tryd.f4 := (Option.some.inj (Tryd.func4.symm.trans hfn)).symm
      exact ⟨by kernel_rfl, fun j t ht => by
        rw [Tryd.params4] at ht
        have hm : t ∈ [3, 22] := by simpa using Array.mem_of_getElem? ht
        have hall : ([3, 22].all fun u => !Tryd.prog.wantsStandIn u) = true := by kernel_rfl
        exact (show Tryd.prog.wantsStandIn t = false by simpa using List.all_eq_true.1 hall t hm)⟩)
    (by kernel_rfl)
#print axioms mobilityBegins_card
end Go.Proofs.YtkiiifmofmbniaaDoor
