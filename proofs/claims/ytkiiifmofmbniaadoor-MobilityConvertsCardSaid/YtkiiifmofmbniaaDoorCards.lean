/-
  DERIVED. GIVEN WITH THE SEED: THE CARDS: each row of YtkiiifmofmbniaaDoorRows.lean that lists a variable, with what it lists TIED to the program's text (the seventh form; the later family's looks); each row that meets fmt, with fmt's text TOLD by the authors' own Lean function (tested against real Go, not proved from fmt's source: count such statements apart). THE CARD IS WHAT COUNTS. Prove the row's statement (the work); the ties are given (YtkiiifmofmbniaaDoorTie.lean); close each card by the builder's one call (the guide's Derived/Test/ToyasCard.lean, 'card_holds'). Laid BY PROGRAM, IN A SANDBOX (cutbox-door.mjs). By AI agents, Wed Nov 11 2026. No macro, syntax, notation, axiom, sorry.
-/
import Derived.Test.YtkiiifmofmbniaaDoorRows
import GoSem.ClaimSeven
namespace Go.Proofs.YtkiiifmofmbniaaDoor
namespace Rows

/-- THE TIED CARD OF 'estoverslaw13.MobilityChecks'. -/
def mobilityChecksCard : Claim7 := { stood := { row := mobilityChecksRow, standIns := [], harness := (true, "f20c6305fddbf45f6e3537739d67e46503b2ee4fb02b5e1148a9a9b4df30457b"), looks := false }, kinds := [], alts := [], laidByText := true, laidKinds := [.data], laidTests := true, laidLooks := .later }
def MobilityChecksCardSaid : Prop := Claim7.holds Tryd.pinned (.plain (OpenSpec.ofChange mobilityChecksSpec)) mobilityChecksCard

/-- THE TIED CARD OF 'estoverslaw13.MobilityBegins'. -/
def mobilityBeginsCard : Claim7 := { stood := { row := mobilityBeginsRow, standIns := [], harness := (true, "f20c6305fddbf45f6e3537739d67e46503b2ee4fb02b5e1148a9a9b4df30457b"), looks := false }, kinds := [], alts := [], laidByText := true, laidKinds := [.data], laidTests := true, laidLooks := .later }
def MobilityBeginsCardSaid : Prop := Claim7.holds Tryd.pinned (.plain (OpenSpec.ofChange mobilityBeginsSpec)) mobilityBeginsCard

/-- THE TIED CARD OF 'estoverslaw13.MobilityAllocs'. -/
def mobilityAllocsCard : Claim7 := { stood := { row := mobilityAllocsRow, standIns := [], harness := (true, "f20c6305fddbf45f6e3537739d67e46503b2ee4fb02b5e1148a9a9b4df30457b"), looks := false }, kinds := [], alts := [], laidByText := true, laidKinds := [.data], laidTests := true, laidLooks := .later }
def MobilityAllocsCardSaid : Prop := Claim7.holds Tryd.pinned (.plain (OpenSpec.ofChange mobilityAllocsSpec)) mobilityAllocsCard

/-- THE TIED CARD OF 'estoverslaw13.MobilityFrees'. -/
def mobilityFreesCard : Claim7 := { stood := { row := mobilityFreesRow, standIns := [], harness := (true, "f20c6305fddbf45f6e3537739d67e46503b2ee4fb02b5e1148a9a9b4df30457b"), looks := false }, kinds := [], alts := [], laidByText := true, laidKinds := [.data], laidTests := true, laidLooks := .later }
def MobilityFreesCardSaid : Prop := Claim7.holds Tryd.pinned (.plain (OpenSpec.ofChange mobilityFreesSpec)) mobilityFreesCard

/-- THE TIED CARD OF 'estoverslaw13.MobilityServes'. -/
def mobilityServesCard : Claim7 := { stood := { row := mobilityServesRow, standIns := [], harness := (true, "f20c6305fddbf45f6e3537739d67e46503b2ee4fb02b5e1148a9a9b4df30457b"), looks := false }, kinds := [], alts := [], laidByText := true, laidKinds := [.data], laidTests := true, laidLooks := .later }
def MobilityServesCardSaid : Prop := Claim7.holds Tryd.pinned (.plain (OpenSpec.ofChange mobilityServesSpec)) mobilityServesCard

/-- THE TIED CARD OF 'estoverslaw13.MobilityStays'. -/
def mobilityStaysCard : Claim7 := { stood := { row := mobilityStaysRow, standIns := [], harness := (true, "f20c6305fddbf45f6e3537739d67e46503b2ee4fb02b5e1148a9a9b4df30457b"), looks := false }, kinds := [], alts := [], laidByText := true, laidKinds := [.data], laidTests := true, laidLooks := .later }
def MobilityStaysCardSaid : Prop := Claim7.holds Tryd.pinned (.plain (OpenSpec.ofChange mobilityStaysSpec)) mobilityStaysCard

/-- THE TIED CARD OF 'estoverslaw13.MobilityBack'. -/
def mobilityBackCard : Claim7 := { stood := { row := mobilityBackRow, standIns := [], harness := (true, "f20c6305fddbf45f6e3537739d67e46503b2ee4fb02b5e1148a9a9b4df30457b"), looks := false }, kinds := [], alts := [], laidByText := true, laidKinds := [.data], laidTests := true, laidLooks := .later }
def MobilityBackCardSaid : Prop := Claim7.holds Tryd.pinned (.plain (OpenSpec.ofChange mobilityBackSpec)) mobilityBackCard

/-- THE TIED CARD OF 'estoverslaw13.MobilityConverts'. -/
def mobilityConvertsCard : Claim7 := { stood := { row := mobilityConvertsRow, standIns := [], harness := (true, "f20c6305fddbf45f6e3537739d67e46503b2ee4fb02b5e1148a9a9b4df30457b"), looks := false }, kinds := [], alts := [], laidByText := true, laidKinds := [.data], laidTests := true, laidLooks := .later }
def MobilityConvertsCardSaid : Prop := Claim7.holds Tryd.pinned (.plain (OpenSpec.ofChange mobilityConvertsSpec)) mobilityConvertsCard

/-- THE TIED CARD OF 'estoverslaw13.MobilityMixes'. -/
def mobilityMixesCard : Claim7 := { stood := { row := mobilityMixesRow, standIns := [], harness := (true, "f20c6305fddbf45f6e3537739d67e46503b2ee4fb02b5e1148a9a9b4df30457b"), looks := false }, kinds := [], alts := [], laidByText := true, laidKinds := [.data], laidTests := true, laidLooks := .later }
def MobilityMixesCardSaid : Prop := Claim7.holds Tryd.pinned (.plain (OpenSpec.ofChange mobilityMixesSpec)) mobilityMixesCard

/-- THE SECOND FORM's CARD OF 'estoverslaw13.MobilityChecks'. -/
def mobilityChecksUptoCard : Claim7 := { stood := { row := mobilityChecksUptoRow, standIns := [], harness := (true, "f20c6305fddbf45f6e3537739d67e46503b2ee4fb02b5e1148a9a9b4df30457b"), looks := false }, kinds := [], alts := [], laidByText := true, laidKinds := [.data], laidTests := true, laidLooks := .later }
def MobilityChecksUptoCardSaid : Prop := Claim7.holds Tryd.pinned (.plain (OpenSpec.upto mobilityChecksSpec)) mobilityChecksUptoCard

/-- THE SECOND FORM's CARD OF 'estoverslaw13.MobilityBegins'. -/
def mobilityBeginsUptoCard : Claim7 := { stood := { row := mobilityBeginsUptoRow, standIns := [], harness := (true, "f20c6305fddbf45f6e3537739d67e46503b2ee4fb02b5e1148a9a9b4df30457b"), looks := false }, kinds := [], alts := [], laidByText := true, laidKinds := [.data], laidTests := true, laidLooks := .later }
def MobilityBeginsUptoCardSaid : Prop := Claim7.holds Tryd.pinned (.plain (OpenSpec.upto mobilityBeginsSpec)) mobilityBeginsUptoCard

/-- THE SECOND FORM's CARD OF 'estoverslaw13.MobilityAllocs'. -/
def mobilityAllocsUptoCard : Claim7 := { stood := { row := mobilityAllocsUptoRow, standIns := [], harness := (true, "f20c6305fddbf45f6e3537739d67e46503b2ee4fb02b5e1148a9a9b4df30457b"), looks := false }, kinds := [], alts := [], laidByText := true, laidKinds := [.data], laidTests := true, laidLooks := .later }
def MobilityAllocsUptoCardSaid : Prop := Claim7.holds Tryd.pinned (.plain (OpenSpec.upto mobilityAllocsSpec)) mobilityAllocsUptoCard

/-- THE SECOND FORM's CARD OF 'estoverslaw13.MobilityFrees'. -/
def mobilityFreesUptoCard : Claim7 := { stood := { row := mobilityFreesUptoRow, standIns := [], harness := (true, "f20c6305fddbf45f6e3537739d67e46503b2ee4fb02b5e1148a9a9b4df30457b"), looks := false }, kinds := [], alts := [], laidByText := true, laidKinds := [.data], laidTests := true, laidLooks := .later }
def MobilityFreesUptoCardSaid : Prop := Claim7.holds Tryd.pinned (.plain (OpenSpec.upto mobilityFreesSpec)) mobilityFreesUptoCard

/-- THE SECOND FORM's CARD OF 'estoverslaw13.MobilityServes'. -/
def mobilityServesUptoCard : Claim7 := { stood := { row := mobilityServesUptoRow, standIns := [], harness := (true, "f20c6305fddbf45f6e3537739d67e46503b2ee4fb02b5e1148a9a9b4df30457b"), looks := false }, kinds := [], alts := [], laidByText := true, laidKinds := [.data], laidTests := true, laidLooks := .later }
def MobilityServesUptoCardSaid : Prop := Claim7.holds Tryd.pinned (.plain (OpenSpec.upto mobilityServesSpec)) mobilityServesUptoCard

/-- THE SECOND FORM's CARD OF 'estoverslaw13.MobilityStays'. -/
def mobilityStaysUptoCard : Claim7 := { stood := { row := mobilityStaysUptoRow, standIns := [], harness := (true, "f20c6305fddbf45f6e3537739d67e46503b2ee4fb02b5e1148a9a9b4df30457b"), looks := false }, kinds := [], alts := [], laidByText := true, laidKinds := [.data], laidTests := true, laidLooks := .later }
def MobilityStaysUptoCardSaid : Prop := Claim7.holds Tryd.pinned (.plain (OpenSpec.upto mobilityStaysSpec)) mobilityStaysUptoCard

/-- THE SECOND FORM's CARD OF 'estoverslaw13.MobilityBack'. -/
def mobilityBackUptoCard : Claim7 := { stood := { row := mobilityBackUptoRow, standIns := [], harness := (true, "f20c6305fddbf45f6e3537739d67e46503b2ee4fb02b5e1148a9a9b4df30457b"), looks := false }, kinds := [], alts := [], laidByText := true, laidKinds := [.data], laidTests := true, laidLooks := .later }
def MobilityBackUptoCardSaid : Prop := Claim7.holds Tryd.pinned (.plain (OpenSpec.upto mobilityBackSpec)) mobilityBackUptoCard

/-- THE SECOND FORM's CARD OF 'estoverslaw13.MobilityConverts'. -/
def mobilityConvertsUptoCard : Claim7 := { stood := { row := mobilityConvertsUptoRow, standIns := [], harness := (true, "f20c6305fddbf45f6e3537739d67e46503b2ee4fb02b5e1148a9a9b4df30457b"), looks := false }, kinds := [], alts := [], laidByText := true, laidKinds := [.data], laidTests := true, laidLooks := .later }
def MobilityConvertsUptoCardSaid : Prop := Claim7.holds Tryd.pinned (.plain (OpenSpec.upto mobilityConvertsSpec)) mobilityConvertsUptoCard

/-- THE SECOND FORM's CARD OF 'estoverslaw13.MobilityMixes'. -/
def mobilityMixesUptoCard : Claim7 := { stood := { row := mobilityMixesUptoRow, standIns := [], harness := (true, "f20c6305fddbf45f6e3537739d67e46503b2ee4fb02b5e1148a9a9b4df30457b"), looks := false }, kinds := [], alts := [], laidByText := true, laidKinds := [.data], laidTests := true, laidLooks := .later }
def MobilityMixesUptoCardSaid : Prop := Claim7.holds Tryd.pinned (.plain (OpenSpec.upto mobilityMixesSpec)) mobilityMixesUptoCard
end Rows
end Go.Proofs.YtkiiifmofmbniaaDoor
