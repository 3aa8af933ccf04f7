/-
  NARROWER THAN 'FOR EVERY INPUT', by the rows' own cells (each row's printed sentence says how): MobilityChecks: laid · MobilityBegins: laid · MobilityAllocs: laid · MobilityFrees: laid · MobilityServes: laid · MobilityStays: laid · MobilityBack: laid · MobilityConverts: laid · MobilityMixes: laid.
  DERIVED. THE GIVEN ROWS OF THIS SEAT. 9 by the template 'for every input the law returns true; each argument reads behind the call as it read before'; 0 by the template 'total and deterministic' (their statements: YtkiiifmofmbniaaDoorTotals.lean).
  GIVEN WITH THE SEED: the statements are not yours to turn. If you find one false, say at which input.
  Laid BY PROGRAM, IN A SANDBOX (cutbox-rows.mjs): the forced cells as the released guide's own fill.sh prints them over the translation f49820006f95d9c0… (all of the seat's roots in one cut). By AI agents, Wed Nov 11 2026. No macro, syntax, notation, axiom, sorry.
-/
import Derived.Test.YtkiiifmofmbniaaDoorChecked
import GoSem.Claim
import GoSem.ClaimJoined
import GoSem.ClaimMapViews
import Derived.JoinedTies
import Derived.KernelRfl
namespace Go.Proofs.YtkiiifmofmbniaaDoor
/- THE CELL 'sum', in the pinned program and in every row, IS THE sha256 OF THE DUMP (.gsa) THAT YtkiiifmofmbniaaDoorProg.lean LOADS. Nothing in Lean hashes anything: it is a label: what it is worth is what the hold of that sum in a sandbox is worth. -/
noncomputable def Tryd.pinned : Pinned := { name := "ytkiiifmofmbniaadoor", sum := "f49820006f95d9c04a12e5e4489f3891333af3d40bac4f33f39950e2839277bb", checked := Tryd.checked }
namespace Rows
def none {H : Type} : Left H := { results := [], args := [] }

/- WHAT THE LISTED PACKAGE-LEVEL VARIABLES READ AS WHEN THE CALL BEGINS. Each datum BY PROGRAM (the guide's laid-datum.mjs) off the statement by which the dump's own 'gosem.cut.vars' lays the variable. In a bare row this is a premise. The card (YtkiiifmofmbniaaDoorCards.lean) ties it to the program's text. -/
def laid_estovers_mobility_fallback {H : Type} : DataW H := .agg [.agg [.lit (.int .i64 2), .lit (.int .i64 1)], .agg [.lit (.int .i64 2), .lit (.int .i64 0)], .agg [.lit (.int .i64 1), .lit (.int .i64 0)]]

/-- 'estoverslaw13.MobilityChecks': WHATEVER THE INPUT: true; the input reads as it did. -/
def mobilityChecksSpec : ChangeSpec := { name := "mobilityChecks", fn := fun _ => fun
  | [d] => { results := [.lit (.bool true)], args := [d] }
  | _ => none }
def mobilityChecksRow : OpenClaim := { program := "ytkiiifmofmbniaadoor", sum := "f49820006f95d9c04a12e5e4489f3891333af3d40bac4f33f39950e2839277bb", func := "estovers/estoverslaw13.MobilityChecks", spec := "mobilityChecks", inPlace := ["slices.overlaps[int]"], unfollowed := true, recurses := true, named := ["estovers/mobility.fallback"], apart := false, laid := [("estovers/mobility.fallback", laid_estovers_mobility_fallback)] }
def MobilityChecksSaid : Prop := mobilityChecksRow.holds Tryd.pinned (OpenSpec.ofChange mobilityChecksSpec)

/-- ITS FALSE NEIGHBOUR: 'it returns false'. Refute it at one input. -/
def mobilityChecksWrong : ChangeSpec := { name := "mobilityChecks", fn := fun _ => fun
  | [d] => { results := [.lit (.bool false)], args := [d] }
  | _ => none }
def MobilityChecksWrongFalsely : Prop := mobilityChecksRow.holds Tryd.pinned (OpenSpec.ofChange mobilityChecksWrong)

/-- 'estoverslaw13.MobilityBegins': WHATEVER THE INPUT: true; the input reads as it did. -/
def mobilityBeginsSpec : ChangeSpec := { name := "mobilityBegins", fn := fun _ => fun
  | [d1, d2] => { results := [.lit (.bool true)], args := [d1, d2] }
  | _ => none }
def mobilityBeginsRow : OpenClaim := { program := "ytkiiifmofmbniaadoor", sum := "f49820006f95d9c04a12e5e4489f3891333af3d40bac4f33f39950e2839277bb", func := "estovers/estoverslaw13.MobilityBegins", spec := "mobilityBegins", inPlace := ["slices.overlaps[int]"], unfollowed := true, recurses := true, named := ["estovers/mobility.fallback"], apart := false, laid := [("estovers/mobility.fallback", laid_estovers_mobility_fallback)] }
def MobilityBeginsSaid : Prop := mobilityBeginsRow.holds Tryd.pinned (OpenSpec.ofChange mobilityBeginsSpec)

/-- ITS FALSE NEIGHBOUR: 'it returns false'. Refute it at one input. -/
def mobilityBeginsWrong : ChangeSpec := { name := "mobilityBegins", fn := fun _ => fun
  | [d1, d2] => { results := [.lit (.bool false)], args := [d1, d2] }
  | _ => none }
def MobilityBeginsWrongFalsely : Prop := mobilityBeginsRow.holds Tryd.pinned (OpenSpec.ofChange mobilityBeginsWrong)

/-- 'estoverslaw13.MobilityAllocs': WHATEVER THE INPUT: true; the input reads as it did. -/
def mobilityAllocsSpec : ChangeSpec := { name := "mobilityAllocs", fn := fun _ => fun
  | [d1, d2, d3] => { results := [.lit (.bool true)], args := [d1, d2, d3] }
  | _ => none }
def mobilityAllocsRow : OpenClaim := { program := "ytkiiifmofmbniaadoor", sum := "f49820006f95d9c04a12e5e4489f3891333af3d40bac4f33f39950e2839277bb", func := "estovers/estoverslaw13.MobilityAllocs", spec := "mobilityAllocs", inPlace := ["slices.overlaps[int]"], unfollowed := true, recurses := true, named := ["estovers/mobility.fallback"], apart := false, laid := [("estovers/mobility.fallback", laid_estovers_mobility_fallback)] }
def MobilityAllocsSaid : Prop := mobilityAllocsRow.holds Tryd.pinned (OpenSpec.ofChange mobilityAllocsSpec)

/-- ITS FALSE NEIGHBOUR: 'it returns false'. Refute it at one input. -/
def mobilityAllocsWrong : ChangeSpec := { name := "mobilityAllocs", fn := fun _ => fun
  | [d1, d2, d3] => { results := [.lit (.bool false)], args := [d1, d2, d3] }
  | _ => none }
def MobilityAllocsWrongFalsely : Prop := mobilityAllocsRow.holds Tryd.pinned (OpenSpec.ofChange mobilityAllocsWrong)

/-- 'estoverslaw13.MobilityFrees': WHATEVER THE INPUT: true; the input reads as it did. -/
def mobilityFreesSpec : ChangeSpec := { name := "mobilityFrees", fn := fun _ => fun
  | [d1, d2, d3] => { results := [.lit (.bool true)], args := [d1, d2, d3] }
  | _ => none }
def mobilityFreesRow : OpenClaim := { program := "ytkiiifmofmbniaadoor", sum := "f49820006f95d9c04a12e5e4489f3891333af3d40bac4f33f39950e2839277bb", func := "estovers/estoverslaw13.MobilityFrees", spec := "mobilityFrees", inPlace := ["slices.overlaps[int]"], unfollowed := true, recurses := true, named := ["estovers/mobility.fallback"], apart := false, laid := [("estovers/mobility.fallback", laid_estovers_mobility_fallback)] }
def MobilityFreesSaid : Prop := mobilityFreesRow.holds Tryd.pinned (OpenSpec.ofChange mobilityFreesSpec)

/-- ITS FALSE NEIGHBOUR: 'it returns false'. Refute it at one input. -/
def mobilityFreesWrong : ChangeSpec := { name := "mobilityFrees", fn := fun _ => fun
  | [d1, d2, d3] => { results := [.lit (.bool false)], args := [d1, d2, d3] }
  | _ => none }
def MobilityFreesWrongFalsely : Prop := mobilityFreesRow.holds Tryd.pinned (OpenSpec.ofChange mobilityFreesWrong)

/-- 'estoverslaw13.MobilityServes': WHATEVER THE INPUT: true; the input reads as it did. -/
def mobilityServesSpec : ChangeSpec := { name := "mobilityServes", fn := fun _ => fun
  | [d1, d2, d3] => { results := [.lit (.bool true)], args := [d1, d2, d3] }
  | _ => none }
def mobilityServesRow : OpenClaim := { program := "ytkiiifmofmbniaadoor", sum := "f49820006f95d9c04a12e5e4489f3891333af3d40bac4f33f39950e2839277bb", func := "estovers/estoverslaw13.MobilityServes", spec := "mobilityServes", inPlace := ["slices.overlaps[int]"], unfollowed := true, recurses := true, named := ["estovers/mobility.fallback"], apart := false, laid := [("estovers/mobility.fallback", laid_estovers_mobility_fallback)] }
def MobilityServesSaid : Prop := mobilityServesRow.holds Tryd.pinned (OpenSpec.ofChange mobilityServesSpec)

/-- ITS FALSE NEIGHBOUR: 'it returns false'. Refute it at one input. -/
def mobilityServesWrong : ChangeSpec := { name := "mobilityServes", fn := fun _ => fun
  | [d1, d2, d3] => { results := [.lit (.bool false)], args := [d1, d2, d3] }
  | _ => none }
def MobilityServesWrongFalsely : Prop := mobilityServesRow.holds Tryd.pinned (OpenSpec.ofChange mobilityServesWrong)

/-- 'estoverslaw13.MobilityStays': WHATEVER THE INPUT: true; the input reads as it did. -/
def mobilityStaysSpec : ChangeSpec := { name := "mobilityStays", fn := fun _ => fun
  | [d1, d2, d3] => { results := [.lit (.bool true)], args := [d1, d2, d3] }
  | _ => none }
def mobilityStaysRow : OpenClaim := { program := "ytkiiifmofmbniaadoor", sum := "f49820006f95d9c04a12e5e4489f3891333af3d40bac4f33f39950e2839277bb", func := "estovers/estoverslaw13.MobilityStays", spec := "mobilityStays", inPlace := ["slices.overlaps[int]"], unfollowed := true, recurses := true, named := ["estovers/mobility.fallback"], apart := false, laid := [("estovers/mobility.fallback", laid_estovers_mobility_fallback)] }
def MobilityStaysSaid : Prop := mobilityStaysRow.holds Tryd.pinned (OpenSpec.ofChange mobilityStaysSpec)

/-- ITS FALSE NEIGHBOUR: 'it returns false'. Refute it at one input. -/
def mobilityStaysWrong : ChangeSpec := { name := "mobilityStays", fn := fun _ => fun
  | [d1, d2, d3] => { results := [.lit (.bool false)], args := [d1, d2, d3] }
  | _ => none }
def MobilityStaysWrongFalsely : Prop := mobilityStaysRow.holds Tryd.pinned (OpenSpec.ofChange mobilityStaysWrong)

/-- 'estoverslaw13.MobilityBack': WHATEVER THE INPUT: true; the input reads as it did. -/
def mobilityBackSpec : ChangeSpec := { name := "mobilityBack", fn := fun _ => fun
  | [d1, d2] => { results := [.lit (.bool true)], args := [d1, d2] }
  | _ => none }
def mobilityBackRow : OpenClaim := { program := "ytkiiifmofmbniaadoor", sum := "f49820006f95d9c04a12e5e4489f3891333af3d40bac4f33f39950e2839277bb", func := "estovers/estoverslaw13.MobilityBack", spec := "mobilityBack", inPlace := ["slices.overlaps[int]"], unfollowed := true, recurses := true, named := ["estovers/mobility.fallback"], apart := false, laid := [("estovers/mobility.fallback", laid_estovers_mobility_fallback)] }
def MobilityBackSaid : Prop := mobilityBackRow.holds Tryd.pinned (OpenSpec.ofChange mobilityBackSpec)

/-- ITS FALSE NEIGHBOUR: 'it returns false'. Refute it at one input. -/
def mobilityBackWrong : ChangeSpec := { name := "mobilityBack", fn := fun _ => fun
  | [d1, d2] => { results := [.lit (.bool false)], args := [d1, d2] }
  | _ => none }
def MobilityBackWrongFalsely : Prop := mobilityBackRow.holds Tryd.pinned (OpenSpec.ofChange mobilityBackWrong)

/-- 'estoverslaw13.MobilityConverts': WHATEVER THE INPUT: true; the input reads as it did. -/
def mobilityConvertsSpec : ChangeSpec := { name := "mobilityConverts", fn := fun _ => fun
  | [d1, d2, d3] => { results := [.lit (.bool true)], args := [d1, d2, d3] }
  | _ => none }
def mobilityConvertsRow : OpenClaim := { program := "ytkiiifmofmbniaadoor", sum := "f49820006f95d9c04a12e5e4489f3891333af3d40bac4f33f39950e2839277bb", func := "estovers/estoverslaw13.MobilityConverts", spec := "mobilityConverts", inPlace := ["slices.overlaps[int]"], unfollowed := true, recurses := true, named := ["estovers/mobility.fallback"], apart := false, laid := [("estovers/mobility.fallback", laid_estovers_mobility_fallback)] }
def MobilityConvertsSaid : Prop := mobilityConvertsRow.holds Tryd.pinned (OpenSpec.ofChange mobilityConvertsSpec)

/-- ITS FALSE NEIGHBOUR: 'it returns false'. Refute it at one input. -/
def mobilityConvertsWrong : ChangeSpec := { name := "mobilityConverts", fn := fun _ => fun
  | [d1, d2, d3] => { results := [.lit (.bool false)], args := [d1, d2, d3] }
  | _ => none }
def MobilityConvertsWrongFalsely : Prop := mobilityConvertsRow.holds Tryd.pinned (OpenSpec.ofChange mobilityConvertsWrong)

/-- 'estoverslaw13.MobilityMixes': WHATEVER THE INPUT: true; the input reads as it did. -/
def mobilityMixesSpec : ChangeSpec := { name := "mobilityMixes", fn := fun _ => fun
  | [d1, d2] => { results := [.lit (.bool true)], args := [d1, d2] }
  | _ => none }
def mobilityMixesRow : OpenClaim := { program := "ytkiiifmofmbniaadoor", sum := "f49820006f95d9c04a12e5e4489f3891333af3d40bac4f33f39950e2839277bb", func := "estovers/estoverslaw13.MobilityMixes", spec := "mobilityMixes", inPlace := ["slices.overlaps[int]"], unfollowed := true, recurses := true, named := ["estovers/mobility.fallback"], apart := false, laid := [("estovers/mobility.fallback", laid_estovers_mobility_fallback)] }
def MobilityMixesSaid : Prop := mobilityMixesRow.holds Tryd.pinned (OpenSpec.ofChange mobilityMixesSpec)

/-- ITS FALSE NEIGHBOUR: 'it returns false'. Refute it at one input. -/
def mobilityMixesWrong : ChangeSpec := { name := "mobilityMixes", fn := fun _ => fun
  | [d1, d2] => { results := [.lit (.bool false)], args := [d1, d2] }
  | _ => none }
def MobilityMixesWrongFalsely : Prop := mobilityMixesRow.holds Tryd.pinned (OpenSpec.ofChange mobilityMixesWrong)

/- THE SECOND FORM. 'bulk': how many values and letters a reading holds, each counted each time it is reached (what is shared counts as often as it is met; a slice's spare places count too). A statement '..UptoSaid' is the law's where the arguments, and the package variables that the reading takes, are together of bulk at most 1048576: NARROWER than '..Said'. Prove '..Said' where nothing that the law and all that it calls make is longer than what came in: it says more and counts as full. Else prove '..UptoSaid'. A law counts once. -/
mutual
def uptoBulk {H : Type} : DataW H → Nat
  | .lit (.string bytes) => bytes.length + 1
  | .lit _ => 1
  | .nil => 1
  | .ptr d => uptoBulk d + 1
  | .slice elems spare => uptoBulkAll elems + uptoBulkAll spare + 1
  | .agg parts => uptoBulkAll parts + 1
  | .iface _ d => uptoBulk d + 1
  | .map entries => uptoBulkEntries entries + 1
  | .held _ => 1
def uptoBulkAll {H : Type} : List (DataW H) → Nat
  | [] => 0
  | d :: r => uptoBulk d + uptoBulkAll r
def uptoBulkEntries {H : Type} : List (Lit × DataW H) → Nat
  | [] => 0
  | x :: r => uptoBulkEntry x + uptoBulkEntries r
def uptoBulkEntry {H : Type} : Lit × DataW H → Nat
  | (.string bytes, d) => bytes.length + uptoBulk d + 1
  | (_, d) => uptoBulk d + 1
 end
def uptoSmall : (H : Type) → List (DataW H) → Bool := fun _ ds => decide (uptoBulkAll ds ≤ 1048576)
def OpenSpec.upto (s : _root_.Go.ChangeSpec) : _root_.Go.OpenSpec := { _root_.Go.OpenSpec.ofChange s with cond := some uptoSmall }

/-- 'estoverslaw13.MobilityChecks', WHERE WHAT IT READS IS OF BULK AT MOST 1048576: true; the input reads as it did. -/
def mobilityChecksUptoRow : OpenClaim := { program := "ytkiiifmofmbniaadoor", sum := "f49820006f95d9c04a12e5e4489f3891333af3d40bac4f33f39950e2839277bb", func := "estovers/estoverslaw13.MobilityChecks", spec := "mobilityChecks", inPlace := ["slices.overlaps[int]"], unfollowed := true, recurses := true, named := ["estovers/mobility.fallback"], apart := false, laid := [("estovers/mobility.fallback", laid_estovers_mobility_fallback)], narrowed := true }
def MobilityChecksUptoSaid : Prop := mobilityChecksUptoRow.holds Tryd.pinned (OpenSpec.upto mobilityChecksSpec)

/-- 'estoverslaw13.MobilityBegins', WHERE WHAT IT READS IS OF BULK AT MOST 1048576: true; the input reads as it did. -/
def mobilityBeginsUptoRow : OpenClaim := { program := "ytkiiifmofmbniaadoor", sum := "f49820006f95d9c04a12e5e4489f3891333af3d40bac4f33f39950e2839277bb", func := "estovers/estoverslaw13.MobilityBegins", spec := "mobilityBegins", inPlace := ["slices.overlaps[int]"], unfollowed := true, recurses := true, named := ["estovers/mobility.fallback"], apart := false, laid := [("estovers/mobility.fallback", laid_estovers_mobility_fallback)], narrowed := true }
def MobilityBeginsUptoSaid : Prop := mobilityBeginsUptoRow.holds Tryd.pinned (OpenSpec.upto mobilityBeginsSpec)

/-- 'estoverslaw13.MobilityAllocs', WHERE WHAT IT READS IS OF BULK AT MOST 1048576: true; the input reads as it did. -/
def mobilityAllocsUptoRow : OpenClaim := { program := "ytkiiifmofmbniaadoor", sum := "f49820006f95d9c04a12e5e4489f3891333af3d40bac4f33f39950e2839277bb", func := "estovers/estoverslaw13.MobilityAllocs", spec := "mobilityAllocs", inPlace := ["slices.overlaps[int]"], unfollowed := true, recurses := true, named := ["estovers/mobility.fallback"], apart := false, laid := [("estovers/mobility.fallback", laid_estovers_mobility_fallback)], narrowed := true }
def MobilityAllocsUptoSaid : Prop := mobilityAllocsUptoRow.holds Tryd.pinned (OpenSpec.upto mobilityAllocsSpec)

/-- 'estoverslaw13.MobilityFrees', WHERE WHAT IT READS IS OF BULK AT MOST 1048576: true; the input reads as it did. -/
def mobilityFreesUptoRow : OpenClaim := { program := "ytkiiifmofmbniaadoor", sum := "f49820006f95d9c04a12e5e4489f3891333af3d40bac4f33f39950e2839277bb", func := "estovers/estoverslaw13.MobilityFrees", spec := "mobilityFrees", inPlace := ["slices.overlaps[int]"], unfollowed := true, recurses := true, named := ["estovers/mobility.fallback"], apart := false, laid := [("estovers/mobility.fallback", laid_estovers_mobility_fallback)], narrowed := true }
def MobilityFreesUptoSaid : Prop := mobilityFreesUptoRow.holds Tryd.pinned (OpenSpec.upto mobilityFreesSpec)

/-- 'estoverslaw13.MobilityServes', WHERE WHAT IT READS IS OF BULK AT MOST 1048576: true; the input reads as it did. -/
def mobilityServesUptoRow : OpenClaim := { program := "ytkiiifmofmbniaadoor", sum := "f49820006f95d9c04a12e5e4489f3891333af3d40bac4f33f39950e2839277bb", func := "estovers/estoverslaw13.MobilityServes", spec := "mobilityServes", inPlace := ["slices.overlaps[int]"], unfollowed := true, recurses := true, named := ["estovers/mobility.fallback"], apart := false, laid := [("estovers/mobility.fallback", laid_estovers_mobility_fallback)], narrowed := true }
def MobilityServesUptoSaid : Prop := mobilityServesUptoRow.holds Tryd.pinned (OpenSpec.upto mobilityServesSpec)

/-- 'estoverslaw13.MobilityStays', WHERE WHAT IT READS IS OF BULK AT MOST 1048576: true; the input reads as it did. -/
def mobilityStaysUptoRow : OpenClaim := { program := "ytkiiifmofmbniaadoor", sum := "f49820006f95d9c04a12e5e4489f3891333af3d40bac4f33f39950e2839277bb", func := "estovers/estoverslaw13.MobilityStays", spec := "mobilityStays", inPlace := ["slices.overlaps[int]"], unfollowed := true, recurses := true, named := ["estovers/mobility.fallback"], apart := false, laid := [("estovers/mobility.fallback", laid_estovers_mobility_fallback)], narrowed := true }
def MobilityStaysUptoSaid : Prop := mobilityStaysUptoRow.holds Tryd.pinned (OpenSpec.upto mobilityStaysSpec)

/-- 'estoverslaw13.MobilityBack', WHERE WHAT IT READS IS OF BULK AT MOST 1048576: true; the input reads as it did. -/
def mobilityBackUptoRow : OpenClaim := { program := "ytkiiifmofmbniaadoor", sum := "f49820006f95d9c04a12e5e4489f3891333af3d40bac4f33f39950e2839277bb", func := "estovers/estoverslaw13.MobilityBack", spec := "mobilityBack", inPlace := ["slices.overlaps[int]"], unfollowed := true, recurses := true, named := ["estovers/mobility.fallback"], apart := false, laid := [("estovers/mobility.fallback", laid_estovers_mobility_fallback)], narrowed := true }
def MobilityBackUptoSaid : Prop := mobilityBackUptoRow.holds Tryd.pinned (OpenSpec.upto mobilityBackSpec)

/-- 'estoverslaw13.MobilityConverts', WHERE WHAT IT READS IS OF BULK AT MOST 1048576: true; the input reads as it did. -/
def mobilityConvertsUptoRow : OpenClaim := { program := "ytkiiifmofmbniaadoor", sum := "f49820006f95d9c04a12e5e4489f3891333af3d40bac4f33f39950e2839277bb", func := "estovers/estoverslaw13.MobilityConverts", spec := "mobilityConverts", inPlace := ["slices.overlaps[int]"], unfollowed := true, recurses := true, named := ["estovers/mobility.fallback"], apart := false, laid := [("estovers/mobility.fallback", laid_estovers_mobility_fallback)], narrowed := true }
def MobilityConvertsUptoSaid : Prop := mobilityConvertsUptoRow.holds Tryd.pinned (OpenSpec.upto mobilityConvertsSpec)

/-- 'estoverslaw13.MobilityMixes', WHERE WHAT IT READS IS OF BULK AT MOST 1048576: true; the input reads as it did. -/
def mobilityMixesUptoRow : OpenClaim := { program := "ytkiiifmofmbniaadoor", sum := "f49820006f95d9c04a12e5e4489f3891333af3d40bac4f33f39950e2839277bb", func := "estovers/estoverslaw13.MobilityMixes", spec := "mobilityMixes", inPlace := ["slices.overlaps[int]"], unfollowed := true, recurses := true, named := ["estovers/mobility.fallback"], apart := false, laid := [("estovers/mobility.fallback", laid_estovers_mobility_fallback)], narrowed := true }
def MobilityMixesUptoSaid : Prop := mobilityMixesUptoRow.holds Tryd.pinned (OpenSpec.upto mobilityMixesSpec)

end Rows
end Go.Proofs.YtkiiifmofmbniaaDoor
