/-
  No cell of these rows narrows 'for every input' (looked for: loops, veiled, ifaces, maps, wideKeys, modest, calm, conditions, laid).
  DERIVED. THE GIVEN ROWS OF THIS SEAT. 7 by the template 'for every input the law returns true; each argument reads behind the call as it read before'; 0 by the template 'total and deterministic' (their statements: YtneibbefkjjlnaaTotals.lean).
  GIVEN WITH THE SEED: the statements are not yours to turn. If you find one false, say at which input.
  Laid BY PROGRAM, IN A SANDBOX (cutbox-rows.mjs): the forced cells as the released guide's own fill.sh prints them over the translation 9705b5f13884d9f4… (all of the seat's roots in one cut). By AI agents, Wed Nov 11 2026. No macro, syntax, notation, axiom, sorry.
-/
import Derived.Test.YtneibbefkjjlnaaChecked
import GoSem.Claim
import GoSem.ClaimJoined
import GoSem.ClaimMapViews
import Derived.JoinedTies
import Derived.KernelRfl
namespace Go.Proofs.Ytneibbefkjjlnaa
/- THE CELL 'sum', in the pinned program and in every row, IS THE sha256 OF THE DUMP (.gsa) THAT YtneibbefkjjlnaaProg.lean LOADS. Nothing in Lean hashes anything: it is a label: what it is worth is what the hold of that sum in a sandbox is worth. -/
noncomputable def Try.pinned : Pinned := { name := "ytneibbefkjjlnaa", sum := "9705b5f13884d9f460d9a74c5f3ca4bb6e5ac9233d89c41609f73d20503be91e", checked := Try.checked }
namespace Rows
def none {H : Type} : Left H := { results := [], args := [] }

/-- 'estoverslaw15.WatermarkLevels': WHATEVER THE INPUT: true; the input reads as it did. -/
def watermarkLevelsSpec : ChangeSpec := { name := "watermarkLevels", fn := fun _ => fun
  | [d1, d2, d3] => { results := [.lit (.bool true)], args := [d1, d2, d3] }
  | _ => none }
def watermarkLevelsRow : OpenClaim := { program := "ytneibbefkjjlnaa", sum := "9705b5f13884d9f460d9a74c5f3ca4bb6e5ac9233d89c41609f73d20503be91e", func := "estovers/estoverslaw15.WatermarkLevels", spec := "watermarkLevels", apart := false }
def WatermarkLevelsSaid : Prop := watermarkLevelsRow.holds Try.pinned (OpenSpec.ofChange watermarkLevelsSpec)

/-- ITS FALSE NEIGHBOUR: 'it returns false'. Refute it at one input. -/
def watermarkLevelsWrong : ChangeSpec := { name := "watermarkLevels", fn := fun _ => fun
  | [d1, d2, d3] => { results := [.lit (.bool false)], args := [d1, d2, d3] }
  | _ => none }
def WatermarkLevelsWrongFalsely : Prop := watermarkLevelsRow.holds Try.pinned (OpenSpec.ofChange watermarkLevelsWrong)

/-- 'estoverslaw15.WatermarkFloors': WHATEVER THE INPUT: true; the input reads as it did. -/
def watermarkFloorsSpec : ChangeSpec := { name := "watermarkFloors", fn := fun _ => fun
  | [d1, d2, d3] => { results := [.lit (.bool true)], args := [d1, d2, d3] }
  | _ => none }
def watermarkFloorsRow : OpenClaim := { program := "ytneibbefkjjlnaa", sum := "9705b5f13884d9f460d9a74c5f3ca4bb6e5ac9233d89c41609f73d20503be91e", func := "estovers/estoverslaw15.WatermarkFloors", spec := "watermarkFloors", apart := false }
def WatermarkFloorsSaid : Prop := watermarkFloorsRow.holds Try.pinned (OpenSpec.ofChange watermarkFloorsSpec)

/-- ITS FALSE NEIGHBOUR: 'it returns false'. Refute it at one input. -/
def watermarkFloorsWrong : ChangeSpec := { name := "watermarkFloors", fn := fun _ => fun
  | [d1, d2, d3] => { results := [.lit (.bool false)], args := [d1, d2, d3] }
  | _ => none }
def WatermarkFloorsWrongFalsely : Prop := watermarkFloorsRow.holds Try.pinned (OpenSpec.ofChange watermarkFloorsWrong)

/-- 'estoverslaw15.WatermarkAllows': WHATEVER THE INPUT: true; the input reads as it did. -/
def watermarkAllowsSpec : ChangeSpec := { name := "watermarkAllows", fn := fun _ => fun
  | [d1, d2, d3] => { results := [.lit (.bool true)], args := [d1, d2, d3] }
  | _ => none }
def watermarkAllowsRow : OpenClaim := { program := "ytneibbefkjjlnaa", sum := "9705b5f13884d9f460d9a74c5f3ca4bb6e5ac9233d89c41609f73d20503be91e", func := "estovers/estoverslaw15.WatermarkAllows", spec := "watermarkAllows", apart := false }
def WatermarkAllowsSaid : Prop := watermarkAllowsRow.holds Try.pinned (OpenSpec.ofChange watermarkAllowsSpec)

/-- ITS FALSE NEIGHBOUR: 'it returns false'. Refute it at one input. -/
def watermarkAllowsWrong : ChangeSpec := { name := "watermarkAllows", fn := fun _ => fun
  | [d1, d2, d3] => { results := [.lit (.bool false)], args := [d1, d2, d3] }
  | _ => none }
def WatermarkAllowsWrongFalsely : Prop := watermarkAllowsRow.holds Try.pinned (OpenSpec.ofChange watermarkAllowsWrong)

/-- 'estoverslaw15.WatermarkKeeps': WHATEVER THE INPUT: true; the input reads as it did. -/
def watermarkKeepsSpec : ChangeSpec := { name := "watermarkKeeps", fn := fun _ => fun
  | [d1, d2, d3] => { results := [.lit (.bool true)], args := [d1, d2, d3] }
  | _ => none }
def watermarkKeepsRow : OpenClaim := { program := "ytneibbefkjjlnaa", sum := "9705b5f13884d9f460d9a74c5f3ca4bb6e5ac9233d89c41609f73d20503be91e", func := "estovers/estoverslaw15.WatermarkKeeps", spec := "watermarkKeeps", apart := false }
def WatermarkKeepsSaid : Prop := watermarkKeepsRow.holds Try.pinned (OpenSpec.ofChange watermarkKeepsSpec)

/-- ITS FALSE NEIGHBOUR: 'it returns false'. Refute it at one input. -/
def watermarkKeepsWrong : ChangeSpec := { name := "watermarkKeeps", fn := fun _ => fun
  | [d1, d2, d3] => { results := [.lit (.bool false)], args := [d1, d2, d3] }
  | _ => none }
def WatermarkKeepsWrongFalsely : Prop := watermarkKeepsRow.holds Try.pinned (OpenSpec.ofChange watermarkKeepsWrong)

/-- 'estoverslaw15.WatermarkOrder': WHATEVER THE INPUT: true; the input reads as it did. -/
def watermarkOrderSpec : ChangeSpec := { name := "watermarkOrder", fn := fun _ => fun
  | [d1, d2, d3] => { results := [.lit (.bool true)], args := [d1, d2, d3] }
  | _ => none }
def watermarkOrderRow : OpenClaim := { program := "ytneibbefkjjlnaa", sum := "9705b5f13884d9f460d9a74c5f3ca4bb6e5ac9233d89c41609f73d20503be91e", func := "estovers/estoverslaw15.WatermarkOrder", spec := "watermarkOrder", apart := false }
def WatermarkOrderSaid : Prop := watermarkOrderRow.holds Try.pinned (OpenSpec.ofChange watermarkOrderSpec)

/-- ITS FALSE NEIGHBOUR: 'it returns false'. Refute it at one input. -/
def watermarkOrderWrong : ChangeSpec := { name := "watermarkOrder", fn := fun _ => fun
  | [d1, d2, d3] => { results := [.lit (.bool false)], args := [d1, d2, d3] }
  | _ => none }
def WatermarkOrderWrongFalsely : Prop := watermarkOrderRow.holds Try.pinned (OpenSpec.ofChange watermarkOrderWrong)

/-- 'estoverslaw15.WatermarkCycle': WHATEVER THE INPUT: true; the input reads as it did. -/
def watermarkCycleSpec : ChangeSpec := { name := "watermarkCycle", fn := fun _ => fun
  | [d1, d2] => { results := [.lit (.bool true)], args := [d1, d2] }
  | _ => none }
def watermarkCycleRow : OpenClaim := { program := "ytneibbefkjjlnaa", sum := "9705b5f13884d9f460d9a74c5f3ca4bb6e5ac9233d89c41609f73d20503be91e", func := "estovers/estoverslaw15.WatermarkCycle", spec := "watermarkCycle", apart := false }
def WatermarkCycleSaid : Prop := watermarkCycleRow.holds Try.pinned (OpenSpec.ofChange watermarkCycleSpec)

/-- ITS FALSE NEIGHBOUR: 'it returns false'. Refute it at one input. -/
def watermarkCycleWrong : ChangeSpec := { name := "watermarkCycle", fn := fun _ => fun
  | [d1, d2] => { results := [.lit (.bool false)], args := [d1, d2] }
  | _ => none }
def WatermarkCycleWrongFalsely : Prop := watermarkCycleRow.holds Try.pinned (OpenSpec.ofChange watermarkCycleWrong)

/-- 'estoverslaw15.WatermarkZones': WHATEVER THE INPUT: true; the input reads as it did. -/
def watermarkZonesSpec : ChangeSpec := { name := "watermarkZones", fn := fun _ => fun
  | [d] => { results := [.lit (.bool true)], args := [d] }
  | _ => none }
def watermarkZonesRow : OpenClaim := { program := "ytneibbefkjjlnaa", sum := "9705b5f13884d9f460d9a74c5f3ca4bb6e5ac9233d89c41609f73d20503be91e", func := "estovers/estoverslaw15.WatermarkZones", spec := "watermarkZones", apart := false }
def WatermarkZonesSaid : Prop := watermarkZonesRow.holds Try.pinned (OpenSpec.ofChange watermarkZonesSpec)

/-- ITS FALSE NEIGHBOUR: 'it returns false'. Refute it at one input. -/
def watermarkZonesWrong : ChangeSpec := { name := "watermarkZones", fn := fun _ => fun
  | [d] => { results := [.lit (.bool false)], args := [d] }
  | _ => none }
def WatermarkZonesWrongFalsely : Prop := watermarkZonesRow.holds Try.pinned (OpenSpec.ofChange watermarkZonesWrong)

/- THE SECOND FORM. 'bulk': how many values and letters a reading holds, each counted each time it is reached (what is shared counts as often as it is met; a slice's spare places count too). A statement '..UptoSaid' is the law's where the arguments, and the package variables that the reading takes, are together of bulk at most 1048576: NARROWER than '..Said'. Prove '..Said' where nothing that the law and all that it calls make is longer than what came in: it says more and counts as full. Else prove '..UptoSaid'. A law counts once. -/
mutual
def uptoBulk {H : Type} : DataW H → Nat
  | .lit (.string bytes) => bytes.length + 1
  | .lit _ => 1
  | .nil => 1
  | .ptr d => uptoBulk d + 1
  | .slice elems spare => uptoBulkAll elems + uptoBulkAll spare + 1
  | .agg parts => uptoBulkAll parts + 1
  | .iface _ d => uptoBulk d + 1
  | .map entries => uptoBulkEntries entries + 1
  | .held _ => 1
def uptoBulkAll {H : Type} : List (DataW H) → Nat
  | [] => 0
  | d :: r => uptoBulk d + uptoBulkAll r
def uptoBulkEntries {H : Type} : List (Lit × DataW H) → Nat
  | [] => 0
  | x :: r => uptoBulkEntry x + uptoBulkEntries r
def uptoBulkEntry {H : Type} : Lit × DataW H → Nat
  | (.string bytes, d) => bytes.length + uptoBulk d + 1
  | (_, d) => uptoBulk d + 1
 end
def uptoSmall : (H : Type) → List (DataW H) → Bool := fun _ ds => decide (uptoBulkAll ds ≤ 1048576)
def OpenSpec.upto (s : _root_.Go.ChangeSpec) : _root_.Go.OpenSpec := { _root_.Go.OpenSpec.ofChange s with cond := some uptoSmall }

/-- 'estoverslaw15.WatermarkLevels', WHERE WHAT IT READS IS OF BULK AT MOST 1048576: true; the input reads as it did. -/
def watermarkLevelsUptoRow : OpenClaim := { program := "ytneibbefkjjlnaa", sum := "9705b5f13884d9f460d9a74c5f3ca4bb6e5ac9233d89c41609f73d20503be91e", func := "estovers/estoverslaw15.WatermarkLevels", spec := "watermarkLevels", apart := false, narrowed := true }
def WatermarkLevelsUptoSaid : Prop := watermarkLevelsUptoRow.holds Try.pinned (OpenSpec.upto watermarkLevelsSpec)

/-- 'estoverslaw15.WatermarkFloors', WHERE WHAT IT READS IS OF BULK AT MOST 1048576: true; the input reads as it did. -/
def watermarkFloorsUptoRow : OpenClaim := { program := "ytneibbefkjjlnaa", sum := "9705b5f13884d9f460d9a74c5f3ca4bb6e5ac9233d89c41609f73d20503be91e", func := "estovers/estoverslaw15.WatermarkFloors", spec := "watermarkFloors", apart := false, narrowed := true }
def WatermarkFloorsUptoSaid : Prop := watermarkFloorsUptoRow.holds Try.pinned (OpenSpec.upto watermarkFloorsSpec)

/-- 'estoverslaw15.WatermarkAllows', WHERE WHAT IT READS IS OF BULK AT MOST 1048576: true; the input reads as it did. -/
def watermarkAllowsUptoRow : OpenClaim := { program := "ytneibbefkjjlnaa", sum := "9705b5f13884d9f460d9a74c5f3ca4bb6e5ac9233d89c41609f73d20503be91e", func := "estovers/estoverslaw15.WatermarkAllows", spec := "watermarkAllows", apart := false, narrowed := true }
def WatermarkAllowsUptoSaid : Prop := watermarkAllowsUptoRow.holds Try.pinned (OpenSpec.upto watermarkAllowsSpec)

/-- 'estoverslaw15.WatermarkKeeps', WHERE WHAT IT READS IS OF BULK AT MOST 1048576: true; the input reads as it did. -/
def watermarkKeepsUptoRow : OpenClaim := { program := "ytneibbefkjjlnaa", sum := "9705b5f13884d9f460d9a74c5f3ca4bb6e5ac9233d89c41609f73d20503be91e", func := "estovers/estoverslaw15.WatermarkKeeps", spec := "watermarkKeeps", apart := false, narrowed := true }
def WatermarkKeepsUptoSaid : Prop := watermarkKeepsUptoRow.holds Try.pinned (OpenSpec.upto watermarkKeepsSpec)

/-- 'estoverslaw15.WatermarkOrder', WHERE WHAT IT READS IS OF BULK AT MOST 1048576: true; the input reads as it did. -/
def watermarkOrderUptoRow : OpenClaim := { program := "ytneibbefkjjlnaa", sum := "9705b5f13884d9f460d9a74c5f3ca4bb6e5ac9233d89c41609f73d20503be91e", func := "estovers/estoverslaw15.WatermarkOrder", spec := "watermarkOrder", apart := false, narrowed := true }
def WatermarkOrderUptoSaid : Prop := watermarkOrderUptoRow.holds Try.pinned (OpenSpec.upto watermarkOrderSpec)

/-- 'estoverslaw15.WatermarkCycle', WHERE WHAT IT READS IS OF BULK AT MOST 1048576: true; the input reads as it did. -/
def watermarkCycleUptoRow : OpenClaim := { program := "ytneibbefkjjlnaa", sum := "9705b5f13884d9f460d9a74c5f3ca4bb6e5ac9233d89c41609f73d20503be91e", func := "estovers/estoverslaw15.WatermarkCycle", spec := "watermarkCycle", apart := false, narrowed := true }
def WatermarkCycleUptoSaid : Prop := watermarkCycleUptoRow.holds Try.pinned (OpenSpec.upto watermarkCycleSpec)

/-- 'estoverslaw15.WatermarkZones', WHERE WHAT IT READS IS OF BULK AT MOST 1048576: true; the input reads as it did. -/
def watermarkZonesUptoRow : OpenClaim := { program := "ytneibbefkjjlnaa", sum := "9705b5f13884d9f460d9a74c5f3ca4bb6e5ac9233d89c41609f73d20503be91e", func := "estovers/estoverslaw15.WatermarkZones", spec := "watermarkZones", apart := false, narrowed := true }
def WatermarkZonesUptoSaid : Prop := watermarkZonesUptoRow.holds Try.pinned (OpenSpec.upto watermarkZonesSpec)

end Rows
end Go.Proofs.Ytneibbefkjjlnaa
