/-
  No cell of these rows narrows 'for every input' (looked for: loops, veiled, ifaces, maps, wideKeys, modest, calm, conditions, laid).
  DERIVED. THE GIVEN ROWS OF THIS SEAT. 8 by the template 'for every input the law returns true; each argument reads behind the call as it read before'; 0 by the template 'total and deterministic' (their statements: YtlhbjmoncdljoaaTotals.lean).
  GIVEN WITH THE SEED: the statements are not yours to turn. If you find one false, say at which input.
  Laid BY PROGRAM, IN A SANDBOX (cutbox-rows.mjs): the forced cells as the released guide's own fill.sh prints them over the translation cd4eadfafe3e3d05… (all of the seat's roots in one cut). By AI agents, Wed Nov 11 2026. No macro, syntax, notation, axiom, sorry.
-/
import Derived.Test.YtlhbjmoncdljoaaChecked
import GoSem.Claim
import GoSem.ClaimJoined
import GoSem.ClaimMapViews
import Derived.JoinedTies
import Derived.KernelRfl
namespace Go.Proofs.Ytlhbjmoncdljoaa
/- THE CELL 'sum', in the pinned program and in every row, IS THE sha256 OF THE DUMP (.gsa) THAT YtlhbjmoncdljoaaProg.lean LOADS. Nothing in Lean hashes anything: it is a label: what it is worth is what the hold of that sum in a sandbox is worth. -/
noncomputable def Try.pinned : Pinned := { name := "ytlhbjmoncdljoaa", sum := "cd4eadfafe3e3d055afffc6026e28a056789db60eef4cb18464daf8446a21e96", checked := Try.checked }
namespace Rows
def none {H : Type} : Left H := { results := [], args := [] }

/-- 'estoverslaw10.DeviceChecks': WHATEVER THE INPUT: true; the input reads as it did. -/
def deviceChecksSpec : ChangeSpec := { name := "deviceChecks", fn := fun _ => fun
  | [d1, d2] => { results := [.lit (.bool true)], args := [d1, d2] }
  | _ => none }
def deviceChecksRow : OpenClaim := { program := "ytlhbjmoncdljoaa", sum := "cd4eadfafe3e3d055afffc6026e28a056789db60eef4cb18464daf8446a21e96", func := "estovers/estoverslaw10.DeviceChecks", spec := "deviceChecks", inPlace := ["slices.overlaps[estovers/api.Cached]"], unfollowed := true, recurses := true, apart := false }
def DeviceChecksSaid : Prop := deviceChecksRow.holds Try.pinned (OpenSpec.ofChange deviceChecksSpec)

/-- ITS FALSE NEIGHBOUR: 'it returns false'. Refute it at one input. -/
def deviceChecksWrong : ChangeSpec := { name := "deviceChecks", fn := fun _ => fun
  | [d1, d2] => { results := [.lit (.bool false)], args := [d1, d2] }
  | _ => none }
def DeviceChecksWrongFalsely : Prop := deviceChecksRow.holds Try.pinned (OpenSpec.ofChange deviceChecksWrong)

/-- 'estoverslaw10.DeviceBegins': WHATEVER THE INPUT: true; the input reads as it did. -/
def deviceBeginsSpec : ChangeSpec := { name := "deviceBegins", fn := fun _ => fun
  | [d1, d2] => { results := [.lit (.bool true)], args := [d1, d2] }
  | _ => none }
def deviceBeginsRow : OpenClaim := { program := "ytlhbjmoncdljoaa", sum := "cd4eadfafe3e3d055afffc6026e28a056789db60eef4cb18464daf8446a21e96", func := "estovers/estoverslaw10.DeviceBegins", spec := "deviceBegins", inPlace := ["slices.overlaps[estovers/api.Cached]"], unfollowed := true, recurses := true, apart := false }
def DeviceBeginsSaid : Prop := deviceBeginsRow.holds Try.pinned (OpenSpec.ofChange deviceBeginsSpec)

/-- ITS FALSE NEIGHBOUR: 'it returns false'. Refute it at one input. -/
def deviceBeginsWrong : ChangeSpec := { name := "deviceBegins", fn := fun _ => fun
  | [d1, d2] => { results := [.lit (.bool false)], args := [d1, d2] }
  | _ => none }
def DeviceBeginsWrongFalsely : Prop := deviceBeginsRow.holds Try.pinned (OpenSpec.ofChange deviceBeginsWrong)

/-- 'estoverslaw10.DeviceSubmits': WHATEVER THE INPUT: true; the input reads as it did. -/
def deviceSubmitsSpec : ChangeSpec := { name := "deviceSubmits", fn := fun _ => fun
  | [d1, d2] => { results := [.lit (.bool true)], args := [d1, d2] }
  | _ => none }
def deviceSubmitsRow : OpenClaim := { program := "ytlhbjmoncdljoaa", sum := "cd4eadfafe3e3d055afffc6026e28a056789db60eef4cb18464daf8446a21e96", func := "estovers/estoverslaw10.DeviceSubmits", spec := "deviceSubmits", inPlace := ["slices.overlaps[estovers/api.Cached]"], unfollowed := true, recurses := true, apart := false }
def DeviceSubmitsSaid : Prop := deviceSubmitsRow.holds Try.pinned (OpenSpec.ofChange deviceSubmitsSpec)

/-- ITS FALSE NEIGHBOUR: 'it returns false'. Refute it at one input. -/
def deviceSubmitsWrong : ChangeSpec := { name := "deviceSubmits", fn := fun _ => fun
  | [d1, d2] => { results := [.lit (.bool false)], args := [d1, d2] }
  | _ => none }
def DeviceSubmitsWrongFalsely : Prop := deviceSubmitsRow.holds Try.pinned (OpenSpec.ofChange deviceSubmitsWrong)

/-- 'estoverslaw10.DeviceCompletes': WHATEVER THE INPUT: true; the input reads as it did. -/
def deviceCompletesSpec : ChangeSpec := { name := "deviceCompletes", fn := fun _ => fun
  | [d1, d2, d3] => { results := [.lit (.bool true)], args := [d1, d2, d3] }
  | _ => none }
def deviceCompletesRow : OpenClaim := { program := "ytlhbjmoncdljoaa", sum := "cd4eadfafe3e3d055afffc6026e28a056789db60eef4cb18464daf8446a21e96", func := "estovers/estoverslaw10.DeviceCompletes", spec := "deviceCompletes", inPlace := ["slices.overlaps[estovers/api.Cached]"], unfollowed := true, recurses := true, apart := false }
def DeviceCompletesSaid : Prop := deviceCompletesRow.holds Try.pinned (OpenSpec.ofChange deviceCompletesSpec)

/-- ITS FALSE NEIGHBOUR: 'it returns false'. Refute it at one input. -/
def deviceCompletesWrong : ChangeSpec := { name := "deviceCompletes", fn := fun _ => fun
  | [d1, d2, d3] => { results := [.lit (.bool false)], args := [d1, d2, d3] }
  | _ => none }
def DeviceCompletesWrongFalsely : Prop := deviceCompletesRow.holds Try.pinned (OpenSpec.ofChange deviceCompletesWrong)

/-- 'estoverslaw10.DeviceCrashes': WHATEVER THE INPUT: true; the input reads as it did. -/
def deviceCrashesSpec : ChangeSpec := { name := "deviceCrashes", fn := fun _ => fun
  | [d1, d2] => { results := [.lit (.bool true)], args := [d1, d2] }
  | _ => none }
def deviceCrashesRow : OpenClaim := { program := "ytlhbjmoncdljoaa", sum := "cd4eadfafe3e3d055afffc6026e28a056789db60eef4cb18464daf8446a21e96", func := "estovers/estoverslaw10.DeviceCrashes", spec := "deviceCrashes", inPlace := ["slices.overlaps[estovers/api.Cached]"], unfollowed := true, recurses := true, apart := false }
def DeviceCrashesSaid : Prop := deviceCrashesRow.holds Try.pinned (OpenSpec.ofChange deviceCrashesSpec)

/-- ITS FALSE NEIGHBOUR: 'it returns false'. Refute it at one input. -/
def deviceCrashesWrong : ChangeSpec := { name := "deviceCrashes", fn := fun _ => fun
  | [d1, d2] => { results := [.lit (.bool false)], args := [d1, d2] }
  | _ => none }
def DeviceCrashesWrongFalsely : Prop := deviceCrashesRow.holds Try.pinned (OpenSpec.ofChange deviceCrashesWrong)

/-- 'estoverslaw10.DeviceLasts': WHATEVER THE INPUT: true; the input reads as it did. -/
def deviceLastsSpec : ChangeSpec := { name := "deviceLasts", fn := fun _ => fun
  | [d1, d2, d3] => { results := [.lit (.bool true)], args := [d1, d2, d3] }
  | _ => none }
def deviceLastsRow : OpenClaim := { program := "ytlhbjmoncdljoaa", sum := "cd4eadfafe3e3d055afffc6026e28a056789db60eef4cb18464daf8446a21e96", func := "estovers/estoverslaw10.DeviceLasts", spec := "deviceLasts", inPlace := ["slices.overlaps[estovers/api.Cached]"], unfollowed := true, recurses := true, apart := false }
def DeviceLastsSaid : Prop := deviceLastsRow.holds Try.pinned (OpenSpec.ofChange deviceLastsSpec)

/-- ITS FALSE NEIGHBOUR: 'it returns false'. Refute it at one input. -/
def deviceLastsWrong : ChangeSpec := { name := "deviceLasts", fn := fun _ => fun
  | [d1, d2, d3] => { results := [.lit (.bool false)], args := [d1, d2, d3] }
  | _ => none }
def DeviceLastsWrongFalsely : Prop := deviceLastsRow.holds Try.pinned (OpenSpec.ofChange deviceLastsWrong)

/-- 'estoverslaw10.DeviceKeepsAll': WHATEVER THE INPUT: true; the input reads as it did. -/
def deviceKeepsAllSpec : ChangeSpec := { name := "deviceKeepsAll", fn := fun _ => fun
  | [d] => { results := [.lit (.bool true)], args := [d] }
  | _ => none }
def deviceKeepsAllRow : OpenClaim := { program := "ytlhbjmoncdljoaa", sum := "cd4eadfafe3e3d055afffc6026e28a056789db60eef4cb18464daf8446a21e96", func := "estovers/estoverslaw10.DeviceKeepsAll", spec := "deviceKeepsAll", inPlace := ["slices.overlaps[estovers/api.Cached]"], unfollowed := true, recurses := true, apart := false }
def DeviceKeepsAllSaid : Prop := deviceKeepsAllRow.holds Try.pinned (OpenSpec.ofChange deviceKeepsAllSpec)

/-- ITS FALSE NEIGHBOUR: 'it returns false'. Refute it at one input. -/
def deviceKeepsAllWrong : ChangeSpec := { name := "deviceKeepsAll", fn := fun _ => fun
  | [d] => { results := [.lit (.bool false)], args := [d] }
  | _ => none }
def DeviceKeepsAllWrongFalsely : Prop := deviceKeepsAllRow.holds Try.pinned (OpenSpec.ofChange deviceKeepsAllWrong)

/-- 'estoverslaw10.DeviceFails': WHATEVER THE INPUT: true; the input reads as it did. -/
def deviceFailsSpec : ChangeSpec := { name := "deviceFails", fn := fun _ => fun
  | [d1, d2] => { results := [.lit (.bool true)], args := [d1, d2] }
  | _ => none }
def deviceFailsRow : OpenClaim := { program := "ytlhbjmoncdljoaa", sum := "cd4eadfafe3e3d055afffc6026e28a056789db60eef4cb18464daf8446a21e96", func := "estovers/estoverslaw10.DeviceFails", spec := "deviceFails", inPlace := ["slices.overlaps[estovers/api.Cached]"], unfollowed := true, recurses := true, apart := false }
def DeviceFailsSaid : Prop := deviceFailsRow.holds Try.pinned (OpenSpec.ofChange deviceFailsSpec)

/-- ITS FALSE NEIGHBOUR: 'it returns false'. Refute it at one input. -/
def deviceFailsWrong : ChangeSpec := { name := "deviceFails", fn := fun _ => fun
  | [d1, d2] => { results := [.lit (.bool false)], args := [d1, d2] }
  | _ => none }
def DeviceFailsWrongFalsely : Prop := deviceFailsRow.holds Try.pinned (OpenSpec.ofChange deviceFailsWrong)

/- THE SECOND FORM. 'bulk': how many values and letters a reading holds, each counted each time it is reached (what is shared counts as often as it is met; a slice's spare places count too). A statement '..UptoSaid' is the law's where the arguments, and the package variables that the reading takes, are together of bulk at most 1048576: NARROWER than '..Said'. Prove '..Said' where nothing that the law and all that it calls make is longer than what came in: it says more and counts as full. Else prove '..UptoSaid'. A law counts once. -/
mutual
def uptoBulk {H : Type} : DataW H → Nat
  | .lit (.string bytes) => bytes.length + 1
  | .lit _ => 1
  | .nil => 1
  | .ptr d => uptoBulk d + 1
  | .slice elems spare => uptoBulkAll elems + uptoBulkAll spare + 1
  | .agg parts => uptoBulkAll parts + 1
  | .iface _ d => uptoBulk d + 1
  | .map entries => uptoBulkEntries entries + 1
  | .held _ => 1
def uptoBulkAll {H : Type} : List (DataW H) → Nat
  | [] => 0
  | d :: r => uptoBulk d + uptoBulkAll r
def uptoBulkEntries {H : Type} : List (Lit × DataW H) → Nat
  | [] => 0
  | x :: r => uptoBulkEntry x + uptoBulkEntries r
def uptoBulkEntry {H : Type} : Lit × DataW H → Nat
  | (.string bytes, d) => bytes.length + uptoBulk d + 1
  | (_, d) => uptoBulk d + 1
 end
def uptoSmall : (H : Type) → List (DataW H) → Bool := fun _ ds => decide (uptoBulkAll ds ≤ 1048576)
def OpenSpec.upto (s : _root_.Go.ChangeSpec) : _root_.Go.OpenSpec := { _root_.Go.OpenSpec.ofChange s with cond := some uptoSmall }

/-- 'estoverslaw10.DeviceChecks', WHERE WHAT IT READS IS OF BULK AT MOST 1048576: true; the input reads as it did. -/
def deviceChecksUptoRow : OpenClaim := { program := "ytlhbjmoncdljoaa", sum := "cd4eadfafe3e3d055afffc6026e28a056789db60eef4cb18464daf8446a21e96", func := "estovers/estoverslaw10.DeviceChecks", spec := "deviceChecks", inPlace := ["slices.overlaps[estovers/api.Cached]"], unfollowed := true, recurses := true, apart := false, narrowed := true }
def DeviceChecksUptoSaid : Prop := deviceChecksUptoRow.holds Try.pinned (OpenSpec.upto deviceChecksSpec)

/-- 'estoverslaw10.DeviceBegins', WHERE WHAT IT READS IS OF BULK AT MOST 1048576: true; the input reads as it did. -/
def deviceBeginsUptoRow : OpenClaim := { program := "ytlhbjmoncdljoaa", sum := "cd4eadfafe3e3d055afffc6026e28a056789db60eef4cb18464daf8446a21e96", func := "estovers/estoverslaw10.DeviceBegins", spec := "deviceBegins", inPlace := ["slices.overlaps[estovers/api.Cached]"], unfollowed := true, recurses := true, apart := false, narrowed := true }
def DeviceBeginsUptoSaid : Prop := deviceBeginsUptoRow.holds Try.pinned (OpenSpec.upto deviceBeginsSpec)

/-- 'estoverslaw10.DeviceSubmits', WHERE WHAT IT READS IS OF BULK AT MOST 1048576: true; the input reads as it did. -/
def deviceSubmitsUptoRow : OpenClaim := { program := "ytlhbjmoncdljoaa", sum := "cd4eadfafe3e3d055afffc6026e28a056789db60eef4cb18464daf8446a21e96", func := "estovers/estoverslaw10.DeviceSubmits", spec := "deviceSubmits", inPlace := ["slices.overlaps[estovers/api.Cached]"], unfollowed := true, recurses := true, apart := false, narrowed := true }
def DeviceSubmitsUptoSaid : Prop := deviceSubmitsUptoRow.holds Try.pinned (OpenSpec.upto deviceSubmitsSpec)

/-- 'estoverslaw10.DeviceCompletes', WHERE WHAT IT READS IS OF BULK AT MOST 1048576: true; the input reads as it did. -/
def deviceCompletesUptoRow : OpenClaim := { program := "ytlhbjmoncdljoaa", sum := "cd4eadfafe3e3d055afffc6026e28a056789db60eef4cb18464daf8446a21e96", func := "estovers/estoverslaw10.DeviceCompletes", spec := "deviceCompletes", inPlace := ["slices.overlaps[estovers/api.Cached]"], unfollowed := true, recurses := true, apart := false, narrowed := true }
def DeviceCompletesUptoSaid : Prop := deviceCompletesUptoRow.holds Try.pinned (OpenSpec.upto deviceCompletesSpec)

/-- 'estoverslaw10.DeviceCrashes', WHERE WHAT IT READS IS OF BULK AT MOST 1048576: true; the input reads as it did. -/
def deviceCrashesUptoRow : OpenClaim := { program := "ytlhbjmoncdljoaa", sum := "cd4eadfafe3e3d055afffc6026e28a056789db60eef4cb18464daf8446a21e96", func := "estovers/estoverslaw10.DeviceCrashes", spec := "deviceCrashes", inPlace := ["slices.overlaps[estovers/api.Cached]"], unfollowed := true, recurses := true, apart := false, narrowed := true }
def DeviceCrashesUptoSaid : Prop := deviceCrashesUptoRow.holds Try.pinned (OpenSpec.upto deviceCrashesSpec)

/-- 'estoverslaw10.DeviceLasts', WHERE WHAT IT READS IS OF BULK AT MOST 1048576: true; the input reads as it did. -/
def deviceLastsUptoRow : OpenClaim := { program := "ytlhbjmoncdljoaa", sum := "cd4eadfafe3e3d055afffc6026e28a056789db60eef4cb18464daf8446a21e96", func := "estovers/estoverslaw10.DeviceLasts", spec := "deviceLasts", inPlace := ["slices.overlaps[estovers/api.Cached]"], unfollowed := true, recurses := true, apart := false, narrowed := true }
def DeviceLastsUptoSaid : Prop := deviceLastsUptoRow.holds Try.pinned (OpenSpec.upto deviceLastsSpec)

/-- 'estoverslaw10.DeviceKeepsAll', WHERE WHAT IT READS IS OF BULK AT MOST 1048576: true; the input reads as it did. -/
def deviceKeepsAllUptoRow : OpenClaim := { program := "ytlhbjmoncdljoaa", sum := "cd4eadfafe3e3d055afffc6026e28a056789db60eef4cb18464daf8446a21e96", func := "estovers/estoverslaw10.DeviceKeepsAll", spec := "deviceKeepsAll", inPlace := ["slices.overlaps[estovers/api.Cached]"], unfollowed := true, recurses := true, apart := false, narrowed := true }
def DeviceKeepsAllUptoSaid : Prop := deviceKeepsAllUptoRow.holds Try.pinned (OpenSpec.upto deviceKeepsAllSpec)

/-- 'estoverslaw10.DeviceFails', WHERE WHAT IT READS IS OF BULK AT MOST 1048576: true; the input reads as it did. -/
def deviceFailsUptoRow : OpenClaim := { program := "ytlhbjmoncdljoaa", sum := "cd4eadfafe3e3d055afffc6026e28a056789db60eef4cb18464daf8446a21e96", func := "estovers/estoverslaw10.DeviceFails", spec := "deviceFails", inPlace := ["slices.overlaps[estovers/api.Cached]"], unfollowed := true, recurses := true, apart := false, narrowed := true }
def DeviceFailsUptoSaid : Prop := deviceFailsUptoRow.holds Try.pinned (OpenSpec.upto deviceFailsSpec)

end Rows
end Go.Proofs.Ytlhbjmoncdljoaa
