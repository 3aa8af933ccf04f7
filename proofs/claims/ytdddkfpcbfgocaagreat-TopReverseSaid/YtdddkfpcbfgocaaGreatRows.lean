/-
  No cell of these rows narrows 'for every input' (looked for: loops, veiled, ifaces, maps, wideKeys, modest, calm, conditions, laid).
  DERIVED. THE GIVEN ROWS OF THIS SEAT. 4 by the template 'for every input the law returns true; each argument reads behind the call as it read before'; 0 by the template 'total and deterministic' (their statements: YtdddkfpcbfgocaaGreatTotals.lean).
  GIVEN WITH THE SEED: the statements are not yours to turn. If you find one false, say at which input.
  Laid BY PROGRAM, IN A SANDBOX (cutbox-rows.mjs): the forced cells as the released guide's own fill.sh prints them over the translation 147b9cddb056f19c… (all of the seat's roots in one cut). By AI agents, Wed Nov 11 2026. No macro, syntax, notation, axiom, sorry.
-/
import Derived.Test.YtdddkfpcbfgocaaGreatChecked
import GoSem.Claim
import GoSem.ClaimJoined
import GoSem.ClaimMapViews
import Derived.JoinedTies
import Derived.KernelRfl
namespace Go.Proofs.YtdddkfpcbfgocaaGreat
/- THE CELL 'sum', in the pinned program and in every row, IS THE sha256 OF THE DUMP (.gsa) THAT YtdddkfpcbfgocaaGreatProg.lean LOADS. Nothing in Lean hashes anything: it is a label: what it is worth is what the hold of that sum in a sandbox is worth. -/
noncomputable def Tryz.pinned : Pinned := { name := "ytdddkfpcbfgocaagreat", sum := "147b9cddb056f19c1b141e1c24dabebaad7ca67299c96491a3bac510aff0238c", checked := Tryz.checked }
namespace Rows
def none {H : Type} : Left H := { results := [], args := [] }

/-- 'estoverstop.TopSlabBack': WHATEVER THE INPUT: true; the input reads as it did. -/
def topSlabBackSpec : ChangeSpec := { name := "topSlabBack", fn := fun _ => fun
  | [d1, d2] => { results := [.lit (.bool true)], args := [d1, d2] }
  | _ => none }
def topSlabBackRow : OpenClaim := { program := "ytdddkfpcbfgocaagreat", sum := "147b9cddb056f19c1b141e1c24dabebaad7ca67299c96491a3bac510aff0238c", func := "estovers/estoverstop.TopSlabBack", spec := "topSlabBack", inPlace := ["slices.overlaps[int]", "slices.overlaps[estovers/api.Slab]"], unfollowed := true, recurses := true, apart := false }
def TopSlabBackSaid : Prop := topSlabBackRow.holds Tryz.pinned (OpenSpec.ofChange topSlabBackSpec)

/-- ITS FALSE NEIGHBOUR: 'it returns false'. Refute it at one input. -/
def topSlabBackWrong : ChangeSpec := { name := "topSlabBack", fn := fun _ => fun
  | [d1, d2] => { results := [.lit (.bool false)], args := [d1, d2] }
  | _ => none }
def TopSlabBackWrongFalsely : Prop := topSlabBackRow.holds Tryz.pinned (OpenSpec.ofChange topSlabBackWrong)

/-- 'estoverstop.TopSlabFrames': WHATEVER THE INPUT: true; the input reads as it did. -/
def topSlabFramesSpec : ChangeSpec := { name := "topSlabFrames", fn := fun _ => fun
  | [d1, d2] => { results := [.lit (.bool true)], args := [d1, d2] }
  | _ => none }
def topSlabFramesRow : OpenClaim := { program := "ytdddkfpcbfgocaagreat", sum := "147b9cddb056f19c1b141e1c24dabebaad7ca67299c96491a3bac510aff0238c", func := "estovers/estoverstop.TopSlabFrames", spec := "topSlabFrames", inPlace := ["slices.overlaps[int]", "slices.overlaps[estovers/api.Slab]"], unfollowed := true, recurses := true, apart := false }
def TopSlabFramesSaid : Prop := topSlabFramesRow.holds Tryz.pinned (OpenSpec.ofChange topSlabFramesSpec)

/-- ITS FALSE NEIGHBOUR: 'it returns false'. Refute it at one input. -/
def topSlabFramesWrong : ChangeSpec := { name := "topSlabFrames", fn := fun _ => fun
  | [d1, d2] => { results := [.lit (.bool false)], args := [d1, d2] }
  | _ => none }
def TopSlabFramesWrongFalsely : Prop := topSlabFramesRow.holds Tryz.pinned (OpenSpec.ofChange topSlabFramesWrong)

/-- 'estoverstop.TopNearest': WHATEVER THE INPUT: true; the input reads as it did. -/
def topNearestSpec : ChangeSpec := { name := "topNearest", fn := fun _ => fun
  | [d] => { results := [.lit (.bool true)], args := [d] }
  | _ => none }
def topNearestRow : OpenClaim := { program := "ytdddkfpcbfgocaagreat", sum := "147b9cddb056f19c1b141e1c24dabebaad7ca67299c96491a3bac510aff0238c", func := "estovers/estoverstop.TopNearest", spec := "topNearest", inPlace := ["slices.overlaps[int]", "slices.overlaps[estovers/api.Slab]"], unfollowed := true, recurses := true, apart := false }
def TopNearestSaid : Prop := topNearestRow.holds Tryz.pinned (OpenSpec.ofChange topNearestSpec)

/-- ITS FALSE NEIGHBOUR: 'it returns false'. Refute it at one input. -/
def topNearestWrong : ChangeSpec := { name := "topNearest", fn := fun _ => fun
  | [d] => { results := [.lit (.bool false)], args := [d] }
  | _ => none }
def TopNearestWrongFalsely : Prop := topNearestRow.holds Tryz.pinned (OpenSpec.ofChange topNearestWrong)

/-- 'estoverstop.TopReverse': WHATEVER THE INPUT: true; the input reads as it did. -/
def topReverseSpec : ChangeSpec := { name := "topReverse", fn := fun _ => fun
  | [d] => { results := [.lit (.bool true)], args := [d] }
  | _ => none }
def topReverseRow : OpenClaim := { program := "ytdddkfpcbfgocaagreat", sum := "147b9cddb056f19c1b141e1c24dabebaad7ca67299c96491a3bac510aff0238c", func := "estovers/estoverstop.TopReverse", spec := "topReverse", inPlace := ["internal/reflectlite.ValueOf", "internal/reflectlite.Swapper", "(internal/reflectlite.Value).Len", "slices.overlaps[estovers/api.Mapping]"], unfollowed := true, recurses := true, apart := false }
def TopReverseSaid : Prop := topReverseRow.holds Tryz.pinned (OpenSpec.ofChange topReverseSpec)

/-- ITS FALSE NEIGHBOUR: 'it returns false'. Refute it at one input. -/
def topReverseWrong : ChangeSpec := { name := "topReverse", fn := fun _ => fun
  | [d] => { results := [.lit (.bool false)], args := [d] }
  | _ => none }
def TopReverseWrongFalsely : Prop := topReverseRow.holds Tryz.pinned (OpenSpec.ofChange topReverseWrong)

/- THE SECOND FORM. 'bulk': how many values and letters a reading holds, each counted each time it is reached (what is shared counts as often as it is met; a slice's spare places count too). A statement '..UptoSaid' is the law's where the arguments, and the package variables that the reading takes, are together of bulk at most 1048576: NARROWER than '..Said'. Prove '..Said' where nothing that the law and all that it calls make is longer than what came in: it says more and counts as full. Else prove '..UptoSaid'. A law counts once. -/
mutual
def uptoBulk {H : Type} : DataW H → Nat
  | .lit (.string bytes) => bytes.length + 1
  | .lit _ => 1
  | .nil => 1
  | .ptr d => uptoBulk d + 1
  | .slice elems spare => uptoBulkAll elems + uptoBulkAll spare + 1
  | .agg parts => uptoBulkAll parts + 1
  | .iface _ d => uptoBulk d + 1
  | .map entries => uptoBulkEntries entries + 1
  | .held _ => 1
def uptoBulkAll {H : Type} : List (DataW H) → Nat
  | [] => 0
  | d :: r => uptoBulk d + uptoBulkAll r
def uptoBulkEntries {H : Type} : List (Lit × DataW H) → Nat
  | [] => 0
  | x :: r => uptoBulkEntry x + uptoBulkEntries r
def uptoBulkEntry {H : Type} : Lit × DataW H → Nat
  | (.string bytes, d) => bytes.length + uptoBulk d + 1
  | (_, d) => uptoBulk d + 1
 end
def uptoSmall : (H : Type) → List (DataW H) → Bool := fun _ ds => decide (uptoBulkAll ds ≤ 1048576)
def OpenSpec.upto (s : _root_.Go.ChangeSpec) : _root_.Go.OpenSpec := { _root_.Go.OpenSpec.ofChange s with cond := some uptoSmall }

/-- 'estoverstop.TopSlabBack', WHERE WHAT IT READS IS OF BULK AT MOST 1048576: true; the input reads as it did. -/
def topSlabBackUptoRow : OpenClaim := { program := "ytdddkfpcbfgocaagreat", sum := "147b9cddb056f19c1b141e1c24dabebaad7ca67299c96491a3bac510aff0238c", func := "estovers/estoverstop.TopSlabBack", spec := "topSlabBack", inPlace := ["slices.overlaps[int]", "slices.overlaps[estovers/api.Slab]"], unfollowed := true, recurses := true, apart := false, narrowed := true }
def TopSlabBackUptoSaid : Prop := topSlabBackUptoRow.holds Tryz.pinned (OpenSpec.upto topSlabBackSpec)

/-- 'estoverstop.TopSlabFrames', WHERE WHAT IT READS IS OF BULK AT MOST 1048576: true; the input reads as it did. -/
def topSlabFramesUptoRow : OpenClaim := { program := "ytdddkfpcbfgocaagreat", sum := "147b9cddb056f19c1b141e1c24dabebaad7ca67299c96491a3bac510aff0238c", func := "estovers/estoverstop.TopSlabFrames", spec := "topSlabFrames", inPlace := ["slices.overlaps[int]", "slices.overlaps[estovers/api.Slab]"], unfollowed := true, recurses := true, apart := false, narrowed := true }
def TopSlabFramesUptoSaid : Prop := topSlabFramesUptoRow.holds Tryz.pinned (OpenSpec.upto topSlabFramesSpec)

/-- 'estoverstop.TopNearest', WHERE WHAT IT READS IS OF BULK AT MOST 1048576: true; the input reads as it did. -/
def topNearestUptoRow : OpenClaim := { program := "ytdddkfpcbfgocaagreat", sum := "147b9cddb056f19c1b141e1c24dabebaad7ca67299c96491a3bac510aff0238c", func := "estovers/estoverstop.TopNearest", spec := "topNearest", inPlace := ["slices.overlaps[int]", "slices.overlaps[estovers/api.Slab]"], unfollowed := true, recurses := true, apart := false, narrowed := true }
def TopNearestUptoSaid : Prop := topNearestUptoRow.holds Tryz.pinned (OpenSpec.upto topNearestSpec)

/-- 'estoverstop.TopReverse', WHERE WHAT IT READS IS OF BULK AT MOST 1048576: true; the input reads as it did. -/
def topReverseUptoRow : OpenClaim := { program := "ytdddkfpcbfgocaagreat", sum := "147b9cddb056f19c1b141e1c24dabebaad7ca67299c96491a3bac510aff0238c", func := "estovers/estoverstop.TopReverse", spec := "topReverse", inPlace := ["internal/reflectlite.ValueOf", "internal/reflectlite.Swapper", "(internal/reflectlite.Value).Len", "slices.overlaps[estovers/api.Mapping]"], unfollowed := true, recurses := true, apart := false, narrowed := true }
def TopReverseUptoSaid : Prop := topReverseUptoRow.holds Tryz.pinned (OpenSpec.upto topReverseSpec)

end Rows
end Go.Proofs.YtdddkfpcbfgocaaGreat
