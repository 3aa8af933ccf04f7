/-
  No cell of these rows narrows 'for every input' (looked for: loops, veiled, ifaces, maps, wideKeys, modest, calm, conditions, laid).
  DERIVED. THE GIVEN ROWS OF THIS SEAT. 8 by the template 'for every input the law returns true; each argument reads behind the call as it read before'; 0 by the template 'total and deterministic' (their statements: YtaapgfhcnfaemaaTotals.lean).
  GIVEN WITH THE SEED: the statements are not yours to turn. If you find one false, say at which input.
  Laid BY PROGRAM, IN A SANDBOX (cutbox-rows.mjs): the forced cells as the released guide's own fill.sh prints them over the translation 76278c949bc2656f… (all of the seat's roots in one cut). By AI agents, Wed Nov 11 2026. No macro, syntax, notation, axiom, sorry.
-/
import Derived.Test.YtaapgfhcnfaemaaChecked
import GoSem.Claim
import GoSem.ClaimJoined
import GoSem.ClaimMapViews
import Derived.JoinedTies
import Derived.KernelRfl
namespace Go.Proofs.Ytaapgfhcnfaemaa
/- THE CELL 'sum', in the pinned program and in every row, IS THE sha256 OF THE DUMP (.gsa) THAT YtaapgfhcnfaemaaProg.lean LOADS. Nothing in Lean hashes anything: it is a label: what it is worth is what the hold of that sum in a sandbox is worth. -/
noncomputable def Try.pinned : Pinned := { name := "ytaapgfhcnfaemaa", sum := "76278c949bc2656f8cc5f54e18a203260e3228e7b0ed0259925d7cfc763e6abd", checked := Try.checked }
namespace Rows
def none {H : Type} : Left H := { results := [], args := [] }

/-- 'estoverslaw33.CompressPacks': WHATEVER THE INPUT: true; the input reads as it did. -/
def compressPacksSpec : ChangeSpec := { name := "compressPacks", fn := fun _ => fun
  | [d] => { results := [.lit (.bool true)], args := [d] }
  | _ => none }
def compressPacksRow : OpenClaim := { program := "ytaapgfhcnfaemaa", sum := "76278c949bc2656f8cc5f54e18a203260e3228e7b0ed0259925d7cfc763e6abd", func := "estovers/estoverslaw33.CompressPacks", spec := "compressPacks", inPlace := ["internal/bytealg.MakeNoZero"], unfollowed := true, recurses := true, apart := false }
def CompressPacksSaid : Prop := compressPacksRow.holds Try.pinned (OpenSpec.ofChange compressPacksSpec)

/-- ITS FALSE NEIGHBOUR: 'it returns false'. Refute it at one input. -/
def compressPacksWrong : ChangeSpec := { name := "compressPacks", fn := fun _ => fun
  | [d] => { results := [.lit (.bool false)], args := [d] }
  | _ => none }
def CompressPacksWrongFalsely : Prop := compressPacksRow.holds Try.pinned (OpenSpec.ofChange compressPacksWrong)

/-- 'estoverslaw33.CompressUnpacks': WHATEVER THE INPUT: true; the input reads as it did. -/
def compressUnpacksSpec : ChangeSpec := { name := "compressUnpacks", fn := fun _ => fun
  | [d] => { results := [.lit (.bool true)], args := [d] }
  | _ => none }
def compressUnpacksRow : OpenClaim := { program := "ytaapgfhcnfaemaa", sum := "76278c949bc2656f8cc5f54e18a203260e3228e7b0ed0259925d7cfc763e6abd", func := "estovers/estoverslaw33.CompressUnpacks", spec := "compressUnpacks", inPlace := ["internal/bytealg.MakeNoZero"], unfollowed := true, recurses := true, apart := false }
def CompressUnpacksSaid : Prop := compressUnpacksRow.holds Try.pinned (OpenSpec.ofChange compressUnpacksSpec)

/-- ITS FALSE NEIGHBOUR: 'it returns false'. Refute it at one input. -/
def compressUnpacksWrong : ChangeSpec := { name := "compressUnpacks", fn := fun _ => fun
  | [d] => { results := [.lit (.bool false)], args := [d] }
  | _ => none }
def CompressUnpacksWrongFalsely : Prop := compressUnpacksRow.holds Try.pinned (OpenSpec.ofChange compressUnpacksWrong)

/-- 'estoverslaw33.CompressBack': WHATEVER THE INPUT: true; the input reads as it did. -/
def compressBackSpec : ChangeSpec := { name := "compressBack", fn := fun _ => fun
  | [d] => { results := [.lit (.bool true)], args := [d] }
  | _ => none }
def compressBackRow : OpenClaim := { program := "ytaapgfhcnfaemaa", sum := "76278c949bc2656f8cc5f54e18a203260e3228e7b0ed0259925d7cfc763e6abd", func := "estovers/estoverslaw33.CompressBack", spec := "compressBack", inPlace := ["internal/bytealg.MakeNoZero"], unfollowed := true, recurses := true, apart := false }
def CompressBackSaid : Prop := compressBackRow.holds Try.pinned (OpenSpec.ofChange compressBackSpec)

/-- ITS FALSE NEIGHBOUR: 'it returns false'. Refute it at one input. -/
def compressBackWrong : ChangeSpec := { name := "compressBack", fn := fun _ => fun
  | [d] => { results := [.lit (.bool false)], args := [d] }
  | _ => none }
def CompressBackWrongFalsely : Prop := compressBackRow.holds Try.pinned (OpenSpec.ofChange compressBackWrong)

/-- 'estoverslaw33.CompressShort': WHATEVER THE INPUT: true; the input reads as it did. -/
def compressShortSpec : ChangeSpec := { name := "compressShort", fn := fun _ => fun
  | [d] => { results := [.lit (.bool true)], args := [d] }
  | _ => none }
def compressShortRow : OpenClaim := { program := "ytaapgfhcnfaemaa", sum := "76278c949bc2656f8cc5f54e18a203260e3228e7b0ed0259925d7cfc763e6abd", func := "estovers/estoverslaw33.CompressShort", spec := "compressShort", inPlace := ["internal/bytealg.MakeNoZero"], unfollowed := true, recurses := true, apart := false }
def CompressShortSaid : Prop := compressShortRow.holds Try.pinned (OpenSpec.ofChange compressShortSpec)

/-- ITS FALSE NEIGHBOUR: 'it returns false'. Refute it at one input. -/
def compressShortWrong : ChangeSpec := { name := "compressShort", fn := fun _ => fun
  | [d] => { results := [.lit (.bool false)], args := [d] }
  | _ => none }
def CompressShortWrongFalsely : Prop := compressShortRow.holds Try.pinned (OpenSpec.ofChange compressShortWrong)

/-- 'estoverslaw33.CompressApart': WHATEVER THE INPUT: true; the input reads as it did. -/
def compressApartSpec : ChangeSpec := { name := "compressApart", fn := fun _ => fun
  | [d1, d2] => { results := [.lit (.bool true)], args := [d1, d2] }
  | _ => none }
def compressApartRow : OpenClaim := { program := "ytaapgfhcnfaemaa", sum := "76278c949bc2656f8cc5f54e18a203260e3228e7b0ed0259925d7cfc763e6abd", func := "estovers/estoverslaw33.CompressApart", spec := "compressApart", inPlace := ["internal/bytealg.MakeNoZero"], unfollowed := true, recurses := true, apart := false }
def CompressApartSaid : Prop := compressApartRow.holds Try.pinned (OpenSpec.ofChange compressApartSpec)

/-- ITS FALSE NEIGHBOUR: 'it returns false'. Refute it at one input. -/
def compressApartWrong : ChangeSpec := { name := "compressApart", fn := fun _ => fun
  | [d1, d2] => { results := [.lit (.bool false)], args := [d1, d2] }
  | _ => none }
def CompressApartWrongFalsely : Prop := compressApartRow.holds Try.pinned (OpenSpec.ofChange compressApartWrong)

/-- 'estoverslaw33.CompressCut': WHATEVER THE INPUT: true; the input reads as it did. -/
def compressCutSpec : ChangeSpec := { name := "compressCut", fn := fun _ => fun
  | [d1, d2] => { results := [.lit (.bool true)], args := [d1, d2] }
  | _ => none }
def compressCutRow : OpenClaim := { program := "ytaapgfhcnfaemaa", sum := "76278c949bc2656f8cc5f54e18a203260e3228e7b0ed0259925d7cfc763e6abd", func := "estovers/estoverslaw33.CompressCut", spec := "compressCut", inPlace := ["internal/bytealg.MakeNoZero"], unfollowed := true, recurses := true, apart := false }
def CompressCutSaid : Prop := compressCutRow.holds Try.pinned (OpenSpec.ofChange compressCutSpec)

/-- ITS FALSE NEIGHBOUR: 'it returns false'. Refute it at one input. -/
def compressCutWrong : ChangeSpec := { name := "compressCut", fn := fun _ => fun
  | [d1, d2] => { results := [.lit (.bool false)], args := [d1, d2] }
  | _ => none }
def CompressCutWrongFalsely : Prop := compressCutRow.holds Try.pinned (OpenSpec.ofChange compressCutWrong)

/-- 'estoverslaw33.CompressAgain': WHATEVER THE INPUT: true; the input reads as it did. -/
def compressAgainSpec : ChangeSpec := { name := "compressAgain", fn := fun _ => fun
  | [d] => { results := [.lit (.bool true)], args := [d] }
  | _ => none }
def compressAgainRow : OpenClaim := { program := "ytaapgfhcnfaemaa", sum := "76278c949bc2656f8cc5f54e18a203260e3228e7b0ed0259925d7cfc763e6abd", func := "estovers/estoverslaw33.CompressAgain", spec := "compressAgain", inPlace := ["internal/bytealg.MakeNoZero"], unfollowed := true, recurses := true, apart := false }
def CompressAgainSaid : Prop := compressAgainRow.holds Try.pinned (OpenSpec.ofChange compressAgainSpec)

/-- ITS FALSE NEIGHBOUR: 'it returns false'. Refute it at one input. -/
def compressAgainWrong : ChangeSpec := { name := "compressAgain", fn := fun _ => fun
  | [d] => { results := [.lit (.bool false)], args := [d] }
  | _ => none }
def CompressAgainWrongFalsely : Prop := compressAgainRow.holds Try.pinned (OpenSpec.ofChange compressAgainWrong)

/-- 'estoverslaw33.CompressKeeps': WHATEVER THE INPUT: true; the input reads as it did. -/
def compressKeepsSpec : ChangeSpec := { name := "compressKeeps", fn := fun _ => fun
  | [d] => { results := [.lit (.bool true)], args := [d] }
  | _ => none }
def compressKeepsRow : OpenClaim := { program := "ytaapgfhcnfaemaa", sum := "76278c949bc2656f8cc5f54e18a203260e3228e7b0ed0259925d7cfc763e6abd", func := "estovers/estoverslaw33.CompressKeeps", spec := "compressKeeps", inPlace := ["internal/bytealg.MakeNoZero"], unfollowed := true, recurses := true, apart := false }
def CompressKeepsSaid : Prop := compressKeepsRow.holds Try.pinned (OpenSpec.ofChange compressKeepsSpec)

/-- ITS FALSE NEIGHBOUR: 'it returns false'. Refute it at one input. -/
def compressKeepsWrong : ChangeSpec := { name := "compressKeeps", fn := fun _ => fun
  | [d] => { results := [.lit (.bool false)], args := [d] }
  | _ => none }
def CompressKeepsWrongFalsely : Prop := compressKeepsRow.holds Try.pinned (OpenSpec.ofChange compressKeepsWrong)

/- THE SECOND FORM. 'bulk': how many values and letters a reading holds, each counted each time it is reached (what is shared counts as often as it is met; a slice's spare places count too). A statement '..UptoSaid' is the law's where the arguments, and the package variables that the reading takes, are together of bulk at most 1048576: NARROWER than '..Said'. Prove '..Said' where nothing that the law and all that it calls make is longer than what came in: it says more and counts as full. Else prove '..UptoSaid'. A law counts once. -/
mutual
def uptoBulk {H : Type} : DataW H → Nat
  | .lit (.string bytes) => bytes.length + 1
  | .lit _ => 1
  | .nil => 1
  | .ptr d => uptoBulk d + 1
  | .slice elems spare => uptoBulkAll elems + uptoBulkAll spare + 1
  | .agg parts => uptoBulkAll parts + 1
  | .iface _ d => uptoBulk d + 1
  | .map entries => uptoBulkEntries entries + 1
  | .held _ => 1
def uptoBulkAll {H : Type} : List (DataW H) → Nat
  | [] => 0
  | d :: r => uptoBulk d + uptoBulkAll r
def uptoBulkEntries {H : Type} : List (Lit × DataW H) → Nat
  | [] => 0
  | x :: r => uptoBulkEntry x + uptoBulkEntries r
def uptoBulkEntry {H : Type} : Lit × DataW H → Nat
  | (.string bytes, d) => bytes.length + uptoBulk d + 1
  | (_, d) => uptoBulk d + 1
 end
def uptoSmall : (H : Type) → List (DataW H) → Bool := fun _ ds => decide (uptoBulkAll ds ≤ 1048576)
def OpenSpec.upto (s : _root_.Go.ChangeSpec) : _root_.Go.OpenSpec := { _root_.Go.OpenSpec.ofChange s with cond := some uptoSmall }

/-- 'estoverslaw33.CompressPacks', WHERE WHAT IT READS IS OF BULK AT MOST 1048576: true; the input reads as it did. -/
def compressPacksUptoRow : OpenClaim := { program := "ytaapgfhcnfaemaa", sum := "76278c949bc2656f8cc5f54e18a203260e3228e7b0ed0259925d7cfc763e6abd", func := "estovers/estoverslaw33.CompressPacks", spec := "compressPacks", inPlace := ["internal/bytealg.MakeNoZero"], unfollowed := true, recurses := true, apart := false, narrowed := true }
def CompressPacksUptoSaid : Prop := compressPacksUptoRow.holds Try.pinned (OpenSpec.upto compressPacksSpec)

/-- 'estoverslaw33.CompressUnpacks', WHERE WHAT IT READS IS OF BULK AT MOST 1048576: true; the input reads as it did. -/
def compressUnpacksUptoRow : OpenClaim := { program := "ytaapgfhcnfaemaa", sum := "76278c949bc2656f8cc5f54e18a203260e3228e7b0ed0259925d7cfc763e6abd", func := "estovers/estoverslaw33.CompressUnpacks", spec := "compressUnpacks", inPlace := ["internal/bytealg.MakeNoZero"], unfollowed := true, recurses := true, apart := false, narrowed := true }
def CompressUnpacksUptoSaid : Prop := compressUnpacksUptoRow.holds Try.pinned (OpenSpec.upto compressUnpacksSpec)

/-- 'estoverslaw33.CompressBack', WHERE WHAT IT READS IS OF BULK AT MOST 1048576: true; the input reads as it did. -/
def compressBackUptoRow : OpenClaim := { program := "ytaapgfhcnfaemaa", sum := "76278c949bc2656f8cc5f54e18a203260e3228e7b0ed0259925d7cfc763e6abd", func := "estovers/estoverslaw33.CompressBack", spec := "compressBack", inPlace := ["internal/bytealg.MakeNoZero"], unfollowed := true, recurses := true, apart := false, narrowed := true }
def CompressBackUptoSaid : Prop := compressBackUptoRow.holds Try.pinned (OpenSpec.upto compressBackSpec)

/-- 'estoverslaw33.CompressShort', WHERE WHAT IT READS IS OF BULK AT MOST 1048576: true; the input reads as it did. -/
def compressShortUptoRow : OpenClaim := { program := "ytaapgfhcnfaemaa", sum := "76278c949bc2656f8cc5f54e18a203260e3228e7b0ed0259925d7cfc763e6abd", func := "estovers/estoverslaw33.CompressShort", spec := "compressShort", inPlace := ["internal/bytealg.MakeNoZero"], unfollowed := true, recurses := true, apart := false, narrowed := true }
def CompressShortUptoSaid : Prop := compressShortUptoRow.holds Try.pinned (OpenSpec.upto compressShortSpec)

/-- 'estoverslaw33.CompressApart', WHERE WHAT IT READS IS OF BULK AT MOST 1048576: true; the input reads as it did. -/
def compressApartUptoRow : OpenClaim := { program := "ytaapgfhcnfaemaa", sum := "76278c949bc2656f8cc5f54e18a203260e3228e7b0ed0259925d7cfc763e6abd", func := "estovers/estoverslaw33.CompressApart", spec := "compressApart", inPlace := ["internal/bytealg.MakeNoZero"], unfollowed := true, recurses := true, apart := false, narrowed := true }
def CompressApartUptoSaid : Prop := compressApartUptoRow.holds Try.pinned (OpenSpec.upto compressApartSpec)

/-- 'estoverslaw33.CompressCut', WHERE WHAT IT READS IS OF BULK AT MOST 1048576: true; the input reads as it did. -/
def compressCutUptoRow : OpenClaim := { program := "ytaapgfhcnfaemaa", sum := "76278c949bc2656f8cc5f54e18a203260e3228e7b0ed0259925d7cfc763e6abd", func := "estovers/estoverslaw33.CompressCut", spec := "compressCut", inPlace := ["internal/bytealg.MakeNoZero"], unfollowed := true, recurses := true, apart := false, narrowed := true }
def CompressCutUptoSaid : Prop := compressCutUptoRow.holds Try.pinned (OpenSpec.upto compressCutSpec)

/-- 'estoverslaw33.CompressAgain', WHERE WHAT IT READS IS OF BULK AT MOST 1048576: true; the input reads as it did. -/
def compressAgainUptoRow : OpenClaim := { program := "ytaapgfhcnfaemaa", sum := "76278c949bc2656f8cc5f54e18a203260e3228e7b0ed0259925d7cfc763e6abd", func := "estovers/estoverslaw33.CompressAgain", spec := "compressAgain", inPlace := ["internal/bytealg.MakeNoZero"], unfollowed := true, recurses := true, apart := false, narrowed := true }
def CompressAgainUptoSaid : Prop := compressAgainUptoRow.holds Try.pinned (OpenSpec.upto compressAgainSpec)

/-- 'estoverslaw33.CompressKeeps', WHERE WHAT IT READS IS OF BULK AT MOST 1048576: true; the input reads as it did. -/
def compressKeepsUptoRow : OpenClaim := { program := "ytaapgfhcnfaemaa", sum := "76278c949bc2656f8cc5f54e18a203260e3228e7b0ed0259925d7cfc763e6abd", func := "estovers/estoverslaw33.CompressKeeps", spec := "compressKeeps", inPlace := ["internal/bytealg.MakeNoZero"], unfollowed := true, recurses := true, apart := false, narrowed := true }
def CompressKeepsUptoSaid : Prop := compressKeepsUptoRow.holds Try.pinned (OpenSpec.upto compressKeepsSpec)

end Rows
end Go.Proofs.Ytaapgfhcnfaemaa
