/-
  No cell of these rows narrows 'for every input' (looked for: loops, veiled, ifaces, maps, wideKeys, modest, calm, conditions, laid).
  DERIVED. THE GIVEN ROWS OF THIS SEAT. 9 by the template 'for every input the law returns true; each argument reads behind the call as it read before'; 0 by the template 'total and deterministic' (their statements: YthhdiiboblaclaaTotals.lean).
  GIVEN WITH THE SEED: the statements are not yours to turn. If you find one false, say at which input.
  Laid BY PROGRAM, IN A SANDBOX (cutbox-rows.mjs): the forced cells as the released guide's own fill.sh prints them over the translation a5ecf19f3bc6a12e… (all of the seat's roots in one cut). By AI agents, Wed Nov 11 2026. No macro, syntax, notation, axiom, sorry.
-/
import Derived.Test.YthhdiiboblaclaaChecked
import GoSem.Claim
import GoSem.ClaimJoined
import GoSem.ClaimMapViews
import Derived.JoinedTies
import Derived.KernelRfl
namespace Go.Proofs.Ythhdiiboblaclaa
/- THE CELL 'sum', in the pinned program and in every row, IS THE sha256 OF THE DUMP (.gsa) THAT YthhdiiboblaclaaProg.lean LOADS. Nothing in Lean hashes anything: it is a label: what it is worth is what the hold of that sum in a sandbox is worth. -/
noncomputable def Try.pinned : Pinned := { name := "ythhdiiboblaclaa", sum := "a5ecf19f3bc6a12e7fe60bc7ac5cb79b2a150a6ba668b051abc6803b1aaf8d94", checked := Try.checked }
namespace Rows
def none {H : Type} : Left H := { results := [], args := [] }

/-- 'estoverslaw18.SlabChecks': WHATEVER THE INPUT: true; the input reads as it did. -/
def slabChecksSpec : ChangeSpec := { name := "slabChecks", fn := fun _ => fun
  | [d1, d2] => { results := [.lit (.bool true)], args := [d1, d2] }
  | _ => none }
def slabChecksRow : OpenClaim := { program := "ythhdiiboblaclaa", sum := "a5ecf19f3bc6a12e7fe60bc7ac5cb79b2a150a6ba668b051abc6803b1aaf8d94", func := "estovers/estoverslaw18.SlabChecks", spec := "slabChecks", inPlace := ["slices.overlaps[estovers/api.Slab]"], unfollowed := true, recurses := true, apart := false }
def SlabChecksSaid : Prop := slabChecksRow.holds Try.pinned (OpenSpec.ofChange slabChecksSpec)

/-- ITS FALSE NEIGHBOUR: 'it returns false'. Refute it at one input. -/
def slabChecksWrong : ChangeSpec := { name := "slabChecks", fn := fun _ => fun
  | [d1, d2] => { results := [.lit (.bool false)], args := [d1, d2] }
  | _ => none }
def SlabChecksWrongFalsely : Prop := slabChecksRow.holds Try.pinned (OpenSpec.ofChange slabChecksWrong)

/-- 'estoverslaw18.SlabAllocs': WHATEVER THE INPUT: true; the input reads as it did. -/
def slabAllocsSpec : ChangeSpec := { name := "slabAllocs", fn := fun _ => fun
  | [d1, d2, d3] => { results := [.lit (.bool true)], args := [d1, d2, d3] }
  | _ => none }
def slabAllocsRow : OpenClaim := { program := "ythhdiiboblaclaa", sum := "a5ecf19f3bc6a12e7fe60bc7ac5cb79b2a150a6ba668b051abc6803b1aaf8d94", func := "estovers/estoverslaw18.SlabAllocs", spec := "slabAllocs", inPlace := ["slices.overlaps[estovers/api.Slab]"], unfollowed := true, recurses := true, apart := false }
def SlabAllocsSaid : Prop := slabAllocsRow.holds Try.pinned (OpenSpec.ofChange slabAllocsSpec)

/-- ITS FALSE NEIGHBOUR: 'it returns false'. Refute it at one input. -/
def slabAllocsWrong : ChangeSpec := { name := "slabAllocs", fn := fun _ => fun
  | [d1, d2, d3] => { results := [.lit (.bool false)], args := [d1, d2, d3] }
  | _ => none }
def SlabAllocsWrongFalsely : Prop := slabAllocsRow.holds Try.pinned (OpenSpec.ofChange slabAllocsWrong)

/-- 'estoverslaw18.SlabFrees': WHATEVER THE INPUT: true; the input reads as it did. -/
def slabFreesSpec : ChangeSpec := { name := "slabFrees", fn := fun _ => fun
  | [d1, d2] => { results := [.lit (.bool true)], args := [d1, d2] }
  | _ => none }
def slabFreesRow : OpenClaim := { program := "ythhdiiboblaclaa", sum := "a5ecf19f3bc6a12e7fe60bc7ac5cb79b2a150a6ba668b051abc6803b1aaf8d94", func := "estovers/estoverslaw18.SlabFrees", spec := "slabFrees", inPlace := ["slices.overlaps[estovers/api.Slab]"], unfollowed := true, recurses := true, apart := false }
def SlabFreesSaid : Prop := slabFreesRow.holds Try.pinned (OpenSpec.ofChange slabFreesSpec)

/-- ITS FALSE NEIGHBOUR: 'it returns false'. Refute it at one input. -/
def slabFreesWrong : ChangeSpec := { name := "slabFrees", fn := fun _ => fun
  | [d1, d2] => { results := [.lit (.bool false)], args := [d1, d2] }
  | _ => none }
def SlabFreesWrongFalsely : Prop := slabFreesRow.holds Try.pinned (OpenSpec.ofChange slabFreesWrong)

/-- 'estoverslaw18.SlabPlays': WHATEVER THE INPUT: true; the input reads as it did. -/
def slabPlaysSpec : ChangeSpec := { name := "slabPlays", fn := fun _ => fun
  | [d1, d2] => { results := [.lit (.bool true)], args := [d1, d2] }
  | _ => none }
def slabPlaysRow : OpenClaim := { program := "ythhdiiboblaclaa", sum := "a5ecf19f3bc6a12e7fe60bc7ac5cb79b2a150a6ba668b051abc6803b1aaf8d94", func := "estovers/estoverslaw18.SlabPlays", spec := "slabPlays", inPlace := ["slices.overlaps[estovers/api.Slab]"], unfollowed := true, recurses := true, apart := false }
def SlabPlaysSaid : Prop := slabPlaysRow.holds Try.pinned (OpenSpec.ofChange slabPlaysSpec)

/-- ITS FALSE NEIGHBOUR: 'it returns false'. Refute it at one input. -/
def slabPlaysWrong : ChangeSpec := { name := "slabPlays", fn := fun _ => fun
  | [d1, d2] => { results := [.lit (.bool false)], args := [d1, d2] }
  | _ => none }
def SlabPlaysWrongFalsely : Prop := slabPlaysRow.holds Try.pinned (OpenSpec.ofChange slabPlaysWrong)

/-- 'estoverslaw18.SlabBack': WHATEVER THE INPUT: true; the input reads as it did. -/
def slabBackSpec : ChangeSpec := { name := "slabBack", fn := fun _ => fun
  | [d1, d2, d3] => { results := [.lit (.bool true)], args := [d1, d2, d3] }
  | _ => none }
def slabBackRow : OpenClaim := { program := "ythhdiiboblaclaa", sum := "a5ecf19f3bc6a12e7fe60bc7ac5cb79b2a150a6ba668b051abc6803b1aaf8d94", func := "estovers/estoverslaw18.SlabBack", spec := "slabBack", inPlace := ["slices.overlaps[estovers/api.Slab]"], unfollowed := true, recurses := true, apart := false }
def SlabBackSaid : Prop := slabBackRow.holds Try.pinned (OpenSpec.ofChange slabBackSpec)

/-- ITS FALSE NEIGHBOUR: 'it returns false'. Refute it at one input. -/
def slabBackWrong : ChangeSpec := { name := "slabBack", fn := fun _ => fun
  | [d1, d2, d3] => { results := [.lit (.bool false)], args := [d1, d2, d3] }
  | _ => none }
def SlabBackWrongFalsely : Prop := slabBackRow.holds Try.pinned (OpenSpec.ofChange slabBackWrong)

/-- 'estoverslaw18.SlabCounts': WHATEVER THE INPUT: true; the input reads as it did. -/
def slabCountsSpec : ChangeSpec := { name := "slabCounts", fn := fun _ => fun
  | [d1, d2] => { results := [.lit (.bool true)], args := [d1, d2] }
  | _ => none }
def slabCountsRow : OpenClaim := { program := "ythhdiiboblaclaa", sum := "a5ecf19f3bc6a12e7fe60bc7ac5cb79b2a150a6ba668b051abc6803b1aaf8d94", func := "estovers/estoverslaw18.SlabCounts", spec := "slabCounts", inPlace := ["slices.overlaps[estovers/api.Slab]"], unfollowed := true, recurses := true, apart := false }
def SlabCountsSaid : Prop := slabCountsRow.holds Try.pinned (OpenSpec.ofChange slabCountsSpec)

/-- ITS FALSE NEIGHBOUR: 'it returns false'. Refute it at one input. -/
def slabCountsWrong : ChangeSpec := { name := "slabCounts", fn := fun _ => fun
  | [d1, d2] => { results := [.lit (.bool false)], args := [d1, d2] }
  | _ => none }
def SlabCountsWrongFalsely : Prop := slabCountsRow.holds Try.pinned (OpenSpec.ofChange slabCountsWrong)

/-- 'estoverslaw18.SlabAccounts': WHATEVER THE INPUT: true; the input reads as it did. -/
def slabAccountsSpec : ChangeSpec := { name := "slabAccounts", fn := fun _ => fun
  | [d1, d2] => { results := [.lit (.bool true)], args := [d1, d2] }
  | _ => none }
def slabAccountsRow : OpenClaim := { program := "ythhdiiboblaclaa", sum := "a5ecf19f3bc6a12e7fe60bc7ac5cb79b2a150a6ba668b051abc6803b1aaf8d94", func := "estovers/estoverslaw18.SlabAccounts", spec := "slabAccounts", inPlace := ["slices.overlaps[estovers/api.Slab]"], unfollowed := true, recurses := true, apart := false }
def SlabAccountsSaid : Prop := slabAccountsRow.holds Try.pinned (OpenSpec.ofChange slabAccountsSpec)

/-- ITS FALSE NEIGHBOUR: 'it returns false'. Refute it at one input. -/
def slabAccountsWrong : ChangeSpec := { name := "slabAccounts", fn := fun _ => fun
  | [d1, d2] => { results := [.lit (.bool false)], args := [d1, d2] }
  | _ => none }
def SlabAccountsWrongFalsely : Prop := slabAccountsRow.holds Try.pinned (OpenSpec.ofChange slabAccountsWrong)

/-- 'estoverslaw18.SlabUnique': WHATEVER THE INPUT: true; the input reads as it did. -/
def slabUniqueSpec : ChangeSpec := { name := "slabUnique", fn := fun _ => fun
  | [d1, d2, d3] => { results := [.lit (.bool true)], args := [d1, d2, d3] }
  | _ => none }
def slabUniqueRow : OpenClaim := { program := "ythhdiiboblaclaa", sum := "a5ecf19f3bc6a12e7fe60bc7ac5cb79b2a150a6ba668b051abc6803b1aaf8d94", func := "estovers/estoverslaw18.SlabUnique", spec := "slabUnique", inPlace := ["slices.overlaps[estovers/api.Slab]"], unfollowed := true, recurses := true, apart := false }
def SlabUniqueSaid : Prop := slabUniqueRow.holds Try.pinned (OpenSpec.ofChange slabUniqueSpec)

/-- ITS FALSE NEIGHBOUR: 'it returns false'. Refute it at one input. -/
def slabUniqueWrong : ChangeSpec := { name := "slabUnique", fn := fun _ => fun
  | [d1, d2, d3] => { results := [.lit (.bool false)], args := [d1, d2, d3] }
  | _ => none }
def SlabUniqueWrongFalsely : Prop := slabUniqueRow.holds Try.pinned (OpenSpec.ofChange slabUniqueWrong)

/-- 'estoverslaw18.SlabKeeps': WHATEVER THE INPUT: true; the input reads as it did. -/
def slabKeepsSpec : ChangeSpec := { name := "slabKeeps", fn := fun _ => fun
  | [d1, d2, d3] => { results := [.lit (.bool true)], args := [d1, d2, d3] }
  | _ => none }
def slabKeepsRow : OpenClaim := { program := "ythhdiiboblaclaa", sum := "a5ecf19f3bc6a12e7fe60bc7ac5cb79b2a150a6ba668b051abc6803b1aaf8d94", func := "estovers/estoverslaw18.SlabKeeps", spec := "slabKeeps", inPlace := ["slices.overlaps[estovers/api.Slab]"], unfollowed := true, recurses := true, apart := false }
def SlabKeepsSaid : Prop := slabKeepsRow.holds Try.pinned (OpenSpec.ofChange slabKeepsSpec)

/-- ITS FALSE NEIGHBOUR: 'it returns false'. Refute it at one input. -/
def slabKeepsWrong : ChangeSpec := { name := "slabKeeps", fn := fun _ => fun
  | [d1, d2, d3] => { results := [.lit (.bool false)], args := [d1, d2, d3] }
  | _ => none }
def SlabKeepsWrongFalsely : Prop := slabKeepsRow.holds Try.pinned (OpenSpec.ofChange slabKeepsWrong)

/- THE SECOND FORM. 'bulk': how many values and letters a reading holds, each counted each time it is reached (what is shared counts as often as it is met; a slice's spare places count too). A statement '..UptoSaid' is the law's where the arguments, and the package variables that the reading takes, are together of bulk at most 1048576: NARROWER than '..Said'. Prove '..Said' where nothing that the law and all that it calls make is longer than what came in: it says more and counts as full. Else prove '..UptoSaid'. A law counts once. -/
mutual
def uptoBulk {H : Type} : DataW H → Nat
  | .lit (.string bytes) => bytes.length + 1
  | .lit _ => 1
  | .nil => 1
  | .ptr d => uptoBulk d + 1
  | .slice elems spare => uptoBulkAll elems + uptoBulkAll spare + 1
  | .agg parts => uptoBulkAll parts + 1
  | .iface _ d => uptoBulk d + 1
  | .map entries => uptoBulkEntries entries + 1
  | .held _ => 1
def uptoBulkAll {H : Type} : List (DataW H) → Nat
  | [] => 0
  | d :: r => uptoBulk d + uptoBulkAll r
def uptoBulkEntries {H : Type} : List (Lit × DataW H) → Nat
  | [] => 0
  | x :: r => uptoBulkEntry x + uptoBulkEntries r
def uptoBulkEntry {H : Type} : Lit × DataW H → Nat
  | (.string bytes, d) => bytes.length + uptoBulk d + 1
  | (_, d) => uptoBulk d + 1
 end
def uptoSmall : (H : Type) → List (DataW H) → Bool := fun _ ds => decide (uptoBulkAll ds ≤ 1048576)
def OpenSpec.upto (s : _root_.Go.ChangeSpec) : _root_.Go.OpenSpec := { _root_.Go.OpenSpec.ofChange s with cond := some uptoSmall }

/-- 'estoverslaw18.SlabChecks', WHERE WHAT IT READS IS OF BULK AT MOST 1048576: true; the input reads as it did. -/
def slabChecksUptoRow : OpenClaim := { program := "ythhdiiboblaclaa", sum := "a5ecf19f3bc6a12e7fe60bc7ac5cb79b2a150a6ba668b051abc6803b1aaf8d94", func := "estovers/estoverslaw18.SlabChecks", spec := "slabChecks", inPlace := ["slices.overlaps[estovers/api.Slab]"], unfollowed := true, recurses := true, apart := false, narrowed := true }
def SlabChecksUptoSaid : Prop := slabChecksUptoRow.holds Try.pinned (OpenSpec.upto slabChecksSpec)

/-- 'estoverslaw18.SlabAllocs', WHERE WHAT IT READS IS OF BULK AT MOST 1048576: true; the input reads as it did. -/
def slabAllocsUptoRow : OpenClaim := { program := "ythhdiiboblaclaa", sum := "a5ecf19f3bc6a12e7fe60bc7ac5cb79b2a150a6ba668b051abc6803b1aaf8d94", func := "estovers/estoverslaw18.SlabAllocs", spec := "slabAllocs", inPlace := ["slices.overlaps[estovers/api.Slab]"], unfollowed := true, recurses := true, apart := false, narrowed := true }
def SlabAllocsUptoSaid : Prop := slabAllocsUptoRow.holds Try.pinned (OpenSpec.upto slabAllocsSpec)

/-- 'estoverslaw18.SlabFrees', WHERE WHAT IT READS IS OF BULK AT MOST 1048576: true; the input reads as it did. -/
def slabFreesUptoRow : OpenClaim := { program := "ythhdiiboblaclaa", sum := "a5ecf19f3bc6a12e7fe60bc7ac5cb79b2a150a6ba668b051abc6803b1aaf8d94", func := "estovers/estoverslaw18.SlabFrees", spec := "slabFrees", inPlace := ["slices.overlaps[estovers/api.Slab]"], unfollowed := true, recurses := true, apart := false, narrowed := true }
def SlabFreesUptoSaid : Prop := slabFreesUptoRow.holds Try.pinned (OpenSpec.upto slabFreesSpec)

/-- 'estoverslaw18.SlabPlays', WHERE WHAT IT READS IS OF BULK AT MOST 1048576: true; the input reads as it did. -/
def slabPlaysUptoRow : OpenClaim := { program := "ythhdiiboblaclaa", sum := "a5ecf19f3bc6a12e7fe60bc7ac5cb79b2a150a6ba668b051abc6803b1aaf8d94", func := "estovers/estoverslaw18.SlabPlays", spec := "slabPlays", inPlace := ["slices.overlaps[estovers/api.Slab]"], unfollowed := true, recurses := true, apart := false, narrowed := true }
def SlabPlaysUptoSaid : Prop := slabPlaysUptoRow.holds Try.pinned (OpenSpec.upto slabPlaysSpec)

/-- 'estoverslaw18.SlabBack', WHERE WHAT IT READS IS OF BULK AT MOST 1048576: true; the input reads as it did. -/
def slabBackUptoRow : OpenClaim := { program := "ythhdiiboblaclaa", sum := "a5ecf19f3bc6a12e7fe60bc7ac5cb79b2a150a6ba668b051abc6803b1aaf8d94", func := "estovers/estoverslaw18.SlabBack", spec := "slabBack", inPlace := ["slices.overlaps[estovers/api.Slab]"], unfollowed := true, recurses := true, apart := false, narrowed := true }
def SlabBackUptoSaid : Prop := slabBackUptoRow.holds Try.pinned (OpenSpec.upto slabBackSpec)

/-- 'estoverslaw18.SlabCounts', WHERE WHAT IT READS IS OF BULK AT MOST 1048576: true; the input reads as it did. -/
def slabCountsUptoRow : OpenClaim := { program := "ythhdiiboblaclaa", sum := "a5ecf19f3bc6a12e7fe60bc7ac5cb79b2a150a6ba668b051abc6803b1aaf8d94", func := "estovers/estoverslaw18.SlabCounts", spec := "slabCounts", inPlace := ["slices.overlaps[estovers/api.Slab]"], unfollowed := true, recurses := true, apart := false, narrowed := true }
def SlabCountsUptoSaid : Prop := slabCountsUptoRow.holds Try.pinned (OpenSpec.upto slabCountsSpec)

/-- 'estoverslaw18.SlabAccounts', WHERE WHAT IT READS IS OF BULK AT MOST 1048576: true; the input reads as it did. -/
def slabAccountsUptoRow : OpenClaim := { program := "ythhdiiboblaclaa", sum := "a5ecf19f3bc6a12e7fe60bc7ac5cb79b2a150a6ba668b051abc6803b1aaf8d94", func := "estovers/estoverslaw18.SlabAccounts", spec := "slabAccounts", inPlace := ["slices.overlaps[estovers/api.Slab]"], unfollowed := true, recurses := true, apart := false, narrowed := true }
def SlabAccountsUptoSaid : Prop := slabAccountsUptoRow.holds Try.pinned (OpenSpec.upto slabAccountsSpec)

/-- 'estoverslaw18.SlabUnique', WHERE WHAT IT READS IS OF BULK AT MOST 1048576: true; the input reads as it did. -/
def slabUniqueUptoRow : OpenClaim := { program := "ythhdiiboblaclaa", sum := "a5ecf19f3bc6a12e7fe60bc7ac5cb79b2a150a6ba668b051abc6803b1aaf8d94", func := "estovers/estoverslaw18.SlabUnique", spec := "slabUnique", inPlace := ["slices.overlaps[estovers/api.Slab]"], unfollowed := true, recurses := true, apart := false, narrowed := true }
def SlabUniqueUptoSaid : Prop := slabUniqueUptoRow.holds Try.pinned (OpenSpec.upto slabUniqueSpec)

/-- 'estoverslaw18.SlabKeeps', WHERE WHAT IT READS IS OF BULK AT MOST 1048576: true; the input reads as it did. -/
def slabKeepsUptoRow : OpenClaim := { program := "ythhdiiboblaclaa", sum := "a5ecf19f3bc6a12e7fe60bc7ac5cb79b2a150a6ba668b051abc6803b1aaf8d94", func := "estovers/estoverslaw18.SlabKeeps", spec := "slabKeeps", inPlace := ["slices.overlaps[estovers/api.Slab]"], unfollowed := true, recurses := true, apart := false, narrowed := true }
def SlabKeepsUptoSaid : Prop := slabKeepsUptoRow.holds Try.pinned (OpenSpec.upto slabKeepsSpec)

end Rows
end Go.Proofs.Ythhdiiboblaclaa
