/-
  No cell of these rows narrows 'for every input' (looked for: loops, veiled, ifaces, maps, wideKeys, modest, calm, conditions, laid).
  DERIVED. THE GIVEN ROWS OF THIS SEAT. 12 by the template 'for every input the law returns true; each argument reads behind the call as it read before'; 0 by the template 'total and deterministic' (their statements: YtmbmfnmjjelmkaaTotals.lean).
  GIVEN WITH THE SEED: the statements are not yours to turn. If you find one false, say at which input.
  Laid BY PROGRAM, IN A SANDBOX (cutbox-rows.mjs): the forced cells as the released guide's own fill.sh prints them over the translation 07a3298e16dc5232… (all of the seat's roots in one cut). By AI agents, Wed Nov 11 2026. No macro, syntax, notation, axiom, sorry.
-/
import Derived.Test.YtmbmfnmjjelmkaaChecked
import GoSem.Claim
import GoSem.ClaimJoined
import GoSem.ClaimMapViews
import Derived.JoinedTies
import Derived.KernelRfl
namespace Go.Proofs.Ytmbmfnmjjelmkaa
/- THE CELL 'sum', in the pinned program and in every row, IS THE sha256 OF THE DUMP (.gsa) THAT YtmbmfnmjjelmkaaProg.lean LOADS. Nothing in Lean hashes anything: it is a label: what it is worth is what the hold of that sum in a sandbox is worth. -/
noncomputable def Try.pinned : Pinned := { name := "ytmbmfnmjjelmkaa", sum := "07a3298e16dc5232f8fe68a73f0e020cf7a9613ad30767e88756657cfc22c9b0", checked := Try.checked }
namespace Rows
def none {H : Type} : Left H := { results := [], args := [] }

/-- 'lamplighterlaw11.ArenaNew': WHATEVER THE INPUT: true; the input reads as it did. -/
def arenaNewSpec : ChangeSpec := { name := "arenaNew", fn := fun _ => fun
  | [d] => { results := [.lit (.bool true)], args := [d] }
  | _ => none }
def arenaNewRow : OpenClaim := { program := "ytmbmfnmjjelmkaa", sum := "07a3298e16dc5232f8fe68a73f0e020cf7a9613ad30767e88756657cfc22c9b0", func := "lamplighter/lamplighterlaw11.ArenaNew", spec := "arenaNew", unfollowed := true, recurses := true, apart := false }
def ArenaNewSaid : Prop := arenaNewRow.holds Try.pinned (OpenSpec.ofChange arenaNewSpec)

/-- ITS FALSE NEIGHBOUR: 'it returns false'. Refute it at one input. -/
def arenaNewWrong : ChangeSpec := { name := "arenaNew", fn := fun _ => fun
  | [d] => { results := [.lit (.bool false)], args := [d] }
  | _ => none }
def ArenaNewWrongFalsely : Prop := arenaNewRow.holds Try.pinned (OpenSpec.ofChange arenaNewWrong)

/-- 'lamplighterlaw11.ArenaReaches': WHATEVER THE INPUT: true; the input reads as it did. -/
def arenaReachesSpec : ChangeSpec := { name := "arenaReaches", fn := fun _ => fun
  | [d] => { results := [.lit (.bool true)], args := [d] }
  | _ => none }
def arenaReachesRow : OpenClaim := { program := "ytmbmfnmjjelmkaa", sum := "07a3298e16dc5232f8fe68a73f0e020cf7a9613ad30767e88756657cfc22c9b0", func := "lamplighter/lamplighterlaw11.ArenaReaches", spec := "arenaReaches", unfollowed := true, recurses := true, apart := false }
def ArenaReachesSaid : Prop := arenaReachesRow.holds Try.pinned (OpenSpec.ofChange arenaReachesSpec)

/-- ITS FALSE NEIGHBOUR: 'it returns false'. Refute it at one input. -/
def arenaReachesWrong : ChangeSpec := { name := "arenaReaches", fn := fun _ => fun
  | [d] => { results := [.lit (.bool false)], args := [d] }
  | _ => none }
def ArenaReachesWrongFalsely : Prop := arenaReachesRow.holds Try.pinned (OpenSpec.ofChange arenaReachesWrong)

/-- 'lamplighterlaw11.ArenaLows': WHATEVER THE INPUT: true; the input reads as it did. -/
def arenaLowsSpec : ChangeSpec := { name := "arenaLows", fn := fun _ => fun
  | [d] => { results := [.lit (.bool true)], args := [d] }
  | _ => none }
def arenaLowsRow : OpenClaim := { program := "ytmbmfnmjjelmkaa", sum := "07a3298e16dc5232f8fe68a73f0e020cf7a9613ad30767e88756657cfc22c9b0", func := "lamplighter/lamplighterlaw11.ArenaLows", spec := "arenaLows", unfollowed := true, recurses := true, apart := false }
def ArenaLowsSaid : Prop := arenaLowsRow.holds Try.pinned (OpenSpec.ofChange arenaLowsSpec)

/-- ITS FALSE NEIGHBOUR: 'it returns false'. Refute it at one input. -/
def arenaLowsWrong : ChangeSpec := { name := "arenaLows", fn := fun _ => fun
  | [d] => { results := [.lit (.bool false)], args := [d] }
  | _ => none }
def ArenaLowsWrongFalsely : Prop := arenaLowsRow.holds Try.pinned (OpenSpec.ofChange arenaLowsWrong)

/-- 'lamplighterlaw11.ArenaApart': WHATEVER THE INPUT: true; the input reads as it did. -/
def arenaApartSpec : ChangeSpec := { name := "arenaApart", fn := fun _ => fun
  | [d1, d2] => { results := [.lit (.bool true)], args := [d1, d2] }
  | _ => none }
def arenaApartRow : OpenClaim := { program := "ytmbmfnmjjelmkaa", sum := "07a3298e16dc5232f8fe68a73f0e020cf7a9613ad30767e88756657cfc22c9b0", func := "lamplighter/lamplighterlaw11.ArenaApart", spec := "arenaApart", unfollowed := true, recurses := true, apart := false }
def ArenaApartSaid : Prop := arenaApartRow.holds Try.pinned (OpenSpec.ofChange arenaApartSpec)

/-- ITS FALSE NEIGHBOUR: 'it returns false'. Refute it at one input. -/
def arenaApartWrong : ChangeSpec := { name := "arenaApart", fn := fun _ => fun
  | [d1, d2] => { results := [.lit (.bool false)], args := [d1, d2] }
  | _ => none }
def ArenaApartWrongFalsely : Prop := arenaApartRow.holds Try.pinned (OpenSpec.ofChange arenaApartWrong)

/-- 'lamplighterlaw11.ArenaDamage': WHATEVER THE INPUT: true; the input reads as it did. -/
def arenaDamageSpec : ChangeSpec := { name := "arenaDamage", fn := fun _ => fun
  | [d1, d2, d3, d4, d5, d6] => { results := [.lit (.bool true)], args := [d1, d2, d3, d4, d5, d6] }
  | _ => none }
def arenaDamageRow : OpenClaim := { program := "ytmbmfnmjjelmkaa", sum := "07a3298e16dc5232f8fe68a73f0e020cf7a9613ad30767e88756657cfc22c9b0", func := "lamplighter/lamplighterlaw11.ArenaDamage", spec := "arenaDamage", unfollowed := true, recurses := true, apart := false }
def ArenaDamageSaid : Prop := arenaDamageRow.holds Try.pinned (OpenSpec.ofChange arenaDamageSpec)

/-- ITS FALSE NEIGHBOUR: 'it returns false'. Refute it at one input. -/
def arenaDamageWrong : ChangeSpec := { name := "arenaDamage", fn := fun _ => fun
  | [d1, d2, d3, d4, d5, d6] => { results := [.lit (.bool false)], args := [d1, d2, d3, d4, d5, d6] }
  | _ => none }
def ArenaDamageWrongFalsely : Prop := arenaDamageRow.holds Try.pinned (OpenSpec.ofChange arenaDamageWrong)

/-- 'lamplighterlaw11.ArenaRoots': WHATEVER THE INPUT: true; the input reads as it did. -/
def arenaRootsSpec : ChangeSpec := { name := "arenaRoots", fn := fun _ => fun
  | [d1, d2] => { results := [.lit (.bool true)], args := [d1, d2] }
  | _ => none }
def arenaRootsRow : OpenClaim := { program := "ytmbmfnmjjelmkaa", sum := "07a3298e16dc5232f8fe68a73f0e020cf7a9613ad30767e88756657cfc22c9b0", func := "lamplighter/lamplighterlaw11.ArenaRoots", spec := "arenaRoots", unfollowed := true, recurses := true, apart := false }
def ArenaRootsSaid : Prop := arenaRootsRow.holds Try.pinned (OpenSpec.ofChange arenaRootsSpec)

/-- ITS FALSE NEIGHBOUR: 'it returns false'. Refute it at one input. -/
def arenaRootsWrong : ChangeSpec := { name := "arenaRoots", fn := fun _ => fun
  | [d1, d2] => { results := [.lit (.bool false)], args := [d1, d2] }
  | _ => none }
def ArenaRootsWrongFalsely : Prop := arenaRootsRow.holds Try.pinned (OpenSpec.ofChange arenaRootsWrong)

/-- 'lamplighterlaw13.SeekTells': WHATEVER THE INPUT: true; the input reads as it did. -/
def seekTellsSpec : ChangeSpec := { name := "seekTells", fn := fun _ => fun
  | [d1, d2, d3] => { results := [.lit (.bool true)], args := [d1, d2, d3] }
  | _ => none }
def seekTellsRow : OpenClaim := { program := "ytmbmfnmjjelmkaa", sum := "07a3298e16dc5232f8fe68a73f0e020cf7a9613ad30767e88756657cfc22c9b0", func := "lamplighter/lamplighterlaw13.SeekTells", spec := "seekTells", unfollowed := true, recurses := true, apart := false }
def SeekTellsSaid : Prop := seekTellsRow.holds Try.pinned (OpenSpec.ofChange seekTellsSpec)

/-- ITS FALSE NEIGHBOUR: 'it returns false'. Refute it at one input. -/
def seekTellsWrong : ChangeSpec := { name := "seekTells", fn := fun _ => fun
  | [d1, d2, d3] => { results := [.lit (.bool false)], args := [d1, d2, d3] }
  | _ => none }
def SeekTellsWrongFalsely : Prop := seekTellsRow.holds Try.pinned (OpenSpec.ofChange seekTellsWrong)

/-- 'lamplighterlaw13.SeekAll': WHATEVER THE INPUT: true; the input reads as it did. -/
def seekAllSpec : ChangeSpec := { name := "seekAll", fn := fun _ => fun
  | [d] => { results := [.lit (.bool true)], args := [d] }
  | _ => none }
def seekAllRow : OpenClaim := { program := "ytmbmfnmjjelmkaa", sum := "07a3298e16dc5232f8fe68a73f0e020cf7a9613ad30767e88756657cfc22c9b0", func := "lamplighter/lamplighterlaw13.SeekAll", spec := "seekAll", unfollowed := true, recurses := true, apart := false }
def SeekAllSaid : Prop := seekAllRow.holds Try.pinned (OpenSpec.ofChange seekAllSpec)

/-- ITS FALSE NEIGHBOUR: 'it returns false'. Refute it at one input. -/
def seekAllWrong : ChangeSpec := { name := "seekAll", fn := fun _ => fun
  | [d] => { results := [.lit (.bool false)], args := [d] }
  | _ => none }
def SeekAllWrongFalsely : Prop := seekAllRow.holds Try.pinned (OpenSpec.ofChange seekAllWrong)

/-- 'lamplighterlaw13.SeekHits': WHATEVER THE INPUT: true; the input reads as it did. -/
def seekHitsSpec : ChangeSpec := { name := "seekHits", fn := fun _ => fun
  | [d1, d2] => { results := [.lit (.bool true)], args := [d1, d2] }
  | _ => none }
def seekHitsRow : OpenClaim := { program := "ytmbmfnmjjelmkaa", sum := "07a3298e16dc5232f8fe68a73f0e020cf7a9613ad30767e88756657cfc22c9b0", func := "lamplighter/lamplighterlaw13.SeekHits", spec := "seekHits", unfollowed := true, recurses := true, apart := false }
def SeekHitsSaid : Prop := seekHitsRow.holds Try.pinned (OpenSpec.ofChange seekHitsSpec)

/-- ITS FALSE NEIGHBOUR: 'it returns false'. Refute it at one input. -/
def seekHitsWrong : ChangeSpec := { name := "seekHits", fn := fun _ => fun
  | [d1, d2] => { results := [.lit (.bool false)], args := [d1, d2] }
  | _ => none }
def SeekHitsWrongFalsely : Prop := seekHitsRow.holds Try.pinned (OpenSpec.ofChange seekHitsWrong)

/-- 'lamplighterlaw13.SeekDeletes': WHATEVER THE INPUT: true; the input reads as it did. -/
def seekDeletesSpec : ChangeSpec := { name := "seekDeletes", fn := fun _ => fun
  | [d1, d2, d3, d4] => { results := [.lit (.bool true)], args := [d1, d2, d3, d4] }
  | _ => none }
def seekDeletesRow : OpenClaim := { program := "ytmbmfnmjjelmkaa", sum := "07a3298e16dc5232f8fe68a73f0e020cf7a9613ad30767e88756657cfc22c9b0", func := "lamplighter/lamplighterlaw13.SeekDeletes", spec := "seekDeletes", unfollowed := true, recurses := true, apart := false }
def SeekDeletesSaid : Prop := seekDeletesRow.holds Try.pinned (OpenSpec.ofChange seekDeletesSpec)

/-- ITS FALSE NEIGHBOUR: 'it returns false'. Refute it at one input. -/
def seekDeletesWrong : ChangeSpec := { name := "seekDeletes", fn := fun _ => fun
  | [d1, d2, d3, d4] => { results := [.lit (.bool false)], args := [d1, d2, d3, d4] }
  | _ => none }
def SeekDeletesWrongFalsely : Prop := seekDeletesRow.holds Try.pinned (OpenSpec.ofChange seekDeletesWrong)

/-- 'lamplighterlaw13.SeekInserts': WHATEVER THE INPUT: true; the input reads as it did. -/
def seekInsertsSpec : ChangeSpec := { name := "seekInserts", fn := fun _ => fun
  | [d1, d2, d3, d4, d5] => { results := [.lit (.bool true)], args := [d1, d2, d3, d4, d5] }
  | _ => none }
def seekInsertsRow : OpenClaim := { program := "ytmbmfnmjjelmkaa", sum := "07a3298e16dc5232f8fe68a73f0e020cf7a9613ad30767e88756657cfc22c9b0", func := "lamplighter/lamplighterlaw13.SeekInserts", spec := "seekInserts", unfollowed := true, recurses := true, apart := false }
def SeekInsertsSaid : Prop := seekInsertsRow.holds Try.pinned (OpenSpec.ofChange seekInsertsSpec)

/-- ITS FALSE NEIGHBOUR: 'it returns false'. Refute it at one input. -/
def seekInsertsWrong : ChangeSpec := { name := "seekInserts", fn := fun _ => fun
  | [d1, d2, d3, d4, d5] => { results := [.lit (.bool false)], args := [d1, d2, d3, d4, d5] }
  | _ => none }
def SeekInsertsWrongFalsely : Prop := seekInsertsRow.holds Try.pinned (OpenSpec.ofChange seekInsertsWrong)

/-- 'lamplighterlaw13.SeekCuts': WHATEVER THE INPUT: true; the input reads as it did. -/
def seekCutsSpec : ChangeSpec := { name := "seekCuts", fn := fun _ => fun
  | [d1, d2, d3, d4, d5] => { results := [.lit (.bool true)], args := [d1, d2, d3, d4, d5] }
  | _ => none }
def seekCutsRow : OpenClaim := { program := "ytmbmfnmjjelmkaa", sum := "07a3298e16dc5232f8fe68a73f0e020cf7a9613ad30767e88756657cfc22c9b0", func := "lamplighter/lamplighterlaw13.SeekCuts", spec := "seekCuts", unfollowed := true, recurses := true, apart := false }
def SeekCutsSaid : Prop := seekCutsRow.holds Try.pinned (OpenSpec.ofChange seekCutsSpec)

/-- ITS FALSE NEIGHBOUR: 'it returns false'. Refute it at one input. -/
def seekCutsWrong : ChangeSpec := { name := "seekCuts", fn := fun _ => fun
  | [d1, d2, d3, d4, d5] => { results := [.lit (.bool false)], args := [d1, d2, d3, d4, d5] }
  | _ => none }
def SeekCutsWrongFalsely : Prop := seekCutsRow.holds Try.pinned (OpenSpec.ofChange seekCutsWrong)

/- THE SECOND FORM. 'bulk': how many values and letters a reading holds, each counted each time it is reached (what is shared counts as often as it is met; a slice's spare places count too). A statement '..UptoSaid' is the law's where the arguments, and the package variables that the reading takes, are together of bulk at most 1048576: NARROWER than '..Said'. Prove '..Said' where nothing that the law and all that it calls make is longer than what came in: it says more and counts as full. Else prove '..UptoSaid'. A law counts once. -/
mutual
def uptoBulk {H : Type} : DataW H → Nat
  | .lit (.string bytes) => bytes.length + 1
  | .lit _ => 1
  | .nil => 1
  | .ptr d => uptoBulk d + 1
  | .slice elems spare => uptoBulkAll elems + uptoBulkAll spare + 1
  | .agg parts => uptoBulkAll parts + 1
  | .iface _ d => uptoBulk d + 1
  | .map entries => uptoBulkEntries entries + 1
  | .held _ => 1
def uptoBulkAll {H : Type} : List (DataW H) → Nat
  | [] => 0
  | d :: r => uptoBulk d + uptoBulkAll r
def uptoBulkEntries {H : Type} : List (Lit × DataW H) → Nat
  | [] => 0
  | x :: r => uptoBulkEntry x + uptoBulkEntries r
def uptoBulkEntry {H : Type} : Lit × DataW H → Nat
  | (.string bytes, d) => bytes.length + uptoBulk d + 1
  | (_, d) => uptoBulk d + 1
 end
def uptoSmall : (H : Type) → List (DataW H) → Bool := fun _ ds => decide (uptoBulkAll ds ≤ 1048576)
def OpenSpec.upto (s : _root_.Go.ChangeSpec) : _root_.Go.OpenSpec := { _root_.Go.OpenSpec.ofChange s with cond := some uptoSmall }

/-- 'lamplighterlaw11.ArenaNew', WHERE WHAT IT READS IS OF BULK AT MOST 1048576: true; the input reads as it did. -/
def arenaNewUptoRow : OpenClaim := { program := "ytmbmfnmjjelmkaa", sum := "07a3298e16dc5232f8fe68a73f0e020cf7a9613ad30767e88756657cfc22c9b0", func := "lamplighter/lamplighterlaw11.ArenaNew", spec := "arenaNew", unfollowed := true, recurses := true, apart := false, narrowed := true }
def ArenaNewUptoSaid : Prop := arenaNewUptoRow.holds Try.pinned (OpenSpec.upto arenaNewSpec)

/-- 'lamplighterlaw11.ArenaReaches', WHERE WHAT IT READS IS OF BULK AT MOST 1048576: true; the input reads as it did. -/
def arenaReachesUptoRow : OpenClaim := { program := "ytmbmfnmjjelmkaa", sum := "07a3298e16dc5232f8fe68a73f0e020cf7a9613ad30767e88756657cfc22c9b0", func := "lamplighter/lamplighterlaw11.ArenaReaches", spec := "arenaReaches", unfollowed := true, recurses := true, apart := false, narrowed := true }
def ArenaReachesUptoSaid : Prop := arenaReachesUptoRow.holds Try.pinned (OpenSpec.upto arenaReachesSpec)

/-- 'lamplighterlaw11.ArenaLows', WHERE WHAT IT READS IS OF BULK AT MOST 1048576: true; the input reads as it did. -/
def arenaLowsUptoRow : OpenClaim := { program := "ytmbmfnmjjelmkaa", sum := "07a3298e16dc5232f8fe68a73f0e020cf7a9613ad30767e88756657cfc22c9b0", func := "lamplighter/lamplighterlaw11.ArenaLows", spec := "arenaLows", unfollowed := true, recurses := true, apart := false, narrowed := true }
def ArenaLowsUptoSaid : Prop := arenaLowsUptoRow.holds Try.pinned (OpenSpec.upto arenaLowsSpec)

/-- 'lamplighterlaw11.ArenaApart', WHERE WHAT IT READS IS OF BULK AT MOST 1048576: true; the input reads as it did. -/
def arenaApartUptoRow : OpenClaim := { program := "ytmbmfnmjjelmkaa", sum := "07a3298e16dc5232f8fe68a73f0e020cf7a9613ad30767e88756657cfc22c9b0", func := "lamplighter/lamplighterlaw11.ArenaApart", spec := "arenaApart", unfollowed := true, recurses := true, apart := false, narrowed := true }
def ArenaApartUptoSaid : Prop := arenaApartUptoRow.holds Try.pinned (OpenSpec.upto arenaApartSpec)

/-- 'lamplighterlaw11.ArenaDamage', WHERE WHAT IT READS IS OF BULK AT MOST 1048576: true; the input reads as it did. -/
def arenaDamageUptoRow : OpenClaim := { program := "ytmbmfnmjjelmkaa", sum := "07a3298e16dc5232f8fe68a73f0e020cf7a9613ad30767e88756657cfc22c9b0", func := "lamplighter/lamplighterlaw11.ArenaDamage", spec := "arenaDamage", unfollowed := true, recurses := true, apart := false, narrowed := true }
def ArenaDamageUptoSaid : Prop := arenaDamageUptoRow.holds Try.pinned (OpenSpec.upto arenaDamageSpec)

/-- 'lamplighterlaw11.ArenaRoots', WHERE WHAT IT READS IS OF BULK AT MOST 1048576: true; the input reads as it did. -/
def arenaRootsUptoRow : OpenClaim := { program := "ytmbmfnmjjelmkaa", sum := "07a3298e16dc5232f8fe68a73f0e020cf7a9613ad30767e88756657cfc22c9b0", func := "lamplighter/lamplighterlaw11.ArenaRoots", spec := "arenaRoots", unfollowed := true, recurses := true, apart := false, narrowed := true }
def ArenaRootsUptoSaid : Prop := arenaRootsUptoRow.holds Try.pinned (OpenSpec.upto arenaRootsSpec)

/-- 'lamplighterlaw13.SeekTells', WHERE WHAT IT READS IS OF BULK AT MOST 1048576: true; the input reads as it did. -/
def seekTellsUptoRow : OpenClaim := { program := "ytmbmfnmjjelmkaa", sum := "07a3298e16dc5232f8fe68a73f0e020cf7a9613ad30767e88756657cfc22c9b0", func := "lamplighter/lamplighterlaw13.SeekTells", spec := "seekTells", unfollowed := true, recurses := true, apart := false, narrowed := true }
def SeekTellsUptoSaid : Prop := seekTellsUptoRow.holds Try.pinned (OpenSpec.upto seekTellsSpec)

/-- 'lamplighterlaw13.SeekAll', WHERE WHAT IT READS IS OF BULK AT MOST 1048576: true; the input reads as it did. -/
def seekAllUptoRow : OpenClaim := { program := "ytmbmfnmjjelmkaa", sum := "07a3298e16dc5232f8fe68a73f0e020cf7a9613ad30767e88756657cfc22c9b0", func := "lamplighter/lamplighterlaw13.SeekAll", spec := "seekAll", unfollowed := true, recurses := true, apart := false, narrowed := true }
def SeekAllUptoSaid : Prop := seekAllUptoRow.holds Try.pinned (OpenSpec.upto seekAllSpec)

/-- 'lamplighterlaw13.SeekHits', WHERE WHAT IT READS IS OF BULK AT MOST 1048576: true; the input reads as it did. -/
def seekHitsUptoRow : OpenClaim := { program := "ytmbmfnmjjelmkaa", sum := "07a3298e16dc5232f8fe68a73f0e020cf7a9613ad30767e88756657cfc22c9b0", func := "lamplighter/lamplighterlaw13.SeekHits", spec := "seekHits", unfollowed := true, recurses := true, apart := false, narrowed := true }
def SeekHitsUptoSaid : Prop := seekHitsUptoRow.holds Try.pinned (OpenSpec.upto seekHitsSpec)

/-- 'lamplighterlaw13.SeekDeletes', WHERE WHAT IT READS IS OF BULK AT MOST 1048576: true; the input reads as it did. -/
def seekDeletesUptoRow : OpenClaim := { program := "ytmbmfnmjjelmkaa", sum := "07a3298e16dc5232f8fe68a73f0e020cf7a9613ad30767e88756657cfc22c9b0", func := "lamplighter/lamplighterlaw13.SeekDeletes", spec := "seekDeletes", unfollowed := true, recurses := true, apart := false, narrowed := true }
def SeekDeletesUptoSaid : Prop := seekDeletesUptoRow.holds Try.pinned (OpenSpec.upto seekDeletesSpec)

/-- 'lamplighterlaw13.SeekInserts', WHERE WHAT IT READS IS OF BULK AT MOST 1048576: true; the input reads as it did. -/
def seekInsertsUptoRow : OpenClaim := { program := "ytmbmfnmjjelmkaa", sum := "07a3298e16dc5232f8fe68a73f0e020cf7a9613ad30767e88756657cfc22c9b0", func := "lamplighter/lamplighterlaw13.SeekInserts", spec := "seekInserts", unfollowed := true, recurses := true, apart := false, narrowed := true }
def SeekInsertsUptoSaid : Prop := seekInsertsUptoRow.holds Try.pinned (OpenSpec.upto seekInsertsSpec)

/-- 'lamplighterlaw13.SeekCuts', WHERE WHAT IT READS IS OF BULK AT MOST 1048576: true; the input reads as it did. -/
def seekCutsUptoRow : OpenClaim := { program := "ytmbmfnmjjelmkaa", sum := "07a3298e16dc5232f8fe68a73f0e020cf7a9613ad30767e88756657cfc22c9b0", func := "lamplighter/lamplighterlaw13.SeekCuts", spec := "seekCuts", unfollowed := true, recurses := true, apart := false, narrowed := true }
def SeekCutsUptoSaid : Prop := seekCutsUptoRow.holds Try.pinned (OpenSpec.upto seekCutsSpec)

end Rows
end Go.Proofs.Ytmbmfnmjjelmkaa
