/-
  No cell of these rows narrows 'for every input' (looked for: loops, veiled, ifaces, maps, wideKeys, modest, calm, conditions, laid).
  DERIVED. THE GIVEN ROWS OF THIS SEAT. 12 by the template 'for every input the law returns true; each argument reads behind the call as it read before'; 0 by the template 'total and deterministic' (their statements: YtdnhjeoacanbcabTotals.lean).
  GIVEN WITH THE SEED: the statements are not yours to turn. If you find one false, say at which input.
  Laid BY PROGRAM, IN A SANDBOX (cutbox-rows.mjs): the forced cells as the released guide's own fill.sh prints them over the translation 3381fd21e131dff1… (all of the seat's roots in one cut). By AI agents, Wed Nov 11 2026. No macro, syntax, notation, axiom, sorry.
-/
import Derived.Test.YtdnhjeoacanbcabChecked
import GoSem.Claim
import GoSem.ClaimJoined
import GoSem.ClaimMapViews
import Derived.JoinedTies
import Derived.KernelRfl
namespace Go.Proofs.Ytdnhjeoacanbcab
/- THE CELL 'sum', in the pinned program and in every row, IS THE sha256 OF THE DUMP (.gsa) THAT YtdnhjeoacanbcabProg.lean LOADS. Nothing in Lean hashes anything: it is a label: what it is worth is what the hold of that sum in a sandbox is worth. -/
noncomputable def Try.pinned : Pinned := { name := "ytdnhjeoacanbcab", sum := "3381fd21e131dff1e5a9a8ab0c4c08c390abd3897761e6979de108ddda4d55df", checked := Try.checked }
namespace Rows
def none {H : Type} : Left H := { results := [], args := [] }

/-- 'lamplighterlaw05.MicroParts': WHATEVER THE INPUT: true; the input reads as it did. -/
def microPartsSpec : ChangeSpec := { name := "microParts", fn := fun _ => fun
  | [d1, d2, d3] => { results := [.lit (.bool true)], args := [d1, d2, d3] }
  | _ => none }
def microPartsRow : OpenClaim := { program := "ytdnhjeoacanbcab", sum := "3381fd21e131dff1e5a9a8ab0c4c08c390abd3897761e6979de108ddda4d55df", func := "lamplighter/lamplighterlaw05.MicroParts", spec := "microParts", unfollowed := true, recurses := true, apart := false }
def MicroPartsSaid : Prop := microPartsRow.holds Try.pinned (OpenSpec.ofChange microPartsSpec)

/-- ITS FALSE NEIGHBOUR: 'it returns false'. Refute it at one input. -/
def microPartsWrong : ChangeSpec := { name := "microParts", fn := fun _ => fun
  | [d1, d2, d3] => { results := [.lit (.bool false)], args := [d1, d2, d3] }
  | _ => none }
def MicroPartsWrongFalsely : Prop := microPartsRow.holds Try.pinned (OpenSpec.ofChange microPartsWrong)

/-- 'lamplighterlaw05.MicroKept': WHATEVER THE INPUT: true; the input reads as it did. -/
def microKeptSpec : ChangeSpec := { name := "microKept", fn := fun _ => fun
  | [d1, d2, d3, d4] => { results := [.lit (.bool true)], args := [d1, d2, d3, d4] }
  | _ => none }
def microKeptRow : OpenClaim := { program := "ytdnhjeoacanbcab", sum := "3381fd21e131dff1e5a9a8ab0c4c08c390abd3897761e6979de108ddda4d55df", func := "lamplighter/lamplighterlaw05.MicroKept", spec := "microKept", unfollowed := true, recurses := true, apart := false }
def MicroKeptSaid : Prop := microKeptRow.holds Try.pinned (OpenSpec.ofChange microKeptSpec)

/-- ITS FALSE NEIGHBOUR: 'it returns false'. Refute it at one input. -/
def microKeptWrong : ChangeSpec := { name := "microKept", fn := fun _ => fun
  | [d1, d2, d3, d4] => { results := [.lit (.bool false)], args := [d1, d2, d3, d4] }
  | _ => none }
def MicroKeptWrongFalsely : Prop := microKeptRow.holds Try.pinned (OpenSpec.ofChange microKeptWrong)

/-- 'lamplighterlaw05.MicroSeen': WHATEVER THE INPUT: true; the input reads as it did. -/
def microSeenSpec : ChangeSpec := { name := "microSeen", fn := fun _ => fun
  | [d1, d2] => { results := [.lit (.bool true)], args := [d1, d2] }
  | _ => none }
def microSeenRow : OpenClaim := { program := "ytdnhjeoacanbcab", sum := "3381fd21e131dff1e5a9a8ab0c4c08c390abd3897761e6979de108ddda4d55df", func := "lamplighter/lamplighterlaw05.MicroSeen", spec := "microSeen", unfollowed := true, recurses := true, apart := false }
def MicroSeenSaid : Prop := microSeenRow.holds Try.pinned (OpenSpec.ofChange microSeenSpec)

/-- ITS FALSE NEIGHBOUR: 'it returns false'. Refute it at one input. -/
def microSeenWrong : ChangeSpec := { name := "microSeen", fn := fun _ => fun
  | [d1, d2] => { results := [.lit (.bool false)], args := [d1, d2] }
  | _ => none }
def MicroSeenWrongFalsely : Prop := microSeenRow.holds Try.pinned (OpenSpec.ofChange microSeenWrong)

/-- 'lamplighterlaw05.MicroApart': WHATEVER THE INPUT: true; the input reads as it did. -/
def microApartSpec : ChangeSpec := { name := "microApart", fn := fun _ => fun
  | [d1, d2, d3] => { results := [.lit (.bool true)], args := [d1, d2, d3] }
  | _ => none }
def microApartRow : OpenClaim := { program := "ytdnhjeoacanbcab", sum := "3381fd21e131dff1e5a9a8ab0c4c08c390abd3897761e6979de108ddda4d55df", func := "lamplighter/lamplighterlaw05.MicroApart", spec := "microApart", unfollowed := true, recurses := true, apart := false }
def MicroApartSaid : Prop := microApartRow.holds Try.pinned (OpenSpec.ofChange microApartSpec)

/-- ITS FALSE NEIGHBOUR: 'it returns false'. Refute it at one input. -/
def microApartWrong : ChangeSpec := { name := "microApart", fn := fun _ => fun
  | [d1, d2, d3] => { results := [.lit (.bool false)], args := [d1, d2, d3] }
  | _ => none }
def MicroApartWrongFalsely : Prop := microApartRow.holds Try.pinned (OpenSpec.ofChange microApartWrong)

/-- 'lamplighterlaw08.SuperRoot': WHATEVER THE INPUT: true; the input reads as it did. -/
def superRootSpec : ChangeSpec := { name := "superRoot", fn := fun _ => fun
  | [d1, d2, d3, d4, d5] => { results := [.lit (.bool true)], args := [d1, d2, d3, d4, d5] }
  | _ => none }
def superRootRow : OpenClaim := { program := "ytdnhjeoacanbcab", sum := "3381fd21e131dff1e5a9a8ab0c4c08c390abd3897761e6979de108ddda4d55df", func := "lamplighter/lamplighterlaw08.SuperRoot", spec := "superRoot", unfollowed := true, recurses := true, apart := false }
def SuperRootSaid : Prop := superRootRow.holds Try.pinned (OpenSpec.ofChange superRootSpec)

/-- ITS FALSE NEIGHBOUR: 'it returns false'. Refute it at one input. -/
def superRootWrong : ChangeSpec := { name := "superRoot", fn := fun _ => fun
  | [d1, d2, d3, d4, d5] => { results := [.lit (.bool false)], args := [d1, d2, d3, d4, d5] }
  | _ => none }
def SuperRootWrongFalsely : Prop := superRootRow.holds Try.pinned (OpenSpec.ofChange superRootWrong)

/-- 'lamplighterlaw09.NodeTurns': WHATEVER THE INPUT: true; the input reads as it did. -/
def nodeTurnsSpec : ChangeSpec := { name := "nodeTurns", fn := fun _ => fun
  | [d1, d2, d3, d4, d5] => { results := [.lit (.bool true)], args := [d1, d2, d3, d4, d5] }
  | _ => none }
def nodeTurnsRow : OpenClaim := { program := "ytdnhjeoacanbcab", sum := "3381fd21e131dff1e5a9a8ab0c4c08c390abd3897761e6979de108ddda4d55df", func := "lamplighter/lamplighterlaw09.NodeTurns", spec := "nodeTurns", unfollowed := true, recurses := true, apart := false }
def NodeTurnsSaid : Prop := nodeTurnsRow.holds Try.pinned (OpenSpec.ofChange nodeTurnsSpec)

/-- ITS FALSE NEIGHBOUR: 'it returns false'. Refute it at one input. -/
def nodeTurnsWrong : ChangeSpec := { name := "nodeTurns", fn := fun _ => fun
  | [d1, d2, d3, d4, d5] => { results := [.lit (.bool false)], args := [d1, d2, d3, d4, d5] }
  | _ => none }
def NodeTurnsWrongFalsely : Prop := nodeTurnsRow.holds Try.pinned (OpenSpec.ofChange nodeTurnsWrong)

/-- 'lamplighterlaw06.FastBack': WHATEVER THE INPUT: true; the input reads as it did. -/
def fastBackSpec : ChangeSpec := { name := "fastBack", fn := fun _ => fun
  | [d1, d2, d3] => { results := [.lit (.bool true)], args := [d1, d2, d3] }
  | _ => none }
def fastBackRow : OpenClaim := { program := "ytdnhjeoacanbcab", sum := "3381fd21e131dff1e5a9a8ab0c4c08c390abd3897761e6979de108ddda4d55df", func := "lamplighter/lamplighterlaw06.FastBack", spec := "fastBack", unfollowed := true, recurses := true, apart := false }
def FastBackSaid : Prop := fastBackRow.holds Try.pinned (OpenSpec.ofChange fastBackSpec)

/-- ITS FALSE NEIGHBOUR: 'it returns false'. Refute it at one input. -/
def fastBackWrong : ChangeSpec := { name := "fastBack", fn := fun _ => fun
  | [d1, d2, d3] => { results := [.lit (.bool false)], args := [d1, d2, d3] }
  | _ => none }
def FastBackWrongFalsely : Prop := fastBackRow.holds Try.pinned (OpenSpec.ofChange fastBackWrong)

/-- 'lamplighterlaw06.FastCuts': WHATEVER THE INPUT: true; the input reads as it did. -/
def fastCutsSpec : ChangeSpec := { name := "fastCuts", fn := fun _ => fun
  | [d1, d2, d3, d4, d5] => { results := [.lit (.bool true)], args := [d1, d2, d3, d4, d5] }
  | _ => none }
def fastCutsRow : OpenClaim := { program := "ytdnhjeoacanbcab", sum := "3381fd21e131dff1e5a9a8ab0c4c08c390abd3897761e6979de108ddda4d55df", func := "lamplighter/lamplighterlaw06.FastCuts", spec := "fastCuts", unfollowed := true, recurses := true, apart := false }
def FastCutsSaid : Prop := fastCutsRow.holds Try.pinned (OpenSpec.ofChange fastCutsSpec)

/-- ITS FALSE NEIGHBOUR: 'it returns false'. Refute it at one input. -/
def fastCutsWrong : ChangeSpec := { name := "fastCuts", fn := fun _ => fun
  | [d1, d2, d3, d4, d5] => { results := [.lit (.bool false)], args := [d1, d2, d3, d4, d5] }
  | _ => none }
def FastCutsWrongFalsely : Prop := fastCutsRow.holds Try.pinned (OpenSpec.ofChange fastCutsWrong)

/-- 'lamplighterlaw06.FastInserts': WHATEVER THE INPUT: true; the input reads as it did. -/
def fastInsertsSpec : ChangeSpec := { name := "fastInserts", fn := fun _ => fun
  | [d1, d2, d3, d4, d5] => { results := [.lit (.bool true)], args := [d1, d2, d3, d4, d5] }
  | _ => none }
def fastInsertsRow : OpenClaim := { program := "ytdnhjeoacanbcab", sum := "3381fd21e131dff1e5a9a8ab0c4c08c390abd3897761e6979de108ddda4d55df", func := "lamplighter/lamplighterlaw06.FastInserts", spec := "fastInserts", unfollowed := true, recurses := true, apart := false }
def FastInsertsSaid : Prop := fastInsertsRow.holds Try.pinned (OpenSpec.ofChange fastInsertsSpec)

/-- ITS FALSE NEIGHBOUR: 'it returns false'. Refute it at one input. -/
def fastInsertsWrong : ChangeSpec := { name := "fastInserts", fn := fun _ => fun
  | [d1, d2, d3, d4, d5] => { results := [.lit (.bool false)], args := [d1, d2, d3, d4, d5] }
  | _ => none }
def FastInsertsWrongFalsely : Prop := fastInsertsRow.holds Try.pinned (OpenSpec.ofChange fastInsertsWrong)

/-- 'lamplighterlaw06.FastDeletes': WHATEVER THE INPUT: true; the input reads as it did. -/
def fastDeletesSpec : ChangeSpec := { name := "fastDeletes", fn := fun _ => fun
  | [d1, d2, d3, d4] => { results := [.lit (.bool true)], args := [d1, d2, d3, d4] }
  | _ => none }
def fastDeletesRow : OpenClaim := { program := "ytdnhjeoacanbcab", sum := "3381fd21e131dff1e5a9a8ab0c4c08c390abd3897761e6979de108ddda4d55df", func := "lamplighter/lamplighterlaw06.FastDeletes", spec := "fastDeletes", unfollowed := true, recurses := true, apart := false }
def FastDeletesSaid : Prop := fastDeletesRow.holds Try.pinned (OpenSpec.ofChange fastDeletesSpec)

/-- ITS FALSE NEIGHBOUR: 'it returns false'. Refute it at one input. -/
def fastDeletesWrong : ChangeSpec := { name := "fastDeletes", fn := fun _ => fun
  | [d1, d2, d3, d4] => { results := [.lit (.bool false)], args := [d1, d2, d3, d4] }
  | _ => none }
def FastDeletesWrongFalsely : Prop := fastDeletesRow.holds Try.pinned (OpenSpec.ofChange fastDeletesWrong)

/-- 'lamplighterlaw07.RecBack': WHATEVER THE INPUT: true; the input reads as it did. -/
def recBackSpec : ChangeSpec := { name := "recBack", fn := fun _ => fun
  | [d1, d2, d3] => { results := [.lit (.bool true)], args := [d1, d2, d3] }
  | _ => none }
def recBackRow : OpenClaim := { program := "ytdnhjeoacanbcab", sum := "3381fd21e131dff1e5a9a8ab0c4c08c390abd3897761e6979de108ddda4d55df", func := "lamplighter/lamplighterlaw07.RecBack", spec := "recBack", unfollowed := true, recurses := true, apart := false }
def RecBackSaid : Prop := recBackRow.holds Try.pinned (OpenSpec.ofChange recBackSpec)

/-- ITS FALSE NEIGHBOUR: 'it returns false'. Refute it at one input. -/
def recBackWrong : ChangeSpec := { name := "recBack", fn := fun _ => fun
  | [d1, d2, d3] => { results := [.lit (.bool false)], args := [d1, d2, d3] }
  | _ => none }
def RecBackWrongFalsely : Prop := recBackRow.holds Try.pinned (OpenSpec.ofChange recBackWrong)

/-- 'lamplighterlaw07.RecTurns': WHATEVER THE INPUT: true; the input reads as it did. -/
def recTurnsSpec : ChangeSpec := { name := "recTurns", fn := fun _ => fun
  | [d1, d2, d3, d4, d5] => { results := [.lit (.bool true)], args := [d1, d2, d3, d4, d5] }
  | _ => none }
def recTurnsRow : OpenClaim := { program := "ytdnhjeoacanbcab", sum := "3381fd21e131dff1e5a9a8ab0c4c08c390abd3897761e6979de108ddda4d55df", func := "lamplighter/lamplighterlaw07.RecTurns", spec := "recTurns", unfollowed := true, recurses := true, apart := false }
def RecTurnsSaid : Prop := recTurnsRow.holds Try.pinned (OpenSpec.ofChange recTurnsSpec)

/-- ITS FALSE NEIGHBOUR: 'it returns false'. Refute it at one input. -/
def recTurnsWrong : ChangeSpec := { name := "recTurns", fn := fun _ => fun
  | [d1, d2, d3, d4, d5] => { results := [.lit (.bool false)], args := [d1, d2, d3, d4, d5] }
  | _ => none }
def RecTurnsWrongFalsely : Prop := recTurnsRow.holds Try.pinned (OpenSpec.ofChange recTurnsWrong)

/- THE SECOND FORM. 'bulk': how many values and letters a reading holds, each counted each time it is reached (what is shared counts as often as it is met; a slice's spare places count too). A statement '..UptoSaid' is the law's where the arguments, and the package variables that the reading takes, are together of bulk at most 1048576: NARROWER than '..Said'. Prove '..Said' where nothing that the law and all that it calls make is longer than what came in: it says more and counts as full. Else prove '..UptoSaid'. A law counts once. -/
mutual
def uptoBulk {H : Type} : DataW H → Nat
  | .lit (.string bytes) => bytes.length + 1
  | .lit _ => 1
  | .nil => 1
  | .ptr d => uptoBulk d + 1
  | .slice elems spare => uptoBulkAll elems + uptoBulkAll spare + 1
  | .agg parts => uptoBulkAll parts + 1
  | .iface _ d => uptoBulk d + 1
  | .map entries => uptoBulkEntries entries + 1
  | .held _ => 1
def uptoBulkAll {H : Type} : List (DataW H) → Nat
  | [] => 0
  | d :: r => uptoBulk d + uptoBulkAll r
def uptoBulkEntries {H : Type} : List (Lit × DataW H) → Nat
  | [] => 0
  | x :: r => uptoBulkEntry x + uptoBulkEntries r
def uptoBulkEntry {H : Type} : Lit × DataW H → Nat
  | (.string bytes, d) => bytes.length + uptoBulk d + 1
  | (_, d) => uptoBulk d + 1
 end
def uptoSmall : (H : Type) → List (DataW H) → Bool := fun _ ds => decide (uptoBulkAll ds ≤ 1048576)
def OpenSpec.upto (s : _root_.Go.ChangeSpec) : _root_.Go.OpenSpec := { _root_.Go.OpenSpec.ofChange s with cond := some uptoSmall }

/-- 'lamplighterlaw05.MicroParts', WHERE WHAT IT READS IS OF BULK AT MOST 1048576: true; the input reads as it did. -/
def microPartsUptoRow : OpenClaim := { program := "ytdnhjeoacanbcab", sum := "3381fd21e131dff1e5a9a8ab0c4c08c390abd3897761e6979de108ddda4d55df", func := "lamplighter/lamplighterlaw05.MicroParts", spec := "microParts", unfollowed := true, recurses := true, apart := false, narrowed := true }
def MicroPartsUptoSaid : Prop := microPartsUptoRow.holds Try.pinned (OpenSpec.upto microPartsSpec)

/-- 'lamplighterlaw05.MicroKept', WHERE WHAT IT READS IS OF BULK AT MOST 1048576: true; the input reads as it did. -/
def microKeptUptoRow : OpenClaim := { program := "ytdnhjeoacanbcab", sum := "3381fd21e131dff1e5a9a8ab0c4c08c390abd3897761e6979de108ddda4d55df", func := "lamplighter/lamplighterlaw05.MicroKept", spec := "microKept", unfollowed := true, recurses := true, apart := false, narrowed := true }
def MicroKeptUptoSaid : Prop := microKeptUptoRow.holds Try.pinned (OpenSpec.upto microKeptSpec)

/-- 'lamplighterlaw05.MicroSeen', WHERE WHAT IT READS IS OF BULK AT MOST 1048576: true; the input reads as it did. -/
def microSeenUptoRow : OpenClaim := { program := "ytdnhjeoacanbcab", sum := "3381fd21e131dff1e5a9a8ab0c4c08c390abd3897761e6979de108ddda4d55df", func := "lamplighter/lamplighterlaw05.MicroSeen", spec := "microSeen", unfollowed := true, recurses := true, apart := false, narrowed := true }
def MicroSeenUptoSaid : Prop := microSeenUptoRow.holds Try.pinned (OpenSpec.upto microSeenSpec)

/-- 'lamplighterlaw05.MicroApart', WHERE WHAT IT READS IS OF BULK AT MOST 1048576: true; the input reads as it did. -/
def microApartUptoRow : OpenClaim := { program := "ytdnhjeoacanbcab", sum := "3381fd21e131dff1e5a9a8ab0c4c08c390abd3897761e6979de108ddda4d55df", func := "lamplighter/lamplighterlaw05.MicroApart", spec := "microApart", unfollowed := true, recurses := true, apart := false, narrowed := true }
def MicroApartUptoSaid : Prop := microApartUptoRow.holds Try.pinned (OpenSpec.upto microApartSpec)

/-- 'lamplighterlaw08.SuperRoot', WHERE WHAT IT READS IS OF BULK AT MOST 1048576: true; the input reads as it did. -/
def superRootUptoRow : OpenClaim := { program := "ytdnhjeoacanbcab", sum := "3381fd21e131dff1e5a9a8ab0c4c08c390abd3897761e6979de108ddda4d55df", func := "lamplighter/lamplighterlaw08.SuperRoot", spec := "superRoot", unfollowed := true, recurses := true, apart := false, narrowed := true }
def SuperRootUptoSaid : Prop := superRootUptoRow.holds Try.pinned (OpenSpec.upto superRootSpec)

/-- 'lamplighterlaw09.NodeTurns', WHERE WHAT IT READS IS OF BULK AT MOST 1048576: true; the input reads as it did. -/
def nodeTurnsUptoRow : OpenClaim := { program := "ytdnhjeoacanbcab", sum := "3381fd21e131dff1e5a9a8ab0c4c08c390abd3897761e6979de108ddda4d55df", func := "lamplighter/lamplighterlaw09.NodeTurns", spec := "nodeTurns", unfollowed := true, recurses := true, apart := false, narrowed := true }
def NodeTurnsUptoSaid : Prop := nodeTurnsUptoRow.holds Try.pinned (OpenSpec.upto nodeTurnsSpec)

/-- 'lamplighterlaw06.FastBack', WHERE WHAT IT READS IS OF BULK AT MOST 1048576: true; the input reads as it did. -/
def fastBackUptoRow : OpenClaim := { program := "ytdnhjeoacanbcab", sum := "3381fd21e131dff1e5a9a8ab0c4c08c390abd3897761e6979de108ddda4d55df", func := "lamplighter/lamplighterlaw06.FastBack", spec := "fastBack", unfollowed := true, recurses := true, apart := false, narrowed := true }
def FastBackUptoSaid : Prop := fastBackUptoRow.holds Try.pinned (OpenSpec.upto fastBackSpec)

/-- 'lamplighterlaw06.FastCuts', WHERE WHAT IT READS IS OF BULK AT MOST 1048576: true; the input reads as it did. -/
def fastCutsUptoRow : OpenClaim := { program := "ytdnhjeoacanbcab", sum := "3381fd21e131dff1e5a9a8ab0c4c08c390abd3897761e6979de108ddda4d55df", func := "lamplighter/lamplighterlaw06.FastCuts", spec := "fastCuts", unfollowed := true, recurses := true, apart := false, narrowed := true }
def FastCutsUptoSaid : Prop := fastCutsUptoRow.holds Try.pinned (OpenSpec.upto fastCutsSpec)

/-- 'lamplighterlaw06.FastInserts', WHERE WHAT IT READS IS OF BULK AT MOST 1048576: true; the input reads as it did. -/
def fastInsertsUptoRow : OpenClaim := { program := "ytdnhjeoacanbcab", sum := "3381fd21e131dff1e5a9a8ab0c4c08c390abd3897761e6979de108ddda4d55df", func := "lamplighter/lamplighterlaw06.FastInserts", spec := "fastInserts", unfollowed := true, recurses := true, apart := false, narrowed := true }
def FastInsertsUptoSaid : Prop := fastInsertsUptoRow.holds Try.pinned (OpenSpec.upto fastInsertsSpec)

/-- 'lamplighterlaw06.FastDeletes', WHERE WHAT IT READS IS OF BULK AT MOST 1048576: true; the input reads as it did. -/
def fastDeletesUptoRow : OpenClaim := { program := "ytdnhjeoacanbcab", sum := "3381fd21e131dff1e5a9a8ab0c4c08c390abd3897761e6979de108ddda4d55df", func := "lamplighter/lamplighterlaw06.FastDeletes", spec := "fastDeletes", unfollowed := true, recurses := true, apart := false, narrowed := true }
def FastDeletesUptoSaid : Prop := fastDeletesUptoRow.holds Try.pinned (OpenSpec.upto fastDeletesSpec)

/-- 'lamplighterlaw07.RecBack', WHERE WHAT IT READS IS OF BULK AT MOST 1048576: true; the input reads as it did. -/
def recBackUptoRow : OpenClaim := { program := "ytdnhjeoacanbcab", sum := "3381fd21e131dff1e5a9a8ab0c4c08c390abd3897761e6979de108ddda4d55df", func := "lamplighter/lamplighterlaw07.RecBack", spec := "recBack", unfollowed := true, recurses := true, apart := false, narrowed := true }
def RecBackUptoSaid : Prop := recBackUptoRow.holds Try.pinned (OpenSpec.upto recBackSpec)

/-- 'lamplighterlaw07.RecTurns', WHERE WHAT IT READS IS OF BULK AT MOST 1048576: true; the input reads as it did. -/
def recTurnsUptoRow : OpenClaim := { program := "ytdnhjeoacanbcab", sum := "3381fd21e131dff1e5a9a8ab0c4c08c390abd3897761e6979de108ddda4d55df", func := "lamplighter/lamplighterlaw07.RecTurns", spec := "recTurns", unfollowed := true, recurses := true, apart := false, narrowed := true }
def RecTurnsUptoSaid : Prop := recTurnsUptoRow.holds Try.pinned (OpenSpec.upto recTurnsSpec)

end Rows
end Go.Proofs.Ytdnhjeoacanbcab
