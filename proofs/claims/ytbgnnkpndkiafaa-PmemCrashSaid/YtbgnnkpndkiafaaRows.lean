/-
  No cell of these rows narrows 'for every input' (looked for: loops, veiled, ifaces, maps, wideKeys, modest, calm, conditions, laid).
  DERIVED. THE GIVEN ROWS OF THIS SEAT. 6 by the template 'for every input the law returns true; each argument reads behind the call as it read before'; 0 by the template 'total and deterministic' (their statements: YtbgnnkpndkiafaaTotals.lean).
  GIVEN WITH THE SEED: the statements are not yours to turn. If you find one false, say at which input.
  Laid BY PROGRAM, IN A SANDBOX (cutbox-rows.mjs): the forced cells as the released guide's own fill.sh prints them over the translation 754ac485efd31d49… (all of the seat's roots in one cut). By AI agents, Wed Nov 11 2026. No macro, syntax, notation, axiom, sorry.
-/
import Derived.Test.YtbgnnkpndkiafaaChecked
import GoSem.Claim
import GoSem.ClaimJoined
import GoSem.ClaimMapViews
import Derived.JoinedTies
import Derived.KernelRfl
namespace Go.Proofs.Ytbgnnkpndkiafaa
/- THE CELL 'sum', in the pinned program and in every row, IS THE sha256 OF THE DUMP (.gsa) THAT YtbgnnkpndkiafaaProg.lean LOADS. Nothing in Lean hashes anything: it is a label: what it is worth is what the hold of that sum in a sandbox is worth. -/
noncomputable def Try.pinned : Pinned := { name := "ytbgnnkpndkiafaa", sum := "754ac485efd31d49985a40d402e801133763a6becffed1b0c1cf9b58e5e9ab39", checked := Try.checked }
namespace Rows
def none {H : Type} : Left H := { results := [], args := [] }

/-- 'lamplighterlaw04.PmemKeeps': WHATEVER THE INPUT: true; the input reads as it did. -/
def pmemKeepsSpec : ChangeSpec := { name := "pmemKeeps", fn := fun _ => fun
  | [d1, d2, d3] => { results := [.lit (.bool true)], args := [d1, d2, d3] }
  | _ => none }
def pmemKeepsRow : OpenClaim := { program := "ytbgnnkpndkiafaa", sum := "754ac485efd31d49985a40d402e801133763a6becffed1b0c1cf9b58e5e9ab39", func := "lamplighter/lamplighterlaw04.PmemKeeps", spec := "pmemKeeps", unfollowed := true, recurses := true, apart := false }
def PmemKeepsSaid : Prop := pmemKeepsRow.holds Try.pinned (OpenSpec.ofChange pmemKeepsSpec)

/-- ITS FALSE NEIGHBOUR: 'it returns false'. Refute it at one input. -/
def pmemKeepsWrong : ChangeSpec := { name := "pmemKeeps", fn := fun _ => fun
  | [d1, d2, d3] => { results := [.lit (.bool false)], args := [d1, d2, d3] }
  | _ => none }
def PmemKeepsWrongFalsely : Prop := pmemKeepsRow.holds Try.pinned (OpenSpec.ofChange pmemKeepsWrong)

/-- 'lamplighterlaw04.PmemCrash': WHATEVER THE INPUT: true; the input reads as it did. -/
def pmemCrashSpec : ChangeSpec := { name := "pmemCrash", fn := fun _ => fun
  | [d1, d2] => { results := [.lit (.bool true)], args := [d1, d2] }
  | _ => none }
def pmemCrashRow : OpenClaim := { program := "ytbgnnkpndkiafaa", sum := "754ac485efd31d49985a40d402e801133763a6becffed1b0c1cf9b58e5e9ab39", func := "lamplighter/lamplighterlaw04.PmemCrash", spec := "pmemCrash", unfollowed := true, recurses := true, apart := false }
def PmemCrashSaid : Prop := pmemCrashRow.holds Try.pinned (OpenSpec.ofChange pmemCrashSpec)

/-- ITS FALSE NEIGHBOUR: 'it returns false'. Refute it at one input. -/
def pmemCrashWrong : ChangeSpec := { name := "pmemCrash", fn := fun _ => fun
  | [d1, d2] => { results := [.lit (.bool false)], args := [d1, d2] }
  | _ => none }
def PmemCrashWrongFalsely : Prop := pmemCrashRow.holds Try.pinned (OpenSpec.ofChange pmemCrashWrong)

/-- 'lamplighterlaw04.PmemLines': WHATEVER THE INPUT: true; the input reads as it did. -/
def pmemLinesSpec : ChangeSpec := { name := "pmemLines", fn := fun _ => fun
  | [d1, d2, d3] => { results := [.lit (.bool true)], args := [d1, d2, d3] }
  | _ => none }
def pmemLinesRow : OpenClaim := { program := "ytbgnnkpndkiafaa", sum := "754ac485efd31d49985a40d402e801133763a6becffed1b0c1cf9b58e5e9ab39", func := "lamplighter/lamplighterlaw04.PmemLines", spec := "pmemLines", unfollowed := true, recurses := true, apart := false }
def PmemLinesSaid : Prop := pmemLinesRow.holds Try.pinned (OpenSpec.ofChange pmemLinesSpec)

/-- ITS FALSE NEIGHBOUR: 'it returns false'. Refute it at one input. -/
def pmemLinesWrong : ChangeSpec := { name := "pmemLines", fn := fun _ => fun
  | [d1, d2, d3] => { results := [.lit (.bool false)], args := [d1, d2, d3] }
  | _ => none }
def PmemLinesWrongFalsely : Prop := pmemLinesRow.holds Try.pinned (OpenSpec.ofChange pmemLinesWrong)

/-- 'lamplighterlaw04.PmemTurns': WHATEVER THE INPUT: true; the input reads as it did. -/
def pmemTurnsSpec : ChangeSpec := { name := "pmemTurns", fn := fun _ => fun
  | [d1, d2, d3, d4, d5] => { results := [.lit (.bool true)], args := [d1, d2, d3, d4, d5] }
  | _ => none }
def pmemTurnsRow : OpenClaim := { program := "ytbgnnkpndkiafaa", sum := "754ac485efd31d49985a40d402e801133763a6becffed1b0c1cf9b58e5e9ab39", func := "lamplighter/lamplighterlaw04.PmemTurns", spec := "pmemTurns", unfollowed := true, recurses := true, apart := false }
def PmemTurnsSaid : Prop := pmemTurnsRow.holds Try.pinned (OpenSpec.ofChange pmemTurnsSpec)

/-- ITS FALSE NEIGHBOUR: 'it returns false'. Refute it at one input. -/
def pmemTurnsWrong : ChangeSpec := { name := "pmemTurns", fn := fun _ => fun
  | [d1, d2, d3, d4, d5] => { results := [.lit (.bool false)], args := [d1, d2, d3, d4, d5] }
  | _ => none }
def PmemTurnsWrongFalsely : Prop := pmemTurnsRow.holds Try.pinned (OpenSpec.ofChange pmemTurnsWrong)

/-- 'lamplighterlaw04.PmemTells': WHATEVER THE INPUT: true; the input reads as it did. -/
def pmemTellsSpec : ChangeSpec := { name := "pmemTells", fn := fun _ => fun
  | [d1, d2, d3, d4, d5] => { results := [.lit (.bool true)], args := [d1, d2, d3, d4, d5] }
  | _ => none }
def pmemTellsRow : OpenClaim := { program := "ytbgnnkpndkiafaa", sum := "754ac485efd31d49985a40d402e801133763a6becffed1b0c1cf9b58e5e9ab39", func := "lamplighter/lamplighterlaw04.PmemTells", spec := "pmemTells", unfollowed := true, recurses := true, apart := false }
def PmemTellsSaid : Prop := pmemTellsRow.holds Try.pinned (OpenSpec.ofChange pmemTellsSpec)

/-- ITS FALSE NEIGHBOUR: 'it returns false'. Refute it at one input. -/
def pmemTellsWrong : ChangeSpec := { name := "pmemTells", fn := fun _ => fun
  | [d1, d2, d3, d4, d5] => { results := [.lit (.bool false)], args := [d1, d2, d3, d4, d5] }
  | _ => none }
def PmemTellsWrongFalsely : Prop := pmemTellsRow.holds Try.pinned (OpenSpec.ofChange pmemTellsWrong)

/-- 'lamplighterlaw04.PmemStays': WHATEVER THE INPUT: true; the input reads as it did. -/
def pmemStaysSpec : ChangeSpec := { name := "pmemStays", fn := fun _ => fun
  | [d1, d2, d3, d4] => { results := [.lit (.bool true)], args := [d1, d2, d3, d4] }
  | _ => none }
def pmemStaysRow : OpenClaim := { program := "ytbgnnkpndkiafaa", sum := "754ac485efd31d49985a40d402e801133763a6becffed1b0c1cf9b58e5e9ab39", func := "lamplighter/lamplighterlaw04.PmemStays", spec := "pmemStays", unfollowed := true, recurses := true, apart := false }
def PmemStaysSaid : Prop := pmemStaysRow.holds Try.pinned (OpenSpec.ofChange pmemStaysSpec)

/-- ITS FALSE NEIGHBOUR: 'it returns false'. Refute it at one input. -/
def pmemStaysWrong : ChangeSpec := { name := "pmemStays", fn := fun _ => fun
  | [d1, d2, d3, d4] => { results := [.lit (.bool false)], args := [d1, d2, d3, d4] }
  | _ => none }
def PmemStaysWrongFalsely : Prop := pmemStaysRow.holds Try.pinned (OpenSpec.ofChange pmemStaysWrong)

/- THE SECOND FORM. 'bulk': how many values and letters a reading holds, each counted each time it is reached (what is shared counts as often as it is met; a slice's spare places count too). A statement '..UptoSaid' is the law's where the arguments, and the package variables that the reading takes, are together of bulk at most 1048576: NARROWER than '..Said'. Prove '..Said' where nothing that the law and all that it calls make is longer than what came in: it says more and counts as full. Else prove '..UptoSaid'. A law counts once. -/
mutual
def uptoBulk {H : Type} : DataW H → Nat
  | .lit (.string bytes) => bytes.length + 1
  | .lit _ => 1
  | .nil => 1
  | .ptr d => uptoBulk d + 1
  | .slice elems spare => uptoBulkAll elems + uptoBulkAll spare + 1
  | .agg parts => uptoBulkAll parts + 1
  | .iface _ d => uptoBulk d + 1
  | .map entries => uptoBulkEntries entries + 1
  | .held _ => 1
def uptoBulkAll {H : Type} : List (DataW H) → Nat
  | [] => 0
  | d :: r => uptoBulk d + uptoBulkAll r
def uptoBulkEntries {H : Type} : List (Lit × DataW H) → Nat
  | [] => 0
  | x :: r => uptoBulkEntry x + uptoBulkEntries r
def uptoBulkEntry {H : Type} : Lit × DataW H → Nat
  | (.string bytes, d) => bytes.length + uptoBulk d + 1
  | (_, d) => uptoBulk d + 1
 end
def uptoSmall : (H : Type) → List (DataW H) → Bool := fun _ ds => decide (uptoBulkAll ds ≤ 1048576)
def OpenSpec.upto (s : _root_.Go.ChangeSpec) : _root_.Go.OpenSpec := { _root_.Go.OpenSpec.ofChange s with cond := some uptoSmall }

/-- 'lamplighterlaw04.PmemKeeps', WHERE WHAT IT READS IS OF BULK AT MOST 1048576: true; the input reads as it did. -/
def pmemKeepsUptoRow : OpenClaim := { program := "ytbgnnkpndkiafaa", sum := "754ac485efd31d49985a40d402e801133763a6becffed1b0c1cf9b58e5e9ab39", func := "lamplighter/lamplighterlaw04.PmemKeeps", spec := "pmemKeeps", unfollowed := true, recurses := true, apart := false, narrowed := true }
def PmemKeepsUptoSaid : Prop := pmemKeepsUptoRow.holds Try.pinned (OpenSpec.upto pmemKeepsSpec)

/-- 'lamplighterlaw04.PmemCrash', WHERE WHAT IT READS IS OF BULK AT MOST 1048576: true; the input reads as it did. -/
def pmemCrashUptoRow : OpenClaim := { program := "ytbgnnkpndkiafaa", sum := "754ac485efd31d49985a40d402e801133763a6becffed1b0c1cf9b58e5e9ab39", func := "lamplighter/lamplighterlaw04.PmemCrash", spec := "pmemCrash", unfollowed := true, recurses := true, apart := false, narrowed := true }
def PmemCrashUptoSaid : Prop := pmemCrashUptoRow.holds Try.pinned (OpenSpec.upto pmemCrashSpec)

/-- 'lamplighterlaw04.PmemLines', WHERE WHAT IT READS IS OF BULK AT MOST 1048576: true; the input reads as it did. -/
def pmemLinesUptoRow : OpenClaim := { program := "ytbgnnkpndkiafaa", sum := "754ac485efd31d49985a40d402e801133763a6becffed1b0c1cf9b58e5e9ab39", func := "lamplighter/lamplighterlaw04.PmemLines", spec := "pmemLines", unfollowed := true, recurses := true, apart := false, narrowed := true }
def PmemLinesUptoSaid : Prop := pmemLinesUptoRow.holds Try.pinned (OpenSpec.upto pmemLinesSpec)

/-- 'lamplighterlaw04.PmemTurns', WHERE WHAT IT READS IS OF BULK AT MOST 1048576: true; the input reads as it did. -/
def pmemTurnsUptoRow : OpenClaim := { program := "ytbgnnkpndkiafaa", sum := "754ac485efd31d49985a40d402e801133763a6becffed1b0c1cf9b58e5e9ab39", func := "lamplighter/lamplighterlaw04.PmemTurns", spec := "pmemTurns", unfollowed := true, recurses := true, apart := false, narrowed := true }
def PmemTurnsUptoSaid : Prop := pmemTurnsUptoRow.holds Try.pinned (OpenSpec.upto pmemTurnsSpec)

/-- 'lamplighterlaw04.PmemTells', WHERE WHAT IT READS IS OF BULK AT MOST 1048576: true; the input reads as it did. -/
def pmemTellsUptoRow : OpenClaim := { program := "ytbgnnkpndkiafaa", sum := "754ac485efd31d49985a40d402e801133763a6becffed1b0c1cf9b58e5e9ab39", func := "lamplighter/lamplighterlaw04.PmemTells", spec := "pmemTells", unfollowed := true, recurses := true, apart := false, narrowed := true }
def PmemTellsUptoSaid : Prop := pmemTellsUptoRow.holds Try.pinned (OpenSpec.upto pmemTellsSpec)

/-- 'lamplighterlaw04.PmemStays', WHERE WHAT IT READS IS OF BULK AT MOST 1048576: true; the input reads as it did. -/
def pmemStaysUptoRow : OpenClaim := { program := "ytbgnnkpndkiafaa", sum := "754ac485efd31d49985a40d402e801133763a6becffed1b0c1cf9b58e5e9ab39", func := "lamplighter/lamplighterlaw04.PmemStays", spec := "pmemStays", unfollowed := true, recurses := true, apart := false, narrowed := true }
def PmemStaysUptoSaid : Prop := pmemStaysUptoRow.holds Try.pinned (OpenSpec.upto pmemStaysSpec)

end Rows
end Go.Proofs.Ytbgnnkpndkiafaa
