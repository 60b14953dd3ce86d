/-
  No cell of these rows narrows 'for every input' (looked for: loops, veiled, ifaces, maps, wideKeys, modest, calm, conditions, laid).
  DERIVED. THE GIVEN ROWS OF THIS SEAT. 12 by the template 'for every input the law returns true; each argument reads behind the call as it read before'; 0 by the template 'total and deterministic' (their statements: YtdnhjeoacanbcaaTotals.lean).
  GIVEN WITH THE SEED: the statements are not yours to turn. If you find one false, say at which input.
  Laid BY PROGRAM, IN A SANDBOX (cutbox-rows.mjs): the forced cells as the released guide's own fill.sh prints them over the translation 0aa31acaea80f8ff… (all of the seat's roots in one cut). By AI agents, Wed Nov 11 2026. No macro, syntax, notation, axiom, sorry.
-/
import Derived.Test.YtdnhjeoacanbcaaChecked
import GoSem.Claim
import GoSem.ClaimJoined
import GoSem.ClaimMapViews
import Derived.JoinedTies
import Derived.KernelRfl
namespace Go.Proofs.Ytdnhjeoacanbcaa
/- THE CELL 'sum', in the pinned program and in every row, IS THE sha256 OF THE DUMP (.gsa) THAT YtdnhjeoacanbcaaProg.lean LOADS. Nothing in Lean hashes anything: it is a label: what it is worth is what the hold of that sum in a sandbox is worth. -/
noncomputable def Try.pinned : Pinned := { name := "ytdnhjeoacanbcaa", sum := "0aa31acaea80f8ffc006d7d72b8aa1e8835920746dfaba34251ec633bd783752", checked := Try.checked }
namespace Rows
def none {H : Type} : Left H := { results := [], args := [] }

/-- 'lamplighterlaw08.SuperTells': WHATEVER THE INPUT: true; the input reads as it did. -/
def superTellsSpec : ChangeSpec := { name := "superTells", fn := fun _ => fun
  | [d1, d2, d3] => { results := [.lit (.bool true)], args := [d1, d2, d3] }
  | _ => none }
def superTellsRow : OpenClaim := { program := "ytdnhjeoacanbcaa", sum := "0aa31acaea80f8ffc006d7d72b8aa1e8835920746dfaba34251ec633bd783752", func := "lamplighter/lamplighterlaw08.SuperTells", spec := "superTells", unfollowed := true, recurses := true, apart := false }
def SuperTellsSaid : Prop := superTellsRow.holds Try.pinned (OpenSpec.ofChange superTellsSpec)

/-- ITS FALSE NEIGHBOUR: 'it returns false'. Refute it at one input. -/
def superTellsWrong : ChangeSpec := { name := "superTells", fn := fun _ => fun
  | [d1, d2, d3] => { results := [.lit (.bool false)], args := [d1, d2, d3] }
  | _ => none }
def SuperTellsWrongFalsely : Prop := superTellsRow.holds Try.pinned (OpenSpec.ofChange superTellsWrong)

/-- 'lamplighterlaw08.SuperBack': WHATEVER THE INPUT: true; the input reads as it did. -/
def superBackSpec : ChangeSpec := { name := "superBack", fn := fun _ => fun
  | [d1, d2, d3, d4] => { results := [.lit (.bool true)], args := [d1, d2, d3, d4] }
  | _ => none }
def superBackRow : OpenClaim := { program := "ytdnhjeoacanbcaa", sum := "0aa31acaea80f8ffc006d7d72b8aa1e8835920746dfaba34251ec633bd783752", func := "lamplighter/lamplighterlaw08.SuperBack", spec := "superBack", unfollowed := true, recurses := true, apart := false }
def SuperBackSaid : Prop := superBackRow.holds Try.pinned (OpenSpec.ofChange superBackSpec)

/-- ITS FALSE NEIGHBOUR: 'it returns false'. Refute it at one input. -/
def superBackWrong : ChangeSpec := { name := "superBack", fn := fun _ => fun
  | [d1, d2, d3, d4] => { results := [.lit (.bool false)], args := [d1, d2, d3, d4] }
  | _ => none }
def SuperBackWrongFalsely : Prop := superBackRow.holds Try.pinned (OpenSpec.ofChange superBackWrong)

/-- 'lamplighterlaw08.SuperOnly': WHATEVER THE INPUT: true; the input reads as it did. -/
def superOnlySpec : ChangeSpec := { name := "superOnly", fn := fun _ => fun
  | [d1, d2] => { results := [.lit (.bool true)], args := [d1, d2] }
  | _ => none }
def superOnlyRow : OpenClaim := { program := "ytdnhjeoacanbcaa", sum := "0aa31acaea80f8ffc006d7d72b8aa1e8835920746dfaba34251ec633bd783752", func := "lamplighter/lamplighterlaw08.SuperOnly", spec := "superOnly", unfollowed := true, recurses := true, apart := false }
def SuperOnlySaid : Prop := superOnlyRow.holds Try.pinned (OpenSpec.ofChange superOnlySpec)

/-- ITS FALSE NEIGHBOUR: 'it returns false'. Refute it at one input. -/
def superOnlyWrong : ChangeSpec := { name := "superOnly", fn := fun _ => fun
  | [d1, d2] => { results := [.lit (.bool false)], args := [d1, d2] }
  | _ => none }
def SuperOnlyWrongFalsely : Prop := superOnlyRow.holds Try.pinned (OpenSpec.ofChange superOnlyWrong)

/-- 'lamplighterlaw09.NodeTells': WHATEVER THE INPUT: true; the input reads as it did. -/
def nodeTellsSpec : ChangeSpec := { name := "nodeTells", fn := fun _ => fun
  | [d1, d2, d3, d4, d5] => { results := [.lit (.bool true)], args := [d1, d2, d3, d4, d5] }
  | _ => none }
def nodeTellsRow : OpenClaim := { program := "ytdnhjeoacanbcaa", sum := "0aa31acaea80f8ffc006d7d72b8aa1e8835920746dfaba34251ec633bd783752", func := "lamplighter/lamplighterlaw09.NodeTells", spec := "nodeTells", unfollowed := true, recurses := true, apart := false }
def NodeTellsSaid : Prop := nodeTellsRow.holds Try.pinned (OpenSpec.ofChange nodeTellsSpec)

/-- ITS FALSE NEIGHBOUR: 'it returns false'. Refute it at one input. -/
def nodeTellsWrong : ChangeSpec := { name := "nodeTells", fn := fun _ => fun
  | [d1, d2, d3, d4, d5] => { results := [.lit (.bool false)], args := [d1, d2, d3, d4, d5] }
  | _ => none }
def NodeTellsWrongFalsely : Prop := nodeTellsRow.holds Try.pinned (OpenSpec.ofChange nodeTellsWrong)

/-- 'lamplighterlaw09.NodeBack': WHATEVER THE INPUT: true; the input reads as it did. -/
def nodeBackSpec : ChangeSpec := { name := "nodeBack", fn := fun _ => fun
  | [d1, d2, d3] => { results := [.lit (.bool true)], args := [d1, d2, d3] }
  | _ => none }
def nodeBackRow : OpenClaim := { program := "ytdnhjeoacanbcaa", sum := "0aa31acaea80f8ffc006d7d72b8aa1e8835920746dfaba34251ec633bd783752", func := "lamplighter/lamplighterlaw09.NodeBack", spec := "nodeBack", unfollowed := true, recurses := true, apart := false }
def NodeBackSaid : Prop := nodeBackRow.holds Try.pinned (OpenSpec.ofChange nodeBackSpec)

/-- ITS FALSE NEIGHBOUR: 'it returns false'. Refute it at one input. -/
def nodeBackWrong : ChangeSpec := { name := "nodeBack", fn := fun _ => fun
  | [d1, d2, d3] => { results := [.lit (.bool false)], args := [d1, d2, d3] }
  | _ => none }
def NodeBackWrongFalsely : Prop := nodeBackRow.holds Try.pinned (OpenSpec.ofChange nodeBackWrong)

/-- 'lamplighterlaw09.NodeUnlike': WHATEVER THE INPUT: true; the input reads as it did. -/
def nodeUnlikeSpec : ChangeSpec := { name := "nodeUnlike", fn := fun _ => fun
  | [d1, d2, d3] => { results := [.lit (.bool true)], args := [d1, d2, d3] }
  | _ => none }
def nodeUnlikeRow : OpenClaim := { program := "ytdnhjeoacanbcaa", sum := "0aa31acaea80f8ffc006d7d72b8aa1e8835920746dfaba34251ec633bd783752", func := "lamplighter/lamplighterlaw09.NodeUnlike", spec := "nodeUnlike", unfollowed := true, recurses := true, apart := false }
def NodeUnlikeSaid : Prop := nodeUnlikeRow.holds Try.pinned (OpenSpec.ofChange nodeUnlikeSpec)

/-- ITS FALSE NEIGHBOUR: 'it returns false'. Refute it at one input. -/
def nodeUnlikeWrong : ChangeSpec := { name := "nodeUnlike", fn := fun _ => fun
  | [d1, d2, d3] => { results := [.lit (.bool false)], args := [d1, d2, d3] }
  | _ => none }
def NodeUnlikeWrongFalsely : Prop := nodeUnlikeRow.holds Try.pinned (OpenSpec.ofChange nodeUnlikeWrong)

/-- 'lamplighterlaw06.FastTells': WHATEVER THE INPUT: true; the input reads as it did. -/
def fastTellsSpec : ChangeSpec := { name := "fastTells", fn := fun _ => fun
  | [d1, d2, d3, d4, d5] => { results := [.lit (.bool true)], args := [d1, d2, d3, d4, d5] }
  | _ => none }
def fastTellsRow : OpenClaim := { program := "ytdnhjeoacanbcaa", sum := "0aa31acaea80f8ffc006d7d72b8aa1e8835920746dfaba34251ec633bd783752", func := "lamplighter/lamplighterlaw06.FastTells", spec := "fastTells", unfollowed := true, recurses := true, apart := false }
def FastTellsSaid : Prop := fastTellsRow.holds Try.pinned (OpenSpec.ofChange fastTellsSpec)

/-- ITS FALSE NEIGHBOUR: 'it returns false'. Refute it at one input. -/
def fastTellsWrong : ChangeSpec := { name := "fastTells", fn := fun _ => fun
  | [d1, d2, d3, d4, d5] => { results := [.lit (.bool false)], args := [d1, d2, d3, d4, d5] }
  | _ => none }
def FastTellsWrongFalsely : Prop := fastTellsRow.holds Try.pinned (OpenSpec.ofChange fastTellsWrong)

/-- 'lamplighterlaw06.FastSteps': WHATEVER THE INPUT: true; the input reads as it did. -/
def fastStepsSpec : ChangeSpec := { name := "fastSteps", fn := fun _ => fun
  | [d1, d2, d3, d4] => { results := [.lit (.bool true)], args := [d1, d2, d3, d4] }
  | _ => none }
def fastStepsRow : OpenClaim := { program := "ytdnhjeoacanbcaa", sum := "0aa31acaea80f8ffc006d7d72b8aa1e8835920746dfaba34251ec633bd783752", func := "lamplighter/lamplighterlaw06.FastSteps", spec := "fastSteps", unfollowed := true, recurses := true, apart := false }
def FastStepsSaid : Prop := fastStepsRow.holds Try.pinned (OpenSpec.ofChange fastStepsSpec)

/-- ITS FALSE NEIGHBOUR: 'it returns false'. Refute it at one input. -/
def fastStepsWrong : ChangeSpec := { name := "fastSteps", fn := fun _ => fun
  | [d1, d2, d3, d4] => { results := [.lit (.bool false)], args := [d1, d2, d3, d4] }
  | _ => none }
def FastStepsWrongFalsely : Prop := fastStepsRow.holds Try.pinned (OpenSpec.ofChange fastStepsWrong)

/-- 'lamplighterlaw07.RecTells': WHATEVER THE INPUT: true; the input reads as it did. -/
def recTellsSpec : ChangeSpec := { name := "recTells", fn := fun _ => fun
  | [d1, d2, d3] => { results := [.lit (.bool true)], args := [d1, d2, d3] }
  | _ => none }
def recTellsRow : OpenClaim := { program := "ytdnhjeoacanbcaa", sum := "0aa31acaea80f8ffc006d7d72b8aa1e8835920746dfaba34251ec633bd783752", func := "lamplighter/lamplighterlaw07.RecTells", spec := "recTells", unfollowed := true, recurses := true, apart := false }
def RecTellsSaid : Prop := recTellsRow.holds Try.pinned (OpenSpec.ofChange recTellsSpec)

/-- ITS FALSE NEIGHBOUR: 'it returns false'. Refute it at one input. -/
def recTellsWrong : ChangeSpec := { name := "recTells", fn := fun _ => fun
  | [d1, d2, d3] => { results := [.lit (.bool false)], args := [d1, d2, d3] }
  | _ => none }
def RecTellsWrongFalsely : Prop := recTellsRow.holds Try.pinned (OpenSpec.ofChange recTellsWrong)

/-- 'lamplighterlaw07.RecOnly': WHATEVER THE INPUT: true; the input reads as it did. -/
def recOnlySpec : ChangeSpec := { name := "recOnly", fn := fun _ => fun
  | [d1, d2, d3, d4, d5] => { results := [.lit (.bool true)], args := [d1, d2, d3, d4, d5] }
  | _ => none }
def recOnlyRow : OpenClaim := { program := "ytdnhjeoacanbcaa", sum := "0aa31acaea80f8ffc006d7d72b8aa1e8835920746dfaba34251ec633bd783752", func := "lamplighter/lamplighterlaw07.RecOnly", spec := "recOnly", unfollowed := true, recurses := true, apart := false }
def RecOnlySaid : Prop := recOnlyRow.holds Try.pinned (OpenSpec.ofChange recOnlySpec)

/-- ITS FALSE NEIGHBOUR: 'it returns false'. Refute it at one input. -/
def recOnlyWrong : ChangeSpec := { name := "recOnly", fn := fun _ => fun
  | [d1, d2, d3, d4, d5] => { results := [.lit (.bool false)], args := [d1, d2, d3, d4, d5] }
  | _ => none }
def RecOnlyWrongFalsely : Prop := recOnlyRow.holds Try.pinned (OpenSpec.ofChange recOnlyWrong)

/-- 'lamplighterlaw07.RecUnlike': WHATEVER THE INPUT: true; the input reads as it did. -/
def recUnlikeSpec : ChangeSpec := { name := "recUnlike", fn := fun _ => fun
  | [d1, d2] => { results := [.lit (.bool true)], args := [d1, d2] }
  | _ => none }
def recUnlikeRow : OpenClaim := { program := "ytdnhjeoacanbcaa", sum := "0aa31acaea80f8ffc006d7d72b8aa1e8835920746dfaba34251ec633bd783752", func := "lamplighter/lamplighterlaw07.RecUnlike", spec := "recUnlike", unfollowed := true, recurses := true, apart := false }
def RecUnlikeSaid : Prop := recUnlikeRow.holds Try.pinned (OpenSpec.ofChange recUnlikeSpec)

/-- ITS FALSE NEIGHBOUR: 'it returns false'. Refute it at one input. -/
def recUnlikeWrong : ChangeSpec := { name := "recUnlike", fn := fun _ => fun
  | [d1, d2] => { results := [.lit (.bool false)], args := [d1, d2] }
  | _ => none }
def RecUnlikeWrongFalsely : Prop := recUnlikeRow.holds Try.pinned (OpenSpec.ofChange recUnlikeWrong)

/-- 'lamplighterlaw05.MicroTells': WHATEVER THE INPUT: true; the input reads as it did. -/
def microTellsSpec : ChangeSpec := { name := "microTells", fn := fun _ => fun
  | [d1, d2, d3, d4, d5] => { results := [.lit (.bool true)], args := [d1, d2, d3, d4, d5] }
  | _ => none }
def microTellsRow : OpenClaim := { program := "ytdnhjeoacanbcaa", sum := "0aa31acaea80f8ffc006d7d72b8aa1e8835920746dfaba34251ec633bd783752", func := "lamplighter/lamplighterlaw05.MicroTells", spec := "microTells", unfollowed := true, recurses := true, apart := false }
def MicroTellsSaid : Prop := microTellsRow.holds Try.pinned (OpenSpec.ofChange microTellsSpec)

/-- ITS FALSE NEIGHBOUR: 'it returns false'. Refute it at one input. -/
def microTellsWrong : ChangeSpec := { name := "microTells", fn := fun _ => fun
  | [d1, d2, d3, d4, d5] => { results := [.lit (.bool false)], args := [d1, d2, d3, d4, d5] }
  | _ => none }
def MicroTellsWrongFalsely : Prop := microTellsRow.holds Try.pinned (OpenSpec.ofChange microTellsWrong)

/- THE SECOND FORM. 'bulk': how many values and letters a reading holds, each counted each time it is reached (what is shared counts as often as it is met; a slice's spare places count too). A statement '..UptoSaid' is the law's where the arguments, and the package variables that the reading takes, are together of bulk at most 1048576: NARROWER than '..Said'. Prove '..Said' where nothing that the law and all that it calls make is longer than what came in: it says more and counts as full. Else prove '..UptoSaid'. A law counts once. -/
mutual
def uptoBulk {H : Type} : DataW H → Nat
  | .lit (.string bytes) => bytes.length + 1
  | .lit _ => 1
  | .nil => 1
  | .ptr d => uptoBulk d + 1
  | .slice elems spare => uptoBulkAll elems + uptoBulkAll spare + 1
  | .agg parts => uptoBulkAll parts + 1
  | .iface _ d => uptoBulk d + 1
  | .map entries => uptoBulkEntries entries + 1
  | .held _ => 1
def uptoBulkAll {H : Type} : List (DataW H) → Nat
  | [] => 0
  | d :: r => uptoBulk d + uptoBulkAll r
def uptoBulkEntries {H : Type} : List (Lit × DataW H) → Nat
  | [] => 0
  | x :: r => uptoBulkEntry x + uptoBulkEntries r
def uptoBulkEntry {H : Type} : Lit × DataW H → Nat
  | (.string bytes, d) => bytes.length + uptoBulk d + 1
  | (_, d) => uptoBulk d + 1
 end
def uptoSmall : (H : Type) → List (DataW H) → Bool := fun _ ds => decide (uptoBulkAll ds ≤ 1048576)
def OpenSpec.upto (s : _root_.Go.ChangeSpec) : _root_.Go.OpenSpec := { _root_.Go.OpenSpec.ofChange s with cond := some uptoSmall }

/-- 'lamplighterlaw08.SuperTells', WHERE WHAT IT READS IS OF BULK AT MOST 1048576: true; the input reads as it did. -/
def superTellsUptoRow : OpenClaim := { program := "ytdnhjeoacanbcaa", sum := "0aa31acaea80f8ffc006d7d72b8aa1e8835920746dfaba34251ec633bd783752", func := "lamplighter/lamplighterlaw08.SuperTells", spec := "superTells", unfollowed := true, recurses := true, apart := false, narrowed := true }
def SuperTellsUptoSaid : Prop := superTellsUptoRow.holds Try.pinned (OpenSpec.upto superTellsSpec)

/-- 'lamplighterlaw08.SuperBack', WHERE WHAT IT READS IS OF BULK AT MOST 1048576: true; the input reads as it did. -/
def superBackUptoRow : OpenClaim := { program := "ytdnhjeoacanbcaa", sum := "0aa31acaea80f8ffc006d7d72b8aa1e8835920746dfaba34251ec633bd783752", func := "lamplighter/lamplighterlaw08.SuperBack", spec := "superBack", unfollowed := true, recurses := true, apart := false, narrowed := true }
def SuperBackUptoSaid : Prop := superBackUptoRow.holds Try.pinned (OpenSpec.upto superBackSpec)

/-- 'lamplighterlaw08.SuperOnly', WHERE WHAT IT READS IS OF BULK AT MOST 1048576: true; the input reads as it did. -/
def superOnlyUptoRow : OpenClaim := { program := "ytdnhjeoacanbcaa", sum := "0aa31acaea80f8ffc006d7d72b8aa1e8835920746dfaba34251ec633bd783752", func := "lamplighter/lamplighterlaw08.SuperOnly", spec := "superOnly", unfollowed := true, recurses := true, apart := false, narrowed := true }
def SuperOnlyUptoSaid : Prop := superOnlyUptoRow.holds Try.pinned (OpenSpec.upto superOnlySpec)

/-- 'lamplighterlaw09.NodeTells', WHERE WHAT IT READS IS OF BULK AT MOST 1048576: true; the input reads as it did. -/
def nodeTellsUptoRow : OpenClaim := { program := "ytdnhjeoacanbcaa", sum := "0aa31acaea80f8ffc006d7d72b8aa1e8835920746dfaba34251ec633bd783752", func := "lamplighter/lamplighterlaw09.NodeTells", spec := "nodeTells", unfollowed := true, recurses := true, apart := false, narrowed := true }
def NodeTellsUptoSaid : Prop := nodeTellsUptoRow.holds Try.pinned (OpenSpec.upto nodeTellsSpec)

/-- 'lamplighterlaw09.NodeBack', WHERE WHAT IT READS IS OF BULK AT MOST 1048576: true; the input reads as it did. -/
def nodeBackUptoRow : OpenClaim := { program := "ytdnhjeoacanbcaa", sum := "0aa31acaea80f8ffc006d7d72b8aa1e8835920746dfaba34251ec633bd783752", func := "lamplighter/lamplighterlaw09.NodeBack", spec := "nodeBack", unfollowed := true, recurses := true, apart := false, narrowed := true }
def NodeBackUptoSaid : Prop := nodeBackUptoRow.holds Try.pinned (OpenSpec.upto nodeBackSpec)

/-- 'lamplighterlaw09.NodeUnlike', WHERE WHAT IT READS IS OF BULK AT MOST 1048576: true; the input reads as it did. -/
def nodeUnlikeUptoRow : OpenClaim := { program := "ytdnhjeoacanbcaa", sum := "0aa31acaea80f8ffc006d7d72b8aa1e8835920746dfaba34251ec633bd783752", func := "lamplighter/lamplighterlaw09.NodeUnlike", spec := "nodeUnlike", unfollowed := true, recurses := true, apart := false, narrowed := true }
def NodeUnlikeUptoSaid : Prop := nodeUnlikeUptoRow.holds Try.pinned (OpenSpec.upto nodeUnlikeSpec)

/-- 'lamplighterlaw06.FastTells', WHERE WHAT IT READS IS OF BULK AT MOST 1048576: true; the input reads as it did. -/
def fastTellsUptoRow : OpenClaim := { program := "ytdnhjeoacanbcaa", sum := "0aa31acaea80f8ffc006d7d72b8aa1e8835920746dfaba34251ec633bd783752", func := "lamplighter/lamplighterlaw06.FastTells", spec := "fastTells", unfollowed := true, recurses := true, apart := false, narrowed := true }
def FastTellsUptoSaid : Prop := fastTellsUptoRow.holds Try.pinned (OpenSpec.upto fastTellsSpec)

/-- 'lamplighterlaw06.FastSteps', WHERE WHAT IT READS IS OF BULK AT MOST 1048576: true; the input reads as it did. -/
def fastStepsUptoRow : OpenClaim := { program := "ytdnhjeoacanbcaa", sum := "0aa31acaea80f8ffc006d7d72b8aa1e8835920746dfaba34251ec633bd783752", func := "lamplighter/lamplighterlaw06.FastSteps", spec := "fastSteps", unfollowed := true, recurses := true, apart := false, narrowed := true }
def FastStepsUptoSaid : Prop := fastStepsUptoRow.holds Try.pinned (OpenSpec.upto fastStepsSpec)

/-- 'lamplighterlaw07.RecTells', WHERE WHAT IT READS IS OF BULK AT MOST 1048576: true; the input reads as it did. -/
def recTellsUptoRow : OpenClaim := { program := "ytdnhjeoacanbcaa", sum := "0aa31acaea80f8ffc006d7d72b8aa1e8835920746dfaba34251ec633bd783752", func := "lamplighter/lamplighterlaw07.RecTells", spec := "recTells", unfollowed := true, recurses := true, apart := false, narrowed := true }
def RecTellsUptoSaid : Prop := recTellsUptoRow.holds Try.pinned (OpenSpec.upto recTellsSpec)

/-- 'lamplighterlaw07.RecOnly', WHERE WHAT IT READS IS OF BULK AT MOST 1048576: true; the input reads as it did. -/
def recOnlyUptoRow : OpenClaim := { program := "ytdnhjeoacanbcaa", sum := "0aa31acaea80f8ffc006d7d72b8aa1e8835920746dfaba34251ec633bd783752", func := "lamplighter/lamplighterlaw07.RecOnly", spec := "recOnly", unfollowed := true, recurses := true, apart := false, narrowed := true }
def RecOnlyUptoSaid : Prop := recOnlyUptoRow.holds Try.pinned (OpenSpec.upto recOnlySpec)

/-- 'lamplighterlaw07.RecUnlike', WHERE WHAT IT READS IS OF BULK AT MOST 1048576: true; the input reads as it did. -/
def recUnlikeUptoRow : OpenClaim := { program := "ytdnhjeoacanbcaa", sum := "0aa31acaea80f8ffc006d7d72b8aa1e8835920746dfaba34251ec633bd783752", func := "lamplighter/lamplighterlaw07.RecUnlike", spec := "recUnlike", unfollowed := true, recurses := true, apart := false, narrowed := true }
def RecUnlikeUptoSaid : Prop := recUnlikeUptoRow.holds Try.pinned (OpenSpec.upto recUnlikeSpec)

/-- 'lamplighterlaw05.MicroTells', WHERE WHAT IT READS IS OF BULK AT MOST 1048576: true; the input reads as it did. -/
def microTellsUptoRow : OpenClaim := { program := "ytdnhjeoacanbcaa", sum := "0aa31acaea80f8ffc006d7d72b8aa1e8835920746dfaba34251ec633bd783752", func := "lamplighter/lamplighterlaw05.MicroTells", spec := "microTells", unfollowed := true, recurses := true, apart := false, narrowed := true }
def MicroTellsUptoSaid : Prop := microTellsUptoRow.holds Try.pinned (OpenSpec.upto microTellsSpec)

end Rows
end Go.Proofs.Ytdnhjeoacanbcaa
