/-
  No cell of these rows narrows 'for every input' (looked for: loops, veiled, ifaces, maps, wideKeys, modest, calm, conditions, laid).
  DERIVED. THE GIVEN ROWS OF THIS SEAT. 4 by the template 'for every input the law returns true; each argument reads behind the call as it read before'; 0 by the template 'total and deterministic' (their statements: YtpjnljbfnppmlaaTotals.lean).
  GIVEN WITH THE SEED: the statements are not yours to turn. If you find one false, say at which input.
  Laid BY PROGRAM, IN A SANDBOX (cutbox-rows.mjs): the forced cells as the released guide's own fill.sh prints them over the translation c818081587729340… (all of the seat's roots in one cut). By AI agents, Wed Nov 11 2026. No macro, syntax, notation, axiom, sorry.
-/
import Derived.Test.YtpjnljbfnppmlaaChecked
import GoSem.Claim
import GoSem.ClaimJoined
import GoSem.ClaimMapViews
import Derived.JoinedTies
import Derived.KernelRfl
namespace Go.Proofs.Ytpjnljbfnppmlaa
/- THE CELL 'sum', in the pinned program and in every row, IS THE sha256 OF THE DUMP (.gsa) THAT YtpjnljbfnppmlaaProg.lean LOADS. Nothing in Lean hashes anything: it is a label: what it is worth is what the hold of that sum in a sandbox is worth. -/
noncomputable def Try.pinned : Pinned := { name := "ytpjnljbfnppmlaa", sum := "c818081587729340bd103337764cb14e915aaff80247afb9f9aa4c6b8c02e27e", checked := Try.checked }
namespace Rows
def none {H : Type} : Left H := { results := [], args := [] }

/-- 'lamplighterlaw02.KeyBack': WHATEVER THE INPUT: true; the input reads as it did. -/
def keyBackSpec : ChangeSpec := { name := "keyBack", fn := fun _ => fun
  | [d1, d2] => { results := [.lit (.bool true)], args := [d1, d2] }
  | _ => none }
def keyBackRow : OpenClaim := { program := "ytpjnljbfnppmlaa", sum := "c818081587729340bd103337764cb14e915aaff80247afb9f9aa4c6b8c02e27e", func := "lamplighter/lamplighterlaw02.KeyBack", spec := "keyBack", unfollowed := true, recurses := true, apart := false }
def KeyBackSaid : Prop := keyBackRow.holds Try.pinned (OpenSpec.ofChange keyBackSpec)

/-- ITS FALSE NEIGHBOUR: 'it returns false'. Refute it at one input. -/
def keyBackWrong : ChangeSpec := { name := "keyBack", fn := fun _ => fun
  | [d1, d2] => { results := [.lit (.bool false)], args := [d1, d2] }
  | _ => none }
def KeyBackWrongFalsely : Prop := keyBackRow.holds Try.pinned (OpenSpec.ofChange keyBackWrong)

/-- 'lamplighterlaw02.KeyOrder': WHATEVER THE INPUT: true; the input reads as it did. -/
def keyOrderSpec : ChangeSpec := { name := "keyOrder", fn := fun _ => fun
  | [d1, d2] => { results := [.lit (.bool true)], args := [d1, d2] }
  | _ => none }
def keyOrderRow : OpenClaim := { program := "ytpjnljbfnppmlaa", sum := "c818081587729340bd103337764cb14e915aaff80247afb9f9aa4c6b8c02e27e", func := "lamplighter/lamplighterlaw02.KeyOrder", spec := "keyOrder", unfollowed := true, recurses := true, apart := false }
def KeyOrderSaid : Prop := keyOrderRow.holds Try.pinned (OpenSpec.ofChange keyOrderSpec)

/-- ITS FALSE NEIGHBOUR: 'it returns false'. Refute it at one input. -/
def keyOrderWrong : ChangeSpec := { name := "keyOrder", fn := fun _ => fun
  | [d1, d2] => { results := [.lit (.bool false)], args := [d1, d2] }
  | _ => none }
def KeyOrderWrongFalsely : Prop := keyOrderRow.holds Try.pinned (OpenSpec.ofChange keyOrderWrong)

/-- 'lamplighterlaw02.KeyParts': WHATEVER THE INPUT: true; the input reads as it did. -/
def keyPartsSpec : ChangeSpec := { name := "keyParts", fn := fun _ => fun
  | [d1, d2] => { results := [.lit (.bool true)], args := [d1, d2] }
  | _ => none }
def keyPartsRow : OpenClaim := { program := "ytpjnljbfnppmlaa", sum := "c818081587729340bd103337764cb14e915aaff80247afb9f9aa4c6b8c02e27e", func := "lamplighter/lamplighterlaw02.KeyParts", spec := "keyParts", unfollowed := true, recurses := true, apart := false }
def KeyPartsSaid : Prop := keyPartsRow.holds Try.pinned (OpenSpec.ofChange keyPartsSpec)

/-- ITS FALSE NEIGHBOUR: 'it returns false'. Refute it at one input. -/
def keyPartsWrong : ChangeSpec := { name := "keyParts", fn := fun _ => fun
  | [d1, d2] => { results := [.lit (.bool false)], args := [d1, d2] }
  | _ => none }
def KeyPartsWrongFalsely : Prop := keyPartsRow.holds Try.pinned (OpenSpec.ofChange keyPartsWrong)

/-- 'lamplighterlaw02.KeyMay': WHATEVER THE INPUT: true; the input reads as it did. -/
def keyMaySpec : ChangeSpec := { name := "keyMay", fn := fun _ => fun
  | [d1, d2, d3] => { results := [.lit (.bool true)], args := [d1, d2, d3] }
  | _ => none }
def keyMayRow : OpenClaim := { program := "ytpjnljbfnppmlaa", sum := "c818081587729340bd103337764cb14e915aaff80247afb9f9aa4c6b8c02e27e", func := "lamplighter/lamplighterlaw02.KeyMay", spec := "keyMay", unfollowed := true, recurses := true, apart := false }
def KeyMaySaid : Prop := keyMayRow.holds Try.pinned (OpenSpec.ofChange keyMaySpec)

/-- ITS FALSE NEIGHBOUR: 'it returns false'. Refute it at one input. -/
def keyMayWrong : ChangeSpec := { name := "keyMay", fn := fun _ => fun
  | [d1, d2, d3] => { results := [.lit (.bool false)], args := [d1, d2, d3] }
  | _ => none }
def KeyMayWrongFalsely : Prop := keyMayRow.holds Try.pinned (OpenSpec.ofChange keyMayWrong)

/- THE SECOND FORM. 'bulk': how many values and letters a reading holds, each counted each time it is reached (what is shared counts as often as it is met; a slice's spare places count too). A statement '..UptoSaid' is the law's where the arguments, and the package variables that the reading takes, are together of bulk at most 1048576: NARROWER than '..Said'. Prove '..Said' where nothing that the law and all that it calls make is longer than what came in: it says more and counts as full. Else prove '..UptoSaid'. A law counts once. -/
mutual
def uptoBulk {H : Type} : DataW H → Nat
  | .lit (.string bytes) => bytes.length + 1
  | .lit _ => 1
  | .nil => 1
  | .ptr d => uptoBulk d + 1
  | .slice elems spare => uptoBulkAll elems + uptoBulkAll spare + 1
  | .agg parts => uptoBulkAll parts + 1
  | .iface _ d => uptoBulk d + 1
  | .map entries => uptoBulkEntries entries + 1
  | .held _ => 1
def uptoBulkAll {H : Type} : List (DataW H) → Nat
  | [] => 0
  | d :: r => uptoBulk d + uptoBulkAll r
def uptoBulkEntries {H : Type} : List (Lit × DataW H) → Nat
  | [] => 0
  | x :: r => uptoBulkEntry x + uptoBulkEntries r
def uptoBulkEntry {H : Type} : Lit × DataW H → Nat
  | (.string bytes, d) => bytes.length + uptoBulk d + 1
  | (_, d) => uptoBulk d + 1
 end
def uptoSmall : (H : Type) → List (DataW H) → Bool := fun _ ds => decide (uptoBulkAll ds ≤ 1048576)
def OpenSpec.upto (s : _root_.Go.ChangeSpec) : _root_.Go.OpenSpec := { _root_.Go.OpenSpec.ofChange s with cond := some uptoSmall }

/-- 'lamplighterlaw02.KeyBack', WHERE WHAT IT READS IS OF BULK AT MOST 1048576: true; the input reads as it did. -/
def keyBackUptoRow : OpenClaim := { program := "ytpjnljbfnppmlaa", sum := "c818081587729340bd103337764cb14e915aaff80247afb9f9aa4c6b8c02e27e", func := "lamplighter/lamplighterlaw02.KeyBack", spec := "keyBack", unfollowed := true, recurses := true, apart := false, narrowed := true }
def KeyBackUptoSaid : Prop := keyBackUptoRow.holds Try.pinned (OpenSpec.upto keyBackSpec)

/-- 'lamplighterlaw02.KeyOrder', WHERE WHAT IT READS IS OF BULK AT MOST 1048576: true; the input reads as it did. -/
def keyOrderUptoRow : OpenClaim := { program := "ytpjnljbfnppmlaa", sum := "c818081587729340bd103337764cb14e915aaff80247afb9f9aa4c6b8c02e27e", func := "lamplighter/lamplighterlaw02.KeyOrder", spec := "keyOrder", unfollowed := true, recurses := true, apart := false, narrowed := true }
def KeyOrderUptoSaid : Prop := keyOrderUptoRow.holds Try.pinned (OpenSpec.upto keyOrderSpec)

/-- 'lamplighterlaw02.KeyParts', WHERE WHAT IT READS IS OF BULK AT MOST 1048576: true; the input reads as it did. -/
def keyPartsUptoRow : OpenClaim := { program := "ytpjnljbfnppmlaa", sum := "c818081587729340bd103337764cb14e915aaff80247afb9f9aa4c6b8c02e27e", func := "lamplighter/lamplighterlaw02.KeyParts", spec := "keyParts", unfollowed := true, recurses := true, apart := false, narrowed := true }
def KeyPartsUptoSaid : Prop := keyPartsUptoRow.holds Try.pinned (OpenSpec.upto keyPartsSpec)

/-- 'lamplighterlaw02.KeyMay', WHERE WHAT IT READS IS OF BULK AT MOST 1048576: true; the input reads as it did. -/
def keyMayUptoRow : OpenClaim := { program := "ytpjnljbfnppmlaa", sum := "c818081587729340bd103337764cb14e915aaff80247afb9f9aa4c6b8c02e27e", func := "lamplighter/lamplighterlaw02.KeyMay", spec := "keyMay", unfollowed := true, recurses := true, apart := false, narrowed := true }
def KeyMayUptoSaid : Prop := keyMayUptoRow.holds Try.pinned (OpenSpec.upto keyMaySpec)

end Rows
end Go.Proofs.Ytpjnljbfnppmlaa
