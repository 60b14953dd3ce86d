/-
  No cell of these rows narrows 'for every input' (looked for: loops, veiled, ifaces, maps, wideKeys, modest, calm, conditions, laid).
  DERIVED. THE GIVEN ROWS OF THIS SEAT. 8 by the template 'for every input the law returns true; each argument reads behind the call as it read before'; 0 by the template 'total and deterministic' (their statements: YtmbmfnmjjelmkabGreatTotals.lean).
  GIVEN WITH THE SEED: the statements are not yours to turn. If you find one false, say at which input.
  Laid BY PROGRAM, IN A SANDBOX (cutbox-rows.mjs): the forced cells as the released guide's own fill.sh prints them over the translation c012efd858f3054b… (all of the seat's roots in one cut). By AI agents, Wed Nov 11 2026. No macro, syntax, notation, axiom, sorry.
-/
import Derived.Test.YtmbmfnmjjelmkabGreatChecked
import GoSem.Claim
import GoSem.ClaimJoined
import GoSem.ClaimMapViews
import Derived.JoinedTies
import Derived.KernelRfl
namespace Go.Proofs.YtmbmfnmjjelmkabGreat
/- THE CELL 'sum', in the pinned program and in every row, IS THE sha256 OF THE DUMP (.gsa) THAT YtmbmfnmjjelmkabGreatProg.lean LOADS. Nothing in Lean hashes anything: it is a label: what it is worth is what the hold of that sum in a sandbox is worth. -/
noncomputable def Tryz.pinned : Pinned := { name := "ytmbmfnmjjelmkabgreat", sum := "c012efd858f3054bf95aed42b167c2e3802a5d75c69653ef52d878dd65b79037", checked := Tryz.checked }
namespace Rows
def none {H : Type} : Left H := { results := [], args := [] }

/-- 'lamplighterlaw16.ReadKeeps': WHATEVER THE INPUT: true; the input reads as it did. -/
def readKeepsSpec : ChangeSpec := { name := "readKeeps", fn := fun _ => fun
  | [d1, d2, d3] => { results := [.lit (.bool true)], args := [d1, d2, d3] }
  | _ => none }
def readKeepsRow : OpenClaim := { program := "ytmbmfnmjjelmkabgreat", sum := "c012efd858f3054bf95aed42b167c2e3802a5d75c69653ef52d878dd65b79037", func := "lamplighter/lamplighterlaw16.ReadKeeps", spec := "readKeeps", unfollowed := true, recurses := true, apart := false }
def ReadKeepsSaid : Prop := readKeepsRow.holds Tryz.pinned (OpenSpec.ofChange readKeepsSpec)

/-- ITS FALSE NEIGHBOUR: 'it returns false'. Refute it at one input. -/
def readKeepsWrong : ChangeSpec := { name := "readKeeps", fn := fun _ => fun
  | [d1, d2, d3] => { results := [.lit (.bool false)], args := [d1, d2, d3] }
  | _ => none }
def ReadKeepsWrongFalsely : Prop := readKeepsRow.holds Tryz.pinned (OpenSpec.ofChange readKeepsWrong)

/-- 'lamplighterlaw17.ScanRises': WHATEVER THE INPUT: true; the input reads as it did. -/
def scanRisesSpec : ChangeSpec := { name := "scanRises", fn := fun _ => fun
  | [d1, d2, d3, d4, d5] => { results := [.lit (.bool true)], args := [d1, d2, d3, d4, d5] }
  | _ => none }
def scanRisesRow : OpenClaim := { program := "ytmbmfnmjjelmkabgreat", sum := "c012efd858f3054bf95aed42b167c2e3802a5d75c69653ef52d878dd65b79037", func := "lamplighter/lamplighterlaw17.ScanRises", spec := "scanRises", unfollowed := true, recurses := true, apart := false }
def ScanRisesSaid : Prop := scanRisesRow.holds Tryz.pinned (OpenSpec.ofChange scanRisesSpec)

/-- ITS FALSE NEIGHBOUR: 'it returns false'. Refute it at one input. -/
def scanRisesWrong : ChangeSpec := { name := "scanRises", fn := fun _ => fun
  | [d1, d2, d3, d4, d5] => { results := [.lit (.bool false)], args := [d1, d2, d3, d4, d5] }
  | _ => none }
def ScanRisesWrongFalsely : Prop := scanRisesRow.holds Tryz.pinned (OpenSpec.ofChange scanRisesWrong)

/-- 'lamplighterlaw16.ReadTurns': WHATEVER THE INPUT: true; the input reads as it did. -/
def readTurnsSpec : ChangeSpec := { name := "readTurns", fn := fun _ => fun
  | [d1, d2, d3] => { results := [.lit (.bool true)], args := [d1, d2, d3] }
  | _ => none }
def readTurnsRow : OpenClaim := { program := "ytmbmfnmjjelmkabgreat", sum := "c012efd858f3054bf95aed42b167c2e3802a5d75c69653ef52d878dd65b79037", func := "lamplighter/lamplighterlaw16.ReadTurns", spec := "readTurns", unfollowed := true, recurses := true, apart := false }
def ReadTurnsSaid : Prop := readTurnsRow.holds Tryz.pinned (OpenSpec.ofChange readTurnsSpec)

/-- ITS FALSE NEIGHBOUR: 'it returns false'. Refute it at one input. -/
def readTurnsWrong : ChangeSpec := { name := "readTurns", fn := fun _ => fun
  | [d1, d2, d3] => { results := [.lit (.bool false)], args := [d1, d2, d3] }
  | _ => none }
def ReadTurnsWrongFalsely : Prop := readTurnsRow.holds Tryz.pinned (OpenSpec.ofChange readTurnsWrong)

/-- 'lamplighterlaw16.ReadAgain': WHATEVER THE INPUT: true; the input reads as it did. -/
def readAgainSpec : ChangeSpec := { name := "readAgain", fn := fun _ => fun
  | [d1, d2, d3] => { results := [.lit (.bool true)], args := [d1, d2, d3] }
  | _ => none }
def readAgainRow : OpenClaim := { program := "ytmbmfnmjjelmkabgreat", sum := "c012efd858f3054bf95aed42b167c2e3802a5d75c69653ef52d878dd65b79037", func := "lamplighter/lamplighterlaw16.ReadAgain", spec := "readAgain", unfollowed := true, recurses := true, apart := false }
def ReadAgainSaid : Prop := readAgainRow.holds Tryz.pinned (OpenSpec.ofChange readAgainSpec)

/-- ITS FALSE NEIGHBOUR: 'it returns false'. Refute it at one input. -/
def readAgainWrong : ChangeSpec := { name := "readAgain", fn := fun _ => fun
  | [d1, d2, d3] => { results := [.lit (.bool false)], args := [d1, d2, d3] }
  | _ => none }
def ReadAgainWrongFalsely : Prop := readAgainRow.holds Tryz.pinned (OpenSpec.ofChange readAgainWrong)

/-- 'lamplighterlaw16.ReadAlone': WHATEVER THE INPUT: true; the input reads as it did. -/
def readAloneSpec : ChangeSpec := { name := "readAlone", fn := fun _ => fun
  | [d1, d2] => { results := [.lit (.bool true)], args := [d1, d2] }
  | _ => none }
def readAloneRow : OpenClaim := { program := "ytmbmfnmjjelmkabgreat", sum := "c012efd858f3054bf95aed42b167c2e3802a5d75c69653ef52d878dd65b79037", func := "lamplighter/lamplighterlaw16.ReadAlone", spec := "readAlone", unfollowed := true, recurses := true, apart := false }
def ReadAloneSaid : Prop := readAloneRow.holds Tryz.pinned (OpenSpec.ofChange readAloneSpec)

/-- ITS FALSE NEIGHBOUR: 'it returns false'. Refute it at one input. -/
def readAloneWrong : ChangeSpec := { name := "readAlone", fn := fun _ => fun
  | [d1, d2] => { results := [.lit (.bool false)], args := [d1, d2] }
  | _ => none }
def ReadAloneWrongFalsely : Prop := readAloneRow.holds Tryz.pinned (OpenSpec.ofChange readAloneWrong)

/-- 'lamplighterlaw17.ScanAlone': WHATEVER THE INPUT: true; the input reads as it did. -/
def scanAloneSpec : ChangeSpec := { name := "scanAlone", fn := fun _ => fun
  | [d1, d2, d3, d4] => { results := [.lit (.bool true)], args := [d1, d2, d3, d4] }
  | _ => none }
def scanAloneRow : OpenClaim := { program := "ytmbmfnmjjelmkabgreat", sum := "c012efd858f3054bf95aed42b167c2e3802a5d75c69653ef52d878dd65b79037", func := "lamplighter/lamplighterlaw17.ScanAlone", spec := "scanAlone", unfollowed := true, recurses := true, apart := false }
def ScanAloneSaid : Prop := scanAloneRow.holds Tryz.pinned (OpenSpec.ofChange scanAloneSpec)

/-- ITS FALSE NEIGHBOUR: 'it returns false'. Refute it at one input. -/
def scanAloneWrong : ChangeSpec := { name := "scanAlone", fn := fun _ => fun
  | [d1, d2, d3, d4] => { results := [.lit (.bool false)], args := [d1, d2, d3, d4] }
  | _ => none }
def ScanAloneWrongFalsely : Prop := scanAloneRow.holds Tryz.pinned (OpenSpec.ofChange scanAloneWrong)

/-- 'lamplighterlaw17.ScanParts': WHATEVER THE INPUT: true; the input reads as it did. -/
def scanPartsSpec : ChangeSpec := { name := "scanParts", fn := fun _ => fun
  | [d1, d2, d3, d4] => { results := [.lit (.bool true)], args := [d1, d2, d3, d4] }
  | _ => none }
def scanPartsRow : OpenClaim := { program := "ytmbmfnmjjelmkabgreat", sum := "c012efd858f3054bf95aed42b167c2e3802a5d75c69653ef52d878dd65b79037", func := "lamplighter/lamplighterlaw17.ScanParts", spec := "scanParts", unfollowed := true, recurses := true, apart := false }
def ScanPartsSaid : Prop := scanPartsRow.holds Tryz.pinned (OpenSpec.ofChange scanPartsSpec)

/-- ITS FALSE NEIGHBOUR: 'it returns false'. Refute it at one input. -/
def scanPartsWrong : ChangeSpec := { name := "scanParts", fn := fun _ => fun
  | [d1, d2, d3, d4] => { results := [.lit (.bool false)], args := [d1, d2, d3, d4] }
  | _ => none }
def ScanPartsWrongFalsely : Prop := scanPartsRow.holds Tryz.pinned (OpenSpec.ofChange scanPartsWrong)

/-- 'lamplighterlaw17.ScanMore': WHATEVER THE INPUT: true; the input reads as it did. -/
def scanMoreSpec : ChangeSpec := { name := "scanMore", fn := fun _ => fun
  | [d1, d2, d3, d4] => { results := [.lit (.bool true)], args := [d1, d2, d3, d4] }
  | _ => none }
def scanMoreRow : OpenClaim := { program := "ytmbmfnmjjelmkabgreat", sum := "c012efd858f3054bf95aed42b167c2e3802a5d75c69653ef52d878dd65b79037", func := "lamplighter/lamplighterlaw17.ScanMore", spec := "scanMore", unfollowed := true, recurses := true, apart := false }
def ScanMoreSaid : Prop := scanMoreRow.holds Tryz.pinned (OpenSpec.ofChange scanMoreSpec)

/-- ITS FALSE NEIGHBOUR: 'it returns false'. Refute it at one input. -/
def scanMoreWrong : ChangeSpec := { name := "scanMore", fn := fun _ => fun
  | [d1, d2, d3, d4] => { results := [.lit (.bool false)], args := [d1, d2, d3, d4] }
  | _ => none }
def ScanMoreWrongFalsely : Prop := scanMoreRow.holds Tryz.pinned (OpenSpec.ofChange scanMoreWrong)

/- THE SECOND FORM. 'bulk': how many values and letters a reading holds, each counted each time it is reached (what is shared counts as often as it is met; a slice's spare places count too). A statement '..UptoSaid' is the law's where the arguments, and the package variables that the reading takes, are together of bulk at most 1048576: NARROWER than '..Said'. Prove '..Said' where nothing that the law and all that it calls make is longer than what came in: it says more and counts as full. Else prove '..UptoSaid'. A law counts once. -/
mutual
def uptoBulk {H : Type} : DataW H → Nat
  | .lit (.string bytes) => bytes.length + 1
  | .lit _ => 1
  | .nil => 1
  | .ptr d => uptoBulk d + 1
  | .slice elems spare => uptoBulkAll elems + uptoBulkAll spare + 1
  | .agg parts => uptoBulkAll parts + 1
  | .iface _ d => uptoBulk d + 1
  | .map entries => uptoBulkEntries entries + 1
  | .held _ => 1
def uptoBulkAll {H : Type} : List (DataW H) → Nat
  | [] => 0
  | d :: r => uptoBulk d + uptoBulkAll r
def uptoBulkEntries {H : Type} : List (Lit × DataW H) → Nat
  | [] => 0
  | x :: r => uptoBulkEntry x + uptoBulkEntries r
def uptoBulkEntry {H : Type} : Lit × DataW H → Nat
  | (.string bytes, d) => bytes.length + uptoBulk d + 1
  | (_, d) => uptoBulk d + 1
 end
def uptoSmall : (H : Type) → List (DataW H) → Bool := fun _ ds => decide (uptoBulkAll ds ≤ 1048576)
def OpenSpec.upto (s : _root_.Go.ChangeSpec) : _root_.Go.OpenSpec := { _root_.Go.OpenSpec.ofChange s with cond := some uptoSmall }

/-- 'lamplighterlaw16.ReadKeeps', WHERE WHAT IT READS IS OF BULK AT MOST 1048576: true; the input reads as it did. -/
def readKeepsUptoRow : OpenClaim := { program := "ytmbmfnmjjelmkabgreat", sum := "c012efd858f3054bf95aed42b167c2e3802a5d75c69653ef52d878dd65b79037", func := "lamplighter/lamplighterlaw16.ReadKeeps", spec := "readKeeps", unfollowed := true, recurses := true, apart := false, narrowed := true }
def ReadKeepsUptoSaid : Prop := readKeepsUptoRow.holds Tryz.pinned (OpenSpec.upto readKeepsSpec)

/-- 'lamplighterlaw17.ScanRises', WHERE WHAT IT READS IS OF BULK AT MOST 1048576: true; the input reads as it did. -/
def scanRisesUptoRow : OpenClaim := { program := "ytmbmfnmjjelmkabgreat", sum := "c012efd858f3054bf95aed42b167c2e3802a5d75c69653ef52d878dd65b79037", func := "lamplighter/lamplighterlaw17.ScanRises", spec := "scanRises", unfollowed := true, recurses := true, apart := false, narrowed := true }
def ScanRisesUptoSaid : Prop := scanRisesUptoRow.holds Tryz.pinned (OpenSpec.upto scanRisesSpec)

/-- 'lamplighterlaw16.ReadTurns', WHERE WHAT IT READS IS OF BULK AT MOST 1048576: true; the input reads as it did. -/
def readTurnsUptoRow : OpenClaim := { program := "ytmbmfnmjjelmkabgreat", sum := "c012efd858f3054bf95aed42b167c2e3802a5d75c69653ef52d878dd65b79037", func := "lamplighter/lamplighterlaw16.ReadTurns", spec := "readTurns", unfollowed := true, recurses := true, apart := false, narrowed := true }
def ReadTurnsUptoSaid : Prop := readTurnsUptoRow.holds Tryz.pinned (OpenSpec.upto readTurnsSpec)

/-- 'lamplighterlaw16.ReadAgain', WHERE WHAT IT READS IS OF BULK AT MOST 1048576: true; the input reads as it did. -/
def readAgainUptoRow : OpenClaim := { program := "ytmbmfnmjjelmkabgreat", sum := "c012efd858f3054bf95aed42b167c2e3802a5d75c69653ef52d878dd65b79037", func := "lamplighter/lamplighterlaw16.ReadAgain", spec := "readAgain", unfollowed := true, recurses := true, apart := false, narrowed := true }
def ReadAgainUptoSaid : Prop := readAgainUptoRow.holds Tryz.pinned (OpenSpec.upto readAgainSpec)

/-- 'lamplighterlaw16.ReadAlone', WHERE WHAT IT READS IS OF BULK AT MOST 1048576: true; the input reads as it did. -/
def readAloneUptoRow : OpenClaim := { program := "ytmbmfnmjjelmkabgreat", sum := "c012efd858f3054bf95aed42b167c2e3802a5d75c69653ef52d878dd65b79037", func := "lamplighter/lamplighterlaw16.ReadAlone", spec := "readAlone", unfollowed := true, recurses := true, apart := false, narrowed := true }
def ReadAloneUptoSaid : Prop := readAloneUptoRow.holds Tryz.pinned (OpenSpec.upto readAloneSpec)

/-- 'lamplighterlaw17.ScanAlone', WHERE WHAT IT READS IS OF BULK AT MOST 1048576: true; the input reads as it did. -/
def scanAloneUptoRow : OpenClaim := { program := "ytmbmfnmjjelmkabgreat", sum := "c012efd858f3054bf95aed42b167c2e3802a5d75c69653ef52d878dd65b79037", func := "lamplighter/lamplighterlaw17.ScanAlone", spec := "scanAlone", unfollowed := true, recurses := true, apart := false, narrowed := true }
def ScanAloneUptoSaid : Prop := scanAloneUptoRow.holds Tryz.pinned (OpenSpec.upto scanAloneSpec)

/-- 'lamplighterlaw17.ScanParts', WHERE WHAT IT READS IS OF BULK AT MOST 1048576: true; the input reads as it did. -/
def scanPartsUptoRow : OpenClaim := { program := "ytmbmfnmjjelmkabgreat", sum := "c012efd858f3054bf95aed42b167c2e3802a5d75c69653ef52d878dd65b79037", func := "lamplighter/lamplighterlaw17.ScanParts", spec := "scanParts", unfollowed := true, recurses := true, apart := false, narrowed := true }
def ScanPartsUptoSaid : Prop := scanPartsUptoRow.holds Tryz.pinned (OpenSpec.upto scanPartsSpec)

/-- 'lamplighterlaw17.ScanMore', WHERE WHAT IT READS IS OF BULK AT MOST 1048576: true; the input reads as it did. -/
def scanMoreUptoRow : OpenClaim := { program := "ytmbmfnmjjelmkabgreat", sum := "c012efd858f3054bf95aed42b167c2e3802a5d75c69653ef52d878dd65b79037", func := "lamplighter/lamplighterlaw17.ScanMore", spec := "scanMore", unfollowed := true, recurses := true, apart := false, narrowed := true }
def ScanMoreUptoSaid : Prop := scanMoreUptoRow.holds Tryz.pinned (OpenSpec.upto scanMoreSpec)

end Rows
end Go.Proofs.YtmbmfnmjjelmkabGreat
