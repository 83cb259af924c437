/-
  No cell of these rows narrows 'for every input' (looked for: loops, veiled, ifaces, maps, wideKeys, modest, calm, conditions, laid).
  DERIVED. THE GIVEN ROWS OF THIS SEAT. 15 by the template 'for every input the law returns true; each argument reads behind the call as it read before'; 0 by the template 'total and deterministic' (their statements: YtjagedcaemckfaaTotals.lean).
  GIVEN WITH THE SEED: the statements are not yours to turn. If you find one false, say at which input.
  Laid BY PROGRAM, IN A SANDBOX (cutbox-rows.mjs): the forced cells as the released guide's own fill.sh prints them over the translation ce8570f09b77f789… (all of the seat's roots in one cut). By AI agents, Wed Nov 11 2026. No macro, syntax, notation, axiom, sorry.
-/
import Derived.Test.YtjagedcaemckfaaChecked
import GoSem.Claim
import GoSem.ClaimJoined
import GoSem.ClaimMapViews
import Derived.JoinedTies
import Derived.KernelRfl
namespace Go.Proofs.Ytjagedcaemckfaa
/- THE CELL 'sum', in the pinned program and in every row, IS THE sha256 OF THE DUMP (.gsa) THAT YtjagedcaemckfaaProg.lean LOADS. Nothing in Lean hashes anything: it is a label: what it is worth is what the hold of that sum in a sandbox is worth. -/
noncomputable def Try.pinned : Pinned := { name := "ytjagedcaemckfaa", sum := "ce8570f09b77f78938fd46c7137d78a73077e3c60adeba2a38dcf7783f13729b", checked := Try.checked }
namespace Rows
def none {H : Type} : Left H := { results := [], args := [] }

/-- 'fuseelaw1.SumTells': WHATEVER THE INPUT: true; the input reads as it did. -/
def sumTellsSpec : ChangeSpec := { name := "sumTells", fn := fun _ => fun
  | [d1, d2] => { results := [.lit (.bool true)], args := [d1, d2] }
  | _ => none }
def sumTellsRow : OpenClaim := { program := "ytjagedcaemckfaa", sum := "ce8570f09b77f78938fd46c7137d78a73077e3c60adeba2a38dcf7783f13729b", func := "fusee/fuseelaw1.SumTells", spec := "sumTells", apart := false }
def SumTellsSaid : Prop := sumTellsRow.holds Try.pinned (OpenSpec.ofChange sumTellsSpec)

/-- ITS FALSE NEIGHBOUR: 'it returns false'. Refute it at one input. -/
def sumTellsWrong : ChangeSpec := { name := "sumTells", fn := fun _ => fun
  | [d1, d2] => { results := [.lit (.bool false)], args := [d1, d2] }
  | _ => none }
def SumTellsWrongFalsely : Prop := sumTellsRow.holds Try.pinned (OpenSpec.ofChange sumTellsWrong)

/-- 'fuseelaw1.SumJoins': WHATEVER THE INPUT: true; the input reads as it did. -/
def sumJoinsSpec : ChangeSpec := { name := "sumJoins", fn := fun _ => fun
  | [d1, d2] => { results := [.lit (.bool true)], args := [d1, d2] }
  | _ => none }
def sumJoinsRow : OpenClaim := { program := "ytjagedcaemckfaa", sum := "ce8570f09b77f78938fd46c7137d78a73077e3c60adeba2a38dcf7783f13729b", func := "fusee/fuseelaw1.SumJoins", spec := "sumJoins", apart := false }
def SumJoinsSaid : Prop := sumJoinsRow.holds Try.pinned (OpenSpec.ofChange sumJoinsSpec)

/-- ITS FALSE NEIGHBOUR: 'it returns false'. Refute it at one input. -/
def sumJoinsWrong : ChangeSpec := { name := "sumJoins", fn := fun _ => fun
  | [d1, d2] => { results := [.lit (.bool false)], args := [d1, d2] }
  | _ => none }
def SumJoinsWrongFalsely : Prop := sumJoinsRow.holds Try.pinned (OpenSpec.ofChange sumJoinsWrong)

/-- 'fuseelaw1.SumTurns': WHATEVER THE INPUT: true; the input reads as it did. -/
def sumTurnsSpec : ChangeSpec := { name := "sumTurns", fn := fun _ => fun
  | [d1, d2, d3] => { results := [.lit (.bool true)], args := [d1, d2, d3] }
  | _ => none }
def sumTurnsRow : OpenClaim := { program := "ytjagedcaemckfaa", sum := "ce8570f09b77f78938fd46c7137d78a73077e3c60adeba2a38dcf7783f13729b", func := "fusee/fuseelaw1.SumTurns", spec := "sumTurns", apart := false }
def SumTurnsSaid : Prop := sumTurnsRow.holds Try.pinned (OpenSpec.ofChange sumTurnsSpec)

/-- ITS FALSE NEIGHBOUR: 'it returns false'. Refute it at one input. -/
def sumTurnsWrong : ChangeSpec := { name := "sumTurns", fn := fun _ => fun
  | [d1, d2, d3] => { results := [.lit (.bool false)], args := [d1, d2, d3] }
  | _ => none }
def SumTurnsWrongFalsely : Prop := sumTurnsRow.holds Try.pinned (OpenSpec.ofChange sumTurnsWrong)

/-- 'fuseelaw1.SumSteps': WHATEVER THE INPUT: true; the input reads as it did. -/
def sumStepsSpec : ChangeSpec := { name := "sumSteps", fn := fun _ => fun
  | [d] => { results := [.lit (.bool true)], args := [d] }
  | _ => none }
def sumStepsRow : OpenClaim := { program := "ytjagedcaemckfaa", sum := "ce8570f09b77f78938fd46c7137d78a73077e3c60adeba2a38dcf7783f13729b", func := "fusee/fuseelaw1.SumSteps", spec := "sumSteps", apart := false }
def SumStepsSaid : Prop := sumStepsRow.holds Try.pinned (OpenSpec.ofChange sumStepsSpec)

/-- ITS FALSE NEIGHBOUR: 'it returns false'. Refute it at one input. -/
def sumStepsWrong : ChangeSpec := { name := "sumSteps", fn := fun _ => fun
  | [d] => { results := [.lit (.bool false)], args := [d] }
  | _ => none }
def SumStepsWrongFalsely : Prop := sumStepsRow.holds Try.pinned (OpenSpec.ofChange sumStepsWrong)

/-- 'fuseelaw11.PlaceTells': WHATEVER THE INPUT: true; the input reads as it did. -/
def placeTellsSpec : ChangeSpec := { name := "placeTells", fn := fun _ => fun
  | [d] => { results := [.lit (.bool true)], args := [d] }
  | _ => none }
def placeTellsRow : OpenClaim := { program := "ytjagedcaemckfaa", sum := "ce8570f09b77f78938fd46c7137d78a73077e3c60adeba2a38dcf7783f13729b", func := "fusee/fuseelaw11.PlaceTells", spec := "placeTells", apart := false }
def PlaceTellsSaid : Prop := placeTellsRow.holds Try.pinned (OpenSpec.ofChange placeTellsSpec)

/-- ITS FALSE NEIGHBOUR: 'it returns false'. Refute it at one input. -/
def placeTellsWrong : ChangeSpec := { name := "placeTells", fn := fun _ => fun
  | [d] => { results := [.lit (.bool false)], args := [d] }
  | _ => none }
def PlaceTellsWrongFalsely : Prop := placeTellsRow.holds Try.pinned (OpenSpec.ofChange placeTellsWrong)

/-- 'fuseelaw11.PlaceBounds': WHATEVER THE INPUT: true; the input reads as it did. -/
def placeBoundsSpec : ChangeSpec := { name := "placeBounds", fn := fun _ => fun
  | [d] => { results := [.lit (.bool true)], args := [d] }
  | _ => none }
def placeBoundsRow : OpenClaim := { program := "ytjagedcaemckfaa", sum := "ce8570f09b77f78938fd46c7137d78a73077e3c60adeba2a38dcf7783f13729b", func := "fusee/fuseelaw11.PlaceBounds", spec := "placeBounds", apart := false }
def PlaceBoundsSaid : Prop := placeBoundsRow.holds Try.pinned (OpenSpec.ofChange placeBoundsSpec)

/-- ITS FALSE NEIGHBOUR: 'it returns false'. Refute it at one input. -/
def placeBoundsWrong : ChangeSpec := { name := "placeBounds", fn := fun _ => fun
  | [d] => { results := [.lit (.bool false)], args := [d] }
  | _ => none }
def PlaceBoundsWrongFalsely : Prop := placeBoundsRow.holds Try.pinned (OpenSpec.ofChange placeBoundsWrong)

/-- 'fuseelaw2.CodePuts': WHATEVER THE INPUT: true; the input reads as it did. -/
def codePutsSpec : ChangeSpec := { name := "codePuts", fn := fun _ => fun
  | [d1, d2, d3, d4] => { results := [.lit (.bool true)], args := [d1, d2, d3, d4] }
  | _ => none }
def codePutsRow : OpenClaim := { program := "ytjagedcaemckfaa", sum := "ce8570f09b77f78938fd46c7137d78a73077e3c60adeba2a38dcf7783f13729b", func := "fusee/fuseelaw2.CodePuts", spec := "codePuts", apart := false }
def CodePutsSaid : Prop := codePutsRow.holds Try.pinned (OpenSpec.ofChange codePutsSpec)

/-- ITS FALSE NEIGHBOUR: 'it returns false'. Refute it at one input. -/
def codePutsWrong : ChangeSpec := { name := "codePuts", fn := fun _ => fun
  | [d1, d2, d3, d4] => { results := [.lit (.bool false)], args := [d1, d2, d3, d4] }
  | _ => none }
def CodePutsWrongFalsely : Prop := codePutsRow.holds Try.pinned (OpenSpec.ofChange codePutsWrong)

/-- 'fuseelaw2.CodeGets': WHATEVER THE INPUT: true; the input reads as it did. -/
def codeGetsSpec : ChangeSpec := { name := "codeGets", fn := fun _ => fun
  | [d1, d2, d3] => { results := [.lit (.bool true)], args := [d1, d2, d3] }
  | _ => none }
def codeGetsRow : OpenClaim := { program := "ytjagedcaemckfaa", sum := "ce8570f09b77f78938fd46c7137d78a73077e3c60adeba2a38dcf7783f13729b", func := "fusee/fuseelaw2.CodeGets", spec := "codeGets", apart := false }
def CodeGetsSaid : Prop := codeGetsRow.holds Try.pinned (OpenSpec.ofChange codeGetsSpec)

/-- ITS FALSE NEIGHBOUR: 'it returns false'. Refute it at one input. -/
def codeGetsWrong : ChangeSpec := { name := "codeGets", fn := fun _ => fun
  | [d1, d2, d3] => { results := [.lit (.bool false)], args := [d1, d2, d3] }
  | _ => none }
def CodeGetsWrongFalsely : Prop := codeGetsRow.holds Try.pinned (OpenSpec.ofChange codeGetsWrong)

/-- 'fuseelaw2.CodeBack': WHATEVER THE INPUT: true; the input reads as it did. -/
def codeBackSpec : ChangeSpec := { name := "codeBack", fn := fun _ => fun
  | [d1, d2, d3, d4] => { results := [.lit (.bool true)], args := [d1, d2, d3, d4] }
  | _ => none }
def codeBackRow : OpenClaim := { program := "ytjagedcaemckfaa", sum := "ce8570f09b77f78938fd46c7137d78a73077e3c60adeba2a38dcf7783f13729b", func := "fusee/fuseelaw2.CodeBack", spec := "codeBack", apart := false }
def CodeBackSaid : Prop := codeBackRow.holds Try.pinned (OpenSpec.ofChange codeBackSpec)

/-- ITS FALSE NEIGHBOUR: 'it returns false'. Refute it at one input. -/
def codeBackWrong : ChangeSpec := { name := "codeBack", fn := fun _ => fun
  | [d1, d2, d3, d4] => { results := [.lit (.bool false)], args := [d1, d2, d3, d4] }
  | _ => none }
def CodeBackWrongFalsely : Prop := codeBackRow.holds Try.pinned (OpenSpec.ofChange codeBackWrong)

/-- 'fuseelaw2.CodeRoom': WHATEVER THE INPUT: true; the input reads as it did. -/
def codeRoomSpec : ChangeSpec := { name := "codeRoom", fn := fun _ => fun
  | [d1, d2] => { results := [.lit (.bool true)], args := [d1, d2] }
  | _ => none }
def codeRoomRow : OpenClaim := { program := "ytjagedcaemckfaa", sum := "ce8570f09b77f78938fd46c7137d78a73077e3c60adeba2a38dcf7783f13729b", func := "fusee/fuseelaw2.CodeRoom", spec := "codeRoom", apart := false }
def CodeRoomSaid : Prop := codeRoomRow.holds Try.pinned (OpenSpec.ofChange codeRoomSpec)

/-- ITS FALSE NEIGHBOUR: 'it returns false'. Refute it at one input. -/
def codeRoomWrong : ChangeSpec := { name := "codeRoom", fn := fun _ => fun
  | [d1, d2] => { results := [.lit (.bool false)], args := [d1, d2] }
  | _ => none }
def CodeRoomWrongFalsely : Prop := codeRoomRow.holds Try.pinned (OpenSpec.ofChange codeRoomWrong)

/-- 'fuseelaw2.CodeZeros': WHATEVER THE INPUT: true; the input reads as it did. -/
def codeZerosSpec : ChangeSpec := { name := "codeZeros", fn := fun _ => fun
  | [d1, d2, d3] => { results := [.lit (.bool true)], args := [d1, d2, d3] }
  | _ => none }
def codeZerosRow : OpenClaim := { program := "ytjagedcaemckfaa", sum := "ce8570f09b77f78938fd46c7137d78a73077e3c60adeba2a38dcf7783f13729b", func := "fusee/fuseelaw2.CodeZeros", spec := "codeZeros", apart := false }
def CodeZerosSaid : Prop := codeZerosRow.holds Try.pinned (OpenSpec.ofChange codeZerosSpec)

/-- ITS FALSE NEIGHBOUR: 'it returns false'. Refute it at one input. -/
def codeZerosWrong : ChangeSpec := { name := "codeZeros", fn := fun _ => fun
  | [d1, d2, d3] => { results := [.lit (.bool false)], args := [d1, d2, d3] }
  | _ => none }
def CodeZerosWrongFalsely : Prop := codeZerosRow.holds Try.pinned (OpenSpec.ofChange codeZerosWrong)

/-- 'fuseelaw5.ClassTells': WHATEVER THE INPUT: true; the input reads as it did. -/
def classTellsSpec : ChangeSpec := { name := "classTells", fn := fun _ => fun
  | [d1, d2] => { results := [.lit (.bool true)], args := [d1, d2] }
  | _ => none }
def classTellsRow : OpenClaim := { program := "ytjagedcaemckfaa", sum := "ce8570f09b77f78938fd46c7137d78a73077e3c60adeba2a38dcf7783f13729b", func := "fusee/fuseelaw5.ClassTells", spec := "classTells", apart := false }
def ClassTellsSaid : Prop := classTellsRow.holds Try.pinned (OpenSpec.ofChange classTellsSpec)

/-- ITS FALSE NEIGHBOUR: 'it returns false'. Refute it at one input. -/
def classTellsWrong : ChangeSpec := { name := "classTells", fn := fun _ => fun
  | [d1, d2] => { results := [.lit (.bool false)], args := [d1, d2] }
  | _ => none }
def ClassTellsWrongFalsely : Prop := classTellsRow.holds Try.pinned (OpenSpec.ofChange classTellsWrong)

/-- 'fuseelaw5.ClassStarts': WHATEVER THE INPUT: true; the input reads as it did. -/
def classStartsSpec : ChangeSpec := { name := "classStarts", fn := fun _ => fun
  | [d1, d2, d3] => { results := [.lit (.bool true)], args := [d1, d2, d3] }
  | _ => none }
def classStartsRow : OpenClaim := { program := "ytjagedcaemckfaa", sum := "ce8570f09b77f78938fd46c7137d78a73077e3c60adeba2a38dcf7783f13729b", func := "fusee/fuseelaw5.ClassStarts", spec := "classStarts", apart := false }
def ClassStartsSaid : Prop := classStartsRow.holds Try.pinned (OpenSpec.ofChange classStartsSpec)

/-- ITS FALSE NEIGHBOUR: 'it returns false'. Refute it at one input. -/
def classStartsWrong : ChangeSpec := { name := "classStarts", fn := fun _ => fun
  | [d1, d2, d3] => { results := [.lit (.bool false)], args := [d1, d2, d3] }
  | _ => none }
def ClassStartsWrongFalsely : Prop := classStartsRow.holds Try.pinned (OpenSpec.ofChange classStartsWrong)

/-- 'fuseelaw5.ClassLeast': WHATEVER THE INPUT: true; the input reads as it did. -/
def classLeastSpec : ChangeSpec := { name := "classLeast", fn := fun _ => fun
  | [d] => { results := [.lit (.bool true)], args := [d] }
  | _ => none }
def classLeastRow : OpenClaim := { program := "ytjagedcaemckfaa", sum := "ce8570f09b77f78938fd46c7137d78a73077e3c60adeba2a38dcf7783f13729b", func := "fusee/fuseelaw5.ClassLeast", spec := "classLeast", apart := false }
def ClassLeastSaid : Prop := classLeastRow.holds Try.pinned (OpenSpec.ofChange classLeastSpec)

/-- ITS FALSE NEIGHBOUR: 'it returns false'. Refute it at one input. -/
def classLeastWrong : ChangeSpec := { name := "classLeast", fn := fun _ => fun
  | [d] => { results := [.lit (.bool false)], args := [d] }
  | _ => none }
def ClassLeastWrongFalsely : Prop := classLeastRow.holds Try.pinned (OpenSpec.ofChange classLeastWrong)

/-- 'fuseelaw5.ClassFills': WHATEVER THE INPUT: true; the input reads as it did. -/
def classFillsSpec : ChangeSpec := { name := "classFills", fn := fun _ => fun
  | [d1, d2] => { results := [.lit (.bool true)], args := [d1, d2] }
  | _ => none }
def classFillsRow : OpenClaim := { program := "ytjagedcaemckfaa", sum := "ce8570f09b77f78938fd46c7137d78a73077e3c60adeba2a38dcf7783f13729b", func := "fusee/fuseelaw5.ClassFills", spec := "classFills", apart := false }
def ClassFillsSaid : Prop := classFillsRow.holds Try.pinned (OpenSpec.ofChange classFillsSpec)

/-- ITS FALSE NEIGHBOUR: 'it returns false'. Refute it at one input. -/
def classFillsWrong : ChangeSpec := { name := "classFills", fn := fun _ => fun
  | [d1, d2] => { results := [.lit (.bool false)], args := [d1, d2] }
  | _ => none }
def ClassFillsWrongFalsely : Prop := classFillsRow.holds Try.pinned (OpenSpec.ofChange classFillsWrong)

/- THE SECOND FORM. 'bulk': how many values and letters a reading holds, each counted each time it is reached (what is shared counts as often as it is met; a slice's spare places count too). A statement '..UptoSaid' is the law's where the arguments, and the package variables that the reading takes, are together of bulk at most 1048576: NARROWER than '..Said'. Prove '..Said' where nothing that the law and all that it calls make is longer than what came in: it says more and counts as full. Else prove '..UptoSaid'. A law counts once. -/
mutual
def uptoBulk {H : Type} : DataW H → Nat
  | .lit (.string bytes) => bytes.length + 1
  | .lit _ => 1
  | .nil => 1
  | .ptr d => uptoBulk d + 1
  | .slice elems spare => uptoBulkAll elems + uptoBulkAll spare + 1
  | .agg parts => uptoBulkAll parts + 1
  | .iface _ d => uptoBulk d + 1
  | .map entries => uptoBulkEntries entries + 1
  | .held _ => 1
def uptoBulkAll {H : Type} : List (DataW H) → Nat
  | [] => 0
  | d :: r => uptoBulk d + uptoBulkAll r
def uptoBulkEntries {H : Type} : List (Lit × DataW H) → Nat
  | [] => 0
  | x :: r => uptoBulkEntry x + uptoBulkEntries r
def uptoBulkEntry {H : Type} : Lit × DataW H → Nat
  | (.string bytes, d) => bytes.length + uptoBulk d + 1
  | (_, d) => uptoBulk d + 1
 end
def uptoSmall : (H : Type) → List (DataW H) → Bool := fun _ ds => decide (uptoBulkAll ds ≤ 1048576)
def OpenSpec.upto (s : _root_.Go.ChangeSpec) : _root_.Go.OpenSpec := { _root_.Go.OpenSpec.ofChange s with cond := some uptoSmall }

/-- 'fuseelaw1.SumTells', WHERE WHAT IT READS IS OF BULK AT MOST 1048576: true; the input reads as it did. -/
def sumTellsUptoRow : OpenClaim := { program := "ytjagedcaemckfaa", sum := "ce8570f09b77f78938fd46c7137d78a73077e3c60adeba2a38dcf7783f13729b", func := "fusee/fuseelaw1.SumTells", spec := "sumTells", apart := false, narrowed := true }
def SumTellsUptoSaid : Prop := sumTellsUptoRow.holds Try.pinned (OpenSpec.upto sumTellsSpec)

/-- 'fuseelaw1.SumJoins', WHERE WHAT IT READS IS OF BULK AT MOST 1048576: true; the input reads as it did. -/
def sumJoinsUptoRow : OpenClaim := { program := "ytjagedcaemckfaa", sum := "ce8570f09b77f78938fd46c7137d78a73077e3c60adeba2a38dcf7783f13729b", func := "fusee/fuseelaw1.SumJoins", spec := "sumJoins", apart := false, narrowed := true }
def SumJoinsUptoSaid : Prop := sumJoinsUptoRow.holds Try.pinned (OpenSpec.upto sumJoinsSpec)

/-- 'fuseelaw1.SumTurns', WHERE WHAT IT READS IS OF BULK AT MOST 1048576: true; the input reads as it did. -/
def sumTurnsUptoRow : OpenClaim := { program := "ytjagedcaemckfaa", sum := "ce8570f09b77f78938fd46c7137d78a73077e3c60adeba2a38dcf7783f13729b", func := "fusee/fuseelaw1.SumTurns", spec := "sumTurns", apart := false, narrowed := true }
def SumTurnsUptoSaid : Prop := sumTurnsUptoRow.holds Try.pinned (OpenSpec.upto sumTurnsSpec)

/-- 'fuseelaw1.SumSteps', WHERE WHAT IT READS IS OF BULK AT MOST 1048576: true; the input reads as it did. -/
def sumStepsUptoRow : OpenClaim := { program := "ytjagedcaemckfaa", sum := "ce8570f09b77f78938fd46c7137d78a73077e3c60adeba2a38dcf7783f13729b", func := "fusee/fuseelaw1.SumSteps", spec := "sumSteps", apart := false, narrowed := true }
def SumStepsUptoSaid : Prop := sumStepsUptoRow.holds Try.pinned (OpenSpec.upto sumStepsSpec)

/-- 'fuseelaw11.PlaceTells', WHERE WHAT IT READS IS OF BULK AT MOST 1048576: true; the input reads as it did. -/
def placeTellsUptoRow : OpenClaim := { program := "ytjagedcaemckfaa", sum := "ce8570f09b77f78938fd46c7137d78a73077e3c60adeba2a38dcf7783f13729b", func := "fusee/fuseelaw11.PlaceTells", spec := "placeTells", apart := false, narrowed := true }
def PlaceTellsUptoSaid : Prop := placeTellsUptoRow.holds Try.pinned (OpenSpec.upto placeTellsSpec)

/-- 'fuseelaw11.PlaceBounds', WHERE WHAT IT READS IS OF BULK AT MOST 1048576: true; the input reads as it did. -/
def placeBoundsUptoRow : OpenClaim := { program := "ytjagedcaemckfaa", sum := "ce8570f09b77f78938fd46c7137d78a73077e3c60adeba2a38dcf7783f13729b", func := "fusee/fuseelaw11.PlaceBounds", spec := "placeBounds", apart := false, narrowed := true }
def PlaceBoundsUptoSaid : Prop := placeBoundsUptoRow.holds Try.pinned (OpenSpec.upto placeBoundsSpec)

/-- 'fuseelaw2.CodePuts', WHERE WHAT IT READS IS OF BULK AT MOST 1048576: true; the input reads as it did. -/
def codePutsUptoRow : OpenClaim := { program := "ytjagedcaemckfaa", sum := "ce8570f09b77f78938fd46c7137d78a73077e3c60adeba2a38dcf7783f13729b", func := "fusee/fuseelaw2.CodePuts", spec := "codePuts", apart := false, narrowed := true }
def CodePutsUptoSaid : Prop := codePutsUptoRow.holds Try.pinned (OpenSpec.upto codePutsSpec)

/-- 'fuseelaw2.CodeGets', WHERE WHAT IT READS IS OF BULK AT MOST 1048576: true; the input reads as it did. -/
def codeGetsUptoRow : OpenClaim := { program := "ytjagedcaemckfaa", sum := "ce8570f09b77f78938fd46c7137d78a73077e3c60adeba2a38dcf7783f13729b", func := "fusee/fuseelaw2.CodeGets", spec := "codeGets", apart := false, narrowed := true }
def CodeGetsUptoSaid : Prop := codeGetsUptoRow.holds Try.pinned (OpenSpec.upto codeGetsSpec)

/-- 'fuseelaw2.CodeBack', WHERE WHAT IT READS IS OF BULK AT MOST 1048576: true; the input reads as it did. -/
def codeBackUptoRow : OpenClaim := { program := "ytjagedcaemckfaa", sum := "ce8570f09b77f78938fd46c7137d78a73077e3c60adeba2a38dcf7783f13729b", func := "fusee/fuseelaw2.CodeBack", spec := "codeBack", apart := false, narrowed := true }
def CodeBackUptoSaid : Prop := codeBackUptoRow.holds Try.pinned (OpenSpec.upto codeBackSpec)

/-- 'fuseelaw2.CodeRoom', WHERE WHAT IT READS IS OF BULK AT MOST 1048576: true; the input reads as it did. -/
def codeRoomUptoRow : OpenClaim := { program := "ytjagedcaemckfaa", sum := "ce8570f09b77f78938fd46c7137d78a73077e3c60adeba2a38dcf7783f13729b", func := "fusee/fuseelaw2.CodeRoom", spec := "codeRoom", apart := false, narrowed := true }
def CodeRoomUptoSaid : Prop := codeRoomUptoRow.holds Try.pinned (OpenSpec.upto codeRoomSpec)

/-- 'fuseelaw2.CodeZeros', WHERE WHAT IT READS IS OF BULK AT MOST 1048576: true; the input reads as it did. -/
def codeZerosUptoRow : OpenClaim := { program := "ytjagedcaemckfaa", sum := "ce8570f09b77f78938fd46c7137d78a73077e3c60adeba2a38dcf7783f13729b", func := "fusee/fuseelaw2.CodeZeros", spec := "codeZeros", apart := false, narrowed := true }
def CodeZerosUptoSaid : Prop := codeZerosUptoRow.holds Try.pinned (OpenSpec.upto codeZerosSpec)

/-- 'fuseelaw5.ClassTells', WHERE WHAT IT READS IS OF BULK AT MOST 1048576: true; the input reads as it did. -/
def classTellsUptoRow : OpenClaim := { program := "ytjagedcaemckfaa", sum := "ce8570f09b77f78938fd46c7137d78a73077e3c60adeba2a38dcf7783f13729b", func := "fusee/fuseelaw5.ClassTells", spec := "classTells", apart := false, narrowed := true }
def ClassTellsUptoSaid : Prop := classTellsUptoRow.holds Try.pinned (OpenSpec.upto classTellsSpec)

/-- 'fuseelaw5.ClassStarts', WHERE WHAT IT READS IS OF BULK AT MOST 1048576: true; the input reads as it did. -/
def classStartsUptoRow : OpenClaim := { program := "ytjagedcaemckfaa", sum := "ce8570f09b77f78938fd46c7137d78a73077e3c60adeba2a38dcf7783f13729b", func := "fusee/fuseelaw5.ClassStarts", spec := "classStarts", apart := false, narrowed := true }
def ClassStartsUptoSaid : Prop := classStartsUptoRow.holds Try.pinned (OpenSpec.upto classStartsSpec)

/-- 'fuseelaw5.ClassLeast', WHERE WHAT IT READS IS OF BULK AT MOST 1048576: true; the input reads as it did. -/
def classLeastUptoRow : OpenClaim := { program := "ytjagedcaemckfaa", sum := "ce8570f09b77f78938fd46c7137d78a73077e3c60adeba2a38dcf7783f13729b", func := "fusee/fuseelaw5.ClassLeast", spec := "classLeast", apart := false, narrowed := true }
def ClassLeastUptoSaid : Prop := classLeastUptoRow.holds Try.pinned (OpenSpec.upto classLeastSpec)

/-- 'fuseelaw5.ClassFills', WHERE WHAT IT READS IS OF BULK AT MOST 1048576: true; the input reads as it did. -/
def classFillsUptoRow : OpenClaim := { program := "ytjagedcaemckfaa", sum := "ce8570f09b77f78938fd46c7137d78a73077e3c60adeba2a38dcf7783f13729b", func := "fusee/fuseelaw5.ClassFills", spec := "classFills", apart := false, narrowed := true }
def ClassFillsUptoSaid : Prop := classFillsUptoRow.holds Try.pinned (OpenSpec.upto classFillsSpec)

end Rows
end Go.Proofs.Ytjagedcaemckfaa
