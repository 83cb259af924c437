/-
  No cell of these rows narrows 'for every input' (looked for: loops, veiled, ifaces, maps, wideKeys, modest, calm, conditions, laid).
  DERIVED. THE GIVEN ROWS OF THIS SEAT. 8 by the template 'for every input the law returns true; each argument reads behind the call as it read before'; 0 by the template 'total and deterministic' (their statements: YtpenmnngjfncgaaTotals.lean).
  GIVEN WITH THE SEED: the statements are not yours to turn. If you find one false, say at which input.
  Laid BY PROGRAM, IN A SANDBOX (cutbox-rows.mjs): the forced cells as the released guide's own fill.sh prints them over the translation ad26165230a9188d… (all of the seat's roots in one cut). By AI agents, Wed Nov 11 2026. No macro, syntax, notation, axiom, sorry.
-/
import Derived.Test.YtpenmnngjfncgaaChecked
import GoSem.Claim
import GoSem.ClaimJoined
import GoSem.ClaimMapViews
import Derived.JoinedTies
import Derived.KernelRfl
namespace Go.Proofs.Ytpenmnngjfncgaa
/- THE CELL 'sum', in the pinned program and in every row, IS THE sha256 OF THE DUMP (.gsa) THAT YtpenmnngjfncgaaProg.lean LOADS. Nothing in Lean hashes anything: it is a label: what it is worth is what the hold of that sum in a sandbox is worth. -/
noncomputable def Try.pinned : Pinned := { name := "ytpenmnngjfncgaa", sum := "ad26165230a9188d85e37624aa891fe5168ab6ff13d7975b70247cc07b808560", checked := Try.checked }
namespace Rows
def none {H : Type} : Left H := { results := [], args := [] }

/-- 'fuseelaw7.PallocApart': WHATEVER THE INPUT: true; the input reads as it did. -/
def pallocApartSpec : ChangeSpec := { name := "pallocApart", fn := fun _ => fun
  | [d1, d2] => { results := [.lit (.bool true)], args := [d1, d2] }
  | _ => none }
def pallocApartRow : OpenClaim := { program := "ytpenmnngjfncgaa", sum := "ad26165230a9188d85e37624aa891fe5168ab6ff13d7975b70247cc07b808560", func := "fusee/fuseelaw7.PallocApart", spec := "pallocApart", apart := false }
def PallocApartSaid : Prop := pallocApartRow.holds Try.pinned (OpenSpec.ofChange pallocApartSpec)

/-- ITS FALSE NEIGHBOUR: 'it returns false'. Refute it at one input. -/
def pallocApartWrong : ChangeSpec := { name := "pallocApart", fn := fun _ => fun
  | [d1, d2] => { results := [.lit (.bool false)], args := [d1, d2] }
  | _ => none }
def PallocApartWrongFalsely : Prop := pallocApartRow.holds Try.pinned (OpenSpec.ofChange pallocApartWrong)

/-- 'fuseelaw7.PallocBack': WHATEVER THE INPUT: true; the input reads as it did. -/
def pallocBackSpec : ChangeSpec := { name := "pallocBack", fn := fun _ => fun
  | [d1, d2, d3] => { results := [.lit (.bool true)], args := [d1, d2, d3] }
  | _ => none }
def pallocBackRow : OpenClaim := { program := "ytpenmnngjfncgaa", sum := "ad26165230a9188d85e37624aa891fe5168ab6ff13d7975b70247cc07b808560", func := "fusee/fuseelaw7.PallocBack", spec := "pallocBack", apart := false }
def PallocBackSaid : Prop := pallocBackRow.holds Try.pinned (OpenSpec.ofChange pallocBackSpec)

/-- ITS FALSE NEIGHBOUR: 'it returns false'. Refute it at one input. -/
def pallocBackWrong : ChangeSpec := { name := "pallocBack", fn := fun _ => fun
  | [d1, d2, d3] => { results := [.lit (.bool false)], args := [d1, d2, d3] }
  | _ => none }
def PallocBackWrongFalsely : Prop := pallocBackRow.holds Try.pinned (OpenSpec.ofChange pallocBackWrong)

/-- 'fuseelaw7.PallocMarks': WHATEVER THE INPUT: true; the input reads as it did. -/
def pallocMarksSpec : ChangeSpec := { name := "pallocMarks", fn := fun _ => fun
  | [d1, d2, d3] => { results := [.lit (.bool true)], args := [d1, d2, d3] }
  | _ => none }
def pallocMarksRow : OpenClaim := { program := "ytpenmnngjfncgaa", sum := "ad26165230a9188d85e37624aa891fe5168ab6ff13d7975b70247cc07b808560", func := "fusee/fuseelaw7.PallocMarks", spec := "pallocMarks", apart := false }
def PallocMarksSaid : Prop := pallocMarksRow.holds Try.pinned (OpenSpec.ofChange pallocMarksSpec)

/-- ITS FALSE NEIGHBOUR: 'it returns false'. Refute it at one input. -/
def pallocMarksWrong : ChangeSpec := { name := "pallocMarks", fn := fun _ => fun
  | [d1, d2, d3] => { results := [.lit (.bool false)], args := [d1, d2, d3] }
  | _ => none }
def PallocMarksWrongFalsely : Prop := pallocMarksRow.holds Try.pinned (OpenSpec.ofChange pallocMarksWrong)

/-- 'fuseelaw7.PallocWhole': WHATEVER THE INPUT: true; the input reads as it did. -/
def pallocWholeSpec : ChangeSpec := { name := "pallocWhole", fn := fun _ => fun
  | [d1, d2] => { results := [.lit (.bool true)], args := [d1, d2] }
  | _ => none }
def pallocWholeRow : OpenClaim := { program := "ytpenmnngjfncgaa", sum := "ad26165230a9188d85e37624aa891fe5168ab6ff13d7975b70247cc07b808560", func := "fusee/fuseelaw7.PallocWhole", spec := "pallocWhole", apart := false }
def PallocWholeSaid : Prop := pallocWholeRow.holds Try.pinned (OpenSpec.ofChange pallocWholeSpec)

/-- ITS FALSE NEIGHBOUR: 'it returns false'. Refute it at one input. -/
def pallocWholeWrong : ChangeSpec := { name := "pallocWhole", fn := fun _ => fun
  | [d1, d2] => { results := [.lit (.bool false)], args := [d1, d2] }
  | _ => none }
def PallocWholeWrongFalsely : Prop := pallocWholeRow.holds Try.pinned (OpenSpec.ofChange pallocWholeWrong)

/-- 'fuseelaw7.PallocLeast': WHATEVER THE INPUT: true; the input reads as it did. -/
def pallocLeastSpec : ChangeSpec := { name := "pallocLeast", fn := fun _ => fun
  | [d1, d2, d3] => { results := [.lit (.bool true)], args := [d1, d2, d3] }
  | _ => none }
def pallocLeastRow : OpenClaim := { program := "ytpenmnngjfncgaa", sum := "ad26165230a9188d85e37624aa891fe5168ab6ff13d7975b70247cc07b808560", func := "fusee/fuseelaw7.PallocLeast", spec := "pallocLeast", apart := false }
def PallocLeastSaid : Prop := pallocLeastRow.holds Try.pinned (OpenSpec.ofChange pallocLeastSpec)

/-- ITS FALSE NEIGHBOUR: 'it returns false'. Refute it at one input. -/
def pallocLeastWrong : ChangeSpec := { name := "pallocLeast", fn := fun _ => fun
  | [d1, d2, d3] => { results := [.lit (.bool false)], args := [d1, d2, d3] }
  | _ => none }
def PallocLeastWrongFalsely : Prop := pallocLeastRow.holds Try.pinned (OpenSpec.ofChange pallocLeastWrong)

/-- 'fuseelaw7.PallocSpace': WHATEVER THE INPUT: true; the input reads as it did. -/
def pallocSpaceSpec : ChangeSpec := { name := "pallocSpace", fn := fun _ => fun
  | [d1, d2, d3] => { results := [.lit (.bool true)], args := [d1, d2, d3] }
  | _ => none }
def pallocSpaceRow : OpenClaim := { program := "ytpenmnngjfncgaa", sum := "ad26165230a9188d85e37624aa891fe5168ab6ff13d7975b70247cc07b808560", func := "fusee/fuseelaw7.PallocSpace", spec := "pallocSpace", apart := false }
def PallocSpaceSaid : Prop := pallocSpaceRow.holds Try.pinned (OpenSpec.ofChange pallocSpaceSpec)

/-- ITS FALSE NEIGHBOUR: 'it returns false'. Refute it at one input. -/
def pallocSpaceWrong : ChangeSpec := { name := "pallocSpace", fn := fun _ => fun
  | [d1, d2, d3] => { results := [.lit (.bool false)], args := [d1, d2, d3] }
  | _ => none }
def PallocSpaceWrongFalsely : Prop := pallocSpaceRow.holds Try.pinned (OpenSpec.ofChange pallocSpaceWrong)

/-- 'fuseelaw7.PallocScript': WHATEVER THE INPUT: true; the input reads as it did. -/
def pallocScriptSpec : ChangeSpec := { name := "pallocScript", fn := fun _ => fun
  | [d1, d2] => { results := [.lit (.bool true)], args := [d1, d2] }
  | _ => none }
def pallocScriptRow : OpenClaim := { program := "ytpenmnngjfncgaa", sum := "ad26165230a9188d85e37624aa891fe5168ab6ff13d7975b70247cc07b808560", func := "fusee/fuseelaw7.PallocScript", spec := "pallocScript", apart := false }
def PallocScriptSaid : Prop := pallocScriptRow.holds Try.pinned (OpenSpec.ofChange pallocScriptSpec)

/-- ITS FALSE NEIGHBOUR: 'it returns false'. Refute it at one input. -/
def pallocScriptWrong : ChangeSpec := { name := "pallocScript", fn := fun _ => fun
  | [d1, d2] => { results := [.lit (.bool false)], args := [d1, d2] }
  | _ => none }
def PallocScriptWrongFalsely : Prop := pallocScriptRow.holds Try.pinned (OpenSpec.ofChange pallocScriptWrong)

/-- 'fuseelaw7.PallocNone': WHATEVER THE INPUT: true; the input reads as it did. -/
def pallocNoneSpec : ChangeSpec := { name := "pallocNone", fn := fun _ => fun
  | [d1, d2] => { results := [.lit (.bool true)], args := [d1, d2] }
  | _ => none }
def pallocNoneRow : OpenClaim := { program := "ytpenmnngjfncgaa", sum := "ad26165230a9188d85e37624aa891fe5168ab6ff13d7975b70247cc07b808560", func := "fusee/fuseelaw7.PallocNone", spec := "pallocNone", apart := false }
def PallocNoneSaid : Prop := pallocNoneRow.holds Try.pinned (OpenSpec.ofChange pallocNoneSpec)

/-- ITS FALSE NEIGHBOUR: 'it returns false'. Refute it at one input. -/
def pallocNoneWrong : ChangeSpec := { name := "pallocNone", fn := fun _ => fun
  | [d1, d2] => { results := [.lit (.bool false)], args := [d1, d2] }
  | _ => none }
def PallocNoneWrongFalsely : Prop := pallocNoneRow.holds Try.pinned (OpenSpec.ofChange pallocNoneWrong)

/- THE SECOND FORM. 'bulk': how many values and letters a reading holds, each counted each time it is reached (what is shared counts as often as it is met; a slice's spare places count too). A statement '..UptoSaid' is the law's where the arguments, and the package variables that the reading takes, are together of bulk at most 1048576: NARROWER than '..Said'. Prove '..Said' where nothing that the law and all that it calls make is longer than what came in: it says more and counts as full. Else prove '..UptoSaid'. A law counts once. -/
mutual
def uptoBulk {H : Type} : DataW H → Nat
  | .lit (.string bytes) => bytes.length + 1
  | .lit _ => 1
  | .nil => 1
  | .ptr d => uptoBulk d + 1
  | .slice elems spare => uptoBulkAll elems + uptoBulkAll spare + 1
  | .agg parts => uptoBulkAll parts + 1
  | .iface _ d => uptoBulk d + 1
  | .map entries => uptoBulkEntries entries + 1
  | .held _ => 1
def uptoBulkAll {H : Type} : List (DataW H) → Nat
  | [] => 0
  | d :: r => uptoBulk d + uptoBulkAll r
def uptoBulkEntries {H : Type} : List (Lit × DataW H) → Nat
  | [] => 0
  | x :: r => uptoBulkEntry x + uptoBulkEntries r
def uptoBulkEntry {H : Type} : Lit × DataW H → Nat
  | (.string bytes, d) => bytes.length + uptoBulk d + 1
  | (_, d) => uptoBulk d + 1
 end
def uptoSmall : (H : Type) → List (DataW H) → Bool := fun _ ds => decide (uptoBulkAll ds ≤ 1048576)
def OpenSpec.upto (s : _root_.Go.ChangeSpec) : _root_.Go.OpenSpec := { _root_.Go.OpenSpec.ofChange s with cond := some uptoSmall }

/-- 'fuseelaw7.PallocApart', WHERE WHAT IT READS IS OF BULK AT MOST 1048576: true; the input reads as it did. -/
def pallocApartUptoRow : OpenClaim := { program := "ytpenmnngjfncgaa", sum := "ad26165230a9188d85e37624aa891fe5168ab6ff13d7975b70247cc07b808560", func := "fusee/fuseelaw7.PallocApart", spec := "pallocApart", apart := false, narrowed := true }
def PallocApartUptoSaid : Prop := pallocApartUptoRow.holds Try.pinned (OpenSpec.upto pallocApartSpec)

/-- 'fuseelaw7.PallocBack', WHERE WHAT IT READS IS OF BULK AT MOST 1048576: true; the input reads as it did. -/
def pallocBackUptoRow : OpenClaim := { program := "ytpenmnngjfncgaa", sum := "ad26165230a9188d85e37624aa891fe5168ab6ff13d7975b70247cc07b808560", func := "fusee/fuseelaw7.PallocBack", spec := "pallocBack", apart := false, narrowed := true }
def PallocBackUptoSaid : Prop := pallocBackUptoRow.holds Try.pinned (OpenSpec.upto pallocBackSpec)

/-- 'fuseelaw7.PallocMarks', WHERE WHAT IT READS IS OF BULK AT MOST 1048576: true; the input reads as it did. -/
def pallocMarksUptoRow : OpenClaim := { program := "ytpenmnngjfncgaa", sum := "ad26165230a9188d85e37624aa891fe5168ab6ff13d7975b70247cc07b808560", func := "fusee/fuseelaw7.PallocMarks", spec := "pallocMarks", apart := false, narrowed := true }
def PallocMarksUptoSaid : Prop := pallocMarksUptoRow.holds Try.pinned (OpenSpec.upto pallocMarksSpec)

/-- 'fuseelaw7.PallocWhole', WHERE WHAT IT READS IS OF BULK AT MOST 1048576: true; the input reads as it did. -/
def pallocWholeUptoRow : OpenClaim := { program := "ytpenmnngjfncgaa", sum := "ad26165230a9188d85e37624aa891fe5168ab6ff13d7975b70247cc07b808560", func := "fusee/fuseelaw7.PallocWhole", spec := "pallocWhole", apart := false, narrowed := true }
def PallocWholeUptoSaid : Prop := pallocWholeUptoRow.holds Try.pinned (OpenSpec.upto pallocWholeSpec)

/-- 'fuseelaw7.PallocLeast', WHERE WHAT IT READS IS OF BULK AT MOST 1048576: true; the input reads as it did. -/
def pallocLeastUptoRow : OpenClaim := { program := "ytpenmnngjfncgaa", sum := "ad26165230a9188d85e37624aa891fe5168ab6ff13d7975b70247cc07b808560", func := "fusee/fuseelaw7.PallocLeast", spec := "pallocLeast", apart := false, narrowed := true }
def PallocLeastUptoSaid : Prop := pallocLeastUptoRow.holds Try.pinned (OpenSpec.upto pallocLeastSpec)

/-- 'fuseelaw7.PallocSpace', WHERE WHAT IT READS IS OF BULK AT MOST 1048576: true; the input reads as it did. -/
def pallocSpaceUptoRow : OpenClaim := { program := "ytpenmnngjfncgaa", sum := "ad26165230a9188d85e37624aa891fe5168ab6ff13d7975b70247cc07b808560", func := "fusee/fuseelaw7.PallocSpace", spec := "pallocSpace", apart := false, narrowed := true }
def PallocSpaceUptoSaid : Prop := pallocSpaceUptoRow.holds Try.pinned (OpenSpec.upto pallocSpaceSpec)

/-- 'fuseelaw7.PallocScript', WHERE WHAT IT READS IS OF BULK AT MOST 1048576: true; the input reads as it did. -/
def pallocScriptUptoRow : OpenClaim := { program := "ytpenmnngjfncgaa", sum := "ad26165230a9188d85e37624aa891fe5168ab6ff13d7975b70247cc07b808560", func := "fusee/fuseelaw7.PallocScript", spec := "pallocScript", apart := false, narrowed := true }
def PallocScriptUptoSaid : Prop := pallocScriptUptoRow.holds Try.pinned (OpenSpec.upto pallocScriptSpec)

/-- 'fuseelaw7.PallocNone', WHERE WHAT IT READS IS OF BULK AT MOST 1048576: true; the input reads as it did. -/
def pallocNoneUptoRow : OpenClaim := { program := "ytpenmnngjfncgaa", sum := "ad26165230a9188d85e37624aa891fe5168ab6ff13d7975b70247cc07b808560", func := "fusee/fuseelaw7.PallocNone", spec := "pallocNone", apart := false, narrowed := true }
def PallocNoneUptoSaid : Prop := pallocNoneUptoRow.holds Try.pinned (OpenSpec.upto pallocNoneSpec)

end Rows
end Go.Proofs.Ytpenmnngjfncgaa
