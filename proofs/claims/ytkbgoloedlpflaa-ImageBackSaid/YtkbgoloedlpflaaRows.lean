/-
  No cell of these rows narrows 'for every input' (looked for: loops, veiled, ifaces, maps, wideKeys, modest, calm, conditions, laid).
  DERIVED. THE GIVEN ROWS OF THIS SEAT. 5 by the template 'for every input the law returns true; each argument reads behind the call as it read before'; 0 by the template 'total and deterministic' (their statements: YtkbgoloedlpflaaTotals.lean).
  GIVEN WITH THE SEED: the statements are not yours to turn. If you find one false, say at which input.
  Laid BY PROGRAM, IN A SANDBOX (cutbox-rows.mjs): the forced cells as the released guide's own fill.sh prints them over the translation 0b3fc58ebf2c1e27… (all of the seat's roots in one cut). By AI agents, Wed Nov 11 2026. No macro, syntax, notation, axiom, sorry.
-/
import Derived.Test.YtkbgoloedlpflaaChecked
import GoSem.Claim
import GoSem.ClaimJoined
import GoSem.ClaimMapViews
import Derived.JoinedTies
import Derived.KernelRfl
namespace Go.Proofs.Ytkbgoloedlpflaa
/- THE CELL 'sum', in the pinned program and in every row, IS THE sha256 OF THE DUMP (.gsa) THAT YtkbgoloedlpflaaProg.lean LOADS. Nothing in Lean hashes anything: it is a label: what it is worth is what the hold of that sum in a sandbox is worth. -/
noncomputable def Try.pinned : Pinned := { name := "ytkbgoloedlpflaa", sum := "0b3fc58ebf2c1e27f0d95ec918722f771e00f76c79c524f66e500e13bf4321fe", checked := Try.checked }
namespace Rows
def none {H : Type} : Left H := { results := [], args := [] }

/-- 'fuseelaw27.ImageLoads': WHATEVER THE INPUT: true; the input reads as it did. -/
def imageLoadsSpec : ChangeSpec := { name := "imageLoads", fn := fun _ => fun
  | [d] => { results := [.lit (.bool true)], args := [d] }
  | _ => none }
def imageLoadsRow : OpenClaim := { program := "ytkbgoloedlpflaa", sum := "0b3fc58ebf2c1e27f0d95ec918722f771e00f76c79c524f66e500e13bf4321fe", func := "fusee/fuseelaw27.ImageLoads", spec := "imageLoads", inPlace := ["sync/atomic.AddInt64", "sync/atomic.LoadInt64"], unfollowed := true, recurses := true, apart := false }
def ImageLoadsSaid : Prop := imageLoadsRow.holds Try.pinned (OpenSpec.ofChange imageLoadsSpec)

/-- ITS FALSE NEIGHBOUR: 'it returns false'. Refute it at one input. -/
def imageLoadsWrong : ChangeSpec := { name := "imageLoads", fn := fun _ => fun
  | [d] => { results := [.lit (.bool false)], args := [d] }
  | _ => none }
def ImageLoadsWrongFalsely : Prop := imageLoadsRow.holds Try.pinned (OpenSpec.ofChange imageLoadsWrong)

/-- 'fuseelaw27.ImageTurned': WHATEVER THE INPUT: true; the input reads as it did. -/
def imageTurnedSpec : ChangeSpec := { name := "imageTurned", fn := fun _ => fun
  | [d1, d2, d3, d4] => { results := [.lit (.bool true)], args := [d1, d2, d3, d4] }
  | _ => none }
def imageTurnedRow : OpenClaim := { program := "ytkbgoloedlpflaa", sum := "0b3fc58ebf2c1e27f0d95ec918722f771e00f76c79c524f66e500e13bf4321fe", func := "fusee/fuseelaw27.ImageTurned", spec := "imageTurned", inPlace := ["sync/atomic.AddInt64"], unfollowed := true, recurses := true, apart := false }
def ImageTurnedSaid : Prop := imageTurnedRow.holds Try.pinned (OpenSpec.ofChange imageTurnedSpec)

/-- ITS FALSE NEIGHBOUR: 'it returns false'. Refute it at one input. -/
def imageTurnedWrong : ChangeSpec := { name := "imageTurned", fn := fun _ => fun
  | [d1, d2, d3, d4] => { results := [.lit (.bool false)], args := [d1, d2, d3, d4] }
  | _ => none }
def ImageTurnedWrongFalsely : Prop := imageTurnedRow.holds Try.pinned (OpenSpec.ofChange imageTurnedWrong)

/-- 'fuseelaw27.ImageDumps': WHATEVER THE INPUT: true; the input reads as it did. -/
def imageDumpsSpec : ChangeSpec := { name := "imageDumps", fn := fun _ => fun
  | [d1, d2] => { results := [.lit (.bool true)], args := [d1, d2] }
  | _ => none }
def imageDumpsRow : OpenClaim := { program := "ytkbgoloedlpflaa", sum := "0b3fc58ebf2c1e27f0d95ec918722f771e00f76c79c524f66e500e13bf4321fe", func := "fusee/fuseelaw27.ImageDumps", spec := "imageDumps", inPlace := ["sync/atomic.AddInt64", "sync/atomic.LoadInt64"], unfollowed := true, recurses := true, apart := false }
def ImageDumpsSaid : Prop := imageDumpsRow.holds Try.pinned (OpenSpec.ofChange imageDumpsSpec)

/-- ITS FALSE NEIGHBOUR: 'it returns false'. Refute it at one input. -/
def imageDumpsWrong : ChangeSpec := { name := "imageDumps", fn := fun _ => fun
  | [d1, d2] => { results := [.lit (.bool false)], args := [d1, d2] }
  | _ => none }
def ImageDumpsWrongFalsely : Prop := imageDumpsRow.holds Try.pinned (OpenSpec.ofChange imageDumpsWrong)

/-- 'fuseelaw27.ImageUnlike': WHATEVER THE INPUT: true; the input reads as it did. -/
def imageUnlikeSpec : ChangeSpec := { name := "imageUnlike", fn := fun _ => fun
  | [d1, d2, d3, d4] => { results := [.lit (.bool true)], args := [d1, d2, d3, d4] }
  | _ => none }
def imageUnlikeRow : OpenClaim := { program := "ytkbgoloedlpflaa", sum := "0b3fc58ebf2c1e27f0d95ec918722f771e00f76c79c524f66e500e13bf4321fe", func := "fusee/fuseelaw27.ImageUnlike", spec := "imageUnlike", inPlace := ["sync/atomic.AddInt64"], unfollowed := true, recurses := true, apart := false }
def ImageUnlikeSaid : Prop := imageUnlikeRow.holds Try.pinned (OpenSpec.ofChange imageUnlikeSpec)

/-- ITS FALSE NEIGHBOUR: 'it returns false'. Refute it at one input. -/
def imageUnlikeWrong : ChangeSpec := { name := "imageUnlike", fn := fun _ => fun
  | [d1, d2, d3, d4] => { results := [.lit (.bool false)], args := [d1, d2, d3, d4] }
  | _ => none }
def ImageUnlikeWrongFalsely : Prop := imageUnlikeRow.holds Try.pinned (OpenSpec.ofChange imageUnlikeWrong)

/-- 'fuseelaw27.ImageBack': WHATEVER THE INPUT: true; the input reads as it did. -/
def imageBackSpec : ChangeSpec := { name := "imageBack", fn := fun _ => fun
  | [d1, d2] => { results := [.lit (.bool true)], args := [d1, d2] }
  | _ => none }
def imageBackRow : OpenClaim := { program := "ytkbgoloedlpflaa", sum := "0b3fc58ebf2c1e27f0d95ec918722f771e00f76c79c524f66e500e13bf4321fe", func := "fusee/fuseelaw27.ImageBack", spec := "imageBack", inPlace := ["sync/atomic.AddInt64"], unfollowed := true, recurses := true, apart := false }
def ImageBackSaid : Prop := imageBackRow.holds Try.pinned (OpenSpec.ofChange imageBackSpec)

/-- ITS FALSE NEIGHBOUR: 'it returns false'. Refute it at one input. -/
def imageBackWrong : ChangeSpec := { name := "imageBack", fn := fun _ => fun
  | [d1, d2] => { results := [.lit (.bool false)], args := [d1, d2] }
  | _ => none }
def ImageBackWrongFalsely : Prop := imageBackRow.holds Try.pinned (OpenSpec.ofChange imageBackWrong)

/- THE SECOND FORM. 'bulk': how many values and letters a reading holds, each counted each time it is reached (what is shared counts as often as it is met; a slice's spare places count too). A statement '..UptoSaid' is the law's where the arguments, and the package variables that the reading takes, are together of bulk at most 1048576: NARROWER than '..Said'. Prove '..Said' where nothing that the law and all that it calls make is longer than what came in: it says more and counts as full. Else prove '..UptoSaid'. A law counts once. -/
mutual
def uptoBulk {H : Type} : DataW H → Nat
  | .lit (.string bytes) => bytes.length + 1
  | .lit _ => 1
  | .nil => 1
  | .ptr d => uptoBulk d + 1
  | .slice elems spare => uptoBulkAll elems + uptoBulkAll spare + 1
  | .agg parts => uptoBulkAll parts + 1
  | .iface _ d => uptoBulk d + 1
  | .map entries => uptoBulkEntries entries + 1
  | .held _ => 1
def uptoBulkAll {H : Type} : List (DataW H) → Nat
  | [] => 0
  | d :: r => uptoBulk d + uptoBulkAll r
def uptoBulkEntries {H : Type} : List (Lit × DataW H) → Nat
  | [] => 0
  | x :: r => uptoBulkEntry x + uptoBulkEntries r
def uptoBulkEntry {H : Type} : Lit × DataW H → Nat
  | (.string bytes, d) => bytes.length + uptoBulk d + 1
  | (_, d) => uptoBulk d + 1
 end
def uptoSmall : (H : Type) → List (DataW H) → Bool := fun _ ds => decide (uptoBulkAll ds ≤ 1048576)
def OpenSpec.upto (s : _root_.Go.ChangeSpec) : _root_.Go.OpenSpec := { _root_.Go.OpenSpec.ofChange s with cond := some uptoSmall }

/-- 'fuseelaw27.ImageLoads', WHERE WHAT IT READS IS OF BULK AT MOST 1048576: true; the input reads as it did. -/
def imageLoadsUptoRow : OpenClaim := { program := "ytkbgoloedlpflaa", sum := "0b3fc58ebf2c1e27f0d95ec918722f771e00f76c79c524f66e500e13bf4321fe", func := "fusee/fuseelaw27.ImageLoads", spec := "imageLoads", inPlace := ["sync/atomic.AddInt64", "sync/atomic.LoadInt64"], unfollowed := true, recurses := true, apart := false, narrowed := true }
def ImageLoadsUptoSaid : Prop := imageLoadsUptoRow.holds Try.pinned (OpenSpec.upto imageLoadsSpec)

/-- 'fuseelaw27.ImageTurned', WHERE WHAT IT READS IS OF BULK AT MOST 1048576: true; the input reads as it did. -/
def imageTurnedUptoRow : OpenClaim := { program := "ytkbgoloedlpflaa", sum := "0b3fc58ebf2c1e27f0d95ec918722f771e00f76c79c524f66e500e13bf4321fe", func := "fusee/fuseelaw27.ImageTurned", spec := "imageTurned", inPlace := ["sync/atomic.AddInt64"], unfollowed := true, recurses := true, apart := false, narrowed := true }
def ImageTurnedUptoSaid : Prop := imageTurnedUptoRow.holds Try.pinned (OpenSpec.upto imageTurnedSpec)

/-- 'fuseelaw27.ImageDumps', WHERE WHAT IT READS IS OF BULK AT MOST 1048576: true; the input reads as it did. -/
def imageDumpsUptoRow : OpenClaim := { program := "ytkbgoloedlpflaa", sum := "0b3fc58ebf2c1e27f0d95ec918722f771e00f76c79c524f66e500e13bf4321fe", func := "fusee/fuseelaw27.ImageDumps", spec := "imageDumps", inPlace := ["sync/atomic.AddInt64", "sync/atomic.LoadInt64"], unfollowed := true, recurses := true, apart := false, narrowed := true }
def ImageDumpsUptoSaid : Prop := imageDumpsUptoRow.holds Try.pinned (OpenSpec.upto imageDumpsSpec)

/-- 'fuseelaw27.ImageUnlike', WHERE WHAT IT READS IS OF BULK AT MOST 1048576: true; the input reads as it did. -/
def imageUnlikeUptoRow : OpenClaim := { program := "ytkbgoloedlpflaa", sum := "0b3fc58ebf2c1e27f0d95ec918722f771e00f76c79c524f66e500e13bf4321fe", func := "fusee/fuseelaw27.ImageUnlike", spec := "imageUnlike", inPlace := ["sync/atomic.AddInt64"], unfollowed := true, recurses := true, apart := false, narrowed := true }
def ImageUnlikeUptoSaid : Prop := imageUnlikeUptoRow.holds Try.pinned (OpenSpec.upto imageUnlikeSpec)

/-- 'fuseelaw27.ImageBack', WHERE WHAT IT READS IS OF BULK AT MOST 1048576: true; the input reads as it did. -/
def imageBackUptoRow : OpenClaim := { program := "ytkbgoloedlpflaa", sum := "0b3fc58ebf2c1e27f0d95ec918722f771e00f76c79c524f66e500e13bf4321fe", func := "fusee/fuseelaw27.ImageBack", spec := "imageBack", inPlace := ["sync/atomic.AddInt64"], unfollowed := true, recurses := true, apart := false, narrowed := true }
def ImageBackUptoSaid : Prop := imageBackUptoRow.holds Try.pinned (OpenSpec.upto imageBackSpec)

end Rows
end Go.Proofs.Ytkbgoloedlpflaa
