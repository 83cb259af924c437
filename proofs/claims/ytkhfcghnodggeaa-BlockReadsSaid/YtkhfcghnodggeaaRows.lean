/-
  No cell of these rows narrows 'for every input' (looked for: loops, veiled, ifaces, maps, wideKeys, modest, calm, conditions, laid).
  DERIVED. THE GIVEN ROWS OF THIS SEAT. 8 by the template 'for every input the law returns true; each argument reads behind the call as it read before'; 0 by the template 'total and deterministic' (their statements: YtkhfcghnodggeaaTotals.lean).
  GIVEN WITH THE SEED: the statements are not yours to turn. If you find one false, say at which input.
  Laid BY PROGRAM, IN A SANDBOX (cutbox-rows.mjs): the forced cells as the released guide's own fill.sh prints them over the translation 092d26b1741fbd05… (all of the seat's roots in one cut). By AI agents, Wed Nov 11 2026. No macro, syntax, notation, axiom, sorry.
-/
import Derived.Test.YtkhfcghnodggeaaChecked
import GoSem.Claim
import GoSem.ClaimJoined
import GoSem.ClaimMapViews
import Derived.JoinedTies
import Derived.KernelRfl
namespace Go.Proofs.Ytkhfcghnodggeaa
/- THE CELL 'sum', in the pinned program and in every row, IS THE sha256 OF THE DUMP (.gsa) THAT YtkhfcghnodggeaaProg.lean LOADS. Nothing in Lean hashes anything: it is a label: what it is worth is what the hold of that sum in a sandbox is worth. -/
noncomputable def Try.pinned : Pinned := { name := "ytkhfcghnodggeaa", sum := "092d26b1741fbd050d8773fda3a48d2c26c84d5106d531885332aef8a1b4da3f", checked := Try.checked }
namespace Rows
def none {H : Type} : Left H := { results := [], args := [] }

/-- 'fuseelaw6.BlockMay': WHATEVER THE INPUT: true; the input reads as it did. -/
def blockMaySpec : ChangeSpec := { name := "blockMay", fn := fun _ => fun
  | [d] => { results := [.lit (.bool true)], args := [d] }
  | _ => none }
def blockMayRow : OpenClaim := { program := "ytkhfcghnodggeaa", sum := "092d26b1741fbd050d8773fda3a48d2c26c84d5106d531885332aef8a1b4da3f", func := "fusee/fuseelaw6.BlockMay", spec := "blockMay", apart := false }
def BlockMaySaid : Prop := blockMayRow.holds Try.pinned (OpenSpec.ofChange blockMaySpec)

/-- ITS FALSE NEIGHBOUR: 'it returns false'. Refute it at one input. -/
def blockMayWrong : ChangeSpec := { name := "blockMay", fn := fun _ => fun
  | [d] => { results := [.lit (.bool false)], args := [d] }
  | _ => none }
def BlockMayWrongFalsely : Prop := blockMayRow.holds Try.pinned (OpenSpec.ofChange blockMayWrong)

/-- 'fuseelaw6.BlockLays': WHATEVER THE INPUT: true; the input reads as it did. -/
def blockLaysSpec : ChangeSpec := { name := "blockLays", fn := fun _ => fun
  | [d] => { results := [.lit (.bool true)], args := [d] }
  | _ => none }
def blockLaysRow : OpenClaim := { program := "ytkhfcghnodggeaa", sum := "092d26b1741fbd050d8773fda3a48d2c26c84d5106d531885332aef8a1b4da3f", func := "fusee/fuseelaw6.BlockLays", spec := "blockLays", apart := false }
def BlockLaysSaid : Prop := blockLaysRow.holds Try.pinned (OpenSpec.ofChange blockLaysSpec)

/-- ITS FALSE NEIGHBOUR: 'it returns false'. Refute it at one input. -/
def blockLaysWrong : ChangeSpec := { name := "blockLays", fn := fun _ => fun
  | [d] => { results := [.lit (.bool false)], args := [d] }
  | _ => none }
def BlockLaysWrongFalsely : Prop := blockLaysRow.holds Try.pinned (OpenSpec.ofChange blockLaysWrong)

/-- 'fuseelaw6.BlockReads': WHATEVER THE INPUT: true; the input reads as it did. -/
def blockReadsSpec : ChangeSpec := { name := "blockReads", fn := fun _ => fun
  | [d] => { results := [.lit (.bool true)], args := [d] }
  | _ => none }
def blockReadsRow : OpenClaim := { program := "ytkhfcghnodggeaa", sum := "092d26b1741fbd050d8773fda3a48d2c26c84d5106d531885332aef8a1b4da3f", func := "fusee/fuseelaw6.BlockReads", spec := "blockReads", apart := false }
def BlockReadsSaid : Prop := blockReadsRow.holds Try.pinned (OpenSpec.ofChange blockReadsSpec)

/-- ITS FALSE NEIGHBOUR: 'it returns false'. Refute it at one input. -/
def blockReadsWrong : ChangeSpec := { name := "blockReads", fn := fun _ => fun
  | [d] => { results := [.lit (.bool false)], args := [d] }
  | _ => none }
def BlockReadsWrongFalsely : Prop := blockReadsRow.holds Try.pinned (OpenSpec.ofChange blockReadsWrong)

/-- 'fuseelaw6.BlockBack': WHATEVER THE INPUT: true; the input reads as it did. -/
def blockBackSpec : ChangeSpec := { name := "blockBack", fn := fun _ => fun
  | [d] => { results := [.lit (.bool true)], args := [d] }
  | _ => none }
def blockBackRow : OpenClaim := { program := "ytkhfcghnodggeaa", sum := "092d26b1741fbd050d8773fda3a48d2c26c84d5106d531885332aef8a1b4da3f", func := "fusee/fuseelaw6.BlockBack", spec := "blockBack", apart := false }
def BlockBackSaid : Prop := blockBackRow.holds Try.pinned (OpenSpec.ofChange blockBackSpec)

/-- ITS FALSE NEIGHBOUR: 'it returns false'. Refute it at one input. -/
def blockBackWrong : ChangeSpec := { name := "blockBack", fn := fun _ => fun
  | [d] => { results := [.lit (.bool false)], args := [d] }
  | _ => none }
def BlockBackWrongFalsely : Prop := blockBackRow.holds Try.pinned (OpenSpec.ofChange blockBackWrong)

/-- 'fuseelaw6.BlockTurned': WHATEVER THE INPUT: true; the input reads as it did. -/
def blockTurnedSpec : ChangeSpec := { name := "blockTurned", fn := fun _ => fun
  | [d1, d2, d3] => { results := [.lit (.bool true)], args := [d1, d2, d3] }
  | _ => none }
def blockTurnedRow : OpenClaim := { program := "ytkhfcghnodggeaa", sum := "092d26b1741fbd050d8773fda3a48d2c26c84d5106d531885332aef8a1b4da3f", func := "fusee/fuseelaw6.BlockTurned", spec := "blockTurned", apart := false }
def BlockTurnedSaid : Prop := blockTurnedRow.holds Try.pinned (OpenSpec.ofChange blockTurnedSpec)

/-- ITS FALSE NEIGHBOUR: 'it returns false'. Refute it at one input. -/
def blockTurnedWrong : ChangeSpec := { name := "blockTurned", fn := fun _ => fun
  | [d1, d2, d3] => { results := [.lit (.bool false)], args := [d1, d2, d3] }
  | _ => none }
def BlockTurnedWrongFalsely : Prop := blockTurnedRow.holds Try.pinned (OpenSpec.ofChange blockTurnedWrong)

/-- 'fuseelaw6.BlockData': WHATEVER THE INPUT: true; the input reads as it did. -/
def blockDataSpec : ChangeSpec := { name := "blockData", fn := fun _ => fun
  | [d] => { results := [.lit (.bool true)], args := [d] }
  | _ => none }
def blockDataRow : OpenClaim := { program := "ytkhfcghnodggeaa", sum := "092d26b1741fbd050d8773fda3a48d2c26c84d5106d531885332aef8a1b4da3f", func := "fusee/fuseelaw6.BlockData", spec := "blockData", apart := false }
def BlockDataSaid : Prop := blockDataRow.holds Try.pinned (OpenSpec.ofChange blockDataSpec)

/-- ITS FALSE NEIGHBOUR: 'it returns false'. Refute it at one input. -/
def blockDataWrong : ChangeSpec := { name := "blockData", fn := fun _ => fun
  | [d] => { results := [.lit (.bool false)], args := [d] }
  | _ => none }
def BlockDataWrongFalsely : Prop := blockDataRow.holds Try.pinned (OpenSpec.ofChange blockDataWrong)

/-- 'fuseelaw6.BlockApart': WHATEVER THE INPUT: true; the input reads as it did. -/
def blockApartSpec : ChangeSpec := { name := "blockApart", fn := fun _ => fun
  | [d1, d2] => { results := [.lit (.bool true)], args := [d1, d2] }
  | _ => none }
def blockApartRow : OpenClaim := { program := "ytkhfcghnodggeaa", sum := "092d26b1741fbd050d8773fda3a48d2c26c84d5106d531885332aef8a1b4da3f", func := "fusee/fuseelaw6.BlockApart", spec := "blockApart", apart := false }
def BlockApartSaid : Prop := blockApartRow.holds Try.pinned (OpenSpec.ofChange blockApartSpec)

/-- ITS FALSE NEIGHBOUR: 'it returns false'. Refute it at one input. -/
def blockApartWrong : ChangeSpec := { name := "blockApart", fn := fun _ => fun
  | [d1, d2] => { results := [.lit (.bool false)], args := [d1, d2] }
  | _ => none }
def BlockApartWrongFalsely : Prop := blockApartRow.holds Try.pinned (OpenSpec.ofChange blockApartWrong)

/-- 'fuseelaw6.BlockHeads': WHATEVER THE INPUT: true; the input reads as it did. -/
def blockHeadsSpec : ChangeSpec := { name := "blockHeads", fn := fun _ => fun
  | [d1, d2] => { results := [.lit (.bool true)], args := [d1, d2] }
  | _ => none }
def blockHeadsRow : OpenClaim := { program := "ytkhfcghnodggeaa", sum := "092d26b1741fbd050d8773fda3a48d2c26c84d5106d531885332aef8a1b4da3f", func := "fusee/fuseelaw6.BlockHeads", spec := "blockHeads", apart := false }
def BlockHeadsSaid : Prop := blockHeadsRow.holds Try.pinned (OpenSpec.ofChange blockHeadsSpec)

/-- ITS FALSE NEIGHBOUR: 'it returns false'. Refute it at one input. -/
def blockHeadsWrong : ChangeSpec := { name := "blockHeads", fn := fun _ => fun
  | [d1, d2] => { results := [.lit (.bool false)], args := [d1, d2] }
  | _ => none }
def BlockHeadsWrongFalsely : Prop := blockHeadsRow.holds Try.pinned (OpenSpec.ofChange blockHeadsWrong)

/- THE SECOND FORM. 'bulk': how many values and letters a reading holds, each counted each time it is reached (what is shared counts as often as it is met; a slice's spare places count too). A statement '..UptoSaid' is the law's where the arguments, and the package variables that the reading takes, are together of bulk at most 1048576: NARROWER than '..Said'. Prove '..Said' where nothing that the law and all that it calls make is longer than what came in: it says more and counts as full. Else prove '..UptoSaid'. A law counts once. -/
mutual
def uptoBulk {H : Type} : DataW H → Nat
  | .lit (.string bytes) => bytes.length + 1
  | .lit _ => 1
  | .nil => 1
  | .ptr d => uptoBulk d + 1
  | .slice elems spare => uptoBulkAll elems + uptoBulkAll spare + 1
  | .agg parts => uptoBulkAll parts + 1
  | .iface _ d => uptoBulk d + 1
  | .map entries => uptoBulkEntries entries + 1
  | .held _ => 1
def uptoBulkAll {H : Type} : List (DataW H) → Nat
  | [] => 0
  | d :: r => uptoBulk d + uptoBulkAll r
def uptoBulkEntries {H : Type} : List (Lit × DataW H) → Nat
  | [] => 0
  | x :: r => uptoBulkEntry x + uptoBulkEntries r
def uptoBulkEntry {H : Type} : Lit × DataW H → Nat
  | (.string bytes, d) => bytes.length + uptoBulk d + 1
  | (_, d) => uptoBulk d + 1
 end
def uptoSmall : (H : Type) → List (DataW H) → Bool := fun _ ds => decide (uptoBulkAll ds ≤ 1048576)
def OpenSpec.upto (s : _root_.Go.ChangeSpec) : _root_.Go.OpenSpec := { _root_.Go.OpenSpec.ofChange s with cond := some uptoSmall }

/-- 'fuseelaw6.BlockMay', WHERE WHAT IT READS IS OF BULK AT MOST 1048576: true; the input reads as it did. -/
def blockMayUptoRow : OpenClaim := { program := "ytkhfcghnodggeaa", sum := "092d26b1741fbd050d8773fda3a48d2c26c84d5106d531885332aef8a1b4da3f", func := "fusee/fuseelaw6.BlockMay", spec := "blockMay", apart := false, narrowed := true }
def BlockMayUptoSaid : Prop := blockMayUptoRow.holds Try.pinned (OpenSpec.upto blockMaySpec)

/-- 'fuseelaw6.BlockLays', WHERE WHAT IT READS IS OF BULK AT MOST 1048576: true; the input reads as it did. -/
def blockLaysUptoRow : OpenClaim := { program := "ytkhfcghnodggeaa", sum := "092d26b1741fbd050d8773fda3a48d2c26c84d5106d531885332aef8a1b4da3f", func := "fusee/fuseelaw6.BlockLays", spec := "blockLays", apart := false, narrowed := true }
def BlockLaysUptoSaid : Prop := blockLaysUptoRow.holds Try.pinned (OpenSpec.upto blockLaysSpec)

/-- 'fuseelaw6.BlockReads', WHERE WHAT IT READS IS OF BULK AT MOST 1048576: true; the input reads as it did. -/
def blockReadsUptoRow : OpenClaim := { program := "ytkhfcghnodggeaa", sum := "092d26b1741fbd050d8773fda3a48d2c26c84d5106d531885332aef8a1b4da3f", func := "fusee/fuseelaw6.BlockReads", spec := "blockReads", apart := false, narrowed := true }
def BlockReadsUptoSaid : Prop := blockReadsUptoRow.holds Try.pinned (OpenSpec.upto blockReadsSpec)

/-- 'fuseelaw6.BlockBack', WHERE WHAT IT READS IS OF BULK AT MOST 1048576: true; the input reads as it did. -/
def blockBackUptoRow : OpenClaim := { program := "ytkhfcghnodggeaa", sum := "092d26b1741fbd050d8773fda3a48d2c26c84d5106d531885332aef8a1b4da3f", func := "fusee/fuseelaw6.BlockBack", spec := "blockBack", apart := false, narrowed := true }
def BlockBackUptoSaid : Prop := blockBackUptoRow.holds Try.pinned (OpenSpec.upto blockBackSpec)

/-- 'fuseelaw6.BlockTurned', WHERE WHAT IT READS IS OF BULK AT MOST 1048576: true; the input reads as it did. -/
def blockTurnedUptoRow : OpenClaim := { program := "ytkhfcghnodggeaa", sum := "092d26b1741fbd050d8773fda3a48d2c26c84d5106d531885332aef8a1b4da3f", func := "fusee/fuseelaw6.BlockTurned", spec := "blockTurned", apart := false, narrowed := true }
def BlockTurnedUptoSaid : Prop := blockTurnedUptoRow.holds Try.pinned (OpenSpec.upto blockTurnedSpec)

/-- 'fuseelaw6.BlockData', WHERE WHAT IT READS IS OF BULK AT MOST 1048576: true; the input reads as it did. -/
def blockDataUptoRow : OpenClaim := { program := "ytkhfcghnodggeaa", sum := "092d26b1741fbd050d8773fda3a48d2c26c84d5106d531885332aef8a1b4da3f", func := "fusee/fuseelaw6.BlockData", spec := "blockData", apart := false, narrowed := true }
def BlockDataUptoSaid : Prop := blockDataUptoRow.holds Try.pinned (OpenSpec.upto blockDataSpec)

/-- 'fuseelaw6.BlockApart', WHERE WHAT IT READS IS OF BULK AT MOST 1048576: true; the input reads as it did. -/
def blockApartUptoRow : OpenClaim := { program := "ytkhfcghnodggeaa", sum := "092d26b1741fbd050d8773fda3a48d2c26c84d5106d531885332aef8a1b4da3f", func := "fusee/fuseelaw6.BlockApart", spec := "blockApart", apart := false, narrowed := true }
def BlockApartUptoSaid : Prop := blockApartUptoRow.holds Try.pinned (OpenSpec.upto blockApartSpec)

/-- 'fuseelaw6.BlockHeads', WHERE WHAT IT READS IS OF BULK AT MOST 1048576: true; the input reads as it did. -/
def blockHeadsUptoRow : OpenClaim := { program := "ytkhfcghnodggeaa", sum := "092d26b1741fbd050d8773fda3a48d2c26c84d5106d531885332aef8a1b4da3f", func := "fusee/fuseelaw6.BlockHeads", spec := "blockHeads", apart := false, narrowed := true }
def BlockHeadsUptoSaid : Prop := blockHeadsUptoRow.holds Try.pinned (OpenSpec.upto blockHeadsSpec)

end Rows
end Go.Proofs.Ytkhfcghnodggeaa
