/-
  No cell of these rows narrows 'for every input' (looked for: loops, veiled, ifaces, maps, wideKeys, modest, calm, conditions, laid).
  DERIVED. THE GIVEN ROWS OF THIS SEAT. 13 by the template 'for every input the law returns true; each argument reads behind the call as it read before'; 0 by the template 'total and deterministic' (their statements: YtfafpggppbolkaaTotals.lean).
  GIVEN WITH THE SEED: the statements are not yours to turn. If you find one false, say at which input.
  Laid BY PROGRAM, IN A SANDBOX (cutbox-rows.mjs): the forced cells as the released guide's own fill.sh prints them over the translation 7f79dbd0b9752a8c… (all of the seat's roots in one cut). By AI agents, Wed Nov 11 2026. No macro, syntax, notation, axiom, sorry.
-/
import Derived.Test.YtfafpggppbolkaaChecked
import GoSem.Claim
import GoSem.ClaimJoined
import GoSem.ClaimMapViews
import Derived.JoinedTies
import Derived.KernelRfl
namespace Go.Proofs.Ytfafpggppbolkaa
/- THE CELL 'sum', in the pinned program and in every row, IS THE sha256 OF THE DUMP (.gsa) THAT YtfafpggppbolkaaProg.lean LOADS. Nothing in Lean hashes anything: it is a label: what it is worth is what the hold of that sum in a sandbox is worth. -/
noncomputable def Try.pinned : Pinned := { name := "ytfafpggppbolkaa", sum := "7f79dbd0b9752a8cdf6307769156e0430e0e493b4f56ee2c62ece67b2382ca36", checked := Try.checked }
namespace Rows
def none {H : Type} : Left H := { results := [], args := [] }

/-- 'fuseelaw3.NvmKeeps': WHATEVER THE INPUT: true; the input reads as it did. -/
def nvmKeepsSpec : ChangeSpec := { name := "nvmKeeps", fn := fun _ => fun
  | [d1, d2, d3] => { results := [.lit (.bool true)], args := [d1, d2, d3] }
  | _ => none }
def nvmKeepsRow : OpenClaim := { program := "ytfafpggppbolkaa", sum := "7f79dbd0b9752a8cdf6307769156e0430e0e493b4f56ee2c62ece67b2382ca36", func := "fusee/fuseelaw3.NvmKeeps", spec := "nvmKeeps", inPlace := ["sync/atomic.AddInt64"], unfollowed := true, recurses := true, apart := false }
def NvmKeepsSaid : Prop := nvmKeepsRow.holds Try.pinned (OpenSpec.ofChange nvmKeepsSpec)

/-- ITS FALSE NEIGHBOUR: 'it returns false'. Refute it at one input. -/
def nvmKeepsWrong : ChangeSpec := { name := "nvmKeeps", fn := fun _ => fun
  | [d1, d2, d3] => { results := [.lit (.bool false)], args := [d1, d2, d3] }
  | _ => none }
def NvmKeepsWrongFalsely : Prop := nvmKeepsRow.holds Try.pinned (OpenSpec.ofChange nvmKeepsWrong)

/-- 'fuseelaw3.NvmFences': WHATEVER THE INPUT: true; the input reads as it did. -/
def nvmFencesSpec : ChangeSpec := { name := "nvmFences", fn := fun _ => fun
  | [d1, d2, d3] => { results := [.lit (.bool true)], args := [d1, d2, d3] }
  | _ => none }
def nvmFencesRow : OpenClaim := { program := "ytfafpggppbolkaa", sum := "7f79dbd0b9752a8cdf6307769156e0430e0e493b4f56ee2c62ece67b2382ca36", func := "fusee/fuseelaw3.NvmFences", spec := "nvmFences", inPlace := ["sync/atomic.AddInt64"], unfollowed := true, recurses := true, apart := false }
def NvmFencesSaid : Prop := nvmFencesRow.holds Try.pinned (OpenSpec.ofChange nvmFencesSpec)

/-- ITS FALSE NEIGHBOUR: 'it returns false'. Refute it at one input. -/
def nvmFencesWrong : ChangeSpec := { name := "nvmFences", fn := fun _ => fun
  | [d1, d2, d3] => { results := [.lit (.bool false)], args := [d1, d2, d3] }
  | _ => none }
def NvmFencesWrongFalsely : Prop := nvmFencesRow.holds Try.pinned (OpenSpec.ofChange nvmFencesWrong)

/-- 'fuseelaw4.GeomReads': WHATEVER THE INPUT: true; the input reads as it did. -/
def geomReadsSpec : ChangeSpec := { name := "geomReads", fn := fun _ => fun
  | [d] => { results := [.lit (.bool true)], args := [d] }
  | _ => none }
def geomReadsRow : OpenClaim := { program := "ytfafpggppbolkaa", sum := "7f79dbd0b9752a8cdf6307769156e0430e0e493b4f56ee2c62ece67b2382ca36", func := "fusee/fuseelaw4.GeomReads", spec := "geomReads", apart := false }
def GeomReadsSaid : Prop := geomReadsRow.holds Try.pinned (OpenSpec.ofChange geomReadsSpec)

/-- ITS FALSE NEIGHBOUR: 'it returns false'. Refute it at one input. -/
def geomReadsWrong : ChangeSpec := { name := "geomReads", fn := fun _ => fun
  | [d] => { results := [.lit (.bool false)], args := [d] }
  | _ => none }
def GeomReadsWrongFalsely : Prop := geomReadsRow.holds Try.pinned (OpenSpec.ofChange geomReadsWrong)

/-- 'fuseelaw3.NvmCuts': WHATEVER THE INPUT: true; the input reads as it did. -/
def nvmCutsSpec : ChangeSpec := { name := "nvmCuts", fn := fun _ => fun
  | [d1, d2] => { results := [.lit (.bool true)], args := [d1, d2] }
  | _ => none }
def nvmCutsRow : OpenClaim := { program := "ytfafpggppbolkaa", sum := "7f79dbd0b9752a8cdf6307769156e0430e0e493b4f56ee2c62ece67b2382ca36", func := "fusee/fuseelaw3.NvmCuts", spec := "nvmCuts", inPlace := ["sync/atomic.AddInt64"], unfollowed := true, recurses := true, apart := false }
def NvmCutsSaid : Prop := nvmCutsRow.holds Try.pinned (OpenSpec.ofChange nvmCutsSpec)

/-- ITS FALSE NEIGHBOUR: 'it returns false'. Refute it at one input. -/
def nvmCutsWrong : ChangeSpec := { name := "nvmCuts", fn := fun _ => fun
  | [d1, d2] => { results := [.lit (.bool false)], args := [d1, d2] }
  | _ => none }
def NvmCutsWrongFalsely : Prop := nvmCutsRow.holds Try.pinned (OpenSpec.ofChange nvmCutsWrong)

/-- 'fuseelaw3.NvmSorted': WHATEVER THE INPUT: true; the input reads as it did. -/
def nvmSortedSpec : ChangeSpec := { name := "nvmSorted", fn := fun _ => fun
  | [d] => { results := [.lit (.bool true)], args := [d] }
  | _ => none }
def nvmSortedRow : OpenClaim := { program := "ytfafpggppbolkaa", sum := "7f79dbd0b9752a8cdf6307769156e0430e0e493b4f56ee2c62ece67b2382ca36", func := "fusee/fuseelaw3.NvmSorted", spec := "nvmSorted", inPlace := ["sync/atomic.AddInt64"], unfollowed := true, recurses := true, apart := false }
def NvmSortedSaid : Prop := nvmSortedRow.holds Try.pinned (OpenSpec.ofChange nvmSortedSpec)

/-- ITS FALSE NEIGHBOUR: 'it returns false'. Refute it at one input. -/
def nvmSortedWrong : ChangeSpec := { name := "nvmSorted", fn := fun _ => fun
  | [d] => { results := [.lit (.bool false)], args := [d] }
  | _ => none }
def NvmSortedWrongFalsely : Prop := nvmSortedRow.holds Try.pinned (OpenSpec.ofChange nvmSortedWrong)

/-- 'fuseelaw4.GeomSlabs': WHATEVER THE INPUT: true; the input reads as it did. -/
def geomSlabsSpec : ChangeSpec := { name := "geomSlabs", fn := fun _ => fun
  | [d1, d2, d3] => { results := [.lit (.bool true)], args := [d1, d2, d3] }
  | _ => none }
def geomSlabsRow : OpenClaim := { program := "ytfafpggppbolkaa", sum := "7f79dbd0b9752a8cdf6307769156e0430e0e493b4f56ee2c62ece67b2382ca36", func := "fusee/fuseelaw4.GeomSlabs", spec := "geomSlabs", apart := false }
def GeomSlabsSaid : Prop := geomSlabsRow.holds Try.pinned (OpenSpec.ofChange geomSlabsSpec)

/-- ITS FALSE NEIGHBOUR: 'it returns false'. Refute it at one input. -/
def geomSlabsWrong : ChangeSpec := { name := "geomSlabs", fn := fun _ => fun
  | [d1, d2, d3] => { results := [.lit (.bool false)], args := [d1, d2, d3] }
  | _ => none }
def GeomSlabsWrongFalsely : Prop := geomSlabsRow.holds Try.pinned (OpenSpec.ofChange geomSlabsWrong)

/-- 'fuseelaw4.GeomApart': WHATEVER THE INPUT: true; the input reads as it did. -/
def geomApartSpec : ChangeSpec := { name := "geomApart", fn := fun _ => fun
  | [d] => { results := [.lit (.bool true)], args := [d] }
  | _ => none }
def geomApartRow : OpenClaim := { program := "ytfafpggppbolkaa", sum := "7f79dbd0b9752a8cdf6307769156e0430e0e493b4f56ee2c62ece67b2382ca36", func := "fusee/fuseelaw4.GeomApart", spec := "geomApart", apart := false }
def GeomApartSaid : Prop := geomApartRow.holds Try.pinned (OpenSpec.ofChange geomApartSpec)

/-- ITS FALSE NEIGHBOUR: 'it returns false'. Refute it at one input. -/
def geomApartWrong : ChangeSpec := { name := "geomApart", fn := fun _ => fun
  | [d] => { results := [.lit (.bool false)], args := [d] }
  | _ => none }
def GeomApartWrongFalsely : Prop := geomApartRow.holds Try.pinned (OpenSpec.ofChange geomApartWrong)

/-- 'fuseelaw4.GeomLines': WHATEVER THE INPUT: true; the input reads as it did. -/
def geomLinesSpec : ChangeSpec := { name := "geomLines", fn := fun _ => fun
  | [d1, d2] => { results := [.lit (.bool true)], args := [d1, d2] }
  | _ => none }
def geomLinesRow : OpenClaim := { program := "ytfafpggppbolkaa", sum := "7f79dbd0b9752a8cdf6307769156e0430e0e493b4f56ee2c62ece67b2382ca36", func := "fusee/fuseelaw4.GeomLines", spec := "geomLines", apart := false }
def GeomLinesSaid : Prop := geomLinesRow.holds Try.pinned (OpenSpec.ofChange geomLinesSpec)

/-- ITS FALSE NEIGHBOUR: 'it returns false'. Refute it at one input. -/
def geomLinesWrong : ChangeSpec := { name := "geomLines", fn := fun _ => fun
  | [d1, d2] => { results := [.lit (.bool false)], args := [d1, d2] }
  | _ => none }
def GeomLinesWrongFalsely : Prop := geomLinesRow.holds Try.pinned (OpenSpec.ofChange geomLinesWrong)

/-- 'fuseelaw4.GeomTurned': WHATEVER THE INPUT: true; the input reads as it did. -/
def geomTurnedSpec : ChangeSpec := { name := "geomTurned", fn := fun _ => fun
  | [d1, d2, d3, d4] => { results := [.lit (.bool true)], args := [d1, d2, d3, d4] }
  | _ => none }
def geomTurnedRow : OpenClaim := { program := "ytfafpggppbolkaa", sum := "7f79dbd0b9752a8cdf6307769156e0430e0e493b4f56ee2c62ece67b2382ca36", func := "fusee/fuseelaw4.GeomTurned", spec := "geomTurned", apart := false }
def GeomTurnedSaid : Prop := geomTurnedRow.holds Try.pinned (OpenSpec.ofChange geomTurnedSpec)

/-- ITS FALSE NEIGHBOUR: 'it returns false'. Refute it at one input. -/
def geomTurnedWrong : ChangeSpec := { name := "geomTurned", fn := fun _ => fun
  | [d1, d2, d3, d4] => { results := [.lit (.bool false)], args := [d1, d2, d3, d4] }
  | _ => none }
def GeomTurnedWrongFalsely : Prop := geomTurnedRow.holds Try.pinned (OpenSpec.ofChange geomTurnedWrong)

/-- 'fuseelaw3.NvmScript': WHATEVER THE INPUT: true; the input reads as it did. -/
def nvmScriptSpec : ChangeSpec := { name := "nvmScript", fn := fun _ => fun
  | [d1, d2] => { results := [.lit (.bool true)], args := [d1, d2] }
  | _ => none }
def nvmScriptRow : OpenClaim := { program := "ytfafpggppbolkaa", sum := "7f79dbd0b9752a8cdf6307769156e0430e0e493b4f56ee2c62ece67b2382ca36", func := "fusee/fuseelaw3.NvmScript", spec := "nvmScript", inPlace := ["sync/atomic.AddInt64", "sync/atomic.LoadInt64", "sync/atomic.StoreInt64"], unfollowed := true, recurses := true, apart := false }
def NvmScriptSaid : Prop := nvmScriptRow.holds Try.pinned (OpenSpec.ofChange nvmScriptSpec)

/-- ITS FALSE NEIGHBOUR: 'it returns false'. Refute it at one input. -/
def nvmScriptWrong : ChangeSpec := { name := "nvmScript", fn := fun _ => fun
  | [d1, d2] => { results := [.lit (.bool false)], args := [d1, d2] }
  | _ => none }
def NvmScriptWrongFalsely : Prop := nvmScriptRow.holds Try.pinned (OpenSpec.ofChange nvmScriptWrong)

/-- 'fuseelaw3.NvmCopies': WHATEVER THE INPUT: true; the input reads as it did. -/
def nvmCopiesSpec : ChangeSpec := { name := "nvmCopies", fn := fun _ => fun
  | [d1, d2] => { results := [.lit (.bool true)], args := [d1, d2] }
  | _ => none }
def nvmCopiesRow : OpenClaim := { program := "ytfafpggppbolkaa", sum := "7f79dbd0b9752a8cdf6307769156e0430e0e493b4f56ee2c62ece67b2382ca36", func := "fusee/fuseelaw3.NvmCopies", spec := "nvmCopies", inPlace := ["sync/atomic.AddInt64", "sync/atomic.LoadInt64", "sync/atomic.StoreInt64"], unfollowed := true, recurses := true, apart := false }
def NvmCopiesSaid : Prop := nvmCopiesRow.holds Try.pinned (OpenSpec.ofChange nvmCopiesSpec)

/-- ITS FALSE NEIGHBOUR: 'it returns false'. Refute it at one input. -/
def nvmCopiesWrong : ChangeSpec := { name := "nvmCopies", fn := fun _ => fun
  | [d1, d2] => { results := [.lit (.bool false)], args := [d1, d2] }
  | _ => none }
def NvmCopiesWrongFalsely : Prop := nvmCopiesRow.holds Try.pinned (OpenSpec.ofChange nvmCopiesWrong)

/-- 'fuseelaw3.NvmNone': WHATEVER THE INPUT: true; the input reads as it did. -/
def nvmNoneSpec : ChangeSpec := { name := "nvmNone", fn := fun _ => fun
  | [d1, d2] => { results := [.lit (.bool true)], args := [d1, d2] }
  | _ => none }
def nvmNoneRow : OpenClaim := { program := "ytfafpggppbolkaa", sum := "7f79dbd0b9752a8cdf6307769156e0430e0e493b4f56ee2c62ece67b2382ca36", func := "fusee/fuseelaw3.NvmNone", spec := "nvmNone", inPlace := ["sync/atomic.AddInt64", "sync/atomic.LoadInt64", "sync/atomic.StoreInt64"], unfollowed := true, recurses := true, apart := false }
def NvmNoneSaid : Prop := nvmNoneRow.holds Try.pinned (OpenSpec.ofChange nvmNoneSpec)

/-- ITS FALSE NEIGHBOUR: 'it returns false'. Refute it at one input. -/
def nvmNoneWrong : ChangeSpec := { name := "nvmNone", fn := fun _ => fun
  | [d1, d2] => { results := [.lit (.bool false)], args := [d1, d2] }
  | _ => none }
def NvmNoneWrongFalsely : Prop := nvmNoneRow.holds Try.pinned (OpenSpec.ofChange nvmNoneWrong)

/-- 'fuseelaw4.GeomOpens': WHATEVER THE INPUT: true; the input reads as it did. -/
def geomOpensSpec : ChangeSpec := { name := "geomOpens", fn := fun _ => fun
  | [d1, d2, d3, d4, d5, d6, d7] => { results := [.lit (.bool true)], args := [d1, d2, d3, d4, d5, d6, d7] }
  | _ => none }
def geomOpensRow : OpenClaim := { program := "ytfafpggppbolkaa", sum := "7f79dbd0b9752a8cdf6307769156e0430e0e493b4f56ee2c62ece67b2382ca36", func := "fusee/fuseelaw4.GeomOpens", spec := "geomOpens", inPlace := ["sync/atomic.AddInt64"], apart := false }
def GeomOpensSaid : Prop := geomOpensRow.holds Try.pinned (OpenSpec.ofChange geomOpensSpec)

/-- ITS FALSE NEIGHBOUR: 'it returns false'. Refute it at one input. -/
def geomOpensWrong : ChangeSpec := { name := "geomOpens", fn := fun _ => fun
  | [d1, d2, d3, d4, d5, d6, d7] => { results := [.lit (.bool false)], args := [d1, d2, d3, d4, d5, d6, d7] }
  | _ => none }
def GeomOpensWrongFalsely : Prop := geomOpensRow.holds Try.pinned (OpenSpec.ofChange geomOpensWrong)

/- THE SECOND FORM. 'bulk': how many values and letters a reading holds, each counted each time it is reached (what is shared counts as often as it is met; a slice's spare places count too). A statement '..UptoSaid' is the law's where the arguments, and the package variables that the reading takes, are together of bulk at most 1048576: NARROWER than '..Said'. Prove '..Said' where nothing that the law and all that it calls make is longer than what came in: it says more and counts as full. Else prove '..UptoSaid'. A law counts once. -/
mutual
def uptoBulk {H : Type} : DataW H → Nat
  | .lit (.string bytes) => bytes.length + 1
  | .lit _ => 1
  | .nil => 1
  | .ptr d => uptoBulk d + 1
  | .slice elems spare => uptoBulkAll elems + uptoBulkAll spare + 1
  | .agg parts => uptoBulkAll parts + 1
  | .iface _ d => uptoBulk d + 1
  | .map entries => uptoBulkEntries entries + 1
  | .held _ => 1
def uptoBulkAll {H : Type} : List (DataW H) → Nat
  | [] => 0
  | d :: r => uptoBulk d + uptoBulkAll r
def uptoBulkEntries {H : Type} : List (Lit × DataW H) → Nat
  | [] => 0
  | x :: r => uptoBulkEntry x + uptoBulkEntries r
def uptoBulkEntry {H : Type} : Lit × DataW H → Nat
  | (.string bytes, d) => bytes.length + uptoBulk d + 1
  | (_, d) => uptoBulk d + 1
 end
def uptoSmall : (H : Type) → List (DataW H) → Bool := fun _ ds => decide (uptoBulkAll ds ≤ 1048576)
def OpenSpec.upto (s : _root_.Go.ChangeSpec) : _root_.Go.OpenSpec := { _root_.Go.OpenSpec.ofChange s with cond := some uptoSmall }

/-- 'fuseelaw3.NvmKeeps', WHERE WHAT IT READS IS OF BULK AT MOST 1048576: true; the input reads as it did. -/
def nvmKeepsUptoRow : OpenClaim := { program := "ytfafpggppbolkaa", sum := "7f79dbd0b9752a8cdf6307769156e0430e0e493b4f56ee2c62ece67b2382ca36", func := "fusee/fuseelaw3.NvmKeeps", spec := "nvmKeeps", inPlace := ["sync/atomic.AddInt64"], unfollowed := true, recurses := true, apart := false, narrowed := true }
def NvmKeepsUptoSaid : Prop := nvmKeepsUptoRow.holds Try.pinned (OpenSpec.upto nvmKeepsSpec)

/-- 'fuseelaw3.NvmFences', WHERE WHAT IT READS IS OF BULK AT MOST 1048576: true; the input reads as it did. -/
def nvmFencesUptoRow : OpenClaim := { program := "ytfafpggppbolkaa", sum := "7f79dbd0b9752a8cdf6307769156e0430e0e493b4f56ee2c62ece67b2382ca36", func := "fusee/fuseelaw3.NvmFences", spec := "nvmFences", inPlace := ["sync/atomic.AddInt64"], unfollowed := true, recurses := true, apart := false, narrowed := true }
def NvmFencesUptoSaid : Prop := nvmFencesUptoRow.holds Try.pinned (OpenSpec.upto nvmFencesSpec)

/-- 'fuseelaw4.GeomReads', WHERE WHAT IT READS IS OF BULK AT MOST 1048576: true; the input reads as it did. -/
def geomReadsUptoRow : OpenClaim := { program := "ytfafpggppbolkaa", sum := "7f79dbd0b9752a8cdf6307769156e0430e0e493b4f56ee2c62ece67b2382ca36", func := "fusee/fuseelaw4.GeomReads", spec := "geomReads", apart := false, narrowed := true }
def GeomReadsUptoSaid : Prop := geomReadsUptoRow.holds Try.pinned (OpenSpec.upto geomReadsSpec)

/-- 'fuseelaw3.NvmCuts', WHERE WHAT IT READS IS OF BULK AT MOST 1048576: true; the input reads as it did. -/
def nvmCutsUptoRow : OpenClaim := { program := "ytfafpggppbolkaa", sum := "7f79dbd0b9752a8cdf6307769156e0430e0e493b4f56ee2c62ece67b2382ca36", func := "fusee/fuseelaw3.NvmCuts", spec := "nvmCuts", inPlace := ["sync/atomic.AddInt64"], unfollowed := true, recurses := true, apart := false, narrowed := true }
def NvmCutsUptoSaid : Prop := nvmCutsUptoRow.holds Try.pinned (OpenSpec.upto nvmCutsSpec)

/-- 'fuseelaw3.NvmSorted', WHERE WHAT IT READS IS OF BULK AT MOST 1048576: true; the input reads as it did. -/
def nvmSortedUptoRow : OpenClaim := { program := "ytfafpggppbolkaa", sum := "7f79dbd0b9752a8cdf6307769156e0430e0e493b4f56ee2c62ece67b2382ca36", func := "fusee/fuseelaw3.NvmSorted", spec := "nvmSorted", inPlace := ["sync/atomic.AddInt64"], unfollowed := true, recurses := true, apart := false, narrowed := true }
def NvmSortedUptoSaid : Prop := nvmSortedUptoRow.holds Try.pinned (OpenSpec.upto nvmSortedSpec)

/-- 'fuseelaw4.GeomSlabs', WHERE WHAT IT READS IS OF BULK AT MOST 1048576: true; the input reads as it did. -/
def geomSlabsUptoRow : OpenClaim := { program := "ytfafpggppbolkaa", sum := "7f79dbd0b9752a8cdf6307769156e0430e0e493b4f56ee2c62ece67b2382ca36", func := "fusee/fuseelaw4.GeomSlabs", spec := "geomSlabs", apart := false, narrowed := true }
def GeomSlabsUptoSaid : Prop := geomSlabsUptoRow.holds Try.pinned (OpenSpec.upto geomSlabsSpec)

/-- 'fuseelaw4.GeomApart', WHERE WHAT IT READS IS OF BULK AT MOST 1048576: true; the input reads as it did. -/
def geomApartUptoRow : OpenClaim := { program := "ytfafpggppbolkaa", sum := "7f79dbd0b9752a8cdf6307769156e0430e0e493b4f56ee2c62ece67b2382ca36", func := "fusee/fuseelaw4.GeomApart", spec := "geomApart", apart := false, narrowed := true }
def GeomApartUptoSaid : Prop := geomApartUptoRow.holds Try.pinned (OpenSpec.upto geomApartSpec)

/-- 'fuseelaw4.GeomLines', WHERE WHAT IT READS IS OF BULK AT MOST 1048576: true; the input reads as it did. -/
def geomLinesUptoRow : OpenClaim := { program := "ytfafpggppbolkaa", sum := "7f79dbd0b9752a8cdf6307769156e0430e0e493b4f56ee2c62ece67b2382ca36", func := "fusee/fuseelaw4.GeomLines", spec := "geomLines", apart := false, narrowed := true }
def GeomLinesUptoSaid : Prop := geomLinesUptoRow.holds Try.pinned (OpenSpec.upto geomLinesSpec)

/-- 'fuseelaw4.GeomTurned', WHERE WHAT IT READS IS OF BULK AT MOST 1048576: true; the input reads as it did. -/
def geomTurnedUptoRow : OpenClaim := { program := "ytfafpggppbolkaa", sum := "7f79dbd0b9752a8cdf6307769156e0430e0e493b4f56ee2c62ece67b2382ca36", func := "fusee/fuseelaw4.GeomTurned", spec := "geomTurned", apart := false, narrowed := true }
def GeomTurnedUptoSaid : Prop := geomTurnedUptoRow.holds Try.pinned (OpenSpec.upto geomTurnedSpec)

/-- 'fuseelaw3.NvmScript', WHERE WHAT IT READS IS OF BULK AT MOST 1048576: true; the input reads as it did. -/
def nvmScriptUptoRow : OpenClaim := { program := "ytfafpggppbolkaa", sum := "7f79dbd0b9752a8cdf6307769156e0430e0e493b4f56ee2c62ece67b2382ca36", func := "fusee/fuseelaw3.NvmScript", spec := "nvmScript", inPlace := ["sync/atomic.AddInt64", "sync/atomic.LoadInt64", "sync/atomic.StoreInt64"], unfollowed := true, recurses := true, apart := false, narrowed := true }
def NvmScriptUptoSaid : Prop := nvmScriptUptoRow.holds Try.pinned (OpenSpec.upto nvmScriptSpec)

/-- 'fuseelaw3.NvmCopies', WHERE WHAT IT READS IS OF BULK AT MOST 1048576: true; the input reads as it did. -/
def nvmCopiesUptoRow : OpenClaim := { program := "ytfafpggppbolkaa", sum := "7f79dbd0b9752a8cdf6307769156e0430e0e493b4f56ee2c62ece67b2382ca36", func := "fusee/fuseelaw3.NvmCopies", spec := "nvmCopies", inPlace := ["sync/atomic.AddInt64", "sync/atomic.LoadInt64", "sync/atomic.StoreInt64"], unfollowed := true, recurses := true, apart := false, narrowed := true }
def NvmCopiesUptoSaid : Prop := nvmCopiesUptoRow.holds Try.pinned (OpenSpec.upto nvmCopiesSpec)

/-- 'fuseelaw3.NvmNone', WHERE WHAT IT READS IS OF BULK AT MOST 1048576: true; the input reads as it did. -/
def nvmNoneUptoRow : OpenClaim := { program := "ytfafpggppbolkaa", sum := "7f79dbd0b9752a8cdf6307769156e0430e0e493b4f56ee2c62ece67b2382ca36", func := "fusee/fuseelaw3.NvmNone", spec := "nvmNone", inPlace := ["sync/atomic.AddInt64", "sync/atomic.LoadInt64", "sync/atomic.StoreInt64"], unfollowed := true, recurses := true, apart := false, narrowed := true }
def NvmNoneUptoSaid : Prop := nvmNoneUptoRow.holds Try.pinned (OpenSpec.upto nvmNoneSpec)

/-- 'fuseelaw4.GeomOpens', WHERE WHAT IT READS IS OF BULK AT MOST 1048576: true; the input reads as it did. -/
def geomOpensUptoRow : OpenClaim := { program := "ytfafpggppbolkaa", sum := "7f79dbd0b9752a8cdf6307769156e0430e0e493b4f56ee2c62ece67b2382ca36", func := "fusee/fuseelaw4.GeomOpens", spec := "geomOpens", inPlace := ["sync/atomic.AddInt64"], apart := false, narrowed := true }
def GeomOpensUptoSaid : Prop := geomOpensUptoRow.holds Try.pinned (OpenSpec.upto geomOpensSpec)

end Rows
end Go.Proofs.Ytfafpggppbolkaa
