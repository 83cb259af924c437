/-
  No cell of these rows narrows 'for every input' (looked for: loops, veiled, ifaces, maps, wideKeys, modest, calm, conditions, laid).
  DERIVED. THE GIVEN ROWS OF THIS SEAT. 5 by the template 'for every input the law returns true; each argument reads behind the call as it read before'; 0 by the template 'total and deterministic' (their statements: YtecdalmnndalgaaTotals.lean).
  GIVEN WITH THE SEED: the statements are not yours to turn. If you find one false, say at which input.
  Laid BY PROGRAM, IN A SANDBOX (cutbox-rows.mjs): the forced cells as the released guide's own fill.sh prints them over the translation 089817f47b114324… (all of the seat's roots in one cut). By AI agents, Wed Nov 11 2026. No macro, syntax, notation, axiom, sorry.
-/
import Derived.Test.YtecdalmnndalgaaChecked
import GoSem.Claim
import GoSem.ClaimJoined
import GoSem.ClaimMapViews
import Derived.JoinedTies
import Derived.KernelRfl
namespace Go.Proofs.Ytecdalmnndalgaa
/- THE CELL 'sum', in the pinned program and in every row, IS THE sha256 OF THE DUMP (.gsa) THAT YtecdalmnndalgaaProg.lean LOADS. Nothing in Lean hashes anything: it is a label: what it is worth is what the hold of that sum in a sandbox is worth. -/
noncomputable def Try.pinned : Pinned := { name := "ytecdalmnndalgaa", sum := "089817f47b1143248a99930c5037c4edbe5cd8318b13efdeceb7ca65e8a9c3ce", checked := Try.checked }
namespace Rows
def none {H : Type} : Left H := { results := [], args := [] }

/-- 'fuseelaw9.DurableLag': WHATEVER THE INPUT: true; the input reads as it did. -/
def durableLagSpec : ChangeSpec := { name := "durableLag", fn := fun _ => fun
  | [d] => { results := [.lit (.bool true)], args := [d] }
  | _ => none }
def durableLagRow : OpenClaim := { program := "ytecdalmnndalgaa", sum := "089817f47b1143248a99930c5037c4edbe5cd8318b13efdeceb7ca65e8a9c3ce", func := "fusee/fuseelaw9.DurableLag", spec := "durableLag", inPlace := ["sync/atomic.StoreUint64", "sync/atomic.LoadUint64", "sync/atomic.CompareAndSwapUint64", "sync/atomic.AddInt64"], unfollowed := true, recurses := true, apart := false }
def DurableLagSaid : Prop := durableLagRow.holds Try.pinned (OpenSpec.ofChange durableLagSpec)

/-- ITS FALSE NEIGHBOUR: 'it returns false'. Refute it at one input. -/
def durableLagWrong : ChangeSpec := { name := "durableLag", fn := fun _ => fun
  | [d] => { results := [.lit (.bool false)], args := [d] }
  | _ => none }
def DurableLagWrongFalsely : Prop := durableLagRow.holds Try.pinned (OpenSpec.ofChange durableLagWrong)

/-- 'fuseelaw9.DurableNone': WHATEVER THE INPUT: true; the input reads as it did. -/
def durableNoneSpec : ChangeSpec := { name := "durableNone", fn := fun _ => fun
  | [d1, d2] => { results := [.lit (.bool true)], args := [d1, d2] }
  | _ => none }
def durableNoneRow : OpenClaim := { program := "ytecdalmnndalgaa", sum := "089817f47b1143248a99930c5037c4edbe5cd8318b13efdeceb7ca65e8a9c3ce", func := "fusee/fuseelaw9.DurableNone", spec := "durableNone", inPlace := ["sync/atomic.LoadUint64", "sync/atomic.CompareAndSwapUint64", "sync/atomic.StoreUint64", "sync/atomic.AddInt64"], unfollowed := true, recurses := true, apart := false }
def DurableNoneSaid : Prop := durableNoneRow.holds Try.pinned (OpenSpec.ofChange durableNoneSpec)

/-- ITS FALSE NEIGHBOUR: 'it returns false'. Refute it at one input. -/
def durableNoneWrong : ChangeSpec := { name := "durableNone", fn := fun _ => fun
  | [d1, d2] => { results := [.lit (.bool false)], args := [d1, d2] }
  | _ => none }
def DurableNoneWrongFalsely : Prop := durableNoneRow.holds Try.pinned (OpenSpec.ofChange durableNoneWrong)

/-- 'fuseelaw9.DurableCloses': WHATEVER THE INPUT: true; the input reads as it did. -/
def durableClosesSpec : ChangeSpec := { name := "durableCloses", fn := fun _ => fun
  | [d1, d2] => { results := [.lit (.bool true)], args := [d1, d2] }
  | _ => none }
def durableClosesRow : OpenClaim := { program := "ytecdalmnndalgaa", sum := "089817f47b1143248a99930c5037c4edbe5cd8318b13efdeceb7ca65e8a9c3ce", func := "fusee/fuseelaw9.DurableCloses", spec := "durableCloses", inPlace := ["sync/atomic.StoreUint64", "sync/atomic.LoadUint64", "sync/atomic.CompareAndSwapUint64", "sync/atomic.AddInt64"], unfollowed := true, recurses := true, apart := false }
def DurableClosesSaid : Prop := durableClosesRow.holds Try.pinned (OpenSpec.ofChange durableClosesSpec)

/-- ITS FALSE NEIGHBOUR: 'it returns false'. Refute it at one input. -/
def durableClosesWrong : ChangeSpec := { name := "durableCloses", fn := fun _ => fun
  | [d1, d2] => { results := [.lit (.bool false)], args := [d1, d2] }
  | _ => none }
def DurableClosesWrongFalsely : Prop := durableClosesRow.holds Try.pinned (OpenSpec.ofChange durableClosesWrong)

/-- 'fuseelaw9.DurableScript': WHATEVER THE INPUT: true; the input reads as it did. -/
def durableScriptSpec : ChangeSpec := { name := "durableScript", fn := fun _ => fun
  | [d1, d2, d3, d4] => { results := [.lit (.bool true)], args := [d1, d2, d3, d4] }
  | _ => none }
def durableScriptRow : OpenClaim := { program := "ytecdalmnndalgaa", sum := "089817f47b1143248a99930c5037c4edbe5cd8318b13efdeceb7ca65e8a9c3ce", func := "fusee/fuseelaw9.DurableScript", spec := "durableScript", inPlace := ["sync/atomic.StoreUint64", "sync/atomic.LoadUint64", "sync/atomic.CompareAndSwapUint64", "sync/atomic.AddInt64"], unfollowed := true, recurses := true, apart := false }
def DurableScriptSaid : Prop := durableScriptRow.holds Try.pinned (OpenSpec.ofChange durableScriptSpec)

/-- ITS FALSE NEIGHBOUR: 'it returns false'. Refute it at one input. -/
def durableScriptWrong : ChangeSpec := { name := "durableScript", fn := fun _ => fun
  | [d1, d2, d3, d4] => { results := [.lit (.bool false)], args := [d1, d2, d3, d4] }
  | _ => none }
def DurableScriptWrongFalsely : Prop := durableScriptRow.holds Try.pinned (OpenSpec.ofChange durableScriptWrong)

/-- 'fuseelaw9.DurableOrder': WHATEVER THE INPUT: true; the input reads as it did. -/
def durableOrderSpec : ChangeSpec := { name := "durableOrder", fn := fun _ => fun
  | [d1, d2] => { results := [.lit (.bool true)], args := [d1, d2] }
  | _ => none }
def durableOrderRow : OpenClaim := { program := "ytecdalmnndalgaa", sum := "089817f47b1143248a99930c5037c4edbe5cd8318b13efdeceb7ca65e8a9c3ce", func := "fusee/fuseelaw9.DurableOrder", spec := "durableOrder", inPlace := ["sync/atomic.StoreUint64", "sync/atomic.LoadUint64", "sync/atomic.CompareAndSwapUint64", "sync/atomic.AddInt64"], unfollowed := true, recurses := true, apart := false }
def DurableOrderSaid : Prop := durableOrderRow.holds Try.pinned (OpenSpec.ofChange durableOrderSpec)

/-- ITS FALSE NEIGHBOUR: 'it returns false'. Refute it at one input. -/
def durableOrderWrong : ChangeSpec := { name := "durableOrder", fn := fun _ => fun
  | [d1, d2] => { results := [.lit (.bool false)], args := [d1, d2] }
  | _ => none }
def DurableOrderWrongFalsely : Prop := durableOrderRow.holds Try.pinned (OpenSpec.ofChange durableOrderWrong)

/- THE SECOND FORM. 'bulk': how many values and letters a reading holds, each counted each time it is reached (what is shared counts as often as it is met; a slice's spare places count too). A statement '..UptoSaid' is the law's where the arguments, and the package variables that the reading takes, are together of bulk at most 1048576: NARROWER than '..Said'. Prove '..Said' where nothing that the law and all that it calls make is longer than what came in: it says more and counts as full. Else prove '..UptoSaid'. A law counts once. -/
mutual
def uptoBulk {H : Type} : DataW H → Nat
  | .lit (.string bytes) => bytes.length + 1
  | .lit _ => 1
  | .nil => 1
  | .ptr d => uptoBulk d + 1
  | .slice elems spare => uptoBulkAll elems + uptoBulkAll spare + 1
  | .agg parts => uptoBulkAll parts + 1
  | .iface _ d => uptoBulk d + 1
  | .map entries => uptoBulkEntries entries + 1
  | .held _ => 1
def uptoBulkAll {H : Type} : List (DataW H) → Nat
  | [] => 0
  | d :: r => uptoBulk d + uptoBulkAll r
def uptoBulkEntries {H : Type} : List (Lit × DataW H) → Nat
  | [] => 0
  | x :: r => uptoBulkEntry x + uptoBulkEntries r
def uptoBulkEntry {H : Type} : Lit × DataW H → Nat
  | (.string bytes, d) => bytes.length + uptoBulk d + 1
  | (_, d) => uptoBulk d + 1
 end
def uptoSmall : (H : Type) → List (DataW H) → Bool := fun _ ds => decide (uptoBulkAll ds ≤ 1048576)
def OpenSpec.upto (s : _root_.Go.ChangeSpec) : _root_.Go.OpenSpec := { _root_.Go.OpenSpec.ofChange s with cond := some uptoSmall }

/-- 'fuseelaw9.DurableLag', WHERE WHAT IT READS IS OF BULK AT MOST 1048576: true; the input reads as it did. -/
def durableLagUptoRow : OpenClaim := { program := "ytecdalmnndalgaa", sum := "089817f47b1143248a99930c5037c4edbe5cd8318b13efdeceb7ca65e8a9c3ce", func := "fusee/fuseelaw9.DurableLag", spec := "durableLag", inPlace := ["sync/atomic.StoreUint64", "sync/atomic.LoadUint64", "sync/atomic.CompareAndSwapUint64", "sync/atomic.AddInt64"], unfollowed := true, recurses := true, apart := false, narrowed := true }
def DurableLagUptoSaid : Prop := durableLagUptoRow.holds Try.pinned (OpenSpec.upto durableLagSpec)

/-- 'fuseelaw9.DurableNone', WHERE WHAT IT READS IS OF BULK AT MOST 1048576: true; the input reads as it did. -/
def durableNoneUptoRow : OpenClaim := { program := "ytecdalmnndalgaa", sum := "089817f47b1143248a99930c5037c4edbe5cd8318b13efdeceb7ca65e8a9c3ce", func := "fusee/fuseelaw9.DurableNone", spec := "durableNone", inPlace := ["sync/atomic.LoadUint64", "sync/atomic.CompareAndSwapUint64", "sync/atomic.StoreUint64", "sync/atomic.AddInt64"], unfollowed := true, recurses := true, apart := false, narrowed := true }
def DurableNoneUptoSaid : Prop := durableNoneUptoRow.holds Try.pinned (OpenSpec.upto durableNoneSpec)

/-- 'fuseelaw9.DurableCloses', WHERE WHAT IT READS IS OF BULK AT MOST 1048576: true; the input reads as it did. -/
def durableClosesUptoRow : OpenClaim := { program := "ytecdalmnndalgaa", sum := "089817f47b1143248a99930c5037c4edbe5cd8318b13efdeceb7ca65e8a9c3ce", func := "fusee/fuseelaw9.DurableCloses", spec := "durableCloses", inPlace := ["sync/atomic.StoreUint64", "sync/atomic.LoadUint64", "sync/atomic.CompareAndSwapUint64", "sync/atomic.AddInt64"], unfollowed := true, recurses := true, apart := false, narrowed := true }
def DurableClosesUptoSaid : Prop := durableClosesUptoRow.holds Try.pinned (OpenSpec.upto durableClosesSpec)

/-- 'fuseelaw9.DurableScript', WHERE WHAT IT READS IS OF BULK AT MOST 1048576: true; the input reads as it did. -/
def durableScriptUptoRow : OpenClaim := { program := "ytecdalmnndalgaa", sum := "089817f47b1143248a99930c5037c4edbe5cd8318b13efdeceb7ca65e8a9c3ce", func := "fusee/fuseelaw9.DurableScript", spec := "durableScript", inPlace := ["sync/atomic.StoreUint64", "sync/atomic.LoadUint64", "sync/atomic.CompareAndSwapUint64", "sync/atomic.AddInt64"], unfollowed := true, recurses := true, apart := false, narrowed := true }
def DurableScriptUptoSaid : Prop := durableScriptUptoRow.holds Try.pinned (OpenSpec.upto durableScriptSpec)

/-- 'fuseelaw9.DurableOrder', WHERE WHAT IT READS IS OF BULK AT MOST 1048576: true; the input reads as it did. -/
def durableOrderUptoRow : OpenClaim := { program := "ytecdalmnndalgaa", sum := "089817f47b1143248a99930c5037c4edbe5cd8318b13efdeceb7ca65e8a9c3ce", func := "fusee/fuseelaw9.DurableOrder", spec := "durableOrder", inPlace := ["sync/atomic.StoreUint64", "sync/atomic.LoadUint64", "sync/atomic.CompareAndSwapUint64", "sync/atomic.AddInt64"], unfollowed := true, recurses := true, apart := false, narrowed := true }
def DurableOrderUptoSaid : Prop := durableOrderUptoRow.holds Try.pinned (OpenSpec.upto durableOrderSpec)

end Rows
end Go.Proofs.Ytecdalmnndalgaa
