/-
  No cell of these rows narrows 'for every input' (looked for: loops, veiled, ifaces, maps, wideKeys, modest, calm, conditions, laid).
  DERIVED. THE GIVEN ROWS OF THIS SEAT. 9 by the template 'for every input the law returns true; each argument reads behind the call as it read before'; 0 by the template 'total and deterministic' (their statements: YtlggichakafkiaaGreatTotals.lean).
  GIVEN WITH THE SEED: the statements are not yours to turn. If you find one false, say at which input.
  Laid BY PROGRAM, IN A SANDBOX (cutbox-rows.mjs): the forced cells as the released guide's own fill.sh prints them over the translation f8d60e3526ec0eb8… (all of the seat's roots in one cut). By AI agents, Wed Nov 11 2026. No macro, syntax, notation, axiom, sorry.
-/
import Derived.Test.YtlggichakafkiaaGreatChecked
import GoSem.Claim
import GoSem.ClaimJoined
import GoSem.ClaimMapViews
import Derived.JoinedTies
import Derived.KernelRfl
namespace Go.Proofs.YtlggichakafkiaaGreat
/- THE CELL 'sum', in the pinned program and in every row, IS THE sha256 OF THE DUMP (.gsa) THAT YtlggichakafkiaaGreatProg.lean LOADS. Nothing in Lean hashes anything: it is a label: what it is worth is what the hold of that sum in a sandbox is worth. -/
noncomputable def Tryz.pinned : Pinned := { name := "ytlggichakafkiaagreat", sum := "f8d60e3526ec0eb8eb3dd071e97cf457e0c4fcf5ad7024c493248b541d341295", checked := Tryz.checked }
namespace Rows
def none {H : Type} : Left H := { results := [], args := [] }

/-- 'fuseetop.TopLost': WHATEVER THE INPUT: true; the input reads as it did. -/
def topLostSpec : ChangeSpec := { name := "topLost", fn := fun _ => fun
  | [d1, d2, d3, d4] => { results := [.lit (.bool true)], args := [d1, d2, d3, d4] }
  | _ => none }
def topLostRow : OpenClaim := { program := "ytlggichakafkiaagreat", sum := "f8d60e3526ec0eb8eb3dd071e97cf457e0c4fcf5ad7024c493248b541d341295", func := "fusee/fuseetop.TopLost", spec := "topLost", inPlace := ["sync/atomic.StoreUint64", "sync/atomic.AddInt64", "sync/atomic.LoadUint32", "(*internal/sync.Mutex).Lock", "internal/race.Disable", "sync/atomic.CompareAndSwapInt32", "internal/race.Enable", "internal/race.Acquire", "(*internal/sync.Mutex).lockSlow", "internal/sync.runtime_canSpin", "internal/sync.runtime_doSpin", "internal/sync.throw", "internal/sync.runtime_nanotime", "internal/sync.runtime_SemacquireMutex", "sync/atomic.AddInt32", "(*internal/sync.Mutex).Unlock", "internal/race.ReleaseMerge", "(*internal/sync.Mutex).unlockSlow", "internal/sync.fatal", "internal/sync.runtime_Semrelease", "sync/atomic.StoreUint32", "sync/atomic.LoadUint64", "sync/atomic.CompareAndSwapUint64", "internal/bytealg.abigen_runtime_cmpstring", "sync/atomic.AddUint64", "slices.overlaps[fusee/api.Link]", "sync/atomic.SwapUint64"], unfollowed := true, recurses := true, apart := false }
def TopLostSaid : Prop := topLostRow.holds Tryz.pinned (OpenSpec.ofChange topLostSpec)

/-- ITS FALSE NEIGHBOUR: 'it returns false'. Refute it at one input. -/
def topLostWrong : ChangeSpec := { name := "topLost", fn := fun _ => fun
  | [d1, d2, d3, d4] => { results := [.lit (.bool false)], args := [d1, d2, d3, d4] }
  | _ => none }
def TopLostWrongFalsely : Prop := topLostRow.holds Tryz.pinned (OpenSpec.ofChange topLostWrong)

/-- 'fuseetop.TopScans': WHATEVER THE INPUT: true; the input reads as it did. -/
def topScansSpec : ChangeSpec := { name := "topScans", fn := fun _ => fun
  | [d1, d2, d3, d4, d5] => { results := [.lit (.bool true)], args := [d1, d2, d3, d4, d5] }
  | _ => none }
def topScansRow : OpenClaim := { program := "ytlggichakafkiaagreat", sum := "f8d60e3526ec0eb8eb3dd071e97cf457e0c4fcf5ad7024c493248b541d341295", func := "fusee/fuseetop.TopScans", spec := "topScans", inPlace := ["sync/atomic.StoreUint64", "sync/atomic.AddInt64", "sync/atomic.LoadUint32", "(*internal/sync.Mutex).Lock", "internal/race.Disable", "sync/atomic.CompareAndSwapInt32", "internal/race.Enable", "internal/race.Acquire", "(*internal/sync.Mutex).lockSlow", "internal/sync.runtime_canSpin", "internal/sync.runtime_doSpin", "internal/sync.throw", "internal/sync.runtime_nanotime", "internal/sync.runtime_SemacquireMutex", "sync/atomic.AddInt32", "(*internal/sync.Mutex).Unlock", "internal/race.ReleaseMerge", "(*internal/sync.Mutex).unlockSlow", "internal/sync.fatal", "internal/sync.runtime_Semrelease", "sync/atomic.StoreUint32", "sync/atomic.LoadUint64", "sync/atomic.CompareAndSwapUint64", "internal/bytealg.abigen_runtime_cmpstring", "sync/atomic.AddUint64", "slices.overlaps[fusee/api.Link]", "sync/atomic.SwapUint64"], unfollowed := true, recurses := true, apart := false }
def TopScansSaid : Prop := topScansRow.holds Tryz.pinned (OpenSpec.ofChange topScansSpec)

/-- ITS FALSE NEIGHBOUR: 'it returns false'. Refute it at one input. -/
def topScansWrong : ChangeSpec := { name := "topScans", fn := fun _ => fun
  | [d1, d2, d3, d4, d5] => { results := [.lit (.bool false)], args := [d1, d2, d3, d4, d5] }
  | _ => none }
def TopScansWrongFalsely : Prop := topScansRow.holds Tryz.pinned (OpenSpec.ofChange topScansWrong)

/-- 'fuseetop.TopHostile': WHATEVER THE INPUT: true; the input reads as it did. -/
def topHostileSpec : ChangeSpec := { name := "topHostile", fn := fun _ => fun
  | [d1, d2, d3, d4, d5] => { results := [.lit (.bool true)], args := [d1, d2, d3, d4, d5] }
  | _ => none }
def topHostileRow : OpenClaim := { program := "ytlggichakafkiaagreat", sum := "f8d60e3526ec0eb8eb3dd071e97cf457e0c4fcf5ad7024c493248b541d341295", func := "fusee/fuseetop.TopHostile", spec := "topHostile", inPlace := ["sync/atomic.StoreUint64", "sync/atomic.AddInt64", "sync/atomic.LoadUint32", "(*internal/sync.Mutex).Lock", "internal/race.Disable", "sync/atomic.CompareAndSwapInt32", "internal/race.Enable", "internal/race.Acquire", "(*internal/sync.Mutex).lockSlow", "internal/sync.runtime_canSpin", "internal/sync.runtime_doSpin", "internal/sync.throw", "internal/sync.runtime_nanotime", "internal/sync.runtime_SemacquireMutex", "sync/atomic.AddInt32", "(*internal/sync.Mutex).Unlock", "internal/race.ReleaseMerge", "(*internal/sync.Mutex).unlockSlow", "internal/sync.fatal", "internal/sync.runtime_Semrelease", "sync/atomic.StoreUint32", "sync/atomic.LoadUint64", "sync/atomic.CompareAndSwapUint64", "internal/bytealg.abigen_runtime_cmpstring", "sync/atomic.AddUint64", "slices.overlaps[fusee/api.Link]", "sync/atomic.SwapUint64", "sync/atomic.LoadInt64", "sync/atomic.StoreInt64"], unfollowed := true, recurses := true, apart := false }
def TopHostileSaid : Prop := topHostileRow.holds Tryz.pinned (OpenSpec.ofChange topHostileSpec)

/-- ITS FALSE NEIGHBOUR: 'it returns false'. Refute it at one input. -/
def topHostileWrong : ChangeSpec := { name := "topHostile", fn := fun _ => fun
  | [d1, d2, d3, d4, d5] => { results := [.lit (.bool false)], args := [d1, d2, d3, d4, d5] }
  | _ => none }
def TopHostileWrongFalsely : Prop := topHostileRow.holds Tryz.pinned (OpenSpec.ofChange topHostileWrong)

/-- 'fuseetop.TopCosts': WHATEVER THE INPUT: true; the input reads as it did. -/
def topCostsSpec : ChangeSpec := { name := "topCosts", fn := fun _ => fun
  | [d1, d2, d3] => { results := [.lit (.bool true)], args := [d1, d2, d3] }
  | _ => none }
def topCostsRow : OpenClaim := { program := "ytlggichakafkiaagreat", sum := "f8d60e3526ec0eb8eb3dd071e97cf457e0c4fcf5ad7024c493248b541d341295", func := "fusee/fuseetop.TopCosts", spec := "topCosts", inPlace := ["sync/atomic.StoreUint64", "sync/atomic.AddInt64", "sync/atomic.LoadUint32", "(*internal/sync.Mutex).Lock", "internal/race.Disable", "sync/atomic.CompareAndSwapInt32", "internal/race.Enable", "internal/race.Acquire", "(*internal/sync.Mutex).lockSlow", "internal/sync.runtime_canSpin", "internal/sync.runtime_doSpin", "internal/sync.throw", "internal/sync.runtime_nanotime", "internal/sync.runtime_SemacquireMutex", "sync/atomic.AddInt32", "(*internal/sync.Mutex).Unlock", "internal/race.ReleaseMerge", "(*internal/sync.Mutex).unlockSlow", "internal/sync.fatal", "internal/sync.runtime_Semrelease", "sync/atomic.StoreUint32", "sync/atomic.LoadUint64", "sync/atomic.CompareAndSwapUint64", "internal/bytealg.abigen_runtime_cmpstring", "sync/atomic.AddUint64", "slices.overlaps[fusee/api.Link]", "sync/atomic.SwapUint64", "sync/atomic.LoadInt64", "sync/atomic.StoreInt64"], unfollowed := true, recurses := true, apart := false }
def TopCostsSaid : Prop := topCostsRow.holds Tryz.pinned (OpenSpec.ofChange topCostsSpec)

/-- ITS FALSE NEIGHBOUR: 'it returns false'. Refute it at one input. -/
def topCostsWrong : ChangeSpec := { name := "topCosts", fn := fun _ => fun
  | [d1, d2, d3] => { results := [.lit (.bool false)], args := [d1, d2, d3] }
  | _ => none }
def TopCostsWrongFalsely : Prop := topCostsRow.holds Tryz.pinned (OpenSpec.ofChange topCostsWrong)

/-- 'fuseetop.TopClock': WHATEVER THE INPUT: true; the input reads as it did. -/
def topClockSpec : ChangeSpec := { name := "topClock", fn := fun _ => fun
  | [d1, d2, d3] => { results := [.lit (.bool true)], args := [d1, d2, d3] }
  | _ => none }
def topClockRow : OpenClaim := { program := "ytlggichakafkiaagreat", sum := "f8d60e3526ec0eb8eb3dd071e97cf457e0c4fcf5ad7024c493248b541d341295", func := "fusee/fuseetop.TopClock", spec := "topClock", inPlace := ["sync/atomic.StoreUint64", "sync/atomic.AddInt64", "sync/atomic.LoadUint32", "(*internal/sync.Mutex).Lock", "internal/race.Disable", "sync/atomic.CompareAndSwapInt32", "internal/race.Enable", "internal/race.Acquire", "(*internal/sync.Mutex).lockSlow", "internal/sync.runtime_canSpin", "internal/sync.runtime_doSpin", "internal/sync.throw", "internal/sync.runtime_nanotime", "internal/sync.runtime_SemacquireMutex", "sync/atomic.AddInt32", "(*internal/sync.Mutex).Unlock", "internal/race.ReleaseMerge", "(*internal/sync.Mutex).unlockSlow", "internal/sync.fatal", "internal/sync.runtime_Semrelease", "sync/atomic.StoreUint32", "sync/atomic.LoadUint64", "sync/atomic.CompareAndSwapUint64", "internal/bytealg.abigen_runtime_cmpstring", "sync/atomic.AddUint64", "slices.overlaps[fusee/api.Link]", "sync/atomic.SwapUint64", "sync/atomic.LoadInt64", "sync/atomic.StoreInt64"], unfollowed := true, recurses := true, apart := false }
def TopClockSaid : Prop := topClockRow.holds Tryz.pinned (OpenSpec.ofChange topClockSpec)

/-- ITS FALSE NEIGHBOUR: 'it returns false'. Refute it at one input. -/
def topClockWrong : ChangeSpec := { name := "topClock", fn := fun _ => fun
  | [d1, d2, d3] => { results := [.lit (.bool false)], args := [d1, d2, d3] }
  | _ => none }
def TopClockWrongFalsely : Prop := topClockRow.holds Tryz.pinned (OpenSpec.ofChange topClockWrong)

/-- 'fuseetop.TopAgain': WHATEVER THE INPUT: true; the input reads as it did. -/
def topAgainSpec : ChangeSpec := { name := "topAgain", fn := fun _ => fun
  | [d1, d2, d3, d4, d5] => { results := [.lit (.bool true)], args := [d1, d2, d3, d4, d5] }
  | _ => none }
def topAgainRow : OpenClaim := { program := "ytlggichakafkiaagreat", sum := "f8d60e3526ec0eb8eb3dd071e97cf457e0c4fcf5ad7024c493248b541d341295", func := "fusee/fuseetop.TopAgain", spec := "topAgain", inPlace := ["sync/atomic.StoreUint64", "sync/atomic.AddInt64", "sync/atomic.LoadUint32", "(*internal/sync.Mutex).Lock", "internal/race.Disable", "sync/atomic.CompareAndSwapInt32", "internal/race.Enable", "internal/race.Acquire", "(*internal/sync.Mutex).lockSlow", "internal/sync.runtime_canSpin", "internal/sync.runtime_doSpin", "internal/sync.throw", "internal/sync.runtime_nanotime", "internal/sync.runtime_SemacquireMutex", "sync/atomic.AddInt32", "(*internal/sync.Mutex).Unlock", "internal/race.ReleaseMerge", "(*internal/sync.Mutex).unlockSlow", "internal/sync.fatal", "internal/sync.runtime_Semrelease", "sync/atomic.StoreUint32", "sync/atomic.LoadUint64", "sync/atomic.CompareAndSwapUint64", "internal/bytealg.abigen_runtime_cmpstring", "sync/atomic.AddUint64", "slices.overlaps[fusee/api.Link]", "sync/atomic.SwapUint64"], unfollowed := true, recurses := true, apart := false }
def TopAgainSaid : Prop := topAgainRow.holds Tryz.pinned (OpenSpec.ofChange topAgainSpec)

/-- ITS FALSE NEIGHBOUR: 'it returns false'. Refute it at one input. -/
def topAgainWrong : ChangeSpec := { name := "topAgain", fn := fun _ => fun
  | [d1, d2, d3, d4, d5] => { results := [.lit (.bool false)], args := [d1, d2, d3, d4, d5] }
  | _ => none }
def TopAgainWrongFalsely : Prop := topAgainRow.holds Tryz.pinned (OpenSpec.ofChange topAgainWrong)

/-- 'fuseetop.TopStall': WHATEVER THE INPUT: true; the input reads as it did. -/
def topStallSpec : ChangeSpec := { name := "topStall", fn := fun _ => fun
  | [d1, d2, d3, d4] => { results := [.lit (.bool true)], args := [d1, d2, d3, d4] }
  | _ => none }
def topStallRow : OpenClaim := { program := "ytlggichakafkiaagreat", sum := "f8d60e3526ec0eb8eb3dd071e97cf457e0c4fcf5ad7024c493248b541d341295", func := "fusee/fuseetop.TopStall", spec := "topStall", inPlace := ["sync/atomic.StoreUint64", "sync/atomic.AddInt64", "sync/atomic.LoadUint32", "(*internal/sync.Mutex).Lock", "internal/race.Disable", "sync/atomic.CompareAndSwapInt32", "internal/race.Enable", "internal/race.Acquire", "(*internal/sync.Mutex).lockSlow", "internal/sync.runtime_canSpin", "internal/sync.runtime_doSpin", "internal/sync.throw", "internal/sync.runtime_nanotime", "internal/sync.runtime_SemacquireMutex", "sync/atomic.AddInt32", "(*internal/sync.Mutex).Unlock", "internal/race.ReleaseMerge", "(*internal/sync.Mutex).unlockSlow", "internal/sync.fatal", "internal/sync.runtime_Semrelease", "sync/atomic.StoreUint32", "sync/atomic.LoadUint64", "sync/atomic.CompareAndSwapUint64", "internal/bytealg.abigen_runtime_cmpstring", "sync/atomic.AddUint64", "slices.overlaps[fusee/api.Link]", "sync/atomic.SwapUint64"], unfollowed := true, recurses := true, apart := false }
def TopStallSaid : Prop := topStallRow.holds Tryz.pinned (OpenSpec.ofChange topStallSpec)

/-- ITS FALSE NEIGHBOUR: 'it returns false'. Refute it at one input. -/
def topStallWrong : ChangeSpec := { name := "topStall", fn := fun _ => fun
  | [d1, d2, d3, d4] => { results := [.lit (.bool false)], args := [d1, d2, d3, d4] }
  | _ => none }
def TopStallWrongFalsely : Prop := topStallRow.holds Tryz.pinned (OpenSpec.ofChange topStallWrong)

/-- 'fuseetop.TopSpace': WHATEVER THE INPUT: true; the input reads as it did. -/
def topSpaceSpec : ChangeSpec := { name := "topSpace", fn := fun _ => fun
  | [d1, d2, d3] => { results := [.lit (.bool true)], args := [d1, d2, d3] }
  | _ => none }
def topSpaceRow : OpenClaim := { program := "ytlggichakafkiaagreat", sum := "f8d60e3526ec0eb8eb3dd071e97cf457e0c4fcf5ad7024c493248b541d341295", func := "fusee/fuseetop.TopSpace", spec := "topSpace", inPlace := ["sync/atomic.StoreUint64", "sync/atomic.AddInt64", "sync/atomic.LoadUint32", "(*internal/sync.Mutex).Lock", "internal/race.Disable", "sync/atomic.CompareAndSwapInt32", "internal/race.Enable", "internal/race.Acquire", "(*internal/sync.Mutex).lockSlow", "internal/sync.runtime_canSpin", "internal/sync.runtime_doSpin", "internal/sync.throw", "internal/sync.runtime_nanotime", "internal/sync.runtime_SemacquireMutex", "sync/atomic.AddInt32", "(*internal/sync.Mutex).Unlock", "internal/race.ReleaseMerge", "(*internal/sync.Mutex).unlockSlow", "internal/sync.fatal", "internal/sync.runtime_Semrelease", "sync/atomic.StoreUint32", "sync/atomic.LoadUint64", "sync/atomic.CompareAndSwapUint64", "internal/bytealg.abigen_runtime_cmpstring", "sync/atomic.AddUint64", "slices.overlaps[fusee/api.Link]", "sync/atomic.SwapUint64"], unfollowed := true, recurses := true, apart := false }
def TopSpaceSaid : Prop := topSpaceRow.holds Tryz.pinned (OpenSpec.ofChange topSpaceSpec)

/-- ITS FALSE NEIGHBOUR: 'it returns false'. Refute it at one input. -/
def topSpaceWrong : ChangeSpec := { name := "topSpace", fn := fun _ => fun
  | [d1, d2, d3] => { results := [.lit (.bool false)], args := [d1, d2, d3] }
  | _ => none }
def TopSpaceWrongFalsely : Prop := topSpaceRow.holds Tryz.pinned (OpenSpec.ofChange topSpaceWrong)

/-- 'fuseetop.TopBacks': WHATEVER THE INPUT: true; the input reads as it did. -/
def topBacksSpec : ChangeSpec := { name := "topBacks", fn := fun _ => fun
  | [d1, d2, d3, d4] => { results := [.lit (.bool true)], args := [d1, d2, d3, d4] }
  | _ => none }
def topBacksRow : OpenClaim := { program := "ytlggichakafkiaagreat", sum := "f8d60e3526ec0eb8eb3dd071e97cf457e0c4fcf5ad7024c493248b541d341295", func := "fusee/fuseetop.TopBacks", spec := "topBacks", inPlace := ["sync/atomic.StoreUint64", "sync/atomic.AddInt64", "sync/atomic.LoadUint32", "(*internal/sync.Mutex).Lock", "internal/race.Disable", "sync/atomic.CompareAndSwapInt32", "internal/race.Enable", "internal/race.Acquire", "(*internal/sync.Mutex).lockSlow", "internal/sync.runtime_canSpin", "internal/sync.runtime_doSpin", "internal/sync.throw", "internal/sync.runtime_nanotime", "internal/sync.runtime_SemacquireMutex", "sync/atomic.AddInt32", "(*internal/sync.Mutex).Unlock", "internal/race.ReleaseMerge", "(*internal/sync.Mutex).unlockSlow", "internal/sync.fatal", "internal/sync.runtime_Semrelease", "sync/atomic.StoreUint32", "sync/atomic.LoadUint64", "sync/atomic.CompareAndSwapUint64", "internal/bytealg.abigen_runtime_cmpstring", "sync/atomic.AddUint64", "slices.overlaps[fusee/api.Link]", "sync/atomic.SwapUint64"], unfollowed := true, recurses := true, apart := false }
def TopBacksSaid : Prop := topBacksRow.holds Tryz.pinned (OpenSpec.ofChange topBacksSpec)

/-- ITS FALSE NEIGHBOUR: 'it returns false'. Refute it at one input. -/
def topBacksWrong : ChangeSpec := { name := "topBacks", fn := fun _ => fun
  | [d1, d2, d3, d4] => { results := [.lit (.bool false)], args := [d1, d2, d3, d4] }
  | _ => none }
def TopBacksWrongFalsely : Prop := topBacksRow.holds Tryz.pinned (OpenSpec.ofChange topBacksWrong)

/- THE SECOND FORM. 'bulk': how many values and letters a reading holds, each counted each time it is reached (what is shared counts as often as it is met; a slice's spare places count too). A statement '..UptoSaid' is the law's where the arguments, and the package variables that the reading takes, are together of bulk at most 1048576: NARROWER than '..Said'. Prove '..Said' where nothing that the law and all that it calls make is longer than what came in: it says more and counts as full. Else prove '..UptoSaid'. A law counts once. -/
mutual
def uptoBulk {H : Type} : DataW H → Nat
  | .lit (.string bytes) => bytes.length + 1
  | .lit _ => 1
  | .nil => 1
  | .ptr d => uptoBulk d + 1
  | .slice elems spare => uptoBulkAll elems + uptoBulkAll spare + 1
  | .agg parts => uptoBulkAll parts + 1
  | .iface _ d => uptoBulk d + 1
  | .map entries => uptoBulkEntries entries + 1
  | .held _ => 1
def uptoBulkAll {H : Type} : List (DataW H) → Nat
  | [] => 0
  | d :: r => uptoBulk d + uptoBulkAll r
def uptoBulkEntries {H : Type} : List (Lit × DataW H) → Nat
  | [] => 0
  | x :: r => uptoBulkEntry x + uptoBulkEntries r
def uptoBulkEntry {H : Type} : Lit × DataW H → Nat
  | (.string bytes, d) => bytes.length + uptoBulk d + 1
  | (_, d) => uptoBulk d + 1
 end
def uptoSmall : (H : Type) → List (DataW H) → Bool := fun _ ds => decide (uptoBulkAll ds ≤ 1048576)
def OpenSpec.upto (s : _root_.Go.ChangeSpec) : _root_.Go.OpenSpec := { _root_.Go.OpenSpec.ofChange s with cond := some uptoSmall }

/-- 'fuseetop.TopLost', WHERE WHAT IT READS IS OF BULK AT MOST 1048576: true; the input reads as it did. -/
def topLostUptoRow : OpenClaim := { program := "ytlggichakafkiaagreat", sum := "f8d60e3526ec0eb8eb3dd071e97cf457e0c4fcf5ad7024c493248b541d341295", func := "fusee/fuseetop.TopLost", spec := "topLost", inPlace := ["sync/atomic.StoreUint64", "sync/atomic.AddInt64", "sync/atomic.LoadUint32", "(*internal/sync.Mutex).Lock", "internal/race.Disable", "sync/atomic.CompareAndSwapInt32", "internal/race.Enable", "internal/race.Acquire", "(*internal/sync.Mutex).lockSlow", "internal/sync.runtime_canSpin", "internal/sync.runtime_doSpin", "internal/sync.throw", "internal/sync.runtime_nanotime", "internal/sync.runtime_SemacquireMutex", "sync/atomic.AddInt32", "(*internal/sync.Mutex).Unlock", "internal/race.ReleaseMerge", "(*internal/sync.Mutex).unlockSlow", "internal/sync.fatal", "internal/sync.runtime_Semrelease", "sync/atomic.StoreUint32", "sync/atomic.LoadUint64", "sync/atomic.CompareAndSwapUint64", "internal/bytealg.abigen_runtime_cmpstring", "sync/atomic.AddUint64", "slices.overlaps[fusee/api.Link]", "sync/atomic.SwapUint64"], unfollowed := true, recurses := true, apart := false, narrowed := true }
def TopLostUptoSaid : Prop := topLostUptoRow.holds Tryz.pinned (OpenSpec.upto topLostSpec)

/-- 'fuseetop.TopScans', WHERE WHAT IT READS IS OF BULK AT MOST 1048576: true; the input reads as it did. -/
def topScansUptoRow : OpenClaim := { program := "ytlggichakafkiaagreat", sum := "f8d60e3526ec0eb8eb3dd071e97cf457e0c4fcf5ad7024c493248b541d341295", func := "fusee/fuseetop.TopScans", spec := "topScans", inPlace := ["sync/atomic.StoreUint64", "sync/atomic.AddInt64", "sync/atomic.LoadUint32", "(*internal/sync.Mutex).Lock", "internal/race.Disable", "sync/atomic.CompareAndSwapInt32", "internal/race.Enable", "internal/race.Acquire", "(*internal/sync.Mutex).lockSlow", "internal/sync.runtime_canSpin", "internal/sync.runtime_doSpin", "internal/sync.throw", "internal/sync.runtime_nanotime", "internal/sync.runtime_SemacquireMutex", "sync/atomic.AddInt32", "(*internal/sync.Mutex).Unlock", "internal/race.ReleaseMerge", "(*internal/sync.Mutex).unlockSlow", "internal/sync.fatal", "internal/sync.runtime_Semrelease", "sync/atomic.StoreUint32", "sync/atomic.LoadUint64", "sync/atomic.CompareAndSwapUint64", "internal/bytealg.abigen_runtime_cmpstring", "sync/atomic.AddUint64", "slices.overlaps[fusee/api.Link]", "sync/atomic.SwapUint64"], unfollowed := true, recurses := true, apart := false, narrowed := true }
def TopScansUptoSaid : Prop := topScansUptoRow.holds Tryz.pinned (OpenSpec.upto topScansSpec)

/-- 'fuseetop.TopHostile', WHERE WHAT IT READS IS OF BULK AT MOST 1048576: true; the input reads as it did. -/
def topHostileUptoRow : OpenClaim := { program := "ytlggichakafkiaagreat", sum := "f8d60e3526ec0eb8eb3dd071e97cf457e0c4fcf5ad7024c493248b541d341295", func := "fusee/fuseetop.TopHostile", spec := "topHostile", inPlace := ["sync/atomic.StoreUint64", "sync/atomic.AddInt64", "sync/atomic.LoadUint32", "(*internal/sync.Mutex).Lock", "internal/race.Disable", "sync/atomic.CompareAndSwapInt32", "internal/race.Enable", "internal/race.Acquire", "(*internal/sync.Mutex).lockSlow", "internal/sync.runtime_canSpin", "internal/sync.runtime_doSpin", "internal/sync.throw", "internal/sync.runtime_nanotime", "internal/sync.runtime_SemacquireMutex", "sync/atomic.AddInt32", "(*internal/sync.Mutex).Unlock", "internal/race.ReleaseMerge", "(*internal/sync.Mutex).unlockSlow", "internal/sync.fatal", "internal/sync.runtime_Semrelease", "sync/atomic.StoreUint32", "sync/atomic.LoadUint64", "sync/atomic.CompareAndSwapUint64", "internal/bytealg.abigen_runtime_cmpstring", "sync/atomic.AddUint64", "slices.overlaps[fusee/api.Link]", "sync/atomic.SwapUint64", "sync/atomic.LoadInt64", "sync/atomic.StoreInt64"], unfollowed := true, recurses := true, apart := false, narrowed := true }
def TopHostileUptoSaid : Prop := topHostileUptoRow.holds Tryz.pinned (OpenSpec.upto topHostileSpec)

/-- 'fuseetop.TopCosts', WHERE WHAT IT READS IS OF BULK AT MOST 1048576: true; the input reads as it did. -/
def topCostsUptoRow : OpenClaim := { program := "ytlggichakafkiaagreat", sum := "f8d60e3526ec0eb8eb3dd071e97cf457e0c4fcf5ad7024c493248b541d341295", func := "fusee/fuseetop.TopCosts", spec := "topCosts", inPlace := ["sync/atomic.StoreUint64", "sync/atomic.AddInt64", "sync/atomic.LoadUint32", "(*internal/sync.Mutex).Lock", "internal/race.Disable", "sync/atomic.CompareAndSwapInt32", "internal/race.Enable", "internal/race.Acquire", "(*internal/sync.Mutex).lockSlow", "internal/sync.runtime_canSpin", "internal/sync.runtime_doSpin", "internal/sync.throw", "internal/sync.runtime_nanotime", "internal/sync.runtime_SemacquireMutex", "sync/atomic.AddInt32", "(*internal/sync.Mutex).Unlock", "internal/race.ReleaseMerge", "(*internal/sync.Mutex).unlockSlow", "internal/sync.fatal", "internal/sync.runtime_Semrelease", "sync/atomic.StoreUint32", "sync/atomic.LoadUint64", "sync/atomic.CompareAndSwapUint64", "internal/bytealg.abigen_runtime_cmpstring", "sync/atomic.AddUint64", "slices.overlaps[fusee/api.Link]", "sync/atomic.SwapUint64", "sync/atomic.LoadInt64", "sync/atomic.StoreInt64"], unfollowed := true, recurses := true, apart := false, narrowed := true }
def TopCostsUptoSaid : Prop := topCostsUptoRow.holds Tryz.pinned (OpenSpec.upto topCostsSpec)

/-- 'fuseetop.TopClock', WHERE WHAT IT READS IS OF BULK AT MOST 1048576: true; the input reads as it did. -/
def topClockUptoRow : OpenClaim := { program := "ytlggichakafkiaagreat", sum := "f8d60e3526ec0eb8eb3dd071e97cf457e0c4fcf5ad7024c493248b541d341295", func := "fusee/fuseetop.TopClock", spec := "topClock", inPlace := ["sync/atomic.StoreUint64", "sync/atomic.AddInt64", "sync/atomic.LoadUint32", "(*internal/sync.Mutex).Lock", "internal/race.Disable", "sync/atomic.CompareAndSwapInt32", "internal/race.Enable", "internal/race.Acquire", "(*internal/sync.Mutex).lockSlow", "internal/sync.runtime_canSpin", "internal/sync.runtime_doSpin", "internal/sync.throw", "internal/sync.runtime_nanotime", "internal/sync.runtime_SemacquireMutex", "sync/atomic.AddInt32", "(*internal/sync.Mutex).Unlock", "internal/race.ReleaseMerge", "(*internal/sync.Mutex).unlockSlow", "internal/sync.fatal", "internal/sync.runtime_Semrelease", "sync/atomic.StoreUint32", "sync/atomic.LoadUint64", "sync/atomic.CompareAndSwapUint64", "internal/bytealg.abigen_runtime_cmpstring", "sync/atomic.AddUint64", "slices.overlaps[fusee/api.Link]", "sync/atomic.SwapUint64", "sync/atomic.LoadInt64", "sync/atomic.StoreInt64"], unfollowed := true, recurses := true, apart := false, narrowed := true }
def TopClockUptoSaid : Prop := topClockUptoRow.holds Tryz.pinned (OpenSpec.upto topClockSpec)

/-- 'fuseetop.TopAgain', WHERE WHAT IT READS IS OF BULK AT MOST 1048576: true; the input reads as it did. -/
def topAgainUptoRow : OpenClaim := { program := "ytlggichakafkiaagreat", sum := "f8d60e3526ec0eb8eb3dd071e97cf457e0c4fcf5ad7024c493248b541d341295", func := "fusee/fuseetop.TopAgain", spec := "topAgain", inPlace := ["sync/atomic.StoreUint64", "sync/atomic.AddInt64", "sync/atomic.LoadUint32", "(*internal/sync.Mutex).Lock", "internal/race.Disable", "sync/atomic.CompareAndSwapInt32", "internal/race.Enable", "internal/race.Acquire", "(*internal/sync.Mutex).lockSlow", "internal/sync.runtime_canSpin", "internal/sync.runtime_doSpin", "internal/sync.throw", "internal/sync.runtime_nanotime", "internal/sync.runtime_SemacquireMutex", "sync/atomic.AddInt32", "(*internal/sync.Mutex).Unlock", "internal/race.ReleaseMerge", "(*internal/sync.Mutex).unlockSlow", "internal/sync.fatal", "internal/sync.runtime_Semrelease", "sync/atomic.StoreUint32", "sync/atomic.LoadUint64", "sync/atomic.CompareAndSwapUint64", "internal/bytealg.abigen_runtime_cmpstring", "sync/atomic.AddUint64", "slices.overlaps[fusee/api.Link]", "sync/atomic.SwapUint64"], unfollowed := true, recurses := true, apart := false, narrowed := true }
def TopAgainUptoSaid : Prop := topAgainUptoRow.holds Tryz.pinned (OpenSpec.upto topAgainSpec)

/-- 'fuseetop.TopStall', WHERE WHAT IT READS IS OF BULK AT MOST 1048576: true; the input reads as it did. -/
def topStallUptoRow : OpenClaim := { program := "ytlggichakafkiaagreat", sum := "f8d60e3526ec0eb8eb3dd071e97cf457e0c4fcf5ad7024c493248b541d341295", func := "fusee/fuseetop.TopStall", spec := "topStall", inPlace := ["sync/atomic.StoreUint64", "sync/atomic.AddInt64", "sync/atomic.LoadUint32", "(*internal/sync.Mutex).Lock", "internal/race.Disable", "sync/atomic.CompareAndSwapInt32", "internal/race.Enable", "internal/race.Acquire", "(*internal/sync.Mutex).lockSlow", "internal/sync.runtime_canSpin", "internal/sync.runtime_doSpin", "internal/sync.throw", "internal/sync.runtime_nanotime", "internal/sync.runtime_SemacquireMutex", "sync/atomic.AddInt32", "(*internal/sync.Mutex).Unlock", "internal/race.ReleaseMerge", "(*internal/sync.Mutex).unlockSlow", "internal/sync.fatal", "internal/sync.runtime_Semrelease", "sync/atomic.StoreUint32", "sync/atomic.LoadUint64", "sync/atomic.CompareAndSwapUint64", "internal/bytealg.abigen_runtime_cmpstring", "sync/atomic.AddUint64", "slices.overlaps[fusee/api.Link]", "sync/atomic.SwapUint64"], unfollowed := true, recurses := true, apart := false, narrowed := true }
def TopStallUptoSaid : Prop := topStallUptoRow.holds Tryz.pinned (OpenSpec.upto topStallSpec)

/-- 'fuseetop.TopSpace', WHERE WHAT IT READS IS OF BULK AT MOST 1048576: true; the input reads as it did. -/
def topSpaceUptoRow : OpenClaim := { program := "ytlggichakafkiaagreat", sum := "f8d60e3526ec0eb8eb3dd071e97cf457e0c4fcf5ad7024c493248b541d341295", func := "fusee/fuseetop.TopSpace", spec := "topSpace", inPlace := ["sync/atomic.StoreUint64", "sync/atomic.AddInt64", "sync/atomic.LoadUint32", "(*internal/sync.Mutex).Lock", "internal/race.Disable", "sync/atomic.CompareAndSwapInt32", "internal/race.Enable", "internal/race.Acquire", "(*internal/sync.Mutex).lockSlow", "internal/sync.runtime_canSpin", "internal/sync.runtime_doSpin", "internal/sync.throw", "internal/sync.runtime_nanotime", "internal/sync.runtime_SemacquireMutex", "sync/atomic.AddInt32", "(*internal/sync.Mutex).Unlock", "internal/race.ReleaseMerge", "(*internal/sync.Mutex).unlockSlow", "internal/sync.fatal", "internal/sync.runtime_Semrelease", "sync/atomic.StoreUint32", "sync/atomic.LoadUint64", "sync/atomic.CompareAndSwapUint64", "internal/bytealg.abigen_runtime_cmpstring", "sync/atomic.AddUint64", "slices.overlaps[fusee/api.Link]", "sync/atomic.SwapUint64"], unfollowed := true, recurses := true, apart := false, narrowed := true }
def TopSpaceUptoSaid : Prop := topSpaceUptoRow.holds Tryz.pinned (OpenSpec.upto topSpaceSpec)

/-- 'fuseetop.TopBacks', WHERE WHAT IT READS IS OF BULK AT MOST 1048576: true; the input reads as it did. -/
def topBacksUptoRow : OpenClaim := { program := "ytlggichakafkiaagreat", sum := "f8d60e3526ec0eb8eb3dd071e97cf457e0c4fcf5ad7024c493248b541d341295", func := "fusee/fuseetop.TopBacks", spec := "topBacks", inPlace := ["sync/atomic.StoreUint64", "sync/atomic.AddInt64", "sync/atomic.LoadUint32", "(*internal/sync.Mutex).Lock", "internal/race.Disable", "sync/atomic.CompareAndSwapInt32", "internal/race.Enable", "internal/race.Acquire", "(*internal/sync.Mutex).lockSlow", "internal/sync.runtime_canSpin", "internal/sync.runtime_doSpin", "internal/sync.throw", "internal/sync.runtime_nanotime", "internal/sync.runtime_SemacquireMutex", "sync/atomic.AddInt32", "(*internal/sync.Mutex).Unlock", "internal/race.ReleaseMerge", "(*internal/sync.Mutex).unlockSlow", "internal/sync.fatal", "internal/sync.runtime_Semrelease", "sync/atomic.StoreUint32", "sync/atomic.LoadUint64", "sync/atomic.CompareAndSwapUint64", "internal/bytealg.abigen_runtime_cmpstring", "sync/atomic.AddUint64", "slices.overlaps[fusee/api.Link]", "sync/atomic.SwapUint64"], unfollowed := true, recurses := true, apart := false, narrowed := true }
def TopBacksUptoSaid : Prop := topBacksUptoRow.holds Tryz.pinned (OpenSpec.upto topBacksSpec)

end Rows
end Go.Proofs.YtlggichakafkiaaGreat
