/- The contracts of package class and of its reference, with what they call of geom. -/
import Derived.Test.YtecdalmnndalgaaInts
import Derived.Test.YtecdalmnndalgaaClassP
namespace Go.Proofs.Ytecdalmnndalgaa
open Go.RowKit Go.Proofs.FuMem Go.Proofs.FuClass
set_option maxRecDepth 100000

def NoneBelow (n : Int) (k : Nat) : Prop := ∀ j : Nat, j < k → capOf j < n
theorem NoneBelow.succ {n : Int} {k : Nat} (h : NoneBelow n k) (h2 : capOf k < n) : NoneBelow n (k + 1) := fun j hj => by
  by_cases e : j = k
  · rw [e]; exact h2
  · exact h j (by omega)
end Go.Proofs.Ytecdalmnndalgaa
