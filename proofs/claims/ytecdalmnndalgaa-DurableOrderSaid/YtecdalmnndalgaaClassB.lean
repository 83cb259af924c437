/- The contracts of class.Starts, class.Home and of their references; slices.Index, slices.Contains on ints. -/
import Derived.Test.YtecdalmnndalgaaClass
namespace Go.Proofs.Ytecdalmnndalgaa
open Go.RowKit Go.Proofs.FuMem Go.Proofs.FuClass
set_option maxRecDepth 100000

theorem starts_next (f : Int) (s i : Nat) (x : Int) (hx : x = f + ((i * s : Nat) : Int)) : (startsTo f s i).map (Value.int .i64) ++ [.int .i64 x] = (startsTo f s (i + 1)).map (.int .i64) := by
  rw [startsTo_succ, List.map_append, hx]
  rfl
end Go.Proofs.Ytecdalmnndalgaa
