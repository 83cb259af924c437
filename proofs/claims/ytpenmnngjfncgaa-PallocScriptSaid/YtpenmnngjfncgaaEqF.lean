/- Structs that are compared field by field, over any program. -/
import Derived.Test.YtpenmnngjfncgaaMemB
import Derived.Laws.StructEq
namespace Go.Proofs.FuEq
open Go.RowKit
theorem eqFields_cons {P : Program} (d : Nat) (xs ys : Array Value) (f : Field) (fs : List Field) (a b : Value) (r : Bool) (w : World) (hn : f.name ≠ "_") (ha : (part f.type xs f.offset).run P w = .ok a w) (hb : (part f.type ys f.offset).run P w = .ok b w)
    (hr : (Op.equalIn d f.type a b).run P w = .ok r w) (s : Bool) (hs : (Op.eqFields d xs ys fs).run P w = .ok s w) : (Op.eqFields d xs ys (f :: fs)).run P w = .ok (r && s) w := by
  unfold Op.eqFields
  rw [if_pos hn]
  simp only [Sem.run_bind, ha, hb, hr, Result.andThen_ok]
  cases r
  · simp
  · simp [hs]
theorem eqFields_nil {P : Program} (d : Nat) (xs ys : Array Value) (w : World) : (Op.eqFields d xs ys []).run P w = .ok true w := by simp [Op.eqFields]
end Go.Proofs.FuEq
