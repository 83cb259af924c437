/- Law 3: are acts more than is gone through; a device behind some acts. -/
import Derived.Test.YtecdalmnndalgaaPlay
set_option maxRecDepth 100000
namespace Go.Proofs.Ytecdalmnndalgaa
open Go.RowKit Go.Proofs.FuMem Go.Proofs.FuNvm Go.Proofs.FuCode
abbrev Big (x : Deed × Holds) : Prop := 100 < x.2.bn ∨ 100 < x.2.kn
def isLarge (xs : List (Deed × Holds)) : Bool := decide (80 < xs.length ∨ ∃ x ∈ xs, Big x)
theorem large_no {xs : List (Deed × Holds)} (h : isLarge xs = false) : xs.length ≤ 80 ∧ ∀ x ∈ xs, x.2.bn ≤ 100 ∧ x.2.kn ≤ 100 := by
  unfold isLarge at h
  rw [decide_eq_false_iff_not] at h
  refine ⟨by omega, fun x hx => ?_⟩
  have : ¬ Big x := fun hb => h (.inr ⟨x, hx, hb⟩)
  unfold Big at this
  omega
def playAll (D : Dev) (xs : List (Deed × Holds)) : Dev := xs.foldl (fun D x => playD D x.1) D
theorem playAll_take {D : Dev} {xs : List (Deed × Holds)} {k : Nat} {x : Deed × Holds} (h : xs[k]? = some x) : playAll D (xs.take (k + 1)) = playD (playAll D (xs.take k)) x.1 := by
  unfold playAll
  rw [List.take_add_one, h]
  simp
end Go.Proofs.Ytecdalmnndalgaa
