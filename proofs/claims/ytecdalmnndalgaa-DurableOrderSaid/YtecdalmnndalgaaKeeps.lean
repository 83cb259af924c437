/- The walk of the statement NvmKeeps. -/
import Derived.Test.YtecdalmnndalgaaFences
set_option maxRecDepth 100000
namespace Go.Proofs.Ytecdalmnndalgaa
open Go.RowKit Go.Proofs.FuMem Go.Proofs.FuNvm Go.Proofs.FuCode
/-- line k has these bytes, in both copies, and nothing else is on its way -/
def Stays (k : Nat) (l : List UInt8) (D : Dev) : Prop := ∃ x, D.lines[k]? = some x ∧ x.now = l ∧ x.kept = l ∧ (x.sent = true → x.way = l)
theorem stays_set {k : Nat} {l : List UInt8} {D : Dev} {i : Int} {y : Line} {L : List Line} (h : Stays k l D) (_hi : 0 ≤ i ∧ i.toNat < D.lines.length) (hL : L = D.lines.set i.toNat y)
    (hy : i.toNat = k → y.now = l ∧ y.kept = l ∧ (y.sent = true → y.way = l)) : ∃ x, L[k]? = some x ∧ x.now = l ∧ x.kept = l ∧ (x.sent = true → x.way = l) := by
  obtain ⟨x, hx, h1⟩ := h
  subst hL
  by_cases he : i.toNat = k
  · subst he
    exact ⟨y, set_here hx y, hy rfl⟩
  · exact ⟨x, (set_else he _).trans hx, h1⟩
theorem stays_line {k : Nat} {l : List UInt8} {D : Dev} {i : Int} (h : Stays k l D) (he : i.toNat = k) : (lineOf D i).now = l ∧ (lineOf D i).kept = l ∧ ((lineOf D i).sent = true → (lineOf D i).way = l) := by
  obtain ⟨x, hx, h1⟩ := h
  have : lineOf D i = x := by unfold lineOf; rw [he, List.getD, hx]; rfl
  rw [this]
  exact h1
theorem stays_play {k : Nat} {l : List UInt8} {D : Dev} {x : Deed} (h : Stays k l D) (hx : ¬ (x.kind = 0 ∧ x.line = (k : Int))) : Stays k l (playD D x) := by
  unfold playD
  split
  · unfold store1
    split
    · exact h
    · rename_i h0 hp
      unfold noPlace at hp
      exact stays_set h (by omega) rfl (fun he => absurd ⟨h0, by omega⟩ hx)
  split
  · unfold flush1
    split
    · exact h
    · rename_i hp
      unfold noPlace at hp
      refine stays_set h (by omega) rfl (fun he => ?_)
      obtain ⟨h1, h2, h3⟩ := stays_line h he
      exact ⟨h1, h2, fun _ => h1⟩
  split
  · obtain ⟨x, hx, h1, h2, h3⟩ := h
    refine ⟨fenceL x, by unfold fenceD; rw [List.getElem?_map, hx]; rfl, ?_⟩
    unfold fenceL
    split
    · rename_i hs
      exact ⟨h1, h3 hs, fun h => by cases h⟩
    · exact ⟨h1, h2, h3⟩
  split
  · unfold back1
    split
    · exact h
    · rename_i hp
      unfold noPlace at hp
      refine stays_set h (by omega) rfl (fun he => ?_)
      obtain ⟨h1, h2, h3⟩ := stays_line h he
      exact ⟨h1, h1, fun h => by cases h⟩
  split
  · obtain ⟨y, hy, h1, h2, h3⟩ := h
    refine ⟨cutL x.keep k y, by unfold cutD; rw [List.getElem?_mapIdx, hy]; rfl, ?_⟩
    unfold cutL
    split
    · exact ⟨h1, h1, fun h => by cases h⟩
    · exact ⟨h2, h2, fun h => by cases h⟩
  · exact h
end Go.Proofs.Ytecdalmnndalgaa
