/- The walk of the statement NvmFences. -/
import Derived.Test.YtecdalmnndalgaaSome
import Derived.Test.YtecdalmnndalgaaLend
set_option maxRecDepth 100000
namespace Go.Proofs.Ytecdalmnndalgaa
open Go.RowKit Go.Proofs.FuMem Go.Proofs.FuNvm Go.Proofs.FuCode
theorem playD_length (D : Dev) (x : Deed) : (playD D x).lines.length = D.lines.length := by
  unfold playD store1 flush1 back1 storeD flushD backD fenceD cutD
  split
  · split <;> simp
  · split
    · split <;> simp
    · split
      · simp
      · split
        · split <;> simp
        · split <;> simp
theorem playAll_length (D : Dev) (xs : List (Deed × Holds)) : (playAll D xs).lines.length = D.lines.length := by
  unfold playAll
  induction xs generalizing D with
  | nil => rfl
  | cons x xs ih => rw [List.foldl_cons, ih, playD_length]
theorem playAll_8 (xs : List (Deed × Holds)) : (playAll (newDev 8) xs).lines.length = 8 := by rw [playAll_length]; exact List.length_replicate
theorem set_here {L : List Line} {k : Nat} {x : Line} (h : L[k]? = some x) (y : Line) : (L.set k y)[k]? = some y := by
  obtain ⟨hk, _⟩ := List.getElem?_eq_some_iff.1 h
  rw [List.getElem?_set_self hk]
theorem set_else {L : List Line} {k j : Nat} (h : k ≠ j) (y : Line) : (L.set k y)[j]? = L[j]? := List.getElem?_set_ne h
theorem madeB_bs {w w' : World} {l : List UInt8} {v : Value} (h : MadeB w l v w') : ∃ A c, v = .slice A l.length c ∧ Bs w' A l.length l ∧ (∀ b off s, A = some ⟨b, off, s⟩ → w.heap.size ≤ b) ∧ Only [] w w' := by
  obtain ⟨A, c, rfl, h, o⟩ := h
  refine ⟨A, c, rfl, bs_own h, ?_, o⟩
  intro b off s e
  rcases Nat.eq_zero_or_pos l.length with hz | hp
  · rcases h.2 with ⟨e1, _⟩ | ⟨g, c2, cur, hv, hbg, _⟩
    · injection e1 with e1 _ _
      rw [e1] at e
      cases e
    · injection hv with e1 _ _
      rw [e1] at e
      cases e
      exact hbg
  · obtain ⟨g, rfl, hbg, _, _⟩ := OwnB.of h hp
    cases e
    exact hbg
end Go.Proofs.Ytecdalmnndalgaa
