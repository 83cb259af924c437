/- Law 3: what every program answers that is one. -/
import Derived.Test.YtecdalmnndalgaaNvmG
set_option maxRecDepth 100000
namespace Go.Proofs.Ytecdalmnndalgaa
open Go.RowKit Go.Proofs.FuMem Go.Proofs.FuNvm Go.Proofs.FuCode
theorem bs_new (w : World) (t : TypeId) (l : List UInt8) : Bs (w.alloc (.cells (l.map B).toArray t)) (some ⟨w.heap.size, 0, none⟩) l.length l := by
  have := Blk.new w t (l.map B).toArray
  exact Sl.of_blk this 0 (by rw [List.drop_zero, List.take_of_length_le (by simp)]) (by simp)
theorem is_new (w : World) (t : TypeId) (l : List Int) : Is (w.alloc (.cells (l.map (Value.int .i64)).toArray t)) (some ⟨w.heap.size, 0, none⟩) l.length l := by
  have := Blk.new w t (l.map (Value.int .i64)).toArray
  exact Sl.of_blk this 0 (by rw [List.drop_zero, List.take_of_length_le (by simp)]) (by simp)
theorem madeB_get {w w' : World} {l : List UInt8} {v : Value} (h : MadeB w l v w') (hl : 0 < l.length) : ∃ g c, v = .slice (some ⟨g, 0, none⟩) l.length c ∧ OwnB 5 w' w.heap.size g l.length c l ∧ w.heap.size ≤ g ∧ Only [] w w' := by
  obtain ⟨A, c, rfl, h, o⟩ := h
  obtain ⟨g, rfl, hb, _, ho⟩ := OwnB.of h hl
  exact ⟨g, c, rfl, ho, hb, o⟩
def seven : Dev := storeD (newDev 2) 0 noLine 1 [7]
end Go.Proofs.Ytecdalmnndalgaa
