/- The walk of the statement NvmSorted. -/
import Derived.Test.YtecdalmnndalgaaKeeps
set_option maxRecDepth 100000
namespace Go.Proofs.Ytecdalmnndalgaa
open Go.RowKit Go.Proofs.FuMem Go.Proofs.FuNvm Go.Proofs.FuCode
theorem those_prefix (p : Line → Bool) (L : List Line) {i j : Nat} (h : i ≤ j) : those p L i <+: those p L j := by
  unfold those
  obtain ⟨d, rfl⟩ := Nat.exists_eq_add_of_le h
  rw [List.range_add, List.filter_append, List.map_append]
  exact List.prefix_append _ _
theorem those_at (p : Line → Bool) (L : List Line) {i : Nat} {x : Line} (hx : L[i]? = some x) (hp : p x = true) (hi : i < L.length) : (those p L L.length)[(those p L i).length]? = some (i : Int) := by
  have h1 := those_prefix p L (Nat.succ_le_of_lt hi)
  obtain ⟨_, rfl⟩ := List.getElem?_eq_some_iff.1 hx
  rw [those_succ p L i hi, if_pos hp] at h1
  obtain ⟨t, ht⟩ := h1
  rw [← ht, List.append_assoc, List.getElem?_append_right (Nat.le_refl _), Nat.sub_self]
  rfl
theorem those_bd (p : Line → Bool) (L : List Line) (m : Nat) {v : Int} (h : v ∈ those p L m) : 0 ≤ v ∧ v < m := by
  unfold those at h
  obtain ⟨j, hj, rfl⟩ := List.mem_map.1 h
  have := List.mem_range.1 (List.mem_filter.1 hj).1
  omega
theorem those_rise (p : Line → Bool) (L : List Line) (m : Nat) : (those p L m).Pairwise (· < ·) := by
  unfold those
  rw [List.pairwise_map]
  refine List.Pairwise.imp (fun h => ?_) (List.Pairwise.filter _ List.pairwise_lt_range)
  omega
theorem those_few (p : Line → Bool) (L : List Line) (m : Nat) : (those p L m).length ≤ m := by
  unfold those
  rw [List.length_map]
  exact Nat.le_trans (List.length_filter_le _ _) (by rw [List.length_range]; exact Nat.le_refl _)
theorem madeI_is {w w' : World} {l : List Int} {v : Value} (h : MadeI w l v w') : ∃ A c, v = .slice A l.length c ∧ Is w' A l.length l ∧ Only [] w w' := by
  obtain ⟨A, c, rfl, h, o⟩ := h
  exact ⟨A, c, rfl, is_own h, o⟩
end Go.Proofs.Ytecdalmnndalgaa
