/- Lists of numbers that are lent, and looked at again. -/
import Derived.Test.YtfafpggppbolkaaInts
set_option maxRecDepth 100000
namespace Go.Proofs.Ytfafpggppbolkaa
open Go.RowKit Go.Proofs.FuMem
def I (x : Int) : Value := .int .i64 x
/-- a lent slice: its block holds the numbers and three marks -/
def LentI (w : World) (g : Nat) (l : List Int) : Prop := Blk w g 3 ((l.map (Value.int .i64)) ++ List.replicate 3 (I (-777))).toArray
def lentITo (l : List Int) (j : Nat) : Array Value := ((l.map (Value.int .i64)) ++ List.replicate j (I (-777)) ++ List.replicate (3 - j) (I 0)).toArray
theorem lentITo_size (l : List Int) (j : Nat) (hj : j ≤ 3) : (lentITo l j).size = l.length + 3 := by simp [lentITo]; omega
theorem lentITo_set (l : List Int) (j : Nat) (hj : j < 3) : (lentITo l j).setIfInBounds (l.length + j) (I (-777)) = lentITo l (j + 1) := by
  apply Array.ext'
  simp only [lentITo, Array.toList_setIfInBounds]
  apply List.ext_getElem
  · simp; omega
  · intro i h1 h2
    simp only [List.getElem_set, List.getElem_append, List.getElem_map, List.getElem_replicate, List.length_map, List.length_append, List.length_replicate]
    repeat' split
    all_goals first | rfl | omega
theorem lentI_start (l : List Int) (n : Nat) : ((Array.replicate (n + 3) (Value.int .i64 0)).toList.take 0 ++ l.map (Value.int .i64) ++ (Array.replicate (n + 3) (Value.int .i64 0)).toList.drop (0 + n)).toArray = lentITo l 0 := by
  simp [lentITo, I]
theorem law0_LendInts (A : Option Addr) (n c : Nat) (l : List Int) (w : World) (h : Is w A n l) (hn : n ≤ 1000000) :
    Calls Try.prog 82 #[.slice A n c] w fun e w' => e = .returned (.slice (some ⟨w.heap.size, 0, none⟩) n (n + 3)) ∧ LentI w' w.heap.size l ∧ Only [] w w' := by
  obtain ⟨i0, hi, hz0, hz1, hz2⟩ := info_parts Try.intInfo
  obtain ⟨w1, hmk, hb1, ho1, hs1⟩ := make_blk (P := Try.prog) w 34 3 i0 _ Try.underlying34 hi hz0 hz1 rfl .i64 .i64 0 (n + 3) (by omega) (by rw [hz2]; omega) (by omega)
  obtain ⟨w2, hap, hb2, ho2, hs2⟩ := append_blk (P := Try.prog) w1 34 34 3 i0 Try.underlying34 hi hz1 w.heap.size 0 (n + 3) _ hb1 A n c _ (Sl.only0 h ho1) one_I (by omega) (by simp)
  rw [lentI_start l n] at hb2
  have ho : Only [] w w2 := ho1.trans ho2 (by simp)
  simp only [Nat.zero_add, Int.natCast_add, Int.cast_ofNat_Int] at hmk hap
  have HL := Lib.hid h.len
  clear h hs1 hs2 hb1 ho1 ho2 hi hz0 hz1 hz2
  go_enter Try.func82, Try.ntmps82
  go_wp2_with (at_builtin; refine wpList_append_run _ rfl (.tmp 10) (.tmp 11) 34 rfl _ _ rfl rfl _ _ hap ?_)
  go_loopw [5] (fun k wr => ∃ j : Nat, j ≤ 3 ∧ k = .int .i64 j ∧ Blk wr w.heap.size 3 (lentITo l j) ∧ Only [] w wr) (fun k _ => 3 - (intOf k).toNat)
  case atStart => exact ⟨0, Nat.zero_le _, rfl, hb2, ho⟩
  case round =>
    obtain ⟨j, hj, rfl, hb, ho'⟩ := hrel
    by_cases hlt : j < 3
    · have hsz := lentITo_size l j hj
      rw [HL.out] at hsz
      obtain ⟨u, hcell⟩ := hb.some_ (i := n + j) (by omega)
      have hfr := hb.frozen (n + j)
      have hset := hb.set (n + j) (I (-777))
      rw [show n + j = l.length + j by rw [HL.out], lentITo_set l j hlt, HL.out] at hset
      have hon := ho'.setCell (p := ⟨w.heap.size, n + j, none⟩) (.inr (Nat.le_refl _)) (I (-777))
      have H1 := Lib.hid hset
      have H2 := Lib.hid hon
      clear hset hon hb ho' hsz
      go_wp2
      go_roundw
      case rel => exact ⟨j + 1, by omega, by go_num, H1.out, H2.out⟩
      case measure => simp [intOf]; omega
    · obtain rfl : j = 3 := by omega
      have H1 := Lib.hid hb
      have H2 := Lib.hid ho'
      clear hb ho'
      go_wp2
      go_ret
      exact ⟨rfl, by have := H1.out; simpa [lentITo, LentI] using this, H2.out⟩
theorem LentI.is {w : World} {g n : Nat} {l : List Int} (h : LentI w g l) (hl : l.length = n) : Is w (some ⟨g, 0, none⟩) n l := Sl.of_blk h 0 (by simp [← hl]) (by simp [← hl])
theorem law0_KeptInts (A : Option Addr) (n c : Nat) (l : List Int) (g : Nat) (w : World) (hg : LentI w g l) (h : Is w A n l) (hn : n ≤ 1000000) :
    Calls Try.prog 83 #[.slice (some ⟨g, 0, none⟩) n (n + 3), .slice A n c] w fun e w' => e = .returned (.bool true) ∧ Only [] w w' := by
  have hl := h.len
  have hcell : ∀ j, j < 3 → w.cell? ⟨g, n + j, none⟩ = some (.int .i64 (-777)) := fun j hj => by
    rw [Blk.cell hg, ← hl, List.getElem?_toArray, List.getElem?_append_right (by simp), List.getElem?_replicate_of_lt (by simpa using hj)]
    rfl
  have hb : Is w (some ⟨g, 0, none⟩) n l := LentI.is hg hl
  have H := Lib.hid hcell
  have HC := Lib.hid (law0_SameInts (some ⟨g, 0, none⟩) A n n (n + 3) c l l w hb h (by omega) (by omega))
  clear hcell hb hg h hl
  go_enter Try.func83, Try.ntmps83
  go_wp2
  go_loop [6] (fun k => ∃ j : Nat, j ≤ 3 ∧ k = .int .i64 j) (fun k => 3 - (intOf k).toNat)
  case atStart => exact ⟨0, Nat.zero_le _, rfl⟩
  case round =>
    obtain ⟨j, hj, rfl⟩ := hrel
    by_cases hlt : j < 3
    · have hc := H.out j hlt
      go_wp2
      go_round
      case rel => exact ⟨j + 1, by omega, by go_num⟩
      case measure => simp [intOf]; omega
    · go_wp2_with fail
      refine HC.out.mono ?_
      rintro e w' ⟨rfl, o1⟩
      rw [beq_self_eq_true]
      have O1 := Lib.hid o1
      clear o1
      go_wp2
      go_ret
      exact ⟨rfl, O1.out⟩
end Go.Proofs.Ytfafpggppbolkaa
