/- The contracts of block.data, block.Head. -/
import Derived.Test.YtkhfcghnodggeaaBlockF
namespace Go.Proofs.FuBlock
open Go.Proofs.FuCode Go.Proofs.FuCrc Go.Proofs.FuClass
theorem dataOf_one {l : List UInt8} (h : 64 ≤ l.length) : dataOf 1 l = (l.drop 36).take 28 := by
  unfold dataOf
  apply List.ext_getElem
  · simp
    omega
  · intro i h1 h2
    simp at h1
    rw [List.getElem_map, List.getElem_range, List.getElem_take, List.getElem_drop]
    unfold pos
    rw [if_pos (by omega), getD_eq (by omega)]
theorem dataOf_succ {l : List UInt8} {j : Nat} (hj : 1 ≤ j) (h : 64 * (j + 1) ≤ l.length) : dataOf (j + 1) l = dataOf j l ++ (l.drop (64 * j + 1)).take 63 := by
  unfold dataOf
  apply List.ext_getElem
  · simp
    omega
  · intro i h1 h2
    simp at h1
    rw [List.getElem_map, List.getElem_range, List.getElem_append]
    split
    · rw [List.getElem_map, List.getElem_range]
    · rename_i h3
      simp at h3
      rw [List.getElem_take, List.getElem_drop]
      unfold pos
      rw [if_neg (by omega), getD_eq (by omega)]
      congr 1
      simp
      omega
end Go.Proofs.FuBlock
namespace Go.Proofs.Ytkhfcghnodggeaa
open Go.RowKit Go.Proofs.FuMem Go.Proofs.FuCode Go.Proofs.FuClass Go.Proofs.FuBlock Go.Proofs.FuEq Go.Proofs.FuCrc
set_option maxRecDepth 100000
theorem own_empty8 (w : World) (e : TypeId) : (w.alloc (.cells #[] e)).ownsRow w.heap.size e 1 (.slice (some ⟨w.heap.size, 0, none⟩) 0 0) 0 [] :=
  ⟨rfl, .inr ⟨w.heap.size, 0, #[], rfl, Nat.le_refl _, Blk.new w e #[], Nat.le_refl _, Nat.zero_le _, rfl, rfl⟩⟩
set_option maxHeartbeats 800000 in
theorem block_data (A : Option Addr) (n c m : Nat) (l : List UInt8) (w : World) (h : Bs w A n l) (hm : 1 ≤ m ∧ m ≤ 8) (hn : n = 64 * m) (hc : n ≤ c) :
    Calls Try.prog 39 #[.slice A n c] w fun e w' => e = .returned (.string ⟨(dataOf m l).toArray⟩) ∧ Only [] w w' := by
  have hl := h.len
  obtain ⟨b, off, rfl, hcell⟩ := h.at_ (by omega)
  have hbw := h.lt (by omega) rfl
  obtain ⟨i0, hi0, hz0, hz1, hz2⟩ := info_parts Try.byteInfo
  have HI0 := Lib.hid hi0
  have HZ0 := Lib.hid hz0
  have HZ1 := Lib.hid hz1
  have HZ2 := Lib.hid hz2
  have HB := Lib.hid h
  have HN := Lib.hid hn
  have HL := Lib.hid hl
  have hn64 : 64 ≤ n := by omega
  have hn2 : n ≤ 512 := by omega
  have D1 := Lib.hid (dataOf_one (l := l) (by omega))
  have DS := Lib.hid (fun j (hj : 1 ≤ j) (hh : j + 1 ≤ m) => dataOf_succ (l := l) hj (by omega))
  clear hi0 hz0 hz1 hz2 h hl hcell hn
  have o1 : Only [] w (w.alloc (.cells #[] 5)) := (Only.refl _ _).alloc _
  have HB1 := Lib.hid ((HB.out.only0 o1).cut (a := 36) (m := 28) (by omega))
  have OW := Lib.hid (own_empty8 w 5)
  have O1 := Lib.hid o1
  clear o1
  go_enter Try.func39, Try.ntmps39
  go_wp2_with (at_builtin; obtain ⟨A9, c9, w9, hr9, hw9, hs9, on9⟩ := append_own (P := Try.prog) (w.alloc (.cells #[] 5)) O1.out 27 27 5 i0 _ 1 Try.underlying27 HI0.out HZ0.out HZ1.out HZ2.out rfl (.slice (some ⟨w.heap.size, 0, none⟩) 0 0) 0 [] OW.out (some ⟨b, off + 36, none⟩) 28 (c - 36) (((l.drop 36).take 28).map B) HB1.out one_B (by unfold maxLen; omega) (by omega); rw [← D1.out, List.nil_append] at hw9; have H9 := Lib.hid hw9; have N9 := Lib.hid on9; clear hw9 hs9 on9; refine wpList_append_run _ rfl (.tmp 5) (.tmp 7) 27 rfl _ _ rfl rfl _ _ hr9 ?_)
  go_loopw [3, 4] (fun xv av wr => ∃ (j a k co : Nat) (Ao : Option Addr), 1 ≤ j ∧ j ≤ m ∧ a = 64 * j ∧ k = 28 + 63 * (j - 1) ∧ av = .int .i64 a ∧ xv = .slice Ao k co ∧ wr.ownsRow w.heap.size 5 1 (.slice Ao k co) k ((dataOf j l).map B) ∧ Only [] w wr) (fun _ av _ => n - (intOf av).toNat)
  case atStart => exact ⟨1, 64, 28, c9, A9, by omega, by omega, by omega, by omega, rfl, by simp, H9.out, N9.out⟩
  case round =>
    obtain ⟨j, a, k, co, Ao, h1, h2, ha, hk, rfl, rfl, ho, on⟩ := hrel
    by_cases hj : j + 1 ≤ m
    · have han : a + 64 ≤ n := by have := HN.out; omega
      have q1 : decide ((a : Int) < (n : Int)) = true := by rw [decide_eq_true_eq]; omega
      have hcut : Bs wr (some ⟨b, off + (a + 1), none⟩) 63 ((l.drop (a + 1)).take 63) := (HB.out.only0 on).cut (by omega)
      have HST := Lib.hid (DS.out j h1 hj)
      rw [← ha] at HST
      have HA := Lib.hid ha
      have HK := Lib.hid hk
      have h63 : a + 64 - (a + 1) = 63 := by omega
      have hcut2 : Bs wr (some ⟨b, off + (a + 1), none⟩) (a + 64 - (a + 1)) ((l.drop (a + 1)).take 63) := by rw [h63]; exact hcut
      have HC := Lib.hid hcut2
      clear h63 hcut2
      have HO := Lib.hid ho
      have ON := Lib.hid on
      have hk2 : k ≤ 500 := by omega
      clear ha hk hcut ho on
      go_wp2_with (at_builtin; obtain ⟨A8, c8, w8, hr8, hw8, hs8, on8⟩ := append_own (P := Try.prog) wr ON.out 27 27 5 i0 _ 1 Try.underlying27 HI0.out HZ0.out HZ1.out HZ2.out rfl _ k _ HO.out (some ⟨b, off + (a + 1), none⟩) (a + 64 - (a + 1)) (c - (a + 1)) (((l.drop (a + 1)).take 63).map B) HC.out one_B (by unfold maxLen; omega) (by omega); rw [← List.map_append, ← HST.out] at hw8; have H8 := Lib.hid hw8; have N8 := Lib.hid on8; clear hw8 hs8 on8; refine wpList_append_run _ rfl (.tmp 15) (.tmp 21) 27 rfl _ _ rfl rfl _ _ hr8 ?_)
      go_roundw
      · exact ⟨j + 1, a + 64, k + (a + 64 - (a + 1)), c8, A8, by omega, by omega, by have := HA.out; omega, by have := HK.out; omega, by simp, by rw [show a + 64 - (a + 1) = 63 by omega], H8.out, N8.out⟩
      · simp [intOf]
        omega
    · obtain rfl : m = j := by omega
      have han : n = a := by have := HN.out; omega
      subst han
      have q1 : decide ((n : Int) < (n : Int)) = false := by simp
      have HS := Lib.hid (show Bs wr Ao k (dataOf m l) from Sl.of_own ho)
      have ON := Lib.hid on
      clear ha hk ho on
      have hst := run_str (P := Try.prog) Try.underlying27 Try.underlying5 Try.underlying9 HS.out co
      go_wp2
      go_ret
      exact ⟨rfl, ON.out⟩
end Go.Proofs.Ytkhfcghnodggeaa
