/- Law 3: what every program answers that is one. -/
import Derived.Test.YtfafpggppbolkaaNvmG
set_option maxRecDepth 100000
namespace Go.Proofs.Ytfafpggppbolkaa
open Go.RowKit Go.Proofs.FuMem Go.Proofs.FuNvm Go.Proofs.FuCode
theorem bs_new (w : World) (t : TypeId) (l : List UInt8) : Bs (w.alloc (.cells (l.map B).toArray t)) (some ⟨w.heap.size, 0, none⟩) l.length l := by
  have := Blk.new w t (l.map B).toArray
  exact Sl.of_blk this 0 (by rw [List.drop_zero, List.take_of_length_le (by simp)]) (by simp)
theorem is_new (w : World) (t : TypeId) (l : List Int) : Is (w.alloc (.cells (l.map (Value.int .i64)).toArray t)) (some ⟨w.heap.size, 0, none⟩) l.length l := by
  have := Blk.new w t (l.map (Value.int .i64)).toArray
  exact Sl.of_blk this 0 (by rw [List.drop_zero, List.take_of_length_le (by simp)]) (by simp)
theorem madeB_get {w w' : World} {l : List UInt8} {v : Value} (h : MadeB w l v w') (hl : 0 < l.length) : ∃ g c, v = .slice (some ⟨g, 0, none⟩) l.length c ∧ OwnB 5 w' w.heap.size g l.length c l ∧ w.heap.size ≤ g ∧ Only [] w w' := by
  obtain ⟨A, c, rfl, h, o⟩ := h
  obtain ⟨g, rfl, hb, _, ho⟩ := OwnB.of h hl
  exact ⟨g, c, rfl, ho, hb, o⟩
def seven : Dev := storeD (newDev 2) 0 noLine 1 [7]
set_option maxHeartbeats 1000000 in
theorem law3_awake (w : World) : Calls Try.prog 17 #[] w fun e w' => e = .returned (.bool true) ∧ Only [] w w' := by
  have ha0 : seven.lines[0]? = some { noLine with now := over noLine.now 1 [7] } := rfl
  have ha1 : (over noLine.now 1 [7]).length = 64 := by decide
  have ha2 : noLine.kept.length = 64 := by decide
  have ha3 : (over noLine.now 1 [7]).getD 1 0 = 7 := by decide
  have ha4 : noLine.kept.getD 1 0 = 0 := by decide
  have ha5 : those (fun x => x.now != x.kept) seven.lines seven.lines.length = [0] := by decide
  have hz : (newDev 2).lines[0]? = some noLine := rfl
  have hseven : storeD (newDev 2) 0 noLine 1 [7] = seven := rfl
  have HS := Lib.hid hseven
  generalize over noLine.now 1 [7] = lv at *
  generalize seven = D at *
  go_enter Try.func17, Try.ntmps17
  go_wp2_with fail
  refine (nvm_New 2 _ (by omega) (by omega)).mono ?_
  rintro e w1 ⟨g, cb, rfl, d1, o1, f1, f2⟩
  have D1 := Lib.hid d1
  have O1 := Lib.hid o1
  clear d1 o1
  go_wp2_with fail
  have hw2 := bs_new w1 5 [7]
  have hon2 : Only [] w1 (w1.alloc (.cells ([(7 : UInt8)].map B).toArray 5)) := (Only.refl _ _).alloc _
  go_wp2_with fail
  refine (nvm_Store g cb 2 (newDev 2) 0 1 noLine hz (some ⟨w1.heap.size, 0, none⟩) 1 1 [7] _ (D1.out.only0 hon2) hw2 (by omega)).mono ?_
  rintro e w3 ⟨rfl, d3, o3⟩
  rw [HS.out] at d3
  have D3 := Lib.hid d3
  have O3 := Lib.hid ((O1.out.trans0 hon2).trans o3 (by intro b hb; simp at hb; rcases hb with rfl | rfl <;> omega))
  clear d3 o3 hw2 hon2 hz
  go_wp2_with fail
  refine (nvm_Load g cb 2 D 0 _ ha0 _ D3.out).mono ?_
  rintro e w4 ⟨v4, rfl, m4⟩
  obtain ⟨g4, c4, rfl, b4, f4, o4⟩ := madeB_get m4 (by rw [ha1]; omega)
  have D4 := Lib.hid (D3.out.only0 o4)
  have O4 := Lib.hid (O3.out.trans0 o4)
  have B4 := Lib.hid b4
  clear o4 b4 m4
  go_wp2_with fail
  refine (nvm_Durable g cb 2 D 0 _ ha0 _ D4.out).mono ?_
  rintro e w5 ⟨v5, rfl, m5⟩
  obtain ⟨g5, c5, rfl, b5, f5, o5⟩ := madeB_get m5 (by rw [ha2]; omega)
  have D5 := Lib.hid (D4.out.only0 o5)
  have O5 := Lib.hid (O4.out.trans0 o5)
  have e10 := (B4.out.only o5 (by simp)).cell 1 (by rw [ha1]; omega)
  have e20 := b5.cell 1 (by rw [ha2]; omega)
  rw [ha3] at e10
  rw [ha4] at e20
  have e1 : w5.cell? ⟨g4, 1, none⟩ = some (.int .u8 7) := e10
  have e2 : w5.cell? ⟨g5, 1, none⟩ = some (.int .u8 0) := e20
  have hlo := nvm_Loose g cb 2 D w5 D5.out
  rw [ha5] at hlo
  have HLO := Lib.hid hlo
  clear e10 e20 hlo
  simp only [ha1, ha2]
  clear o5 b5 m5
  go_wp2_with fail
  refine (HLO.out).mono ?_
  rintro e w6 ⟨v6, rfl, A6, c6, rfl, b6, o6⟩
  have hs7 := is_new w6 3 [0]
  have o7 : Only [] w6 (w6.alloc (.cells ([(0 : Int)].map (Value.int .i64)).toArray 3)) := (Only.refl _ _).alloc _
  have hs6 := (is_own b6).only0 o7
  have O7 := Lib.hid ((O5.out.trans0 o6).trans0 o7)
  clear b6 o6 o7
  have hk := law0_SameInts _ _ _ _ c6 1 _ _ _ hs6 hs7 (by simp) (by simp)
  have HK := Lib.hid hk
  clear hk hs6 hs7
  go_wp2_with fail
  refine (HK.out).mono ?_
  rintro e w8 ⟨rfl, o8⟩
  rw [beq_self_eq_true]
  have O8 := Lib.hid (O7.out.trans0 o8)
  clear o8
  go_wp2
  go_ret
  exact ⟨rfl, O8.out⟩
end Go.Proofs.Ytfafpggppbolkaa
