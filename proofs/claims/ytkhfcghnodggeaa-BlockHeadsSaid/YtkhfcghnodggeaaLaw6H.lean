/- Law 6: the walk of BlockHeads. -/
import Derived.Test.YtkhfcghnodggeaaLaw6B
import Derived.Test.YtkhfcghnodggeaaRef6B
import Derived.Test.YtkhfcghnodggeaaLend
namespace Go.Proofs.Ytkhfcghnodggeaa
open Go.RowKit Go.Proofs.FuMem Go.Proofs.FuCode Go.Proofs.FuClass Go.Proofs.FuBlock Go.Proofs.FuEq Go.Proofs.FuCrc
set_option maxRecDepth 100000
theorem headOf_cases (l : List UInt8) : ∃ (a b : Int) (r : Bool), headOf l = .tuple #[.int .i64 a, .int .i64 b, .bool r] := by
  unfold headOf
  split
  · exact ⟨_, _, _, rfl⟩
  · exact ⟨_, _, _, rfl⟩
set_option maxHeartbeats 1000000 in
theorem walk_BlockHeads (cc : Int) (A : Option Addr) (n c : Nat) (l : List UInt8) (w : World) (hc : -9223372036854775808 ≤ cc ∧ cc ≤ 9223372036854775807) (h : Bs w A n l) (hn : n ≤ maxLen) :
    Calls Try.prog 10 #[.int .i64 cc, .slice A n c] w fun e w' => e = .returned (.bool true) ∧ Only [] w w' := by
  unfold maxLen at hn
  have o0 : Only [] w w := Only.refl _ _
  have O0 := Lib.hid o0
  by_cases hbig : 1024 < n
  · have q0 : decide (1024 < (n : Int)) = true := by rw [decide_eq_true_eq]; omega
    clear h o0
    go_enter Try.func10, Try.ntmps10
    go_wp2_with fail
    refine (law6_awake _).mono ?_
    rintro e wz ⟨rfl, oz⟩
    have OZ := Lib.hid (O0.out.trans0 oz)
    clear oz
    go_wp2
    go_ret
    exact ⟨rfl, OZ.out⟩
  have q0 : decide (1024 < (n : Int)) = false := by rw [decide_eq_false_iff_not]; omega
  have hn2 : n ≤ 1024 := by omega
  have HB := Lib.hid h
  have HD1 := Lib.hid (fun w => block_Draft cc w hc)
  have HD2 := Lib.hid (fun w => ref6_Draft cc w)
  have hdl : (draftOf cc).length ≤ 64 := by
    unfold draftOf
    split
    · simp
    · unfold linesTo
      rw [laid_length]
      omega
  generalize draftOf cc = D at *
  obtain ⟨x, y, r, hxy⟩ := headOf_cases l
  have HXY := Lib.hid hxy
  clear h hbig hn o0 hxy
  go_enter Try.func10, Try.ntmps10
  go_wp2_with fail
  refine (HD1.out _).mono ?_
  rintro e w1 ⟨v1, rfl, A1, c1, rfl, b1, o1⟩
  have O1 := Lib.hid o1
  have H1 := Lib.hid b1
  have B1 := Lib.hid (HB.out.only0 o1)
  clear b1 o1
  go_wp2_with fail
  refine (HD2.out _).mono ?_
  rintro e w2 ⟨v2, rfl, A2, c2, rfl, b2, o2⟩
  have O2 := Lib.hid (O1.out.trans0 o2)
  have H2 := Lib.hid (own_only H1.out o2 (by simp))
  have T2 := Lib.hid (bs_own b2)
  have B2 := Lib.hid (B1.out.only0 o2)
  clear b2 o2
  have HSB := Lib.hid (law0_SameBytes A1 A2 D.length D.length c1 c2 D D w2 (bs_own H2.out) T2.out)
  rw [show (D == D) = true by simp] at HSB
  go_wp2_with fail
  refine HSB.out.mono ?_
  rintro e w' ⟨rfl, rfl⟩
  have HH1 := Lib.hid (block_Head A n c l w2 B2.out (by omega))
  rw [HXY.out] at HH1
  go_wp2_with fail
  refine HH1.out.mono ?_
  rintro e w3 ⟨rfl, o3⟩
  have O3 := Lib.hid (O2.out.trans0 o3)
  have H3 := Lib.hid (own_only H2.out o3 (by simp))
  have B3 := Lib.hid (B2.out.only0 o3)
  clear o3
  have HH2 := Lib.hid (ref6_Head A n c l w3 B3.out (by omega))
  rw [HXY.out] at HH2
  go_wp2_with fail
  refine HH2.out.mono ?_
  rintro e w4 ⟨rfl, o4⟩
  have O4 := Lib.hid (O3.out.trans0 o4)
  have H4 := Lib.hid (own_only H3.out o4 (by simp))
  clear o4
  have HOV := Lib.hid (law0_OverBytes (w0 := w) A1 D.length c1 D w4 H4.out O4.out (by omega))
  go_wp2_with fail
  refine HOV.out.mono ?_
  rintro e w5 ⟨rfl, o5⟩
  have O5 := Lib.hid o5
  clear o5
  have q1 : (x == x) = true := by simp
  have q2 : (y == y) = true := by simp
  have q3 : (r == r) = true := by simp
  go_wp2_with fail
  refine (HD1.out _).mono ?_
  rintro e w6 ⟨v6, rfl, A6, c6, rfl, b6, o6⟩
  have O6 := Lib.hid (O5.out.trans0 o6)
  have H6 := Lib.hid b6
  clear b6 o6
  go_wp2_with fail
  refine (HD2.out _).mono ?_
  rintro e w7 ⟨v7, rfl, A7, c7, rfl, b7, o7⟩
  have O7 := Lib.hid (O6.out.trans0 o7)
  have H7 := Lib.hid (own_only H6.out o7 (by simp))
  have T7 := Lib.hid (bs_own b7)
  clear b7 o7
  have HSB7 := Lib.hid (law0_SameBytes A6 A7 D.length D.length c6 c7 D D w7 (bs_own H7.out) T7.out)
  rw [show (D == D) = true by simp] at HSB7
  go_wp2_with fail
  refine HSB7.out.mono ?_
  rintro e w' ⟨rfl, rfl⟩
  go_wp2_with fail
  refine (law6_awake _).mono ?_
  rintro e wz ⟨rfl, oz⟩
  have OZ := Lib.hid (O7.out.trans0 oz)
  clear oz
  go_wp2
  go_ret
  exact ⟨rfl, OZ.out⟩
end Go.Proofs.Ytkhfcghnodggeaa
