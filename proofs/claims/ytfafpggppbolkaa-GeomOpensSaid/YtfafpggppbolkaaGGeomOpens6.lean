/- The walk of the statement GeomOpens. -/
import Derived.Test.YtfafpggppbolkaaGGeomOpens1
import Derived.Test.YtfafpggppbolkaaGGeomOpens2
import Derived.Test.YtfafpggppbolkaaGGeomOpens3
import Derived.Test.YtfafpggppbolkaaGGeomOpens4
import Derived.Test.YtfafpggppbolkaaGGeomOpens5
set_option maxRecDepth 100000
namespace Go.Proofs.Ytfafpggppbolkaa
open Go.RowKit Go.Proofs.FuMem Go.Proofs.FuNvm Go.Proofs.FuCode Go.Proofs.FuGeom Go.Proofs.FuCrc
set_option maxHeartbeats 8000000 in
theorem opens_ttt (m : Nat) (line at_ : Int) (A : Option Addr) (n c : Nat) (l : List UInt8) (v : Nat) (w : World) (h1 : 1 ≤ m) (h2 : m ≤ 40) (hat : -9223372036854775808 ≤ at_ ∧ at_ ≤ 9223372036854775807) (hl : Bs w A n l) (hn : n ≤ 64) (hv : v < 18446744073709551616) (hline : line < 0) :
    Calls Try.prog 15 #[.int .i64 m, .bool true, .int .i64 line, .int .i64 at_, .slice A n c, .int .u64 v, .bool true] w fun e w' => e = .returned (.bool true) ∧ Only [] w w' := by
  have q0 : decide ((64 : Int) < (n : Int)) = false := by rw [decide_eq_false_iff_not]; omega
  have q1 : decide ((40 : Int) < (m : Int)) = false := by rw [decide_eq_false_iff_not]; omega
  have q2 : decide (line < 0) = true := by simpa using hline
  have HB := Lib.hid hl
  have HBK := Lib.hid (fun (hp : 0 < n) => sl_blocks hl hp)
  have HW := Lib.hid (fun w => law0_Low line 3 w (by omega) (by omega))
  clear hl hline
  generalize low line 3 = k at *
  go_enter Try.func15, Try.ntmps15
  go_wp2_with fail
  refine (nvm_New m _ h1 (by omega)).mono ?_
  rintro e w1 ⟨g, cb, rfl, d1, o1, f1, f2⟩
  have hg1 := d1.lt1
  have hc1 := d1.lt2
  have D1 := Lib.hid d1
  have O1 := Lib.hid o1
  have hs1 := o1.size
  clear d1 o1
  go_wp2_with fail
  refine (ref3_New m _ h1 (by omega)).mono ?_
  rintro e w2 ⟨rg, rb, rfl, r2, o2, f3, f4⟩
  have hr1 := r2.lt1
  have hr2 := r2.lt2
  have D := Lib.hid (D1.out.only0 o2)
  have R := Lib.hid r2
  have O := Lib.hid (O1.out.trans0 o2)
  have hsz := o2.size
  clear r2 o2 D1 O1
  go_wp2_with fail
  refine (law0_Num _ _).mono ?_
  rintro e w' ⟨rfl, rfl⟩
  go_wp2_with fail
  refine (geom_Format g cb m _ _ D.out).mono ?_
  rintro e w3 ⟨rfl, d3, o3⟩
  have R := Lib.hid (IsDev.only R.out o3 (by simp; omega) (by simp; omega))
  have D := Lib.hid d3
  have O := Lib.hid (O.out.trans o3 (by intro b hb; simp at hb; omega))
  clear d3 o3
  go_wp2_with fail
  refine (law0_Num _ _).mono ?_
  rintro e w' ⟨rfl, rfl⟩
  go_wp2_with fail
  refine (ref4_Format rg rb m _ _ R.out).mono ?_
  rintro e w4 ⟨rfl, r4, o4⟩
  have D := Lib.hid (IsDev.only D.out o4 (by simp; omega) (by simp; omega))
  have R := Lib.hid r4
  have O := Lib.hid (O.out.trans o4 (by intro b hb; simp at hb; omega))
  clear r4 o4
  go_wp2_with fail
  refine (HW.out _).mono ?_
  rintro e w' ⟨rfl, rfl⟩
  go_wp2_with fail
  refine (nvm_Store_any g cb m _ _ _ A n c l _ D.out (HB.out.only0 O.out) (by unfold maxLen; omega)).mono ?_
  rintro e wa ⟨rfl, da, oa⟩
  have R := Lib.hid (IsDev.only R.out oa (by simp; omega) (by simp; omega))
  have D := Lib.hid da
  have O := Lib.hid (O.out.trans oa (by intro b hb; simp at hb; omega))
  have hsa := oa.size
  clear da oa
  go_wp2_with fail
  refine (HW.out _).mono ?_
  rintro e w' ⟨rfl, rfl⟩
  go_wp2_with fail
  refine (ref3_Store_any rg rb m _ _ _ A n c l _ R.out (HB.out.only0 O.out) (by unfold maxLen; omega) (fun hp b off t e => by have := HBK.out hp b off t e; omega) hat).mono ?_
  rintro e wb ⟨rfl, rr, ob⟩
  have D := Lib.hid (IsDev.only D.out ob (by simp; omega) (by simp; omega))
  have R := Lib.hid rr
  have O := Lib.hid (O.out.trans ob (by intro b hb; simp at hb; omega))
  have hsb := ob.size
  clear rr ob
  go_wp2_with fail
  refine (geom_Clock v _ hv).mono ?_
  rintro e w5 ⟨g5, rfl, a5, f5, o5⟩
  have hcl := clockL_length v
  have hb5 := Arr.bs a5
  rw [hcl] at hb5
  have B5 := Lib.hid hb5
  have D := Lib.hid (D.out.only0 o5)
  have R := Lib.hid (R.out.only0 o5)
  have O := Lib.hid (O.out.trans0 o5)
  clear a5 o5 hb5 hcl f5
  go_wp2_with fail
  refine (nvm_Store_any g cb m _ 1 0 _ 64 64 _ _ D.out B5.out (by unfold maxLen; omega)).mono ?_
  rintro e w6 ⟨rfl, d6, o6⟩
  have R := Lib.hid (IsDev.only R.out o6 (by simp; omega) (by simp; omega))
  have D := Lib.hid d6
  have O := Lib.hid (O.out.trans o6 (by intro b hb; simp at hb; omega))
  clear d6 o6 B5
  go_wp2_with fail
  refine (ref4_Clock v _ hv).mono ?_
  rintro e w7 ⟨A7, c7, rfl, a7, o7⟩
  have S7 := Lib.hid (own_safe a7 R.out.lt2)
  have B7 := Lib.hid (bs_own a7)
  have D := Lib.hid (D.out.only0 o7)
  have R := Lib.hid (R.out.only0 o7)
  have O := Lib.hid (O.out.trans0 o7)
  clear a7 o7
  go_wp2_with fail
  refine (ref3_Store_any rg rb m _ 1 0 _ 64 _ _ _ R.out B7.out (by unfold maxLen; omega) S7.out (by omega)).mono ?_
  rintro e w8 ⟨rfl, r8, o8⟩
  have D := Lib.hid (IsDev.only D.out o8 (by simp; omega) (by simp; omega))
  have R := Lib.hid r8
  have O := Lib.hid (O.out.trans o8 (by intro b hb; simp at hb; omega))
  clear r8 o8 S7 B7
  go_wp2_with fail
  refine (nvm_Cut g cb m _ none 0 0 [] _ D.out (Is.nil _ _) (by omega) (fun h => by omega)).mono ?_
  rintro e w9 ⟨A9, c9, rfl, _, d9, o9⟩
  have R := Lib.hid (IsDev.only R.out o9 (by simp; omega) (by simp; omega))
  have D := Lib.hid d9
  have O := Lib.hid (O.out.trans o9 (by intro b hb; simp at hb; omega))
  clear d9 o9
  go_wp2_with fail
  refine (ref3_Cut rg rb m _ none 0 0 [] _ R.out (Is.nil _ _) (by omega) (fun h => by omega)).mono ?_
  rintro e wz ⟨Az, cz, rfl, _, rz, oz⟩
  have D := Lib.hid (IsDev.only D.out oz (by simp; omega) (by simp; omega))
  have R := Lib.hid rz
  have O := Lib.hid (O.out.trans oz (by intro b hb; simp at hb; omega))
  clear rz oz
  go_wp2_with fail
  refine (geom_Open g cb m _ _ D.out).mono ?_
  rintro e wc ⟨rfl, oc⟩
  have R := Lib.hid (R.out.only0 oc)
  have O := Lib.hid (O.out.trans0 oc)
  clear oc
  go_wp2_with fail
  refine (ref4_Open rg rb m _ _ R.out).mono ?_
  rintro e wd ⟨rfl, od⟩
  have O := Lib.hid (O.out.trans0 od)
  clear od
  go_wp2_with fail
  refine (law0_Num _ _).mono ?_
  rintro e w' ⟨rfl, rfl⟩
  go_wp2_with fail
  refine (law4_awake _).mono ?_
  rintro e we ⟨rfl, oe⟩
  have O := Lib.hid (O.out.trans0 oe)
  clear oe
  go_wp2
  go_ret
  exact ⟨rfl, O.out⟩
set_option maxHeartbeats 8000000 in
theorem opens_ttf (m : Nat) (line at_ : Int) (A : Option Addr) (n c : Nat) (l : List UInt8) (v : Nat) (w : World) (h1 : 1 ≤ m) (h2 : m ≤ 40) (hat : -9223372036854775808 ≤ at_ ∧ at_ ≤ 9223372036854775807) (hl : Bs w A n l) (hn : n ≤ 64) (hv : v < 18446744073709551616) (hline : line < 0) :
    Calls Try.prog 15 #[.int .i64 m, .bool true, .int .i64 line, .int .i64 at_, .slice A n c, .int .u64 v, .bool false] w fun e w' => e = .returned (.bool true) ∧ Only [] w w' := by
  have q0 : decide ((64 : Int) < (n : Int)) = false := by rw [decide_eq_false_iff_not]; omega
  have q1 : decide ((40 : Int) < (m : Int)) = false := by rw [decide_eq_false_iff_not]; omega
  have q2 : decide (line < 0) = true := by simpa using hline
  have HB := Lib.hid hl
  have HBK := Lib.hid (fun (hp : 0 < n) => sl_blocks hl hp)
  have HW := Lib.hid (fun w => law0_Low line 3 w (by omega) (by omega))
  clear hl hline
  generalize low line 3 = k at *
  go_enter Try.func15, Try.ntmps15
  go_wp2_with fail
  refine (nvm_New m _ h1 (by omega)).mono ?_
  rintro e w1 ⟨g, cb, rfl, d1, o1, f1, f2⟩
  have hg1 := d1.lt1
  have hc1 := d1.lt2
  have D1 := Lib.hid d1
  have O1 := Lib.hid o1
  have hs1 := o1.size
  clear d1 o1
  go_wp2_with fail
  refine (ref3_New m _ h1 (by omega)).mono ?_
  rintro e w2 ⟨rg, rb, rfl, r2, o2, f3, f4⟩
  have hr1 := r2.lt1
  have hr2 := r2.lt2
  have D := Lib.hid (D1.out.only0 o2)
  have R := Lib.hid r2
  have O := Lib.hid (O1.out.trans0 o2)
  have hsz := o2.size
  clear r2 o2 D1 O1
  go_wp2_with fail
  refine (law0_Num _ _).mono ?_
  rintro e w' ⟨rfl, rfl⟩
  go_wp2_with fail
  refine (geom_Format g cb m _ _ D.out).mono ?_
  rintro e w3 ⟨rfl, d3, o3⟩
  have R := Lib.hid (IsDev.only R.out o3 (by simp; omega) (by simp; omega))
  have D := Lib.hid d3
  have O := Lib.hid (O.out.trans o3 (by intro b hb; simp at hb; omega))
  clear d3 o3
  go_wp2_with fail
  refine (law0_Num _ _).mono ?_
  rintro e w' ⟨rfl, rfl⟩
  go_wp2_with fail
  refine (ref4_Format rg rb m _ _ R.out).mono ?_
  rintro e w4 ⟨rfl, r4, o4⟩
  have D := Lib.hid (IsDev.only D.out o4 (by simp; omega) (by simp; omega))
  have R := Lib.hid r4
  have O := Lib.hid (O.out.trans o4 (by intro b hb; simp at hb; omega))
  clear r4 o4
  go_wp2_with fail
  refine (HW.out _).mono ?_
  rintro e w' ⟨rfl, rfl⟩
  go_wp2_with fail
  refine (nvm_Store_any g cb m _ _ _ A n c l _ D.out (HB.out.only0 O.out) (by unfold maxLen; omega)).mono ?_
  rintro e wa ⟨rfl, da, oa⟩
  have R := Lib.hid (IsDev.only R.out oa (by simp; omega) (by simp; omega))
  have D := Lib.hid da
  have O := Lib.hid (O.out.trans oa (by intro b hb; simp at hb; omega))
  have hsa := oa.size
  clear da oa
  go_wp2_with fail
  refine (HW.out _).mono ?_
  rintro e w' ⟨rfl, rfl⟩
  go_wp2_with fail
  refine (ref3_Store_any rg rb m _ _ _ A n c l _ R.out (HB.out.only0 O.out) (by unfold maxLen; omega) (fun hp b off t e => by have := HBK.out hp b off t e; omega) hat).mono ?_
  rintro e wb ⟨rfl, rr, ob⟩
  have D := Lib.hid (IsDev.only D.out ob (by simp; omega) (by simp; omega))
  have R := Lib.hid rr
  have O := Lib.hid (O.out.trans ob (by intro b hb; simp at hb; omega))
  have hsb := ob.size
  clear rr ob
  go_wp2_with fail
  refine (geom_Clock v _ hv).mono ?_
  rintro e w5 ⟨g5, rfl, a5, f5, o5⟩
  have hcl := clockL_length v
  have hb5 := Arr.bs a5
  rw [hcl] at hb5
  have B5 := Lib.hid hb5
  have D := Lib.hid (D.out.only0 o5)
  have R := Lib.hid (R.out.only0 o5)
  have O := Lib.hid (O.out.trans0 o5)
  clear a5 o5 hb5 hcl f5
  go_wp2_with fail
  refine (nvm_Store_any g cb m _ 1 0 _ 64 64 _ _ D.out B5.out (by unfold maxLen; omega)).mono ?_
  rintro e w6 ⟨rfl, d6, o6⟩
  have R := Lib.hid (IsDev.only R.out o6 (by simp; omega) (by simp; omega))
  have D := Lib.hid d6
  have O := Lib.hid (O.out.trans o6 (by intro b hb; simp at hb; omega))
  clear d6 o6 B5
  go_wp2_with fail
  refine (ref4_Clock v _ hv).mono ?_
  rintro e w7 ⟨A7, c7, rfl, a7, o7⟩
  have S7 := Lib.hid (own_safe a7 R.out.lt2)
  have B7 := Lib.hid (bs_own a7)
  have D := Lib.hid (D.out.only0 o7)
  have R := Lib.hid (R.out.only0 o7)
  have O := Lib.hid (O.out.trans0 o7)
  clear a7 o7
  go_wp2_with fail
  refine (ref3_Store_any rg rb m _ 1 0 _ 64 _ _ _ R.out B7.out (by unfold maxLen; omega) S7.out (by omega)).mono ?_
  rintro e w8 ⟨rfl, r8, o8⟩
  have D := Lib.hid (IsDev.only D.out o8 (by simp; omega) (by simp; omega))
  have R := Lib.hid r8
  have O := Lib.hid (O.out.trans o8 (by intro b hb; simp at hb; omega))
  clear r8 o8 S7 B7
  go_wp2_with fail
  refine (geom_Open g cb m _ _ D.out).mono ?_
  rintro e wc ⟨rfl, oc⟩
  have R := Lib.hid (R.out.only0 oc)
  have O := Lib.hid (O.out.trans0 oc)
  clear oc
  go_wp2_with fail
  refine (ref4_Open rg rb m _ _ R.out).mono ?_
  rintro e wd ⟨rfl, od⟩
  have O := Lib.hid (O.out.trans0 od)
  clear od
  go_wp2_with fail
  refine (law0_Num _ _).mono ?_
  rintro e w' ⟨rfl, rfl⟩
  go_wp2_with fail
  refine (law4_awake _).mono ?_
  rintro e we ⟨rfl, oe⟩
  have O := Lib.hid (O.out.trans0 oe)
  clear oe
  go_wp2
  go_ret
  exact ⟨rfl, O.out⟩
set_option maxHeartbeats 8000000 in
theorem opens_tft (m : Nat) (line at_ : Int) (A : Option Addr) (n c : Nat) (l : List UInt8) (v : Nat) (w : World) (h1 : 1 ≤ m) (h2 : m ≤ 40) (hat : -9223372036854775808 ≤ at_ ∧ at_ ≤ 9223372036854775807) (hl : Bs w A n l) (hn : n ≤ 64) (hv : v < 18446744073709551616) (hline : 0 ≤ line) :
    Calls Try.prog 15 #[.int .i64 m, .bool true, .int .i64 line, .int .i64 at_, .slice A n c, .int .u64 v, .bool true] w fun e w' => e = .returned (.bool true) ∧ Only [] w w' := by
  have q0 : decide ((64 : Int) < (n : Int)) = false := by rw [decide_eq_false_iff_not]; omega
  have q1 : decide ((40 : Int) < (m : Int)) = false := by rw [decide_eq_false_iff_not]; omega
  have q2 : decide (line < 0) = false := by simpa using hline
  have HB := Lib.hid hl
  have HBK := Lib.hid (fun (hp : 0 < n) => sl_blocks hl hp)
  have HW := Lib.hid (fun w => law0_Low line 3 w (by omega) (by omega))
  clear hl hline
  generalize low line 3 = k at *
  go_enter Try.func15, Try.ntmps15
  go_wp2_with fail
  refine (nvm_New m _ h1 (by omega)).mono ?_
  rintro e w1 ⟨g, cb, rfl, d1, o1, f1, f2⟩
  have hg1 := d1.lt1
  have hc1 := d1.lt2
  have D1 := Lib.hid d1
  have O1 := Lib.hid o1
  have hs1 := o1.size
  clear d1 o1
  go_wp2_with fail
  refine (ref3_New m _ h1 (by omega)).mono ?_
  rintro e w2 ⟨rg, rb, rfl, r2, o2, f3, f4⟩
  have hr1 := r2.lt1
  have hr2 := r2.lt2
  have D := Lib.hid (D1.out.only0 o2)
  have R := Lib.hid r2
  have O := Lib.hid (O1.out.trans0 o2)
  have hsz := o2.size
  clear r2 o2 D1 O1
  go_wp2_with fail
  refine (law0_Num _ _).mono ?_
  rintro e w' ⟨rfl, rfl⟩
  go_wp2_with fail
  refine (geom_Format g cb m _ _ D.out).mono ?_
  rintro e w3 ⟨rfl, d3, o3⟩
  have R := Lib.hid (IsDev.only R.out o3 (by simp; omega) (by simp; omega))
  have D := Lib.hid d3
  have O := Lib.hid (O.out.trans o3 (by intro b hb; simp at hb; omega))
  clear d3 o3
  go_wp2_with fail
  refine (law0_Num _ _).mono ?_
  rintro e w' ⟨rfl, rfl⟩
  go_wp2_with fail
  refine (ref4_Format rg rb m _ _ R.out).mono ?_
  rintro e w4 ⟨rfl, r4, o4⟩
  have D := Lib.hid (IsDev.only D.out o4 (by simp; omega) (by simp; omega))
  have R := Lib.hid r4
  have O := Lib.hid (O.out.trans o4 (by intro b hb; simp at hb; omega))
  clear r4 o4
  go_wp2_with fail
  refine (HW.out _).mono ?_
  rintro e w' ⟨rfl, rfl⟩
  go_wp2_with fail
  refine (nvm_Store_any g cb m _ _ _ A n c l _ D.out (HB.out.only0 O.out) (by unfold maxLen; omega)).mono ?_
  rintro e wa ⟨rfl, da, oa⟩
  have R := Lib.hid (IsDev.only R.out oa (by simp; omega) (by simp; omega))
  have D := Lib.hid da
  have O := Lib.hid (O.out.trans oa (by intro b hb; simp at hb; omega))
  have hsa := oa.size
  clear da oa
  go_wp2_with fail
  refine (HW.out _).mono ?_
  rintro e w' ⟨rfl, rfl⟩
  go_wp2_with fail
  refine (ref3_Store_any rg rb m _ _ _ A n c l _ R.out (HB.out.only0 O.out) (by unfold maxLen; omega) (fun hp b off t e => by have := HBK.out hp b off t e; omega) hat).mono ?_
  rintro e wb ⟨rfl, rr, ob⟩
  have D := Lib.hid (IsDev.only D.out ob (by simp; omega) (by simp; omega))
  have R := Lib.hid rr
  have O := Lib.hid (O.out.trans ob (by intro b hb; simp at hb; omega))
  have hsb := ob.size
  clear rr ob
  go_wp2_with fail
  refine (nvm_Cut g cb m _ none 0 0 [] _ D.out (Is.nil _ _) (by omega) (fun h => by omega)).mono ?_
  rintro e w9 ⟨A9, c9, rfl, _, d9, o9⟩
  have R := Lib.hid (IsDev.only R.out o9 (by simp; omega) (by simp; omega))
  have D := Lib.hid d9
  have O := Lib.hid (O.out.trans o9 (by intro b hb; simp at hb; omega))
  clear d9 o9
  go_wp2_with fail
  refine (ref3_Cut rg rb m _ none 0 0 [] _ R.out (Is.nil _ _) (by omega) (fun h => by omega)).mono ?_
  rintro e wz ⟨Az, cz, rfl, _, rz, oz⟩
  have D := Lib.hid (IsDev.only D.out oz (by simp; omega) (by simp; omega))
  have R := Lib.hid rz
  have O := Lib.hid (O.out.trans oz (by intro b hb; simp at hb; omega))
  clear rz oz
  go_wp2_with fail
  refine (geom_Open g cb m _ _ D.out).mono ?_
  rintro e wc ⟨rfl, oc⟩
  have R := Lib.hid (R.out.only0 oc)
  have O := Lib.hid (O.out.trans0 oc)
  clear oc
  go_wp2_with fail
  refine (ref4_Open rg rb m _ _ R.out).mono ?_
  rintro e wd ⟨rfl, od⟩
  have O := Lib.hid (O.out.trans0 od)
  clear od
  go_wp2_with fail
  refine (law0_Num _ _).mono ?_
  rintro e w' ⟨rfl, rfl⟩
  go_wp2_with fail
  refine (law4_awake _).mono ?_
  rintro e we ⟨rfl, oe⟩
  have O := Lib.hid (O.out.trans0 oe)
  clear oe
  go_wp2
  go_ret
  exact ⟨rfl, O.out⟩
set_option maxHeartbeats 8000000 in
theorem opens_tff (m : Nat) (line at_ : Int) (A : Option Addr) (n c : Nat) (l : List UInt8) (v : Nat) (w : World) (h1 : 1 ≤ m) (h2 : m ≤ 40) (hat : -9223372036854775808 ≤ at_ ∧ at_ ≤ 9223372036854775807) (hl : Bs w A n l) (hn : n ≤ 64) (hv : v < 18446744073709551616) (hline : 0 ≤ line) :
    Calls Try.prog 15 #[.int .i64 m, .bool true, .int .i64 line, .int .i64 at_, .slice A n c, .int .u64 v, .bool false] w fun e w' => e = .returned (.bool true) ∧ Only [] w w' := by
  have q0 : decide ((64 : Int) < (n : Int)) = false := by rw [decide_eq_false_iff_not]; omega
  have q1 : decide ((40 : Int) < (m : Int)) = false := by rw [decide_eq_false_iff_not]; omega
  have q2 : decide (line < 0) = false := by simpa using hline
  have HB := Lib.hid hl
  have HBK := Lib.hid (fun (hp : 0 < n) => sl_blocks hl hp)
  have HW := Lib.hid (fun w => law0_Low line 3 w (by omega) (by omega))
  clear hl hline
  generalize low line 3 = k at *
  go_enter Try.func15, Try.ntmps15
  go_wp2_with fail
  refine (nvm_New m _ h1 (by omega)).mono ?_
  rintro e w1 ⟨g, cb, rfl, d1, o1, f1, f2⟩
  have hg1 := d1.lt1
  have hc1 := d1.lt2
  have D1 := Lib.hid d1
  have O1 := Lib.hid o1
  have hs1 := o1.size
  clear d1 o1
  go_wp2_with fail
  refine (ref3_New m _ h1 (by omega)).mono ?_
  rintro e w2 ⟨rg, rb, rfl, r2, o2, f3, f4⟩
  have hr1 := r2.lt1
  have hr2 := r2.lt2
  have D := Lib.hid (D1.out.only0 o2)
  have R := Lib.hid r2
  have O := Lib.hid (O1.out.trans0 o2)
  have hsz := o2.size
  clear r2 o2 D1 O1
  go_wp2_with fail
  refine (law0_Num _ _).mono ?_
  rintro e w' ⟨rfl, rfl⟩
  go_wp2_with fail
  refine (geom_Format g cb m _ _ D.out).mono ?_
  rintro e w3 ⟨rfl, d3, o3⟩
  have R := Lib.hid (IsDev.only R.out o3 (by simp; omega) (by simp; omega))
  have D := Lib.hid d3
  have O := Lib.hid (O.out.trans o3 (by intro b hb; simp at hb; omega))
  clear d3 o3
  go_wp2_with fail
  refine (law0_Num _ _).mono ?_
  rintro e w' ⟨rfl, rfl⟩
  go_wp2_with fail
  refine (ref4_Format rg rb m _ _ R.out).mono ?_
  rintro e w4 ⟨rfl, r4, o4⟩
  have D := Lib.hid (IsDev.only D.out o4 (by simp; omega) (by simp; omega))
  have R := Lib.hid r4
  have O := Lib.hid (O.out.trans o4 (by intro b hb; simp at hb; omega))
  clear r4 o4
  go_wp2_with fail
  refine (HW.out _).mono ?_
  rintro e w' ⟨rfl, rfl⟩
  go_wp2_with fail
  refine (nvm_Store_any g cb m _ _ _ A n c l _ D.out (HB.out.only0 O.out) (by unfold maxLen; omega)).mono ?_
  rintro e wa ⟨rfl, da, oa⟩
  have R := Lib.hid (IsDev.only R.out oa (by simp; omega) (by simp; omega))
  have D := Lib.hid da
  have O := Lib.hid (O.out.trans oa (by intro b hb; simp at hb; omega))
  have hsa := oa.size
  clear da oa
  go_wp2_with fail
  refine (HW.out _).mono ?_
  rintro e w' ⟨rfl, rfl⟩
  go_wp2_with fail
  refine (ref3_Store_any rg rb m _ _ _ A n c l _ R.out (HB.out.only0 O.out) (by unfold maxLen; omega) (fun hp b off t e => by have := HBK.out hp b off t e; omega) hat).mono ?_
  rintro e wb ⟨rfl, rr, ob⟩
  have D := Lib.hid (IsDev.only D.out ob (by simp; omega) (by simp; omega))
  have R := Lib.hid rr
  have O := Lib.hid (O.out.trans ob (by intro b hb; simp at hb; omega))
  have hsb := ob.size
  clear rr ob
  go_wp2_with fail
  refine (geom_Open g cb m _ _ D.out).mono ?_
  rintro e wc ⟨rfl, oc⟩
  have R := Lib.hid (R.out.only0 oc)
  have O := Lib.hid (O.out.trans0 oc)
  clear oc
  go_wp2_with fail
  refine (ref4_Open rg rb m _ _ R.out).mono ?_
  rintro e wd ⟨rfl, od⟩
  have O := Lib.hid (O.out.trans0 od)
  clear od
  go_wp2_with fail
  refine (law0_Num _ _).mono ?_
  rintro e w' ⟨rfl, rfl⟩
  go_wp2_with fail
  refine (law4_awake _).mono ?_
  rintro e we ⟨rfl, oe⟩
  have O := Lib.hid (O.out.trans0 oe)
  clear oe
  go_wp2
  go_ret
  exact ⟨rfl, O.out⟩
set_option maxHeartbeats 8000000 in
theorem opens_ftt (m : Nat) (line at_ : Int) (A : Option Addr) (n c : Nat) (l : List UInt8) (v : Nat) (w : World) (h1 : 1 ≤ m) (h2 : m ≤ 40) (hat : -9223372036854775808 ≤ at_ ∧ at_ ≤ 9223372036854775807) (hl : Bs w A n l) (hn : n ≤ 64) (hv : v < 18446744073709551616) (hline : line < 0) :
    Calls Try.prog 15 #[.int .i64 m, .bool false, .int .i64 line, .int .i64 at_, .slice A n c, .int .u64 v, .bool true] w fun e w' => e = .returned (.bool true) ∧ Only [] w w' := by
  have q0 : decide ((64 : Int) < (n : Int)) = false := by rw [decide_eq_false_iff_not]; omega
  have q1 : decide ((40 : Int) < (m : Int)) = false := by rw [decide_eq_false_iff_not]; omega
  have q2 : decide (line < 0) = true := by simpa using hline
  have HB := Lib.hid hl
  have HBK := Lib.hid (fun (hp : 0 < n) => sl_blocks hl hp)
  have HW := Lib.hid (fun w => law0_Low line 3 w (by omega) (by omega))
  clear hl hline
  generalize low line 3 = k at *
  go_enter Try.func15, Try.ntmps15
  go_wp2_with fail
  refine (nvm_New m _ h1 (by omega)).mono ?_
  rintro e w1 ⟨g, cb, rfl, d1, o1, f1, f2⟩
  have hg1 := d1.lt1
  have hc1 := d1.lt2
  have D1 := Lib.hid d1
  have O1 := Lib.hid o1
  have hs1 := o1.size
  clear d1 o1
  go_wp2_with fail
  refine (ref3_New m _ h1 (by omega)).mono ?_
  rintro e w2 ⟨rg, rb, rfl, r2, o2, f3, f4⟩
  have hr1 := r2.lt1
  have hr2 := r2.lt2
  have D := Lib.hid (D1.out.only0 o2)
  have R := Lib.hid r2
  have O := Lib.hid (O1.out.trans0 o2)
  have hsz := o2.size
  clear r2 o2 D1 O1
  go_wp2_with fail
  refine (law0_Num _ _).mono ?_
  rintro e w' ⟨rfl, rfl⟩
  go_wp2_with fail
  refine (HW.out _).mono ?_
  rintro e w' ⟨rfl, rfl⟩
  go_wp2_with fail
  refine (nvm_Store_any g cb m _ _ _ A n c l _ D.out (HB.out.only0 O.out) (by unfold maxLen; omega)).mono ?_
  rintro e wa ⟨rfl, da, oa⟩
  have R := Lib.hid (IsDev.only R.out oa (by simp; omega) (by simp; omega))
  have D := Lib.hid da
  have O := Lib.hid (O.out.trans oa (by intro b hb; simp at hb; omega))
  have hsa := oa.size
  clear da oa
  go_wp2_with fail
  refine (HW.out _).mono ?_
  rintro e w' ⟨rfl, rfl⟩
  go_wp2_with fail
  refine (ref3_Store_any rg rb m _ _ _ A n c l _ R.out (HB.out.only0 O.out) (by unfold maxLen; omega) (fun hp b off t e => by have := HBK.out hp b off t e; omega) hat).mono ?_
  rintro e wb ⟨rfl, rr, ob⟩
  have D := Lib.hid (IsDev.only D.out ob (by simp; omega) (by simp; omega))
  have R := Lib.hid rr
  have O := Lib.hid (O.out.trans ob (by intro b hb; simp at hb; omega))
  have hsb := ob.size
  clear rr ob
  go_wp2_with fail
  refine (geom_Clock v _ hv).mono ?_
  rintro e w5 ⟨g5, rfl, a5, f5, o5⟩
  have hcl := clockL_length v
  have hb5 := Arr.bs a5
  rw [hcl] at hb5
  have B5 := Lib.hid hb5
  have D := Lib.hid (D.out.only0 o5)
  have R := Lib.hid (R.out.only0 o5)
  have O := Lib.hid (O.out.trans0 o5)
  clear a5 o5 hb5 hcl f5
  go_wp2_with fail
  refine (nvm_Store_any g cb m _ 1 0 _ 64 64 _ _ D.out B5.out (by unfold maxLen; omega)).mono ?_
  rintro e w6 ⟨rfl, d6, o6⟩
  have R := Lib.hid (IsDev.only R.out o6 (by simp; omega) (by simp; omega))
  have D := Lib.hid d6
  have O := Lib.hid (O.out.trans o6 (by intro b hb; simp at hb; omega))
  clear d6 o6 B5
  go_wp2_with fail
  refine (ref4_Clock v _ hv).mono ?_
  rintro e w7 ⟨A7, c7, rfl, a7, o7⟩
  have S7 := Lib.hid (own_safe a7 R.out.lt2)
  have B7 := Lib.hid (bs_own a7)
  have D := Lib.hid (D.out.only0 o7)
  have R := Lib.hid (R.out.only0 o7)
  have O := Lib.hid (O.out.trans0 o7)
  clear a7 o7
  go_wp2_with fail
  refine (ref3_Store_any rg rb m _ 1 0 _ 64 _ _ _ R.out B7.out (by unfold maxLen; omega) S7.out (by omega)).mono ?_
  rintro e w8 ⟨rfl, r8, o8⟩
  have D := Lib.hid (IsDev.only D.out o8 (by simp; omega) (by simp; omega))
  have R := Lib.hid r8
  have O := Lib.hid (O.out.trans o8 (by intro b hb; simp at hb; omega))
  clear r8 o8 S7 B7
  go_wp2_with fail
  refine (nvm_Cut g cb m _ none 0 0 [] _ D.out (Is.nil _ _) (by omega) (fun h => by omega)).mono ?_
  rintro e w9 ⟨A9, c9, rfl, _, d9, o9⟩
  have R := Lib.hid (IsDev.only R.out o9 (by simp; omega) (by simp; omega))
  have D := Lib.hid d9
  have O := Lib.hid (O.out.trans o9 (by intro b hb; simp at hb; omega))
  clear d9 o9
  go_wp2_with fail
  refine (ref3_Cut rg rb m _ none 0 0 [] _ R.out (Is.nil _ _) (by omega) (fun h => by omega)).mono ?_
  rintro e wz ⟨Az, cz, rfl, _, rz, oz⟩
  have D := Lib.hid (IsDev.only D.out oz (by simp; omega) (by simp; omega))
  have R := Lib.hid rz
  have O := Lib.hid (O.out.trans oz (by intro b hb; simp at hb; omega))
  clear rz oz
  go_wp2_with fail
  refine (geom_Open g cb m _ _ D.out).mono ?_
  rintro e wc ⟨rfl, oc⟩
  have R := Lib.hid (R.out.only0 oc)
  have O := Lib.hid (O.out.trans0 oc)
  clear oc
  go_wp2_with fail
  refine (ref4_Open rg rb m _ _ R.out).mono ?_
  rintro e wd ⟨rfl, od⟩
  have O := Lib.hid (O.out.trans0 od)
  clear od
  go_wp2_with fail
  refine (law0_Num _ _).mono ?_
  rintro e w' ⟨rfl, rfl⟩
  go_wp2_with fail
  refine (law4_awake _).mono ?_
  rintro e we ⟨rfl, oe⟩
  have O := Lib.hid (O.out.trans0 oe)
  clear oe
  go_wp2
  go_ret
  exact ⟨rfl, O.out⟩
set_option maxHeartbeats 8000000 in
theorem opens_ftf (m : Nat) (line at_ : Int) (A : Option Addr) (n c : Nat) (l : List UInt8) (v : Nat) (w : World) (h1 : 1 ≤ m) (h2 : m ≤ 40) (hat : -9223372036854775808 ≤ at_ ∧ at_ ≤ 9223372036854775807) (hl : Bs w A n l) (hn : n ≤ 64) (hv : v < 18446744073709551616) (hline : line < 0) :
    Calls Try.prog 15 #[.int .i64 m, .bool false, .int .i64 line, .int .i64 at_, .slice A n c, .int .u64 v, .bool false] w fun e w' => e = .returned (.bool true) ∧ Only [] w w' := by
  have q0 : decide ((64 : Int) < (n : Int)) = false := by rw [decide_eq_false_iff_not]; omega
  have q1 : decide ((40 : Int) < (m : Int)) = false := by rw [decide_eq_false_iff_not]; omega
  have q2 : decide (line < 0) = true := by simpa using hline
  have HB := Lib.hid hl
  have HBK := Lib.hid (fun (hp : 0 < n) => sl_blocks hl hp)
  have HW := Lib.hid (fun w => law0_Low line 3 w (by omega) (by omega))
  clear hl hline
  generalize low line 3 = k at *
  go_enter Try.func15, Try.ntmps15
  go_wp2_with fail
  refine (nvm_New m _ h1 (by omega)).mono ?_
  rintro e w1 ⟨g, cb, rfl, d1, o1, f1, f2⟩
  have hg1 := d1.lt1
  have hc1 := d1.lt2
  have D1 := Lib.hid d1
  have O1 := Lib.hid o1
  have hs1 := o1.size
  clear d1 o1
  go_wp2_with fail
  refine (ref3_New m _ h1 (by omega)).mono ?_
  rintro e w2 ⟨rg, rb, rfl, r2, o2, f3, f4⟩
  have hr1 := r2.lt1
  have hr2 := r2.lt2
  have D := Lib.hid (D1.out.only0 o2)
  have R := Lib.hid r2
  have O := Lib.hid (O1.out.trans0 o2)
  have hsz := o2.size
  clear r2 o2 D1 O1
  go_wp2_with fail
  refine (law0_Num _ _).mono ?_
  rintro e w' ⟨rfl, rfl⟩
  go_wp2_with fail
  refine (HW.out _).mono ?_
  rintro e w' ⟨rfl, rfl⟩
  go_wp2_with fail
  refine (nvm_Store_any g cb m _ _ _ A n c l _ D.out (HB.out.only0 O.out) (by unfold maxLen; omega)).mono ?_
  rintro e wa ⟨rfl, da, oa⟩
  have R := Lib.hid (IsDev.only R.out oa (by simp; omega) (by simp; omega))
  have D := Lib.hid da
  have O := Lib.hid (O.out.trans oa (by intro b hb; simp at hb; omega))
  have hsa := oa.size
  clear da oa
  go_wp2_with fail
  refine (HW.out _).mono ?_
  rintro e w' ⟨rfl, rfl⟩
  go_wp2_with fail
  refine (ref3_Store_any rg rb m _ _ _ A n c l _ R.out (HB.out.only0 O.out) (by unfold maxLen; omega) (fun hp b off t e => by have := HBK.out hp b off t e; omega) hat).mono ?_
  rintro e wb ⟨rfl, rr, ob⟩
  have D := Lib.hid (IsDev.only D.out ob (by simp; omega) (by simp; omega))
  have R := Lib.hid rr
  have O := Lib.hid (O.out.trans ob (by intro b hb; simp at hb; omega))
  have hsb := ob.size
  clear rr ob
  go_wp2_with fail
  refine (geom_Clock v _ hv).mono ?_
  rintro e w5 ⟨g5, rfl, a5, f5, o5⟩
  have hcl := clockL_length v
  have hb5 := Arr.bs a5
  rw [hcl] at hb5
  have B5 := Lib.hid hb5
  have D := Lib.hid (D.out.only0 o5)
  have R := Lib.hid (R.out.only0 o5)
  have O := Lib.hid (O.out.trans0 o5)
  clear a5 o5 hb5 hcl f5
  go_wp2_with fail
  refine (nvm_Store_any g cb m _ 1 0 _ 64 64 _ _ D.out B5.out (by unfold maxLen; omega)).mono ?_
  rintro e w6 ⟨rfl, d6, o6⟩
  have R := Lib.hid (IsDev.only R.out o6 (by simp; omega) (by simp; omega))
  have D := Lib.hid d6
  have O := Lib.hid (O.out.trans o6 (by intro b hb; simp at hb; omega))
  clear d6 o6 B5
  go_wp2_with fail
  refine (ref4_Clock v _ hv).mono ?_
  rintro e w7 ⟨A7, c7, rfl, a7, o7⟩
  have S7 := Lib.hid (own_safe a7 R.out.lt2)
  have B7 := Lib.hid (bs_own a7)
  have D := Lib.hid (D.out.only0 o7)
  have R := Lib.hid (R.out.only0 o7)
  have O := Lib.hid (O.out.trans0 o7)
  clear a7 o7
  go_wp2_with fail
  refine (ref3_Store_any rg rb m _ 1 0 _ 64 _ _ _ R.out B7.out (by unfold maxLen; omega) S7.out (by omega)).mono ?_
  rintro e w8 ⟨rfl, r8, o8⟩
  have D := Lib.hid (IsDev.only D.out o8 (by simp; omega) (by simp; omega))
  have R := Lib.hid r8
  have O := Lib.hid (O.out.trans o8 (by intro b hb; simp at hb; omega))
  clear r8 o8 S7 B7
  go_wp2_with fail
  refine (geom_Open g cb m _ _ D.out).mono ?_
  rintro e wc ⟨rfl, oc⟩
  have R := Lib.hid (R.out.only0 oc)
  have O := Lib.hid (O.out.trans0 oc)
  clear oc
  go_wp2_with fail
  refine (ref4_Open rg rb m _ _ R.out).mono ?_
  rintro e wd ⟨rfl, od⟩
  have O := Lib.hid (O.out.trans0 od)
  clear od
  go_wp2_with fail
  refine (law0_Num _ _).mono ?_
  rintro e w' ⟨rfl, rfl⟩
  go_wp2_with fail
  refine (law4_awake _).mono ?_
  rintro e we ⟨rfl, oe⟩
  have O := Lib.hid (O.out.trans0 oe)
  clear oe
  go_wp2
  go_ret
  exact ⟨rfl, O.out⟩
set_option maxHeartbeats 8000000 in
theorem opens_fft (m : Nat) (line at_ : Int) (A : Option Addr) (n c : Nat) (l : List UInt8) (v : Nat) (w : World) (h1 : 1 ≤ m) (h2 : m ≤ 40) (hat : -9223372036854775808 ≤ at_ ∧ at_ ≤ 9223372036854775807) (hl : Bs w A n l) (hn : n ≤ 64) (hv : v < 18446744073709551616) (hline : 0 ≤ line) :
    Calls Try.prog 15 #[.int .i64 m, .bool false, .int .i64 line, .int .i64 at_, .slice A n c, .int .u64 v, .bool true] w fun e w' => e = .returned (.bool true) ∧ Only [] w w' := by
  have q0 : decide ((64 : Int) < (n : Int)) = false := by rw [decide_eq_false_iff_not]; omega
  have q1 : decide ((40 : Int) < (m : Int)) = false := by rw [decide_eq_false_iff_not]; omega
  have q2 : decide (line < 0) = false := by simpa using hline
  have HB := Lib.hid hl
  have HBK := Lib.hid (fun (hp : 0 < n) => sl_blocks hl hp)
  have HW := Lib.hid (fun w => law0_Low line 3 w (by omega) (by omega))
  clear hl hline
  generalize low line 3 = k at *
  go_enter Try.func15, Try.ntmps15
  go_wp2_with fail
  refine (nvm_New m _ h1 (by omega)).mono ?_
  rintro e w1 ⟨g, cb, rfl, d1, o1, f1, f2⟩
  have hg1 := d1.lt1
  have hc1 := d1.lt2
  have D1 := Lib.hid d1
  have O1 := Lib.hid o1
  have hs1 := o1.size
  clear d1 o1
  go_wp2_with fail
  refine (ref3_New m _ h1 (by omega)).mono ?_
  rintro e w2 ⟨rg, rb, rfl, r2, o2, f3, f4⟩
  have hr1 := r2.lt1
  have hr2 := r2.lt2
  have D := Lib.hid (D1.out.only0 o2)
  have R := Lib.hid r2
  have O := Lib.hid (O1.out.trans0 o2)
  have hsz := o2.size
  clear r2 o2 D1 O1
  go_wp2_with fail
  refine (law0_Num _ _).mono ?_
  rintro e w' ⟨rfl, rfl⟩
  go_wp2_with fail
  refine (HW.out _).mono ?_
  rintro e w' ⟨rfl, rfl⟩
  go_wp2_with fail
  refine (nvm_Store_any g cb m _ _ _ A n c l _ D.out (HB.out.only0 O.out) (by unfold maxLen; omega)).mono ?_
  rintro e wa ⟨rfl, da, oa⟩
  have R := Lib.hid (IsDev.only R.out oa (by simp; omega) (by simp; omega))
  have D := Lib.hid da
  have O := Lib.hid (O.out.trans oa (by intro b hb; simp at hb; omega))
  have hsa := oa.size
  clear da oa
  go_wp2_with fail
  refine (HW.out _).mono ?_
  rintro e w' ⟨rfl, rfl⟩
  go_wp2_with fail
  refine (ref3_Store_any rg rb m _ _ _ A n c l _ R.out (HB.out.only0 O.out) (by unfold maxLen; omega) (fun hp b off t e => by have := HBK.out hp b off t e; omega) hat).mono ?_
  rintro e wb ⟨rfl, rr, ob⟩
  have D := Lib.hid (IsDev.only D.out ob (by simp; omega) (by simp; omega))
  have R := Lib.hid rr
  have O := Lib.hid (O.out.trans ob (by intro b hb; simp at hb; omega))
  have hsb := ob.size
  clear rr ob
  go_wp2_with fail
  refine (nvm_Cut g cb m _ none 0 0 [] _ D.out (Is.nil _ _) (by omega) (fun h => by omega)).mono ?_
  rintro e w9 ⟨A9, c9, rfl, _, d9, o9⟩
  have R := Lib.hid (IsDev.only R.out o9 (by simp; omega) (by simp; omega))
  have D := Lib.hid d9
  have O := Lib.hid (O.out.trans o9 (by intro b hb; simp at hb; omega))
  clear d9 o9
  go_wp2_with fail
  refine (ref3_Cut rg rb m _ none 0 0 [] _ R.out (Is.nil _ _) (by omega) (fun h => by omega)).mono ?_
  rintro e wz ⟨Az, cz, rfl, _, rz, oz⟩
  have D := Lib.hid (IsDev.only D.out oz (by simp; omega) (by simp; omega))
  have R := Lib.hid rz
  have O := Lib.hid (O.out.trans oz (by intro b hb; simp at hb; omega))
  clear rz oz
  go_wp2_with fail
  refine (geom_Open g cb m _ _ D.out).mono ?_
  rintro e wc ⟨rfl, oc⟩
  have R := Lib.hid (R.out.only0 oc)
  have O := Lib.hid (O.out.trans0 oc)
  clear oc
  go_wp2_with fail
  refine (ref4_Open rg rb m _ _ R.out).mono ?_
  rintro e wd ⟨rfl, od⟩
  have O := Lib.hid (O.out.trans0 od)
  clear od
  go_wp2_with fail
  refine (law0_Num _ _).mono ?_
  rintro e w' ⟨rfl, rfl⟩
  go_wp2_with fail
  refine (law4_awake _).mono ?_
  rintro e we ⟨rfl, oe⟩
  have O := Lib.hid (O.out.trans0 oe)
  clear oe
  go_wp2
  go_ret
  exact ⟨rfl, O.out⟩
set_option maxHeartbeats 8000000 in
theorem opens_fff (m : Nat) (line at_ : Int) (A : Option Addr) (n c : Nat) (l : List UInt8) (v : Nat) (w : World) (h1 : 1 ≤ m) (h2 : m ≤ 40) (hat : -9223372036854775808 ≤ at_ ∧ at_ ≤ 9223372036854775807) (hl : Bs w A n l) (hn : n ≤ 64) (hv : v < 18446744073709551616) (hline : 0 ≤ line) :
    Calls Try.prog 15 #[.int .i64 m, .bool false, .int .i64 line, .int .i64 at_, .slice A n c, .int .u64 v, .bool false] w fun e w' => e = .returned (.bool true) ∧ Only [] w w' := by
  have q0 : decide ((64 : Int) < (n : Int)) = false := by rw [decide_eq_false_iff_not]; omega
  have q1 : decide ((40 : Int) < (m : Int)) = false := by rw [decide_eq_false_iff_not]; omega
  have q2 : decide (line < 0) = false := by simpa using hline
  have HB := Lib.hid hl
  have HBK := Lib.hid (fun (hp : 0 < n) => sl_blocks hl hp)
  have HW := Lib.hid (fun w => law0_Low line 3 w (by omega) (by omega))
  clear hl hline
  generalize low line 3 = k at *
  go_enter Try.func15, Try.ntmps15
  go_wp2_with fail
  refine (nvm_New m _ h1 (by omega)).mono ?_
  rintro e w1 ⟨g, cb, rfl, d1, o1, f1, f2⟩
  have hg1 := d1.lt1
  have hc1 := d1.lt2
  have D1 := Lib.hid d1
  have O1 := Lib.hid o1
  have hs1 := o1.size
  clear d1 o1
  go_wp2_with fail
  refine (ref3_New m _ h1 (by omega)).mono ?_
  rintro e w2 ⟨rg, rb, rfl, r2, o2, f3, f4⟩
  have hr1 := r2.lt1
  have hr2 := r2.lt2
  have D := Lib.hid (D1.out.only0 o2)
  have R := Lib.hid r2
  have O := Lib.hid (O1.out.trans0 o2)
  have hsz := o2.size
  clear r2 o2 D1 O1
  go_wp2_with fail
  refine (law0_Num _ _).mono ?_
  rintro e w' ⟨rfl, rfl⟩
  go_wp2_with fail
  refine (HW.out _).mono ?_
  rintro e w' ⟨rfl, rfl⟩
  go_wp2_with fail
  refine (nvm_Store_any g cb m _ _ _ A n c l _ D.out (HB.out.only0 O.out) (by unfold maxLen; omega)).mono ?_
  rintro e wa ⟨rfl, da, oa⟩
  have R := Lib.hid (IsDev.only R.out oa (by simp; omega) (by simp; omega))
  have D := Lib.hid da
  have O := Lib.hid (O.out.trans oa (by intro b hb; simp at hb; omega))
  have hsa := oa.size
  clear da oa
  go_wp2_with fail
  refine (HW.out _).mono ?_
  rintro e w' ⟨rfl, rfl⟩
  go_wp2_with fail
  refine (ref3_Store_any rg rb m _ _ _ A n c l _ R.out (HB.out.only0 O.out) (by unfold maxLen; omega) (fun hp b off t e => by have := HBK.out hp b off t e; omega) hat).mono ?_
  rintro e wb ⟨rfl, rr, ob⟩
  have D := Lib.hid (IsDev.only D.out ob (by simp; omega) (by simp; omega))
  have R := Lib.hid rr
  have O := Lib.hid (O.out.trans ob (by intro b hb; simp at hb; omega))
  have hsb := ob.size
  clear rr ob
  go_wp2_with fail
  refine (geom_Open g cb m _ _ D.out).mono ?_
  rintro e wc ⟨rfl, oc⟩
  have R := Lib.hid (R.out.only0 oc)
  have O := Lib.hid (O.out.trans0 oc)
  clear oc
  go_wp2_with fail
  refine (ref4_Open rg rb m _ _ R.out).mono ?_
  rintro e wd ⟨rfl, od⟩
  have O := Lib.hid (O.out.trans0 od)
  clear od
  go_wp2_with fail
  refine (law0_Num _ _).mono ?_
  rintro e w' ⟨rfl, rfl⟩
  go_wp2_with fail
  refine (law4_awake _).mono ?_
  rintro e we ⟨rfl, oe⟩
  have O := Lib.hid (O.out.trans0 oe)
  clear oe
  go_wp2
  go_ret
  exact ⟨rfl, O.out⟩
set_option maxHeartbeats 4000000 in
theorem walk_GeomOpens (lines : Int) (format : Bool) (line at_ : Int) (A : Option Addr) (n c : Nat) (l : List UInt8) (v : Nat) (cut : Bool) (w : World) (_h1 : -9223372036854775808 ≤ lines ∧ lines ≤ 9223372036854775807) (_h2 : -9223372036854775808 ≤ line ∧ line ≤ 9223372036854775807) (h3 : -9223372036854775808 ≤ at_ ∧ at_ ≤ 9223372036854775807) (hl : Bs w A n l) (hm : n ≤ maxLen) (hv : v < 18446744073709551616) :
    Calls Try.prog 15 #[.int .i64 lines, .bool format, .int .i64 line, .int .i64 at_, .slice A n c, .int .u64 v, .bool cut] w fun e w' => e = .returned (.bool true) ∧ Only [] w w' := by
  unfold maxLen at hm
  by_cases hn : 64 < n
  · have q0 : decide ((64 : Int) < (n : Int)) = true := by rw [decide_eq_true_eq]; omega
    clear hl hv hn
    go_enter Try.func15, Try.ntmps15
    go_wp2_with fail
    refine (law4_awake _).mono ?_
    rintro e we ⟨rfl, oe⟩
    have O := Lib.hid oe
    clear oe
    go_wp2
    go_ret
    exact ⟨rfl, O.out⟩
  have q0 : decide ((64 : Int) < (n : Int)) = false := by rw [decide_eq_false_iff_not]; omega
  by_cases hb : 40 < lines
  · have q1 : decide ((40 : Int) < lines) = true := by simpa using hb
    clear hl hv hn hb
    go_enter Try.func15, Try.ntmps15
    go_wp2_with fail
    refine (law4_awake _).mono ?_
    rintro e we ⟨rfl, oe⟩
    have O := Lib.hid oe
    clear oe
    go_wp2
    go_ret
    exact ⟨rfl, O.out⟩
  have q1 : decide ((40 : Int) < lines) = false := by simpa using hb
  by_cases hs : lines < 1
  · have HN1 := Lib.hid (fun w => nvm_New_no lines w (.inl hs))
    have HN2 := Lib.hid (fun w => ref3_New_no lines w (.inl hs))
    clear hl hv hn hb hs
    go_enter Try.func15, Try.ntmps15
    go_wp2_with fail
    refine (HN1.out _).mono ?_
    rintro e w1 ⟨rfl, rfl⟩
    go_wp2_with fail
    refine (HN2.out _).mono ?_
    rintro e w1 ⟨rfl, rfl⟩
    go_wp2_with fail
    refine (law0_Num _ _).mono ?_
    rintro e w' ⟨rfl, rfl⟩
    go_wp2_with fail
    refine (geom_Format_nil _).mono ?_
    rintro e w' ⟨rfl, rfl⟩
    go_wp2_with fail
    refine (law4_awake _).mono ?_
    rintro e we ⟨rfl, oe⟩
    have O := Lib.hid oe
    clear oe
    go_wp2
    go_ret
    exact ⟨rfl, O.out⟩
  obtain ⟨m, rfl⟩ := Int.eq_ofNat_of_zero_le (show 0 ≤ lines by omega)
  have h1 : 1 ≤ m := by omega
  have h2 : m ≤ 40 := by omega
  have h64 : n ≤ 64 := by omega
  by_cases hneg : line < 0
  · cases format <;> cases cut
    · exact opens_ftf m line at_ A n c l v w h1 h2 h3 hl h64 hv hneg
    · exact opens_ftt m line at_ A n c l v w h1 h2 h3 hl h64 hv hneg
    · exact opens_ttf m line at_ A n c l v w h1 h2 h3 hl h64 hv hneg
    · exact opens_ttt m line at_ A n c l v w h1 h2 h3 hl h64 hv hneg
  · have hnn : 0 ≤ line := by omega
    cases format <;> cases cut
    · exact opens_fff m line at_ A n c l v w h1 h2 h3 hl h64 hv hnn
    · exact opens_fft m line at_ A n c l v w h1 h2 h3 hl h64 hv hnn
    · exact opens_tff m line at_ A n c l v w h1 h2 h3 hl h64 hv hnn
    · exact opens_tft m line at_ A n c l v w h1 h2 h3 hl h64 hv hnn
end Go.Proofs.Ytfafpggppbolkaa
