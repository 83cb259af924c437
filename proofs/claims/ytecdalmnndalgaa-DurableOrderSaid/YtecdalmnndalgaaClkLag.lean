/- Law 9: the walk of DurableLag. -/
import Derived.Test.YtecdalmnndalgaaClkL
import Derived.Deep.RegionHeld3
namespace Go.Proofs.FuClk
theorem noteT_now (C : Clk) (t line : Int) : (Go.Proofs.Ytecdalmnndalgaa.noteT C t line).now = C.now ∧ (Go.Proofs.Ytecdalmnndalgaa.noteT C t line).durable = C.durable := by
  unfold Go.Proofs.Ytecdalmnndalgaa.noteT
  split <;> exact ⟨rfl, rfl⟩
theorem beginT_now (C : Clk) : (Go.Proofs.Ytecdalmnndalgaa.beginT C).now ≤ C.now + 1 ∧ C.now ≤ (Go.Proofs.Ytecdalmnndalgaa.beginT C).now ∧ (Go.Proofs.Ytecdalmnndalgaa.beginT C).durable = C.durable := by
  unfold Go.Proofs.Ytecdalmnndalgaa.beginT
  split
  · exact ⟨Int.le_refl _, by show C.now ≤ C.now + 1; omega, rfl⟩
  · exact ⟨by omega, Int.le_refl _, rfl⟩
theorem stepC_now {C : Clk} (h : C.Ok) : (Go.Proofs.Ytecdalmnndalgaa.stepC C).now = C.now ∧ C.durable ≤ (Go.Proofs.Ytecdalmnndalgaa.stepC C).durable := by
  unfold Go.Proofs.Ytecdalmnndalgaa.stepC
  by_cases h0 : C.phase = 0
  · rw [if_pos h0]; exact ⟨rfl, Int.le_refl _⟩
  have hb := h.busy h0
  rw [if_neg h0]
  split
  · split <;> exact ⟨rfl, Int.le_refl _⟩
  · split
    · exact ⟨rfl, Int.le_refl _⟩
    · split
      · exact ⟨rfl, Int.le_refl _⟩
      · exact ⟨rfl, by show C.durable ≤ C.now - 1; omega⟩
end Go.Proofs.FuClk
namespace Go.Proofs.Ytecdalmnndalgaa
open Go.RowKit Go.Proofs.FuMem Go.Proofs.FuClk Go.Proofs.FuNvm
set_option maxRecDepth 100000
set_option maxHeartbeats 3000000 in
theorem walk_DurableLag (A : Option Addr) (n c : Nat) (xs : List FuClk.Deed) (w : World) (h : FuClk.Acts w A n xs) (_hc : n ≤ c) :
    Calls Try.prog 3 #[.slice A n c] w fun e w' => e = .returned (.bool true) ∧ Only [] w w' := by
  have O0 := Lib.hid (Only.refl [] w)
  by_cases hbig : 200 < n
  · have q0 : decide ((200 : Int) < (n : Int)) = true := by rw [decide_eq_true_eq]; omega
    clear h
    go_enter Try.func3, Try.ntmps3
    go_wp2_with fail
    refine (law9_awake _).mono ?_
    rintro e wz ⟨rfl, oz⟩
    have OZ := Lib.hid (O0.out.trans0 oz)
    clear oz
    go_wp2
    go_ret
    exact ⟨rfl, OZ.out⟩
  have q0 : decide ((200 : Int) < (n : Int)) = false := by rw [decide_eq_false_iff_not]; omega
  have hn : n ≤ 200 := by omega
  clear hbig
  have HN := Lib.hid (clk_New 2 0 w (by omega) (by omega) (by omega) (by omega))
  have HC1 := Lib.hid (show (newClk 2 0).now = 1 from rfl)
  have HND := Lib.hid (fun w => nvm_New 8 w (by omega) (by omega))
  have HX := Lib.hid h
  have HXL := Lib.hid h.1
  generalize newClk 2 0 = C0 at *
  generalize newDev 8 = D0 at *
  clear h
  go_enter Try.func3, Try.ntmps3
  go_wp2_with fail
  refine HN.out.mono ?_
  rintro e w1 ⟨g, ob, rfl, k1, o1, hg, hob⟩
  have lg := k1.lt1
  have lo := k1.lt2
  have K1 := Lib.hid k1
  have O1 := Lib.hid o1
  clear k1 o1 HN
  go_wp2_with fail
  refine (HND.out w1).mono ?_
  rintro e w2 ⟨dg, dcb, rfl, d1, o2, hdg, hdcb⟩
  have HSEP := Lib.hid (show g ≠ dg ∧ g ≠ dcb ∧ ob ≠ dg ∧ ob ≠ dcb by omega)
  have K2 := Lib.hid (K1.out.only0 o2)
  have D2 := Lib.hid d1
  have O2 := Lib.hid (O1.out.trans0 o2)
  have s1 := O1.out.size
  clear d1 o2 K1 O1 HND
  have HNO := Lib.hid (clk_Now g ob C0 w2 K2.out)
  have HDU := Lib.hid (clk_Durable g ob C0 w2 K2.out)
  go_wp2_with fail
  refine (HNO.out).mono ?_
  rintro e w' ⟨rfl, rfl⟩
  go_wp2_with fail
  refine (HDU.out).mono ?_
  rintro e w' ⟨rfl, rfl⟩
  go_wp2
  go_loopw [7, 8, 9] (fun nv kv iv wr => ∃ (j : Nat) (C : Clk) (D : Dev), j ≤ n ∧ nv = .int .u64 C.now ∧ kv = .int .u64 C.durable ∧ iv = .int .i64 j ∧ ClkAt wr g ob C ∧ DevAt wr dg dcb 8 D ∧ Only [] w wr ∧ C.now ≤ j + 1) (fun _ _ iv _ => n - (intOf iv).toNat)
  case atStart => exact ⟨0, C0, D0, by omega, rfl, rfl, rfl, K2.out, D2.out, O2.out, by rw [HC1.out]; omega⟩
  case round =>
    obtain ⟨j, C, D, hj, rfl, rfl, rfl, hk, hd, on, hnow⟩ := hrel
    clear K2 D2 O2 HNO HDU HC1
    by_cases hlt : j < n
    · have y1 : (0 : Int) ≤ (j : Int) := by omega
      have y2 : (j : Int) < (n : Int) := by omega
      have y3 : decide ((j : Int) < (n : Int)) = true := by rw [decide_eq_true_eq]; omega
      obtain ⟨b, off, x, hAe, hx, hbd, hcell0, hbw⟩ := HX.out.at_ hlt
      have hcell := hcell0.only0 on
      have hbl : b < wr.heap.size := Nat.lt_of_lt_of_le hbw on.size
      have hbn : b ≠ g ∧ b ≠ ob := by omega
      obtain ⟨kd, t, ln, by_⟩ := x
      obtain ⟨c0, c1, c2, c3⟩ := hcell
      simp only at c0 c1 c2 c3
      have KK := Lib.hid hk
      have DD := Lib.hid hd
      have ON := Lib.hid on
      have HNOW := Lib.hid hnow
      subst hAe
      clear hk hd on hnow hbd c3 hx hcell0 hbw
      by_cases k0 : kd = 0
      · subst k0
        have HBL := Lib.hid hbl
        have HBL2 := Lib.hid (show b < wr.drew.heap.size from Nat.lt_of_lt_of_le hbl (Only.refl [] wr).drew.size)
        have HBN := Lib.hid hbn
        clear hbl hbn
        have od : Only [] wr wr.drew := (Only.refl _ _).drew
        have HNT := Lib.hid (clk_Note_any g ob C t ln wr.drew (KK.out.only0 od))
        go_wp2
        go_region_held3 (fun w' => w'.cell? ⟨b, off + j * 4 + 1, none⟩ = some (.int .i64 t) ∧ w'.cell? ⟨b, off + j * 4 + 2, none⟩ = some (.int .i64 ln)) (go_keep) (first | (go_at_call 13; refine HNT.out.mono ?_; rintro e w2 ⟨rfl, k2, o2⟩; have hb1 := HBL.out; have c1 : w2.cell? ⟨b, off + j * 4 + 1, none⟩ = some (.int .i64 t) := (cell_only o2 HBL2.out (by simpa using HBN.out)).trans ((cell_only od hb1 (by simp)).trans c1); have c2 : w2.cell? ⟨b, off + j * 4 + 2, none⟩ = some (.int .i64 ln) := (cell_only o2 HBL2.out (by simpa using HBN.out)).trans ((cell_only od hb1 (by simp)).trans c2); have K2 := Lib.hid k2; have DD2 := Lib.hid ((DD.out.only0 od).only o2 (by have := HSEP.out; simp; omega) (by have := HSEP.out; simp; omega)); have O2 := Lib.hid ((ON.out.trans0 od).trans o2 (by intro b hb; simp at hb; omega)); clear k2 o2))
        all_goals
          have f := noteT_now C t ln
          generalize noteT C t ln = C2 at *
          have f1 : C.now ≤ C2.now := by omega
          have f2 : C.durable ≤ C2.durable := by omega
          have f3 : C2.now ≤ j + 2 := by have := HNOW.out; omega
          obtain ⟨D2, hD2⟩ : ∃ D2, D2 = D := ⟨_, rfl⟩
          rw [← hD2] at DD2
          clear hD2 f
          have HNO := Lib.hid (clk_Now g ob C2 w2 K2.out)
          have HDU := Lib.hid (clk_Durable g ob C2 w2 K2.out)
          have HCL := Lib.hid (clk_Closing g ob C2 w2 K2.out)
          have lo2 := K2.out.ok.lo
          have hi2 := K2.out.ok.hi
          have u1 : decide (C2.now < C.now) = false := by rw [decide_eq_false_iff_not]; omega
          have u2 : decide (C2.durable < C.durable) = false := by rw [decide_eq_false_iff_not]; omega
          by_cases hph : C2.phase = 0
          · have hz : C2.closing = 0 := (closing_zero K2.out.ok).2 hph
            have hid := K2.out.ok.idle hph
            have hw1 : IntKind.u64.wrap (C2.durable + 1) = C2.now := by rw [IntKind.wrap_u64]; omega
            have u3 : (C2.now != C2.now) = false := by simp
            rw [hz] at HCL
            have HID := Lib.hid hid
            clear hz hph hid
            generalize hx : C2.now = x at *
            generalize hy : C2.durable = y at *
            have HXX := Lib.hid hx
            have HYY := Lib.hid hy
            clear hx hy
            go_wp2_with fail
            refine HNO.out.mono ?_
            rintro e w' ⟨rfl, rfl⟩
            go_wp2_with fail
            refine (HDU.out).mono ?_
            rintro e w' ⟨rfl, rfl⟩
            go_wp2_with fail
            refine (HCL.out).mono ?_
            rintro e w' ⟨rfl, rfl⟩
            go_wp2
            go_roundw
            · exact ⟨j + 1, C2, D2, by omega, by rw [HXX.out], by rw [HYY.out], by simp, K2.out, DD2.out, O2.out, by rw [HXX.out]; omega⟩
            · simp [intOf]
              omega
          · have hz : C2.closing = C2.now - 1 := by unfold Clk.closing; rw [if_neg hph]
            have hid := K2.out.ok.busy hph
            have hw1 : IntKind.u64.wrap (C2.durable + 2) = C2.now := by rw [IntKind.wrap_u64]; omega
            have hw2 : IntKind.u64.wrap (C2.durable + 1) = C2.now - 1 := by rw [IntKind.wrap_u64]; omega
            have u3 : (C2.now != C2.now) = false := by simp
            have u4 : (C2.now - 1 != C2.now - 1) = false := by simp
            have u5 : (C2.now - 1 != 0) = true := by rw [bne_iff_ne]; omega
            rw [hz, u5] at HCL
            clear hz hph hid u5
            obtain ⟨z, hz⟩ : ∃ z, z = C2.now - 1 := ⟨_, rfl⟩
            rw [← hz] at HCL hw2 u4
            clear hz
            generalize hx : C2.now = x at *
            generalize hy : C2.durable = y at *
            have HXX := Lib.hid hx
            have HYY := Lib.hid hy
            clear hx hy
            go_wp2_with fail
            refine HNO.out.mono ?_
            rintro e w' ⟨rfl, rfl⟩
            go_wp2_with fail
            refine (HDU.out).mono ?_
            rintro e w' ⟨rfl, rfl⟩
            go_wp2_with fail
            refine (HCL.out).mono ?_
            rintro e w' ⟨rfl, rfl⟩
            go_wp2
            go_roundw
            · exact ⟨j + 1, C2, D2, by omega, by rw [HXX.out], by rw [HYY.out], by simp, K2.out, DD2.out, O2.out, by rw [HXX.out]; omega⟩
            · simp [intOf]
              omega
      by_cases k1 : kd = 1
      · subst k1
        clear k0
        have HB := Lib.hid (clk_Begin_any g ob C wr KK.out (by have := HNOW.out; omega))
        go_wp2_with fail
        refine HB.out.mono ?_
        rintro e w2 ⟨rfl, k2, o2⟩
        have K2 := Lib.hid k2
        have DD2 := Lib.hid (DD.out.only o2 (by have := HSEP.out; simp; omega) (by have := HSEP.out; simp; omega))
        have O2 := Lib.hid (ON.out.trans o2 (by intro b hb; simp at hb; omega))
        have f := beginT_now C
        clear k2 o2 HB
        generalize beginT C = C2 at *
        have f1 : C.now ≤ C2.now := by omega
        have f2 : C.durable ≤ C2.durable := by omega
        have f3 : C2.now ≤ j + 2 := by have := HNOW.out; omega
        obtain ⟨D2, hD2⟩ : ∃ D2, D2 = D := ⟨_, rfl⟩
        rw [← hD2] at DD2
        clear hD2 f
        have HNO := Lib.hid (clk_Now g ob C2 w2 K2.out)
        have HDU := Lib.hid (clk_Durable g ob C2 w2 K2.out)
        have HCL := Lib.hid (clk_Closing g ob C2 w2 K2.out)
        have lo2 := K2.out.ok.lo
        have hi2 := K2.out.ok.hi
        have u1 : decide (C2.now < C.now) = false := by rw [decide_eq_false_iff_not]; omega
        have u2 : decide (C2.durable < C.durable) = false := by rw [decide_eq_false_iff_not]; omega
        by_cases hph : C2.phase = 0
        · have hz : C2.closing = 0 := (closing_zero K2.out.ok).2 hph
          have hid := K2.out.ok.idle hph
          have hw1 : IntKind.u64.wrap (C2.durable + 1) = C2.now := by rw [IntKind.wrap_u64]; omega
          have u3 : (C2.now != C2.now) = false := by simp
          rw [hz] at HCL
          have HID := Lib.hid hid
          clear hz hph hid
          generalize hx : C2.now = x at *
          generalize hy : C2.durable = y at *
          have HXX := Lib.hid hx
          have HYY := Lib.hid hy
          clear hx hy
          go_wp2_with fail
          refine HNO.out.mono ?_
          rintro e w' ⟨rfl, rfl⟩
          go_wp2_with fail
          refine (HDU.out).mono ?_
          rintro e w' ⟨rfl, rfl⟩
          go_wp2_with fail
          refine (HCL.out).mono ?_
          rintro e w' ⟨rfl, rfl⟩
          go_wp2
          go_roundw
          · exact ⟨j + 1, C2, D2, by omega, by rw [HXX.out], by rw [HYY.out], by simp, K2.out, DD2.out, O2.out, by rw [HXX.out]; omega⟩
          · simp [intOf]
            omega
        · have hz : C2.closing = C2.now - 1 := by unfold Clk.closing; rw [if_neg hph]
          have hid := K2.out.ok.busy hph
          have hw1 : IntKind.u64.wrap (C2.durable + 2) = C2.now := by rw [IntKind.wrap_u64]; omega
          have hw2 : IntKind.u64.wrap (C2.durable + 1) = C2.now - 1 := by rw [IntKind.wrap_u64]; omega
          have u3 : (C2.now != C2.now) = false := by simp
          have u4 : (C2.now - 1 != C2.now - 1) = false := by simp
          have u5 : (C2.now - 1 != 0) = true := by rw [bne_iff_ne]; omega
          rw [hz, u5] at HCL
          clear hz hph hid u5
          obtain ⟨z, hz⟩ : ∃ z, z = C2.now - 1 := ⟨_, rfl⟩
          rw [← hz] at HCL hw2 u4
          clear hz
          generalize hx : C2.now = x at *
          generalize hy : C2.durable = y at *
          have HXX := Lib.hid hx
          have HYY := Lib.hid hy
          clear hx hy
          go_wp2_with fail
          refine HNO.out.mono ?_
          rintro e w' ⟨rfl, rfl⟩
          go_wp2_with fail
          refine (HDU.out).mono ?_
          rintro e w' ⟨rfl, rfl⟩
          go_wp2_with fail
          refine (HCL.out).mono ?_
          rintro e w' ⟨rfl, rfl⟩
          go_wp2
          go_roundw
          · exact ⟨j + 1, C2, D2, by omega, by rw [HXX.out], by rw [HYY.out], by simp, K2.out, DD2.out, O2.out, by rw [HXX.out]; omega⟩
          · simp [intOf]
            omega
      by_cases k2 : kd = 2
      · subst k2
        clear k0 k1
        have HS := Lib.hid (clk_Step g ob dg dcb 8 C D wr KK.out DD.out HSEP.out)
        go_wp2_with fail
        refine HS.out.mono ?_
        rintro e w2 ⟨rfl, k2, d2, o2⟩
        have K2 := Lib.hid k2
        have DD2 := Lib.hid d2
        have O2 := Lib.hid (ON.out.trans o2 (by intro b hb; simp at hb; omega))
        have f := stepC_now KK.out.ok
        clear k2 d2 o2 HS
        generalize stepC C = C2 at *
        generalize stepD C D = D2 at *
        have f1 : C.now ≤ C2.now := by omega
        have f2 : C.durable ≤ C2.durable := by omega
        have f3 : C2.now ≤ j + 2 := by have := HNOW.out; omega
        clear f
        have HNO := Lib.hid (clk_Now g ob C2 w2 K2.out)
        have HDU := Lib.hid (clk_Durable g ob C2 w2 K2.out)
        have HCL := Lib.hid (clk_Closing g ob C2 w2 K2.out)
        have lo2 := K2.out.ok.lo
        have hi2 := K2.out.ok.hi
        have u1 : decide (C2.now < C.now) = false := by rw [decide_eq_false_iff_not]; omega
        have u2 : decide (C2.durable < C.durable) = false := by rw [decide_eq_false_iff_not]; omega
        by_cases hph : C2.phase = 0
        · have hz : C2.closing = 0 := (closing_zero K2.out.ok).2 hph
          have hid := K2.out.ok.idle hph
          have hw1 : IntKind.u64.wrap (C2.durable + 1) = C2.now := by rw [IntKind.wrap_u64]; omega
          have u3 : (C2.now != C2.now) = false := by simp
          rw [hz] at HCL
          have HID := Lib.hid hid
          clear hz hph hid
          generalize hx : C2.now = x at *
          generalize hy : C2.durable = y at *
          have HXX := Lib.hid hx
          have HYY := Lib.hid hy
          clear hx hy
          go_wp2_with fail
          refine HNO.out.mono ?_
          rintro e w' ⟨rfl, rfl⟩
          go_wp2_with fail
          refine (HDU.out).mono ?_
          rintro e w' ⟨rfl, rfl⟩
          go_wp2_with fail
          refine (HCL.out).mono ?_
          rintro e w' ⟨rfl, rfl⟩
          go_wp2
          go_roundw
          · exact ⟨j + 1, C2, D2, by omega, by rw [HXX.out], by rw [HYY.out], by simp, K2.out, DD2.out, O2.out, by rw [HXX.out]; omega⟩
          · simp [intOf]
            omega
        · have hz : C2.closing = C2.now - 1 := by unfold Clk.closing; rw [if_neg hph]
          have hid := K2.out.ok.busy hph
          have hw1 : IntKind.u64.wrap (C2.durable + 2) = C2.now := by rw [IntKind.wrap_u64]; omega
          have hw2 : IntKind.u64.wrap (C2.durable + 1) = C2.now - 1 := by rw [IntKind.wrap_u64]; omega
          have u3 : (C2.now != C2.now) = false := by simp
          have u4 : (C2.now - 1 != C2.now - 1) = false := by simp
          have u5 : (C2.now - 1 != 0) = true := by rw [bne_iff_ne]; omega
          rw [hz, u5] at HCL
          clear hz hph hid u5
          obtain ⟨z, hz⟩ : ∃ z, z = C2.now - 1 := ⟨_, rfl⟩
          rw [← hz] at HCL hw2 u4
          clear hz
          generalize hx : C2.now = x at *
          generalize hy : C2.durable = y at *
          have HXX := Lib.hid hx
          have HYY := Lib.hid hy
          clear hx hy
          go_wp2_with fail
          refine HNO.out.mono ?_
          rintro e w' ⟨rfl, rfl⟩
          go_wp2_with fail
          refine (HDU.out).mono ?_
          rintro e w' ⟨rfl, rfl⟩
          go_wp2_with fail
          refine (HCL.out).mono ?_
          rintro e w' ⟨rfl, rfl⟩
          go_wp2
          go_roundw
          · exact ⟨j + 1, C2, D2, by omega, by rw [HXX.out], by rw [HYY.out], by simp, K2.out, DD2.out, O2.out, by rw [HXX.out]; omega⟩
          · simp [intOf]
            omega
      · have e0 : (kd == 0) = false := by simpa using k0
        have e1 : (kd == 1) = false := by simpa using k1
        have e2 : (kd == 2) = false := by simpa using k2
        clear k0 k1 k2
        go_wp2_with fail
        have f1 : C.now ≤ C.now := Int.le_refl _
        have f2 : C.durable ≤ C.durable := Int.le_refl _
        have f3 : C.now ≤ j + 2 := by have := HNOW.out; omega
        have K2 := KK
        have DD2 := DD
        have O2 := ON
        obtain ⟨D2, hD2⟩ : ∃ D2, D2 = D := ⟨_, rfl⟩
        rw [← hD2] at DD2
        obtain ⟨C2, hC2⟩ : ∃ C2, C2 = C := ⟨_, rfl⟩
        rw [← hC2] at K2
        have f1 : C.now ≤ C2.now := by rw [hC2]; omega
        have f2 : C.durable ≤ C2.durable := by rw [hC2]; omega
        have f3 : C2.now ≤ j + 2 := by rw [hC2]; have := HNOW.out; omega
        clear hC2 hD2 KK DD ON
        obtain ⟨w2, hw2⟩ : ∃ w2, w2 = wr := ⟨_, rfl⟩
        subst hw2
        have HNO := Lib.hid (clk_Now g ob C2 w2 K2.out)
        have HDU := Lib.hid (clk_Durable g ob C2 w2 K2.out)
        have HCL := Lib.hid (clk_Closing g ob C2 w2 K2.out)
        have lo2 := K2.out.ok.lo
        have hi2 := K2.out.ok.hi
        have u1 : decide (C2.now < C.now) = false := by rw [decide_eq_false_iff_not]; omega
        have u2 : decide (C2.durable < C.durable) = false := by rw [decide_eq_false_iff_not]; omega
        by_cases hph : C2.phase = 0
        · have hz : C2.closing = 0 := (closing_zero K2.out.ok).2 hph
          have hid := K2.out.ok.idle hph
          have hw1 : IntKind.u64.wrap (C2.durable + 1) = C2.now := by rw [IntKind.wrap_u64]; omega
          have u3 : (C2.now != C2.now) = false := by simp
          rw [hz] at HCL
          have HID := Lib.hid hid
          clear hz hph hid
          generalize hx : C2.now = x at *
          generalize hy : C2.durable = y at *
          have HXX := Lib.hid hx
          have HYY := Lib.hid hy
          clear hx hy
          go_wp2_with fail
          refine HNO.out.mono ?_
          rintro e w' ⟨rfl, rfl⟩
          go_wp2_with fail
          refine (HDU.out).mono ?_
          rintro e w' ⟨rfl, rfl⟩
          go_wp2_with fail
          refine (HCL.out).mono ?_
          rintro e w' ⟨rfl, rfl⟩
          go_wp2
          go_roundw
          · exact ⟨j + 1, C2, D2, by omega, by rw [HXX.out], by rw [HYY.out], by simp, K2.out, DD2.out, O2.out, by rw [HXX.out]; omega⟩
          · simp [intOf]
            omega
        · have hz : C2.closing = C2.now - 1 := by unfold Clk.closing; rw [if_neg hph]
          have hid := K2.out.ok.busy hph
          have hw1 : IntKind.u64.wrap (C2.durable + 2) = C2.now := by rw [IntKind.wrap_u64]; omega
          have hw2 : IntKind.u64.wrap (C2.durable + 1) = C2.now - 1 := by rw [IntKind.wrap_u64]; omega
          have u3 : (C2.now != C2.now) = false := by simp
          have u4 : (C2.now - 1 != C2.now - 1) = false := by simp
          have u5 : (C2.now - 1 != 0) = true := by rw [bne_iff_ne]; omega
          rw [hz, u5] at HCL
          clear hz hph hid u5
          obtain ⟨z, hz⟩ : ∃ z, z = C2.now - 1 := ⟨_, rfl⟩
          rw [← hz] at HCL hw2 u4
          clear hz
          generalize hx : C2.now = x at *
          generalize hy : C2.durable = y at *
          have HXX := Lib.hid hx
          have HYY := Lib.hid hy
          clear hx hy
          go_wp2_with fail
          refine HNO.out.mono ?_
          rintro e w' ⟨rfl, rfl⟩
          go_wp2_with fail
          refine (HDU.out).mono ?_
          rintro e w' ⟨rfl, rfl⟩
          go_wp2_with fail
          refine (HCL.out).mono ?_
          rintro e w' ⟨rfl, rfl⟩
          go_wp2
          go_roundw
          · exact ⟨j + 1, C2, D2, by omega, by rw [HXX.out], by rw [HYY.out], by simp, K2.out, DD2.out, O2.out, by rw [HXX.out]; omega⟩
          · simp [intOf]
            omega
    · obtain rfl : j = n := by omega
      have y3 : decide ((j : Int) < (j : Int)) = false := by simp
      have ON := Lib.hid on
      clear hk hd on hnow
      generalize C.now = a at *
      generalize C.durable = b at *
      go_wp2_with fail
      refine (law9_awake _).mono ?_
      rintro e wz ⟨rfl, oz⟩
      have OZ := Lib.hid (ON.out.trans0 oz)
      clear oz
      go_wp2
      go_ret
      exact ⟨rfl, OZ.out⟩
end Go.Proofs.Ytecdalmnndalgaa
