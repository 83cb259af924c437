/- Law 9: the walk of DurableOrder. -/
import Derived.Test.YtecdalmnndalgaaClkR
import Derived.Test.YtecdalmnndalgaaClkLag
namespace Go.Proofs.Ytecdalmnndalgaa
open Go.RowKit Go.Proofs.FuMem Go.Proofs.FuClk Go.Proofs.FuNvm Go.Proofs.FuGeom Go.Proofs.FuCode
set_option maxRecDepth 100000
set_option maxHeartbeats 20000000 in
theorem walk_DurableOrder (A : Option Addr) (n c : Nat) (xs : List FuClk.Deed) (A' : Option Addr) (m c' : Nat) (ys : List FuClk.Deed) (w : World) (h : FuClk.Acts w A n xs) (_hc : n ≤ c) (h' : FuClk.Acts w A' m ys) (_hc' : m ≤ c') :
    Calls Try.prog 7 #[.slice A n c, .slice A' m c'] w fun e w' => e = .returned (.bool true) ∧ Only [] w w' := by
  have O0 := Lib.hid (Only.refl [] w)
  by_cases hbig : 120 < n
  · have q0 : decide ((120 : Int) < (n : Int)) = true := by rw [decide_eq_true_eq]; omega
    clear h h'
    go_enter Try.func7, Try.ntmps7
    go_wp2_with fail
    refine (law9_awake _).mono ?_
    rintro e wz ⟨rfl, oz⟩
    have OZ := Lib.hid (O0.out.trans0 oz)
    clear oz
    go_wp2
    go_ret
    exact ⟨rfl, OZ.out⟩
  have q0 : decide ((120 : Int) < (n : Int)) = false := by rw [decide_eq_false_iff_not]; omega
  by_cases hbig2 : 120 < m
  · have q1 : decide ((120 : Int) < (m : Int)) = true := by rw [decide_eq_true_eq]; omega
    clear h h'
    go_enter Try.func7, Try.ntmps7
    go_wp2_with fail
    refine (law9_awake _).mono ?_
    rintro e wz ⟨rfl, oz⟩
    have OZ := Lib.hid (O0.out.trans0 oz)
    clear oz
    go_wp2
    go_ret
    exact ⟨rfl, OZ.out⟩
  have q1 : decide ((120 : Int) < (m : Int)) = false := by rw [decide_eq_false_iff_not]; omega
  have hn : n ≤ 120 := by omega
  have hm : m ≤ 120 := by omega
  clear hbig hbig2
  have HN := Lib.hid (clk_New 1 0 w (by omega) (by omega) (by omega) (by omega))
  have HC1 := Lib.hid (show (newClk 1 0).now = 1 ∧ (newClk 1 0).phase = 0 ∧ (newClk 1 0).owed.length = 1 from ⟨rfl, rfl, rfl⟩)
  have HB0 := Lib.hid (base_new 30 1 0 (by omega))
  have HND := Lib.hid (fun w => nvm_New 30 w (by omega) (by omega))
  have HX := Lib.hid h
  have HX' := Lib.hid h'
  generalize newClk 1 0 = C0 at *
  generalize newDev 30 = D0 at *
  clear h h'
  go_enter Try.func7, Try.ntmps7
  go_wp2_with fail
  refine HN.out.mono ?_
  rintro e w1 ⟨g, ob, rfl, k1, o1, hg, hob⟩
  have lg := k1.lt1
  have lo := k1.lt2
  have K1 := Lib.hid k1
  have O1 := Lib.hid o1
  clear k1 o1 HN
  go_wp2_with fail
  refine (HND.out w1).mono ?_
  rintro e w2 ⟨dg, dcb, rfl, d1, o2, hdg, hdcb⟩
  have HSEP := Lib.hid (show g ≠ dg ∧ g ≠ dcb ∧ ob ≠ dg ∧ ob ≠ dcb by omega)
  have K2 := Lib.hid (K1.out.only0 o2)
  have D2 := Lib.hid d1
  have O2 := Lib.hid (O1.out.trans0 o2)
  have s1 := O1.out.size
  have hdg' : w.heap.size ≤ dg ∧ w.heap.size ≤ dcb := by omega
  clear d1 o2 K1 O1 HND
  go_wp2
  go_loopw [9] (fun iv wr => ∃ (j : Nat) (C : Clk) (D : Dev), j ≤ n ∧ iv = .int .i64 j ∧ ClkAt wr g ob C ∧ DevAt wr dg dcb 30 D ∧ Only [] w wr ∧ Base 30 C D ∧ (C.now = 1 ∧ C.phase = 0 ∧ C.owed.length = 1)) (fun iv _ => n - (intOf iv).toNat)
  case atStart => exact ⟨0, C0, D0, by omega, rfl, K2.out, D2.out, O2.out, HB0.out, HC1.out⟩
  case round =>
    obtain ⟨j, C, D, hj, rfl, hk, hd, on, hbase, hfix⟩ := hrel
    clear K2 D2 O2 HB0 HC1
    by_cases hlt : j < n
    · have y2 : (j : Int) < (n : Int) := by omega
      have y3 : decide ((j : Int) < (n : Int)) = true := by rw [decide_eq_true_eq]; omega
      obtain ⟨b, off, x, hAe, hx, hbd, hcell0, hbw⟩ := HX.out.at_ hlt
      have hcell := hcell0.only0 on
      obtain ⟨kd, t, ln, by_⟩ := x
      obtain ⟨_, _, c2, _⟩ := hcell
      simp only at c2
      subst hAe
      have hlow := low_lt ln 28 (by omega)
      have HLW := Lib.hid (law0_Low ln 28 wr (by omega) (by omega))
      generalize low ln 28 = q at *
      have hw1 : IntKind.i64.wrap (2 + (q : Int)) = ((2 + q : Nat) : Int) := by rw [IntKind.wrap_i64]; omega
      have hw2 : IntKind.i64.wrap (1 + (j : Int)) = 1 + (j : Int) := by rw [IntKind.wrap_i64]; omega
      obtain ⟨y, hy⟩ := u8_of (1 + (j : Int))
      have KK := Lib.hid hk
      have DD := Lib.hid hd
      have ON := Lib.hid on
      have oa : Only [] wr (wr.alloc (.cells ([y].map B).toArray 5)) := (Only.refl _ _).alloc _
      have hbs := bs_new wr 5 [y]
      have HST := Lib.hid (nvm_Store_any dg dcb 30 D (2 + q : Nat) 9 (some ⟨wr.heap.size, 0, none⟩) 1 1 [y] _ (hd.only0 oa) hbs (by unfold maxLen; omega))
      have HBS := Lib.hid (base_note (t := 0) (i := 2 + q) (pos := 9) (l := [y]) hbase hk.ok (by omega) (by omega) (by omega))
      have HFX := Lib.hid (show (noteC C 0 (2 + q)).now = 1 ∧ (noteC C 0 (2 + q)).phase = 0 ∧ (noteC C 0 (2 + q)).owed.length = 1 from ⟨hfix.1, hfix.2.1, by show (C.owed.set 0 _).length = 1; rw [List.length_set]; exact hfix.2.2⟩)
      have HO1 := Lib.hid hfix.2.2
      have OA := Lib.hid oa
      clear hk hd on hbase hfix hcell0 hbd hx hbw oa hbs
      go_wp2_with fail
      refine HLW.out.mono ?_
      rintro e w' ⟨rfl, rfl⟩
      go_wp2_with fail
      refine HST.out.mono ?_
      rintro e w3 ⟨rfl, d3, o3⟩
      have K3 := Lib.hid ((KK.out.only0 OA.out).only o3 (by have := HSEP.out; simp; omega) (by have := HSEP.out; simp; omega))
      have D3 := Lib.hid d3
      have O3 := Lib.hid ((ON.out.trans0 OA.out).trans o3 (by intro b hb; simp at hb; omega))
      have HNT := Lib.hid (clk_Note g ob C 0 (2 + q) w3 K3.out (by rw [HO1.out]; omega) (by omega))
      clear d3 o3 HST HLW c2
      go_wp2_with fail
      refine HNT.out.mono ?_
      rintro e w4 ⟨rfl, k4, o4⟩
      have K4 := Lib.hid k4
      have D4 := Lib.hid (D3.out.only o4 (by have := HSEP.out; simp; omega) (by have := HSEP.out; simp; omega))
      have O4 := Lib.hid (O3.out.trans o4 (by intro b hb; simp at hb; omega))
      clear k4 o4
      go_wp2
      go_roundw
      · exact ⟨j + 1, noteC C 0 (2 + q), _, by omega, by simp, K4.out, D4.out, O4.out, HBS.out, HFX.out⟩
      · simp [intOf]
        omega
    · obtain rfl : j = n := by omega
      have y3 : decide ((j : Int) < (j : Int)) = false := by simp
      have HB := Lib.hid (clk_Begin g ob C wr hk hfix.2.1 (by omega))
      have ON := Lib.hid on
      have DD := Lib.hid hd
      have HW := Lib.hid (work_begin hbase (fun i => i < 30))
      have HF := Lib.hid (first_begin hbase)
      have HR := Lib.hid (rest_begin hbase)
      have HNW := Lib.hid (show (beginC C).now = 2 by show C.now + 1 = 2; omega)
      clear hk hd on hbase hfix
      go_wp2_with fail
      refine HB.out.mono ?_
      rintro e w3 ⟨rfl, k3, o3⟩
      have KK := Lib.hid k3
      have DD3 := Lib.hid (DD.out.only o3 (by have := HSEP.out; simp; omega) (by have := HSEP.out; simp; omega))
      have ON3 := Lib.hid (ON.out.trans o3 (by intro b hb; simp at hb; omega))
      clear k3 o3 HB
      generalize beginC C = C3 at *
      go_wp2
      go_loopw [11] (fun kv wr => ∃ (k : Nat) (C : Clk) (D : Dev), k ≤ 60 ∧ kv = .int .i64 k ∧ ClkAt wr g ob C ∧ DevAt wr dg dcb 30 D ∧ Only [] w wr ∧ Work 30 (fun i => i < 30) C D ∧ First C D ∧ C.now = 2 ∧ k + rest C ≤ 34) (fun kv _ => 60 - (intOf kv).toNat)
      case atStart => exact ⟨0, C3, D, by omega, rfl, KK.out, DD3.out, ON3.out, HW.out, HF.out, HNW.out, by have := HR.out; omega⟩
      case round =>
        obtain ⟨k, C, D, hk60, rfl, hk, hd, on, hw, hf, hnow, hr⟩ := hrel
        clear KK DD3 ON3 HW HF HNW HR DD ON
        have HDU := Lib.hid (clk_Durable g ob C wr hk)
        by_cases hph : C.phase = 0
        · have hdu : C.durable = 1 := by have := hk.ok.idle hph; omega
          rw [hdu] at HDU
          have hlast : ∀ i x, 2 ≤ i → D.lines[i]? = some x → x.now = x.kept := fun i x h2 hx => (hw.good i x (by have := (List.getElem?_eq_some_iff.1 hx).1; rw [hw.len] at this; exact this) h2 hx).2.2 (by omega)
          have HLA := Lib.hid (law9_lasting dg dcb 30 D wr hd hlast)
          have ON := Lib.hid on
          have y1 : decide ((k : Int) < 60) = true := by rw [decide_eq_true_eq]; unfold rest at hr; omega
          clear hk hd on hw hf hnow hr hlast hdu hph
          go_wp2_with fail
          refine (HDU.out).mono ?_
          rintro e w' ⟨rfl, rfl⟩
          go_wp2_with fail
          refine (HDU.out).mono ?_
          rintro e w' ⟨rfl, rfl⟩
          go_wp2_with fail
          refine HLA.out.mono ?_
          rintro e w4 ⟨rfl, o4⟩
          have O4 := Lib.hid (ON.out.trans0 o4)
          clear o4
          go_wp2_with fail
          refine (law9_awake _).mono ?_
          rintro e wz ⟨rfl, oz⟩
          have OZ := Lib.hid (O4.out.trans0 oz)
          clear oz
          go_wp2
          go_ret
          exact ⟨rfl, OZ.out⟩
        · have hdu : C.durable = 0 := by have := hk.ok.busy hph; omega
          rw [hdu] at HDU
          have hrs := rest_step hk.ok hph
          have hr1 : 1 ≤ rest C := by omega
          have hk34 : k < 34 := by omega
          have y1 : decide ((k : Int) < 60) = true := by rw [decide_eq_true_eq]; omega
          have HS := Lib.hid (clk_Step g ob dg dcb 30 C D wr hk hd HSEP.out)
          have HW := Lib.hid (work_step hw hk.ok)
          have HF := Lib.hid (first_step hf hk.ok)
          have HNW := Lib.hid (show (stepC C).now = 2 by rw [(stepC_now hk.ok).1]; exact hnow)
          have HR := Lib.hid (show k + 1 + rest (stepC C) ≤ 34 by omega)
          have ON := Lib.hid on
          clear hk hd on hw hf hnow hr hdu hph hrs
          go_wp2_with fail
          refine (HDU.out).mono ?_
          rintro e w' ⟨rfl, rfl⟩
          go_wp2_with fail
          refine HS.out.mono ?_
          rintro e w4 ⟨rfl, k4, d4, o4⟩
          have K4 := Lib.hid k4
          have D4 := Lib.hid d4
          have O4 := Lib.hid (ON.out.trans o4 (by intro b hb; simp at hb; omega))
          clear k4 d4 o4 HS HDU ON
          generalize stepC C = C4 at *
          generalize stepD C D = D4' at *
          by_cases hkm : k < m
          · have y4 : decide ((k : Int) < (m : Int)) = true := by rw [decide_eq_true_eq]; omega
            have y5 : (k : Int) < (m : Int) := by omega
            obtain ⟨b, off, x, hAe, hx, hbd, hcell0, hbw⟩ := HX'.out.at_ hkm
            have hcell := hcell0.only0 O4.out
            obtain ⟨kd, t, ln, by_⟩ := x
            obtain ⟨_, _, c2, _⟩ := hcell
            simp only at c2
            subst hAe
            have HLW := Lib.hid (law0_Low ln 30 w4 (by omega) (by omega))
            have HBK := Lib.hid (nvm_Back_any dg dcb 30 D4' (low ln 30) w4 D4.out)
            have HW5 := Lib.hid (work_back HW.out (low ln 30))
            have HF5 := Lib.hid (first_back HF.out (low ln 30))
            clear hcell0 hbd hx hbw
            go_wp2_with fail
            refine HLW.out.mono ?_
            rintro e w' ⟨rfl, rfl⟩
            go_wp2_with fail
            refine HBK.out.mono ?_
            rintro e w5 ⟨rfl, d5, o5⟩
            have K5 := Lib.hid (K4.out.only o5 (by have := HSEP.out; simp; omega) (by have := HSEP.out; simp; omega))
            have D5 := Lib.hid d5
            have O5 := Lib.hid (O4.out.trans o5 (by intro b hb; simp at hb; omega))
            clear d5 o5 c2 HLW HBK HW HF K4 D4 O4
            generalize back1 D4' (low ln 30) = D5' at *
            obtain ⟨x, hx⟩ : ∃ x, D5'.lines[1]? = some x := ⟨_, List.getElem?_eq_getElem (by rw [HW5.out.len]; omega)⟩
            have hxl : x.kept.length = 64 := (D5.out.ok x (List.mem_of_getElem? hx)).2.1
            have HDR := Lib.hid (nvm_Durable dg dcb 30 D5' 1 x hx w5 D5.out)
            have hz : C4.phase = 1 ∨ C4.phase = 2 → isClock x.kept = (0, false) := fun hp => by
              obtain ⟨y, hy, _, y2, _⟩ := HF5.out hp
              rw [hx] at hy
              cases hy
              rw [y2]
              exact isClock_zeros2
            have hlast : ¬ (C4.phase = 1 ∨ C4.phase = 2) → ∀ i x, 2 ≤ i → D5'.lines[i]? = some x → x.now = x.kept := fun hp i x h2 hx => (HW5.out.good i x (by have := (List.getElem?_eq_some_iff.1 hx).1; rw [HW5.out.len] at this; exact this) h2 hx).2.2 (by omega)
            have HZ := Lib.hid hz
            have HLST := Lib.hid hlast
            clear hz hlast hx
            generalize x.kept = l at *
            go_wp2_with fail
            refine HDR.out.mono ?_
            rintro e w6 ⟨v6, rfl, m6⟩
            obtain ⟨b6, c6, rfl, own6, f6, o6⟩ := madeB_get m6 (by omega)
            have K6 := Lib.hid (K5.out.only0 o6)
            have D6 := Lib.hid (D5.out.only0 o6)
            have O6 := Lib.hid (O5.out.trans0 o6)
            have hck := geom_IsClock (c := c6) own6.bs (by unfold maxLen; omega)
            rw [hxl] at hck
            have HCK := Lib.hid hck
            clear hck
            clear m6 own6 o6 HDR
            have eR : k + 1 + rest C4 ≤ 34 := HR.out
            rcases hic : isClock l with ⟨v, ok⟩
            rw [hic] at HCK HZ
            simp only at HCK
            clear hic
            cases ok with
            | false =>
              go_wp2_with fail
              refine HCK.out.mono ?_
              rintro e w7 ⟨rfl, o7⟩
              have K7 := Lib.hid (K6.out.only0 o7)
              have D7 := Lib.hid (D6.out.only0 o7)
              have O7 := Lib.hid (O6.out.trans0 o7)
              clear o7
              go_wp2
              go_roundw
              · exact ⟨k + 1, C4, D5', by omega, by simp, K7.out, D7.out, O7.out, HW5.out, HF5.out, HNW.out, HR.out⟩
              · simp [intOf]
                omega
            | true =>
              by_cases hv : v = 1
              · subst hv
                have hp : ¬ (C4.phase = 1 ∨ C4.phase = 2) := fun hp => by have := HZ.out hp; cases this
                go_wp2_with fail
                refine HCK.out.mono ?_
                rintro e w7 ⟨rfl, o7⟩
                have K7 := Lib.hid (K6.out.only0 o7)
                have D7 := Lib.hid (D6.out.only0 o7)
                have O7 := Lib.hid (O6.out.trans0 o7)
                have HLA := Lib.hid (law9_lasting dg dcb 30 D5' w7 D7.out (HLST.out hp))
                clear o7 hp
                go_wp2_with fail
                refine HLA.out.mono ?_
                rintro e w8 ⟨rfl, o8⟩
                have K8 := Lib.hid (K7.out.only0 o8)
                have D8 := Lib.hid (D7.out.only0 o8)
                have O8 := Lib.hid (O7.out.trans0 o8)
                clear o8
                go_wp2
                go_roundw
                · exact ⟨k + 1, C4, D5', by omega, by simp, K8.out, D8.out, O8.out, HW5.out, HF5.out, HNW.out, HR.out⟩
                · simp [intOf]
                  omega
              · have hv1 : ((v : Int) == 1) = false := by rw [beq_eq_false_iff_ne]; omega
                clear hv
                go_wp2_with fail
                refine HCK.out.mono ?_
                rintro e w7 ⟨rfl, o7⟩
                have K7 := Lib.hid (K6.out.only0 o7)
                have D7 := Lib.hid (D6.out.only0 o7)
                have O7 := Lib.hid (O6.out.trans0 o7)
                clear o7
                go_wp2
                go_roundw
                · exact ⟨k + 1, C4, D5', by omega, by simp, K7.out, D7.out, O7.out, HW5.out, HF5.out, HNW.out, HR.out⟩
                · simp [intOf]
                  omega
          · have y4 : decide ((k : Int) < (m : Int)) = false := by rw [decide_eq_false_iff_not]; omega
            obtain ⟨D5', hD5⟩ : ∃ D5', D5' = D4' := ⟨_, rfl⟩
            subst hD5
            obtain ⟨w5, hw5⟩ : ∃ w5, w5 = w4 := ⟨_, rfl⟩
            subst hw5
            have HW5 := HW
            have HF5 := HF
            have K5 := K4
            have D5 := D4
            have O5 := O4
            clear HW HF K4 D4 O4
            obtain ⟨x, hx⟩ : ∃ x, D5'.lines[1]? = some x := ⟨_, List.getElem?_eq_getElem (by rw [HW5.out.len]; omega)⟩
            have hxl : x.kept.length = 64 := (D5.out.ok x (List.mem_of_getElem? hx)).2.1
            have HDR := Lib.hid (nvm_Durable dg dcb 30 D5' 1 x hx w5 D5.out)
            have hz : C4.phase = 1 ∨ C4.phase = 2 → isClock x.kept = (0, false) := fun hp => by
              obtain ⟨y, hy, _, y2, _⟩ := HF5.out hp
              rw [hx] at hy
              cases hy
              rw [y2]
              exact isClock_zeros2
            have hlast : ¬ (C4.phase = 1 ∨ C4.phase = 2) → ∀ i x, 2 ≤ i → D5'.lines[i]? = some x → x.now = x.kept := fun hp i x h2 hx => (HW5.out.good i x (by have := (List.getElem?_eq_some_iff.1 hx).1; rw [HW5.out.len] at this; exact this) h2 hx).2.2 (by omega)
            have HZ := Lib.hid hz
            have HLST := Lib.hid hlast
            clear hz hlast hx
            generalize x.kept = l at *
            go_wp2_with fail
            refine HDR.out.mono ?_
            rintro e w6 ⟨v6, rfl, m6⟩
            obtain ⟨b6, c6, rfl, own6, f6, o6⟩ := madeB_get m6 (by omega)
            have K6 := Lib.hid (K5.out.only0 o6)
            have D6 := Lib.hid (D5.out.only0 o6)
            have O6 := Lib.hid (O5.out.trans0 o6)
            have hck := geom_IsClock (c := c6) own6.bs (by unfold maxLen; omega)
            rw [hxl] at hck
            have HCK := Lib.hid hck
            clear hck
            clear m6 own6 o6 HDR
            have eR : k + 1 + rest C4 ≤ 34 := HR.out
            rcases hic : isClock l with ⟨v, ok⟩
            rw [hic] at HCK HZ
            simp only at HCK
            clear hic
            cases ok with
            | false =>
              go_wp2_with fail
              refine HCK.out.mono ?_
              rintro e w7 ⟨rfl, o7⟩
              have K7 := Lib.hid (K6.out.only0 o7)
              have D7 := Lib.hid (D6.out.only0 o7)
              have O7 := Lib.hid (O6.out.trans0 o7)
              clear o7
              go_wp2
              go_roundw
              · exact ⟨k + 1, C4, D5', by omega, by simp, K7.out, D7.out, O7.out, HW5.out, HF5.out, HNW.out, HR.out⟩
              · simp [intOf]
                omega
            | true =>
              by_cases hv : v = 1
              · subst hv
                have hp : ¬ (C4.phase = 1 ∨ C4.phase = 2) := fun hp => by have := HZ.out hp; cases this
                go_wp2_with fail
                refine HCK.out.mono ?_
                rintro e w7 ⟨rfl, o7⟩
                have K7 := Lib.hid (K6.out.only0 o7)
                have D7 := Lib.hid (D6.out.only0 o7)
                have O7 := Lib.hid (O6.out.trans0 o7)
                have HLA := Lib.hid (law9_lasting dg dcb 30 D5' w7 D7.out (HLST.out hp))
                clear o7 hp
                go_wp2_with fail
                refine HLA.out.mono ?_
                rintro e w8 ⟨rfl, o8⟩
                have K8 := Lib.hid (K7.out.only0 o8)
                have D8 := Lib.hid (D7.out.only0 o8)
                have O8 := Lib.hid (O7.out.trans0 o8)
                clear o8
                go_wp2
                go_roundw
                · exact ⟨k + 1, C4, D5', by omega, by simp, K8.out, D8.out, O8.out, HW5.out, HF5.out, HNW.out, HR.out⟩
                · simp [intOf]
                  omega
              · have hv1 : ((v : Int) == 1) = false := by rw [beq_eq_false_iff_ne]; omega
                clear hv
                go_wp2_with fail
                refine HCK.out.mono ?_
                rintro e w7 ⟨rfl, o7⟩
                have K7 := Lib.hid (K6.out.only0 o7)
                have D7 := Lib.hid (D6.out.only0 o7)
                have O7 := Lib.hid (O6.out.trans0 o7)
                clear o7
                go_wp2
                go_roundw
                · exact ⟨k + 1, C4, D5', by omega, by simp, K7.out, D7.out, O7.out, HW5.out, HF5.out, HNW.out, HR.out⟩
                · simp [intOf]
                  omega
end Go.Proofs.Ytecdalmnndalgaa
