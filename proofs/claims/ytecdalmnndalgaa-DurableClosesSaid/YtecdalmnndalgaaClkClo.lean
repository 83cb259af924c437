/- Law 9: the walk of DurableCloses. -/
import Derived.Test.YtecdalmnndalgaaClkR
import Derived.Test.YtecdalmnndalgaaClkLag
namespace Go.Proofs.Ytecdalmnndalgaa
open Go.RowKit Go.Proofs.FuMem Go.Proofs.FuClk Go.Proofs.FuNvm Go.Proofs.FuGeom Go.Proofs.FuCode
set_option maxRecDepth 100000
theorem falses40 : (#[Value.bool false, Value.bool false, Value.bool false, Value.bool false, Value.bool false, Value.bool false, Value.bool false, Value.bool false, Value.bool false, Value.bool false, Value.bool false, Value.bool false, Value.bool false, Value.bool false, Value.bool false, Value.bool false, Value.bool false, Value.bool false, Value.bool false, Value.bool false, Value.bool false, Value.bool false, Value.bool false, Value.bool false, Value.bool false, Value.bool false, Value.bool false, Value.bool false, Value.bool false, Value.bool false, Value.bool false, Value.bool false, Value.bool false, Value.bool false, Value.bool false, Value.bool false, Value.bool false, Value.bool false, Value.bool false, Value.bool false] : Array Value) = (bools (List.replicate 40 false)).toArray := by kernel_rfl
theorem noted_cell {w : World} {nb : Nat} {t : TypeId} {N : List Bool} (h : Blk w nb t (bools N).toArray) {i : Nat} (hi : i < N.length) : w.cell? ⟨nb, i, none⟩ = some (.bool (N.getD i false)) := by
  rw [h.cell]
  simp [bools, List.getD, hi]
theorem noted_set {w : World} {nb : Nat} {t : TypeId} {N : List Bool} (h : Blk w nb t (bools N).toArray) (i : Nat) (b : Bool) : Blk (w.setCell ⟨nb, i, none⟩ (.bool b)) nb t (bools (N.set i b)).toArray := by
  have := h.set i (.bool b)
  rw [List.setIfInBounds_toArray] at this
  unfold bools at this ⊢
  rw [List.map_set]
  exact this
set_option maxHeartbeats 30000000 in
theorem walk_DurableCloses (A : Option Addr) (n c : Nat) (xs : List FuClk.Deed) (A' : Option Addr) (m c' : Nat) (ys : List FuClk.Deed) (w : World) (h : FuClk.Acts w A n xs) (_hc : n ≤ c) (h' : FuClk.Acts w A' m ys) (_hc' : m ≤ c') :
    Calls Try.prog 5 #[.slice A n c, .slice A' m c'] w fun e w' => e = .returned (.bool true) ∧ Only [] w w' := by
  have O0 := Lib.hid (Only.refl [] w)
  by_cases hbig : 120 < n
  · have q0 : decide ((120 : Int) < (n : Int)) = true := by rw [decide_eq_true_eq]; omega
    clear h h'
    go_enter Try.func5, Try.ntmps5
    go_wp2_with fail
    refine (law9_awake _).mono ?_
    rintro e wz ⟨rfl, oz⟩
    have OZ := Lib.hid (O0.out.trans0 oz)
    clear oz
    go_wp2
    go_ret
    exact ⟨rfl, OZ.out⟩
  have q0 : decide ((120 : Int) < (n : Int)) = false := by rw [decide_eq_false_iff_not]; omega
  by_cases hbig2 : 120 < m
  · have q1 : decide ((120 : Int) < (m : Int)) = true := by rw [decide_eq_true_eq]; omega
    clear h h'
    go_enter Try.func5, Try.ntmps5
    go_wp2_with fail
    refine (law9_awake _).mono ?_
    rintro e wz ⟨rfl, oz⟩
    have OZ := Lib.hid (O0.out.trans0 oz)
    clear oz
    go_wp2
    go_ret
    exact ⟨rfl, OZ.out⟩
  have q1 : decide ((120 : Int) < (m : Int)) = false := by rw [decide_eq_false_iff_not]; omega
  have hn : n ≤ 120 := by omega
  have hm : m ≤ 120 := by omega
  clear hbig hbig2
  have HN := Lib.hid (clk_New 4 7 w (by omega) (by omega) (by omega) (by omega))
  have HC1 := Lib.hid (show (newClk 4 7).now = 8 ∧ (newClk 4 7).phase = 0 ∧ (newClk 4 7).owed.length = 4 from ⟨rfl, rfl, rfl⟩)
  have HB0 := Lib.hid (base_new 40 4 7 (by omega))
  have HND := Lib.hid (fun w => nvm_New 40 w (by omega) (by omega))
  have HX := Lib.hid h
  have HX' := Lib.hid h'
  generalize newClk 4 7 = C0 at *
  generalize newDev 40 = D0 at *
  clear h h'
  go_enter Try.func5, Try.ntmps5
  go_wp2_with fail
  refine HN.out.mono ?_
  rintro e w1 ⟨g, ob, rfl, k1, o1, hg, hob⟩
  have lg := k1.lt1
  have lo := k1.lt2
  have K1 := Lib.hid k1
  have O1 := Lib.hid o1
  clear k1 o1 HN
  go_wp2_with fail
  refine (HND.out w1).mono ?_
  rintro e w2 ⟨dg, dcb, rfl, d1, o2, hdg, hdcb⟩
  have HSEP := Lib.hid (show g ≠ dg ∧ g ≠ dcb ∧ ob ≠ dg ∧ ob ≠ dcb by omega)
  have K2 := Lib.hid (K1.out.only0 o2)
  have D2 := Lib.hid d1
  have O2 := Lib.hid (O1.out.trans0 o2)
  have s1 := O1.out.size
  have s2 := o2.size
  have l1 := d1.lt1
  have l2 := d1.lt2
  have hdg' : w.heap.size ≤ dg ∧ w.heap.size ≤ dcb := by omega
  have HSEN := Lib.hid (show w2.heap.size ≠ g ∧ w2.heap.size ≠ ob ∧ w2.heap.size ≠ dg ∧ w2.heap.size ≠ dcb by omega)
  have HNBW := Lib.hid (show w.heap.size ≤ w2.heap.size by omega)
  have oa : Only [] w2 (w2.alloc (.cells #[.bool false, .bool false, .bool false, .bool false, .bool false, .bool false, .bool false, .bool false, .bool false, .bool false, .bool false, .bool false, .bool false, .bool false, .bool false, .bool false, .bool false, .bool false, .bool false, .bool false, .bool false, .bool false, .bool false, .bool false, .bool false, .bool false, .bool false, .bool false, .bool false, .bool false, .bool false, .bool false, .bool false, .bool false, .bool false, .bool false, .bool false, .bool false, .bool false, .bool false] 45)) := (Only.refl _ _).alloc _
  have hnb := Blk.new w2 45 #[.bool false, .bool false, .bool false, .bool false, .bool false, .bool false, .bool false, .bool false, .bool false, .bool false, .bool false, .bool false, .bool false, .bool false, .bool false, .bool false, .bool false, .bool false, .bool false, .bool false, .bool false, .bool false, .bool false, .bool false, .bool false, .bool false, .bool false, .bool false, .bool false, .bool false, .bool false, .bool false, .bool false, .bool false, .bool false, .bool false, .bool false, .bool false, .bool false, .bool false]
  rw [falses40] at hnb
  have HNB : Hid (Blk (w2.alloc (.cells #[.bool false, .bool false, .bool false, .bool false, .bool false, .bool false, .bool false, .bool false, .bool false, .bool false, .bool false, .bool false, .bool false, .bool false, .bool false, .bool false, .bool false, .bool false, .bool false, .bool false, .bool false, .bool false, .bool false, .bool false, .bool false, .bool false, .bool false, .bool false, .bool false, .bool false, .bool false, .bool false, .bool false, .bool false, .bool false, .bool false, .bool false, .bool false, .bool false, .bool false] 45)) w2.heap.size 45 (bools (List.replicate 40 false)).toArray) := Lib.hid (by rw [falses40]; exact hnb)
  have K2 := Lib.hid (K2.out.only0 oa)
  have D2 := Lib.hid (D2.out.only0 oa)
  have O2 := Lib.hid (O2.out.trans0 oa)
  obtain ⟨nb, hnbe⟩ : ∃ nb, nb = w2.heap.size := ⟨_, rfl⟩
  have HNBE := Lib.hid hnbe
  clear d1 o2 K1 O1 HND oa hnb s2 hnbe
  go_wp2
  go_loopw [10] (fun iv wr => ∃ (j : Nat) (C : Clk) (D : Dev) (N : List Bool), j ≤ n ∧ iv = .int .i64 j ∧ ClkAt wr g ob C ∧ DevAt wr dg dcb 40 D ∧ Only [] w wr ∧ Base 40 C D ∧ (C.now = 8 ∧ C.phase = 0 ∧ C.owed.length = 4) ∧ Blk wr w2.heap.size 45 (bools N).toArray ∧ N.length = 40) (fun iv _ => n - (intOf iv).toNat)
  case atStart => exact ⟨0, C0, D0, List.replicate 40 false, by omega, rfl, K2.out, D2.out, O2.out, HB0.out, HC1.out, HNB.out, List.length_replicate⟩
  case round =>
    obtain ⟨j, C, D, N, hj, rfl, hk, hd, on, hbase, hfix, hnb, hN⟩ := hrel
    clear K2 D2 O2 HB0 HC1 HNB
    by_cases hlt : j < n
    · have y2 : (j : Int) < (n : Int) := by omega
      have y3 : decide ((j : Int) < (n : Int)) = true := by rw [decide_eq_true_eq]; omega
      obtain ⟨b, off, x, hAe, hx, hbd, hcell0, hbw⟩ := HX.out.at_ hlt
      have hcell := hcell0.only0 on
      have HCE := Lib.hid hcell0
      obtain ⟨kd, t, ln, by_⟩ := x
      obtain ⟨_, _, c2, c3⟩ := hcell
      simp only at c2 c3
      subst hAe
      have hlow := low_lt ln 38 (by omega)
      have HLW := Lib.hid (law0_Low ln 38 wr (by omega) (by omega))
      have HLT := Lib.hid (fun w => law0_Low t 4 w (by omega) (by omega))
      have hlow2 := low_lt t 4 (by omega)
      generalize low ln 38 = q at *
      generalize low t 4 = p at *
      have hw1 : IntKind.i64.wrap (2 + (q : Int)) = ((2 + q : Nat) : Int) := by rw [IntKind.wrap_i64]; omega
      have q5 : ((2 + q : Nat) : Int) < 40 := by omega
      have q6 : (0 : Int) ≤ ((2 + q : Nat) : Int) := by omega
      obtain ⟨y, hy⟩ := u8_of by_
      have KK := Lib.hid hk
      have DD := Lib.hid hd
      have ON := Lib.hid on
      have NB := Lib.hid hnb
      have HNL := Lib.hid hN
      have oa : Only [] wr (wr.alloc (.cells ([y].map B).toArray 5)) := (Only.refl _ _).alloc _
      have hbs := bs_new wr 5 [y]
      have HST := Lib.hid (nvm_Store_any dg dcb 40 D (2 + q : Nat) 5 (some ⟨wr.heap.size, 0, none⟩) 1 1 [y] _ (hd.only0 oa) hbs (by unfold maxLen; omega))
      have HBS := Lib.hid (base_note (t := p) (i := 2 + q) (pos := 5) (l := [y]) hbase hk.ok (by omega) (by omega) (by omega))
      have HFX := Lib.hid (show (noteC C p (2 + q)).now = 8 ∧ (noteC C p (2 + q)).phase = 0 ∧ (noteC C p (2 + q)).owed.length = 4 from ⟨hfix.1, hfix.2.1, by show (C.owed.set p _).length = 4; rw [List.length_set]; exact hfix.2.2⟩)
      have HO1 := Lib.hid hfix.2.2
      have OA := Lib.hid oa
      clear hk hd on hbase hfix hcell0 hbd hx hbw oa hbs hnb hN
      go_wp2_with fail
      refine HLW.out.mono ?_
      rintro e w' ⟨rfl, rfl⟩
      go_wp2_with fail
      refine HST.out.mono ?_
      rintro e w3 ⟨rfl, d3, o3⟩
      have K3 := Lib.hid ((KK.out.only0 OA.out).only o3 (by have := HSEP.out; simp; omega) (by have := HSEP.out; simp; omega))
      have D3 := Lib.hid d3
      have O3 := Lib.hid ((ON.out.trans0 OA.out).trans o3 (by intro b hb; simp at hb; omega))
      have N3 := Lib.hid ((NB.out.only OA.out (by simp)).only o3 (by have := HSEN.out; simp; omega))
      have HNT := Lib.hid (clk_Note g ob C p (2 + q) w3 K3.out (by rw [HO1.out]; omega) (by omega))
      obtain ⟨_, c1, _, _⟩ := HCE.out.only0 O3.out
      simp only at c1
      clear d3 o3 HST HLW c2 c3
      go_wp2_with fail
      refine (HLT.out w3).mono ?_
      rintro e w' ⟨rfl, rfl⟩
      go_wp2_with fail
      refine HNT.out.mono ?_
      rintro e w4 ⟨rfl, k4, o4⟩
      have N4 := Lib.hid (N3.out.only o4 (by have := HSEN.out; simp; omega))
      have cn := noted_cell N4.out (i := 2 + q) (by rw [HNL.out]; omega)
      have fn := N4.out.frozen (2 + q)
      have on5 : Only [w2.heap.size] w4 (w4.setCell ⟨w2.heap.size, 2 + q, none⟩ (.bool true)) := (Only.refl _ _).setCell (.inl (by simp)) _
      have N5 := Lib.hid (noted_set N4.out (2 + q) true)
      have K5 := Lib.hid (IsClk.only k4 on5 (by have := HSEN.out; simp; omega) (by have := HSEN.out; simp; omega))
      have D5 := Lib.hid ((D3.out.only o4 (by have := HSEP.out; simp; omega) (by have := HSEP.out; simp; omega)).only on5 (by have := HSEN.out; simp; omega) (by have := HSEN.out; simp; omega))
      have O5 := Lib.hid ((O3.out.trans o4 (by intro b hb; simp at hb; omega)).trans on5 (by intro b hb; simp at hb; have := HNBW.out; omega))
      clear k4 o4 on5 HLT HNT c1
      go_wp2
      go_roundw
      · exact ⟨j + 1, noteC C p (2 + q), _, N.set (2 + q) true, by omega, by simp, K5.out, D5.out, O5.out, HBS.out, HFX.out, N5.out, by rw [List.length_set]; exact HNL.out⟩
      · simp [intOf]
        omega
    · obtain rfl : j = n := by omega
      have y3 : decide ((j : Int) < (j : Int)) = false := by simp
      have HB := Lib.hid (clk_Begin g ob C wr hk hfix.2.1 (by omega))
      have ON := Lib.hid on
      have DD := Lib.hid hd
      have NB := Lib.hid hnb
      have HNL := Lib.hid hN
      have HW := Lib.hid (work_begin hbase (fun i => N.getD i false = true))
      have HF := Lib.hid (last_begin (v := 8) hbase)
      have HR := Lib.hid (rest_begin hbase)
      have HNW := Lib.hid (show (beginC C).now = 9 by show C.now + 1 = 9; omega)
      clear hk hd on hbase hfix hnb hN
      go_wp2_with fail
      refine HB.out.mono ?_
      rintro e w3 ⟨rfl, k3, o3⟩
      have KK := Lib.hid k3
      have DD3 := Lib.hid (DD.out.only o3 (by have := HSEP.out; simp; omega) (by have := HSEP.out; simp; omega))
      have NB3 := Lib.hid (NB.out.only o3 (by have := HSEN.out; simp; omega))
      have ON3 := Lib.hid (ON.out.trans o3 (by intro b hb; simp at hb; omega))
      clear k3 o3 HB
      generalize beginC C = C3 at *
      go_wp2
      go_loopw [12] (fun kv wr => ∃ (k : Nat) (C : Clk) (D : Dev), k ≤ 44 ∧ kv = .int .i64 k ∧ ClkAt wr g ob C ∧ DevAt wr dg dcb 40 D ∧ Only [] w wr ∧ Work 40 (fun i => N.getD i false = true) C D ∧ Last 8 C D ∧ C.now = 9 ∧ k + rest C ≤ 44 ∧ Blk wr w2.heap.size 45 (bools N).toArray) (fun kv _ => 44 - (intOf kv).toNat)
      case atStart => exact ⟨0, C3, D, by omega, rfl, KK.out, DD3.out, ON3.out, HW.out, HF.out, HNW.out, by have := HR.out; omega, NB3.out⟩
      case round =>
        obtain ⟨k, C, D, hk60, rfl, hk, hd, on, hw, hf, hnow, hr, hnb⟩ := hrel
        clear KK DD3 ON3 HW HF HNW HR DD ON NB NB3
        have HDU := Lib.hid (clk_Durable g ob C wr hk)
        by_cases hph : C.phase = 0
        · have hdu : C.durable = 8 := by have := hk.ok.idle hph; omega
          rw [hdu] at HDU
          have HG := Lib.hid (fun i x (hS : N.getD i false = true) (h2 : 2 ≤ i) (hx : D.lines[i]? = some x) => (hw.good i x hS h2 hx).2.2 (by omega))
          have HLEN := Lib.hid hw.len
          have HK9 := Lib.hid hnow
          have HLST := Lib.hid (show ∃ x, D.lines[1]? = some x ∧ x.kept = clockL 8 by obtain ⟨x, hx, _, _, x0⟩ := hf; exact ⟨x, hx, x0 hph⟩)
          have KK := Lib.hid hk
          have DD := Lib.hid hd
          have NB := Lib.hid hnb
          have ON := Lib.hid on
          clear hk hd on hw hf hnow hr hdu hph hnb
          go_wp2_with fail
          refine (HDU.out).mono ?_
          rintro e w' ⟨rfl, rfl⟩
          clear HDU
          go_wp2
          go_loopw [16] (fun iv wr => ∃ (i : Nat), 2 ≤ i ∧ i ≤ 40 ∧ iv = .int .i64 i ∧ ClkAt wr g ob C ∧ DevAt wr dg dcb 40 D ∧ Only [] w wr ∧ Blk wr w2.heap.size 45 (bools N).toArray) (fun iv _ => 40 - (intOf iv).toNat)
          case atStart => exact ⟨2, by omega, by omega, rfl, KK.out, DD.out, ON.out, NB.out⟩
          case round =>
            obtain ⟨i, hi2, hi40, rfl, hk, hd, on, hnb⟩ := hrel
            clear KK DD ON NB
            by_cases hlt : i < 40
            · have y1 : decide ((i : Int) < 40) = true := by rw [decide_eq_true_eq]; omega
              have y2 : (i : Int) < 40 := by omega
              have y3 : (0 : Int) ≤ (i : Int) := by omega
              obtain ⟨x, hx⟩ : ∃ x, D.lines[i]? = some x := ⟨_, List.getElem?_eq_getElem (by rw [HLEN.out]; exact hlt)⟩
              have hxo := hd.ok x (List.mem_of_getElem? hx)
              have HLD := Lib.hid (nvm_Load dg dcb 40 D i x hx wr hd)
              have HDB := Lib.hid (fun w h => nvm_Durable dg dcb 40 D i x hx w h)
              have HEQ := Lib.hid (fun hS => HG.out i x hS hi2 hx)
              have HX1 := Lib.hid hxo.1
              have HX2 := Lib.hid hxo.2.1
              have KK := Lib.hid hk
              have DD := Lib.hid hd
              have NB := Lib.hid hnb
              have ON := Lib.hid on
              clear hk hd on hnb hxo hx
              go_wp2_with fail
              refine HLD.out.mono ?_
              rintro e w4 ⟨v4, rfl, m4⟩
              obtain ⟨b4, c4, rfl, own4, f4, o4⟩ := madeB_get m4 (by rw [HX1.out]; omega)
              have D4 := Lib.hid (DD.out.only0 o4)
              have B4 := Lib.hid own4.bs
              have O4 := Lib.hid o4
              clear m4 own4 o4 HLD
              go_wp2_with fail
              refine (HDB.out w4 D4.out).mono ?_
              rintro e w5 ⟨v5, rfl, m5⟩
              obtain ⟨b5, c5, rfl, own5, f5, o5⟩ := madeB_get m5 (by rw [HX2.out]; omega)
              have o45 := O4.out.trans0 o5
              have K5 := Lib.hid (KK.out.only0 o45)
              have D5 := Lib.hid (DD.out.only0 o45)
              have N5 := Lib.hid (NB.out.only o45 (by simp))
              have O5 := Lib.hid (ON.out.trans0 o45)
              have B5 := B4.out.only0 o5
              have B6 := own5.bs
              have HSB := Lib.hid (law0_SameBytes _ _ _ _ c4 c5 _ _ w5 B5 B6)
              have cn := noted_cell N5.out (i := i) (by rw [HNL.out]; exact hlt)
              clear m5 own5 o5 o45 HDB B5 B6 B4 D4 O4 KK DD NB ON HX1 HX2
              by_cases hS : N.getD i false = true
              · rw [hS] at cn
                have he : (x.now == x.kept) = true := by rw [HEQ.out hS]; exact beq_self_eq_true _
                rw [he] at HSB
                clear hS he
                generalize x.now.length = n1 at *
                generalize x.kept.length = n2 at *
                go_wp2_with fail
                refine HSB.out.mono ?_
                rintro e w' ⟨rfl, rfl⟩
                go_wp2
                go_roundw
                · exact ⟨i + 1, by omega, by omega, by simp, K5.out, D5.out, O5.out, N5.out⟩
                · simp [intOf]
                  omega
              · have hS2 : N.getD i false = false := by simpa using hS
                rw [hS2] at cn
                clear hS hS2
                generalize x.now.length = n1 at *
                generalize x.kept.length = n2 at *
                go_wp2
                go_roundw
                · exact ⟨i + 1, by omega, by omega, by simp, K5.out, D5.out, O5.out, N5.out⟩
                · simp [intOf]
                  omega
            · have y1 : decide ((i : Int) < 40) = false := by rw [decide_eq_false_iff_not]; omega
              obtain ⟨x, hx, hxk⟩ := HLST.out
              have HDB := Lib.hid (nvm_Durable dg dcb 40 D 1 x hx wr hd)
              rw [hxk] at HDB
              have KK := Lib.hid hk
              have ON := Lib.hid on
              clear hk hd on hnb hx hxk
              go_wp2_with fail
              refine HDB.out.mono ?_
              rintro e w4 ⟨v4, rfl, m4⟩
              obtain ⟨b4, c4, rfl, own4, f4, o4⟩ := madeB_get m4 (by rw [clockL_length]; omega)
              have HIC := Lib.hid (geom_IsClock (c := c4) own4.bs (by rw [clockL_length]; unfold maxLen; omega))
              rw [isClock_clockL 8 (by omega)] at HIC
              have K4 := Lib.hid (KK.out.only0 o4)
              have O4 := Lib.hid (ON.out.trans0 o4)
              clear m4 own4 o4 HDB
              go_wp2_with fail
              refine HIC.out.mono ?_
              rintro e w5 ⟨rfl, o5⟩
              have hno := clk_Now g ob C w5 (K4.out.only0 o5)
              rw [HK9.out] at hno
              have HNO := Lib.hid hno
              have O5 := Lib.hid (O4.out.trans0 o5)
              clear o5 hno
              go_wp2_with fail
              refine (HNO.out).mono ?_
              rintro e w' ⟨rfl, rfl⟩
              go_wp2_with fail
              refine (law9_awake _).mono ?_
              rintro e wz ⟨rfl, oz⟩
              have OZ := Lib.hid (O5.out.trans0 oz)
              clear oz
              go_wp2
              go_ret
              exact ⟨rfl, OZ.out⟩
        · have hdu : C.durable = 7 := by have := hk.ok.busy hph; omega
          rw [hdu] at HDU
          have hrs := rest_step hk.ok hph
          have hr1 : 1 ≤ rest C := by omega
          have hk34 : k < 44 := by omega
          have y1 : decide ((50 : Int) < (k : Int)) = false := by rw [decide_eq_false_iff_not]; omega
          have eE : stepE C = 0 := by unfold stepE; rw [if_neg hph]
          have hcl : C.phase = 2 → C.closing = (8 : Nat) := fun _ => by unfold Clk.closing; rw [if_neg hph]; omega
          have HCL := Lib.hid hcl
          have HNW := Lib.hid (show (stepC C).now = 9 by rw [(stepC_now hk.ok).1]; exact hnow)
          have HR := Lib.hid (show k + 1 + rest (stepC C) ≤ 44 by omega)
          have ON := Lib.hid on
          have KK := Lib.hid hk
          have DD := Lib.hid hd
          have HW := Lib.hid hw
          have HF := Lib.hid hf
          have NB := Lib.hid hnb
          have HEE := Lib.hid eE
          clear hk hd on hw hf hnow hr hdu hph hrs hcl hnb eE
          go_wp2_with fail
          refine (HDU.out).mono ?_
          rintro e w' ⟨rfl, rfl⟩
          clear HDU
          by_cases hkm : k < m
          · have y4 : decide ((k : Int) < (m : Int)) = true := by rw [decide_eq_true_eq]; omega
            have y5 : (k : Int) < (m : Int) := by omega
            obtain ⟨b, off, x, hAe, hx, hbd, hcell0, hbw⟩ := HX'.out.at_ hkm
            have hcell := hcell0.only0 ON.out
            obtain ⟨kd, t, ln, by_⟩ := x
            obtain ⟨_, _, c2, c3⟩ := hcell
            simp only at c2 c3
            subst hAe
            have hlow := low_lt ln 38 (by omega)
            have HLW := Lib.hid (law0_Low ln 38 wr (by omega) (by omega))
            generalize low ln 38 = q at *
            have hw1 : IntKind.i64.wrap (2 + (q : Int)) = ((2 + q : Nat) : Int) := by rw [IntKind.wrap_i64]; omega
            have q5 : ((2 + q : Nat) : Int) < 40 := by omega
            have q6 : (0 : Int) ≤ ((2 + q : Nat) : Int) := by omega
            have cn := noted_cell NB.out (i := 2 + q) (by rw [HNL.out]; omega)
            clear hcell0 hbd hx hbw
            by_cases hnt : N.getD (2 + q) false = true
            · rw [hnt] at cn
              clear c3
              go_wp2_with fail
              refine HLW.out.mono ?_
              rintro e w' ⟨rfl, rfl⟩
              go_wp2_with fail
              obtain ⟨D5', hD5⟩ : ∃ D5', D5' = D := ⟨_, rfl⟩
              subst hD5
              obtain ⟨w5, hw5⟩ : ∃ w5, w5 = wr := ⟨_, rfl⟩
              subst hw5
              have HW5 := HW
              have HF5 := HF
              have K5 := KK
              have D5 := DD
              have O5 := ON
              have N5 := NB
              clear HW HF KK DD ON NB
              have hs := clk_Step g ob dg dcb 40 C D5' w5 K5.out D5.out HSEP.out
              rw [HEE.out] at hs
              have HS := Lib.hid hs
              have HW6 := Lib.hid (work_step HW5.out K5.out.ok)
              have HF6 := Lib.hid (last_step HF5.out K5.out.ok D5.out.ok HCL.out)
              clear hs HW5 HF5
              go_wp2_with fail
              refine HS.out.mono ?_
              rintro e w6 ⟨rfl, k6, d6, o6⟩
              have K6 := Lib.hid k6
              have D6 := Lib.hid d6
              have N6 := Lib.hid (N5.out.only o6 (by have := HSEN.out; simp; omega))
              have O6 := Lib.hid (O5.out.trans o6 (by intro b hb; simp at hb; omega))
              clear k6 d6 o6 HS
              generalize stepC C = C6 at *
              generalize stepD C D5' = D6' at *
              go_wp2
              go_roundw
              · exact ⟨k + 1, C6, D6', by omega, by simp, K6.out, D6.out, O6.out, HW6.out, HF6.out, HNW.out, HR.out, N6.out⟩
              · simp [intOf]
                omega
            · have hnt2 : N.getD (2 + q) false = false := by simpa using hnt
              rw [hnt2] at cn
              obtain ⟨y, hy⟩ := u8_of by_
              have oa : Only [] wr (wr.alloc (.cells ([y].map B).toArray 5)) := (Only.refl _ _).alloc _
              have hbs := bs_new wr 5 [y]
              have HST := Lib.hid (nvm_Store_any dg dcb 40 D (2 + q : Nat) 5 (some ⟨wr.heap.size, 0, none⟩) 1 1 [y] _ (DD.out.only0 oa) hbs (by unfold maxLen; omega))
              have HW5 := Lib.hid (work_store HW.out (k := 2 + q) (pos := 5) (l := [y]) hnt)
              have HF5 := Lib.hid (last_store HF.out (k := 2 + q) (pos := 5) (l := [y]) (by omega))
              have OA := Lib.hid oa
              clear oa hbs hnt hnt2
              go_wp2_with fail
              refine HLW.out.mono ?_
              rintro e w' ⟨rfl, rfl⟩
              go_wp2_with fail
              refine HST.out.mono ?_
              rintro e w5 ⟨rfl, d5, o5⟩
              have K5 := Lib.hid ((KK.out.only0 OA.out).only o5 (by have := HSEP.out; simp; omega) (by have := HSEP.out; simp; omega))
              have D5 := Lib.hid d5
              have O5 := Lib.hid ((ON.out.trans0 OA.out).trans o5 (by intro b hb; simp at hb; omega))
              have N5 := Lib.hid ((NB.out.only OA.out (by simp)).only o5 (by have := HSEN.out; simp; omega))
              clear d5 o5 HST HLW c2 c3 HW HF KK DD ON NB OA cn
              have HW5 := Lib.hid HW5.out
              have e5 : ((5 : Nat) : Int) = 5 := rfl
              rw [e5] at HW5 HF5
              clear e5
              obtain ⟨D5', hD5⟩ : ∃ D5', D5' = store1 D ((2 + q : Nat) : Int) 5 [y] := ⟨_, rfl⟩
              rw [← hD5] at D5 HW5 HF5
              clear hD5
              have hs := clk_Step g ob dg dcb 40 C D5' w5 K5.out D5.out HSEP.out
              rw [HEE.out] at hs
              have HS := Lib.hid hs
              have HW6 := Lib.hid (work_step HW5.out K5.out.ok)
              have HF6 := Lib.hid (last_step HF5.out K5.out.ok D5.out.ok HCL.out)
              clear hs HW5 HF5
              go_wp2_with fail
              refine HS.out.mono ?_
              rintro e w6 ⟨rfl, k6, d6, o6⟩
              have K6 := Lib.hid k6
              have D6 := Lib.hid d6
              have N6 := Lib.hid (N5.out.only o6 (by have := HSEN.out; simp; omega))
              have O6 := Lib.hid (O5.out.trans o6 (by intro b hb; simp at hb; omega))
              clear k6 d6 o6 HS
              generalize stepC C = C6 at *
              generalize stepD C D5' = D6' at *
              go_wp2
              go_roundw
              · exact ⟨k + 1, C6, D6', by omega, by simp, K6.out, D6.out, O6.out, HW6.out, HF6.out, HNW.out, HR.out, N6.out⟩
              · simp [intOf]
                omega
          · have y4 : decide ((k : Int) < (m : Int)) = false := by rw [decide_eq_false_iff_not]; omega
            go_wp2_with fail
            obtain ⟨D5', hD5⟩ : ∃ D5', D5' = D := ⟨_, rfl⟩
            subst hD5
            obtain ⟨w5, hw5⟩ : ∃ w5, w5 = wr := ⟨_, rfl⟩
            subst hw5
            have HW5 := HW
            have HF5 := HF
            have K5 := KK
            have D5 := DD
            have O5 := ON
            have N5 := NB
            clear HW HF KK DD ON NB
            have hs := clk_Step g ob dg dcb 40 C D5' w5 K5.out D5.out HSEP.out
            rw [HEE.out] at hs
            have HS := Lib.hid hs
            have HW6 := Lib.hid (work_step HW5.out K5.out.ok)
            have HF6 := Lib.hid (last_step HF5.out K5.out.ok D5.out.ok HCL.out)
            clear hs HW5 HF5
            go_wp2_with fail
            refine HS.out.mono ?_
            rintro e w6 ⟨rfl, k6, d6, o6⟩
            have K6 := Lib.hid k6
            have D6 := Lib.hid d6
            have N6 := Lib.hid (N5.out.only o6 (by have := HSEN.out; simp; omega))
            have O6 := Lib.hid (O5.out.trans o6 (by intro b hb; simp at hb; omega))
            clear k6 d6 o6 HS
            generalize stepC C = C6 at *
            generalize stepD C D5' = D6' at *
            go_wp2
            go_roundw
            · exact ⟨k + 1, C6, D6', by omega, by simp, K6.out, D6.out, O6.out, HW6.out, HF6.out, HNW.out, HR.out, N6.out⟩
            · simp [intOf]
              omega
end Go.Proofs.Ytecdalmnndalgaa
