/- Law 7: alike. -/
import Derived.Test.YtpenmnngjfncgaaPoolY
import Derived.Deep.RegionHeld3
namespace Go.Proofs.Ytpenmnngjfncgaa
open Go.RowKit Go.Proofs.FuMem Go.Proofs.FuClass Go.Proofs.FuPool
set_option maxRecDepth 100000
set_option maxHeartbeats 2000000 in
theorem law7_alike (g sb : Nat) (P : Pool) (X : List Nat) (rg : Nat) (w : World) (h : PoolAt w g sb P) (hr : RefAt w X rg P.length (takenOf P)) (hP : Ok P) (h32 : P.length ≤ 32) :
    Calls Try.prog 33 #[.pointer (some ⟨g, 0, none⟩), .pointer (some ⟨rg, 0, none⟩)] w fun e w' => e = .returned (.bool true) ∧ Only [] w w' := by
  have HTA := Lib.hid (fun w' (on : Only [] w w') => pool_Taken g sb P w' (h.only0 on) hP)
  have HSA := Lib.hid (fun w' (on : Only [] w w') => pool_Slabs g sb P w' (h.only0 on))
  have HFA := Lib.hid (fun c w' (on : Only [] w w') hc => pool_Free g sb P c w' (h.only0 on) hP hc)
  have HRO := Lib.hid (fun c w' (on : Only [] w w') hc => pool_Room g sb P c w' (h.only0 on) hc)
  have HRS := Lib.hid (fun w' (on : Only [] w w') => ref7_Slabs X rg P w' (hr.only0 on) hP h32)
  have HRF := Lib.hid (fun c w' (on : Only [] w w') hc => ref7_Free X rg P c w' (hr.only0 on) hP h32 hc)
  have HRR := Lib.hid (fun c w' (on : Only [] w w') => ref7_Room X rg P c w' (hr.only0 on) hP h32)
  have hln : (takenOf P).length ≤ 256 := by have := blocksTo_length P P.length; unfold takenOf; omega
  have hsl : (slabsOf P).length ≤ 32 := by simp [slabsOf]; omega
  have HFL := Lib.hid (fun c => (show (freeOf P c).length ≤ 256 by have := freeTo_length P c P.length; unfold freeOf; omega))
  have HFO := Lib.hid (fun c (hm : many c = 0) => free_out (P := P) hm)
  obtain ⟨_, A, n, cc, hb, ht, _⟩ := hr
  obtain rfl : (takenOf P).length = n := ht.1
  have HX1 := Lib.hid (fun w' (on : Only [] w w') => (show w'.cell? ⟨rg, 1, none⟩ = some (.slice A (takenOf P).length cc) from (hb.only on (by simp)).cell 1))
  have HTS := Lib.hid (fun w' (on : Only [] w w') => ht.only0 on)
  clear h hb ht hP
  generalize takenOf P = l at *
  generalize slabsOf P = S at *
  go_enter Try.func33, Try.ntmps33
  go_wp2_with fail
  refine (HTA.out w (Only.refl _ _)).mono ?_
  rintro e w1 ⟨v1, rfl, A1, c1, rfl, b1, o1⟩
  have B1 := Lib.hid b1
  have O1 := Lib.hid o1
  clear b1 o1
  go_wp2_with fail
  refine (HSA.out w1 O1.out).mono ?_
  rintro e w2 ⟨v2, rfl, A2, c2, rfl, b2, o2⟩
  have B2 := Lib.hid b2
  have B12 := Lib.hid (own_only B1.out o2 (by simp))
  have O2 := Lib.hid (O1.out.trans0 o2)
  have hA2 : ∀ k, (Value.slice A2 S.length c2).ownBlock = some k → w1.heap.size ≤ k := fun k hk => (B2.out.lt k hk).1
  have HA2 := Lib.hid hA2
  have HA1 := Lib.hid (show ∀ k, (Value.slice A1 l.length c1).ownBlock = some k → w.heap.size ≤ k ∧ k < w1.heap.size from fun k hk => B1.out.lt k hk)
  have x1 := HX1.out w2 O2.out
  have HST := Lib.hid (law0_SameTaken A1 A l.length c1 cc l w2 (ts_own B12.out rfl) (HTS.out w2 O2.out) (by omega))
  clear b2 o2 hA2
  go_wp2_with fail
  refine HST.out.mono ?_
  rintro e w3 ⟨rfl, o3⟩
  have B13 := Lib.hid (own_only B12.out o3 (by simp))
  have B23 := Lib.hid (own_only B2.out o3 (by simp))
  have O3 := Lib.hid (O2.out.trans0 o3)
  clear o3 x1
  go_wp2_with fail
  refine (HRS.out w3 O3.out).mono ?_
  rintro e w4 ⟨v4, rfl, A4, c4, rfl, b4, o4⟩
  have B14 := Lib.hid (own_only B13.out o4 (by simp))
  have B24 := Lib.hid (own_only B23.out o4 (by simp))
  have O4 := Lib.hid (O3.out.trans0 o4)
  have HSI := Lib.hid (law0_SameInts A2 A4 S.length S.length c2 c4 S S w4 (is_own B24.out) (is_own b4) (by omega) (by omega))
  rw [show (S == S) = true by simp] at HSI
  clear b4 o4
  go_wp2_with fail
  refine HSI.out.mono ?_
  rintro e w5 ⟨rfl, o5⟩
  have B15 := Lib.hid (own_only B14.out o5 (by simp))
  have B25 := Lib.hid (own_only B24.out o5 (by simp))
  have O5 := Lib.hid (O4.out.trans0 o5)
  clear o5
  have HOT := Lib.hid (law0_OverTaken ((Value.slice A1 l.length c1).ownBlock.toList) w.heap.size A1 l.length c1 (tcells l) w5 B15.out O5.out.size (fun k hk => by rw [hk]; simp) (by omega))
  go_wp2_with fail
  refine HOT.out.mono ?_
  rintro e w6 ⟨rfl, o6⟩
  have hS1 : ∀ b ∈ (Value.slice A1 l.length c1).ownBlock.toList, w.heap.size ≤ b ∧ b < w1.heap.size := fun b hb => HA1.out b (by simpa using hb)
  have B26 := Lib.hid (own_only B25.out o6 (fun k hk hm => by have h1 := HA2.out k hk; have h2 := hS1 k hm; omega))
  have O6 := Lib.hid (O5.out.trans o6 (fun b hb => .inr (hS1 b hb).1))
  clear o6 hS1
  have HOI := Lib.hid (law0_OverInts (w0 := w) A2 S.length c2 S w6 (World.ownsRow.mono B26.out O1.out.size) O6.out (by omega))
  go_wp2_with fail
  refine HOI.out.mono ?_
  rintro e w7 ⟨rfl, o7⟩
  have O7 := Lib.hid o7
  clear o7
  go_wp2
  go_loopw [7] (fun iv wr => ∃ c : Int, -1 ≤ c ∧ c ≤ 5 ∧ iv = .int .i64 c ∧ Only [] w wr) (fun iv _ => (5 - intOf iv).toNat)
  case atStart => exact ⟨-1, by omega, by omega, rfl, O7.out⟩
  case round =>
    obtain ⟨c, hc1, hc2, rfl, on⟩ := hrel
    have ON := Lib.hid on
    clear on
    by_cases hc4 : c ≤ 4
    · have y1 : decide (c ≤ 4) = true := by rw [decide_eq_true_eq]; exact hc4
      have hfl := HFL.out c
      have HFc := Lib.hid (HFA.out c wr ON.out (by omega))
      have HRFc := Lib.hid (fun w' on hin => HRF.out c w' on hin)
      have HROc := Lib.hid (fun w' on => HRO.out c w' on (by omega))
      have HRRc := Lib.hid (fun w' on => HRR.out c w' on)
      have hfo : ¬ (0 ≤ c ∧ c ≤ 3) → freeOf P c = [] := fun hn => HFO.out c (by have := many_cases c; omega)
      have HFOc := Lib.hid hfo
      generalize roomOf P c = r at *
      generalize freeOf P c = f at *
      have hrr : (r != r) = false := by simp
      clear hfo
      go_wp2_with fail
      refine HFc.out.mono ?_
      rintro e wa ⟨va, rfl, Aa, ca, rfl, ba, oa⟩
      have BA := Lib.hid ba
      have OA := Lib.hid (ON.out.trans0 oa)
      clear ba oa
      by_cases hin : 0 ≤ c ∧ c ≤ 3
      · have y2 : decide (0 ≤ c) = true := by rw [decide_eq_true_eq]; omega
        have y3 : decide (c < 4) = true := by rw [decide_eq_true_eq]; omega
        go_wp2_with fail
        refine (HRFc.out wa OA.out hin).mono ?_
        rintro e wb ⟨vb, rfl, Ab, cb, rfl, bb, ob⟩
        have BB := Lib.hid (own_only BA.out ob (by simp))
        have OB := Lib.hid (OA.out.trans0 ob)
        have HSI := Lib.hid (law0_SameInts Aa Ab f.length f.length ca cb f f wb (is_own BB.out) (is_own bb) (by omega) (by omega))
        rw [show (f == f) = true by simp] at HSI
        clear bb ob
        go_wp2_with fail
        refine HSI.out.mono ?_
        rintro e wc ⟨rfl, oc⟩
        have BC := Lib.hid (own_only BB.out oc (by simp))
        have OC := Lib.hid (OB.out.trans0 oc)
        clear oc
        go_wp2_with fail
        refine (HROc.out wc OC.out).mono ?_
        rintro e w' ⟨rfl, rfl⟩
        go_wp2_with fail
        refine (HRRc.out wc OC.out).mono ?_
        rintro e wd ⟨rfl, od⟩
        have BD := Lib.hid (own_only BC.out od (by simp))
        have OD := Lib.hid (OC.out.trans0 od)
        clear od
        have HOV := Lib.hid (law0_OverInts (w0 := w) Aa f.length ca f wd (World.ownsRow.mono BD.out ON.out.size) OD.out (by omega))
        go_wp2_with fail
        refine HOV.out.mono ?_
        rintro e we ⟨rfl, oe⟩
        have OE := Lib.hid oe
        clear oe
        go_wp2
        go_roundw
        · exact ⟨c + 1, by omega, by omega, by simp, OE.out⟩
        · simp [intOf]
          omega
      · have hfn := HFOc.out hin
        subst hfn
        have BB := BA
        have OB := OA
        have HSI := Lib.hid (law0_SameInts Aa none ([] : List Int).length 0 ca 0 [] [] wa (is_own BA.out) (Is.nil _ _) (by simp) (by omega))
        rw [show (([] : List Int) == []) = true by simp] at HSI
        simp only [List.length_nil] at HSI BB BA
        by_cases hneg : c < 0
        · have y2 : decide (0 ≤ c) = false := by rw [decide_eq_false_iff_not]; omega
          go_wp2_with fail
          refine HSI.out.mono ?_
          rintro e wc ⟨rfl, oc⟩
          have BC := Lib.hid (own_only BB.out oc (by simp))
          have OC := Lib.hid (OB.out.trans0 oc)
          clear oc
          go_wp2_with fail
          refine (HROc.out wc OC.out).mono ?_
          rintro e w' ⟨rfl, rfl⟩
          go_wp2_with fail
          refine (HRRc.out wc OC.out).mono ?_
          rintro e wd ⟨rfl, od⟩
          have BD := Lib.hid (own_only BC.out od (by simp))
          have OD := Lib.hid (OC.out.trans0 od)
          clear od
          have HOV := Lib.hid (law0_OverInts (w0 := w) Aa 0 ca [] wd (World.ownsRow.mono BD.out ON.out.size) OD.out (by omega))
          go_wp2_with fail
          refine HOV.out.mono ?_
          rintro e we ⟨rfl, oe⟩
          have OE := Lib.hid oe
          clear oe
          go_wp2
          go_roundw
          · exact ⟨c + 1, by omega, by omega, by simp, OE.out⟩
          · simp [intOf]
            omega
        · have y2 : decide (0 ≤ c) = true := by rw [decide_eq_true_eq]; omega
          have y3 : decide (c < 4) = false := by rw [decide_eq_false_iff_not]; omega
          go_wp2_with fail
          refine HSI.out.mono ?_
          rintro e wc ⟨rfl, oc⟩
          have BC := Lib.hid (own_only BB.out oc (by simp))
          have OC := Lib.hid (OB.out.trans0 oc)
          clear oc
          go_wp2_with fail
          refine (HROc.out wc OC.out).mono ?_
          rintro e w' ⟨rfl, rfl⟩
          go_wp2_with fail
          refine (HRRc.out wc OC.out).mono ?_
          rintro e wd ⟨rfl, od⟩
          have BD := Lib.hid (own_only BC.out od (by simp))
          have OD := Lib.hid (OC.out.trans0 od)
          clear od
          have HOV := Lib.hid (law0_OverInts (w0 := w) Aa 0 ca [] wd (World.ownsRow.mono BD.out ON.out.size) OD.out (by omega))
          go_wp2_with fail
          refine HOV.out.mono ?_
          rintro e we ⟨rfl, oe⟩
          have OE := Lib.hid oe
          clear oe
          go_wp2
          go_roundw
          · exact ⟨c + 1, by omega, by omega, by simp, OE.out⟩
          · simp [intOf]
            omega
    · have y1 : decide (c ≤ 4) = false := by rw [decide_eq_false_iff_not]; exact hc4
      have x1 := HX1.out wr ON.out
      go_wp2
      go_region_held3 (fun w' => w'.cell? ⟨rg, 1, none⟩ = some (.slice A l.length cc)) (go_keep) (first | (go_at_call 21; refine (law0_SameTaken At A l.length ct cc l wt (ts_own BT.out rfl) (HTS.out wt OT.out) (by omega)).mono ?_; rintro e wu ⟨rfl, ou⟩; have OU := Lib.hid (OT.out.trans0 ou); have xu := HX1.out wu OU.out; clear ou) | (go_at_call 13; refine (HTA.out _ ON.out.drew).mono ?_; rintro e wt ⟨vt, rfl, At, ct, rfl, bt, ot⟩; have BT := Lib.hid bt; have OT := Lib.hid (ON.out.drew.trans0 ot); have xt := HX1.out wt OT.out; clear bt ot))
      all_goals
        go_wp2
        go_ret
        exact ⟨rfl, OU.out⟩
end Go.Proofs.Ytpenmnngjfncgaa
