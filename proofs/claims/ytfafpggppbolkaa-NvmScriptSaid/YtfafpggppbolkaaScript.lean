/- The walk of the statement NvmScript. -/
import Derived.Test.YtfafpggppbolkaaAlike
set_option maxRecDepth 100000
namespace Go.Proofs.Ytfafpggppbolkaa
open Go.RowKit Go.Proofs.FuMem Go.Proofs.FuNvm Go.Proofs.FuCode
set_option maxHeartbeats 16000000 in
theorem walk_NvmScript (lines : Int) (A : Option Addr) (n c : Nat) (xs : List (Deed × Holds)) (w : World) (_hl : -9223372036854775808 ≤ lines ∧ lines ≤ 9223372036854775807) (h : Deeds w A n xs) (_hc : n ≤ c) :
    Calls Try.prog 12 #[.int .i64 lines, .slice A n c] w fun e w' => e = .returned (.bool true) ∧ Only [] w w' := by
  have HL := Lib.hid (law3_large A n c xs w h)
  by_cases hlg : isLarge xs = true
  · rw [hlg] at HL
    clear h
    go_enter Try.func12, Try.ntmps12
    go_wp2_with fail
    refine (HL.out).mono ?_
    rintro e w' ⟨rfl, rfl⟩
    go_wp2_with fail
    refine (law3_awake _).mono ?_
    rintro e w1 ⟨rfl, o1⟩
    have O1 := Lib.hid o1
    clear o1
    go_wp2
    go_ret
    exact ⟨rfl, O1.out⟩
  have hf : isLarge xs = false := by simpa using hlg
  rw [hf] at HL
  obtain ⟨_, hsm⟩ := large_no hf
  by_cases h1 : lines < 1 ∨ 258 < lines
  · have HN1 := Lib.hid (fun w => nvm_New_no lines w h1)
    have HN2 := Lib.hid (fun w => ref3_New_no lines w h1)
    have hcase : decide (12 < lines) = false ∨ (decide (12 < lines) = true ∧ decide (lines ≤ 258) = false) := by
      rw [decide_eq_false_iff_not, decide_eq_true_eq, decide_eq_false_iff_not]
      omega
    clear h hlg hf hsm h1
    rcases hcase with q1 | ⟨q1, q2⟩
    all_goals
      go_enter Try.func12, Try.ntmps12
      go_wp2_with fail
      refine (HL.out).mono ?_
      rintro e w' ⟨rfl, rfl⟩
      go_wp2_with fail
      refine (HN1.out _).mono ?_
      rintro e w1 ⟨rfl, rfl⟩
      go_wp2_with fail
      refine (HN2.out _).mono ?_
      rintro e w1 ⟨rfl, rfl⟩
      go_wp2_with fail
      refine (law0_Num _ _).mono ?_
      rintro e w' ⟨rfl, rfl⟩
      go_wp2_with fail
      refine (law3_awake _).mono ?_
      rintro e w1 ⟨rfl, o1⟩
      have O1 := Lib.hid o1
      clear o1
      go_wp2
      go_ret
      exact ⟨rfl, O1.out⟩
  by_cases h2 : 12 < lines
  · have q1 : decide (12 < lines) = true := by simpa using h2
    have q2 : decide (lines ≤ 258) = true := by rw [decide_eq_true_eq]; omega
    clear h hlg hf hsm h1 h2
    go_enter Try.func12, Try.ntmps12
    go_wp2_with fail
    refine (HL.out).mono ?_
    rintro e w' ⟨rfl, rfl⟩
    go_wp2_with fail
    refine (law3_awake _).mono ?_
    rintro e w1 ⟨rfl, o1⟩
    have O1 := Lib.hid o1
    clear o1
    go_wp2
    go_ret
    exact ⟨rfl, O1.out⟩
  have q1 : decide (12 < lines) = false := by simpa using h2
  obtain ⟨m, rfl⟩ := Int.eq_ofNat_of_zero_le (show 0 ≤ lines by omega)
  have hm1 : 1 ≤ m := by omega
  have hm2 : m ≤ 258 := by omega
  obtain ⟨hl, hm, hok, hr⟩ := h
  unfold maxLen at hm
  have HOK := Lib.hid hok
  have HR := Lib.hid hr
  have HLN := Lib.hid hl
  have HSM := Lib.hid hsm
  clear hlg hf hsm hok hr hl h1 h2
  go_enter Try.func12, Try.ntmps12
  go_wp2_with fail
  refine (HL.out).mono ?_
  rintro e w' ⟨rfl, rfl⟩
  go_wp2_with fail
  refine (nvm_New m _ hm1 hm2).mono ?_
  rintro e w1 ⟨g0, cb0, rfl, d1, o1, f1, f2⟩
  have hg1 := d1.lt1
  have hc1 := d1.lt2
  have D1 := Lib.hid d1
  have O1 := Lib.hid o1
  clear d1 o1
  go_wp2_with fail
  refine (ref3_New m _ hm1 hm2).mono ?_
  rintro e w2 ⟨rg, rb, rfl, r2, o2, f3, f4⟩
  have D2 := Lib.hid (D1.out.only0 o2)
  obtain ⟨rcap, r2'⟩ : ∃ rcap, RefAt w2 rg rb rcap (newDev m) := ⟨m, r2⟩
  have R2 := Lib.hid r2'
  have O2 := Lib.hid (O1.out.trans0 o2)
  have hs1 := O1.out.size
  clear r2 r2' o2
  go_wp2_with fail
  refine (law0_Num _ _).mono ?_
  rintro e w' ⟨rfl, rfl⟩
  go_wp2
  generalize newDev m = F0 at *
  go_loopw [5, 9] (fun v i wr => ∃ (j : Nat) (F : Dev) (g cb cap : Nat), j ≤ n ∧ v = .pointer (some ⟨g, 0, none⟩) ∧ i = .int .i64 j ∧ DevAt wr g cb cap F ∧ RefAt wr rg rb rcap F ∧ (g ≠ rg ∧ g ≠ rb) ∧ (cb ≠ rg ∧ cb ≠ rb) ∧ w.heap.size ≤ g ∧ w.heap.size ≤ cb ∧ Only [] w wr) (fun _ i _ => n - (intOf i).toNat)
  case atStart => exact ⟨0, F0, g0, cb0, m, Nat.zero_le _, rfl, rfl, D2.out, R2.out, by omega, by omega, f1, f2, O2.out⟩
  case round =>
    obtain ⟨j, F, g, cb, cap, hj, rfl, rfl, hd, hr, hn1, hn2, hg, hcb, on⟩ := hrel
    have hr1 := hr.lt1
    have hr2 := hr.lt2
    have hsw := on.size
    by_cases hlt : j < n
    · rcases HR.out with h0 | ⟨b, off, rfl, hrng⟩
      · omega
      have hxk : xs[j]? = some (xs[j]'(by rw [HLN.out]; exact hlt)) := List.getElem?_eq_getElem _
      have hmem : xs[j]'(by rw [HLN.out]; exact hlt) ∈ xs := List.getElem_mem _
      have hrg := hrng j _ hxk
      have hok := HOK.out _ hmem
      have hsb := (HSM.out _ hmem).1
      have hsk := (HSM.out _ hmem).2
      clear hrng hmem hxk
      generalize xs[j]'(by rw [HLN.out]; exact hlt) = y at *
      obtain ⟨y, s⟩ := y
      simp only at hok hsb hsk hrg
      have hrw : wr.rangeAt b (off + j * 5) (deedV y s) := fun j v hv => by
        have hc := hrg j v hv
        rw [cell_only on (lt_of_cell hc) (by simp)]
        exact hc
      have e0 : wr.cell? ⟨b, off + j * 5, none⟩ = some (.int .i64 y.kind) := hrw 0 _ rfl
      have HOKY := Lib.hid hok
      have HRG := Lib.hid hrg
      have DR := Lib.hid hd
      have RR := Lib.hid hr
      have ON := Lib.hid on
      clear hok hrg hd hr on
      by_cases hk5 : y.kind = 5
      · have q5 : (y.kind == 5) = true := by simpa using hk5
        clear hk5 hrw
        go_wp2_with fail
        refine (nvm_Copy g cb cap F _ DR.out).mono ?_
        rintro e w5 ⟨g2, cb2, cap2, rfl, d5, o5, f5, f6⟩
        have D5 := Lib.hid d5
        have R5 := Lib.hid (RR.out.only0 o5)
        have O5 := Lib.hid (ON.out.trans0 o5)
        have hrw5 : w5.rangeAt b (off + j * 5) (deedV y s) := fun j v hv => by
          have hc := HRG.out j v hv
          rw [cell_only O5.out (lt_of_cell hc) (by simp)]
          exact hc
        clear d5 o5 e0
        go_wp2_with ((with_reducible show wpList _ _ _ (Oper.mk (some 66) _ _ _ _ _ :: _) _ _); refine wpList_load_mid rfl 36 (.tmp 65) rfl b (off + j * 5) rfl (deedV y s) _ hrw5 Try.underlying36 rfl (by kernel_rfl) ?_)
        refine (law3_done g2 cb2 cap2 rg rb rcap F y s w _ HOKY.out O5.out (by omega) (by omega) (by omega) (by omega) D5.out R5.out (by omega) (by omega) (by omega) (by omega)).mono ?_
        rintro e w6 ⟨rfl, d6, r6, o6⟩
        have D6 := Lib.hid d6
        have R6 := Lib.hid r6
        have O6 := Lib.hid (O5.out.trans o6 (by intro b hb; simp at hb; omega))
        clear d6 r6 o6
        go_wp2_with fail
        refine (law3_alike g2 cb2 cap2 rg rb rcap _ w6 D6.out R6.out).mono ?_
        rintro e w7 ⟨rfl, o7⟩
        have D7 := Lib.hid (D6.out.only0 o7)
        have R7 := Lib.hid (R6.out.only0 o7)
        have O7 := Lib.hid (O6.out.trans0 o7)
        clear o7
        go_wp2
        go_roundw
        case rel => exact ⟨j + 1, _, g2, cb2, cap2, by omega, rfl, by go_num, D7.out, R7.out, by omega, by omega, by omega, by omega, O7.out⟩
        case measure => simp [intOf]; omega
      · have q5 : (y.kind == 5) = false := by simpa using hk5
        clear hk5
        go_wp2_with ((with_reducible show wpList _ _ _ (Oper.mk (some 66) _ _ _ _ _ :: _) _ _); refine wpList_load_mid rfl 36 (.tmp 65) rfl b (off + j * 5) rfl (deedV y s) _ hrw Try.underlying36 rfl (by kernel_rfl) ?_)
        refine (law3_done g cb cap rg rb rcap F y s w _ HOKY.out ON.out (by omega) (by omega) (by omega) (by omega) DR.out RR.out (by omega) (by omega) (by omega) (by omega)).mono ?_
        rintro e w6 ⟨rfl, d6, r6, o6⟩
        have D6 := Lib.hid d6
        have R6 := Lib.hid r6
        have O6 := Lib.hid (ON.out.trans o6 (by intro b hb; simp at hb; omega))
        clear d6 r6 o6
        go_wp2_with fail
        refine (law3_alike g cb cap rg rb rcap _ w6 D6.out R6.out).mono ?_
        rintro e w7 ⟨rfl, o7⟩
        have D7 := Lib.hid (D6.out.only0 o7)
        have R7 := Lib.hid (R6.out.only0 o7)
        have O7 := Lib.hid (O6.out.trans0 o7)
        clear o7
        go_wp2
        go_roundw
        case rel => exact ⟨j + 1, _, g, cb, cap, by omega, rfl, by go_num, D7.out, R7.out, by omega, by omega, by omega, by omega, O7.out⟩
        case measure => simp [intOf]; omega
    · obtain rfl : j = n := by omega
      have ON := Lib.hid on
      go_wp2_with fail
      refine (law3_alike g cb cap rg rb rcap _ _ hd hr).mono ?_
      rintro e w7 ⟨rfl, o7⟩
      have O7 := Lib.hid (ON.out.trans0 o7)
      clear o7 hd hr on
      go_wp2_with fail
      refine (law3_awake _).mono ?_
      rintro e w8 ⟨rfl, o8⟩
      have O8 := Lib.hid (O7.out.trans0 o8)
      clear o8
      go_wp2
      go_ret
      exact ⟨rfl, O8.out⟩
end Go.Proofs.Ytfafpggppbolkaa
