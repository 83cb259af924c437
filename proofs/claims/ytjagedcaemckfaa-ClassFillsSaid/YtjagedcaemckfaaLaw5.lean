/- The walks of the statements on class. -/
import Derived.Test.YtjagedcaemckfaaClassB
namespace Go.Proofs.Ytjagedcaemckfaa
open Go.RowKit Go.Proofs.FuMem Go.Proofs.FuClass

theorem law5_awake (w : World) : Calls Try.prog 48 #[] w fun e w' => e = .returned (.bool true) ∧ Only [] w w' := by
  have h1 := class_Span 3 w (by omega)
  have h2 := class_Cap 3 w (by omega)
  have h3 := class_Need 29 w (by omega)
  have h4 := class_Home 4 1 w (by omega)
  rw [show span 3 = 8 by decide] at h1
  rw [show capOf 3 = 469 by decide] at h2
  rw [show need 29 = 1 by decide] at h3
  rw [show home 4 1 = true by decide] at h4
  have H1 := Lib.hid h1
  have H2 := Lib.hid h2
  have H3 := Lib.hid h3
  have H4 := Lib.hid h4
  clear h1 h2 h3 h4
  go_enter Try.func48, Try.ntmps48
  go_wp2_with fail
  refine (H1.out).mono ?_
  rintro e w' ⟨rfl, rfl⟩
  go_wp2_with fail
  refine (H2.out).mono ?_
  rintro e w' ⟨rfl, rfl⟩
  go_wp2_with fail
  refine (H3.out).mono ?_
  rintro e w' ⟨rfl, rfl⟩
  go_wp2_with fail
  refine (H4.out).mono ?_
  rintro e w' ⟨rfl, on⟩
  have HN := Lib.hid on
  clear on
  go_wp2
  go_ret
  exact ⟨rfl, HN.out⟩
theorem walk_ClassTells (c n : Int) (w : World) (h : -9223372036854775808 ≤ c ∧ c ≤ 9223372036854775807) (hn : -9223372036854775808 ≤ n ∧ n ≤ 9223372036854775807) :
    Calls Try.prog 14 #[.int .i64 c, .int .i64 n] w fun e w' => e = .returned (.bool true) ∧ Only [] w w' := by
  have h1 := Lib.hid (class_Span c w h)
  have h1' := Lib.hid (ref5_Span c w)
  have h2 := Lib.hid (class_Cap c w h)
  have h2' := Lib.hid (ref5_Cap c w)
  have h3 := Lib.hid (class_Need n w hn)
  have h3' := Lib.hid (ref5_Need n w hn)
  generalize span c = s at *
  generalize capOf c = d at *
  generalize need n = x at *
  go_enter Try.func14, Try.ntmps14
  go_wp2_with fail
  refine (h1.out).mono ?_
  rintro e w' ⟨rfl, rfl⟩
  go_wp2_with fail
  refine (h1'.out).mono ?_
  rintro e w' ⟨rfl, rfl⟩
  go_wp2_with fail
  refine (h2.out).mono ?_
  rintro e w' ⟨rfl, rfl⟩
  go_wp2_with fail
  refine (h2'.out).mono ?_
  rintro e w' ⟨rfl, rfl⟩
  go_wp2_with fail
  refine (h3.out).mono ?_
  rintro e w' ⟨rfl, rfl⟩
  go_wp2_with fail
  refine (h3'.out).mono ?_
  rintro e w' ⟨rfl, rfl⟩
  go_wp2_with fail
  refine (law5_awake _).mono ?_
  rintro e w' ⟨rfl, on⟩
  have HN := Lib.hid on
  clear on
  go_wp2
  go_ret
  exact ⟨rfl, HN.out⟩
theorem walk_ClassStarts (k c line : Int) (w : World) (_h : -9223372036854775808 ≤ k ∧ k ≤ 9223372036854775807) (h2 : -9223372036854775808 ≤ c ∧ c ≤ 9223372036854775807) (_h3 : -9223372036854775808 ≤ line ∧ line ≤ 9223372036854775807) :
    Calls Try.prog 15 #[.int .i64 k, .int .i64 c, .int .i64 line] w fun e w' => e = .returned (.bool true) ∧ Only [] w w' := by
  have H1 := Lib.hid (fun w => class_Starts k c w h2)
  have H2 := Lib.hid (fun w => ref5_Starts k c w)
  have H3 := Lib.hid (fun w => class_Home line c w h2)
  have H4 := Lib.hid (fun w => ref5_Home line c w)
  have hl := starts_length k c
  generalize starts k c = l at *
  generalize home line c = b at *
  go_enter Try.func15, Try.ntmps15
  go_wp2_with fail
  refine (H1.out _).mono ?_
  rintro e w1 ⟨_, rfl, A1, c1, rfl, m1, o1⟩
  have M1 := Lib.hid m1
  have O1 := Lib.hid o1
  clear m1 o1
  go_wp2_with fail
  refine (H2.out _).mono ?_
  rintro e w2 ⟨_, rfl, A2, c2, rfl, m2, o2⟩
  have M2 := Lib.hid (is_own m2)
  have O2 := Lib.hid o2
  clear m2 o2
  go_wp2_with fail
  refine (law0_SameInts _ _ _ _ _ _ l l _ ((is_own M1.out).only0 O2.out) M2.out (by omega) (by omega)).mono ?_
  rintro e w3 ⟨rfl, o3⟩
  rw [beq_self_eq_true]
  have O3 := Lib.hid (O2.out.trans0 o3)
  clear o3
  go_wp2_with fail
  refine (H3.out _).mono ?_
  rintro e w4 ⟨rfl, o4⟩
  have O4 := Lib.hid (O3.out.trans0 o4)
  clear o4
  go_wp2_with fail
  refine (H4.out _).mono ?_
  rintro e w5 ⟨rfl, o5⟩
  have O5 := Lib.hid (O4.out.trans0 o5)
  clear o5
  go_wp2_with fail
  refine (law0_OverInts _ _ _ l _ (own_only M1.out O5.out (by simp)) (O1.out.trans0 O5.out) (by omega)).mono ?_
  rintro e w6 ⟨rfl, o6⟩
  have O6 := Lib.hid o6
  clear o6
  go_wp2_with fail
  refine (H1.out _).mono ?_
  rintro e w7 ⟨_, rfl, A7, c7, rfl, m7, o7⟩
  have M7 := Lib.hid (is_own m7)
  have O7 := Lib.hid o7
  clear m7 o7
  go_wp2_with fail
  refine (H2.out _).mono ?_
  rintro e w8 ⟨_, rfl, A8, c8, rfl, m8, o8⟩
  have M8 := Lib.hid (is_own m8)
  have O8 := Lib.hid o8
  clear m8 o8
  go_wp2_with fail
  refine (law0_SameInts _ _ _ _ _ _ l l _ (M7.out.only0 O8.out) M8.out (by omega) (by omega)).mono ?_
  rintro e w9 ⟨rfl, o9⟩
  rw [beq_self_eq_true]
  have O9 := Lib.hid (((O6.out.trans0 O7.out).trans0 O8.out).trans0 o9)
  clear o9
  go_wp2_with fail
  refine (law5_awake _).mono ?_
  rintro e w' ⟨rfl, on⟩
  have HN := Lib.hid on
  clear on
  go_wp2
  go_ret
  exact ⟨rfl, O9.out.trans0 HN.out⟩
theorem walk_ClassLeast (n : Int) (w : World) (h : -9223372036854775808 ≤ n ∧ n ≤ 9223372036854775807) :
    Calls Try.prog 16 #[.int .i64 n] w fun e w' => e = .returned (.bool true) ∧ Only [] w w' := by
  have hn := class_Need n w h
  have k0 := class_Cap 0 w (by omega)
  have k1 := class_Cap 1 w (by omega)
  have k2 := class_Cap 2 w (by omega)
  have k3 := class_Cap 3 w (by omega)
  rw [capOf0] at k0
  rw [capOf1] at k1
  rw [capOf2] at k2
  rw [capOf3] at k3
  have K0 := Lib.hid k0
  have K1 := Lib.hid k1
  have K2 := Lib.hid k2
  have K3 := Lib.hid k3
  clear k0 k1 k2 k3
  by_cases h1 : n < 0
  · rw [show need n = -1 by unfold need; rw [if_pos h1]] at hn
    have HN := Lib.hid hn
    clear hn
    go_enter Try.func16, Try.ntmps16
    go_wp2_with fail
    refine (HN.out).mono ?_
    rintro e w' ⟨rfl, rfl⟩
    go_wp2_with fail
    refine (law5_awake _).mono ?_
    rintro e w' ⟨rfl, on⟩
    have ON := Lib.hid on
    clear on
    go_wp2
    go_ret
    exact ⟨rfl, ON.out⟩
  by_cases h2 : 469 < n
  · rw [show need n = -1 by unfold need; rw [if_neg h1, if_neg (by omega), if_neg (by omega), if_neg (by omega), if_neg (by omega)]] at hn
    have HN := Lib.hid hn
    clear hn
    go_enter Try.func16, Try.ntmps16
    go_wp2_with fail
    refine (HN.out).mono ?_
    rintro e w' ⟨rfl, rfl⟩
    go_wp2_with fail
    refine (law5_awake _).mono ?_
    rintro e w' ⟨rfl, on⟩
    have ON := Lib.hid on
    clear on
    go_wp2
    go_ret
    exact ⟨rfl, ON.out⟩
  by_cases c0 : n ≤ 28
  · rw [show need n = 0 by unfold need; rw [if_neg h1, if_pos (by omega)]] at hn
    have HN := Lib.hid hn
    clear hn
    go_enter Try.func16, Try.ntmps16
    go_wp2_with fail
    refine (HN.out).mono ?_
    rintro e w' ⟨rfl, rfl⟩
    go_wp2_with fail
    refine (K0.out).mono ?_
    rintro e w' ⟨rfl, rfl⟩
    go_wp2_with fail
    refine (law5_awake _).mono ?_
    rintro e w' ⟨rfl, on⟩
    have ON := Lib.hid on
    clear on
    go_wp2
    go_ret
    exact ⟨rfl, ON.out⟩
  by_cases c1 : n ≤ 91
  · rw [show need n = 1 by unfold need; rw [if_neg h1, if_neg (by omega), if_pos (by omega)]] at hn
    have HN := Lib.hid hn
    clear hn
    go_enter Try.func16, Try.ntmps16
    go_wp2_with fail
    refine (HN.out).mono ?_
    rintro e w' ⟨rfl, rfl⟩
    go_wp2_with fail
    refine (K1.out).mono ?_
    rintro e w' ⟨rfl, rfl⟩
    go_wp2_with fail
    refine (K0.out).mono ?_
    rintro e w' ⟨rfl, rfl⟩
    go_wp2_with fail
    refine (law5_awake _).mono ?_
    rintro e w' ⟨rfl, on⟩
    have ON := Lib.hid on
    clear on
    go_wp2
    go_ret
    exact ⟨rfl, ON.out⟩
  by_cases c2 : n ≤ 217
  · rw [show need n = 2 by unfold need; rw [if_neg h1, if_neg (by omega), if_neg (by omega), if_pos (by omega)]] at hn
    have HN := Lib.hid hn
    clear hn
    go_enter Try.func16, Try.ntmps16
    go_wp2_with fail
    refine (HN.out).mono ?_
    rintro e w' ⟨rfl, rfl⟩
    go_wp2_with fail
    refine (K2.out).mono ?_
    rintro e w' ⟨rfl, rfl⟩
    go_wp2_with fail
    refine (K1.out).mono ?_
    rintro e w' ⟨rfl, rfl⟩
    go_wp2_with fail
    refine (law5_awake _).mono ?_
    rintro e w' ⟨rfl, on⟩
    have ON := Lib.hid on
    clear on
    go_wp2
    go_ret
    exact ⟨rfl, ON.out⟩
  by_cases c3 : n ≤ 469
  · rw [show need n = 3 by unfold need; rw [if_neg h1, if_neg (by omega), if_neg (by omega), if_neg (by omega), if_pos (by omega)]] at hn
    have HN := Lib.hid hn
    clear hn
    go_enter Try.func16, Try.ntmps16
    go_wp2_with fail
    refine (HN.out).mono ?_
    rintro e w' ⟨rfl, rfl⟩
    go_wp2_with fail
    refine (K3.out).mono ?_
    rintro e w' ⟨rfl, rfl⟩
    go_wp2_with fail
    refine (K2.out).mono ?_
    rintro e w' ⟨rfl, rfl⟩
    go_wp2_with fail
    refine (law5_awake _).mono ?_
    rintro e w' ⟨rfl, on⟩
    have ON := Lib.hid on
    clear on
    go_wp2
    go_ret
    exact ⟨rfl, ON.out⟩
  omega
theorem home_of (k c i : Nat) (hk : k < 32) (hc : c < 4) (hi : i < 8 / span c) : home (2 + 8 * (k : Int) + ((i * span c : Nat) : Int)) c = true := by
  have hs := span_cases (c : Int)
  have h8 : i * span c < 8 := by
    have h1 := Nat.div_mul_le_self 8 (span c)
    have h2 : 0 < span c := by omega
    have h3 := Nat.mul_lt_mul_of_pos_right hi h2
    omega
  have hso : slabOf (2 + 8 * (k : Int) + ((i * span c : Nat) : Int)) = k := by
    unfold slabOf
    rw [if_neg (by omega)]
    omega
  unfold home
  rw [hso, decide_eq_true_iff]
  unfold starts
  have hsl : slab (k : Int) = 2 + 8 * k := if_neg (by omega)
  rw [hsl, if_neg (by omega)]
  unfold startsTo
  rw [List.mem_map]
  exact ⟨i, by simpa using hi, rfl⟩
theorem walk_ClassFills (k c : Int) (w : World) (_h : -9223372036854775808 ≤ k ∧ k ≤ 9223372036854775807) (_h2 : -9223372036854775808 ≤ c ∧ c ≤ 9223372036854775807) :
    Calls Try.prog 17 #[.int .i64 k, .int .i64 c] w fun e w' => e = .returned (.bool true) ∧ Only [] w w' := by
  have h1 : Calls Try.prog 26 #[.int .i64 k, .int .i64 32] w fun e w' => e = .returned (.int .i64 (low k 32)) ∧ w = w' := law0_Low k 32 w (by omega) (by omega)
  have h2 : Calls Try.prog 26 #[.int .i64 c, .int .i64 4] w fun e w' => e = .returned (.int .i64 (low c 4)) ∧ w = w' := law0_Low c 4 w (by omega) (by omega)
  have b1 := low_lt k 32 (by omega)
  have b2 := low_lt c 4 (by omega)
  generalize low k 32 = a at *
  generalize low c 4 = d at *
  have hs := span_cases (d : Int)
  have hs8 : span (d : Int) * (8 / span (d : Int)) = 8 ∧ 0 < span (d : Int) ∧ span (d : Int) ≤ 8 ∧ 8 / span (d : Int) ≤ 8 := by
    rcases hs with ⟨_, h⟩ | ⟨_, h⟩ | ⟨_, h⟩ | ⟨_, h⟩ | ⟨_, h⟩ <;> first | (rw [h]; decide) | omega
  have hst : starts (a : Int) (d : Int) = startsTo (2 + 8 * (a : Int)) (span (d : Int)) (8 / span (d : Int)) := by
    have hsl : slab (a : Int) = 2 + 8 * a := if_neg (by omega)
    unfold starts
    rw [hsl, if_neg (by omega)]
  have hS := class_Starts (a : Int) (d : Int) w (by omega)
  rw [hst] at hS
  have hH := fun i hi => home_of a d i b1 b2 hi
  have hHome := fun line w => class_Home line (d : Int) w (by omega)
  have hSpan := fun w => class_Span (d : Int) w (by omega)
  generalize span (d : Int) = s at *
  generalize 8 / s = q at *
  obtain ⟨hq1, hq0, hq2, hq3⟩ := hs8
  have HQ := Lib.hid hq1
  have H1 := Lib.hid h1
  have H2 := Lib.hid h2
  have HS := Lib.hid hS
  have HH := Lib.hid hH
  have HM := Lib.hid hHome
  have HP := Lib.hid hSpan
  clear hq1 h1 h2 hS hH hHome hSpan hs hst
  go_enter Try.func17, Try.ntmps17
  go_wp2_with fail
  refine (H1.out).mono ?_
  rintro e w' ⟨rfl, rfl⟩
  go_wp2_with fail
  refine (H2.out).mono ?_
  rintro e w' ⟨rfl, rfl⟩
  go_wp2_with fail
  refine (HS.out).mono ?_
  rintro e w1 ⟨_, rfl, A1, c1, rfl, m1, o1⟩
  rw [startsTo_length] at m1 ⊢
  have M1 := Lib.hid (is_own m1)
  have O1 := Lib.hid o1
  clear m1 o1
  go_wp2
  go_loopw [6, 7] (fun x i wr => ∃ j b : Nat, j ≤ q ∧ i = .int .i64 j ∧ x = .int .i64 (2 + 8 * (a : Int) + (b : Int)) ∧ b = j * s ∧ b ≤ 8 ∧ Only [] w1 wr) (fun _ i _ => q - (intOf i).toNat)
  case atStart => exact ⟨0, 0, Nat.zero_le _, rfl, by go_num, by omega, by omega, Only.refl _ _⟩
  case round =>
    obtain ⟨j, b, hj, rfl, rfl, hb, hb8, on⟩ := hrel
    have HN := Lib.hid on
    by_cases hlt : j < q
    · obtain ⟨g, f, rfl, hc⟩ := (M1.out.only0 on).at_ (by omega)
      have hjl : j < (startsTo (2 + 8 * (a : Int)) s q).length := by rw [startsTo_length]; exact hlt
      have hc1 := hc j hjl
      have he : (startsTo (2 + 8 * (a : Int)) s q)[j] = 2 + 8 * (a : Int) + (b : Int) := by simp [startsTo, hb]
      rw [he] at hc1
      have hh := HH.out j hlt
      rw [← hb] at hh
      have hm := HM.out (2 + 8 * (a : Int) + (b : Int)) wr
      rw [hh] at hm
      have HHM := Lib.hid hm
      have hsu : (j + 1) * s = j * s + s := Nat.succ_mul j s
      have hb1 : b + s = (j + 1) * s := by omega
      have hb9 : b + s ≤ 8 := by
        have := Nat.mul_le_mul_right s (show j + 1 ≤ q by omega)
        rw [Nat.mul_comm q s, HQ.out] at this
        omega
      have HB1 := Lib.hid hb1
      clear hc he hh hm on hsu hb1 hb
      go_wp2_with fail
      refine (HHM.out).mono ?_
      rintro e w2 ⟨rfl, o2⟩
      have O2 := Lib.hid (HN.out.trans0 o2)
      clear o2
      go_wp2_with fail
      refine (HP.out _).mono ?_
      rintro e w' ⟨rfl, rfl⟩
      go_wp2
      go_roundw
      case rel => exact ⟨j + 1, b + s, by omega, by go_num, by go_num, HB1.out, hb9, O2.out⟩
      case measure => simp [intOf]; omega
    · obtain rfl : j = q := by omega
      have hb8 : b = 8 := by rw [hb, Nat.mul_comm, HQ.out]
      subst hb8
      clear hb on
      go_wp2_with fail
      refine (law5_awake _).mono ?_
      rintro e w' ⟨rfl, on⟩
      have ON := Lib.hid on
      clear on
      go_wp2
      go_ret
      exact ⟨rfl, (O1.out.trans0 HN.out).trans0 ON.out⟩
end Go.Proofs.Ytjagedcaemckfaa
