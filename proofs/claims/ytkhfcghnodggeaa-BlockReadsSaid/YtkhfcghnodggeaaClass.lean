/- The contracts of package class and of its reference, with what they call of geom. -/
import Derived.Test.YtkhfcghnodggeaaInts
import Derived.Test.YtkhfcghnodggeaaClassP
namespace Go.Proofs.Ytkhfcghnodggeaa
open Go.RowKit Go.Proofs.FuMem Go.Proofs.FuClass
set_option maxRecDepth 100000

theorem class_Span (c : Int) (w : World) (h : -9223372036854775808 ≤ c ∧ c ≤ 9223372036854775807) :
    Calls Try.prog 29 #[.int .i64 c] w fun e w' => e = .returned (.int .i64 (span c)) ∧ w = w' := by
  rcases span_cases c with ⟨rfl, hs⟩ | ⟨rfl, hs⟩ | ⟨rfl, hs⟩ | ⟨rfl, hs⟩ | ⟨ho, hs⟩
  · rw [hs]
    clear hs
    go_enter Try.func29, Try.ntmps29
    go_wp2
    go_ret
    exact ⟨rfl, rfl⟩
  · rw [hs]
    clear hs
    go_enter Try.func29, Try.ntmps29
    go_wp2
    go_ret
    exact ⟨rfl, rfl⟩
  · rw [hs]
    clear hs
    go_enter Try.func29, Try.ntmps29
    go_wp2
    go_ret
    exact ⟨rfl, rfl⟩
  · rw [hs]
    clear hs
    go_enter Try.func29, Try.ntmps29
    go_wp2
    go_ret
    exact ⟨rfl, rfl⟩
  · rw [hs]
    clear hs
    by_cases hc : c < 0
    · clear ho
      go_enter Try.func29, Try.ntmps29
      go_wp2
      go_ret
      exact ⟨rfl, rfl⟩
    · have h3 : 3 < c := by omega
      clear ho
      go_enter Try.func29, Try.ntmps29
      go_wp2
      go_ret
      exact ⟨rfl, rfl⟩
theorem ref5_Span (c : Int) (w : World) :
    Calls Try.prog 40 #[.int .i64 c] w fun e w' => e = .returned (.int .i64 (span c)) ∧ w = w' := by
  rcases span_cases c with ⟨rfl, hs⟩ | ⟨rfl, hs⟩ | ⟨rfl, hs⟩ | ⟨rfl, hs⟩ | ⟨ho, hs⟩
  · rw [hs]
    clear hs
    go_enter Try.func40, Try.ntmps40
    go_wp2
    go_ret
    exact ⟨rfl, rfl⟩
  · rw [hs]
    clear hs
    go_enter Try.func40, Try.ntmps40
    go_wp2
    go_ret
    exact ⟨rfl, rfl⟩
  · rw [hs]
    clear hs
    go_enter Try.func40, Try.ntmps40
    go_wp2
    go_ret
    exact ⟨rfl, rfl⟩
  · rw [hs]
    clear hs
    go_enter Try.func40, Try.ntmps40
    go_wp2
    go_ret
    exact ⟨rfl, rfl⟩
  · rw [hs]
    have d0 : (c == 0) = false := by simp; omega
    have d1 : (c == 1) = false := by simp; omega
    have d2 : (c == 2) = false := by simp; omega
    have d3 : (c == 3) = false := by simp; omega
    clear hs ho
    go_enter Try.func40, Try.ntmps40
    go_wp2
    go_ret
    exact ⟨rfl, rfl⟩
theorem class_Cap (c : Int) (w : World) (h : -9223372036854775808 ≤ c ∧ c ≤ 9223372036854775807) :
    Calls Try.prog 35 #[.int .i64 c] w fun e w' => e = .returned (.int .i64 (capOf c)) ∧ w = w' := by
  have HC := Lib.hid (class_Span c w h)
  have hs := span_le c
  by_cases h0 : span c = 0
  · have hc : capOf c = 0 := if_pos h0
    rw [hc]
    clear hc hs
    rw [h0] at HC
    clear h0
    go_enter Try.func35, Try.ntmps35
    go_wp2_with fail
    refine (HC.out).mono ?_
    rintro e w' ⟨rfl, rfl⟩
    go_wp2
    go_ret
    exact ⟨rfl, rfl⟩
  · have hc : capOf c = 28 + 63 * ((span c : Int) - 1) := if_neg h0
    rw [hc]
    have h1 : 0 < span c := by omega
    clear hc h0
    generalize span c = s at *
    go_enter Try.func35, Try.ntmps35
    go_wp2_with fail
    refine (HC.out).mono ?_
    rintro e w' ⟨rfl, rfl⟩
    go_wp2
    go_ret
    exact ⟨ret_int (by omega), rfl⟩
theorem ref5_Cap (c : Int) (w : World) :
    Calls Try.prog 42 #[.int .i64 c] w fun e w' => e = .returned (.int .i64 (capOf c)) ∧ w = w' := by
  have HC := Lib.hid (ref5_Span c w)
  have hs := span_le c
  by_cases h0 : span c = 0
  · have hc : capOf c = 0 := if_pos h0
    rw [hc]
    clear hc hs
    rw [h0] at HC
    clear h0
    go_enter Try.func42, Try.ntmps42
    go_wp2_with fail
    refine (HC.out).mono ?_
    rintro e w' ⟨rfl, rfl⟩
    go_wp2
    go_ret
    exact ⟨rfl, rfl⟩
  · have hc : capOf c = 28 + 63 * ((span c : Int) - 1) := if_neg h0
    rw [hc]
    have h1 : ((span c : Int) == 0) = false := by simp; omega
    clear hc h0
    generalize span c = s at *
    go_enter Try.func42, Try.ntmps42
    go_wp2_with fail
    refine (HC.out).mono ?_
    rintro e w' ⟨rfl, rfl⟩
    go_wp2
    go_ret
    exact ⟨ret_int (by omega), rfl⟩
def NoneBelow (n : Int) (k : Nat) : Prop := ∀ j : Nat, j < k → capOf j < n
theorem NoneBelow.succ {n : Int} {k : Nat} (h : NoneBelow n k) (h2 : capOf k < n) : NoneBelow n (k + 1) := fun j hj => by
  by_cases e : j = k
  · rw [e]; exact h2
  · exact h j (by omega)
theorem class_Need (n : Int) (w : World) (h : -9223372036854775808 ≤ n ∧ n ≤ 9223372036854775807) :
    Calls Try.prog 30 #[.int .i64 n] w fun e w' => e = .returned (.int .i64 (need n)) ∧ w = w' := by
  by_cases h0 : n < 0
  · rw [need_no (.inl h0)]
    go_enter Try.func30, Try.ntmps30
    go_wp2
    go_ret
    exact ⟨rfl, rfl⟩
  · have h1 : 0 ≤ n := by omega
    clear h0
    go_enter Try.func30, Try.ntmps30
    go_wp2
    go_loop [3, 6] (fun _ i => ∃ k : Nat, k ≤ 4 ∧ i = .int .i64 k ∧ NoneBelow n k) (fun _ i => 4 - (intOf i).toNat)
    case atStart => exact ⟨0, by omega, rfl, fun j hj => by omega⟩
    case round =>
      obtain ⟨k, hk, rfl, hno⟩ := hrel
      have HN := Lib.hid hno
      clear hno
      by_cases hlt : k < 4
      · have hcb := capOf_bd (k : Int)
        have hcc := fun w => class_Cap (k : Int) w (by omega)
        by_cases hfit : n ≤ capOf (k : Int)
        · have HE := Lib.hid (need_of hlt h1 HN.out hfit)
          have HC := Lib.hid hcc
          clear hcc
          generalize capOf (k : Int) = x at *
          go_wp2_with fail
          refine (HC.out _).mono ?_
          rintro e w' ⟨rfl, rfl⟩
          go_wp2
          go_ret
          exact ⟨ret_int HE.out.symm, rfl⟩
        · have HE := Lib.hid (HN.out.succ (by omega))
          have HC := Lib.hid hcc
          clear hcc
          generalize capOf (k : Int) = x at *
          go_wp2_with fail
          refine (HC.out _).mono ?_
          rintro e w' ⟨rfl, rfl⟩
          go_wp2
          go_round
          case rel => exact ⟨k + 1, by omega, by go_num, HE.out⟩
          case measure => simp [intOf]; omega
      · obtain rfl : k = 4 := by omega
        go_wp2
        go_ret
        exact ⟨ret_int (need_no (.inr HN.out)).symm, rfl⟩
theorem ref5_Need (n : Int) (w : World) (h : -9223372036854775808 ≤ n ∧ n ≤ 9223372036854775807) :
    Calls Try.prog 33 #[.int .i64 n] w fun e w' => e = .returned (.int .i64 (need n)) ∧ w = w' := by
  by_cases h0 : n < 0
  · rw [need_no (.inl h0)]
    go_enter Try.func33, Try.ntmps33
    go_wp2
    go_loop [3] (fun i => ∃ k : Nat, k ≤ 4 ∧ i = .int .i64 k) (fun i => 4 - (intOf i).toNat)
    case atStart => exact ⟨0, by omega, rfl⟩
    case round =>
      obtain ⟨k, hk, rfl⟩ := hrel
      by_cases hlt : k < 4
      · go_wp2
        go_round
        case rel => exact ⟨k + 1, by omega, by go_num⟩
        case measure => simp [intOf]; omega
      · go_wp2
        go_ret
        exact ⟨rfl, rfl⟩
  · have h1 : 0 ≤ n := by omega
    clear h0
    go_enter Try.func33, Try.ntmps33
    go_wp2
    go_loop [3] (fun i => ∃ k : Nat, k ≤ 4 ∧ i = .int .i64 k ∧ NoneBelow n k) (fun i => 4 - (intOf i).toNat)
    case atStart => exact ⟨0, by omega, rfl, fun j hj => by omega⟩
    case round =>
      obtain ⟨k, hk, rfl, hno⟩ := hrel
      have HN := Lib.hid hno
      clear hno
      by_cases hlt : k < 4
      · have hcb := capOf_bd (k : Int)
        have hcc := fun w => ref5_Cap (k : Int) w
        by_cases hfit : n ≤ capOf (k : Int)
        · have HE := Lib.hid (need_of hlt h1 HN.out hfit)
          have HC := Lib.hid hcc
          clear hcc
          generalize capOf (k : Int) = x at *
          go_wp2_with fail
          refine (HC.out _).mono ?_
          rintro e w' ⟨rfl, rfl⟩
          go_wp2
          go_ret
          exact ⟨ret_int HE.out.symm, rfl⟩
        · have HE := Lib.hid (HN.out.succ (by omega))
          have HC := Lib.hid hcc
          clear hcc
          generalize capOf (k : Int) = x at *
          go_wp2_with fail
          refine (HC.out _).mono ?_
          rintro e w' ⟨rfl, rfl⟩
          go_wp2
          go_round
          case rel => exact ⟨k + 1, by omega, by go_num, HE.out⟩
          case measure => simp [intOf]; omega
      · obtain rfl : k = 4 := by omega
        go_wp2
        go_ret
        exact ⟨ret_int (need_no (.inr HN.out)).symm, rfl⟩
end Go.Proofs.Ytkhfcghnodggeaa
