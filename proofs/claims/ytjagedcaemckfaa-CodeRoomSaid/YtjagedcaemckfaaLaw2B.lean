/- The walks of the statements CodeBack and CodeRoom. -/
import Derived.Test.YtjagedcaemckfaaLaw2
import Derived.Deep.QuietTactic
import Derived.BigQuiet
import Derived.IntWalk
namespace Go.Proofs.Ytjagedcaemckfaa
open Go.RowKit Go.Proofs.FuMem Go.Proofs.FuCode

theorem walk_CodeBack (A : Option Addr) (n c : Nat) (l : List UInt8) (at_ k : Int) (v : Nat) (w : World) (h : Bs w A n l) (hn : n ≤ maxLen) (h1 : -9223372036854775808 ≤ at_ ∧ at_ ≤ 9223372036854775807) (h2 : -9223372036854775808 ≤ k ∧ k ≤ 9223372036854775807) (hv : v < 18446744073709551616) :
    Calls Try.prog 11 #[.slice A n c, .int .i64 at_, .int .i64 k, .int .u64 v] w fun e w' => e = .returned (.bool true) ∧ Only [] w w' := by
  unfold maxLen at hn
  have hl := h.len
  have HB := Lib.hid h
  have HL := Lib.hid hl
  clear h hl
  by_cases hbig : 1024 < n
  · go_enter Try.func11, Try.ntmps11
    go_wp2_with fail
    refine (law2_awake _).mono ?_
    rintro e w' ⟨rfl, on⟩
    have HN := Lib.hid on
    clear on
    go_wp2
    go_ret
    exact ⟨rfl, HN.out⟩
  have hb1 : decide (1024 < (n : Int)) = false := by simp; omega
  have hput := code_Put A n c l at_ k v w HB.out (by omega) h1 h2 hv
  by_cases hw : wrong n at_ k ≠ 0 ∨ 256 ^ k.toNat ≤ v
  · have he : ∃ e : Nat, e ≠ 0 ∧ put l at_ k v = ([], e) := by
      unfold put
      rw [HL.out]
      by_cases hw1 : wrong n at_ k ≠ 0
      · exact ⟨_, hw1, by rw [if_pos hw1]⟩
      · exact ⟨11, by omega, by rw [if_neg hw1, if_pos (by omega)]⟩
    obtain ⟨e, he0, he⟩ := he
    rw [he] at hput
    have HP := Lib.hid hput
    have hb2 : ((e : Int) != 0) = true := by rw [bne_iff_ne]; omega
    clear hput he hw he0
    go_enter Try.func11, Try.ntmps11
    go_wp2_with fail
    refine (HP.out).mono ?_
    rintro e w1 ⟨_, rfl, A1, c1, rfl, _, o1⟩
    have O1 := Lib.hid o1
    clear o1
    go_wp2_with fail
    refine (law2_awake _).mono ?_
    rintro e w' ⟨rfl, on⟩
    have HN := Lib.hid on
    clear on
    go_wp2
    go_ret
    exact ⟨rfl, O1.out.trans0 HN.out⟩
  · have hw0 : wrong n at_ k = 0 := by omega
    have hv2 : v < 256 ^ k.toNat := by omega
    obtain ⟨hk1, hk2, ha1, ha2⟩ := wrong_zero hw0
    obtain ⟨a, rfl⟩ := Int.eq_ofNat_of_zero_le ha1
    obtain ⟨m, rfl⟩ := Int.eq_ofNat_of_zero_le (show 0 ≤ k by omega)
    have hp : put l (a : Int) (m : Int) v = (over l a (lay m v), 0) := by
      unfold put
      rw [HL.out, hw0, if_neg (by omega), if_neg (by omega)]
      simp
    have hol : (over l a (lay m v)).length = n := by rw [over_length _ _ _ (by rw [lay_length, HL.out]; omega), HL.out]
    have hg : cget (over l a (lay m v)) (a : Int) (m : Int) = (v, 0) := by
      unfold cget
      rw [hol, hw0, if_neg (by omega)]
      simp only [Int.toNat_natCast]
      rw [over_back l a (lay m v) m (lay_length m v) (by rw [HL.out]; omega), num_lay_lt m v (by simpa using hv2)]
    have hget : ∀ i, i < n → (i < a ∨ a + m ≤ i) → (over l a (lay m v))[i]? = l[i]? := fun i hi ho => by
      rw [over_get _ _ _ (by rw [lay_length, HL.out]; omega) i (by rw [HL.out]; exact hi), dif_neg (by rw [lay_length]; omega), List.getElem?_eq_getElem (by rw [HL.out]; exact hi)]
    rw [hp] at hput
    have HP := Lib.hid hput
    have HG := Lib.hid hg
    have HE := Lib.hid hget
    have HOL := Lib.hid hol
    clear hput hp hw hw0 hg hol hget hv2
    generalize over l a (lay m v) = l' at *
    go_enter Try.func11, Try.ntmps11
    go_wp2_with fail
    refine (HP.out).mono ?_
    rintro e w1 ⟨_, rfl, A1, c1, rfl, m1, o1⟩
    rw [HOL.out] at m1 ⊢
    have O1 := Lib.hid o1
    have B1 := Lib.hid (bs_own m1)
    clear o1 m1
    have hgt := code_Get A1 n c1 l' (a : Int) (m : Int) w1 B1.out (by omega) h1 h2
    rw [HG.out] at hgt
    have HGT := Lib.hid hgt
    clear hgt
    go_wp2_with fail
    refine (HGT.out).mono ?_
    rintro e w' ⟨rfl, rfl⟩
    go_wp2
    go_loopw [13] (fun i wr => ∃ j : Nat, j ≤ n ∧ i = .int .i64 j ∧ Only [] w1 wr) (fun i _ => n - (intOf i).toNat)
    case atStart => exact ⟨0, Nat.zero_le _, rfl, Only.refl _ _⟩
    case round =>
      obtain ⟨j, hj, rfl, on⟩ := hrel
      have HN := Lib.hid on
      by_cases hlt : j < n
      · by_cases hin : j < a ∨ a + m ≤ j
        · have hx := B1.out.only0 on
          have hy := (HB.out.only0 O1.out).only0 on
          obtain ⟨b1, f1, rfl, hc1⟩ := hx.at_ (by omega)
          obtain ⟨b2, f2, rfl, hc2⟩ := hy.at_ (by omega)
          have hj1 : j < l'.length := by rw [HOL.out]; exact hlt
          have hj2 : j < l.length := by rw [HL.out]; exact hlt
          have e1 := hc1 j hj1
          have e2 := hc2 j hj2
          have e3 := HE.out j hlt hin
          rw [List.getElem?_eq_getElem hj1, List.getElem?_eq_getElem hj2] at e3
          rw [Option.some.inj e3] at e1
          clear hc1 hc2 e3 hx hy on
          generalize l[j].toNat = y at *
          by_cases hja : j < a
          · have d1 : decide ((j : Int) < (a : Int)) = true := by simpa using hja
            clear hin
            go_wp2_with fail
            go_quiet (fail)
            try clear s1
            go_wp2
            go_roundw
            case rel => exact ⟨j + 1, by omega, by go_num, HN.out.drewN _⟩
            case measure => simp [intOf]; omega
          · have d1 : decide ((j : Int) < (a : Int)) = false := by simp; omega
            have d2 : decide ((a : Int) + (m : Int) ≤ (j : Int)) = true := by simp; omega
            clear hin
            have s1 : IntKind.i64.wrap ((a : Int) + (m : Int)) = (a : Int) + (m : Int) := IntWalk.i64_in _ (by omega)
            go_wp2_with fail
            go_quiet (fail)
            try clear s1
            go_wp2
            go_roundw
            case rel => exact ⟨j + 1, by omega, by go_num, HN.out.drewN _⟩
            case measure => simp [intOf]; omega
        · have d1 : decide ((j : Int) < (a : Int)) = false := by simp; omega
          have d2 : decide ((a : Int) + (m : Int) ≤ (j : Int)) = false := by simp; omega
          have hja : ¬ j < a := by omega
          clear hin on
          have s1 : IntKind.i64.wrap ((a : Int) + (m : Int)) = (a : Int) + (m : Int) := IntWalk.i64_in _ (by omega)
          go_wp2_with fail
          go_quiet (fail)
          clear s1
          go_wp2
          go_roundw
          case rel => exact ⟨j + 1, by omega, by go_num, HN.out.drewN _⟩
          case measure => simp [intOf]; omega
      · clear on
        go_wp2_with fail
        refine (law2_awake _).mono ?_
        rintro e w' ⟨rfl, on⟩
        have HM := Lib.hid on
        clear on
        go_wp2
        go_ret
        exact ⟨rfl, (O1.out.trans0 HN.out).trans0 HM.out⟩
theorem walk_CodeRoom (k : Int) (v : Nat) (w : World) (_h2 : -9223372036854775808 ≤ k ∧ k ≤ 9223372036854775807) (hv : v < 18446744073709551616) :
    Calls Try.prog 12 #[.int .i64 k, .int .u64 v] w fun e w' => e = .returned (.bool true) ∧ Only [] w w' := by
  obtain ⟨i0, hi, hz0, hz1, hz2⟩ := info_parts Try.byteInfo
  obtain ⟨w1, hmk, hb1, ho1, hs1⟩ := make_blk (P := Try.prog) w 22 5 i0 _ Try.underlying22 hi hz0 hz1 rfl .i64 .i64 8 8 (by omega) (by rw [hz2]; omega) (by omega)
  have hb : Bs w1 (some ⟨w.heap.size, 0, none⟩) 8 [0, 0, 0, 0, 0, 0, 0, 0] := Sl.of_blk hb1 0 rfl (by simp)
  have hl : Calls Try.prog 26 #[.int .i64 k, .int .i64 8] w fun e w' => e = .returned (.int .i64 (low k 8)) ∧ w = w' := law0_Low k 8 w (by omega) (by omega)
  have hlt := low_lt k 8 (by omega)
  generalize low k 8 = m at *
  have hp := code_Put _ 8 8 _ (0 : Int) ((1 : Int) + (m : Int)) v _ hb (by omega) (by omega) (by omega) hv
  have hw0 : wrong 8 0 (1 + (m : Int)) = 0 := by unfold wrong; rw [if_neg (by omega), if_neg (by omega)]
  have hpe : (put [0, 0, 0, 0, 0, 0, 0, 0] 0 (1 + (m : Int)) v).2 = if 256 ^ (1 + m) ≤ v then 11 else 0 := by
    unfold put
    rw [show ([0, 0, 0, 0, 0, 0, 0, 0] : List UInt8).length = 8 from rfl, hw0, if_neg (by omega), show (1 + (m : Int)).toNat = 1 + m by omega]
    split <;> rfl
  have hmk' : (Instr.makeSlice 22 (.int .i64 8) (.int .i64 8)).run Try.prog w = .ok (.slice (some ⟨w.heap.size, 0, none⟩) 8 8) w1 := hmk
  have HL := Lib.hid hl
  have HO := Lib.hid ho1
  have hP : ∀ r : Nat, (put [0, 0, 0, 0, 0, 0, 0, 0] 0 (1 + (m : Int)) v).2 = r → Calls Try.prog 33 #[.slice (some ⟨w.heap.size, 0, none⟩) 8 8, .int .i64 0, .int .i64 (1 + (m : Int)), .int .u64 v] w1 fun e w' => ∃ x, e = .returned (.tuple #[x, .int .i64 r]) ∧ Only [] w1 w' := by
    rintro r rfl
    refine hp.mono ?_
    rintro e w' ⟨x, rfl, A, c, _, _, o⟩
    exact ⟨x, rfl, o⟩
  clear hmk hb1 ho1 hs1 hb hl hw0 hp hi hz0 hz1 hz2
  by_cases hbig : 256 ^ (1 + m) ≤ v
  · rw [if_pos hbig] at hpe
    have hm7 : m < 7 := by
      rcases Nat.lt_or_ge m 7 with h8 | h8
      · exact h8
      · have : 256 ^ 8 ≤ 256 ^ (1 + m) := Nat.pow_le_pow_right (by omega) (by omega)
        omega
    have hs := shr_pos hbig
    have HP := Lib.hid (hP 11 hpe)
    have d1 : ((1 + (m : Int)) == 8) = false := by simp; omega
    have d2 : ((v : Int) / 2 ^ (8 * (1 + m)) == 0) = false := by simpa using hs
    clear hP hpe hbig hs
    go_enter Try.func12, Try.ntmps12
    go_wp2_with fail
    refine (HL.out).mono ?_
    rintro e w' ⟨rfl, rfl⟩
    go_wp2_with fail
    refine (HP.out).mono ?_
    rintro e w2 ⟨x, rfl, o2⟩
    have O2 := Lib.hid o2
    clear o2
    go_wp2_with fail
    refine (law2_awake _).mono ?_
    rintro e w' ⟨rfl, on⟩
    have HN := Lib.hid on
    clear on
    go_wp2
    go_ret
    exact ⟨rfl, (HO.out.trans0 O2.out).trans0 HN.out⟩
  · rw [if_neg hbig] at hpe
    have HP := Lib.hid (hP 0 hpe)
    have hs := shr_zero (Nat.lt_of_not_le hbig)
    have d2 : ((v : Int) / 2 ^ (8 * (1 + m)) == 0) = true := by simpa using hs
    clear hP hpe hbig hs
    by_cases h7 : m = 7
    · subst h7
      clear d2
      go_enter Try.func12, Try.ntmps12
      go_wp2_with fail
      refine (HL.out).mono ?_
      rintro e w' ⟨rfl, rfl⟩
      go_wp2_with fail
      refine (HP.out).mono ?_
      rintro e w2 ⟨x, rfl, o2⟩
      have O2 := Lib.hid o2
      clear o2
      go_wp2_with fail
      refine (law2_awake _).mono ?_
      rintro e w' ⟨rfl, on⟩
      have HN := Lib.hid on
      clear on
      go_wp2
      go_ret
      exact ⟨rfl, (HO.out.trans0 O2.out).trans0 HN.out⟩
    · have d1 : ((1 + (m : Int)) == 8) = false := by simp; omega
      clear h7
      go_enter Try.func12, Try.ntmps12
      go_wp2_with fail
      refine (HL.out).mono ?_
      rintro e w' ⟨rfl, rfl⟩
      go_wp2_with fail
      refine (HP.out).mono ?_
      rintro e w2 ⟨x, rfl, o2⟩
      have O2 := Lib.hid o2
      clear o2
      go_wp2_with fail
      refine (law2_awake _).mono ?_
      rintro e w' ⟨rfl, on⟩
      have HN := Lib.hid on
      clear on
      go_wp2
      go_ret
      exact ⟨rfl, (HO.out.trans0 O2.out).trans0 HN.out⟩
end Go.Proofs.Ytjagedcaemckfaa
