/- The contract of the reference's May. -/
import Derived.Test.YtkhfcghnodggeaaBlockB
namespace Go.Proofs.Ytkhfcghnodggeaa
open Go.RowKit Go.Proofs.FuMem Go.Proofs.FuCode Go.Proofs.FuClass Go.Proofs.FuBlock Go.Proofs.FuEq
set_option maxRecDepth 100000
theorem str_cases (s : ByteArray) : s = ⟨#[]⟩ ∨ (0 < s.size ∧ s.toList.isEmpty = false ∧ s.toList ≠ [] ∧ (s.toList == []) = false ∧ s.data.toList ≠ []) := by
  by_cases h : s.size = 0
  · obtain ⟨⟨l⟩⟩ := s
    have : l.length = 0 := h
    exact .inl (by rw [List.length_eq_zero_iff.1 this])
  · have hne : s.data.toList ≠ [] := fun e => h (by have := congrArg List.length e; simpa using this)
    have h2 : s.toList ≠ [] := by rw [ByteArray.toList_eq]; exact hne
    refine .inr ⟨by omega, ?_, h2, by simpa using h2, hne⟩
    cases hl : s.toList with
    | nil => exact absurd hl h2
    | cons a l => rfl
theorem need_e1 {n : Nat} {nd : Int} (h : need (((⟨#[]⟩ : ByteArray).size : Int) + (n : Int)) = nd) : need (n : Int) = nd := by
  rw [← h]
  congr 1
  have : ((⟨#[]⟩ : ByteArray).size : Int) = 0 := rfl
  omega
theorem need_e2 {nd : Int} (h : need (((⟨#[]⟩ : ByteArray).size : Int)) = nd) : need 0 = nd := h
set_option maxHeartbeats 8000000 in
theorem ref6_May (cls kind : Int) (id ver ep : Nat) (ks vs : ByteArray) (w : World) (hi : id < 18446744073709551616) (hv : ver < 18446744073709551616) (he : ep < 18446744073709551616)
    (hks : ks.size ≤ 1000000) (hvs : vs.size ≤ 1000000) :
    Calls Try.prog 13 #[blockV cls kind id ver ep ks vs] w fun e w' => e = .returned (.bool (may (mkB cls kind id ver ep ks vs))) ∧ Only [] w w' := by
  have ol : ks.data.toList.length = ks.size := by simp
  have ol2 : vs.data.toList.length = vs.size := by simp
  have o1 : Only [] w (w.alloc (.cells #[.int .i64 cls, .int .i64 kind, .int .u64 id, .int .u64 ver, .int .u64 ep, .string ks, .string vs] 24)) := (Only.refl _ _).alloc _
  have HO := Lib.hid o1
  clear o1
  by_cases hc03 : 0 ≤ cls ∧ cls ≤ 3
  case neg =>
    have hm : may (mkB cls kind id ver ep ks vs) = false := by
      unfold may mkB
      rw [decide_eq_false (by simp only; omega)]
      rfl
    have HR := Lib.hid hm
    have hcase : decide (cls < 0) = true ∨ (decide (cls < 0) = false ∧ decide (3 < cls) = true) := by
      rw [decide_eq_true_eq, decide_eq_false_iff_not, decide_eq_true_eq]
      omega
    clear hm hc03 ol ol2
    rcases hcase with qa | ⟨qa, qb⟩
    all_goals
      go_enter Try.func13, Try.ntmps13
      go_wp2
      go_ret
      exact ⟨ret_bool HR.out.symm, HO.out⟩
  case pos =>
  have hmay : may (mkB cls kind id ver ep ks vs) = (if kind = 0 then decide (id = 0 ∧ ver = 0 ∧ ep = 0 ∧ ks.data.toList = [] ∧ vs.data.toList = [])
      else (number id && number ver && number ep) &&
        if kind = 1 then decide (1 ≤ ks.size ∧ ks.size ≤ 16 ∧ vs.size ≤ 400 ∧ need (ks.size + vs.size : Nat) = cls)
        else if kind = 2 then decide (ks.size = 0 ∧ vs.size ≤ 400 ∧ need (ks.size + vs.size : Nat) = cls)
        else if kind = 3 then decide (ks.size = 0 ∧ vs.size = 0 ∧ cls = 0)
        else false) := by
    unfold may mkB
    simp only [ol, ol2]
    rw [decide_eq_true hc03, Bool.true_and]
  have HM := Lib.hid hmay
  have qc1 : decide (cls < 0) = false := by rw [decide_eq_false_iff_not]; omega
  have qc2 : decide (3 < cls) = false := by rw [decide_eq_false_iff_not]; omega
  clear hmay ol ol2 hc03
  by_cases h0 : kind = 0
  · subst h0
    have HM0 := Lib.hid (HM.out.trans (if_pos rfl))
    clear HM
    by_cases zid : id = 0
    case neg =>
      have HR := Lib.hid (HM0.out.trans (decide_eq_false (fun h => zid h.1)))
      have qz : ((id : Int) == 0) = false := by rw [beq_eq_false_iff_ne]; omega
      clear zid HM0
      go_enter Try.func13, Try.ntmps13
      go_wp2
      go_ret
      exact ⟨ret_bool HR.out.symm, HO.out⟩
    case pos =>
    subst zid
    by_cases zver : ver = 0
    case neg =>
      have HR := Lib.hid (HM0.out.trans (decide_eq_false (fun h => zver h.2.1)))
      have qz : ((ver : Int) == 0) = false := by rw [beq_eq_false_iff_ne]; omega
      clear zver HM0
      go_enter Try.func13, Try.ntmps13
      go_wp2
      go_ret
      exact ⟨ret_bool HR.out.symm, HO.out⟩
    case pos =>
    subst zver
    by_cases zep : ep = 0
    case neg =>
      have HR := Lib.hid (HM0.out.trans (decide_eq_false (fun h => zep h.2.2.1)))
      have qz : ((ep : Int) == 0) = false := by rw [beq_eq_false_iff_ne]; omega
      clear zep HM0
      go_enter Try.func13, Try.ntmps13
      go_wp2
      go_ret
      exact ⟨ret_bool HR.out.symm, HO.out⟩
    case pos =>
    subst zep
    rcases str_cases ks with rfl | ⟨hp, e1, e2, e3, e4⟩
    case inr =>
      have HR := Lib.hid (HM0.out.trans (decide_eq_false (fun h => e4 h.2.2.2.1)))
      clear HM0 e4
      go_enter Try.func13, Try.ntmps13
      go_wp2
      go_ret
      exact ⟨ret_bool HR.out.symm, HO.out⟩
    case inl =>
    rcases str_cases vs with rfl | ⟨hp, e1, e2, e3, e4⟩
    case inr =>
      have HR := Lib.hid (HM0.out.trans (decide_eq_false (fun h => e4 h.2.2.2.2)))
      clear HM0 e4
      go_enter Try.func13, Try.ntmps13
      go_wp2
      go_ret
      exact ⟨ret_bool HR.out.symm, HO.out⟩
    case inl =>
    have HR := Lib.hid (HM0.out.trans (decide_eq_true ⟨rfl, rfl, rfl, rfl, rfl⟩))
    clear HM0
    go_enter Try.func13, Try.ntmps13
    go_wp2
    go_ret
    exact ⟨ret_bool HR.out.symm, HO.out⟩
  have HN1 := Lib.hid (fun w => ref6_number id w hi)
  have HN2 := Lib.hid (fun w => ref6_number ver w hv)
  have HN3 := Lib.hid (fun w => ref6_number ep w he)
  have q0 : (kind == 0) = false := by simpa using h0
  have HM1 := Lib.hid (HM.out.trans (if_neg h0))
  clear HM h0 hi hv he
  generalize number id = b1 at *
  generalize number ver = b2 at *
  generalize number ep = b3 at *
  by_cases hb : (b1 && b2 && b3) = false
  · have HR := Lib.hid (HM1.out.trans (by rw [hb, Bool.false_and]))
    cases b1
    · clear hb
      go_enter Try.func13, Try.ntmps13
      go_wp2_with fail
      refine (HN1.out _).mono ?_
      rintro e w' ⟨rfl, rfl⟩
      go_wp2
      go_ret
      exact ⟨ret_bool HR.out.symm, HO.out⟩
    · cases b2
      · clear hb
        go_enter Try.func13, Try.ntmps13
        go_wp2_with fail
        refine (HN1.out _).mono ?_
        rintro e w' ⟨rfl, rfl⟩
        go_wp2_with fail
        refine (HN2.out _).mono ?_
        rintro e w' ⟨rfl, rfl⟩
        go_wp2
        go_ret
        exact ⟨ret_bool HR.out.symm, HO.out⟩
      · cases b3
        · clear hb
          go_enter Try.func13, Try.ntmps13
          go_wp2_with fail
          refine (HN1.out _).mono ?_
          rintro e w' ⟨rfl, rfl⟩
          go_wp2_with fail
          refine (HN2.out _).mono ?_
          rintro e w' ⟨rfl, rfl⟩
          go_wp2_with fail
          refine (HN3.out _).mono ?_
          rintro e w' ⟨rfl, rfl⟩
          go_wp2
          go_ret
          exact ⟨ret_bool HR.out.symm, HO.out⟩
        · cases hb
  have hb1 : b1 = true ∧ b2 = true ∧ b3 = true := by
    cases b1 <;> cases b2 <;> cases b3 <;> simp_all
  obtain ⟨rfl, rfl, rfl⟩ := hb1
  have HM2 := Lib.hid (HM1.out.trans (by rw [Bool.and_self, Bool.and_self, Bool.true_and]))
  clear hb HM1
  by_cases hk16 : 16 < ks.size
  · have HR := Lib.hid (Eq.trans (c := false) HM2.out (by
      rw [decide_eq_false (by omega), decide_eq_false (by omega), decide_eq_false (by omega)]
      repeat' split
      all_goals rfl))
    have qk : decide ((16 : Int) < (ks.size : Int)) = true := by rw [decide_eq_true_eq]; omega
    clear hk16 HM2
    go_enter Try.func13, Try.ntmps13
    go_wp2_with fail
    refine (HN1.out _).mono ?_
    rintro e w' ⟨rfl, rfl⟩
    go_wp2_with fail
    refine (HN2.out _).mono ?_
    rintro e w' ⟨rfl, rfl⟩
    go_wp2_with fail
    refine (HN3.out _).mono ?_
    rintro e w' ⟨rfl, rfl⟩
    go_wp2
    go_ret
    exact ⟨ret_bool HR.out.symm, HO.out⟩
  have qk : decide ((16 : Int) < (ks.size : Int)) = false := by rw [decide_eq_false_iff_not]; omega
  by_cases hv4 : 400 < vs.size
  · have HR := Lib.hid (Eq.trans (c := false) HM2.out (by
      rw [decide_eq_false (by omega), decide_eq_false (by omega), decide_eq_false (by omega)]
      repeat' split
      all_goals rfl))
    have qv : decide ((400 : Int) < (vs.size : Int)) = true := by rw [decide_eq_true_eq]; omega
    clear hk16 hv4 HM2
    go_enter Try.func13, Try.ntmps13
    go_wp2_with fail
    refine (HN1.out _).mono ?_
    rintro e w' ⟨rfl, rfl⟩
    go_wp2_with fail
    refine (HN2.out _).mono ?_
    rintro e w' ⟨rfl, rfl⟩
    go_wp2_with fail
    refine (HN3.out _).mono ?_
    rintro e w' ⟨rfl, rfl⟩
    go_wp2
    go_ret
    exact ⟨ret_bool HR.out.symm, HO.out⟩
  have qv : decide ((400 : Int) < (vs.size : Int)) = false := by rw [decide_eq_false_iff_not]; omega
  have hk16' : ks.size ≤ 16 := by omega
  have hv4' : vs.size ≤ 400 := by omega
  have hnd : need ((ks.size + vs.size : Nat) : Int) = need ((ks.size : Int) + (vs.size : Int)) := by congr 1
  rw [hnd] at HM2
  clear hk16 hv4 hnd
  generalize hndg : need ((ks.size : Int) + (vs.size : Int)) = nd at *
  have HNDG := Lib.hid hndg
  clear hndg
  by_cases h1 : kind = 1
  · subst h1
    have HM3 := Lib.hid (HM2.out.trans (if_pos rfl))
    clear HM2
    rcases str_cases ks with rfl | ⟨hp, e1, e2, e3, e4⟩
    · have HND1 := Lib.hid (need_e1 HNDG.out)
      have HR := Lib.hid (HM3.out.trans (decide_eq_false (fun h => absurd h.1 (by decide))))
      clear HM3
      go_enter Try.func13, Try.ntmps13
      go_wp2_with fail
      refine (HN1.out _).mono ?_
      rintro e w' ⟨rfl, rfl⟩
      go_wp2_with fail
      refine (HN2.out _).mono ?_
      rintro e w' ⟨rfl, rfl⟩
      go_wp2_with fail
      refine (HN3.out _).mono ?_
      rintro e w' ⟨rfl, rfl⟩
      go_wp2_with fail
      refine (ref5_Need (vs.size : Int) _ (by omega)).mono ?_
      rintro e w' ⟨rfl, rfl⟩
      rw [HND1.out]
      go_wp2
      go_ret
      exact ⟨ret_bool HR.out.symm, HO.out⟩
    · by_cases hcn : cls = nd
      · have HR := Lib.hid (HM3.out.trans (decide_eq_true ⟨by omega, hk16', hv4', hcn.symm⟩))
        have qn : (cls == nd) = true := by simpa using hcn
        clear HM3 hcn e4
        go_enter Try.func13, Try.ntmps13
        go_wp2_with fail
        refine (HN1.out _).mono ?_
        rintro e w' ⟨rfl, rfl⟩
        go_wp2_with fail
        refine (HN2.out _).mono ?_
        rintro e w' ⟨rfl, rfl⟩
        go_wp2_with fail
        refine (HN3.out _).mono ?_
        rintro e w' ⟨rfl, rfl⟩
        go_wp2_with fail
        refine (ref5_Need ((ks.size : Int) + (vs.size : Int)) _ (by omega)).mono ?_
        rintro e w' ⟨rfl, rfl⟩
        rw [HNDG.out]
        go_wp2
        go_ret
        exact ⟨ret_bool HR.out.symm, HO.out⟩
      · have HR := Lib.hid (HM3.out.trans (decide_eq_false (fun h => hcn h.2.2.2.symm)))
        have qn : (cls == nd) = false := by simpa using hcn
        clear HM3 hcn e4
        go_enter Try.func13, Try.ntmps13
        go_wp2_with fail
        refine (HN1.out _).mono ?_
        rintro e w' ⟨rfl, rfl⟩
        go_wp2_with fail
        refine (HN2.out _).mono ?_
        rintro e w' ⟨rfl, rfl⟩
        go_wp2_with fail
        refine (HN3.out _).mono ?_
        rintro e w' ⟨rfl, rfl⟩
        go_wp2_with fail
        refine (ref5_Need ((ks.size : Int) + (vs.size : Int)) _ (by omega)).mono ?_
        rintro e w' ⟨rfl, rfl⟩
        rw [HNDG.out]
        go_wp2
        go_ret
        exact ⟨ret_bool HR.out.symm, HO.out⟩
  have q1 : (kind == 1) = false := by simpa using h1
  have HM3 := Lib.hid (HM2.out.trans (if_neg h1))
  clear HM2 h1
  by_cases h2 : kind = 2
  · subst h2
    have HM4 := Lib.hid (HM3.out.trans (if_pos rfl))
    clear HM3
    rcases str_cases ks with rfl | ⟨hp, e1, e2, e3, e4⟩
    · have HND1 := Lib.hid (need_e1 HNDG.out)
      by_cases hcn : cls = nd
      · have HR := Lib.hid (HM4.out.trans (decide_eq_true ⟨rfl, hv4', hcn.symm⟩))
        have qn : (cls == nd) = true := by simpa using hcn
        clear HM4 hcn
        go_enter Try.func13, Try.ntmps13
        go_wp2_with fail
        refine (HN1.out _).mono ?_
        rintro e w' ⟨rfl, rfl⟩
        go_wp2_with fail
        refine (HN2.out _).mono ?_
        rintro e w' ⟨rfl, rfl⟩
        go_wp2_with fail
        refine (HN3.out _).mono ?_
        rintro e w' ⟨rfl, rfl⟩
        go_wp2_with fail
        refine (ref5_Need (vs.size : Int) _ (by omega)).mono ?_
        rintro e w' ⟨rfl, rfl⟩
        rw [HND1.out]
        go_wp2
        go_ret
        exact ⟨ret_bool HR.out.symm, HO.out⟩
      · have HR := Lib.hid (HM4.out.trans (decide_eq_false (fun h => hcn h.2.2.symm)))
        have qn : (cls == nd) = false := by simpa using hcn
        clear HM4 hcn
        go_enter Try.func13, Try.ntmps13
        go_wp2_with fail
        refine (HN1.out _).mono ?_
        rintro e w' ⟨rfl, rfl⟩
        go_wp2_with fail
        refine (HN2.out _).mono ?_
        rintro e w' ⟨rfl, rfl⟩
        go_wp2_with fail
        refine (HN3.out _).mono ?_
        rintro e w' ⟨rfl, rfl⟩
        go_wp2_with fail
        refine (ref5_Need (vs.size : Int) _ (by omega)).mono ?_
        rintro e w' ⟨rfl, rfl⟩
        rw [HND1.out]
        go_wp2
        go_ret
        exact ⟨ret_bool HR.out.symm, HO.out⟩
    · have HR := Lib.hid (HM4.out.trans (decide_eq_false (fun h => by omega)))
      clear HM4 e4
      go_enter Try.func13, Try.ntmps13
      go_wp2_with fail
      refine (HN1.out _).mono ?_
      rintro e w' ⟨rfl, rfl⟩
      go_wp2_with fail
      refine (HN2.out _).mono ?_
      rintro e w' ⟨rfl, rfl⟩
      go_wp2_with fail
      refine (HN3.out _).mono ?_
      rintro e w' ⟨rfl, rfl⟩
      go_wp2_with fail
      refine (ref5_Need ((ks.size : Int) + (vs.size : Int)) _ (by omega)).mono ?_
      rintro e w' ⟨rfl, rfl⟩
      rw [HNDG.out]
      go_wp2
      go_ret
      exact ⟨ret_bool HR.out.symm, HO.out⟩
  have q2 : (kind == 2) = false := by simpa using h2
  have HM4 := Lib.hid (HM3.out.trans (if_neg h2))
  clear HM3 h2
  by_cases h3 : kind = 3
  · subst h3
    have HM5 := Lib.hid (HM4.out.trans (if_pos rfl))
    clear HM4
    rcases str_cases ks with rfl | ⟨hp, e1, e2, e3, e4⟩
    · have HND1 := Lib.hid (need_e1 HNDG.out)
      rcases str_cases vs with rfl | ⟨hp, e1, e2, e3, e4⟩
      · have HND2 := Lib.hid (need_e2 HND1.out)
        by_cases hc0 : cls = 0
        · have HR := Lib.hid (HM5.out.trans (decide_eq_true ⟨rfl, rfl, hc0⟩))
          have qn : (cls == 0) = true := by simpa using hc0
          clear HM5 hc0
          go_enter Try.func13, Try.ntmps13
          go_wp2_with fail
          refine (HN1.out _).mono ?_
          rintro e w' ⟨rfl, rfl⟩
          go_wp2_with fail
          refine (HN2.out _).mono ?_
          rintro e w' ⟨rfl, rfl⟩
          go_wp2_with fail
          refine (HN3.out _).mono ?_
          rintro e w' ⟨rfl, rfl⟩
          go_wp2_with fail
          refine (ref5_Need 0 _ (by omega)).mono ?_
          rintro e w' ⟨rfl, rfl⟩
          rw [HND2.out]
          go_wp2
          go_ret
          exact ⟨ret_bool HR.out.symm, HO.out⟩
        · have HR := Lib.hid (HM5.out.trans (decide_eq_false (fun h => hc0 h.2.2)))
          have qn : (cls == 0) = false := by simpa using hc0
          clear HM5 hc0
          go_enter Try.func13, Try.ntmps13
          go_wp2_with fail
          refine (HN1.out _).mono ?_
          rintro e w' ⟨rfl, rfl⟩
          go_wp2_with fail
          refine (HN2.out _).mono ?_
          rintro e w' ⟨rfl, rfl⟩
          go_wp2_with fail
          refine (HN3.out _).mono ?_
          rintro e w' ⟨rfl, rfl⟩
          go_wp2_with fail
          refine (ref5_Need 0 _ (by omega)).mono ?_
          rintro e w' ⟨rfl, rfl⟩
          rw [HND2.out]
          go_wp2
          go_ret
          exact ⟨ret_bool HR.out.symm, HO.out⟩
      · have HR := Lib.hid (HM5.out.trans (decide_eq_false (fun h => by omega)))
        clear HM5 e4
        go_enter Try.func13, Try.ntmps13
        go_wp2_with fail
        refine (HN1.out _).mono ?_
        rintro e w' ⟨rfl, rfl⟩
        go_wp2_with fail
        refine (HN2.out _).mono ?_
        rintro e w' ⟨rfl, rfl⟩
        go_wp2_with fail
        refine (HN3.out _).mono ?_
        rintro e w' ⟨rfl, rfl⟩
        go_wp2_with fail
        refine (ref5_Need (vs.size : Int) _ (by omega)).mono ?_
        rintro e w' ⟨rfl, rfl⟩
        rw [HND1.out]
        go_wp2
        go_ret
        exact ⟨ret_bool HR.out.symm, HO.out⟩
    · have HR := Lib.hid (HM5.out.trans (decide_eq_false (fun h => by omega)))
      clear HM5 e4
      go_enter Try.func13, Try.ntmps13
      go_wp2_with fail
      refine (HN1.out _).mono ?_
      rintro e w' ⟨rfl, rfl⟩
      go_wp2_with fail
      refine (HN2.out _).mono ?_
      rintro e w' ⟨rfl, rfl⟩
      go_wp2_with fail
      refine (HN3.out _).mono ?_
      rintro e w' ⟨rfl, rfl⟩
      go_wp2_with fail
      refine (ref5_Need ((ks.size : Int) + (vs.size : Int)) _ (by omega)).mono ?_
      rintro e w' ⟨rfl, rfl⟩
      rw [HNDG.out]
      go_wp2
      go_ret
      exact ⟨ret_bool HR.out.symm, HO.out⟩
  have q3 : (kind == 3) = false := by simpa using h3
  have HR := Lib.hid (HM4.out.trans (if_neg h3))
  clear h3 HM4
  go_enter Try.func13, Try.ntmps13
  go_wp2_with fail
  refine (HN1.out _).mono ?_
  rintro e w' ⟨rfl, rfl⟩
  go_wp2_with fail
  refine (HN2.out _).mono ?_
  rintro e w' ⟨rfl, rfl⟩
  go_wp2_with fail
  refine (HN3.out _).mono ?_
  rintro e w' ⟨rfl, rfl⟩
  go_wp2_with fail
  refine (ref5_Need ((ks.size : Int) + (vs.size : Int)) _ (by omega)).mono ?_
  rintro e w' ⟨rfl, rfl⟩
  rw [HNDG.out]
  go_wp2
  go_ret
  exact ⟨ret_bool HR.out.symm, HO.out⟩
end Go.Proofs.Ytkhfcghnodggeaa
