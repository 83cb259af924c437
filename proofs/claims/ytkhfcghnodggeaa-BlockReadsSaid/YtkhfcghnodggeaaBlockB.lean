/- The contract of block.May. -/
import Derived.Test.YtkhfcghnodggeaaBlockA
import Derived.Deep.MidRow
import Derived.Deep.QuietTactic
import Derived.BigQuiet
namespace Go.Proofs.Ytkhfcghnodggeaa
open Go.RowKit Go.Proofs.FuMem Go.Proofs.FuCode Go.Proofs.FuClass Go.Proofs.FuBlock Go.Proofs.FuEq
set_option maxRecDepth 100000
set_option maxHeartbeats 4000000 in
theorem block_May (cls kind : Int) (id ver ep : Nat) (ks vs : ByteArray) (w : World) (hc : -9223372036854775808 ≤ cls ∧ cls ≤ 9223372036854775807) (hi : id < 18446744073709551616) (hv : ver < 18446744073709551616) (he : ep < 18446744073709551616)
    (hks : ks.size ≤ 1000000) (hvs : vs.size ≤ 1000000) :
    Calls Try.prog 12 #[blockV cls kind id ver ep ks vs] w fun e w' => e = .returned (.bool (may (mkB cls kind id ver ep ks vs))) ∧ Only [] w w' := by
  have HSP := Lib.hid (fun w => class_Span cls w hc)
  have ol : ks.data.toList.length = ks.size := by simp
  have ol2 : vs.data.toList.length = vs.size := by simp
  have o1 : Only [] w (w.alloc (.cells #[.int .i64 cls, .int .i64 kind, .int .u64 id, .int .u64 ver, .int .u64 ep, .string ks, .string vs] 24)) := (Only.refl _ _).alloc _
  have HO := Lib.hid o1
  have HB := Lib.hid (Blk.new w 24 #[.int .i64 cls, .int .i64 kind, .int .u64 id, .int .u64 ver, .int .u64 ep, .string ks, .string vs])
  clear o1
  by_cases hs : span cls = 0
  · have hm : may (mkB cls kind id ver ep ks vs) = false := by
      have := span_cases cls
      unfold may mkB
      rw [decide_eq_false (by simp only; omega)]
      rfl
    have HM := Lib.hid hm
    rw [hs] at HSP
    clear hs hm
    go_enter Try.func12, Try.ntmps12
    go_wp2_with fail
    refine (HSP.out _).mono ?_
    rintro e w' ⟨rfl, rfl⟩
    go_wp2
    go_ret
    exact ⟨ret_bool HM.out.symm, HO.out⟩
  have hs0 : (((span cls : Nat) : Int) == 0) = false := by simpa using hs
  have hc03 : 0 ≤ cls ∧ cls ≤ 3 := by have := span_cases cls; omega
  have hmay : may (mkB cls kind id ver ep ks vs) = (if kind = 0 then decide (id = 0 ∧ ver = 0 ∧ ep = 0 ∧ ks.data.toList = [] ∧ vs.data.toList = [])
      else (number id && number ver && number ep) &&
        if kind = 1 then decide (1 ≤ ks.size ∧ ks.size ≤ 16 ∧ vs.size ≤ 400 ∧ need (ks.size + vs.size : Nat) = cls)
        else if kind = 2 then decide (ks.size = 0 ∧ vs.size ≤ 400 ∧ need (ks.size + vs.size : Nat) = cls)
        else if kind = 3 then decide (ks.size = 0 ∧ vs.size = 0 ∧ cls = 0)
        else false) := by
    unfold may mkB
    simp only [ol, ol2]
    rw [decide_eq_true hc03, Bool.true_and]
  have HM := Lib.hid hmay
  clear hmay hs ol ol2
  by_cases h0 : kind = 0
  · subst h0
    have HM0 := Lib.hid (HM.out.trans (if_pos rfl))
    clear HM
    have heq := fun (a b : Operand) (w : World) => run_eqGuard_agg (P := Try.prog) w .eql 24 a b #[.int .i64 cls, .int .i64 0, .int .u64 id, .int .u64 ver, .int .u64 ep, .string ks, .string vs] #[.int .i64 cls, .int .i64 0, .int .u64 0, .int .u64 0, .int .u64 0, .string ⟨#[]⟩, .string ⟨#[]⟩] blockGuard
    have hbin : ∀ w : World, (binOp .eql 24 (.agg #[.int .i64 cls, .int .i64 0, .int .u64 id, .int .u64 ver, .int .u64 ep, .string ks, .string vs]) (.agg #[.int .i64 cls, .int .i64 0, .int .u64 0, .int .u64 0, .int .u64 0, .string ⟨#[]⟩, .string ⟨#[]⟩])).run Try.prog w = .ok (.bool (same (mkB cls 0 id ver ep ks vs) (mkB cls 0 0 0 0 ⟨#[]⟩ ⟨#[]⟩))) w := fun w => eql_block cls 0 id ver ep ks vs cls 0 0 0 0 ⟨#[]⟩ ⟨#[]⟩ w
    have hsame : same (mkB cls 0 id ver ep ks vs) (mkB cls 0 0 0 0 ⟨#[]⟩ ⟨#[]⟩) = decide (id = 0 ∧ ver = 0 ∧ ep = 0 ∧ ks.data.toList = [] ∧ vs.data.toList = []) := by
      rw [Bool.eq_iff_iff, same_iff, decide_eq_true_eq]
      simp [mkB]
    have HSM := Lib.hid hsame
    clear hsame
    generalize same (mkB cls 0 id ver ep ks vs) (mkB cls 0 0 0 0 ⟨#[]⟩ ⟨#[]⟩) = sb at *
    go_enter Try.func12, Try.ntmps12
    go_wp2_with fail
    refine (HSP.out _).mono ?_
    rintro e w' ⟨rfl, rfl⟩
    go_wp2_with ((with_reducible show wpList _ _ _ (Oper.mk (some 25) _ _ _ _ _ :: _) _ _); refine wpList_load_mid rfl 24 (.tmp 1) rfl w.heap.size 0 rfl [.int .i64 cls, .int .i64 0, .int .u64 id, .int .u64 ver, .int .u64 ep, .string ks, .string vs] _ (fun j v hj => by rw [Nat.zero_add, HB.out.cell, List.getElem?_toArray.symm]; exact hj) Try.underlying24 rfl (by kernel_rfl) ?_)
    go_ret
    exact ⟨ret_bool (HSM.out.trans HM0.out.symm), HO.out⟩
  have HN1 := Lib.hid (fun w => block_number id w hi)
  have HN2 := Lib.hid (fun w => block_number ver w hv)
  have HN3 := Lib.hid (fun w => block_number ep w he)
  have q0 : (kind == 0) = false := by simpa using h0
  have HM1 := Lib.hid (HM.out.trans (if_neg h0))
  clear HM h0 hi hv he
  generalize number id = b1 at *
  generalize number ver = b2 at *
  generalize number ep = b3 at *
  by_cases h1 : kind = 1
  · subst h1
    have HM2 := Lib.hid (HM1.out.trans (by rw [if_pos rfl]))
    clear HM1
    by_cases ha : ks.size < 1
    · have qa : decide ((ks.size : Int) < 1) = true := by rw [decide_eq_true_eq]; omega
      have HR := Lib.hid (HM2.out.trans (by rw [decide_eq_false (by omega), Bool.and_false]))
      clear ha HM2
      go_enter Try.func12, Try.ntmps12
      go_wp2_with fail
      refine (HSP.out _).mono ?_
      rintro e w' ⟨rfl, rfl⟩
      go_wp2
      go_ret
      exact ⟨ret_bool HR.out.symm, HO.out⟩
    have qa : decide ((ks.size : Int) < 1) = false := by rw [decide_eq_false_iff_not]; omega
    by_cases hb : 16 < ks.size
    · have qb : decide ((16 : Int) < (ks.size : Int)) = true := by rw [decide_eq_true_eq]; omega
      have HR := Lib.hid (HM2.out.trans (by rw [decide_eq_false (by omega), Bool.and_false]))
      clear ha hb HM2
      go_enter Try.func12, Try.ntmps12
      go_wp2_with fail
      refine (HSP.out _).mono ?_
      rintro e w' ⟨rfl, rfl⟩
      go_wp2
      go_ret
      exact ⟨ret_bool HR.out.symm, HO.out⟩
    have qb : decide ((16 : Int) < (ks.size : Int)) = false := by rw [decide_eq_false_iff_not]; omega
    have e1 : (ks.size : Int) + (vs.size : Int) - (ks.size : Int) = (vs.size : Int) := by omega
    have E1 := Lib.hid e1
    have hn0 : (0 : Int) ≤ (ks.size : Int) + (vs.size : Int) := by omega
    have hn1 : (ks.size : Int) + (vs.size : Int) ≤ 2000000 := by omega
    have e2 : IntKind.i64.wrap ((ks.size : Int) + (vs.size : Int)) = (ks.size : Int) + (vs.size : Int) := by rw [IntKind.wrap_i64]; omega
    have E2 := Lib.hid e2
    clear e1 e2
    by_cases hd : 400 < vs.size
    · have qd : decide ((400 : Int) < (vs.size : Int)) = true := by rw [decide_eq_true_eq]; omega
      have HR := Lib.hid (HM2.out.trans (by rw [decide_eq_false (by omega), Bool.and_false]))
      clear ha hb hd HM2
      go_enter Try.func12, Try.ntmps12
      go_wp2_with fail
      refine (HSP.out _).mono ?_
      rintro e w' ⟨rfl, rfl⟩
      go_wp2
      rw [E1.out]
      go_quiet (fail)
      go_wp2
      go_ret
      exact ⟨ret_bool HR.out.symm, HO.out.drewN _⟩
    have qd : decide ((400 : Int) < (vs.size : Int)) = false := by rw [decide_eq_false_iff_not]; omega
    have HND := Lib.hid (fun w => Calls.flip (class_Need ((ks.size : Int) + (vs.size : Int)) w (by omega)))
    by_cases hn : need ((ks.size + vs.size : Nat) : Int) = cls
    · have hn' : need ((ks.size : Int) + (vs.size : Int)) = cls := by rw [← hn]; congr 1
      have qn : (need ((ks.size : Int) + (vs.size : Int)) != cls) = false := by simpa using hn'
      have HR := Lib.hid (HM2.out.trans (by rw [decide_eq_true (by omega), Bool.and_true]))
      have e2 := E2.out
      clear ha hb hd HM2 hn hn'
      generalize need ((ks.size : Int) + (vs.size : Int)) = nd at *
      go_enter Try.func12, Try.ntmps12
      go_wp2_with fail
      refine (HSP.out _).mono ?_
      rintro e w' ⟨rfl, rfl⟩
      go_wp2
      rw [E1.out]
      go_quiet ((go_at_call 30; exact Calls.quiet_of_same (HND.out _)))
      clear e2
      cases b1
      · go_wp2_with fail
        refine (HN1.out _).mono ?_
        rintro e w' ⟨rfl, rfl⟩
        go_wp2
        go_ret
        exact ⟨ret_bool HR.out.symm, HO.out.drewN _⟩
      · cases b2
        · go_wp2_with fail
          refine (HN1.out _).mono ?_
          rintro e w' ⟨rfl, rfl⟩
          go_wp2_with fail
          refine (HN2.out _).mono ?_
          rintro e w' ⟨rfl, rfl⟩
          go_wp2
          go_ret
          exact ⟨ret_bool HR.out.symm, HO.out.drewN _⟩
        · go_wp2_with fail
          refine (HN1.out _).mono ?_
          rintro e w' ⟨rfl, rfl⟩
          go_wp2_with fail
          refine (HN2.out _).mono ?_
          rintro e w' ⟨rfl, rfl⟩
          go_wp2_with fail
          refine (HN3.out _).mono ?_
          rintro e w' ⟨rfl, rfl⟩
          go_wp2
          go_ret
          exact ⟨ret_bool HR.out.symm, HO.out.drewN _⟩
    · have hn' : need ((ks.size : Int) + (vs.size : Int)) ≠ cls := fun h => hn (by rw [← h]; congr 1)
      have qn : (need ((ks.size : Int) + (vs.size : Int)) != cls) = true := by simpa using hn'
      have HR := Lib.hid (HM2.out.trans (by rw [decide_eq_false (fun h => hn h.2.2.2), Bool.and_false]))
      have e2 := E2.out
      clear ha hb hd HM2 hn hn'
      generalize need ((ks.size : Int) + (vs.size : Int)) = nd at *
      go_enter Try.func12, Try.ntmps12
      go_wp2_with fail
      refine (HSP.out _).mono ?_
      rintro e w' ⟨rfl, rfl⟩
      go_wp2
      rw [E1.out]
      go_quiet ((go_at_call 30; exact Calls.quiet_of_same (HND.out _)))
      go_wp2
      go_ret
      exact ⟨ret_bool HR.out.symm, HO.out.drewN _⟩
  have q1 : (kind == 1) = false := by simpa using h1
  by_cases h2 : kind = 2
  · subst h2
    have HM2 := Lib.hid (HM1.out.trans (by rw [if_neg (by decide), if_pos rfl]))
    clear HM1 h1 q0 q1
    by_cases hk0 : ks.size = 0
    · obtain rfl : ks = ⟨#[]⟩ := by
        obtain ⟨⟨l⟩⟩ := ks
        have : l.length = 0 := hk0
        rw [List.length_eq_zero_iff.1 this]
      by_cases hd : 400 < vs.size
      · have qd : decide ((400 : Int) < (vs.size : Int)) = true := by rw [decide_eq_true_eq]; omega
        have HR := Lib.hid (HM2.out.trans (by rw [decide_eq_false (by omega), Bool.and_false]))
        clear hd HM2 hk0 hks
        go_enter Try.func12, Try.ntmps12
        go_wp2_with fail
        refine (HSP.out _).mono ?_
        rintro e w' ⟨rfl, rfl⟩
        go_wp2
        go_quiet (fail)
        go_wp2
        go_ret
        exact ⟨ret_bool HR.out.symm, HO.out.drewN _⟩
      have qd : decide ((400 : Int) < (vs.size : Int)) = false := by rw [decide_eq_false_iff_not]; omega
      have HND := Lib.hid (fun w => Calls.flip (class_Need (vs.size : Int) w (by omega)))
      have hz : (vs.size : Int) = (((⟨#[]⟩ : ByteArray).size + vs.size : Nat) : Int) := by rw [show (⟨#[]⟩ : ByteArray).size = 0 from rfl, Nat.zero_add]
      by_cases hn : need (vs.size : Int) = cls
      · have qn : (need (vs.size : Int) != cls) = false := by simpa using hn
        have HR := Lib.hid (HM2.out.trans (by rw [decide_eq_true ⟨rfl, by omega, by rw [← hz]; exact hn⟩, Bool.and_true]))
        clear hd HM2 hn hk0 hks hz
        generalize need (vs.size : Int) = nd at *
        go_enter Try.func12, Try.ntmps12
        go_wp2_with fail
        refine (HSP.out _).mono ?_
        rintro e w' ⟨rfl, rfl⟩
        go_wp2
        go_quiet ((go_at_call 30; exact Calls.quiet_of_same (HND.out _)))
        cases b1
        · go_wp2_with fail
          refine (HN1.out _).mono ?_
          rintro e w' ⟨rfl, rfl⟩
          go_wp2
          go_ret
          exact ⟨ret_bool HR.out.symm, HO.out.drewN _⟩
        · cases b2
          · go_wp2_with fail
            refine (HN1.out _).mono ?_
            rintro e w' ⟨rfl, rfl⟩
            go_wp2_with fail
            refine (HN2.out _).mono ?_
            rintro e w' ⟨rfl, rfl⟩
            go_wp2
            go_ret
            exact ⟨ret_bool HR.out.symm, HO.out.drewN _⟩
          · go_wp2_with fail
            refine (HN1.out _).mono ?_
            rintro e w' ⟨rfl, rfl⟩
            go_wp2_with fail
            refine (HN2.out _).mono ?_
            rintro e w' ⟨rfl, rfl⟩
            go_wp2_with fail
            refine (HN3.out _).mono ?_
            rintro e w' ⟨rfl, rfl⟩
            go_wp2
            go_ret
            exact ⟨ret_bool HR.out.symm, HO.out.drewN _⟩
      · have qn : (need (vs.size : Int) != cls) = true := by simpa using hn
        have HR := Lib.hid (HM2.out.trans (by rw [decide_eq_false (fun h => hn (by rw [hz]; exact h.2.2)), Bool.and_false]))
        clear hd HM2 hn hk0 hks hz
        generalize need (vs.size : Int) = nd at *
        go_enter Try.func12, Try.ntmps12
        go_wp2_with fail
        refine (HSP.out _).mono ?_
        rintro e w' ⟨rfl, rfl⟩
        go_wp2
        go_quiet ((go_at_call 30; exact Calls.quiet_of_same (HND.out _)))
        go_wp2
        go_ret
        exact ⟨ret_bool HR.out.symm, HO.out.drewN _⟩
    · have hne : ks.toList.isEmpty = false := by
        rw [ByteArray.toList_eq]
        cases hl : ks.data.toList with
        | nil => exact absurd (by have := congrArg List.length hl; simpa using this) hk0
        | cons a l => rfl
      have hne2 : ks.toList ≠ [] := fun h => by rw [h] at hne; cases hne
      have hne3 : (ks.toList == []) = false := by simpa using hne2
      have HR := Lib.hid (HM2.out.trans (by rw [decide_eq_false (fun h => hk0 h.1), Bool.and_false]))
      clear HM2 hk0
      go_enter Try.func12, Try.ntmps12
      go_wp2_with fail
      refine (HSP.out _).mono ?_
      rintro e w' ⟨rfl, rfl⟩
      go_wp2
      go_quiet (fail)
      go_wp2
      go_ret
      exact ⟨ret_bool HR.out.symm, HO.out.drewN _⟩
  have q2 : (kind == 2) = false := by simpa using h2
  by_cases h3 : kind = 3
  · subst h3
    have HM2 := Lib.hid (HM1.out.trans (by rw [if_neg (by decide), if_neg (by decide), if_pos rfl]))
    clear HM1 h1 h2 q0 q1 q2
    by_cases hk0 : ks.size = 0 ∧ vs.size = 0
    · have qa : ((ks.size : Int) + (vs.size : Int) != 0) = false := by rw [bne_eq_false_iff_eq]; omega
      by_cases hc0 : cls = 0
      · have qc : (cls != 0) = false := by simpa using hc0
        have HR := Lib.hid (HM2.out.trans (by rw [decide_eq_true ⟨hk0.1, hk0.2, hc0⟩, Bool.and_true]))
        clear HM2 hk0 hc0
        go_enter Try.func12, Try.ntmps12
        go_wp2_with fail
        refine (HSP.out _).mono ?_
        rintro e w' ⟨rfl, rfl⟩
        cases b1
        · go_wp2_with fail
          refine (HN1.out _).mono ?_
          rintro e w' ⟨rfl, rfl⟩
          go_wp2
          go_ret
          exact ⟨ret_bool HR.out.symm, HO.out⟩
        · cases b2
          · go_wp2_with fail
            refine (HN1.out _).mono ?_
            rintro e w' ⟨rfl, rfl⟩
            go_wp2_with fail
            refine (HN2.out _).mono ?_
            rintro e w' ⟨rfl, rfl⟩
            go_wp2
            go_ret
            exact ⟨ret_bool HR.out.symm, HO.out⟩
          · go_wp2_with fail
            refine (HN1.out _).mono ?_
            rintro e w' ⟨rfl, rfl⟩
            go_wp2_with fail
            refine (HN2.out _).mono ?_
            rintro e w' ⟨rfl, rfl⟩
            go_wp2_with fail
            refine (HN3.out _).mono ?_
            rintro e w' ⟨rfl, rfl⟩
            go_wp2
            go_ret
            exact ⟨ret_bool HR.out.symm, HO.out⟩
      · have qc : (cls != 0) = true := by simpa using hc0
        have HR := Lib.hid (HM2.out.trans (by rw [decide_eq_false (fun h => hc0 h.2.2), Bool.and_false]))
        clear HM2 hk0 hc0
        go_enter Try.func12, Try.ntmps12
        go_wp2_with fail
        refine (HSP.out _).mono ?_
        rintro e w' ⟨rfl, rfl⟩
        go_wp2
        go_ret
        exact ⟨ret_bool HR.out.symm, HO.out⟩
    · have qa : ((ks.size : Int) + (vs.size : Int) != 0) = true := by rw [bne_iff_ne]; omega
      have HR := Lib.hid (HM2.out.trans (by rw [decide_eq_false (fun h => hk0 ⟨h.1, h.2.1⟩), Bool.and_false]))
      clear HM2 hk0
      go_enter Try.func12, Try.ntmps12
      go_wp2_with fail
      refine (HSP.out _).mono ?_
      rintro e w' ⟨rfl, rfl⟩
      go_wp2
      go_ret
      exact ⟨ret_bool HR.out.symm, HO.out⟩
  have q3 : (kind == 3) = false := by simpa using h3
  have HR := Lib.hid (HM1.out.trans (by rw [if_neg h1, if_neg h2, if_neg h3, Bool.and_false]))
  clear h1 h2 h3 HM1
  go_enter Try.func12, Try.ntmps12
  go_wp2_with fail
  refine (HSP.out _).mono ?_
  rintro e w' ⟨rfl, rfl⟩
  go_wp2
  go_ret
  exact ⟨ret_bool HR.out.symm, HO.out⟩
end Go.Proofs.Ytkhfcghnodggeaa
