/- The walk of the statement NvmCopies. -/
import Derived.Test.YtfafpggppbolkaaSorted
import Derived.Test.YtfafpggppbolkaaNvmH
set_option maxRecDepth 100000
namespace Go.Proofs.Ytfafpggppbolkaa
open Go.RowKit Go.Proofs.FuMem Go.Proofs.FuNvm Go.Proofs.FuCode
/-- do two devices' counts agree? -/
def sameCounts (D E : Dev) : Bool := D.stores == E.stores && (D.flushes == E.flushes && (D.fences == E.fences && (D.backs == E.backs && D.cuts == E.cuts)))
theorem sameCounts_refl (D : Dev) : sameCounts D D = true := by simp [sameCounts]
theorem eqFields_cons {P : Program} (d : Nat) (xs ys : Array Value) (f : Field) (fs : List Field) (a b : Value) (r : Bool) (w : World) (hn : f.name ≠ "_") (ha : (part f.type xs f.offset).run P w = .ok a w) (hb : (part f.type ys f.offset).run P w = .ok b w)
    (hr : (Op.equalIn d f.type a b).run P w = .ok r w) (s : Bool) (hs : (Op.eqFields d xs ys fs).run P w = .ok s w) : (Op.eqFields d xs ys (f :: fs)).run P w = .ok (r && s) w := by
  unfold Op.eqFields
  rw [if_pos hn]
  simp only [Sem.run_bind, ha, hb, hr, Result.andThen_ok]
  cases r
  · simp
  · simp [hs]
theorem eqFields_nil {P : Program} (d : Nat) (xs ys : Array Value) (w : World) : (Op.eqFields d xs ys []).run P w = .ok true w := by simp [Op.eqFields]
theorem counts_equal (D E : Dev) (w : World) : (Op.equalIn 10000 74 (countsV D) (countsV E)).run Try.prog w = .ok (sameCounts D E) w := by
  rw [run_equalIn_struct w 9999 74 _ _ (by kernel_rfl) (by kernel_rfl)]
  have hf : (Try.prog.fieldsOf 74).toList.map (fun f => (f.type, f.offset, decide (f.name = "_"))) = [(3, 0, false), (3, 1, false), (3, 2, false), (3, 3, false), (3, 4, false)] := by kernel_rfl
  generalize (Try.prog.fieldsOf 74).toList = fs at *
  obtain ⟨f0, f1, f2, f3, f4, rfl⟩ : ∃ f0 f1 f2 f3 f4, fs = [f0, f1, f2, f3, f4] := by
    have hl := congrArg List.length hf
    rw [List.length_map] at hl
    rcases fs with _ | ⟨f0, _ | ⟨f1, _ | ⟨f2, _ | ⟨f3, _ | ⟨f4, _ | ⟨f5, fs⟩⟩⟩⟩⟩⟩
    · simp at hl
    · simp at hl
    · simp at hl
    · simp at hl
    · simp at hl
    · exact ⟨_, _, _, _, _, rfl⟩
    · simp at hl
  · simp only [List.map_cons, List.map_nil, List.cons.injEq, Prod.mk.injEq, decide_eq_false_iff_not, and_true] at hf
    obtain ⟨⟨t0, o0, n0⟩, ⟨t1, o1, n1⟩, ⟨t2, o2, n2⟩, ⟨t3, o3, n3⟩, ⟨t4, o4, n4⟩⟩ := hf
    have hp : ∀ (xs : Array Value) (k : Nat) (v : Value), xs[k]? = some v → (part 3 xs k).run Try.prog w = .ok v w := fun xs k v h => by
      simp [part, isAgg, run_underlying Try.underlying3, h]
    have hq : ∀ a b : Int, (Op.equalIn 9999 3 (.int .i64 a) (.int .i64 b)).run Try.prog w = .ok (a == b) w := fun a b => run_equalIn_int (P := Try.prog) w 9998 3 .i64 .i64 a b Try.underlying3
    have key := eqFields_cons (P := Try.prog) 9999 #[.int .i64 D.stores, .int .i64 D.flushes, .int .i64 D.fences, .int .i64 D.backs, .int .i64 D.cuts] #[.int .i64 E.stores, .int .i64 E.flushes, .int .i64 E.fences, .int .i64 E.backs, .int .i64 E.cuts]
    have := key f0 _ _ _ _ w n0 (by rw [t0, o0]; exact hp _ 0 _ rfl) (by rw [t0, o0]; exact hp _ 0 _ rfl) (by rw [t0]; exact hq _ _) _
      (key f1 _ _ _ _ w n1 (by rw [t1, o1]; exact hp _ 1 _ rfl) (by rw [t1, o1]; exact hp _ 1 _ rfl) (by rw [t1]; exact hq _ _) _
      (key f2 _ _ _ _ w n2 (by rw [t2, o2]; exact hp _ 2 _ rfl) (by rw [t2, o2]; exact hp _ 2 _ rfl) (by rw [t2]; exact hq _ _) _
      (key f3 _ _ _ _ w n3 (by rw [t3, o3]; exact hp _ 3 _ rfl) (by rw [t3, o3]; exact hp _ 3 _ rfl) (by rw [t3]; exact hq _ _) _
      (key f4 _ _ _ _ w n4 (by rw [t4, o4]; exact hp _ 4 _ rfl) (by rw [t4, o4]; exact hp _ 4 _ rfl) (by rw [t4]; exact hq _ _) _ (eqFields_nil _ _ _ w)))))
    rw [this]
    simp [sameCounts]
theorem neq_counts (D E : Dev) (w : World) : (binOp .neq 74 (countsV D) (countsV E)).run Try.prog w = .ok (.bool (!sameCounts D E)) w := by
  unfold countsV
  rw [run_neq_struct]
  have := counts_equal D E w
  unfold countsV at this
  rw [this]
  rfl
theorem eql_counts (D E : Dev) (w : World) : (binOp .eql 74 (countsV D) (countsV E)).run Try.prog w = .ok (.bool (sameCounts D E)) w := by
  unfold countsV
  rw [run_eql_struct]
  have := counts_equal D E w
  unfold countsV at this
  rw [this]
  rfl
theorem countsGuard : Try.prog.eqGuardType Try.prog.depth 74 = false := by kernel_rfl
set_option maxHeartbeats 8000000 in
theorem walk_NvmCopies (A : Option Addr) (n c : Nat) (xs : List (Deed × Holds)) (A' : Option Addr) (n' c' : Nat) (ys : List (Deed × Holds)) (w : World) (h : Deeds w A n xs) (_hc : n ≤ c) (h' : Deeds w A' n' ys) (_hc' : n' ≤ c') :
    Calls Try.prog 13 #[.slice A n c, .slice A' n' c'] w fun e w' => e = .returned (.bool true) ∧ Only [] w w' := by
  have HL := Lib.hid (law3_large A n c xs w h)
  have HL' := Lib.hid (law3_large A' n' c' ys w h')
  by_cases hlg : isLarge xs = true
  · rw [hlg] at HL
    clear h h'
    go_enter Try.func13, Try.ntmps13
    go_wp2_with fail
    refine (HL.out).mono ?_
    rintro e w' ⟨rfl, rfl⟩
    go_wp2_with fail
    refine (law3_awake _).mono ?_
    rintro e w1 ⟨rfl, o1⟩
    have O1 := Lib.hid o1
    clear o1
    go_wp2
    go_ret
    exact ⟨rfl, O1.out⟩
  have hf : isLarge xs = false := by simpa using hlg
  rw [hf] at HL
  by_cases hlg' : isLarge ys = true
  · rw [hlg'] at HL'
    clear h h' hlg
    go_enter Try.func13, Try.ntmps13
    go_wp2_with fail
    refine (HL.out).mono ?_
    rintro e w' ⟨rfl, rfl⟩
    go_wp2_with fail
    refine (HL'.out).mono ?_
    rintro e w' ⟨rfl, rfl⟩
    go_wp2_with fail
    refine (law3_awake _).mono ?_
    rintro e w1 ⟨rfl, o1⟩
    have O1 := Lib.hid o1
    clear o1
    go_wp2
    go_ret
    exact ⟨rfl, O1.out⟩
  have hf' : isLarge ys = false := by simpa using hlg'
  rw [hf'] at HL'
  obtain ⟨_, hsm⟩ := large_no hf
  obtain ⟨_, hsm'⟩ := large_no hf'
  have HS := Lib.hid (fun w' (o : Only [] w w') => law3_some A n c xs w' (h.only0 o) hsm)
  obtain ⟨hl, hm, hok, hr⟩ := h'
  unfold maxLen at hm
  have HOK := Lib.hid hok
  have HR := Lib.hid hr
  have HLN := Lib.hid hl
  have HSM := Lib.hid hsm'
  clear h hlg hf hsm hlg' hf' hsm' hok hr hl
  have H8 := Lib.hid (playAll_8 xs)
  generalize playAll (newDev 8) xs = D at *
  have hcq := counts_equal D D
  go_enter Try.func13, Try.ntmps13
  go_wp2_with fail
  refine (HL.out).mono ?_
  rintro e w' ⟨rfl, rfl⟩
  go_wp2_with fail
  refine (HL'.out).mono ?_
  rintro e w' ⟨rfl, rfl⟩
  go_wp2_with fail
  refine (HS.out _ (Only.refl _ _)).mono ?_
  rintro e w1 ⟨g1, b1, rfl, d1, o1, f1, f2⟩
  have hg1 := d1.lt1
  have hb1 := d1.lt2
  have D1 := Lib.hid d1
  have O1 := Lib.hid o1
  clear d1 o1
  go_wp2_with fail
  refine (HS.out _ O1.out).mono ?_
  rintro e w2 ⟨g2, b2, rfl, d2, o2, f3, f4⟩
  have hg2 := d2.lt1
  have hb2 := d2.lt2
  have hs2 := o2.size
  have D2 := Lib.hid d2
  have E2 := Lib.hid (D1.out.only0 o2)
  have O2 := Lib.hid (O1.out.trans0 o2)
  clear d2 o2
  go_wp2_with fail
  refine (nvm_Copy g1 b1 8 D _ E2.out).mono ?_
  rintro e w3 ⟨g3, b3, cap3, rfl, d3, o3, f5, f6⟩
  have hs3 := o3.size
  have hg3 := d3.lt1
  have hb3 := d3.lt2
  have C3 := Lib.hid d3
  have D3 := Lib.hid (D2.out.only0 o3)
  have E3 := Lib.hid (E2.out.only0 o3)
  have O3 := Lib.hid (O2.out.trans0 o3)
  clear d3 o3
  go_wp2_with fail
  refine (nvm_Lines g3 b3 cap3 D _ C3.out).mono ?_
  rintro e w' ⟨rfl, rfl⟩
  rw [H8.out]
  go_wp2_with fail
  refine (nvm_Counts g3 b3 cap3 D _ C3.out).mono ?_
  rintro e w4 ⟨rfl, o4⟩
  have C4 := Lib.hid (C3.out.only0 o4)
  have D4 := Lib.hid (D3.out.only0 o4)
  have E4 := Lib.hid (E3.out.only0 o4)
  have O4 := Lib.hid (O3.out.trans0 o4)
  clear o4
  go_wp2_with fail
  refine (nvm_Counts g1 b1 8 D _ E4.out).mono ?_
  rintro e w5 ⟨rfl, o5⟩
  have C5 := Lib.hid (C4.out.only0 o5)
  have D5 := Lib.hid (D4.out.only0 o5)
  have E5 := Lib.hid (E4.out.only0 o5)
  have O5 := Lib.hid (O4.out.trans0 o5)
  clear o5
  have hnc := neq_counts D D
  rw [sameCounts_refl] at hnc
  have hgc := fun (a b : Operand) (w : World) => run_eqGuard_agg (P := Try.prog) w .neq 74 a b #[.int .i64 D.stores, .int .i64 D.flushes, .int .i64 D.fences, .int .i64 D.backs, .int .i64 D.cuts] #[.int .i64 D.stores, .int .i64 D.flushes, .int .i64 D.fences, .int .i64 D.backs, .int .i64 D.cuts] countsGuard
  clear hcq
  go_wp2
  clear hnc hgc
  go_loopw [8] (fun i wr => ∃ (j : Nat) (F : Dev), j ≤ n' ∧ i = .int .i64 j ∧ DevAt wr g3 b3 cap3 F ∧ DevAt wr g2 b2 8 D ∧ DevAt wr g1 b1 8 D ∧ Only [] w wr) (fun i _ => n' - (intOf i).toNat)
  case atStart => exact ⟨0, D, Nat.zero_le _, rfl, C5.out, D5.out, E5.out, O5.out⟩
  case round =>
    obtain ⟨j, F, hj, rfl, hdc, hd2, hd1, on⟩ := hrel
    by_cases hlt : j < n'
    · rcases HR.out with h0 | ⟨b, off, rfl, hrng⟩
      · omega
      have hxk : ys[j]? = some (ys[j]'(by rw [HLN.out]; exact hlt)) := List.getElem?_eq_getElem _
      have hmem : ys[j]'(by rw [HLN.out]; exact hlt) ∈ ys := List.getElem_mem _
      have hrg := hrng j _ hxk
      have hok := HOK.out _ hmem
      have hsk := (HSM.out _ hmem).2
      clear hrng hmem hxk
      generalize ys[j]'(by rw [HLN.out]; exact hlt) = y at *
      obtain ⟨y, s⟩ := y
      have hrw : wr.rangeAt b (off + j * 5) (deedV y s) := fun j v hv => by
        have hc := hrg j v hv
        rw [cell_only on (lt_of_cell hc) (by simp)]
        exact hc
      have HP := Lib.hid (law3_play g3 b3 cap3 _ y s w wr hok on (by omega) (by omega) hdc (by simp only at hsk; omega))
      have ON := Lib.hid on
      have H1 := Lib.hid hd1
      have H2 := Lib.hid hd2
      clear hok hrg hdc hd1 hd2 on hsk
      go_wp2_with ((with_reducible show wpList _ _ _ (Oper.mk (some 61) _ _ _ _ _ :: _) _ _); refine wpList_load_mid rfl 36 (.tmp 60) rfl b (off + j * 5) rfl (deedV y s) _ hrw Try.underlying36 rfl (by kernel_rfl) ?_)
      refine HP.out.mono ?_
      rintro e w6 ⟨rfl, d6, o6⟩
      have C6 := Lib.hid d6
      have K1 := Lib.hid (IsDev.only H1.out o6 (by simp; omega) (by simp; omega))
      have K2 := Lib.hid (IsDev.only H2.out o6 (by simp; omega) (by simp; omega))
      have O6 := Lib.hid (ON.out.trans o6 (by intro b hb; simp at hb; omega))
      clear d6 o6 hrw
      go_wp2
      go_roundw
      case rel => exact ⟨j + 1, _, by omega, by go_num, C6.out, K2.out, K1.out, O6.out⟩
      case measure => simp [intOf]; omega
    · obtain rfl : j = n' := by omega
      have ON := Lib.hid on
      have H1 := Lib.hid hd1
      have H2 := Lib.hid hd2
      clear hdc hd1 hd2 on
      go_wp2
      go_loopw [9, 10, 11, 12, 13, 14, 15, 16, 17] (fun i _ _ _ _ _ _ _ _ wr => ∃ (k : Nat), k ≤ 8 ∧ i = .int .i64 k ∧ DevAt wr g2 b2 8 D ∧ DevAt wr g1 b1 8 D ∧ Only [] w wr) (fun i _ _ _ _ _ _ _ _ _ => 8 - (intOf i).toNat)
      case atStart => exact ⟨0, by omega, rfl, H2.out, H1.out, ON.out⟩
      case round =>
        obtain ⟨k, hk, rfl, hd2, hd1, on⟩ := hrel
        have K1 := Lib.hid hd1
        have K2 := Lib.hid hd2
        have ON := Lib.hid on
        clear hd1 hd2 on
        by_cases hlt : k < 8
        · have hx := lineOf_get (D := D) (i := k) (by rw [H8.out]; exact hlt)
          generalize lineOf D (k : Int) = x at *
          have HX := Lib.hid hx
          clear hx
          go_wp2_with fail
          refine (nvm_Load g1 b1 8 D k x HX.out _ K1.out).mono ?_
          rintro e w6 ⟨v6, rfl, m6⟩
          obtain ⟨A6, c6, rfl, q6, _, o6⟩ := madeB_bs m6
          have J1 := Lib.hid (K1.out.only0 o6)
          have J2 := Lib.hid (K2.out.only0 o6)
          have O6 := Lib.hid (ON.out.trans0 o6)
          have B6 := Lib.hid q6
          clear m6 q6 o6
          go_wp2_with fail
          refine (nvm_Load g2 b2 8 D k x HX.out _ J2.out).mono ?_
          rintro e w7 ⟨v7, rfl, m7⟩
          obtain ⟨A7, c7, rfl, q7, _, o7⟩ := madeB_bs m7
          have L1 := Lib.hid (J1.out.only0 o7)
          have L2 := Lib.hid (J2.out.only0 o7)
          have O7 := Lib.hid (O6.out.trans0 o7)
          have B7 := Lib.hid (Sl.only0 B6.out o7)
          have B8 := Lib.hid q7
          clear m7 q7 o7
          go_wp2_with fail
          refine (nvm_Durable g1 b1 8 D k x HX.out _ L1.out).mono ?_
          rintro e w8 ⟨v8, rfl, m8⟩
          obtain ⟨A8, c8, rfl, q8, _, o8⟩ := madeB_bs m8
          have M1 := Lib.hid (L1.out.only0 o8)
          have M2 := Lib.hid (L2.out.only0 o8)
          have O8 := Lib.hid (O7.out.trans0 o8)
          have B9 := Lib.hid (Sl.only0 B7.out o8)
          have Ba := Lib.hid (Sl.only0 B8.out o8)
          have Bb := Lib.hid q8
          clear m8 q8 o8
          go_wp2_with fail
          refine (nvm_Durable g2 b2 8 D k x HX.out _ M2.out).mono ?_
          rintro e w9 ⟨v9, rfl, m9⟩
          obtain ⟨A9, c9, rfl, q9, _, o9⟩ := madeB_bs m9
          have N1 := Lib.hid (M1.out.only0 o9)
          have N2 := Lib.hid (M2.out.only0 o9)
          have O9 := Lib.hid (O8.out.trans0 o9)
          have Bc := Lib.hid (Sl.only0 B9.out o9)
          have Bd := Lib.hid (Sl.only0 Ba.out o9)
          have Be := Lib.hid (Sl.only0 Bb.out o9)
          have Bf := Lib.hid q9
          clear m9 q9 o9
          go_wp2_with fail
          refine (law0_SameBytes _ _ _ _ _ _ _ _ _ Bc.out Bd.out).mono ?_
          rintro e w' ⟨rfl, rfl⟩
          rw [beq_self_eq_true]
          go_wp2_with fail
          refine (law0_SameBytes _ _ _ _ _ _ _ _ _ Be.out Bf.out).mono ?_
          rintro e w' ⟨rfl, rfl⟩
          rw [beq_self_eq_true]
          go_wp2
          go_roundw
          case rel => exact ⟨k + 1, by omega, by go_num, N2.out, N1.out, O9.out⟩
          case measure => simp [intOf]; omega
        · have hfl := those_few (fun x => x.now != x.kept) D.lines D.lines.length
          have hfw := those_few (fun x => x.sent) D.lines D.lines.length
          rw [H8.out] at hfl hfw
          have HFL := Lib.hid hfl
          have HFW := Lib.hid hfw
          clear hfl hfw
          go_wp2_with fail
          refine (nvm_Loose g1 b1 8 D _ K1.out).mono ?_
          rintro e w6 ⟨v6, rfl, m6⟩
          obtain ⟨A6, c6, rfl, q6, o6⟩ := madeI_is m6
          rw [H8.out] at q6
          rw [H8.out]
          have J1 := Lib.hid (K1.out.only0 o6)
          have J2 := Lib.hid (K2.out.only0 o6)
          have O6 := Lib.hid (ON.out.trans0 o6)
          have B6 := Lib.hid q6
          clear m6 q6 o6
          go_wp2_with fail
          refine (nvm_Loose g2 b2 8 D _ J2.out).mono ?_
          rintro e w7 ⟨v7, rfl, m7⟩
          obtain ⟨A7, c7, rfl, q7, o7⟩ := madeI_is m7
          rw [H8.out] at q7
          rw [H8.out]
          have L1 := Lib.hid (J1.out.only0 o7)
          have L2 := Lib.hid (J2.out.only0 o7)
          have O7 := Lib.hid (O6.out.trans0 o7)
          have B7 := Lib.hid (Is.only0 B6.out o7)
          have B8 := Lib.hid q7
          clear m7 q7 o7
          go_wp2_with fail
          refine (law0_SameInts _ _ _ _ _ _ _ _ _ B7.out B8.out (by have := HFL.out; omega) (by have := HFL.out; omega)).mono ?_
          rintro e w8 ⟨rfl, o8⟩
          rw [beq_self_eq_true]
          have M1 := Lib.hid (L1.out.only0 o8)
          have M2 := Lib.hid (L2.out.only0 o8)
          have O8 := Lib.hid (O7.out.trans0 o8)
          clear o8
          go_wp2_with fail
          refine (nvm_Way g1 b1 8 D _ M1.out).mono ?_
          rintro e w9 ⟨v9, rfl, m9⟩
          obtain ⟨A9, c9, rfl, q9, o9⟩ := madeI_is m9
          rw [H8.out] at q9
          rw [H8.out]
          have N2 := Lib.hid (M2.out.only0 o9)
          have O9 := Lib.hid (O8.out.trans0 o9)
          have B9 := Lib.hid q9
          clear m9 q9 o9
          go_wp2_with fail
          refine (nvm_Way g2 b2 8 D _ N2.out).mono ?_
          rintro e wa ⟨va, rfl, ma⟩
          obtain ⟨Aa, ca, rfl, qa, oa⟩ := madeI_is ma
          rw [H8.out] at qa
          rw [H8.out]
          have Oa := Lib.hid (O9.out.trans0 oa)
          have Ba := Lib.hid (Is.only0 B9.out oa)
          have Bb := Lib.hid qa
          clear ma qa oa
          go_wp2_with fail
          refine (law0_SameInts _ _ _ _ _ _ _ _ _ Ba.out Bb.out (by have := HFW.out; omega) (by have := HFW.out; omega)).mono ?_
          rintro e wb ⟨rfl, ob⟩
          rw [beq_self_eq_true]
          have Ob := Lib.hid (Oa.out.trans0 ob)
          clear ob
          go_wp2_with fail
          refine (law3_awake _).mono ?_
          rintro e wc ⟨rfl, oc⟩
          have Oc := Lib.hid (Ob.out.trans0 oc)
          clear oc
          go_wp2
          go_ret
          exact ⟨rfl, Oc.out⟩
end Go.Proofs.Ytfafpggppbolkaa
