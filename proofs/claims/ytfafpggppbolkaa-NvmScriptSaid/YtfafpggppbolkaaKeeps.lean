/- The walk of the statement NvmKeeps. -/
import Derived.Test.YtfafpggppbolkaaFences
set_option maxRecDepth 100000
namespace Go.Proofs.Ytfafpggppbolkaa
open Go.RowKit Go.Proofs.FuMem Go.Proofs.FuNvm Go.Proofs.FuCode
/-- line k has these bytes, in both copies, and nothing else is on its way -/
def Stays (k : Nat) (l : List UInt8) (D : Dev) : Prop := ∃ x, D.lines[k]? = some x ∧ x.now = l ∧ x.kept = l ∧ (x.sent = true → x.way = l)
theorem stays_set {k : Nat} {l : List UInt8} {D : Dev} {i : Int} {y : Line} {L : List Line} (h : Stays k l D) (hi : 0 ≤ i ∧ i.toNat < D.lines.length) (hL : L = D.lines.set i.toNat y)
    (hy : i.toNat = k → y.now = l ∧ y.kept = l ∧ (y.sent = true → y.way = l)) : ∃ x, L[k]? = some x ∧ x.now = l ∧ x.kept = l ∧ (x.sent = true → x.way = l) := by
  obtain ⟨x, hx, h1⟩ := h
  subst hL
  by_cases he : i.toNat = k
  · subst he
    exact ⟨y, set_here hx y, hy rfl⟩
  · exact ⟨x, (set_else he _).trans hx, h1⟩
theorem stays_line {k : Nat} {l : List UInt8} {D : Dev} {i : Int} (h : Stays k l D) (he : i.toNat = k) : (lineOf D i).now = l ∧ (lineOf D i).kept = l ∧ ((lineOf D i).sent = true → (lineOf D i).way = l) := by
  obtain ⟨x, hx, h1⟩ := h
  have : lineOf D i = x := by unfold lineOf; rw [he, List.getD, hx]; rfl
  rw [this]
  exact h1
theorem stays_play {k : Nat} {l : List UInt8} {D : Dev} {x : Deed} (h : Stays k l D) (hx : ¬ (x.kind = 0 ∧ x.line = (k : Int))) : Stays k l (playD D x) := by
  unfold playD
  split
  · unfold store1
    split
    · exact h
    · rename_i h0 hp
      unfold noPlace at hp
      exact stays_set h (by omega) rfl (fun he => absurd ⟨h0, by omega⟩ hx)
  split
  · unfold flush1
    split
    · exact h
    · rename_i hp
      unfold noPlace at hp
      refine stays_set h (by omega) rfl (fun he => ?_)
      obtain ⟨h1, h2, h3⟩ := stays_line h he
      exact ⟨h1, h2, fun _ => h1⟩
  split
  · obtain ⟨x, hx, h1, h2, h3⟩ := h
    refine ⟨fenceL x, by unfold fenceD; rw [List.getElem?_map, hx]; rfl, ?_⟩
    unfold fenceL
    split
    · rename_i hs
      exact ⟨h1, h3 hs, fun h => by cases h⟩
    · exact ⟨h1, h2, h3⟩
  split
  · unfold back1
    split
    · exact h
    · rename_i hp
      unfold noPlace at hp
      refine stays_set h (by omega) rfl (fun he => ?_)
      obtain ⟨h1, h2, h3⟩ := stays_line h he
      exact ⟨h1, h1, fun h => by cases h⟩
  split
  · obtain ⟨y, hy, h1, h2, h3⟩ := h
    refine ⟨cutL x.keep k y, by unfold cutD; rw [List.getElem?_mapIdx, hy]; rfl, ?_⟩
    unfold cutL
    split
    · exact ⟨h1, h1, fun h => by cases h⟩
    · exact ⟨h2, h2, fun h => by cases h⟩
  · exact h
set_option maxHeartbeats 4000000 in
theorem walk_NvmKeeps (A : Option Addr) (n c : Nat) (xs : List (Deed × Holds)) (line : Int) (A' : Option Addr) (n' c' : Nat) (ys : List (Deed × Holds)) (w : World) (h : Deeds w A n xs) (_hc : n ≤ c)
    (_h1 : -9223372036854775808 ≤ line ∧ line ≤ 9223372036854775807) (h' : Deeds w A' n' ys) (_hc' : n' ≤ c') :
    Calls Try.prog 3 #[.slice A n c, .int .i64 line, .slice A' n' c'] w fun e w' => e = .returned (.bool true) ∧ Only [] w w' := by
  have HL := Lib.hid (law3_large A n c xs w h)
  have HL' := Lib.hid (law3_large A' n' c' ys w h')
  by_cases hlg : isLarge xs = true
  · rw [hlg] at HL
    clear h h'
    go_enter Try.func3, Try.ntmps3
    go_wp2_with fail
    refine (HL.out).mono ?_
    rintro e w' ⟨rfl, rfl⟩
    go_wp2_with fail
    refine (law3_awake _).mono ?_
    rintro e w1 ⟨rfl, o1⟩
    have O1 := Lib.hid o1
    clear o1
    go_wp2
    go_ret
    exact ⟨rfl, O1.out⟩
  have hf : isLarge xs = false := by simpa using hlg
  rw [hf] at HL
  by_cases hlg' : isLarge ys = true
  · rw [hlg'] at HL'
    clear h h' hlg
    go_enter Try.func3, Try.ntmps3
    go_wp2_with fail
    refine (HL.out).mono ?_
    rintro e w' ⟨rfl, rfl⟩
    go_wp2_with fail
    refine (HL'.out).mono ?_
    rintro e w' ⟨rfl, rfl⟩
    go_wp2_with fail
    refine (law3_awake _).mono ?_
    rintro e w1 ⟨rfl, o1⟩
    have O1 := Lib.hid o1
    clear o1
    go_wp2
    go_ret
    exact ⟨rfl, O1.out⟩
  have hf' : isLarge ys = false := by simpa using hlg'
  rw [hf'] at HL'
  obtain ⟨_, hsm⟩ := large_no hf
  obtain ⟨_, hsm'⟩ := large_no hf'
  have HS := Lib.hid (law3_some A n c xs w h hsm)
  have HW := Lib.hid (fun w => law0_Low line 8 w (by omega) (by omega))
  have hk8 := low_lt line 8 (by omega)
  obtain ⟨hl, hm, hok, hr⟩ := h'
  unfold maxLen at hm
  have HOK := Lib.hid hok
  have HR := Lib.hid hr
  have HLN := Lib.hid hl
  have HSM := Lib.hid hsm'
  clear h hlg hf hsm hlg' hf' hsm' hok hr hl
  have h8 := playAll_8 xs
  generalize playAll (newDev 8) xs = D at *
  generalize low line 8 = k at *
  have hx := lineOf_get (D := D) (i := k) (by omega)
  generalize lineOf D (k : Int) = x at *
  have HX := Lib.hid hx
  clear hx
  go_enter Try.func3, Try.ntmps3
  go_wp2_with fail
  refine (HL.out).mono ?_
  rintro e w' ⟨rfl, rfl⟩
  go_wp2_with fail
  refine (HL'.out).mono ?_
  rintro e w' ⟨rfl, rfl⟩
  go_wp2_with fail
  refine (HW.out _).mono ?_
  rintro e w' ⟨rfl, rfl⟩
  go_wp2_with fail
  refine (HS.out).mono ?_
  rintro e w1 ⟨g, cb, rfl, d1, o1, f1, f2⟩
  have D1 := Lib.hid d1
  have O1 := Lib.hid o1
  clear d1 o1
  have hxo := D1.out.ok.get (i := k) (by omega)
  have hxo2 : x.now.length = 64 := by
    obtain ⟨hk2, he⟩ := List.getElem?_eq_some_iff.1 HX.out
    rw [← he]; exact hxo.1
  clear hxo
  clear h8
  go_wp2_with fail
  refine (nvm_Flush g cb 8 D k x HX.out _ D1.out).mono ?_
  rintro e w2 ⟨rfl, d2, o2⟩
  have D2 := Lib.hid d2
  have O2 := Lib.hid (O1.out.trans o2 (by intro b hb; simp at hb; rcases hb with rfl | rfl <;> omega))
  have X2 := Lib.hid (show (flushD D k x).lines[k]? = some (flushL x) from set_here HX.out _)
  clear d2 o2 HX D1 HS
  generalize flushD D k x = E2 at *
  go_wp2_with fail
  refine (nvm_Load g cb 8 E2 k _ X2.out _ D2.out).mono ?_
  rintro e w3 ⟨v3, rfl, m3⟩
  obtain ⟨A3, c3, rfl, b3, f3, o3⟩ := madeB_bs m3
  have HX2 := Lib.hid hxo2
  have F3 := Lib.hid (show ∀ b off s, A3 = some ⟨b, off, s⟩ → w2.heap.size ≤ b from f3)
  have hg2 := D2.out.lt1
  have hc2 := D2.out.lt2
  have D3 := Lib.hid (D2.out.only0 o3)
  have O3 := Lib.hid (O2.out.trans0 o3)
  have hnw : (flushL x).now = x.now := rfl
  rw [hnw, HX2.out] at b3
  rw [hnw, HX2.out]
  have B3 := Lib.hid b3
  clear m3 b3 o3 f3 hnw hxo2
  go_wp2_with fail
  refine (nvm_Fence g cb 8 E2 _ D3.out).mono ?_
  rintro e w4 ⟨rfl, d4, o4⟩
  have D4 := Lib.hid d4
  have O4 := Lib.hid (O3.out.trans o4 (by intro b hb; simp at hb; rcases hb with rfl | rfl <;> omega))
  have B4 := Lib.hid (Sl.only B3.out o4 (by intro b off s e; have := F3.out b off s e; simp; omega))
  have X4 : (fenceD E2).lines[k]? = some (fenceL (flushL x)) := by unfold fenceD; rw [List.getElem?_map, X2.out]; rfl
  have Y4 := Lib.hid (show Stays k x.now (fenceD E2) from ⟨_, X4, by simp [fenceL, flushL], by simp [fenceL, flushL], by simp [fenceL, flushL]⟩)
  clear d4 o4 X2 X4 D2 D3
  generalize fenceD E2 = E4 at *
  generalize x.now = l at *
  go_wp2
  go_loopw [11, 12, 13, 14, 15] (fun i _ _ _ _ wr => ∃ (j : Nat) (F : Dev), j ≤ n' ∧ i = .int .i64 j ∧ DevAt wr g cb 8 F ∧ Stays k l F ∧ Bs wr A3 64 l ∧ Only [] w wr) (fun i _ _ _ _ _ => n' - (intOf i).toNat)
  case atStart => exact ⟨0, E4, Nat.zero_le _, rfl, D4.out, Y4.out, B4.out, O4.out⟩
  case round =>
    obtain ⟨j, F, hj, rfl, hd, hst, hbs, on⟩ := hrel
    by_cases hlt : j < n'
    · rcases HR.out with h0 | ⟨b, off, rfl, hrng⟩
      · omega
      have hxk : ys[j]? = some (ys[j]'(by rw [HLN.out]; exact hlt)) := List.getElem?_eq_getElem _
      have hmem : ys[j]'(by rw [HLN.out]; exact hlt) ∈ ys := List.getElem_mem _
      have hrg := hrng j _ hxk
      have hok := HOK.out _ hmem
      have hsk := (HSM.out _ hmem).2
      clear hrng hmem hxk
      generalize ys[j]'(by rw [HLN.out]; exact hlt) = y at *
      obtain ⟨y, s⟩ := y
      have hrw : wr.rangeAt b (off + j * 5) (deedV y s) := fun j v hv => by
        have hc := hrg j v hv
        rw [cell_only on (lt_of_cell hc) (by simp)]
        exact hc
      have HP := Lib.hid (law3_play g cb 8 _ y s w wr hok on f1 f2 hd (by simp only at hsk; omega))
      have ON := Lib.hid on
      have HBS := Lib.hid hbs
      have HST := Lib.hid hst
      have HDV := Lib.hid hd
      have e0 : wr.cell? ⟨b, off + j * 5, none⟩ = some (.int .i64 y.kind) := hrw 0 _ rfl
      have e1 : wr.cell? ⟨b, off + j * 5 + 1, none⟩ = some (.int .i64 y.line) := hrw 1 _ rfl
      clear hok hrg hd on hsk hst hbs
      by_cases hk0 : y.kind = 0
      · have q0 : (y.kind == 0) = true := by simpa using hk0
        by_cases hlk : y.line = (k : Int)
        · have q1 : (y.line == (k : Int)) = true := by simpa using hlk
          clear hrw hk0 hlk
          go_wp2
          go_roundw
          case rel => exact ⟨j + 1, F, by omega, by go_num, HDV.out, HST.out, HBS.out, ON.out⟩
          case measure => simp [intOf]; omega
        · have q1 : (y.line == (k : Int)) = false := by simpa using hlk
          have HST2 := Lib.hid (stays_play HST.out (x := y) (by rintro ⟨_, h⟩; exact hlk h))
          clear hk0 hlk
          go_wp2_with ((with_reducible show wpList _ _ _ (Oper.mk (some 74) _ _ _ _ _ :: _) _ _); refine wpList_load_mid rfl 36 (.tmp 73) rfl b (off + j * 5) rfl (deedV y s) _ hrw Try.underlying36 rfl (by kernel_rfl) ?_)
          refine HP.out.mono ?_
          rintro e w5 ⟨rfl, d5, o5⟩
          have D5 := Lib.hid d5
          have O5 := Lib.hid (ON.out.trans o5 (by intro b hb; simp at hb; rcases hb with rfl | rfl <;> omega))
          have B5 := Lib.hid (Sl.only HBS.out o5 (by intro b off s e; have := F3.out b off s e; simp; omega))
          clear d5 o5 hrw e0 e1
          generalize playD F y = G at *
          obtain ⟨z, hz, z1, z2, z3⟩ := HST2.out
          have HZ := Lib.hid hz
          have Z1 := Lib.hid z1
          have Z2 := Lib.hid z2
          clear hz z1 z2 z3
          go_wp2_with fail
          refine (nvm_Durable g cb 8 G k z HZ.out _ D5.out).mono ?_
          rintro e w6 ⟨v6, rfl, m6⟩
          obtain ⟨A6, c6, rfl, b6, _, o6⟩ := madeB_bs m6
          rw [Z2.out] at b6
          rw [Z2.out]
          have D6 := Lib.hid (D5.out.only0 o6)
          have O6 := Lib.hid (O5.out.trans0 o6)
          have B6 := Lib.hid (Sl.only0 B5.out o6)
          have C6 := Lib.hid b6
          clear m6 b6 o6
          go_wp2_with fail
          refine (nvm_Load g cb 8 G k z HZ.out _ D6.out).mono ?_
          rintro e w7 ⟨v7, rfl, m7⟩
          obtain ⟨A7, c7, rfl, b7, _, o7⟩ := madeB_bs m7
          rw [Z1.out] at b7
          rw [Z1.out]
          have D7 := Lib.hid (D6.out.only0 o7)
          have O7 := Lib.hid (O6.out.trans0 o7)
          have B7 := Lib.hid (Sl.only0 B6.out o7)
          have C7 := Lib.hid (Sl.only0 C6.out o7)
          have E7 := Lib.hid b7
          clear m7 b7 o7
          go_wp2_with fail
          refine (law0_SameBytes _ _ _ _ _ _ _ _ _ C7.out B7.out).mono ?_
          rintro e w' ⟨rfl, rfl⟩
          rw [beq_self_eq_true]
          go_wp2_with fail
          refine (law0_SameBytes _ _ _ _ _ _ _ _ _ E7.out B7.out).mono ?_
          rintro e w' ⟨rfl, rfl⟩
          rw [beq_self_eq_true]
          go_wp2
          go_roundw
          case rel => exact ⟨j + 1, G, by omega, by go_num, D7.out, HST2.out, B7.out, O7.out⟩
          case measure => simp [intOf]; omega
      · have q0 : (y.kind == 0) = false := by simpa using hk0
        have HST2 := Lib.hid (stays_play HST.out (x := y) (by rintro ⟨h, _⟩; exact hk0 h))
        clear hk0
        go_wp2_with ((with_reducible show wpList _ _ _ (Oper.mk (some 74) _ _ _ _ _ :: _) _ _); refine wpList_load_mid rfl 36 (.tmp 73) rfl b (off + j * 5) rfl (deedV y s) _ hrw Try.underlying36 rfl (by kernel_rfl) ?_)
        refine HP.out.mono ?_
        rintro e w5 ⟨rfl, d5, o5⟩
        have D5 := Lib.hid d5
        have O5 := Lib.hid (ON.out.trans o5 (by intro b hb; simp at hb; rcases hb with rfl | rfl <;> omega))
        have B5 := Lib.hid (Sl.only HBS.out o5 (by intro b off s e; have := F3.out b off s e; simp; omega))
        clear d5 o5 hrw e0 e1
        generalize playD F y = G at *
        obtain ⟨z, hz, z1, z2, z3⟩ := HST2.out
        have HZ := Lib.hid hz
        have Z1 := Lib.hid z1
        have Z2 := Lib.hid z2
        clear hz z1 z2 z3
        go_wp2_with fail
        refine (nvm_Durable g cb 8 G k z HZ.out _ D5.out).mono ?_
        rintro e w6 ⟨v6, rfl, m6⟩
        obtain ⟨A6, c6, rfl, b6, _, o6⟩ := madeB_bs m6
        rw [Z2.out] at b6
        rw [Z2.out]
        have D6 := Lib.hid (D5.out.only0 o6)
        have O6 := Lib.hid (O5.out.trans0 o6)
        have B6 := Lib.hid (Sl.only0 B5.out o6)
        have C6 := Lib.hid b6
        clear m6 b6 o6
        go_wp2_with fail
        refine (nvm_Load g cb 8 G k z HZ.out _ D6.out).mono ?_
        rintro e w7 ⟨v7, rfl, m7⟩
        obtain ⟨A7, c7, rfl, b7, _, o7⟩ := madeB_bs m7
        rw [Z1.out] at b7
        rw [Z1.out]
        have D7 := Lib.hid (D6.out.only0 o7)
        have O7 := Lib.hid (O6.out.trans0 o7)
        have B7 := Lib.hid (Sl.only0 B6.out o7)
        have C7 := Lib.hid (Sl.only0 C6.out o7)
        have E7 := Lib.hid b7
        clear m7 b7 o7
        go_wp2_with fail
        refine (law0_SameBytes _ _ _ _ _ _ _ _ _ C7.out B7.out).mono ?_
        rintro e w' ⟨rfl, rfl⟩
        rw [beq_self_eq_true]
        go_wp2_with fail
        refine (law0_SameBytes _ _ _ _ _ _ _ _ _ E7.out B7.out).mono ?_
        rintro e w' ⟨rfl, rfl⟩
        rw [beq_self_eq_true]
        go_wp2
        go_roundw
        case rel => exact ⟨j + 1, G, by omega, by go_num, D7.out, HST2.out, B7.out, O7.out⟩
        case measure => simp [intOf]; omega
    · obtain rfl : j = n' := by omega
      have ON := Lib.hid on
      clear on hd hst hbs
      go_wp2_with fail
      refine (law3_awake _).mono ?_
      rintro e wb ⟨rfl, ob⟩
      have Ob := Lib.hid (ON.out.trans0 ob)
      clear ob
      go_wp2
      go_ret
      exact ⟨rfl, Ob.out⟩
end Go.Proofs.Ytfafpggppbolkaa
