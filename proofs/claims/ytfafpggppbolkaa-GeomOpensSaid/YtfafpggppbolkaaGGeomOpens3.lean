/- The walk of the statement NvmKeeps. -/
import Derived.StillTailTactics
import Derived.Test.YtfafpggppbolkaaGGeomOpens1
import Derived.Test.YtfafpggppbolkaaGGeomOpens2
set_option maxRecDepth 100000
namespace Go.Proofs.Ytfafpggppbolkaa
open Go.RowKit Go.Proofs.FuMem Go.Proofs.FuNvm Go.Proofs.FuCode
/-- line k has these bytes, in both copies, and nothing else is on its way -/
def Stays (k : Nat) (l : List UInt8) (D : Dev) : Prop := ∃ x, D.lines[k]? = some x ∧ x.now = l ∧ x.kept = l ∧ (x.sent = true → x.way = l)
theorem stays_set {k : Nat} {l : List UInt8} {D : Dev} {i : Int} {y : Line} {L : List Line} (h : Stays k l D) (hi : 0 ≤ i ∧ i.toNat < D.lines.length) (hL : L = D.lines.set i.toNat y)
    (hy : i.toNat = k → y.now = l ∧ y.kept = l ∧ (y.sent = true → y.way = l)) : ∃ x, L[k]? = some x ∧ x.now = l ∧ x.kept = l ∧ (x.sent = true → x.way = l) := by
  obtain ⟨x, hx, h1⟩ := h
  subst hL
  by_cases he : i.toNat = k
  · subst he
    exact ⟨y, set_here hx y, hy rfl⟩
  · exact ⟨x, (set_else he _).trans hx, h1⟩
theorem stays_line {k : Nat} {l : List UInt8} {D : Dev} {i : Int} (h : Stays k l D) (he : i.toNat = k) : (lineOf D i).now = l ∧ (lineOf D i).kept = l ∧ ((lineOf D i).sent = true → (lineOf D i).way = l) := by
  obtain ⟨x, hx, h1⟩ := h
  have : lineOf D i = x := by unfold lineOf; rw [he, List.getD, hx]; rfl
  rw [this]
  exact h1
theorem stays_play {k : Nat} {l : List UInt8} {D : Dev} {x : Deed} (h : Stays k l D) (hx : ¬ (x.kind = 0 ∧ x.line = (k : Int))) : Stays k l (playD D x) := by
  unfold playD
  split
  · unfold store1
    split
    · exact h
    · rename_i h0 hp
      unfold noPlace at hp
      exact stays_set h (by omega) rfl (fun he => absurd ⟨h0, by omega⟩ hx)
  split
  · unfold flush1
    split
    · exact h
    · rename_i hp
      unfold noPlace at hp
      refine stays_set h (by omega) rfl (fun he => ?_)
      obtain ⟨h1, h2, h3⟩ := stays_line h he
      exact ⟨h1, h2, fun _ => h1⟩
  split
  · obtain ⟨x, hx, h1, h2, h3⟩ := h
    refine ⟨fenceL x, by unfold fenceD; rw [List.getElem?_map, hx]; rfl, ?_⟩
    unfold fenceL
    split
    · rename_i hs
      exact ⟨h1, h3 hs, fun h => by cases h⟩
    · exact ⟨h1, h2, h3⟩
  split
  · unfold back1
    split
    · exact h
    · rename_i hp
      unfold noPlace at hp
      refine stays_set h (by omega) rfl (fun he => ?_)
      obtain ⟨h1, h2, h3⟩ := stays_line h he
      exact ⟨h1, h1, fun h => by cases h⟩
  split
  · obtain ⟨y, hy, h1, h2, h3⟩ := h
    refine ⟨cutL x.keep k y, by unfold cutD; rw [List.getElem?_mapIdx, hy]; rfl, ?_⟩
    unfold cutL
    split
    · exact ⟨h1, h1, fun h => by cases h⟩
    · exact ⟨h2, h2, fun h => by cases h⟩
  · exact h
set_option maxHeartbeats 4000000 in
theorem walk_NvmKeeps (A : Option Addr) (n c : Nat) (xs : List (Deed × Holds)) (line : Int) (A' : Option Addr) (n' c' : Nat) (ys : List (Deed × Holds)) (w : World) (h : Deeds w A n xs) (_hc : n ≤ c)
    (_h1 : -9223372036854775808 ≤ line ∧ line ≤ 9223372036854775807) (h' : Deeds w A' n' ys) (_hc' : n' ≤ c') :
    Calls Try.prog 3 #[.slice A n c, .int .i64 line, .slice A' n' c'] w fun e w' => e = .returned (.bool true) ∧ Only [] w w' := by
  have HL := Lib.hid (law3_large A n c xs w h)
  have HL' := Lib.hid (law3_large A' n' c' ys w h')
  by_cases hlg : isLarge xs = true
  · rw [hlg] at HL
    clear h h'
    go_enter Try.func3, Try.ntmps3
    go_wp2_with fail
    refine (HL.out).mono ?_
    rintro e w' ⟨rfl, rfl⟩
    go_wp2_with fail
    refine (law3_awake _).mono ?_
    rintro e w1 ⟨rfl, o1⟩
    have O1 := Lib.hid o1
    clear o1
    go_wp2
    go_ret
    exact ⟨rfl, O1.out⟩
  have hf : isLarge xs = false := by simpa using hlg
  rw [hf] at HL
  by_cases hlg' : isLarge ys = true
  · rw [hlg'] at HL'
    clear h h' hlg
    go_enter Try.func3, Try.ntmps3
    go_wp2_with fail
    refine (HL.out).mono ?_
    rintro e w' ⟨rfl, rfl⟩
    go_wp2_with fail
    refine (HL'.out).mono ?_
    rintro e w' ⟨rfl, rfl⟩
    go_wp2_with fail
    refine (law3_awake _).mono ?_
    rintro e w1 ⟨rfl, o1⟩
    have O1 := Lib.hid o1
    clear o1
    go_wp2
    go_ret
    exact ⟨rfl, O1.out⟩
  have hf' : isLarge ys = false := by simpa using hlg'
  rw [hf'] at HL'
  obtain ⟨_, hsm⟩ := large_no hf
  obtain ⟨_, hsm'⟩ := large_no hf'
  have HS := Lib.hid (law3_some A n c xs w h hsm)
  have HW := Lib.hid (fun w => law0_Low line 8 w (by omega) (by omega))
  have hk8 := low_lt line 8 (by omega)
  obtain ⟨hl, hm, hok, hr⟩ := h'
  unfold maxLen at hm
  have HOK := Lib.hid hok
  have HR := Lib.hid hr
  have HLN := Lib.hid hl
  have HSM := Lib.hid hsm'
  clear h hlg hf hsm hlg' hf' hsm' hok hr hl
  have h8 := playAll_8 xs
  generalize playAll (newDev 8) xs = D at *
  generalize low line 8 = k at *
  have hx := lineOf_get (D := D) (i := k) (by omega)
  generalize lineOf D (k : Int) = x at *
  have HX := Lib.hid hx
  clear hx
  go_enter Try.func3, Try.ntmps3
  go_wp2_with fail
  refine (HL.out).mono ?_
  rintro e w' ⟨rfl, rfl⟩
  go_wp2_with fail
  refine (HL'.out).mono ?_
  rintro e w' ⟨rfl, rfl⟩
  go_wp2_with fail
  refine (HW.out _).mono ?_
  rintro e w' ⟨rfl, rfl⟩
  go_wp2_with fail
  refine (HS.out).mono ?_
  rintro e w1 ⟨g, cb, rfl, d1, o1, f1, f2⟩
  have D1 := Lib.hid d1
  have O1 := Lib.hid o1
  clear d1 o1
  have hxo := D1.out.ok.get (i := k) (by omega)
  have hxo2 : x.now.length = 64 := by
    obtain ⟨hk2, he⟩ := List.getElem?_eq_some_iff.1 HX.out
    rw [← he]; exact hxo.1
  clear hxo
  clear h8
  go_wp2_with fail
  refine (nvm_Flush g cb 8 D k x HX.out _ D1.out).mono ?_
  rintro e w2 ⟨rfl, d2, o2⟩
  have D2 := Lib.hid d2
  have O2 := Lib.hid (O1.out.trans o2 (by intro b hb; simp at hb; rcases hb with rfl | rfl <;> omega))
  have X2 := Lib.hid (show (flushD D k x).lines[k]? = some (flushL x) from set_here HX.out _)
  clear d2 o2 HX D1 HS
  generalize flushD D k x = E2 at *
  go_wp2_with fail
  refine (nvm_Load g cb 8 E2 k _ X2.out _ D2.out).mono ?_
  rintro e w3 ⟨v3, rfl, m3⟩
  obtain ⟨A3, c3, rfl, b3, f3, o3⟩ := madeB_bs m3
  have HX2 := Lib.hid hxo2
  have F3 := Lib.hid (show ∀ b off s, A3 = some ⟨b, off, s⟩ → w2.heap.size ≤ b from f3)
  have hg2 := D2.out.lt1
  have hc2 := D2.out.lt2
  have D3 := Lib.hid (D2.out.only0 o3)
  have O3 := Lib.hid (O2.out.trans0 o3)
  have hnw : (flushL x).now = x.now := rfl
  rw [hnw, HX2.out] at b3
  rw [hnw, HX2.out]
  have B3 := Lib.hid b3
  clear m3 b3 o3 f3 hnw hxo2
  go_wp2_with fail
  refine (nvm_Fence g cb 8 E2 _ D3.out).mono ?_
  rintro e w4 ⟨rfl, d4, o4⟩
  have D4 := Lib.hid d4
  have O4 := Lib.hid (O3.out.trans o4 (by intro b hb; simp at hb; rcases hb with rfl | rfl <;> omega))
  have B4 := Lib.hid (Sl.only B3.out o4 (by intro b off s e; have := F3.out b off s e; simp; omega))
  have X4 : (fenceD E2).lines[k]? = some (fenceL (flushL x)) := by unfold fenceD; rw [List.getElem?_map, X2.out]; rfl
  have Y4 := Lib.hid (show Stays k x.now (fenceD E2) from ⟨_, X4, by simp [fenceL, flushL], by simp [fenceL, flushL], by simp [fenceL, flushL]⟩)
  clear d4 o4 X2 X4 D2 D3
  generalize fenceD E2 = E4 at *
  generalize x.now = l at *
  go_wp2
  go_loopw [11, 12, 13, 14, 15] (fun i _ _ _ _ wr => ∃ (j : Nat) (F : Dev), j ≤ n' ∧ i = .int .i64 j ∧ DevAt wr g cb 8 F ∧ Stays k l F ∧ Bs wr A3 64 l ∧ Only [] w wr) (fun i _ _ _ _ _ => n' - (intOf i).toNat)
  case atStart => exact ⟨0, E4, Nat.zero_le _, rfl, D4.out, Y4.out, B4.out, O4.out⟩
  case round =>
    obtain ⟨j, F, hj, rfl, hd, hst, hbs, on⟩ := hrel
    by_cases hlt : j < n'
    · rcases HR.out with h0 | ⟨b, off, rfl, hrng⟩
      · omega
      have hxk : ys[j]? = some (ys[j]'(by rw [HLN.out]; exact hlt)) := List.getElem?_eq_getElem _
      have hmem : ys[j]'(by rw [HLN.out]; exact hlt) ∈ ys := List.getElem_mem _
      have hrg := hrng j _ hxk
      have hok := HOK.out _ hmem
      have hsk := (HSM.out _ hmem).2
      clear hrng hmem hxk
      generalize ys[j]'(by rw [HLN.out]; exact hlt) = y at *
      obtain ⟨y, s⟩ := y
      have hrw : wr.rangeAt b (off + j * 5) (deedV y s) := fun j v hv => by
        have hc := hrg j v hv
        rw [cell_only on (lt_of_cell hc) (by simp)]
        exact hc
      have HP := Lib.hid (law3_play g cb 8 _ y s w wr hok on f1 f2 hd (by simp only at hsk; omega))
      have ON := Lib.hid on
      have HBS := Lib.hid hbs
      have HST := Lib.hid hst
      have HDV := Lib.hid hd
      have e0 : wr.cell? ⟨b, off + j * 5, none⟩ = some (.int .i64 y.kind) := hrw 0 _ rfl
      have e1 : wr.cell? ⟨b, off + j * 5 + 1, none⟩ = some (.int .i64 y.line) := hrw 1 _ rfl
      clear hok hrg hd on hsk hst hbs
      by_cases hk0 : y.kind = 0
      · have q0 : (y.kind == 0) = true := by simpa using hk0
        by_cases hlk : y.line = (k : Int)
        · have q1 : (y.line == (k : Int)) = true := by simpa using hlk
          clear hrw hk0 hlk
          go_wp2
          go_roundw
          case rel => exact ⟨j + 1, F, by omega, by go_num, HDV.out, HST.out, HBS.out, ON.out⟩
          case measure => simp [intOf]; omega
        · have q1 : (y.line == (k : Int)) = false := by simpa using hlk
          have HST2 := Lib.hid (stays_play HST.out (x := y) (by rintro ⟨_, h⟩; exact hlk h))
          clear hk0 hlk
          go_wp2_with ((with_reducible show wpList _ _ _ (Oper.mk (some 74) _ _ _ _ _ :: _) _ _); refine wpList_load_mid rfl 36 (.tmp 73) rfl b (off + j * 5) rfl (deedV y s) _ hrw Try.underlying36 rfl (by kernel_rfl) ?_)
          refine HP.out.mono ?_
          rintro e w5 ⟨rfl, d5, o5⟩
          have D5 := Lib.hid d5
          have O5 := Lib.hid (ON.out.trans o5 (by intro b hb; simp at hb; rcases hb with rfl | rfl <;> omega))
          have B5 := Lib.hid (Sl.only HBS.out o5 (by intro b off s e; have := F3.out b off s e; simp; omega))
          clear d5 o5 hrw e0 e1
          generalize playD F y = G at *
          obtain ⟨z, hz, z1, z2, z3⟩ := HST2.out
          have HZ := Lib.hid hz
          have Z1 := Lib.hid z1
          have Z2 := Lib.hid z2
          clear hz z1 z2 z3
          go_wp2_with fail
          refine (nvm_Durable g cb 8 G k z HZ.out _ D5.out).mono ?_
          rintro e w6 ⟨v6, rfl, m6⟩
          obtain ⟨A6, c6, rfl, b6, _, o6⟩ := madeB_bs m6
          rw [Z2.out] at b6
          rw [Z2.out]
          have D6 := Lib.hid (D5.out.only0 o6)
          have O6 := Lib.hid (O5.out.trans0 o6)
          have B6 := Lib.hid (Sl.only0 B5.out o6)
          have C6 := Lib.hid b6
          clear m6 b6 o6
          go_wp2_with fail
          refine (nvm_Load g cb 8 G k z HZ.out _ D6.out).mono ?_
          rintro e w7 ⟨v7, rfl, m7⟩
          obtain ⟨A7, c7, rfl, b7, _, o7⟩ := madeB_bs m7
          rw [Z1.out] at b7
          rw [Z1.out]
          have D7 := Lib.hid (D6.out.only0 o7)
          have O7 := Lib.hid (O6.out.trans0 o7)
          have B7 := Lib.hid (Sl.only0 B6.out o7)
          have C7 := Lib.hid (Sl.only0 C6.out o7)
          have E7 := Lib.hid b7
          clear m7 b7 o7
          go_wp2_with fail
          refine (law0_SameBytes _ _ _ _ _ _ _ _ _ C7.out B7.out).mono ?_
          rintro e w' ⟨rfl, rfl⟩
          rw [beq_self_eq_true]
          go_wp2_with fail
          refine (law0_SameBytes _ _ _ _ _ _ _ _ _ E7.out B7.out).mono ?_
          rintro e w' ⟨rfl, rfl⟩
          rw [beq_self_eq_true]
          go_wp2
          go_roundw
          case rel => exact ⟨j + 1, G, by omega, by go_num, D7.out, HST2.out, B7.out, O7.out⟩
          case measure => simp [intOf]; omega
      · have q0 : (y.kind == 0) = false := by simpa using hk0
        have HST2 := Lib.hid (stays_play HST.out (x := y) (by rintro ⟨h, _⟩; exact hk0 h))
        clear hk0
        go_wp2_with ((with_reducible show wpList _ _ _ (Oper.mk (some 74) _ _ _ _ _ :: _) _ _); refine wpList_load_mid rfl 36 (.tmp 73) rfl b (off + j * 5) rfl (deedV y s) _ hrw Try.underlying36 rfl (by kernel_rfl) ?_)
        refine HP.out.mono ?_
        rintro e w5 ⟨rfl, d5, o5⟩
        have D5 := Lib.hid d5
        have O5 := Lib.hid (ON.out.trans o5 (by intro b hb; simp at hb; rcases hb with rfl | rfl <;> omega))
        have B5 := Lib.hid (Sl.only HBS.out o5 (by intro b off s e; have := F3.out b off s e; simp; omega))
        clear d5 o5 hrw e0 e1
        generalize playD F y = G at *
        obtain ⟨z, hz, z1, z2, z3⟩ := HST2.out
        have HZ := Lib.hid hz
        have Z1 := Lib.hid z1
        have Z2 := Lib.hid z2
        clear hz z1 z2 z3
        go_wp2_with fail
        refine (nvm_Durable g cb 8 G k z HZ.out _ D5.out).mono ?_
        rintro e w6 ⟨v6, rfl, m6⟩
        obtain ⟨A6, c6, rfl, b6, _, o6⟩ := madeB_bs m6
        rw [Z2.out] at b6
        rw [Z2.out]
        have D6 := Lib.hid (D5.out.only0 o6)
        have O6 := Lib.hid (O5.out.trans0 o6)
        have B6 := Lib.hid (Sl.only0 B5.out o6)
        have C6 := Lib.hid b6
        clear m6 b6 o6
        go_wp2_with fail
        refine (nvm_Load g cb 8 G k z HZ.out _ D6.out).mono ?_
        rintro e w7 ⟨v7, rfl, m7⟩
        obtain ⟨A7, c7, rfl, b7, _, o7⟩ := madeB_bs m7
        rw [Z1.out] at b7
        rw [Z1.out]
        have D7 := Lib.hid (D6.out.only0 o7)
        have O7 := Lib.hid (O6.out.trans0 o7)
        have B7 := Lib.hid (Sl.only0 B6.out o7)
        have C7 := Lib.hid (Sl.only0 C6.out o7)
        have E7 := Lib.hid b7
        clear m7 b7 o7
        go_wp2_with fail
        refine (law0_SameBytes _ _ _ _ _ _ _ _ _ C7.out B7.out).mono ?_
        rintro e w' ⟨rfl, rfl⟩
        rw [beq_self_eq_true]
        go_wp2_with fail
        refine (law0_SameBytes _ _ _ _ _ _ _ _ _ E7.out B7.out).mono ?_
        rintro e w' ⟨rfl, rfl⟩
        rw [beq_self_eq_true]
        go_wp2
        go_roundw
        case rel => exact ⟨j + 1, G, by omega, by go_num, D7.out, HST2.out, B7.out, O7.out⟩
        case measure => simp [intOf]; omega
    · obtain rfl : j = n' := by omega
      have ON := Lib.hid on
      clear on hd hst hbs
      go_wp2_with fail
      refine (law3_awake _).mono ?_
      rintro e wb ⟨rfl, ob⟩
      have Ob := Lib.hid (ON.out.trans0 ob)
      clear ob
      go_wp2
      go_ret
      exact ⟨rfl, Ob.out⟩
end Go.Proofs.Ytfafpggppbolkaa
/- The walk of the statement NvmSorted. -/
set_option maxRecDepth 100000
namespace Go.Proofs.Ytfafpggppbolkaa
open Go.RowKit Go.Proofs.FuMem Go.Proofs.FuNvm Go.Proofs.FuCode
theorem those_prefix (p : Line → Bool) (L : List Line) {i j : Nat} (h : i ≤ j) : those p L i <+: those p L j := by
  unfold those
  obtain ⟨d, rfl⟩ := Nat.exists_eq_add_of_le h
  rw [List.range_add, List.filter_append, List.map_append]
  exact List.prefix_append _ _
theorem those_at (p : Line → Bool) (L : List Line) {i : Nat} {x : Line} (hx : L[i]? = some x) (hp : p x = true) (hi : i < L.length) : (those p L L.length)[(those p L i).length]? = some (i : Int) := by
  have h1 := those_prefix p L (Nat.succ_le_of_lt hi)
  obtain ⟨_, rfl⟩ := List.getElem?_eq_some_iff.1 hx
  rw [those_succ p L i hi, if_pos hp] at h1
  obtain ⟨t, ht⟩ := h1
  rw [← ht, List.append_assoc, List.getElem?_append_right (Nat.le_refl _), Nat.sub_self]
  rfl
theorem those_bd (p : Line → Bool) (L : List Line) (m : Nat) {v : Int} (h : v ∈ those p L m) : 0 ≤ v ∧ v < m := by
  unfold those at h
  obtain ⟨j, hj, rfl⟩ := List.mem_map.1 h
  have := List.mem_range.1 (List.mem_filter.1 hj).1
  omega
theorem those_rise (p : Line → Bool) (L : List Line) (m : Nat) : (those p L m).Pairwise (· < ·) := by
  unfold those
  rw [List.pairwise_map]
  refine List.Pairwise.imp (fun h => ?_) (List.Pairwise.filter _ List.pairwise_lt_range)
  omega
theorem those_few (p : Line → Bool) (L : List Line) (m : Nat) : (those p L m).length ≤ m := by
  unfold those
  rw [List.length_map]
  exact Nat.le_trans (List.length_filter_le _ _) (by rw [List.length_range]; exact Nat.le_refl _)
theorem madeI_is {w w' : World} {l : List Int} {v : Value} (h : MadeI w l v w') : ∃ A c, v = .slice A l.length c ∧ Is w' A l.length l ∧ Only [] w w' := by
  obtain ⟨A, c, rfl, h, o⟩ := h
  exact ⟨A, c, rfl, is_own h, o⟩
set_option maxHeartbeats 4000000 in
theorem walk_NvmSorted (A : Option Addr) (n c : Nat) (xs : List (Deed × Holds)) (w : World) (h : Deeds w A n xs) (_hc : n ≤ c) :
    Calls Try.prog 7 #[.slice A n c] w fun e w' => e = .returned (.bool true) ∧ Only [] w w' := by
  have HL := Lib.hid (law3_large A n c xs w h)
  by_cases hlg : isLarge xs = true
  · rw [hlg] at HL
    clear h
    go_enter Try.func7, Try.ntmps7
    go_wp2_with fail
    refine (HL.out).mono ?_
    rintro e w' ⟨rfl, rfl⟩
    go_wp2_with fail
    refine (law3_awake _).mono ?_
    rintro e w1 ⟨rfl, o1⟩
    have O1 := Lib.hid o1
    clear o1
    go_wp2
    go_ret
    exact ⟨rfl, O1.out⟩
  have hf : isLarge xs = false := by simpa using hlg
  rw [hf] at HL
  obtain ⟨_, hsm⟩ := large_no hf
  have HS := Lib.hid (law3_some A n c xs w h hsm)
  clear h hlg hf hsm
  have H8 := Lib.hid (playAll_8 xs)
  generalize playAll (newDev 8) xs = D at *
  go_enter Try.func7, Try.ntmps7
  go_wp2_with fail
  refine (HL.out).mono ?_
  rintro e w' ⟨rfl, rfl⟩
  go_wp2_with fail
  refine (HS.out).mono ?_
  rintro e w1 ⟨g, cb, rfl, d1, o1, f1, f2⟩
  have D1 := Lib.hid d1
  have O1 := Lib.hid o1
  clear d1 o1
  go_wp2_with fail
  refine (nvm_Loose g cb 8 D _ D1.out).mono ?_
  rintro e w2 ⟨v2, rfl, m2⟩
  obtain ⟨A2, c2, rfl, b2, o2⟩ := madeI_is m2
  rw [H8.out] at b2
  rw [H8.out]
  have D2 := Lib.hid (D1.out.only0 o2)
  have O2 := Lib.hid (O1.out.trans0 o2)
  have B2 := Lib.hid b2
  clear m2 b2 o2
  go_wp2_with fail
  refine (nvm_Way g cb 8 D _ D2.out).mono ?_
  rintro e w3 ⟨v3, rfl, m3⟩
  obtain ⟨A3, c3, rfl, b3, o3⟩ := madeI_is m3
  rw [H8.out] at b3
  rw [H8.out]
  have D3 := Lib.hid (D2.out.only0 o3)
  have O3 := Lib.hid (O2.out.trans0 o3)
  have B3 := Lib.hid (B2.out.only0 o3)
  have C3 := Lib.hid b3
  clear m3 b3 o3 D2 D1
  have hla := those_few (fun x => x.now != x.kept) D.lines 8
  have hlb := those_few (fun x => x.sent) D.lines 8
  have HA := Lib.hid (fun (i : Nat) (x : Line) (hx : D.lines[i]? = some x) (hp : (x.now != x.kept) = true) (hi : i < 8) => (by
    have := those_at (fun x => x.now != x.kept) D.lines hx hp (by rw [H8.out]; exact hi)
    rw [H8.out] at this
    exact this : (those (fun x => x.now != x.kept) D.lines 8)[(those (fun x => x.now != x.kept) D.lines i).length]? = some (i : Int)))
  have HSU := Lib.hid (fun (i : Nat) (hi : i < D.lines.length) => those_succ (fun x => x.now != x.kept) D.lines i hi)
  have HBD := Lib.hid (fun (v : Int) (hv : v ∈ those (fun x => x.sent) D.lines 8) => those_bd (fun x => x.sent) D.lines 8 hv)
  have HRI := Lib.hid (those_rise (fun x => x.sent) D.lines 8)
  generalize those (fun x => x.sent) D.lines 8 = lb at *
  generalize hlA : those (fun x => x.now != x.kept) D.lines 8 = la at *
  have HLA := Lib.hid hlA
  clear hlA
  go_wp2
  go_loopw [6, 7, 8, 9, 10, 11] (fun q i _ _ _ _ wr => ∃ (k : Nat), k ≤ 8 ∧ i = .int .i64 k ∧ q = .int .i64 ((those (fun x => x.now != x.kept) D.lines k).length : Nat) ∧ DevAt wr g cb 8 D ∧ Is wr A2 la.length la ∧ Is wr A3 lb.length lb ∧ Only [] w wr) (fun _ i _ _ _ _ _ => 8 - (intOf i).toNat)
  case atStart => exact ⟨0, by omega, rfl, rfl, D3.out, B3.out, C3.out, O3.out⟩
  case round =>
    obtain ⟨k, hk, rfl, rfl, hd, hia, hib, on⟩ := hrel
    by_cases hlt : k < 8
    · have hkl : k < D.lines.length := by rw [H8.out]; exact hlt
      have hx := lineOf_get hkl
      have hsu := HSU.out k hkl
      have hgx : D.lines[k] = lineOf D k := by
        rw [List.getElem?_eq_getElem hkl] at hx
        exact Option.some.inj hx
      rw [hgx] at hsu
      have ha := HA.out k _ hx
      clear hgx
      generalize lineOf D (k : Int) = x at *
      generalize hq : (those (fun x => x.now != x.kept) D.lines k).length = q at *
      have HX := Lib.hid hx
      have HSU := Lib.hid hsu
      have HA := Lib.hid ha
      have HQ := Lib.hid hq
      have HD := Lib.hid hd
      have HIA := Lib.hid hia
      have HIB := Lib.hid hib
      have ON := Lib.hid on
      clear hx hsu ha hq hd hia hib on
      go_wp2_with fail
      refine (nvm_Load g cb 8 D k x HX.out _ HD.out).mono ?_
      rintro e w4 ⟨v4, rfl, m4⟩
      obtain ⟨A4, c4, rfl, b4, _, o4⟩ := madeB_bs m4
      have D4 := Lib.hid (HD.out.only0 o4)
      have O4 := Lib.hid (ON.out.trans0 o4)
      have B4 := Lib.hid b4
      have IA4 := Lib.hid (HIA.out.only0 o4)
      have IB4 := Lib.hid (HIB.out.only0 o4)
      clear m4 b4 o4
      go_wp2_with fail
      refine (nvm_Durable g cb 8 D k x HX.out _ D4.out).mono ?_
      rintro e w5 ⟨v5, rfl, m5⟩
      obtain ⟨A5, c5, rfl, b5, _, o5⟩ := madeB_bs m5
      have D5 := Lib.hid (D4.out.only0 o5)
      have O5 := Lib.hid (O4.out.trans0 o5)
      have B5 := Lib.hid (Sl.only0 B4.out o5)
      have C5 := Lib.hid b5
      have IA5 := Lib.hid (IA4.out.only0 o5)
      have IB5 := Lib.hid (IB4.out.only0 o5)
      clear m5 b5 o5
      go_wp2_with fail
      refine (law0_SameBytes _ _ _ _ _ _ _ _ _ B5.out C5.out).mono ?_
      rintro e w' ⟨rfl, rfl⟩
      by_cases he : x.now = x.kept
      · have e1 : (x.now == x.kept) = true := by simpa using he
        rw [e1]
        have hn1 : (those (fun x => x.now != x.kept) D.lines (k + 1)).length = q := by
          rw [HSU.out, if_neg (by simpa using he), HQ.out]
        have HN1 := Lib.hid hn1
        clear e1 he hn1
        go_wp2
        go_roundw
        case rel => exact ⟨k + 1, by omega, by go_num, by rw [HN1.out], D5.out, IA5.out, IB5.out, O5.out⟩
        case measure => simp [intOf]; omega
      · have e1 : (x.now == x.kept) = false := by simpa using he
        rw [e1]
        have hp : (x.now != x.kept) = true := by simpa using he
        have hn1 : (those (fun x => x.now != x.kept) D.lines (k + 1)).length = q + 1 := by
          rw [HSU.out, if_pos hp, List.length_append, HQ.out]
          rfl
        have hlq := HA.out hp hlt
        obtain ⟨hql, hqe⟩ := List.getElem?_eq_some_iff.1 hlq
        obtain ⟨b, off, rfl, hcl⟩ := IA5.out.at_ (by omega)
        have hce := hcl q hql
        rw [hqe] at hce
        have HN1 := Lib.hid hn1
        have hge : decide ((la.length : Int) ≤ (q : Int)) = false := by go_num
        clear e1 he hn1 hp hlq hqe hcl
        go_wp2
        go_roundw
        case rel => exact ⟨k + 1, by omega, by go_num, by rw [HN1.out]; go_num, D5.out, IA5.out, IB5.out, O5.out⟩
        case measure => simp [intOf]; omega
    · obtain rfl : k = 8 := by omega
      have hq := HLA.out
      rw [hq]
      have HIA := Lib.hid hia
      have ON := Lib.hid on
      have HIB := Lib.hid hib
      clear hq hia hd on hib
      go_wp2
      go_loopw [12] (fun i wr => ∃ (j : Nat), j ≤ lb.length ∧ i = .int .i64 j ∧ Is wr A3 lb.length lb ∧ Only [] w wr) (fun i _ => lb.length - (intOf i).toNat)
      case atStart => exact ⟨0, by omega, rfl, HIB.out, ON.out⟩
      case round =>
        obtain ⟨j, hj, rfl, hib, on⟩ := hrel
        by_cases hlt : j < lb.length
        · obtain ⟨b, off, rfl, hcl⟩ := hib.at_ (by omega)
          have hce := hcl j hlt
          have hv := HBD.out _ (List.getElem_mem hlt)
          have q1 : decide (lb[j] < 0) = false := by rw [decide_eq_false_iff_not]; omega
          have q2 : decide (7 < lb[j]) = false := by rw [decide_eq_false_iff_not]; omega
          by_cases hj0 : j = 0
          · subst hj0
            have HI := Lib.hid hib
            have ON := Lib.hid on
            clear hcl hv hib on
            generalize lb[0] = v at *
            have hce' : wr.cell? ⟨b, off, none⟩ = some (.int .i64 v) := hce
            go_wp2_with fail
            go_quiet (fail)
            go_wp2
            go_roundw
            case rel => exact ⟨1, by omega, by go_num, Sl.only0 HI.out ((Only.refl _ _).drewN _), ON.out.drewN _⟩
            case measure => simp [intOf]; omega
          · obtain ⟨m, rfl⟩ : ∃ m, j = m + 1 := ⟨j - 1, by omega⟩
            have hlm : m < lb.length := by omega
            have hcm := hcl m hlm
            have hrise := (List.pairwise_iff_getElem.1 HRI.out) m (m + 1) hlm hlt (by omega)
            have q3 : decide (lb[m + 1] ≤ lb[m]) = false := by rw [decide_eq_false_iff_not]; omega
            have q4 : decide ((0 : Int) < ((m + 1 : Nat) : Int)) = true := by rw [decide_eq_true_eq]; omega
            have q5 : IntKind.i64.wrap (((m + 1 : Nat) : Int) - 1) = (m : Int) := by rw [IntKind.wrap_i64]; omega
            have HI := Lib.hid hib
            have ON := Lib.hid on
            clear hcl hv hib on hrise
            generalize lb[m + 1] = v at *
            generalize lb[m] = u at *
            go_wp2_with fail
            go_quiet (fail)
            go_wp2
            go_roundw
            case rel => exact ⟨m + 2, by omega, by go_num, Sl.only0 HI.out ((Only.refl _ _).drewN _), ON.out.drewN _⟩
            case measure => simp [intOf]; omega
        · have ON := Lib.hid on
          clear hib on
          have HB := Lib.hid hlt
          go_wp2_with fail
          refine (law3_awake _).mono ?_
          rintro e wb ⟨rfl, ob⟩
          have Ob := Lib.hid (ON.out.trans0 ob)
          clear ob
          go_wp2
          go_ret
          exact ⟨rfl, Ob.out⟩
end Go.Proofs.Ytfafpggppbolkaa
/- Of no device each call says so. -/
set_option maxRecDepth 100000
namespace Go.Proofs.Ytfafpggppbolkaa
open Go.RowKit Go.Proofs.FuMem Go.Proofs.FuNvm Go.Proofs.FuCode
theorem none_there (a b c : Int) (w : World) : Calls Try.prog 63 #[.pointer none, .int .i64 a, .int .i64 b, .int .i64 c] w fun e w' => e = .returned (.int .i64 1) ∧ w = w' := by
  go_enter Try.func63, Try.ntmps63
  go_wp2
  go_ret
  exact ⟨rfl, rfl⟩
theorem none_Load (i : Int) (w : World) : Calls Try.prog 21 #[.pointer none, .int .i64 i] w fun e w' => e = .returned (.tuple #[.slice none 0 0, .int .i64 1]) ∧ w = w' := by
  go_enter Try.func21, Try.ntmps21
  go_wp2_with fail
  refine (none_there _ _ _ _).mono ?_
  rintro e w' ⟨rfl, rfl⟩
  go_wp2
  go_ret2
  exact ⟨rfl, rfl⟩
theorem none_Durable (i : Int) (w : World) : Calls Try.prog 24 #[.pointer none, .int .i64 i] w fun e w' => e = .returned (.tuple #[.slice none 0 0, .int .i64 1]) ∧ w = w' := by
  go_enter Try.func24, Try.ntmps24
  go_wp2_with fail
  refine (none_there _ _ _ _).mono ?_
  rintro e w' ⟨rfl, rfl⟩
  go_wp2
  go_ret2
  exact ⟨rfl, rfl⟩
theorem none_Cut (A : Option Addr) (n c : Nat) (w : World) : Calls Try.prog 35 #[.pointer none, .slice A n c] w fun e w' => e = .returned (.tuple #[.slice none 0 0, .int .i64 1]) ∧ w = w' := by
  go_enter Try.func35, Try.ntmps35
  go_wp2
  go_ret2
  exact ⟨rfl, rfl⟩
theorem none_Store (i a : Int) (A : Option Addr) (n c : Nat) (w : World) : Calls Try.prog 27 #[.pointer none, .int .i64 i, .int .i64 a, .slice A n c] w fun e w' => e = .returned (.int .i64 1) ∧ w = w' := by
  go_enter Try.func27, Try.ntmps27
  go_wp2_with fail
  refine (none_there _ _ _ _).mono ?_
  rintro e w' ⟨rfl, rfl⟩
  go_wp2
  go_ret
  exact ⟨rfl, rfl⟩
theorem none_Flush (i : Int) (w : World) : Calls Try.prog 20 #[.pointer none, .int .i64 i] w fun e w' => e = .returned (.int .i64 1) ∧ w = w' := by
  go_enter Try.func20, Try.ntmps20
  go_wp2_with fail
  refine (none_there _ _ _ _).mono ?_
  rintro e w' ⟨rfl, rfl⟩
  go_wp2
  go_ret
  exact ⟨rfl, rfl⟩
theorem none_Back (i : Int) (w : World) : Calls Try.prog 26 #[.pointer none, .int .i64 i] w fun e w' => e = .returned (.int .i64 1) ∧ w = w' := by
  go_enter Try.func26, Try.ntmps26
  go_wp2_with fail
  refine (none_there _ _ _ _).mono ?_
  rintro e w' ⟨rfl, rfl⟩
  go_wp2
  go_ret
  exact ⟨rfl, rfl⟩
theorem none_Fence (w : World) : Calls Try.prog 22 #[.pointer none] w fun e w' => e = .returned (.int .i64 1) ∧ w = w' := by
  go_enter Try.func22, Try.ntmps22
  go_wp2
  go_ret
  exact ⟨rfl, rfl⟩
theorem none_Lines (w : World) : Calls Try.prog 54 #[.pointer none] w fun e w' => e = .returned (.int .i64 0) ∧ w = w' := by
  go_enter Try.func54, Try.ntmps54
  go_wp2
  go_ret
  exact ⟨rfl, rfl⟩
theorem none_lines (f : Value) (w : World) : Calls Try.prog 73 #[.pointer none, f] w fun e w' => e = .returned (.slice none 0 0) ∧ w = w' := by
  go_enter Try.func73, Try.ntmps73
  go_wp2_with fail
  refine (none_Lines _).mono ?_
  rintro e w' ⟨rfl, rfl⟩
  go_wp2
  go_loopw [5, 6, 9] (fun v _ i wr => v = .slice none 0 0 ∧ i = .int .i64 0 ∧ w = wr) (fun _ _ _ _ => 0)
  case atStart => exact ⟨rfl, rfl, rfl⟩
  case round =>
    obtain ⟨rfl, rfl, rfl⟩ := hrel
    go_wp2
    go_ret
    exact ⟨rfl, rfl⟩
theorem none_Loose (w : World) : Calls Try.prog 36 #[.pointer none] w fun e w' => e = .returned (.slice none 0 0) ∧ w = w' := by
  go_enter Try.func36, Try.ntmps36
  go_wp2_with fail
  refine (none_lines _ _).mono ?_
  rintro e w' ⟨rfl, rfl⟩
  go_wp2
  go_ret
  exact ⟨rfl, rfl⟩
theorem none_Way (w : World) : Calls Try.prog 37 #[.pointer none] w fun e w' => e = .returned (.slice none 0 0) ∧ w = w' := by
  go_enter Try.func37, Try.ntmps37
  go_wp2_with fail
  refine (none_lines _ _).mono ?_
  rintro e w' ⟨rfl, rfl⟩
  go_wp2
  go_ret
  exact ⟨rfl, rfl⟩
theorem none_Copy (w : World) : Calls Try.prog 51 #[.pointer none] w fun e w' => e = .returned (.pointer none) ∧ w = w' := by
  go_enter Try.func51, Try.ntmps51
  go_wp2
  go_ret
  exact ⟨rfl, rfl⟩
theorem none_Counts (w : World) : Calls Try.prog 55 #[.pointer none] w fun e w' => e = .returned (.agg #[.int .i64 0, .int .i64 0, .int .i64 0, .int .i64 0, .int .i64 0]) ∧ Only [] w w' := by
  go_enter Try.func55, Try.ntmps55
  go_wp2
  refine bodyPost_ret (results_cell_row rfl _ _ w.heap.size 74 _ _ _ rfl (Blk.new w 74 #[.int .i64 0, .int .i64 0, .int .i64 0, .int .i64 0, .int .i64 0]) Try.underlying74 rfl (by kernel_rfl)) rfl ⟨rfl, (Only.refl _ _).alloc _⟩
set_option maxHeartbeats 1000000 in
theorem walk_NvmNone (n : Int) (A : Option Addr) (m c : Nat) (l : List UInt8) (w : World) (_h1 : -9223372036854775808 ≤ n ∧ n ≤ 9223372036854775807) (_h : Bs w A m l) (_hm : m ≤ maxLen) :
    Calls Try.prog 14 #[.int .i64 n, .slice A m c] w fun e w' => e = .returned (.bool true) ∧ Only [] w w' := by
  clear _h _hm
  go_enter Try.func14, Try.ntmps14
  go_wp2_with fail
  refine (none_Load _ _).mono ?_
  rintro e w' ⟨rfl, rfl⟩
  go_wp2_with fail
  refine (none_Durable _ _).mono ?_
  rintro e w' ⟨rfl, rfl⟩
  go_wp2_with fail
  refine (none_Cut _ _ _ _).mono ?_
  rintro e w' ⟨rfl, rfl⟩
  have o1 : Only [] w (w.alloc (.cells #[.int .i64 n] 3)) := (Only.refl _ _).alloc _
  have O1 := Lib.hid o1
  clear o1
  generalize w.alloc (.cells #[.int .i64 n] 3) = w1 at *
  go_wp2_with fail
  refine (none_Store _ _ _ _ _ _).mono ?_
  rintro e w' ⟨rfl, rfl⟩
  go_wp2_with fail
  refine (none_Flush _ _).mono ?_
  rintro e w' ⟨rfl, rfl⟩
  go_wp2_with fail
  refine (none_Fence _).mono ?_
  rintro e w' ⟨rfl, rfl⟩
  go_wp2_with fail
  refine (none_Back _ _).mono ?_
  rintro e w' ⟨rfl, rfl⟩
  go_wp2_with fail
  refine (none_Lines _).mono ?_
  rintro e w' ⟨rfl, rfl⟩
  go_wp2_with fail
  refine (none_Loose _).mono ?_
  rintro e w' ⟨rfl, rfl⟩
  go_wp2_with fail
  refine (none_Way _).mono ?_
  rintro e w' ⟨rfl, rfl⟩
  go_wp2_with fail
  refine (none_Copy _).mono ?_
  rintro e w' ⟨rfl, rfl⟩
  go_wp2_with fail
  refine (none_Counts _).mono ?_
  rintro e w2 ⟨rfl, o2⟩
  have O2 := Lib.hid (O1.out.trans0 o2)
  clear o2
  go_wp2_with fail
  refine (law3_awake _).mono ?_
  rintro e w3 ⟨rfl, o3⟩
  have O3 := Lib.hid (O2.out.trans0 o3)
  clear o3
  go_wp2
  go_ret
  exact ⟨rfl, O3.out⟩
end Go.Proofs.Ytfafpggppbolkaa
/- Counts, and the copy of a device. -/
set_option maxRecDepth 100000
namespace Go.Proofs.Ytfafpggppbolkaa
open Go.RowKit Go.Proofs.FuMem Go.Proofs.FuNvm Go.Proofs.FuCode
theorem drawn_only {w wd : World} (h : ({ w with drawn := w.drawn + 1 } : World) = wd) : Only [] w wd := by subst h; exact (Only.refl _ _).drew
abbrev countsV (D : Dev) : Value := .agg #[.int .i64 D.stores, .int .i64 D.flushes, .int .i64 D.fences, .int .i64 D.backs, .int .i64 D.cuts]
set_option maxHeartbeats 1000000 in
theorem nvm_Counts (g cb cap : Nat) (D : Dev) (w : World) (hd : DevAt w g cb cap D) :
    Calls Try.prog 55 #[.pointer (some ⟨g, 0, none⟩)] w fun e w' => e = .returned (countsV D) ∧ Only [] w w' := by
  have o1 : Only [] w (w.alloc (.cells #[.int .i64 0, .int .i64 0, .int .i64 0, .int .i64 0, .int .i64 0] 74)) := (Only.refl _ _).alloc _
  have hb1 := Blk.new w 74 #[.int .i64 0, .int .i64 0, .int .i64 0, .int .i64 0, .int .i64 0]
  have HD := Lib.hid (hd.only0 o1)
  have O1 := Lib.hid o1
  have HB := Lib.hid hb1
  clear o1 hb1 hd
  obtain ⟨L, s1, s2, s3, s4, s5⟩ := D
  go_enter Try.func55, Try.ntmps55
  go_wp2_with fail
  generalize w.alloc (.cells #[.int .i64 0, .int .i64 0, .int .i64 0, .int .i64 0, .int .i64 0] 74) = w1 at *
  refine wp_region_still_tail 21 (by kernel_rfl) (by kernel_rfl) ?_
  simp only [List.take_succ_cons, List.take_zero, List.drop_succ_cons, List.drop_zero]
  generalize hwd : ({ w1 with drawn := w1.drawn + 1 } : World) = wd
  have OD := Lib.hid (drawn_only hwd)
  clear hwd
  have hdd := HD.out.only0 OD.out
  have c1 : wd.cell? ⟨g, 1, none⟩ = some (.int .i64 s1) := hdd.cell 1
  have c2 : wd.cell? ⟨g, 2, none⟩ = some (.int .i64 s2) := hdd.cell 2
  have c3 : wd.cell? ⟨g, 3, none⟩ = some (.int .i64 s3) := hdd.cell 3
  have c4 : wd.cell? ⟨g, 4, none⟩ = some (.int .i64 s4) := hdd.cell 4
  have c5 : wd.cell? ⟨g, 5, none⟩ = some (.int .i64 s5) := hdd.cell 5
  have hbd : Blk wd w.heap.size 74 #[.int .i64 0, .int .i64 0, .int .i64 0, .int .i64 0, .int .i64 0] := HB.out.only OD.out (by simp)
  clear hdd
  repeat still_step
  still_call (Calls.flip (int64_Load g 1 s1 wd c1))
  repeat still_step
  still_call (Calls.flip (int64_Load g 2 s2 wd c2))
  repeat still_step
  still_call (Calls.flip (int64_Load g 3 s3 wd c3))
  repeat still_step
  still_call (Calls.flip (int64_Load g 4 s4 wd c4))
  repeat still_step
  still_call (Calls.flip (int64_Load g 5 s5 wd c5))
  repeat still_step
  refine wpStill_nil ?_
  refine wpList_store_blk rfl 74 (.tmp 2) (.tmp 30) rfl w.heap.size 0 #[.int .i64 s1, .int .i64 s2, .int .i64 s3, .int .i64 s4, .int .i64 s5] rfl rfl 74 _ hbd (by simp) (by kernel_rfl) (by kernel_rfl) ?_
  intro w2 hb2 ho2 hs2
  have hb2' : Blk w2 w.heap.size 74 #[.int .i64 s1, .int .i64 s2, .int .i64 s3, .int .i64 s4, .int .i64 s5] := hb2
  go_wp2
  refine bodyPost_ret (results_cell_row rfl _ _ w.heap.size 74 _ _ _ rfl hb2' Try.underlying74 rfl (by kernel_rfl)) rfl ⟨rfl, (O1.out.trans0 OD.out).trans ho2 (by simp)⟩
theorem countsZero : (Try.prog.info? 74).map (·.zero) = some (some (.agg #[.int .i64 0, .int .i64 0, .int .i64 0, .int .i64 0, .int .i64 0])) := by kernel_rfl
theorem clone_cells (g cb cap : Nat) (D : Dev) (w : World) (hd : DevAt w g cb cap D) :
    Calls Try.prog 77 #[.slice (some ⟨cb, 0, none⟩) D.lines.length cap] w fun e w' => ∃ cb2 cap2, e = .returned (.slice (some ⟨cb2, 0, none⟩) D.lines.length cap2) ∧ w.heap.size ≤ cb2 ∧ D.lines.length ≤ cap2 ∧
      (∃ cs, Blk w' cb2 94 cs ∧ cs.toList.take (D.lines.length * 193) = flat D.lines) ∧ Only [] w w' := by
  obtain ⟨ci, cz, hi, hz, hs, hc, hby⟩ := cellZero
  have hf := hd.few
  have on0 : Only [] w (w.alloc (.cells #[] 94)) := (Only.refl _ _).alloc _
  have hown : (w.alloc (.cells #[] 94)).ownsRow w.heap.size 94 193 (.slice (some ⟨w.heap.size, 0, none⟩) 0 0) 0 [] :=
    ⟨rfl, .inr ⟨_, 0, #[], rfl, Nat.le_refl _, heap_alloc_new w _, Nat.le_refl _, Nat.zero_le _, rfl, rfl⟩⟩
  have hd0 := hd.only0 on0
  have hnews : ∀ j u, (flat D.lines)[j]? = some u → (w.alloc (.cells #[] 94)).cell? ((⟨cb, 0, none⟩ : Addr).add j) = some u := fun j u hu => by
    obtain ⟨cs, hb, hp⟩ := hd0.body
    rw [Addr.add_lit, hb.cell, Nat.zero_add]
    rw [← hp] at hu
    have hj := (List.getElem?_eq_some_iff.1 hu).1
    rw [List.length_take] at hj
    rw [List.getElem?_take_of_lt (by omega)] at hu
    rw [← Array.getElem?_toList]
    exact hu
  obtain ⟨v, w', hr, ho, hg, hnil, hblk⟩ := run_append_own_at (P := Try.prog) (w.alloc (.cells #[] 94)) w.heap.size 95 95 94 ci cz 193 193 Try.underlying95 hi hz hs hby (by rw [hc]; rfl) (by omega) _ 0 [] hown ⟨cb, 0, none⟩ D.lines.length cap (flat D.lines) (flat_length hd.ok) hnews (by
    intro u hu
    unfold flat at hu
    obtain ⟨x, hx, hu⟩ := List.mem_flatMap.1 hu
    exact cellsOf_one x u hu) (by unfold maxLen; omega) (by omega) (by simp)
  rw [Nat.zero_add, List.nil_append] at ho
  have hon : Only [] w w' := on0.trans (Only.of_grown hg (S := [w.heap.size]) (fun k hk => by simp [Value.ownBlock] at hk; subst hk; exact .inl (by simp))) (by simp)
  rcases ho.2 with ⟨e1, _⟩ | ⟨g2, cap2, cur, rfl, hbg, hg2, hnc, hcm, hcs, htake⟩
  · have := hnil.1 e1
    simp at this
  · have he := Lib.run_eql_slice_nil (P := Try.prog) w 95 94 (some ⟨cb, 0, none⟩) D.lines.length cap 0 0 Try.underlying95
    have H1 := Lib.hid (show Blk w' g2 94 cur from hg2)
    have H2 := Lib.hid htake
    have H3 := Lib.hid hon
    clear hd hd0 hnews on0 hown hi hz hs hc hby ho hg hnil hblk hg2 hcs htake hon
    generalize D.lines.length = m at *
    go_enter Try.func77, Try.ntmps77
    go_wp2_with (at_builtin; refine wpList_append_run _ rfl (.tmp 5) (.tmp 6) 95 rfl _ _ rfl rfl _ _ hr ?_)
    go_ret
    exact ⟨g2, cap2, rfl, hbg, hnc, ⟨cur, H1.out, H2.out⟩, H3.out⟩
set_option maxHeartbeats 2000000 in
theorem nvm_Copy (g cb cap : Nat) (D : Dev) (w : World) (hd : DevAt w g cb cap D) :
    Calls Try.prog 51 #[.pointer (some ⟨g, 0, none⟩)] w fun e w' => ∃ g2 cb2 cap2, e = .returned (.pointer (some ⟨g2, 0, none⟩)) ∧ DevAt w' g2 cb2 cap2 D ∧ Only [] w w' ∧ w.heap.size ≤ g2 ∧ w.heap.size ≤ cb2 := by
  have hc : w.cell? ⟨g, 0, none⟩ = some (.slice (some ⟨cb, 0, none⟩) D.lines.length cap) := hd.cell 0
  have HCL := Lib.hid (clone_cells g cb cap D w hd)
  have HF := Lib.hid hd.few
  have HOK := Lib.hid hd.ok
  have HD := Lib.hid hd
  clear hd
  obtain ⟨m, hm⟩ : ∃ m, m = D.lines.length := ⟨_, rfl⟩
  rw [← hm] at hc HCL HF
  have HM := Lib.hid hm
  clear hm
  go_enter Try.func51, Try.ntmps51
  go_wp2_with fail
  refine HCL.out.mono ?_
  rintro e w1 ⟨cb2, cap2, rfl, f1, f2, hbody, o1⟩
  have HB := Lib.hid hbody
  have O1 := Lib.hid o1
  have hs1 := o1.size
  clear hbody o1
  go_wp2_with fail
  have o2 : Only [] w1 (w1.alloc (.cells #[.slice (some ⟨cb2, 0, none⟩) m cap2, .int .i64 0, .int .i64 0, .int .i64 0, .int .i64 0, .int .i64 0] 104)) := (Only.refl _ _).alloc _
  have hb2 := Blk.new w1 104 #[.slice (some ⟨cb2, 0, none⟩) m cap2, .int .i64 0, .int .i64 0, .int .i64 0, .int .i64 0, .int .i64 0]
  have HX := Lib.hid (nvm_Counts g cb cap D _ (HD.out.only0 (O1.out.trans0 o2)))
  have O2 := Lib.hid o2
  have HB2 := Lib.hid hb2
  clear o2 hb2
  generalize w1.alloc (.cells #[.slice (some ⟨cb2, 0, none⟩) m cap2, .int .i64 0, .int .i64 0, .int .i64 0, .int .i64 0, .int .i64 0] 104) = w2 at *
  refine HX.out.mono ?_
  rintro e w3 ⟨rfl, o3⟩
  obtain ⟨L, s1, s2, s3, s4, s5⟩ := D
  have HC0 := Lib.hid (HB2.out.only o3 (by simp))
  have O3 := Lib.hid (((O1.out.trans0 O2.out).trans0 o3))
  have OB := Lib.hid (O2.out.trans0 o3)
  have hlt := HC0.out.lt
  clear o3
  go_wp2_with (first
    | ((with_reducible show wpList _ _ _ (Oper.mk (some 4) _ _ _ _ _ :: _) _ _); refine wpList_alloc_blk rfl 74 rfl _ countsZero ?_; intro w4 hb4 ho4 hs4; have hb4' : Blk w4 w3.heap.size 74 #[.int .i64 0, .int .i64 0, .int .i64 0, .int .i64 0, .int .i64 0] := hb4; clear hb4)
    | ((with_reducible show wpList _ _ _ (Oper.mk none _ _ _ _ _ :: _) _ _); refine wpList_store_blk rfl 74 (.tmp 4) (.tmp 15) rfl w3.heap.size 0 #[.int .i64 s1, .int .i64 s2, .int .i64 s3, .int .i64 s4, .int .i64 s5] rfl rfl 74 _ hb4' (by simp) (by kernel_rfl) (by kernel_rfl) ?_; intro w5 hb5 ho5 hs5))
  have HN := Lib.hid (show Blk w5 w3.heap.size 74 #[.int .i64 s1, .int .i64 s2, .int .i64 s3, .int .i64 s4, .int .i64 s5] from hb5)
  have hne : w1.heap.size ≠ w3.heap.size := by omega
  have OA := Lib.hid (ho4.trans ho5 (by simp))
  have HC := Lib.hid (HC0.out.only OA.out (by simp))
  have ON := Lib.hid ((O3.out.trans0 OA.out))
  have OC := Lib.hid (OB.out.trans0 OA.out)
  clear hb4' ho4 hs4 hb5 ho5 hs5 HC0 OA
  go_wp2_with fail
  refine wp_region_still_tail 6 (by kernel_rfl) (by kernel_rfl) ?_
  simp only [List.take_succ_cons, List.take_zero, List.drop_succ_cons, List.drop_zero]
  generalize hwd : ({ w5 with drawn := w5.drawn + 1 } : World) = wd1
  have OD := Lib.hid (drawn_only hwd)
  clear hwd
  have cn : wd1.cell? ⟨w3.heap.size, 0, none⟩ = some (.int .i64 s1) := (HN.out.only OD.out (by simp)).cell 0
  have hcd := HC.out.only OD.out (by simp)
  have cc : wd1.cell? ⟨w1.heap.size, 1, none⟩ = some (.int .i64 0) := hcd.cell 1
  have cf := hcd.frozen 1
  have HC2 := Lib.hid (show Blk (wd1.setCell ⟨w1.heap.size, 1, none⟩ (.int .i64 s1)) w1.heap.size 104 #[.slice (some ⟨cb2, 0, none⟩) m cap2, .int .i64 s1, .int .i64 0, .int .i64 0, .int .i64 0, .int .i64 0] from hcd.set 1 (.int .i64 s1))
  have o8 : Only [w1.heap.size] wd1 (wd1.setCell ⟨w1.heap.size, 1, none⟩ (.int .i64 s1)) := (Only.refl _ _).setCell (.inl (by simp)) _
  have ON2 := Lib.hid ((ON.out.trans0 OD.out).trans o8 (by intro b hb; simp at hb; omega))
  have OC2 := Lib.hid ((OC.out.trans0 OD.out).trans o8 (by intro b hb; simp at hb; omega))
  have HN2 := Lib.hid ((HN.out.only OD.out (by simp)).only o8 (by simp; omega))
  clear hcd o8 HC HN ON OC OD
  have HC := HC2
  have HN := HN2
  have ON := ON2
  have OC := OC2
  clear HC2 HN2 ON2 OC2
  repeat still_step
  refine wpStill_nil ?_
  go_wp2_with fail
  refine (int64_Store w1.heap.size 1 _ s1 wd1 cc cf).mono ?_
  rintro e w7 ⟨rfl, he1⟩
  rw [he1] at HC HN ON OC
  clear cc cf cn he1
  go_wp2_with fail
  refine wp_region_still_tail 6 (by kernel_rfl) (by kernel_rfl) ?_
  simp only [List.take_succ_cons, List.take_zero, List.drop_succ_cons, List.drop_zero]
  generalize hwd : ({ w7 with drawn := w7.drawn + 1 } : World) = wd2
  have OD := Lib.hid (drawn_only hwd)
  clear hwd
  have cn : wd2.cell? ⟨w3.heap.size, 1, none⟩ = some (.int .i64 s2) := (HN.out.only OD.out (by simp)).cell 1
  have hcd := HC.out.only OD.out (by simp)
  have cc : wd2.cell? ⟨w1.heap.size, 2, none⟩ = some (.int .i64 0) := hcd.cell 2
  have cf := hcd.frozen 2
  have HC2 := Lib.hid (show Blk (wd2.setCell ⟨w1.heap.size, 2, none⟩ (.int .i64 s2)) w1.heap.size 104 #[.slice (some ⟨cb2, 0, none⟩) m cap2, .int .i64 s1, .int .i64 s2, .int .i64 0, .int .i64 0, .int .i64 0] from hcd.set 2 (.int .i64 s2))
  have o8 : Only [w1.heap.size] wd2 (wd2.setCell ⟨w1.heap.size, 2, none⟩ (.int .i64 s2)) := (Only.refl _ _).setCell (.inl (by simp)) _
  have ON2 := Lib.hid ((ON.out.trans0 OD.out).trans o8 (by intro b hb; simp at hb; omega))
  have OC2 := Lib.hid ((OC.out.trans0 OD.out).trans o8 (by intro b hb; simp at hb; omega))
  have HN2 := Lib.hid ((HN.out.only OD.out (by simp)).only o8 (by simp; omega))
  clear hcd o8 HC HN ON OC OD
  have HC := HC2
  have HN := HN2
  have ON := ON2
  have OC := OC2
  clear HC2 HN2 ON2 OC2
  repeat still_step
  refine wpStill_nil ?_
  go_wp2_with fail
  refine (int64_Store w1.heap.size 2 _ s2 wd2 cc cf).mono ?_
  rintro e w9 ⟨rfl, he2⟩
  rw [he2] at HC HN ON OC
  clear cc cf cn he2
  go_wp2_with fail
  refine wp_region_still_tail 6 (by kernel_rfl) (by kernel_rfl) ?_
  simp only [List.take_succ_cons, List.take_zero, List.drop_succ_cons, List.drop_zero]
  generalize hwd : ({ w9 with drawn := w9.drawn + 1 } : World) = wd3
  have OD := Lib.hid (drawn_only hwd)
  clear hwd
  have cn : wd3.cell? ⟨w3.heap.size, 2, none⟩ = some (.int .i64 s3) := (HN.out.only OD.out (by simp)).cell 2
  have hcd := HC.out.only OD.out (by simp)
  have cc : wd3.cell? ⟨w1.heap.size, 3, none⟩ = some (.int .i64 0) := hcd.cell 3
  have cf := hcd.frozen 3
  have HC2 := Lib.hid (show Blk (wd3.setCell ⟨w1.heap.size, 3, none⟩ (.int .i64 s3)) w1.heap.size 104 #[.slice (some ⟨cb2, 0, none⟩) m cap2, .int .i64 s1, .int .i64 s2, .int .i64 s3, .int .i64 0, .int .i64 0] from hcd.set 3 (.int .i64 s3))
  have o8 : Only [w1.heap.size] wd3 (wd3.setCell ⟨w1.heap.size, 3, none⟩ (.int .i64 s3)) := (Only.refl _ _).setCell (.inl (by simp)) _
  have ON2 := Lib.hid ((ON.out.trans0 OD.out).trans o8 (by intro b hb; simp at hb; omega))
  have OC2 := Lib.hid ((OC.out.trans0 OD.out).trans o8 (by intro b hb; simp at hb; omega))
  have HN2 := Lib.hid ((HN.out.only OD.out (by simp)).only o8 (by simp; omega))
  clear hcd o8 HC HN ON OC OD
  have HC := HC2
  have HN := HN2
  have ON := ON2
  have OC := OC2
  clear HC2 HN2 ON2 OC2
  repeat still_step
  refine wpStill_nil ?_
  go_wp2_with fail
  refine (int64_Store w1.heap.size 3 _ s3 wd3 cc cf).mono ?_
  rintro e w11 ⟨rfl, he3⟩
  rw [he3] at HC HN ON OC
  clear cc cf cn he3
  go_wp2_with fail
  refine wp_region_still_tail 6 (by kernel_rfl) (by kernel_rfl) ?_
  simp only [List.take_succ_cons, List.take_zero, List.drop_succ_cons, List.drop_zero]
  generalize hwd : ({ w11 with drawn := w11.drawn + 1 } : World) = wd4
  have OD := Lib.hid (drawn_only hwd)
  clear hwd
  have cn : wd4.cell? ⟨w3.heap.size, 3, none⟩ = some (.int .i64 s4) := (HN.out.only OD.out (by simp)).cell 3
  have hcd := HC.out.only OD.out (by simp)
  have cc : wd4.cell? ⟨w1.heap.size, 4, none⟩ = some (.int .i64 0) := hcd.cell 4
  have cf := hcd.frozen 4
  have HC2 := Lib.hid (show Blk (wd4.setCell ⟨w1.heap.size, 4, none⟩ (.int .i64 s4)) w1.heap.size 104 #[.slice (some ⟨cb2, 0, none⟩) m cap2, .int .i64 s1, .int .i64 s2, .int .i64 s3, .int .i64 s4, .int .i64 0] from hcd.set 4 (.int .i64 s4))
  have o8 : Only [w1.heap.size] wd4 (wd4.setCell ⟨w1.heap.size, 4, none⟩ (.int .i64 s4)) := (Only.refl _ _).setCell (.inl (by simp)) _
  have ON2 := Lib.hid ((ON.out.trans0 OD.out).trans o8 (by intro b hb; simp at hb; omega))
  have OC2 := Lib.hid ((OC.out.trans0 OD.out).trans o8 (by intro b hb; simp at hb; omega))
  have HN2 := Lib.hid ((HN.out.only OD.out (by simp)).only o8 (by simp; omega))
  clear hcd o8 HC HN ON OC OD
  have HC := HC2
  have HN := HN2
  have ON := ON2
  have OC := OC2
  clear HC2 HN2 ON2 OC2
  repeat still_step
  refine wpStill_nil ?_
  go_wp2_with fail
  refine (int64_Store w1.heap.size 4 _ s4 wd4 cc cf).mono ?_
  rintro e w13 ⟨rfl, he4⟩
  rw [he4] at HC HN ON OC
  clear cc cf cn he4
  go_wp2_with fail
  refine wp_region_still_tail 6 (by kernel_rfl) (by kernel_rfl) ?_
  simp only [List.take_succ_cons, List.take_zero, List.drop_succ_cons, List.drop_zero]
  generalize hwd : ({ w13 with drawn := w13.drawn + 1 } : World) = wd5
  have OD := Lib.hid (drawn_only hwd)
  clear hwd
  have cn : wd5.cell? ⟨w3.heap.size, 4, none⟩ = some (.int .i64 s5) := (HN.out.only OD.out (by simp)).cell 4
  have hcd := HC.out.only OD.out (by simp)
  have cc : wd5.cell? ⟨w1.heap.size, 5, none⟩ = some (.int .i64 0) := hcd.cell 5
  have cf := hcd.frozen 5
  have HC2 := Lib.hid (show Blk (wd5.setCell ⟨w1.heap.size, 5, none⟩ (.int .i64 s5)) w1.heap.size 104 #[.slice (some ⟨cb2, 0, none⟩) m cap2, .int .i64 s1, .int .i64 s2, .int .i64 s3, .int .i64 s4, .int .i64 s5] from hcd.set 5 (.int .i64 s5))
  have o8 : Only [w1.heap.size] wd5 (wd5.setCell ⟨w1.heap.size, 5, none⟩ (.int .i64 s5)) := (Only.refl _ _).setCell (.inl (by simp)) _
  have ON2 := Lib.hid ((ON.out.trans0 OD.out).trans o8 (by intro b hb; simp at hb; omega))
  have OC2 := Lib.hid ((OC.out.trans0 OD.out).trans o8 (by intro b hb; simp at hb; omega))
  have HN2 := Lib.hid ((HN.out.only OD.out (by simp)).only o8 (by simp; omega))
  clear hcd o8 HC HN ON OC OD
  have HC := HC2
  have HN := HN2
  have ON := ON2
  have OC := OC2
  clear HC2 HN2 ON2 OC2
  repeat still_step
  refine wpStill_nil ?_
  go_wp2_with fail
  refine (int64_Store w1.heap.size 5 _ s5 wd5 cc cf).mono ?_
  rintro e w15 ⟨rfl, he5⟩
  rw [he5] at HC HN ON OC
  clear cc cf cn he5
  go_wp2
  go_ret
  obtain ⟨cs, hb, htk⟩ := HB.out
  rw [HM.out] at htk
  refine ⟨w1.heap.size, cb2, cap2, rfl, ⟨?_, ⟨cs, hb.only OC.out (by simp), htk⟩, ?_, HOK.out, ?_, ?_⟩, ON.out, hs1, f1⟩
  · have := HC.out
    rw [HM.out] at this
    exact this
  · have := hb.lt
    omega
  · have := HF.out
    rw [HM.out] at this
    exact this
  · have := f2
    rw [HM.out] at this
    exact this
end Go.Proofs.Ytfafpggppbolkaa
/- The walk of the statement NvmCopies. -/
set_option maxRecDepth 100000
namespace Go.Proofs.Ytfafpggppbolkaa
open Go.RowKit Go.Proofs.FuMem Go.Proofs.FuNvm Go.Proofs.FuCode
/-- do two devices' counts agree? -/
def sameCounts (D E : Dev) : Bool := D.stores == E.stores && (D.flushes == E.flushes && (D.fences == E.fences && (D.backs == E.backs && D.cuts == E.cuts)))
theorem sameCounts_refl (D : Dev) : sameCounts D D = true := by simp [sameCounts]
theorem eqFields_cons {P : Program} (d : Nat) (xs ys : Array Value) (f : Field) (fs : List Field) (a b : Value) (r : Bool) (w : World) (hn : f.name ≠ "_") (ha : (part f.type xs f.offset).run P w = .ok a w) (hb : (part f.type ys f.offset).run P w = .ok b w)
    (hr : (Op.equalIn d f.type a b).run P w = .ok r w) (s : Bool) (hs : (Op.eqFields d xs ys fs).run P w = .ok s w) : (Op.eqFields d xs ys (f :: fs)).run P w = .ok (r && s) w := by
  unfold Op.eqFields
  rw [if_pos hn]
  simp only [Sem.run_bind, ha, hb, hr, Result.andThen_ok]
  cases r
  · simp
  · simp [hs]
theorem eqFields_nil {P : Program} (d : Nat) (xs ys : Array Value) (w : World) : (Op.eqFields d xs ys []).run P w = .ok true w := by simp [Op.eqFields]
theorem counts_equal (D E : Dev) (w : World) : (Op.equalIn 10000 74 (countsV D) (countsV E)).run Try.prog w = .ok (sameCounts D E) w := by
  rw [run_equalIn_struct w 9999 74 _ _ (by kernel_rfl) (by kernel_rfl)]
  have hf : (Try.prog.fieldsOf 74).toList.map (fun f => (f.type, f.offset, decide (f.name = "_"))) = [(3, 0, false), (3, 1, false), (3, 2, false), (3, 3, false), (3, 4, false)] := by kernel_rfl
  generalize (Try.prog.fieldsOf 74).toList = fs at *
  obtain ⟨f0, f1, f2, f3, f4, rfl⟩ : ∃ f0 f1 f2 f3 f4, fs = [f0, f1, f2, f3, f4] := by
    have hl := congrArg List.length hf
    rw [List.length_map] at hl
    rcases fs with _ | ⟨f0, _ | ⟨f1, _ | ⟨f2, _ | ⟨f3, _ | ⟨f4, _ | ⟨f5, fs⟩⟩⟩⟩⟩⟩
    · simp at hl
    · simp at hl
    · simp at hl
    · simp at hl
    · simp at hl
    · exact ⟨_, _, _, _, _, rfl⟩
    · simp at hl
  · simp only [List.map_cons, List.map_nil, List.cons.injEq, Prod.mk.injEq, decide_eq_false_iff_not, and_true] at hf
    obtain ⟨⟨t0, o0, n0⟩, ⟨t1, o1, n1⟩, ⟨t2, o2, n2⟩, ⟨t3, o3, n3⟩, ⟨t4, o4, n4⟩⟩ := hf
    have hp : ∀ (xs : Array Value) (k : Nat) (v : Value), xs[k]? = some v → (part 3 xs k).run Try.prog w = .ok v w := fun xs k v h => by
      simp [part, isAgg, run_underlying Try.underlying3, h]
    have hq : ∀ a b : Int, (Op.equalIn 9999 3 (.int .i64 a) (.int .i64 b)).run Try.prog w = .ok (a == b) w := fun a b => run_equalIn_int (P := Try.prog) w 9998 3 .i64 .i64 a b Try.underlying3
    have key := eqFields_cons (P := Try.prog) 9999 #[.int .i64 D.stores, .int .i64 D.flushes, .int .i64 D.fences, .int .i64 D.backs, .int .i64 D.cuts] #[.int .i64 E.stores, .int .i64 E.flushes, .int .i64 E.fences, .int .i64 E.backs, .int .i64 E.cuts]
    have := key f0 _ _ _ _ w n0 (by rw [t0, o0]; exact hp _ 0 _ rfl) (by rw [t0, o0]; exact hp _ 0 _ rfl) (by rw [t0]; exact hq _ _) _
      (key f1 _ _ _ _ w n1 (by rw [t1, o1]; exact hp _ 1 _ rfl) (by rw [t1, o1]; exact hp _ 1 _ rfl) (by rw [t1]; exact hq _ _) _
      (key f2 _ _ _ _ w n2 (by rw [t2, o2]; exact hp _ 2 _ rfl) (by rw [t2, o2]; exact hp _ 2 _ rfl) (by rw [t2]; exact hq _ _) _
      (key f3 _ _ _ _ w n3 (by rw [t3, o3]; exact hp _ 3 _ rfl) (by rw [t3, o3]; exact hp _ 3 _ rfl) (by rw [t3]; exact hq _ _) _
      (key f4 _ _ _ _ w n4 (by rw [t4, o4]; exact hp _ 4 _ rfl) (by rw [t4, o4]; exact hp _ 4 _ rfl) (by rw [t4]; exact hq _ _) _ (eqFields_nil _ _ _ w)))))
    rw [this]
    simp [sameCounts]
theorem neq_counts (D E : Dev) (w : World) : (binOp .neq 74 (countsV D) (countsV E)).run Try.prog w = .ok (.bool (!sameCounts D E)) w := by
  unfold countsV
  rw [run_neq_struct]
  have := counts_equal D E w
  unfold countsV at this
  rw [this]
  rfl
theorem eql_counts (D E : Dev) (w : World) : (binOp .eql 74 (countsV D) (countsV E)).run Try.prog w = .ok (.bool (sameCounts D E)) w := by
  unfold countsV
  rw [run_eql_struct]
  have := counts_equal D E w
  unfold countsV at this
  rw [this]
  rfl
theorem countsGuard : Try.prog.eqGuardType Try.prog.depth 74 = false := by kernel_rfl
set_option maxHeartbeats 8000000 in
theorem walk_NvmCopies (A : Option Addr) (n c : Nat) (xs : List (Deed × Holds)) (A' : Option Addr) (n' c' : Nat) (ys : List (Deed × Holds)) (w : World) (h : Deeds w A n xs) (_hc : n ≤ c) (h' : Deeds w A' n' ys) (_hc' : n' ≤ c') :
    Calls Try.prog 13 #[.slice A n c, .slice A' n' c'] w fun e w' => e = .returned (.bool true) ∧ Only [] w w' := by
  have HL := Lib.hid (law3_large A n c xs w h)
  have HL' := Lib.hid (law3_large A' n' c' ys w h')
  by_cases hlg : isLarge xs = true
  · rw [hlg] at HL
    clear h h'
    go_enter Try.func13, Try.ntmps13
    go_wp2_with fail
    refine (HL.out).mono ?_
    rintro e w' ⟨rfl, rfl⟩
    go_wp2_with fail
    refine (law3_awake _).mono ?_
    rintro e w1 ⟨rfl, o1⟩
    have O1 := Lib.hid o1
    clear o1
    go_wp2
    go_ret
    exact ⟨rfl, O1.out⟩
  have hf : isLarge xs = false := by simpa using hlg
  rw [hf] at HL
  by_cases hlg' : isLarge ys = true
  · rw [hlg'] at HL'
    clear h h' hlg
    go_enter Try.func13, Try.ntmps13
    go_wp2_with fail
    refine (HL.out).mono ?_
    rintro e w' ⟨rfl, rfl⟩
    go_wp2_with fail
    refine (HL'.out).mono ?_
    rintro e w' ⟨rfl, rfl⟩
    go_wp2_with fail
    refine (law3_awake _).mono ?_
    rintro e w1 ⟨rfl, o1⟩
    have O1 := Lib.hid o1
    clear o1
    go_wp2
    go_ret
    exact ⟨rfl, O1.out⟩
  have hf' : isLarge ys = false := by simpa using hlg'
  rw [hf'] at HL'
  obtain ⟨_, hsm⟩ := large_no hf
  obtain ⟨_, hsm'⟩ := large_no hf'
  have HS := Lib.hid (fun w' (o : Only [] w w') => law3_some A n c xs w' (h.only0 o) hsm)
  obtain ⟨hl, hm, hok, hr⟩ := h'
  unfold maxLen at hm
  have HOK := Lib.hid hok
  have HR := Lib.hid hr
  have HLN := Lib.hid hl
  have HSM := Lib.hid hsm'
  clear h hlg hf hsm hlg' hf' hsm' hok hr hl
  have H8 := Lib.hid (playAll_8 xs)
  generalize playAll (newDev 8) xs = D at *
  have hcq := counts_equal D D
  go_enter Try.func13, Try.ntmps13
  go_wp2_with fail
  refine (HL.out).mono ?_
  rintro e w' ⟨rfl, rfl⟩
  go_wp2_with fail
  refine (HL'.out).mono ?_
  rintro e w' ⟨rfl, rfl⟩
  go_wp2_with fail
  refine (HS.out _ (Only.refl _ _)).mono ?_
  rintro e w1 ⟨g1, b1, rfl, d1, o1, f1, f2⟩
  have hg1 := d1.lt1
  have hb1 := d1.lt2
  have D1 := Lib.hid d1
  have O1 := Lib.hid o1
  clear d1 o1
  go_wp2_with fail
  refine (HS.out _ O1.out).mono ?_
  rintro e w2 ⟨g2, b2, rfl, d2, o2, f3, f4⟩
  have hg2 := d2.lt1
  have hb2 := d2.lt2
  have hs2 := o2.size
  have D2 := Lib.hid d2
  have E2 := Lib.hid (D1.out.only0 o2)
  have O2 := Lib.hid (O1.out.trans0 o2)
  clear d2 o2
  go_wp2_with fail
  refine (nvm_Copy g1 b1 8 D _ E2.out).mono ?_
  rintro e w3 ⟨g3, b3, cap3, rfl, d3, o3, f5, f6⟩
  have hs3 := o3.size
  have hg3 := d3.lt1
  have hb3 := d3.lt2
  have C3 := Lib.hid d3
  have D3 := Lib.hid (D2.out.only0 o3)
  have E3 := Lib.hid (E2.out.only0 o3)
  have O3 := Lib.hid (O2.out.trans0 o3)
  clear d3 o3
  go_wp2_with fail
  refine (nvm_Lines g3 b3 cap3 D _ C3.out).mono ?_
  rintro e w' ⟨rfl, rfl⟩
  rw [H8.out]
  go_wp2_with fail
  refine (nvm_Counts g3 b3 cap3 D _ C3.out).mono ?_
  rintro e w4 ⟨rfl, o4⟩
  have C4 := Lib.hid (C3.out.only0 o4)
  have D4 := Lib.hid (D3.out.only0 o4)
  have E4 := Lib.hid (E3.out.only0 o4)
  have O4 := Lib.hid (O3.out.trans0 o4)
  clear o4
  go_wp2_with fail
  refine (nvm_Counts g1 b1 8 D _ E4.out).mono ?_
  rintro e w5 ⟨rfl, o5⟩
  have C5 := Lib.hid (C4.out.only0 o5)
  have D5 := Lib.hid (D4.out.only0 o5)
  have E5 := Lib.hid (E4.out.only0 o5)
  have O5 := Lib.hid (O4.out.trans0 o5)
  clear o5
  have hnc := neq_counts D D
  rw [sameCounts_refl] at hnc
  have hgc := fun (a b : Operand) (w : World) => run_eqGuard_agg (P := Try.prog) w .neq 74 a b #[.int .i64 D.stores, .int .i64 D.flushes, .int .i64 D.fences, .int .i64 D.backs, .int .i64 D.cuts] #[.int .i64 D.stores, .int .i64 D.flushes, .int .i64 D.fences, .int .i64 D.backs, .int .i64 D.cuts] countsGuard
  clear hcq
  go_wp2
  clear hnc hgc
  go_loopw [8] (fun i wr => ∃ (j : Nat) (F : Dev), j ≤ n' ∧ i = .int .i64 j ∧ DevAt wr g3 b3 cap3 F ∧ DevAt wr g2 b2 8 D ∧ DevAt wr g1 b1 8 D ∧ Only [] w wr) (fun i _ => n' - (intOf i).toNat)
  case atStart => exact ⟨0, D, Nat.zero_le _, rfl, C5.out, D5.out, E5.out, O5.out⟩
  case round =>
    obtain ⟨j, F, hj, rfl, hdc, hd2, hd1, on⟩ := hrel
    by_cases hlt : j < n'
    · rcases HR.out with h0 | ⟨b, off, rfl, hrng⟩
      · omega
      have hxk : ys[j]? = some (ys[j]'(by rw [HLN.out]; exact hlt)) := List.getElem?_eq_getElem _
      have hmem : ys[j]'(by rw [HLN.out]; exact hlt) ∈ ys := List.getElem_mem _
      have hrg := hrng j _ hxk
      have hok := HOK.out _ hmem
      have hsk := (HSM.out _ hmem).2
      clear hrng hmem hxk
      generalize ys[j]'(by rw [HLN.out]; exact hlt) = y at *
      obtain ⟨y, s⟩ := y
      have hrw : wr.rangeAt b (off + j * 5) (deedV y s) := fun j v hv => by
        have hc := hrg j v hv
        rw [cell_only on (lt_of_cell hc) (by simp)]
        exact hc
      have HP := Lib.hid (law3_play g3 b3 cap3 _ y s w wr hok on (by omega) (by omega) hdc (by simp only at hsk; omega))
      have ON := Lib.hid on
      have H1 := Lib.hid hd1
      have H2 := Lib.hid hd2
      clear hok hrg hdc hd1 hd2 on hsk
      go_wp2_with ((with_reducible show wpList _ _ _ (Oper.mk (some 61) _ _ _ _ _ :: _) _ _); refine wpList_load_mid rfl 36 (.tmp 60) rfl b (off + j * 5) rfl (deedV y s) _ hrw Try.underlying36 rfl (by kernel_rfl) ?_)
      refine HP.out.mono ?_
      rintro e w6 ⟨rfl, d6, o6⟩
      have C6 := Lib.hid d6
      have K1 := Lib.hid (IsDev.only H1.out o6 (by simp; omega) (by simp; omega))
      have K2 := Lib.hid (IsDev.only H2.out o6 (by simp; omega) (by simp; omega))
      have O6 := Lib.hid (ON.out.trans o6 (by intro b hb; simp at hb; omega))
      clear d6 o6 hrw
      go_wp2
      go_roundw
      case rel => exact ⟨j + 1, _, by omega, by go_num, C6.out, K2.out, K1.out, O6.out⟩
      case measure => simp [intOf]; omega
    · obtain rfl : j = n' := by omega
      have ON := Lib.hid on
      have H1 := Lib.hid hd1
      have H2 := Lib.hid hd2
      clear hdc hd1 hd2 on
      go_wp2
      go_loopw [9, 10, 11, 12, 13, 14, 15, 16, 17] (fun i _ _ _ _ _ _ _ _ wr => ∃ (k : Nat), k ≤ 8 ∧ i = .int .i64 k ∧ DevAt wr g2 b2 8 D ∧ DevAt wr g1 b1 8 D ∧ Only [] w wr) (fun i _ _ _ _ _ _ _ _ _ => 8 - (intOf i).toNat)
      case atStart => exact ⟨0, by omega, rfl, H2.out, H1.out, ON.out⟩
      case round =>
        obtain ⟨k, hk, rfl, hd2, hd1, on⟩ := hrel
        have K1 := Lib.hid hd1
        have K2 := Lib.hid hd2
        have ON := Lib.hid on
        clear hd1 hd2 on
        by_cases hlt : k < 8
        · have hx := lineOf_get (D := D) (i := k) (by rw [H8.out]; exact hlt)
          generalize lineOf D (k : Int) = x at *
          have HX := Lib.hid hx
          clear hx
          go_wp2_with fail
          refine (nvm_Load g1 b1 8 D k x HX.out _ K1.out).mono ?_
          rintro e w6 ⟨v6, rfl, m6⟩
          obtain ⟨A6, c6, rfl, q6, _, o6⟩ := madeB_bs m6
          have J1 := Lib.hid (K1.out.only0 o6)
          have J2 := Lib.hid (K2.out.only0 o6)
          have O6 := Lib.hid (ON.out.trans0 o6)
          have B6 := Lib.hid q6
          clear m6 q6 o6
          go_wp2_with fail
          refine (nvm_Load g2 b2 8 D k x HX.out _ J2.out).mono ?_
          rintro e w7 ⟨v7, rfl, m7⟩
          obtain ⟨A7, c7, rfl, q7, _, o7⟩ := madeB_bs m7
          have L1 := Lib.hid (J1.out.only0 o7)
          have L2 := Lib.hid (J2.out.only0 o7)
          have O7 := Lib.hid (O6.out.trans0 o7)
          have B7 := Lib.hid (Sl.only0 B6.out o7)
          have B8 := Lib.hid q7
          clear m7 q7 o7
          go_wp2_with fail
          refine (nvm_Durable g1 b1 8 D k x HX.out _ L1.out).mono ?_
          rintro e w8 ⟨v8, rfl, m8⟩
          obtain ⟨A8, c8, rfl, q8, _, o8⟩ := madeB_bs m8
          have M1 := Lib.hid (L1.out.only0 o8)
          have M2 := Lib.hid (L2.out.only0 o8)
          have O8 := Lib.hid (O7.out.trans0 o8)
          have B9 := Lib.hid (Sl.only0 B7.out o8)
          have Ba := Lib.hid (Sl.only0 B8.out o8)
          have Bb := Lib.hid q8
          clear m8 q8 o8
          go_wp2_with fail
          refine (nvm_Durable g2 b2 8 D k x HX.out _ M2.out).mono ?_
          rintro e w9 ⟨v9, rfl, m9⟩
          obtain ⟨A9, c9, rfl, q9, _, o9⟩ := madeB_bs m9
          have N1 := Lib.hid (M1.out.only0 o9)
          have N2 := Lib.hid (M2.out.only0 o9)
          have O9 := Lib.hid (O8.out.trans0 o9)
          have Bc := Lib.hid (Sl.only0 B9.out o9)
          have Bd := Lib.hid (Sl.only0 Ba.out o9)
          have Be := Lib.hid (Sl.only0 Bb.out o9)
          have Bf := Lib.hid q9
          clear m9 q9 o9
          go_wp2_with fail
          refine (law0_SameBytes _ _ _ _ _ _ _ _ _ Bc.out Bd.out).mono ?_
          rintro e w' ⟨rfl, rfl⟩
          rw [beq_self_eq_true]
          go_wp2_with fail
          refine (law0_SameBytes _ _ _ _ _ _ _ _ _ Be.out Bf.out).mono ?_
          rintro e w' ⟨rfl, rfl⟩
          rw [beq_self_eq_true]
          go_wp2
          go_roundw
          case rel => exact ⟨k + 1, by omega, by go_num, N2.out, N1.out, O9.out⟩
          case measure => simp [intOf]; omega
        · have hfl := those_few (fun x => x.now != x.kept) D.lines D.lines.length
          have hfw := those_few (fun x => x.sent) D.lines D.lines.length
          rw [H8.out] at hfl hfw
          have HFL := Lib.hid hfl
          have HFW := Lib.hid hfw
          clear hfl hfw
          go_wp2_with fail
          refine (nvm_Loose g1 b1 8 D _ K1.out).mono ?_
          rintro e w6 ⟨v6, rfl, m6⟩
          obtain ⟨A6, c6, rfl, q6, o6⟩ := madeI_is m6
          rw [H8.out] at q6
          rw [H8.out]
          have J1 := Lib.hid (K1.out.only0 o6)
          have J2 := Lib.hid (K2.out.only0 o6)
          have O6 := Lib.hid (ON.out.trans0 o6)
          have B6 := Lib.hid q6
          clear m6 q6 o6
          go_wp2_with fail
          refine (nvm_Loose g2 b2 8 D _ J2.out).mono ?_
          rintro e w7 ⟨v7, rfl, m7⟩
          obtain ⟨A7, c7, rfl, q7, o7⟩ := madeI_is m7
          rw [H8.out] at q7
          rw [H8.out]
          have L1 := Lib.hid (J1.out.only0 o7)
          have L2 := Lib.hid (J2.out.only0 o7)
          have O7 := Lib.hid (O6.out.trans0 o7)
          have B7 := Lib.hid (Is.only0 B6.out o7)
          have B8 := Lib.hid q7
          clear m7 q7 o7
          go_wp2_with fail
          refine (law0_SameInts _ _ _ _ _ _ _ _ _ B7.out B8.out (by have := HFL.out; omega) (by have := HFL.out; omega)).mono ?_
          rintro e w8 ⟨rfl, o8⟩
          rw [beq_self_eq_true]
          have M1 := Lib.hid (L1.out.only0 o8)
          have M2 := Lib.hid (L2.out.only0 o8)
          have O8 := Lib.hid (O7.out.trans0 o8)
          clear o8
          go_wp2_with fail
          refine (nvm_Way g1 b1 8 D _ M1.out).mono ?_
          rintro e w9 ⟨v9, rfl, m9⟩
          obtain ⟨A9, c9, rfl, q9, o9⟩ := madeI_is m9
          rw [H8.out] at q9
          rw [H8.out]
          have N2 := Lib.hid (M2.out.only0 o9)
          have O9 := Lib.hid (O8.out.trans0 o9)
          have B9 := Lib.hid q9
          clear m9 q9 o9
          go_wp2_with fail
          refine (nvm_Way g2 b2 8 D _ N2.out).mono ?_
          rintro e wa ⟨va, rfl, ma⟩
          obtain ⟨Aa, ca, rfl, qa, oa⟩ := madeI_is ma
          rw [H8.out] at qa
          rw [H8.out]
          have Oa := Lib.hid (O9.out.trans0 oa)
          have Ba := Lib.hid (Is.only0 B9.out oa)
          have Bb := Lib.hid qa
          clear ma qa oa
          go_wp2_with fail
          refine (law0_SameInts _ _ _ _ _ _ _ _ _ Ba.out Bb.out (by have := HFW.out; omega) (by have := HFW.out; omega)).mono ?_
          rintro e wb ⟨rfl, ob⟩
          rw [beq_self_eq_true]
          have Ob := Lib.hid (Oa.out.trans0 ob)
          clear ob
          go_wp2_with fail
          refine (law3_awake _).mono ?_
          rintro e wc ⟨rfl, oc⟩
          have Oc := Lib.hid (Ob.out.trans0 oc)
          clear oc
          go_wp2
          go_ret
          exact ⟨rfl, Oc.out⟩
end Go.Proofs.Ytfafpggppbolkaa
/- The contracts of the reference of chapter 3, first part: the bounds, the bytes of a line, stores. -/
namespace Go.Proofs.FuMem
open Go.RowKit
/-- an array is read, in a region that draws its order -/
theorem still_load_arr {P : Program} {w : World} {ops : Array Oper} {rest : List Oper} {o : Oper} {a : Act} {Q : Act → Prop} (hw : Region.wanted o (yielded ops a.tmps) = true) (T : TypeId) (x : Operand) (ho : o.op = .load T x) (b off : Nat)
    (hx : a.eval x = .pointer (some ⟨b, off, none⟩)) (l : List UInt8) (hc : Bs w (some ⟨b, off, none⟩) l.length l) (n : Nat) (e : TypeId) (hu : P.underlying T = some (.array n e)) (hi : (P.info? T).map (·.size) = some l.length)
    (h : wpStill P ops w Q rest (a.put o.dst (arrV l))) : wpStill P ops w Q (o :: rest) a :=
  wpStill_step fun K hK => by
    rw [if_pos hw]
    have hr := run_loadAt_mid (P := P) w b off T (l.map B) _ (Sl.range hc) hu rfl (by simpa using hi)
    unfold Oper.still execOp
    simp only [ho, hx, Sem.run_bind, hr, Result.andThen_ok, Sem.run_pure]
    exact ⟨rfl, hK _ h⟩
theorem still_only {w wd : World} (h : ({ w with drawn := w.drawn + 1 } : World) = wd) : Only [] w wd := by subst h; exact (Only.refl _ _).drew
end Go.Proofs.FuMem
namespace Go.Proofs.Ytfafpggppbolkaa
open Go.RowKit Go.Proofs.FuMem Go.Proofs.FuNvm Go.Proofs.FuCode
set_option maxRecDepth 100000
abbrev RefAt (w : World) (g cb cap : Nat) (D : Dev) : Prop := IsDev 119 127 w g cb cap D
theorem ref3_Has_no (g cb cap : Nat) (D : Dev) (line : Int) (w : World) (hd : RefAt w g cb cap D) (h : line < 0 ∨ (D.lines.length : Int) ≤ line) :
    Calls Try.prog 91 #[.pointer (some ⟨g, 0, none⟩), .int .i64 line] w fun e w' => e = .returned (.bool false) ∧ w = w' := by
  have hc : w.cell? ⟨g, 0, none⟩ = some (.slice (some ⟨cb, 0, none⟩) D.lines.length cap) := hd.cell 0
  have hf := hd.few
  clear hd
  generalize D.lines.length = m at *
  by_cases h1 : line < 0
  · have q1 : decide (0 ≤ line) = false := by rw [decide_eq_false_iff_not]; omega
    clear h
    go_enter Try.func91, Try.ntmps91
    go_wp2
    go_ret
    exact ⟨rfl, rfl⟩
  · have q1 : decide (0 ≤ line) = true := by rw [decide_eq_true_eq]; omega
    have q2 : decide (line < (m : Int)) = false := by rw [decide_eq_false_iff_not]; omega
    clear h h1
    go_enter Try.func91, Try.ntmps91
    go_wp2
    go_ret
    exact ⟨rfl, rfl⟩
theorem ref3_Has_yes (g cb cap : Nat) (D : Dev) (line : Int) (w : World) (hd : RefAt w g cb cap D) (h : 0 ≤ line ∧ line < (D.lines.length : Int)) :
    Calls Try.prog 91 #[.pointer (some ⟨g, 0, none⟩), .int .i64 line] w fun e w' => e = .returned (.bool true) ∧ w = w' := by
  have hc : w.cell? ⟨g, 0, none⟩ = some (.slice (some ⟨cb, 0, none⟩) D.lines.length cap) := hd.cell 0
  have hf := hd.few
  clear hd
  generalize D.lines.length = m at *
  have q1 : decide (0 ≤ line) = true := by rw [decide_eq_true_eq]; omega
  have q2 : decide (line < (m : Int)) = true := by rw [decide_eq_true_eq]; omega
  clear h
  go_enter Try.func91, Try.ntmps91
  go_wp2
  go_ret
  exact ⟨rfl, rfl⟩
theorem rowZero3 : (Try.prog.info? 91).map (·.zero) = some (some (arrV (List.replicate 64 0))) := by kernel_rfl
theorem arrSize3 : (Try.prog.info? 91).map (·.size) = some 64 := by kernel_rfl
/-- bytes in a block of their own -/
def MadeA (w : World) (l : List UInt8) (v : Value) (w' : World) : Prop := ∃ g, v = .slice (some ⟨g, 0, none⟩) l.length l.length ∧ Bs w' (some ⟨g, 0, none⟩) l.length l ∧ w.heap.size ≤ g ∧ Only [] w w'
theorem ref3_Load_no (g cb cap : Nat) (D : Dev) (line : Int) (w : World) (hd : RefAt w g cb cap D) (h : line < 0 ∨ (D.lines.length : Int) ≤ line) :
    Calls Try.prog 85 #[.pointer (some ⟨g, 0, none⟩), .int .i64 line] w fun e w' => e = .returned (.tuple #[.slice none 0 0, .int .i64 2]) ∧ w = w' := by
  have HT := Lib.hid (ref3_Has_no g cb cap D line w hd h)
  clear hd h
  go_enter Try.func85, Try.ntmps85
  go_wp2_with fail
  refine (HT.out).mono ?_
  rintro e w' ⟨rfl, rfl⟩
  go_wp2
  go_ret2
  exact ⟨rfl, rfl⟩
theorem ref3_Durable_no (g cb cap : Nat) (D : Dev) (line : Int) (w : World) (hd : RefAt w g cb cap D) (h : line < 0 ∨ (D.lines.length : Int) ≤ line) :
    Calls Try.prog 86 #[.pointer (some ⟨g, 0, none⟩), .int .i64 line] w fun e w' => e = .returned (.tuple #[.slice none 0 0, .int .i64 2]) ∧ w = w' := by
  have HT := Lib.hid (ref3_Has_no g cb cap D line w hd h)
  clear hd h
  go_enter Try.func86, Try.ntmps86
  go_wp2_with fail
  refine (HT.out).mono ?_
  rintro e w' ⟨rfl, rfl⟩
  go_wp2
  go_ret2
  exact ⟨rfl, rfl⟩
set_option maxHeartbeats 400000 in
theorem ref3_Load (g cb cap : Nat) (D : Dev) (i : Nat) (x : Line) (hx : D.lines[i]? = some x) (w : World) (hd : RefAt w g cb cap D) :
    Calls Try.prog 85 #[.pointer (some ⟨g, 0, none⟩), .int .i64 i] w fun e w' => ∃ v, e = .returned (.tuple #[v, .int .i64 0]) ∧ MadeA w x.now v w' := by
  obtain ⟨hi, rfl⟩ := List.getElem?_eq_some_iff.1 hx
  have hc : w.cell? ⟨g, 0, none⟩ = some (.slice (some ⟨cb, 0, none⟩) D.lines.length cap) := hd.cell 0
  have hf := hd.few
  have HT := Lib.hid (ref3_Has_yes g cb cap D i w hd (by omega))
  have hlen := (hd.ok.get hi).1
  have hnow := hd.now hi
  generalize (D.lines[i]).now = l at *
  have hz : (List.replicate 64 (0 : UInt8)).length = l.length := by rw [hlen]; rfl
  have hsz : (Try.prog.info? 91).map (·.size) = some l.length := by rw [hlen]; exact arrSize3
  rw [← hlen] at hnow
  have HX := Lib.hid hnow
  have HL := Lib.hid hsz
  have HZ := Lib.hid hz
  have HN := Lib.hid hlen
  clear hd hx hnow hsz hz hlen
  generalize D.lines.length = m at *
  go_enter Try.func85, Try.ntmps85
  go_wp2_with fail
  refine (HT.out).mono ?_
  rintro e w' ⟨rfl, rfl⟩
  go_wp2_with (first
    | ((with_reducible show wpList _ _ _ (Oper.mk (some 18) _ _ _ _ _ :: _) _ _); refine wpList_load_arr rfl 91 (.tmp 17) rfl cb (i * 193) rfl l HX.out 64 5 Try.underlying91 HL.out ?_)
    | ((with_reducible show wpList _ _ _ (Oper.mk (some 6) _ _ _ _ _ :: _) _ _); refine wpList_alloc_arr rfl 91 rfl _ rowZero3 ?_; intro w1 hb1 ho1 hs1)
    | ((with_reducible show wpList _ _ _ (Oper.mk none _ _ _ _ _ :: _) _ _); refine wpList_store_arr rfl 91 (.tmp 6) (.tmp 18) rfl w.heap.size l rfl rfl _ _ hb1 HZ.out HL.out ?_; intro w6 hb6 ho6 hs6))
  go_ret2
  refine ⟨_, rfl, w.heap.size, by rw [HN.out]; rfl, Arr.bs hb6, Nat.le_refl _, ho1.trans ho6 (by simp)⟩
set_option maxHeartbeats 400000 in
theorem ref3_Durable (g cb cap : Nat) (D : Dev) (i : Nat) (x : Line) (hx : D.lines[i]? = some x) (w : World) (hd : RefAt w g cb cap D) :
    Calls Try.prog 86 #[.pointer (some ⟨g, 0, none⟩), .int .i64 i] w fun e w' => ∃ v, e = .returned (.tuple #[v, .int .i64 0]) ∧ MadeA w x.kept v w' := by
  obtain ⟨hi, rfl⟩ := List.getElem?_eq_some_iff.1 hx
  have hc : w.cell? ⟨g, 0, none⟩ = some (.slice (some ⟨cb, 0, none⟩) D.lines.length cap) := hd.cell 0
  have hf := hd.few
  have HT := Lib.hid (ref3_Has_yes g cb cap D i w hd (by omega))
  have hlen := (hd.ok.get hi).2.1
  have hnow := hd.kept hi
  generalize (D.lines[i]).kept = l at *
  have hz : (List.replicate 64 (0 : UInt8)).length = l.length := by rw [hlen]; rfl
  have hsz : (Try.prog.info? 91).map (·.size) = some l.length := by rw [hlen]; exact arrSize3
  have hnow2 : Bs w (some ⟨cb, i * 193 + 64, none⟩) l.length l := hlen.symm ▸ hnow
  have HX2 := Lib.hid hnow2
  have HL := Lib.hid hsz
  have HZ := Lib.hid hz
  have HN := Lib.hid hlen
  clear hd hx hnow hnow2 hsz hz hlen
  generalize D.lines.length = m at *
  go_enter Try.func86, Try.ntmps86
  go_wp2_with fail
  refine (HT.out).mono ?_
  rintro e w' ⟨rfl, rfl⟩
  go_wp2_with (first
    | ((with_reducible show wpList _ _ _ (Oper.mk (some 18) _ _ _ _ _ :: _) _ _); refine wpList_load_arr rfl 91 (.tmp 17) rfl cb (i * 193 + 64) rfl l HX2.out 64 5 Try.underlying91 HL.out ?_)
    | ((with_reducible show wpList _ _ _ (Oper.mk (some 6) _ _ _ _ _ :: _) _ _); refine wpList_alloc_arr rfl 91 rfl _ rowZero3 ?_; intro w1 hb1 ho1 hs1)
    | ((with_reducible show wpList _ _ _ (Oper.mk none _ _ _ _ _ :: _) _ _); refine wpList_store_arr rfl 91 (.tmp 6) (.tmp 18) rfl w.heap.size l rfl rfl _ _ hb1 HZ.out HL.out ?_; intro w6 hb6 ho6 hs6))
  go_ret2
  refine ⟨_, rfl, w.heap.size, by rw [HN.out]; rfl, Arr.bs hb6, Nat.le_refl _, ho1.trans ho6 (by simp)⟩
theorem set_over (l : List UInt8) (k : Nat) (v : UInt8) (h : k < l.length) : l.set k v = over l k [v] := by
  unfold over
  rw [List.set_eq_take_append_cons_drop, if_pos h]
  simp
section
variable {tD tC : TypeId} {w w' : World} {g cb cap : Nat} {D : Dev}
theorem IsDev.setByte (h : IsDev tD tC w g cb cap D) {i : Nat} (hi : i < D.lines.length) {o : Nat} (ho : o < 64) (v : UInt8) {z : Int} (hz : z = v.toNat) :
    IsDev tD tC (w.setCell ⟨cb, i * 193 + o, none⟩ (.int .u8 z)) g cb cap { D with lines := D.lines.set i { D.lines[i] with now := (D.lines[i]).now.set o v } } ∧ Only [cb] w (w.setCell ⟨cb, i * 193 + o, none⟩ (.int .u8 z)) := by
  subst hz
  have on : Only [cb] w (w.setCell ⟨cb, i * 193 + o, none⟩ (B v)) := (Only.refl [cb] w).setCell (p := ⟨cb, i * 193 + o, none⟩) (.inl (by simp)) _
  obtain ⟨cs, hb, hp⟩ := h.body
  have hs := body_size h.ok hp
  have hi2 : (i + 1) * 193 ≤ D.lines.length * 193 := Nat.mul_le_mul_right _ hi
  have hb2 := hb.set (i * 193 + o) (B v)
  have hok := h.ok.get hi
  rw [set_splice cs _ _ (by omega)] at hb2
  refine ⟨h.write hi (o := o) (vs := [B v]) (by simp; omega) ?_ ?_ cs hp hb2 on, on⟩
  · have := over_cells (D.lines[i]) hok o [v] (by simp; omega)
    rw [set_over _ _ _ (by rw [hok.1]; exact ho)]
    exact this
  · exact ⟨by rw [List.length_set]; exact hok.1, hok.2.1, hok.2.2⟩
end
/-- a line of which some bytes are stored already -/
def stored (x : Line) (a : Nat) (l : List UInt8) (j : Nat) : Line := { x with now := over x.now a (l.take j) }
theorem stored_zero (x : Line) (a : Nat) (l : List UInt8) : stored x a l 0 = x := by
  unfold stored
  rw [List.take_zero, over_nil]
theorem stored_succ (x : Line) (a : Nat) (l : List UInt8) (j : Nat) (h : a + l.length ≤ x.now.length) (hj : j < l.length) : { stored x a l j with now := (stored x a l j).now.set (a + j) (l.getD j 0) } = stored x a l (j + 1) := by
  unfold stored
  simp only
  rw [over_take_succ x.now l a j h hj]
theorem set_set_line (L : List Line) (i : Nat) (x y : Line) : (L.set i x).set i y = L.set i y := List.set_set ..
set_option maxHeartbeats 1000000 in
theorem ref3_Store_any (g cb cap : Nat) (D : Dev) (line pos : Int) (A : Option Addr) (n c : Nat) (l : List UInt8) (w : World) (hd : RefAt w g cb cap D) (hl : Bs w A n l) (hn : n ≤ maxLen) (hsafe : 0 < n → ∀ b off s, A = some ⟨b, off, s⟩ → b ≠ cb)
    (h1 : -9223372036854775808 ≤ pos ∧ pos ≤ 9223372036854775807) :
    Calls Try.prog 59 #[.pointer (some ⟨g, 0, none⟩), .int .i64 line, .int .i64 pos, .slice A n c] w fun e w' => e = .returned (.int .i64 (ansOf (noPlace D.lines.length line pos l.length))) ∧ RefAt w' g cb cap (store1 D line pos l) ∧ Only [g, cb] w w' := by
  have hlen : l.length = n := hl.len
  unfold maxLen at hn
  unfold ansOf store1
  rw [hlen]
  by_cases h : noPlace D.lines.length line pos n
  · rw [if_pos h, if_pos h]
    unfold noPlace at h
    have HD := Lib.hid hd
    have HN := Lib.hid hlen
    by_cases hh : line < 0 ∨ (D.lines.length : Int) ≤ line
    · have HT := Lib.hid (ref3_Has_no g cb cap D line w hd hh)
      clear hd hl h hh hlen hsafe
      go_enter Try.func59, Try.ntmps59
      go_wp2_with fail
      refine (HT.out).mono ?_
      rintro e w' ⟨rfl, rfl⟩
      go_wp2
      go_ret
      exact ⟨rfl, HD.out, Only.refl _ _⟩
    have HT := Lib.hid (ref3_Has_yes g cb cap D line w hd (by omega))
    by_cases hp : pos < 0
    · have q1 : decide (pos < 0) = true := by simpa using hp
      clear hd hl h hh hlen hsafe
      go_enter Try.func59, Try.ntmps59
      go_wp2_with fail
      refine (HT.out).mono ?_
      rintro e w' ⟨rfl, rfl⟩
      go_wp2
      go_ret
      exact ⟨rfl, HD.out, Only.refl _ _⟩
    have q1 : decide (pos < 0) = false := by simpa using hp
    by_cases hp2 : 64 < pos
    · have q2 : decide (64 < pos) = true := by simpa using hp2
      clear hd hl h hh hlen hsafe
      go_enter Try.func59, Try.ntmps59
      go_wp2_with fail
      refine (HT.out).mono ?_
      rintro e w' ⟨rfl, rfl⟩
      go_wp2
      go_ret
      exact ⟨rfl, HD.out, Only.refl _ _⟩
    have q2 : decide (64 < pos) = false := by simpa using hp2
    have q3 : decide (64 - pos < (n : Int)) = true := by rw [decide_eq_true_eq]; omega
    have hp0 : 0 ≤ pos := by omega
    have hp1 : pos ≤ 64 := by omega
    clear hd hl h hh hlen hsafe hp hp2
    go_enter Try.func59, Try.ntmps59
    go_wp2_with fail
    refine (HT.out).mono ?_
    rintro e w' ⟨rfl, rfl⟩
    go_wp2
    go_ret
    exact ⟨rfl, HD.out, Only.refl _ _⟩
  · rw [if_neg h, if_neg h]
    have h' := h
    unfold noPlace at h'
    obtain ⟨i, rfl⟩ := Int.eq_ofNat_of_zero_le (show 0 ≤ line by omega)
    obtain ⟨a, rfl⟩ := Int.eq_ofNat_of_zero_le (show 0 ≤ pos by omega)
    rw [Int.toNat_natCast, Int.toNat_natCast]
    have hi : i < D.lines.length := by omega
    have HT := Lib.hid (ref3_Has_yes g cb cap D i w hd (by omega))
    have q1 : decide ((a : Int) < 0) = false := by rw [decide_eq_false_iff_not]; omega
    have q2 : decide ((64 : Int) < (a : Int)) = false := by rw [decide_eq_false_iff_not]; omega
    have q3 : decide ((64 : Int) - (a : Int) < (n : Int)) = false := by rw [decide_eq_false_iff_not]; omega
    have ha : a + n ≤ 64 := by omega
    have hx := lineOf_get hi
    generalize hxl : lineOf D (i : Int) = x at *
    have hok := hd.ok.get hi
    rw [List.getElem?_eq_getElem hi] at hx
    have hx2 := Option.some.inj hx
    rw [hx2] at hok
    have hf := hd.few
    have HX := Lib.hid hx2
    have HOK := Lib.hid hok
    have HD := Lib.hid hd
    have HB := Lib.hid hl
    have HN := Lib.hid hlen
    have HSF := Lib.hid hsafe
    have hg2 := hd.lt2
    have hne := hd.ne
    obtain ⟨m, hm⟩ : ∃ m, m = D.lines.length := ⟨_, rfl⟩
    rw [← hm] at hi hf
    have HM := Lib.hid hm
    clear h h' hd hl hlen hsafe hok hx hx2 hxl hm
    go_enter Try.func59, Try.ntmps59
    go_wp2_with fail
    refine (HT.out).mono ?_
    rintro e w' ⟨rfl, rfl⟩
    go_wp2
    go_loopw [9] (fun k wr => ∃ j : Nat, j ≤ n ∧ k = .int .i64 j ∧ RefAt wr g cb cap { D with lines := D.lines.set i (stored x a l j) } ∧ Only [cb] w wr) (fun k _ => n - (intOf k).toNat)
    case atStart => exact ⟨0, Nat.zero_le _, rfl, by rw [stored_zero, ← HX.out, List.set_getElem_self]; exact HD.out, Only.refl _ _⟩
    case round =>
      obtain ⟨j, hj, rfl, hd, on⟩ := hrel
      by_cases hlt : j < n
      · have hc0 : wr.cell? ⟨g, 0, none⟩ = some (.slice (some ⟨cb, 0, none⟩) m cap) := by
          rw [hd.cell 0, HM.out]
          simp [headOf]
        obtain ⟨b, off, rfl, hcl⟩ := HB.out.at_ (by omega)
        have hjl : j < l.length := by rw [HN.out]; exact hlt
        have hb0 := hcl j hjl
        have hbc : wr.cell? ⟨b, off + j, none⟩ = some (.int .u8 ((l[j].toNat : Nat) : Int)) := by
          rw [cell_only on (lt_of_cell hb0) (by have := HSF.out (by omega) b off none rfl; simpa using this)]
          exact hb0
        have hil : i < (D.lines.set i (stored x a l j)).length := by rw [List.length_set, ← HM.out]; exact hi
        have hfz := hd.frozen2 (i * 193 + (a + j))
        have hcx := hd.now (i := i) hil
        obtain ⟨b2, off2, e2, hcl2⟩ := hcx.at_ (by omega)
        cases e2
        have hold0 := hcl2 (a + j) (by rw [hcx.len]; omega)
        have ON := Lib.hid on
        have HDR := Lib.hid hd
        have HST := Lib.hid (stored_succ x a l j (by rw [HOK.out.1, HN.out]; exact ha) hjl)
        have HLJ := Lib.hid (show ((l[j].toNat : Nat) : Int) = ((l.getD j 0).toNat : Int) by simp [List.getD, List.getElem?_eq_getElem hjl])
        obtain ⟨yo, hold⟩ : ∃ yo : Value, wr.cell? ⟨cb, i * 193 + (a + j), none⟩ = some yo := ⟨_, hold0⟩
        clear hold0
        clear hd on hcl hb0 hcx hcl2
        generalize l[j].toNat = y at *
        have q8 : ((a : Int) + (j : Int)).toNat = a + j := by omega
        have q6 : (0 : Int) ≤ (a : Int) + (j : Int) := by omega
        have q7 : (a : Int) + (j : Int) < 64 := by omega
        have q5 : IntKind.i64.wrap ((a : Int) + (j : Int)) = (a : Int) + (j : Int) := by rw [IntKind.wrap_i64]; omega
        go_wp2_with fail
        refine wp_region_still_tail 15 (by kernel_rfl) (by kernel_rfl) ?_
        simp only [List.take_succ_cons, List.take_zero, List.drop_succ_cons, List.drop_zero]
        generalize hwd : ({ wr with drawn := wr.drawn + 1 } : World) = wd
        have hc0' : wd.cell? ⟨g, 0, none⟩ = some (.slice (some ⟨cb, 0, none⟩) m cap) := hwd ▸ hc0
        have hbc' : wd.cell? ⟨b, off + j, none⟩ = some (.int .u8 (y : Int)) := hwd ▸ hbc
        have hfz' : wd.frozen? ⟨cb, i * 193 + (a + j), none⟩ = false := hwd ▸ hfz
        have hold' : wd.cell? ⟨cb, i * 193 + (a + j), none⟩ = some yo := hwd ▸ hold
        have hsb := IsDev.setByte (HDR.out.only0 (still_only hwd)) (i := i) hil (o := a + j) (by omega) (l.getD j 0) (z := (y : Int)) HLJ.out
        simp only [List.getElem_set_self, List.set_set] at hsb
        rw [HST.out] at hsb
        have HSB := Lib.hid hsb.1
        have HON := Lib.hid ((ON.out.trans0 (still_only hwd)).trans hsb.2 (by simp))
        clear hwd hc0 hbc hfz hold hsb
        repeat still_step
        refine wpStill_nil ?_
        go_wp2
        go_roundw
        case rel => exact ⟨j + 1, by omega, by go_num, HSB.out, HON.out⟩
        case measure => simp [intOf]; omega
      · obtain rfl : j = n := by omega
        have hfin : stored x a l j = { x with now := over x.now a l } := by
          unfold stored
          rw [List.take_of_length_le (by rw [HN.out]; exact Nat.le_refl _)]
        rw [hfin] at hd
        have hc1 : wr.cell? ⟨g, 1, none⟩ = some (.int .i64 D.stores) := hd.cell 1
        have hf1 := hd.frozen1 1
        have hcnt := IsDev.count (D' := storeD D i x a l) hd 1 (wrap64 (D.stores + 1)) rfl (by unfold storeD headOf; simp)
        have HCN := Lib.hid hcnt
        have ON := Lib.hid on
        clear hd on hfin hcnt
        go_wp2
        go_ret
        exact ⟨rfl, HCN.out.1, (ON.out.mono (by simp)).trans HCN.out.2 (by simp)⟩
end Go.Proofs.Ytfafpggppbolkaa
/- The contracts of the reference of chapter 3, second part: flush, back. -/
namespace Go.Proofs.Ytfafpggppbolkaa
open Go.RowKit Go.Proofs.FuMem Go.Proofs.FuNvm Go.Proofs.FuCode
set_option maxRecDepth 100000
set_option maxHeartbeats 1000000 in
theorem ref3_Flush (g cb cap : Nat) (D : Dev) (i : Nat) (x : Line) (hx : D.lines[i]? = some x) (w : World) (hd : RefAt w g cb cap D) :
    Calls Try.prog 79 #[.pointer (some ⟨g, 0, none⟩), .int .i64 i] w fun e w' => e = .returned (.int .i64 0) ∧ RefAt w' g cb cap (flushD D i x) ∧ Only [g, cb] w w' := by
  obtain ⟨hi, rfl⟩ := List.getElem?_eq_some_iff.1 hx
  have hc : w.cell? ⟨g, 0, none⟩ = some (.slice (some ⟨cb, 0, none⟩) D.lines.length cap) := hd.cell 0
  have hf := hd.few
  have HT := Lib.hid (ref3_Has_yes g cb cap D i w hd (by omega))
  have HD := Lib.hid hd
  have hok := hd.ok.get hi
  have hlen := hok.1
  have hsz : (Try.prog.info? 91).map (·.size) = some (D.lines[i]).now.length := by rw [hlen]; exact arrSize3
  have hsz2 : (Try.prog.info? 91).map (·.size) = some ((D.lines[i]).now.map B).toArray.size := by rw [List.size_toArray, List.length_map, hlen]; exact arrSize3
  have hne := hd.ne
  have hne2 := hd.ne.symm
  have HOK := Lib.hid hok
  have HLEN := Lib.hid hlen
  have HS1 := Lib.hid hsz
  have HS2 := Lib.hid hsz2
  clear hok hlen hsz hsz2 hd hx
  go_enter Try.func79, Try.ntmps79
  go_wp2_with fail
  refine (HT.out).mono ?_
  rintro e w' ⟨rfl, rfl⟩
  go_wp2_with fail
  refine wp_region_still_tail 15 (by kernel_rfl) (by kernel_rfl) ?_
  simp only [List.take_succ_cons, List.take_zero, List.drop_succ_cons, List.drop_zero]
  generalize hwd : ({ w with drawn := w.drawn + 1 } : World) = wd
  have hcd : wd.cell? ⟨g, 0, none⟩ = some (.slice (some ⟨cb, 0, none⟩) D.lines.length cap) := hwd ▸ hc
  have ONW := Lib.hid (still_only hwd)
  clear hwd hc
  have HDW := Lib.hid (HD.out.only0 ONW.out)
  have hnow := HDW.out.now hi
  have hnow2 : Bs wd (some ⟨cb, i * 193, none⟩) (D.lines[i]).now.length (D.lines[i]).now := by rw [HLEN.out]; exact hnow
  obtain ⟨cs, hb, hfit, hwr⟩ := IsDev.ready HDW.out hi
  have hft := hfit 128 (D.lines[i]).now HLEN.out (by omega)
  have HWR := Lib.hid (hwr 128 (D.lines[i]).now { D.lines[i] with way := (D.lines[i]).now } (by rw [HLEN.out]; omega) (cells_way _ HOK.out _ HLEN.out) ⟨HOK.out.1, HOK.out.2.1, HOK.out.1⟩)
  clear hfit hwr hnow
  repeat still_step
  refine still_load_arr rfl 91 (.tmp 20) rfl cb (i * 193) rfl (D.lines[i]).now hnow2 64 5 Try.underlying91 HS1.out ?_
  repeat still_step
  refine wpStill_nil ?_
  go_wp2_with ((with_reducible show wpList _ _ _ (Oper.mk none _ _ _ _ _ :: _) _ _); refine wpList_store_blk rfl 91 (.tmp 23) (.tmp 21) rfl cb (i * 193 + 128) ((D.lines[i]).now.map B).toArray rfl rfl 127 cs hb hft HS2.out (all_B _) ?_; intro w2 hb2 ho2 hs2; have hd2 := HWR.out w2 hb2 ho2; have hc2 : w2.cell? ⟨g, 0, none⟩ = some (.slice (some ⟨cb, 0, none⟩) D.lines.length cap) := (by rw [hd2.cell 0]; simp [headOf]); have hcn : w2.cell? ⟨g, 2, none⟩ = some (.int .i64 D.flushes) := hd2.cell 2; have hfn := hd2.frozen1 2; have hsc := hd2.sentCell (i := i) (by simpa using hi); have hfz := hd2.frozen2 (i * 193 + 192); have HD2 := Lib.hid hd2;clear hd2 hb)
  have hsw := IsDev.setSent HD2.out (i := i) (by simpa using hi) true
  have hl2 : ({ { D with lines := D.lines.set i { D.lines[i] with way := (D.lines[i]).now } } with lines := (D.lines.set i { D.lines[i] with way := (D.lines[i]).now }).set i { ((D.lines.set i { D.lines[i] with way := (D.lines[i]).now })[i]'(by simpa using hi)) with sent := true } } : Dev) = { D with lines := D.lines.set i (flushL (D.lines[i])) } := by
    simp [flushL]
  have hd3 := hsw.1
  rw [hl2] at hd3
  have hcnt := IsDev.count (D' := flushD D i (D.lines[i])) hd3 2 (wrap64 (D.flushes + 1)) rfl (by unfold flushD headOf; simp)
  go_ret
  exact ⟨rfl, hcnt.1, ((((ONW.out.mono (T := [g, cb]) (by simp)).trans ho2 (by simp)).trans hsw.2 (by simp))).trans hcnt.2 (by simp)⟩
theorem ref3_Flush_any (g cb cap : Nat) (D : Dev) (line : Int) (w : World) (hd : RefAt w g cb cap D) :
    Calls Try.prog 79 #[.pointer (some ⟨g, 0, none⟩), .int .i64 line] w fun e w' => e = .returned (.int .i64 (ansOf (noPlace D.lines.length line 0 0))) ∧ RefAt w' g cb cap (flush1 D line) ∧ Only [g, cb] w w' := by
  unfold ansOf flush1
  by_cases h : noPlace D.lines.length line 0 0
  · rw [if_pos h, if_pos h]
    unfold noPlace at h
    have HT := Lib.hid (ref3_Has_no g cb cap D line w hd (by omega))
    have HD := Lib.hid hd
    clear hd h
    go_enter Try.func79, Try.ntmps79
    go_wp2_with fail
    refine (HT.out).mono ?_
    rintro e w' ⟨rfl, rfl⟩
    go_wp2
    go_ret
    exact ⟨rfl, HD.out, Only.refl _ _⟩
  · rw [if_neg h, if_neg h]
    have h' := h
    unfold noPlace at h'
    obtain ⟨i, rfl⟩ := Int.eq_ofNat_of_zero_le (show 0 ≤ line by omega)
    rw [Int.toNat_natCast]
    exact ref3_Flush g cb cap D i _ (lineOf_get (by omega)) w hd
set_option maxHeartbeats 1000000 in
theorem ref3_Back (g cb cap : Nat) (D : Dev) (i : Nat) (x : Line) (hx : D.lines[i]? = some x) (w : World) (hd : RefAt w g cb cap D) :
    Calls Try.prog 81 #[.pointer (some ⟨g, 0, none⟩), .int .i64 i] w fun e w' => e = .returned (.int .i64 0) ∧ RefAt w' g cb cap (backD D i x) ∧ Only [g, cb] w w' := by
  obtain ⟨hi, rfl⟩ := List.getElem?_eq_some_iff.1 hx
  have hc : w.cell? ⟨g, 0, none⟩ = some (.slice (some ⟨cb, 0, none⟩) D.lines.length cap) := hd.cell 0
  have hf := hd.few
  have HT := Lib.hid (ref3_Has_yes g cb cap D i w hd (by omega))
  have HD := Lib.hid hd
  have hok := hd.ok.get hi
  have hlen := hok.1
  have hsz : (Try.prog.info? 91).map (·.size) = some (D.lines[i]).now.length := by rw [hlen]; exact arrSize3
  have hsz2 : (Try.prog.info? 91).map (·.size) = some ((D.lines[i]).now.map B).toArray.size := by rw [List.size_toArray, List.length_map, hlen]; exact arrSize3
  have hne := hd.ne
  have hne2 := hd.ne.symm
  have HOK := Lib.hid hok
  have HLEN := Lib.hid hlen
  have HS1 := Lib.hid hsz
  have HS2 := Lib.hid hsz2
  clear hok hlen hsz hsz2 hd hx
  go_enter Try.func81, Try.ntmps81
  go_wp2_with fail
  refine (HT.out).mono ?_
  rintro e w' ⟨rfl, rfl⟩
  go_wp2_with fail
  refine wp_region_still_tail 15 (by kernel_rfl) (by kernel_rfl) ?_
  simp only [List.take_succ_cons, List.take_zero, List.drop_succ_cons, List.drop_zero]
  generalize hwd : ({ w with drawn := w.drawn + 1 } : World) = wd
  have hcd : wd.cell? ⟨g, 0, none⟩ = some (.slice (some ⟨cb, 0, none⟩) D.lines.length cap) := hwd ▸ hc
  have ONW := Lib.hid (still_only hwd)
  clear hwd hc
  have HDW := Lib.hid (HD.out.only0 ONW.out)
  have hnow := HDW.out.now hi
  have hnow2 : Bs wd (some ⟨cb, i * 193, none⟩) (D.lines[i]).now.length (D.lines[i]).now := by rw [HLEN.out]; exact hnow
  obtain ⟨cs, hb, hfit, hwr⟩ := IsDev.ready HDW.out hi
  have hft := hfit 64 (D.lines[i]).now HLEN.out (by omega)
  have HWR := Lib.hid (hwr 64 (D.lines[i]).now { D.lines[i] with kept := (D.lines[i]).now } (by rw [HLEN.out]; omega) (cells_kept _ HOK.out _ HLEN.out) ⟨HOK.out.1, HOK.out.1, HOK.out.2.2⟩)
  clear hfit hwr hnow
  repeat still_step
  refine still_load_arr rfl 91 (.tmp 20) rfl cb (i * 193) rfl (D.lines[i]).now hnow2 64 5 Try.underlying91 HS1.out ?_
  repeat still_step
  refine wpStill_nil ?_
  go_wp2_with ((with_reducible show wpList _ _ _ (Oper.mk none _ _ _ _ _ :: _) _ _); refine wpList_store_blk rfl 91 (.tmp 23) (.tmp 21) rfl cb (i * 193 + 64) ((D.lines[i]).now.map B).toArray rfl rfl 127 cs hb hft HS2.out (all_B _) ?_; intro w2 hb2 ho2 hs2; have hd2 := HWR.out w2 hb2 ho2; have hc2 : w2.cell? ⟨g, 0, none⟩ = some (.slice (some ⟨cb, 0, none⟩) D.lines.length cap) := (by rw [hd2.cell 0]; simp [headOf]); have hcn : w2.cell? ⟨g, 4, none⟩ = some (.int .i64 D.backs) := hd2.cell 4; have hfn := hd2.frozen1 4; have hsc := hd2.sentCell (i := i) (by simpa using hi); have hfz := hd2.frozen2 (i * 193 + 192); have HD2 := Lib.hid hd2;clear hd2 hb)
  have hsw := IsDev.setSent HD2.out (i := i) (by simpa using hi) false
  have hl2 : ({ { D with lines := D.lines.set i { D.lines[i] with kept := (D.lines[i]).now } } with lines := (D.lines.set i { D.lines[i] with kept := (D.lines[i]).now }).set i { ((D.lines.set i { D.lines[i] with kept := (D.lines[i]).now })[i]'(by simpa using hi)) with sent := false } } : Dev) = { D with lines := D.lines.set i (backL (D.lines[i])) } := by
    simp [backL]
  have hd3 := hsw.1
  rw [hl2] at hd3
  have hcnt := IsDev.count (D' := backD D i (D.lines[i])) hd3 4 (wrap64 (D.backs + 1)) rfl (by unfold backD headOf; simp)
  go_ret
  exact ⟨rfl, hcnt.1, ((((ONW.out.mono (T := [g, cb]) (by simp)).trans ho2 (by simp)).trans hsw.2 (by simp))).trans hcnt.2 (by simp)⟩
theorem ref3_Back_any (g cb cap : Nat) (D : Dev) (line : Int) (w : World) (hd : RefAt w g cb cap D) :
    Calls Try.prog 81 #[.pointer (some ⟨g, 0, none⟩), .int .i64 line] w fun e w' => e = .returned (.int .i64 (ansOf (noPlace D.lines.length line 0 0))) ∧ RefAt w' g cb cap (back1 D line) ∧ Only [g, cb] w w' := by
  unfold ansOf back1
  by_cases h : noPlace D.lines.length line 0 0
  · rw [if_pos h, if_pos h]
    unfold noPlace at h
    have HT := Lib.hid (ref3_Has_no g cb cap D line w hd (by omega))
    have HD := Lib.hid hd
    clear hd h
    go_enter Try.func81, Try.ntmps81
    go_wp2_with fail
    refine (HT.out).mono ?_
    rintro e w' ⟨rfl, rfl⟩
    go_wp2
    go_ret
    exact ⟨rfl, HD.out, Only.refl _ _⟩
  · rw [if_neg h, if_neg h]
    have h' := h
    unfold noPlace at h'
    obtain ⟨i, rfl⟩ := Int.eq_ofNat_of_zero_le (show 0 ≤ line by omega)
    rw [Int.toNat_natCast]
    exact ref3_Back g cb cap D i _ (lineOf_get (by omega)) w hd
end Go.Proofs.Ytfafpggppbolkaa
/- The contracts of the reference of chapter 3, third part: the fence; lines that are loose, lines on their way; a new device. -/
namespace Go.Proofs.Ytfafpggppbolkaa
open Go.RowKit Go.Proofs.FuMem Go.Proofs.FuNvm Go.Proofs.FuCode
set_option maxRecDepth 100000
set_option maxHeartbeats 2000000 in
theorem ref3_Fence (g cb cap : Nat) (D : Dev) (w : World) (hd : RefAt w g cb cap D) :
    Calls Try.prog 80 #[.pointer (some ⟨g, 0, none⟩)] w fun e w' => e = .returned (.tuple #[]) ∧ RefAt w' g cb cap (fenceD D) ∧ Only [g, cb] w w' := by
  have hf := hd.few
  have hne := hd.ne
  have hne2 := hd.ne.symm
  have HD := Lib.hid hd
  clear hd
  obtain ⟨m, hm⟩ : ∃ m, m = D.lines.length := ⟨_, rfl⟩
  rw [← hm] at hf
  have HM := Lib.hid hm
  clear hm
  go_enter Try.func80, Try.ntmps80
  go_wp2
  go_loopw [2] (fun i wr => ∃ k : Nat, k ≤ m ∧ i = .int .i64 k ∧ RefAt wr g cb cap { D with lines := upTo (fun _ x => fenceL x) D.lines k } ∧ Only [cb] w wr) (fun i _ => m - (intOf i).toNat)
  case atStart => exact ⟨0, Nat.zero_le _, rfl, by rw [upTo_zero]; exact HD.out, Only.refl _ _⟩
  case round =>
    obtain ⟨k, hk, rfl, hd, on⟩ := hrel
    have hcr0 : wr.cell? ⟨g, 0, none⟩ = some (.slice (some ⟨cb, 0, none⟩) m cap) := by
      rw [hd.cell 0]
      simp [headOf, upTo_length, HM.out]
    by_cases hlt : k < m
    · have hkl : k < D.lines.length := by rw [← HM.out]; exact hlt
      have hkl2 : k < (upTo (fun _ x => fenceL x) D.lines k).length := by rw [upTo_length]; exact hkl
      obtain ⟨hq1, hq2⟩ := List.getElem?_eq_some_iff.1 (upTo_get (fun _ x => fenceL x) D.lines k hkl)
      have hsc := hd.sentCell (i := k) hkl2
      simp only [hq2] at hsc
      have hok := HD.out.ok.get hkl
      by_cases hsent : (D.lines[k]).sent = true
      · rw [hsent] at hsc
        have hlen := hok.2.2
        have hsz : (Try.prog.info? 91).map (·.size) = some (D.lines[k]).way.length := by rw [hlen]; exact arrSize3
        have hsz2 : (Try.prog.info? 91).map (·.size) = some ((D.lines[k]).way.map B).toArray.size := by rw [List.size_toArray, List.length_map, hlen]; exact arrSize3
        have hsucc := upTo_succ (fun _ x => fenceL x) D.lines k hkl
        have hfl : fenceL (D.lines[k]) = { D.lines[k] with kept := (D.lines[k]).way, sent := false } := by unfold fenceL; rw [if_pos hsent]
        have HOK := Lib.hid hok
        have HLEN := Lib.hid hlen
        have HS1 := Lib.hid hsz
        have HS2 := Lib.hid hsz2
        have HDR := Lib.hid hd
        have ON := Lib.hid on
        have HQ := Lib.hid hq2
        have HSU := Lib.hid hsucc
        have HFL := Lib.hid hfl
        clear hok hlen hsz hsz2 hd on hq2 hsucc hfl hsent
        go_wp2_with fail
        refine wp_region_still_tail 15 (by kernel_rfl) (by kernel_rfl) ?_
        simp only [List.take_succ_cons, List.take_zero, List.drop_succ_cons, List.drop_zero]
        generalize hwd : ({ wr with drawn := wr.drawn + 1 } : World) = wd
        have hcd : wd.cell? ⟨g, 0, none⟩ = some (.slice (some ⟨cb, 0, none⟩) m cap) := hwd ▸ hcr0
        have ONW := Lib.hid (still_only hwd)
        clear hwd hcr0 hsc
        have HDW := Lib.hid (HDR.out.only0 ONW.out)
        have hway := HDW.out.way (i := k) hkl2
        simp only [HQ.out] at hway
        have hway2 : Bs wd (some ⟨cb, k * 193 + 128, none⟩) (D.lines[k]).way.length (D.lines[k]).way := by rw [HLEN.out]; exact hway
        obtain ⟨cs, hb, hfit, hwr⟩ := IsDev.ready HDW.out (i := k) hkl2
        have hft := hfit 64 (D.lines[k]).way HLEN.out (by omega)
        have HWR := Lib.hid (hwr 64 (D.lines[k]).way { D.lines[k] with kept := (D.lines[k]).way } (by rw [HLEN.out]; omega) (by simp only [HQ.out]; exact cells_kept _ HOK.out _ HLEN.out) ⟨HOK.out.1, HOK.out.2.2, HOK.out.2.2⟩)
        clear hfit hwr hway
        repeat still_step
        refine still_load_arr rfl 91 (.tmp 31) rfl cb (k * 193 + 128) rfl (D.lines[k]).way hway2 64 5 Try.underlying91 HS1.out ?_
        repeat still_step
        refine wpStill_nil ?_
        go_wp2_with ((with_reducible show wpList _ _ _ (Oper.mk none _ _ _ _ _ :: _) _ _); refine wpList_store_blk rfl 91 (.tmp 34) (.tmp 32) rfl cb (k * 193 + 64) ((D.lines[k]).way.map B).toArray rfl rfl 127 cs hb hft HS2.out (all_B _) ?_; intro w2 hb2 ho2 hs2; have hd2 := HWR.out w2 hb2 ho2; have hc2 : w2.cell? ⟨g, 0, none⟩ = some (.slice (some ⟨cb, 0, none⟩) m cap) := (by rw [hd2.cell 0]; simp [headOf, upTo_length, HM.out]); have hsc := hd2.sentCell (i := k) (by simpa using hkl2); have hfz := hd2.frozen2 (k * 193 + 192); simp only [List.getElem_set_self] at hsc; have HD2 := Lib.hid hd2; have HO2 := Lib.hid ho2; clear hd2 hb ho2 hb2)
        have hsw := IsDev.setSent HD2.out (i := k) (by simpa using hkl2) false
        have he : ∀ D' : Dev, D' = { D with lines := upTo (fun _ x => fenceL x) D.lines (k + 1) } → RefAt (w2.setCell ⟨cb, k * 193 + 192, none⟩ (.bool false)) g cb cap D' → RefAt (w2.setCell ⟨cb, k * 193 + 192, none⟩ (.bool false)) g cb cap { D with lines := upTo (fun _ x => fenceL x) D.lines (k + 1) } := by
          rintro D' rfl h
          exact h
        have hd3 := he _ (by
          rw [← HSU.out, HFL.out]
          simp) hsw.1
        have HD3 := Lib.hid hd3
        have ON3 := Lib.hid ((ON.out.trans0 ONW.out).trans (HO2.out.trans hsw.2 (T := [cb]) (by simp)) (by simp))
        clear hd3 he hsw
        go_roundw
        case rel => exact ⟨k + 1, by omega, by go_num, HD3.out, ON3.out⟩
        case measure => simp [intOf]; omega
      · have hs0 : (D.lines[k]).sent = false := by simpa using hsent
        rw [hs0] at hsc
        have hkeep := upTo_keep (fun _ x => fenceL x) D.lines k hkl (by unfold fenceL; rw [if_neg hsent])
        rw [hkeep] at hd
        have HD2 := Lib.hid hd
        have ON := Lib.hid on
        clear hd on hkeep hsent hs0 hq2 hok
        go_wp2
        go_roundw
        case rel => exact ⟨k + 1, by omega, by go_num, HD2.out, ON.out⟩
        case measure => simp [intOf]; omega
    · obtain rfl : k = m := by omega
      have hall : upTo (fun _ x => fenceL x) D.lines k = D.lines.map fenceL := by rw [HM.out, upTo_all, mapIdx_map]
      rw [hall] at hd
      have hc3 : wr.cell? ⟨g, 3, none⟩ = some (.int .i64 D.fences) := hd.cell 3
      have hf3 := hd.frozen1 3
      have hcnt := IsDev.count (D' := fenceD D) hd 3 (wrap64 (D.fences + 1)) rfl (by unfold fenceD headOf; simp)
      have HCN := Lib.hid hcnt
      have ON := Lib.hid on
      clear hd on hall hcnt
      go_wp2
      go_end0
      exact ⟨rfl, HCN.out.1, (ON.out.mono (T := [g, cb]) (by simp)).trans HCN.out.2 (by simp)⟩
theorem neq_arr3 (l k : List UInt8) (hl : l.length = 64) (hk : k.length = 64) (w : World) : (binOp .neq 91 (arrV l) (arrV k)).run Try.prog w = .ok (.bool (l != k)) w := by
  obtain ⟨i0, hi, hz0, hz1, hz2⟩ := info_parts Try.byteInfo
  exact run_neq_arr Try.underlying91 Try.underlying5 i0 hi hz1 l k hl hk w
theorem arrGuard3 : Try.prog.eqGuardType Try.prog.depth 91 = false := by kernel_rfl
set_option maxHeartbeats 2000000 in
theorem ref3_Loose (g cb cap : Nat) (D : Dev) (w : World) (hd : RefAt w g cb cap D) :
    Calls Try.prog 88 #[.pointer (some ⟨g, 0, none⟩)] w fun e w' => ∃ v, e = .returned v ∧ MadeI w (those (fun x => x.now != x.kept) D.lines D.lines.length) v w' := by
  have hf := hd.few
  have HD := Lib.hid hd
  clear hd
  obtain ⟨m, hm⟩ : ∃ m, m = D.lines.length := ⟨_, rfl⟩
  rw [← hm] at hf ⊢
  have HM := Lib.hid hm
  clear hm
  obtain ⟨i0, hi, hz0, hz1, hz2⟩ := info_parts Try.intInfo
  have HI := Lib.hid hi
  have HZ0 := Lib.hid hz0
  have HZ1 := Lib.hid hz1
  have HZ2 := Lib.hid hz2
  clear hi hz0 hz1 hz2
  go_enter Try.func88, Try.ntmps88
  go_wp2
  go_loopw [3, 4] (fun v i wr => ∃ (k n : Nat), k ≤ m ∧ i = .int .i64 k ∧ n = (those (fun x => x.now != x.kept) D.lines k).length ∧ wr.ownsRow w.heap.size 3 1 v n ((those (fun x => x.now != x.kept) D.lines k).map (.int .i64)) ∧ Only [] w wr) (fun _ i _ => m - (intOf i).toNat)
  case atStart => exact ⟨0, 0, Nat.zero_le _, rfl, rfl, own_nil _ _ _ _, Only.refl _ _⟩
  case round =>
    obtain ⟨k, n, hk, rfl, hn, ho, on⟩ := hrel
    have hdr := HD.out.only0 on
    have hc0 : wr.cell? ⟨g, 0, none⟩ = some (.slice (some ⟨cb, 0, none⟩) m cap) := by
      rw [hdr.cell 0, HM.out]
      rfl
    by_cases hlt : k < m
    · have hkl : k < D.lines.length := by rw [← HM.out]; exact hlt
      have hok := hdr.ok.get hkl
      have HO := Lib.hid ho
      have ON := Lib.hid on
      have HN := Lib.hid hn
      have HDR := Lib.hid hdr
      have hnk := those_length (fun x => x.now != x.kept) D.lines k
      have hsu := those_succ (fun x => x.now != x.kept) D.lines k hkl
      have HSU := Lib.hid hsu
      have s1 : (Try.prog.info? 91).map (·.size) = some (D.lines[k]).now.length := by rw [hok.1]; exact arrSize3
      have s2 : (Try.prog.info? 91).map (·.size) = some (D.lines[k]).kept.length := by rw [hok.2.1]; exact arrSize3
      have hq := neq_arr3 (D.lines[k]).now (D.lines[k]).kept hok.1 hok.2.1
      have hg := fun (a b : Operand) (w : World) => eqGuard_arr (P := Try.prog) arrGuard3 .neq a b (D.lines[k]).now (D.lines[k]).kept w
      have S1 := Lib.hid s1
      have S2 := Lib.hid s2
      have b1 : Bs wr (some ⟨cb, k * 193, none⟩) (D.lines[k]).now.length (D.lines[k]).now := by rw [hok.1]; exact hdr.now hkl
      have b2 : Bs wr (some ⟨cb, k * 193 + 64, none⟩) (D.lines[k]).kept.length (D.lines[k]).kept := by rw [hok.2.1]; exact hdr.kept hkl
      have B1 := Lib.hid b1
      have B2 := Lib.hid b2
      clear ho on hn hdr hok hsu s1 s2 b1 b2
      go_wp2_with fail
      refine wp_region_later wr (by kernel_rfl) (by kernel_rfl) ?_
      have hlc := fun (p : Later wr) => Later.cell p hc0
      clear hc0
      repeat (quiet_step (fail))
      refine later_load rfl 91 (.tmp 20) rfl cb (k * 193) rfl (D.lines[k]).now B1.out 64 5 Try.underlying91 S1.out ?_
      repeat (quiet_step (fail))
      refine later_load rfl 91 (.tmp 28) rfl cb (k * 193 + 64) rfl (D.lines[k]).kept B2.out 64 5 Try.underlying91 S2.out ?_
      repeat (quiet_step (fail))
      repeat (quiet_step (fail))
      refine wpQuiet_nil ?_
      intro _ hw'
      obtain ⟨p, hw''⟩ := hw'
      subst hw''
      have opw := p.only
      generalize p.w = w1 at *
      have hown := own_only HO.out opw (by simp)
      have ON1 := Lib.hid (ON.out.trans0 opw)
      clear opw hlc hq hg S1 S2 B1 B2
      generalize ((D.lines[k]).now != (D.lines[k]).kept) = bb at *
      by_cases hp : bb = true
      · subst hp
        have hsu := HSU.out
        rw [if_pos rfl] at hsu
        have HS := Lib.hid hsu
        clear hsu
        obtain ⟨A', c', w', hr, ho2, hs2, on2⟩ := append_own (P := Try.prog) (w1.alloc (.cells #[.int .i64 (k : Int)] 3)) (ON1.out.alloc _) 34 34 3 i0 _ 8 Try.underlying34 HI.out HZ0.out HZ1.out HZ2.out rfl _ n _ (hown.alloc _) (some ⟨w1.heap.size, 0, none⟩) 1 1 [.int .i64 (k : Int)] (cell_new1 _ _ _) (ints_new1 _ _) (by have := HN.out; unfold maxLen; omega) (by have := HN.out; omega)
        rw [show (those (fun x => x.now != x.kept) D.lines k).map (Value.int .i64) ++ [.int .i64 (k : Int)] = (those (fun x => x.now != x.kept) D.lines (k + 1)).map (.int .i64) by rw [HS.out]; simp] at ho2
        have H2 := Lib.hid ho2
        have N2 := Lib.hid on2
        clear hown ho2 hs2 on2
        go_wp2_with (at_builtin; refine wpList_append_run _ rfl (.tmp 31) (.tmp 33) 34 rfl _ _ rfl rfl _ _ hr ?_)
        go_roundw
        case rel => exact ⟨k + 1, n + 1, by omega, by go_num, by rw [HS.out, List.length_append, HN.out]; rfl, H2.out, N2.out⟩
        case measure => simp [intOf]; omega
      · have hsu := HSU.out
        rw [if_neg hp] at hsu
        have hp0 : bb = false := by simpa using hp
        subst hp0
        have HS := Lib.hid hsu
        have H2 := Lib.hid hown
        clear hsu hown hp
        go_wp2
        go_roundw
        case rel => exact ⟨k + 1, n, by omega, by go_num, by rw [HS.out]; exact HN.out, by rw [HS.out]; exact H2.out, ON1.out⟩
        case measure => simp [intOf]; omega
    · obtain rfl : k = m := by omega
      obtain ⟨A', c', rfl, _, _⟩ := own_slice ho
      have H1 := Lib.hid ho
      have H2 := Lib.hid on
      clear ho on hdr
      go_wp2
      go_ret
      exact ⟨.slice A' n c', rfl, madeI_own hn.symm H1.out H2.out⟩
set_option maxHeartbeats 2000000 in
theorem ref3_Way (g cb cap : Nat) (D : Dev) (w : World) (hd : RefAt w g cb cap D) :
    Calls Try.prog 89 #[.pointer (some ⟨g, 0, none⟩)] w fun e w' => ∃ v, e = .returned v ∧ MadeI w (those (fun x => x.sent) D.lines D.lines.length) v w' := by
  have hf := hd.few
  have HD := Lib.hid hd
  clear hd
  obtain ⟨m, hm⟩ : ∃ m, m = D.lines.length := ⟨_, rfl⟩
  rw [← hm] at hf ⊢
  have HM := Lib.hid hm
  clear hm
  obtain ⟨i0, hi, hz0, hz1, hz2⟩ := info_parts Try.intInfo
  have HI := Lib.hid hi
  have HZ0 := Lib.hid hz0
  have HZ1 := Lib.hid hz1
  have HZ2 := Lib.hid hz2
  clear hi hz0 hz1 hz2
  go_enter Try.func89, Try.ntmps89
  go_wp2
  go_loopw [3, 4] (fun v i wr => ∃ (k n : Nat), k ≤ m ∧ i = .int .i64 k ∧ n = (those (fun x => x.sent) D.lines k).length ∧ wr.ownsRow w.heap.size 3 1 v n ((those (fun x => x.sent) D.lines k).map (.int .i64)) ∧ Only [] w wr) (fun _ i _ => m - (intOf i).toNat)
  case atStart => exact ⟨0, 0, Nat.zero_le _, rfl, rfl, own_nil _ _ _ _, Only.refl _ _⟩
  case round =>
    obtain ⟨k, n, hk, rfl, hn, ho, on⟩ := hrel
    have hdr := HD.out.only0 on
    have hc0 : wr.cell? ⟨g, 0, none⟩ = some (.slice (some ⟨cb, 0, none⟩) m cap) := by
      rw [hdr.cell 0, HM.out]
      rfl
    by_cases hlt : k < m
    · have hkl : k < D.lines.length := by rw [← HM.out]; exact hlt
      have hsc := hdr.sentCell (i := k) hkl
      have hown := ho
      have ON1 := Lib.hid on
      have HN := Lib.hid hn
      have hnk := those_length (fun x => x.sent) D.lines k
      have hsu := those_succ (fun x => x.sent) D.lines k hkl
      have HSU := Lib.hid hsu
      clear ho on hn hdr hsu
      by_cases hp : (D.lines[k]).sent = true
      · have hsu := HSU.out
        rw [if_pos hp] at hsu
        have HS := Lib.hid hsu
        clear hsu
        obtain ⟨A', c', w', hr, ho2, hs2, on2⟩ := append_own (P := Try.prog) (wr.alloc (.cells #[.int .i64 (k : Int)] 3)) (ON1.out.alloc _) 34 34 3 i0 _ 8 Try.underlying34 HI.out HZ0.out HZ1.out HZ2.out rfl _ n _ (hown.alloc _) (some ⟨wr.heap.size, 0, none⟩) 1 1 [.int .i64 (k : Int)] (cell_new1 _ _ _) (ints_new1 _ _) (by have := HN.out; unfold maxLen; omega) (by have := HN.out; omega)
        rw [show (those (fun x => x.sent) D.lines k).map (Value.int .i64) ++ [.int .i64 (k : Int)] = (those (fun x => x.sent) D.lines (k + 1)).map (.int .i64) by rw [HS.out]; simp] at ho2
        have H2 := Lib.hid ho2
        have N2 := Lib.hid on2
        clear hown ho2 hs2 on2
        go_wp2_with (at_builtin; refine wpList_append_run _ rfl (.tmp 22) (.tmp 24) 34 rfl _ _ rfl rfl _ _ hr ?_)
        go_roundw
        case rel => exact ⟨k + 1, n + 1, by omega, by go_num, by rw [HS.out, List.length_append, HN.out]; rfl, H2.out, N2.out⟩
        case measure => simp [intOf]; omega
      · have hsu := HSU.out
        rw [if_neg hp] at hsu
        have hp0 : (D.lines[k]).sent = false := by simpa using hp
        have HS := Lib.hid hsu
        have H2 := Lib.hid hown
        clear hsu hown hp
        go_wp2
        go_roundw
        case rel => exact ⟨k + 1, n, by omega, by go_num, by rw [HS.out]; exact HN.out, by rw [HS.out]; exact H2.out, ON1.out⟩
        case measure => simp [intOf]; omega
    · obtain rfl : k = m := by omega
      obtain ⟨A', c', rfl, _, _⟩ := own_slice ho
      have H1 := Lib.hid ho
      have H2 := Lib.hid on
      clear ho on hdr
      go_wp2
      go_ret
      exact ⟨.slice A' n c', rfl, madeI_own hn.symm H1.out H2.out⟩
theorem ref3_in (A : Option Addr) (n c : Nat) (l : List Int) (x : Int) (w : World) (h : Is w A n l) (hn : n ≤ 1000000) :
    Calls Try.prog 92 #[.slice A n c, .int .i64 x] w fun e w' => e = .returned (.bool (decide (x ∈ l))) ∧ w = w' := by
  have HL := Lib.hid h.len
  have HI := Lib.hid h
  clear h
  go_enter Try.func92, Try.ntmps92
  go_wp2
  go_loop [5] (fun i => ∃ k : Nat, k ≤ n ∧ i = .int .i64 k ∧ x ∉ l.take k) (fun i => n - (intOf i).toNat)
  case atStart => exact ⟨0, Nat.zero_le _, rfl, by simp⟩
  case round =>
    obtain ⟨k, hk, rfl, hno⟩ := hrel
    have HNO := Lib.hid hno
    clear hno
    by_cases hlt : k < n
    · obtain ⟨b, off, rfl, hcl⟩ := HI.out.at_ (by omega)
      have hkl : k < l.length := by rw [HL.out]; exact hlt
      have hc := hcl k hkl
      have hmem : l[k] ∈ l := List.getElem_mem hkl
      have HT := Lib.hid (List.take_succ_eq_append_getElem hkl)
      have HMM := Lib.hid hmem
      clear hcl hmem
      generalize l[k] = u at *
      by_cases hu : u = x
      · have q : (u == x) = true := by simpa using hu
        have hin : decide (x ∈ l) = true := by rw [decide_eq_true_eq, ← hu]; exact HMM.out
        have HIN := Lib.hid hin
        clear hu hin
        go_wp2
        go_ret
        exact ⟨ret_bool HIN.out.symm, rfl⟩
      · have q : (u == x) = false := by simpa using hu
        have HU := Lib.hid hu
        clear hu
        go_wp2
        go_round
        case rel =>
          refine ⟨k + 1, by omega, by go_num, ?_⟩
          rw [HT.out, List.mem_append, List.mem_singleton]
          rintro (h | h)
          · exact HNO.out h
          · exact HU.out h.symm
        case measure => simp [intOf]; omega
    · obtain rfl : k = n := by omega
      have hin : decide (x ∈ l) = false := by
        rw [decide_eq_false_iff_not]
        have := HNO.out
        rwa [List.take_of_length_le (by rw [HL.out]; exact Nat.le_refl _)] at this
      have HIN := Lib.hid hin
      clear hin
      go_wp2
      go_ret
      exact ⟨ret_bool HIN.out.symm, rfl⟩
end Go.Proofs.Ytfafpggppbolkaa
