/- The walk of the statement NvmSorted. -/
import Derived.Test.YtfafpggppbolkaaKeeps
set_option maxRecDepth 100000
namespace Go.Proofs.Ytfafpggppbolkaa
open Go.RowKit Go.Proofs.FuMem Go.Proofs.FuNvm Go.Proofs.FuCode
theorem those_prefix (p : Line → Bool) (L : List Line) {i j : Nat} (h : i ≤ j) : those p L i <+: those p L j := by
  unfold those
  obtain ⟨d, rfl⟩ := Nat.exists_eq_add_of_le h
  rw [List.range_add, List.filter_append, List.map_append]
  exact List.prefix_append _ _
theorem those_at (p : Line → Bool) (L : List Line) {i : Nat} {x : Line} (hx : L[i]? = some x) (hp : p x = true) (hi : i < L.length) : (those p L L.length)[(those p L i).length]? = some (i : Int) := by
  have h1 := those_prefix p L (Nat.succ_le_of_lt hi)
  obtain ⟨_, rfl⟩ := List.getElem?_eq_some_iff.1 hx
  rw [those_succ p L i hi, if_pos hp] at h1
  obtain ⟨t, ht⟩ := h1
  rw [← ht, List.append_assoc, List.getElem?_append_right (Nat.le_refl _), Nat.sub_self]
  rfl
theorem those_bd (p : Line → Bool) (L : List Line) (m : Nat) {v : Int} (h : v ∈ those p L m) : 0 ≤ v ∧ v < m := by
  unfold those at h
  obtain ⟨j, hj, rfl⟩ := List.mem_map.1 h
  have := List.mem_range.1 (List.mem_filter.1 hj).1
  omega
theorem those_rise (p : Line → Bool) (L : List Line) (m : Nat) : (those p L m).Pairwise (· < ·) := by
  unfold those
  rw [List.pairwise_map]
  refine List.Pairwise.imp (fun h => ?_) (List.Pairwise.filter _ List.pairwise_lt_range)
  omega
theorem those_few (p : Line → Bool) (L : List Line) (m : Nat) : (those p L m).length ≤ m := by
  unfold those
  rw [List.length_map]
  exact Nat.le_trans (List.length_filter_le _ _) (by rw [List.length_range]; exact Nat.le_refl _)
theorem madeI_is {w w' : World} {l : List Int} {v : Value} (h : MadeI w l v w') : ∃ A c, v = .slice A l.length c ∧ Is w' A l.length l ∧ Only [] w w' := by
  obtain ⟨A, c, rfl, h, o⟩ := h
  exact ⟨A, c, rfl, is_own h, o⟩
set_option maxHeartbeats 4000000 in
theorem walk_NvmSorted (A : Option Addr) (n c : Nat) (xs : List (Deed × Holds)) (w : World) (h : Deeds w A n xs) (_hc : n ≤ c) :
    Calls Try.prog 7 #[.slice A n c] w fun e w' => e = .returned (.bool true) ∧ Only [] w w' := by
  have HL := Lib.hid (law3_large A n c xs w h)
  by_cases hlg : isLarge xs = true
  · rw [hlg] at HL
    clear h
    go_enter Try.func7, Try.ntmps7
    go_wp2_with fail
    refine (HL.out).mono ?_
    rintro e w' ⟨rfl, rfl⟩
    go_wp2_with fail
    refine (law3_awake _).mono ?_
    rintro e w1 ⟨rfl, o1⟩
    have O1 := Lib.hid o1
    clear o1
    go_wp2
    go_ret
    exact ⟨rfl, O1.out⟩
  have hf : isLarge xs = false := by simpa using hlg
  rw [hf] at HL
  obtain ⟨_, hsm⟩ := large_no hf
  have HS := Lib.hid (law3_some A n c xs w h hsm)
  clear h hlg hf hsm
  have H8 := Lib.hid (playAll_8 xs)
  generalize playAll (newDev 8) xs = D at *
  go_enter Try.func7, Try.ntmps7
  go_wp2_with fail
  refine (HL.out).mono ?_
  rintro e w' ⟨rfl, rfl⟩
  go_wp2_with fail
  refine (HS.out).mono ?_
  rintro e w1 ⟨g, cb, rfl, d1, o1, f1, f2⟩
  have D1 := Lib.hid d1
  have O1 := Lib.hid o1
  clear d1 o1
  go_wp2_with fail
  refine (nvm_Loose g cb 8 D _ D1.out).mono ?_
  rintro e w2 ⟨v2, rfl, m2⟩
  obtain ⟨A2, c2, rfl, b2, o2⟩ := madeI_is m2
  rw [H8.out] at b2
  rw [H8.out]
  have D2 := Lib.hid (D1.out.only0 o2)
  have O2 := Lib.hid (O1.out.trans0 o2)
  have B2 := Lib.hid b2
  clear m2 b2 o2
  go_wp2_with fail
  refine (nvm_Way g cb 8 D _ D2.out).mono ?_
  rintro e w3 ⟨v3, rfl, m3⟩
  obtain ⟨A3, c3, rfl, b3, o3⟩ := madeI_is m3
  rw [H8.out] at b3
  rw [H8.out]
  have D3 := Lib.hid (D2.out.only0 o3)
  have O3 := Lib.hid (O2.out.trans0 o3)
  have B3 := Lib.hid (B2.out.only0 o3)
  have C3 := Lib.hid b3
  clear m3 b3 o3 D2 D1
  have hla := those_few (fun x => x.now != x.kept) D.lines 8
  have hlb := those_few (fun x => x.sent) D.lines 8
  have HA := Lib.hid (fun (i : Nat) (x : Line) (hx : D.lines[i]? = some x) (hp : (x.now != x.kept) = true) (hi : i < 8) => (by
    have := those_at (fun x => x.now != x.kept) D.lines hx hp (by rw [H8.out]; exact hi)
    rw [H8.out] at this
    exact this : (those (fun x => x.now != x.kept) D.lines 8)[(those (fun x => x.now != x.kept) D.lines i).length]? = some (i : Int)))
  have HSU := Lib.hid (fun (i : Nat) (hi : i < D.lines.length) => those_succ (fun x => x.now != x.kept) D.lines i hi)
  have HBD := Lib.hid (fun (v : Int) (hv : v ∈ those (fun x => x.sent) D.lines 8) => those_bd (fun x => x.sent) D.lines 8 hv)
  have HRI := Lib.hid (those_rise (fun x => x.sent) D.lines 8)
  generalize those (fun x => x.sent) D.lines 8 = lb at *
  generalize hlA : those (fun x => x.now != x.kept) D.lines 8 = la at *
  have HLA := Lib.hid hlA
  clear hlA
  go_wp2
  go_loopw [6, 7, 8, 9, 10, 11] (fun q i _ _ _ _ wr => ∃ (k : Nat), k ≤ 8 ∧ i = .int .i64 k ∧ q = .int .i64 ((those (fun x => x.now != x.kept) D.lines k).length : Nat) ∧ DevAt wr g cb 8 D ∧ Is wr A2 la.length la ∧ Is wr A3 lb.length lb ∧ Only [] w wr) (fun _ i _ _ _ _ _ => 8 - (intOf i).toNat)
  case atStart => exact ⟨0, by omega, rfl, rfl, D3.out, B3.out, C3.out, O3.out⟩
  case round =>
    obtain ⟨k, hk, rfl, rfl, hd, hia, hib, on⟩ := hrel
    by_cases hlt : k < 8
    · have hkl : k < D.lines.length := by rw [H8.out]; exact hlt
      have hx := lineOf_get hkl
      have hsu := HSU.out k hkl
      have hgx : D.lines[k] = lineOf D k := by
        rw [List.getElem?_eq_getElem hkl] at hx
        exact Option.some.inj hx
      rw [hgx] at hsu
      have ha := HA.out k _ hx
      clear hgx
      generalize lineOf D (k : Int) = x at *
      generalize hq : (those (fun x => x.now != x.kept) D.lines k).length = q at *
      have HX := Lib.hid hx
      have HSU := Lib.hid hsu
      have HA := Lib.hid ha
      have HQ := Lib.hid hq
      have HD := Lib.hid hd
      have HIA := Lib.hid hia
      have HIB := Lib.hid hib
      have ON := Lib.hid on
      clear hx hsu ha hq hd hia hib on
      go_wp2_with fail
      refine (nvm_Load g cb 8 D k x HX.out _ HD.out).mono ?_
      rintro e w4 ⟨v4, rfl, m4⟩
      obtain ⟨A4, c4, rfl, b4, _, o4⟩ := madeB_bs m4
      have D4 := Lib.hid (HD.out.only0 o4)
      have O4 := Lib.hid (ON.out.trans0 o4)
      have B4 := Lib.hid b4
      have IA4 := Lib.hid (HIA.out.only0 o4)
      have IB4 := Lib.hid (HIB.out.only0 o4)
      clear m4 b4 o4
      go_wp2_with fail
      refine (nvm_Durable g cb 8 D k x HX.out _ D4.out).mono ?_
      rintro e w5 ⟨v5, rfl, m5⟩
      obtain ⟨A5, c5, rfl, b5, _, o5⟩ := madeB_bs m5
      have D5 := Lib.hid (D4.out.only0 o5)
      have O5 := Lib.hid (O4.out.trans0 o5)
      have B5 := Lib.hid (Sl.only0 B4.out o5)
      have C5 := Lib.hid b5
      have IA5 := Lib.hid (IA4.out.only0 o5)
      have IB5 := Lib.hid (IB4.out.only0 o5)
      clear m5 b5 o5
      go_wp2_with fail
      refine (law0_SameBytes _ _ _ _ _ _ _ _ _ B5.out C5.out).mono ?_
      rintro e w' ⟨rfl, rfl⟩
      by_cases he : x.now = x.kept
      · have e1 : (x.now == x.kept) = true := by simpa using he
        rw [e1]
        have hn1 : (those (fun x => x.now != x.kept) D.lines (k + 1)).length = q := by
          rw [HSU.out, if_neg (by simpa using he), HQ.out]
        have HN1 := Lib.hid hn1
        clear e1 he hn1
        go_wp2
        go_roundw
        case rel => exact ⟨k + 1, by omega, by go_num, by rw [HN1.out], D5.out, IA5.out, IB5.out, O5.out⟩
        case measure => simp [intOf]; omega
      · have e1 : (x.now == x.kept) = false := by simpa using he
        rw [e1]
        have hp : (x.now != x.kept) = true := by simpa using he
        have hn1 : (those (fun x => x.now != x.kept) D.lines (k + 1)).length = q + 1 := by
          rw [HSU.out, if_pos hp, List.length_append, HQ.out]
          rfl
        have hlq := HA.out hp hlt
        obtain ⟨hql, hqe⟩ := List.getElem?_eq_some_iff.1 hlq
        obtain ⟨b, off, rfl, hcl⟩ := IA5.out.at_ (by omega)
        have hce := hcl q hql
        rw [hqe] at hce
        have HN1 := Lib.hid hn1
        have hge : decide ((la.length : Int) ≤ (q : Int)) = false := by go_num
        clear e1 he hn1 hp hlq hqe hcl
        go_wp2
        go_roundw
        case rel => exact ⟨k + 1, by omega, by go_num, by rw [HN1.out]; go_num, D5.out, IA5.out, IB5.out, O5.out⟩
        case measure => simp [intOf]; omega
    · obtain rfl : k = 8 := by omega
      have hq := HLA.out
      rw [hq]
      have HIA := Lib.hid hia
      have ON := Lib.hid on
      have HIB := Lib.hid hib
      clear hq hia hd on hib
      go_wp2
      go_loopw [12] (fun i wr => ∃ (j : Nat), j ≤ lb.length ∧ i = .int .i64 j ∧ Is wr A3 lb.length lb ∧ Only [] w wr) (fun i _ => lb.length - (intOf i).toNat)
      case atStart => exact ⟨0, by omega, rfl, HIB.out, ON.out⟩
      case round =>
        obtain ⟨j, hj, rfl, hib, on⟩ := hrel
        by_cases hlt : j < lb.length
        · obtain ⟨b, off, rfl, hcl⟩ := hib.at_ (by omega)
          have hce := hcl j hlt
          have hv := HBD.out _ (List.getElem_mem hlt)
          have q1 : decide (lb[j] < 0) = false := by rw [decide_eq_false_iff_not]; omega
          have q2 : decide (7 < lb[j]) = false := by rw [decide_eq_false_iff_not]; omega
          by_cases hj0 : j = 0
          · subst hj0
            have HI := Lib.hid hib
            have ON := Lib.hid on
            clear hcl hv hib on
            generalize lb[0] = v at *
            have hce' : wr.cell? ⟨b, off, none⟩ = some (.int .i64 v) := hce
            go_wp2_with fail
            go_quiet (fail)
            go_wp2
            go_roundw
            case rel => exact ⟨1, by omega, by go_num, Sl.only0 HI.out ((Only.refl _ _).drewN _), ON.out.drewN _⟩
            case measure => simp [intOf]; omega
          · obtain ⟨m, rfl⟩ : ∃ m, j = m + 1 := ⟨j - 1, by omega⟩
            have hlm : m < lb.length := by omega
            have hcm := hcl m hlm
            have hrise := (List.pairwise_iff_getElem.1 HRI.out) m (m + 1) hlm hlt (by omega)
            have q3 : decide (lb[m + 1] ≤ lb[m]) = false := by rw [decide_eq_false_iff_not]; omega
            have q4 : decide ((0 : Int) < ((m + 1 : Nat) : Int)) = true := by rw [decide_eq_true_eq]; omega
            have q5 : IntKind.i64.wrap (((m + 1 : Nat) : Int) - 1) = (m : Int) := by rw [IntKind.wrap_i64]; omega
            have HI := Lib.hid hib
            have ON := Lib.hid on
            clear hcl hv hib on hrise
            generalize lb[m + 1] = v at *
            generalize lb[m] = u at *
            go_wp2_with fail
            go_quiet (fail)
            go_wp2
            go_roundw
            case rel => exact ⟨m + 2, by omega, by go_num, Sl.only0 HI.out ((Only.refl _ _).drewN _), ON.out.drewN _⟩
            case measure => simp [intOf]; omega
        · have ON := Lib.hid on
          clear hib on
          have HB := Lib.hid hlt
          go_wp2_with fail
          refine (law3_awake _).mono ?_
          rintro e wb ⟨rfl, ob⟩
          have Ob := Lib.hid (ON.out.trans0 ob)
          clear ob
          go_wp2
          go_ret
          exact ⟨rfl, Ob.out⟩
end Go.Proofs.Ytfafpggppbolkaa
