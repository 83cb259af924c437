/- The walk of the statement NvmFences. -/
import Derived.Test.YtfafpggppbolkaaSome
import Derived.Test.YtfafpggppbolkaaLend
set_option maxRecDepth 100000
namespace Go.Proofs.Ytfafpggppbolkaa
open Go.RowKit Go.Proofs.FuMem Go.Proofs.FuNvm Go.Proofs.FuCode
theorem playD_length (D : Dev) (x : Deed) : (playD D x).lines.length = D.lines.length := by
  unfold playD store1 flush1 back1 storeD flushD backD fenceD cutD
  split
  · split <;> simp
  · split
    · split <;> simp
    · split
      · simp
      · split
        · split <;> simp
        · split <;> simp
theorem playAll_length (D : Dev) (xs : List (Deed × Holds)) : (playAll D xs).lines.length = D.lines.length := by
  unfold playAll
  induction xs generalizing D with
  | nil => rfl
  | cons x xs ih => rw [List.foldl_cons, ih, playD_length]
theorem playAll_8 (xs : List (Deed × Holds)) : (playAll (newDev 8) xs).lines.length = 8 := by rw [playAll_length]; exact List.length_replicate
theorem set_here {L : List Line} {k : Nat} {x : Line} (h : L[k]? = some x) (y : Line) : (L.set k y)[k]? = some y := by
  obtain ⟨hk, _⟩ := List.getElem?_eq_some_iff.1 h
  rw [List.getElem?_set_self hk]
theorem set_else {L : List Line} {k j : Nat} (h : k ≠ j) (y : Line) : (L.set k y)[j]? = L[j]? := List.getElem?_set_ne h
theorem madeB_bs {w w' : World} {l : List UInt8} {v : Value} (h : MadeB w l v w') : ∃ A c, v = .slice A l.length c ∧ Bs w' A l.length l ∧ (∀ b off s, A = some ⟨b, off, s⟩ → w.heap.size ≤ b) ∧ Only [] w w' := by
  obtain ⟨A, c, rfl, h, o⟩ := h
  refine ⟨A, c, rfl, bs_own h, ?_, o⟩
  intro b off s e
  rcases Nat.eq_zero_or_pos l.length with hz | hp
  · rcases h.2 with ⟨e1, _⟩ | ⟨g, c2, cur, hv, hbg, _⟩
    · injection e1 with e1 _ _
      rw [e1] at e
      cases e
    · injection hv with e1 _ _
      rw [e1] at e
      cases e
      exact hbg
  · obtain ⟨g, rfl, hbg, _, _⟩ := OwnB.of h hp
    cases e
    exact hbg
set_option maxHeartbeats 2000000 in
theorem walk_NvmFences (A : Option Addr) (n c : Nat) (xs : List (Deed × Holds)) (line : Int) (bA : Option Addr) (bn bc : Nat) (b : List UInt8) (w : World) (h : Deeds w A n xs) (_hc : n ≤ c)
    (h1 : -9223372036854775808 ≤ line ∧ line ≤ 9223372036854775807) (hb : Bs w bA bn b) (hbn : bn ≤ maxLen) :
    Calls Try.prog 4 #[.slice A n c, .int .i64 line, .slice bA bn bc] w fun e w' => e = .returned (.bool true) ∧ Only [] w w' := by
  have HL := Lib.hid (law3_large A n c xs w h)
  unfold maxLen at hbn
  by_cases hlg : isLarge xs = true
  · rw [hlg] at HL
    clear h hb
    go_enter Try.func4, Try.ntmps4
    go_wp2_with fail
    refine (HL.out).mono ?_
    rintro e w' ⟨rfl, rfl⟩
    go_wp2_with fail
    refine (law3_awake _).mono ?_
    rintro e w1 ⟨rfl, o1⟩
    have O1 := Lib.hid o1
    clear o1
    go_wp2
    go_ret
    exact ⟨rfl, O1.out⟩
  by_cases hb64 : 64 < bn
  · have hf : isLarge xs = false := by simpa using hlg
    rw [hf] at HL
    have hq : decide ((64 : Int) < (bn : Int)) = true := by go_num
    clear h hb hlg
    go_enter Try.func4, Try.ntmps4
    go_wp2_with fail
    refine (HL.out).mono ?_
    rintro e w' ⟨rfl, rfl⟩
    go_wp2_with fail
    refine (law3_awake _).mono ?_
    rintro e w1 ⟨rfl, o1⟩
    have O1 := Lib.hid o1
    clear o1
    go_wp2
    go_ret
    exact ⟨rfl, O1.out⟩
  have hf : isLarge xs = false := by simpa using hlg
  rw [hf] at HL
  have hq : decide ((64 : Int) < (bn : Int)) = false := by go_num
  obtain ⟨_, hsm⟩ := large_no hf
  have HS := Lib.hid (law3_some A n c xs w h hsm)
  have HW := Lib.hid (fun w => law0_Low line 8 w (by omega) (by omega))
  have hk8 := low_lt line 8 (by omega)
  have HB := Lib.hid hb
  clear h hb hlg hf hsm
  have h8 := playAll_8 xs
  generalize playAll (newDev 8) xs = D at *
  generalize low line 8 = k at *
  obtain ⟨o, ho, hok, hrem⟩ : ∃ o : Nat, o < 8 ∧ o ≠ k ∧ Int.tmod ((k : Int) + 1) 8 = (o : Int) := ⟨(k + 1) % 8, by omega, by omega, by
    rw [Int.tmod_eq_emod_of_nonneg (by omega)]; omega⟩
  have hx := lineOf_get (D := D) (i := k) (by omega)
  have hy := lineOf_get (D := D) (i := o) (by omega)
  generalize lineOf D (k : Int) = x at *
  generalize lineOf D (o : Int) = y at *
  have HX := Lib.hid hx
  have HY := Lib.hid hy
  clear hx hy
  go_enter Try.func4, Try.ntmps4
  go_wp2_with fail
  refine (HL.out).mono ?_
  rintro e w' ⟨rfl, rfl⟩
  go_wp2_with fail
  refine (HS.out).mono ?_
  rintro e w1 ⟨g, cb, rfl, d1, o1, f1, f2⟩
  have D1 := Lib.hid d1
  have O1 := Lib.hid o1
  clear d1 o1
  go_wp2_with fail
  refine (HW.out _).mono ?_
  rintro e w' ⟨rfl, rfl⟩
  go_wp2_with fail
  refine (nvm_Flush g cb 8 D k x HX.out _ D1.out).mono ?_
  rintro e w2 ⟨rfl, d2, o2⟩
  have D2 := Lib.hid d2
  have O2 := Lib.hid (O1.out.trans o2 (by intro b hb; simp at hb; rcases hb with rfl | rfl <;> omega))
  have X2 := Lib.hid (show (flushD D k x).lines[k]? = some (flushL x) from set_here HX.out _)
  have Y2 := Lib.hid (show (flushD D k x).lines[o]? = some y from (set_else (Ne.symm hok) _).trans HY.out)
  clear d2 o2 HX HY D1 HS
  generalize flushD D k x = E2 at *
  go_wp2_with fail
  refine (nvm_Load g cb 8 E2 k _ X2.out _ D2.out).mono ?_
  rintro e w3 ⟨v3, rfl, m3⟩
  obtain ⟨A3, c3, rfl, b3, f3, o3⟩ := madeB_bs m3
  have F3 := Lib.hid (show ∀ b off s, A3 = some ⟨b, off, s⟩ → w2.heap.size ≤ b from f3)
  have hg2 := D2.out.lt1
  have hc2 := D2.out.lt2
  have D3 := Lib.hid (D2.out.only0 o3)
  have O3 := Lib.hid (O2.out.trans0 o3)
  have B3 := Lib.hid b3
  clear m3 b3 o3 f3
  go_wp2_with fail
  refine (nvm_Back g cb 8 E2 o y Y2.out _ D3.out).mono ?_
  rintro e w4 ⟨rfl, d4, o4⟩
  have D4 := Lib.hid d4
  have O4 := Lib.hid (O3.out.trans o4 (by intro b hb; simp at hb; rcases hb with rfl | rfl <;> omega))
  have B4 := Lib.hid (Sl.only B3.out o4 (by intro b off s e; have := F3.out b off s e; simp; omega))
  have X4 := Lib.hid (show (backD E2 o y).lines[k]? = some (flushL x) from (set_else hok _).trans X2.out)
  have Y4 := Lib.hid (show (backD E2 o y).lines[o]? = some (backL y) from set_here Y2.out _)
  clear d4 o4 X2 Y2 D2 D3
  generalize backD E2 o y = E4 at *
  go_wp2_with fail
  refine (nvm_Durable g cb 8 E4 o _ Y4.out _ D4.out).mono ?_
  rintro e w5 ⟨v5, rfl, m5⟩
  obtain ⟨A5, c5, rfl, b5, f5, o5⟩ := madeB_bs m5
  have D5 := Lib.hid (D4.out.only0 o5)
  have O5 := Lib.hid (O4.out.trans0 o5)
  have B5 := Lib.hid b5
  have B4' := Lib.hid (Sl.only0 B4.out o5)
  have F5 := Lib.hid f5
  clear m5 b5 o5 f5
  have hbsafe : ∀ w', Only [] w w' → Bs w' bA bn b := fun w' o => Sl.only0 HB.out o
  go_wp2_with fail
  refine (nvm_Store g cb 8 E4 k 0 _ X4.out bA bn bc b _ D5.out (hbsafe _ O5.out) (by omega)).mono ?_
  rintro e w6 ⟨rfl, d6, o6⟩
  have D6 := Lib.hid d6
  have O6 := Lib.hid (O5.out.trans o6 (by intro b hb; simp at hb; rcases hb with rfl | rfl <;> omega))
  have X6 := Lib.hid (show (storeD E4 k (flushL x) 0 b).lines[k]? = some { flushL x with now := over x.now 0 b } from set_here X4.out _)
  have Y6 := Lib.hid (show (storeD E4 k (flushL x) 0 b).lines[o]? = some (backL y) from (set_else (Ne.symm hok) _).trans Y4.out)
  have hg4 := D4.out.lt1
  have hc4 := D4.out.lt2
  have B6 := Lib.hid (Sl.only B4'.out o6 (by intro b off s e; have := F3.out b off s e; simp; omega))
  have C6 := Lib.hid (Sl.only B5.out o6 (by intro b off s e; have := F5.out b off s e; simp; omega))
  clear d6 o6 X4 Y4 D4 D5
  generalize storeD E4 k (flushL x) 0 b = E6 at *
  go_wp2_with fail
  refine (nvm_Store g cb 8 E6 o 0 _ Y6.out bA bn bc b _ D6.out (hbsafe _ O6.out) (by omega)).mono ?_
  rintro e w7 ⟨rfl, d7, o7⟩
  have D7 := Lib.hid d7
  have O7 := Lib.hid (O6.out.trans o7 (by intro b hb; simp at hb; rcases hb with rfl | rfl <;> omega))
  have X7 := Lib.hid (show (storeD E6 o (backL y) 0 b).lines[k]? = some { flushL x with now := over x.now 0 b } from (set_else hok _).trans X6.out)
  have Y7 := Lib.hid (show (storeD E6 o (backL y) 0 b).lines[o]? = some { backL y with now := over y.now 0 b } from set_here Y6.out _)
  have B7 := Lib.hid (Sl.only B6.out o7 (by intro b off s e; have := F3.out b off s e; simp; omega))
  have C7 := Lib.hid (Sl.only C6.out o7 (by intro b off s e; have := F5.out b off s e; simp; omega))
  clear d7 o7 X6 Y6 D6
  generalize storeD E6 o (backL y) 0 b = E7 at *
  go_wp2_with fail
  refine (nvm_Fence g cb 8 E7 _ D7.out).mono ?_
  rintro e w8 ⟨rfl, d8, o8⟩
  have D8 := Lib.hid d8
  have O8 := Lib.hid (O7.out.trans o8 (by intro b hb; simp at hb; rcases hb with rfl | rfl <;> omega))
  have X8 := Lib.hid (show (fenceD E7).lines[k]? = some (fenceL { flushL x with now := over x.now 0 b }) by unfold fenceD; rw [List.getElem?_map, X7.out]; rfl)
  have Y8 := Lib.hid (show (fenceD E7).lines[o]? = some (fenceL { backL y with now := over y.now 0 b }) by unfold fenceD; rw [List.getElem?_map, Y7.out]; rfl)
  have B8 := Lib.hid (Sl.only B7.out o8 (by intro b off s e; have := F3.out b off s e; simp; omega))
  have C8 := Lib.hid (Sl.only C7.out o8 (by intro b off s e; have := F5.out b off s e; simp; omega))
  clear d8 o8 X7 Y7 D7
  generalize fenceD E7 = E8 at *
  go_wp2_with fail
  refine (nvm_Durable g cb 8 E8 k _ X8.out _ D8.out).mono ?_
  rintro e w9 ⟨v9, rfl, m9⟩
  obtain ⟨A9, c9, rfl, b9, _, o9⟩ := madeB_bs m9
  have D9 := Lib.hid (D8.out.only0 o9)
  have O9 := Lib.hid (O8.out.trans0 o9)
  have R9 := Lib.hid b9
  have B9 := Lib.hid (Sl.only0 B8.out o9)
  have C9 := Lib.hid (Sl.only0 C8.out o9)
  clear m9 b9 o9
  go_wp2_with fail
  refine (nvm_Durable g cb 8 E8 o _ Y8.out _ D9.out).mono ?_
  rintro e wa ⟨va, rfl, ma⟩
  obtain ⟨Aa, ca, rfl, ba, _, oa⟩ := madeB_bs ma
  have Oa := Lib.hid (O9.out.trans0 oa)
  have Ra := Lib.hid (Sl.only0 R9.out oa)
  have Sa := Lib.hid ba
  have Ba := Lib.hid (Sl.only0 B9.out oa)
  have Ca := Lib.hid (Sl.only0 C9.out oa)
  clear ma ba oa
  go_wp2_with fail
  refine (law0_SameBytes _ _ _ _ _ _ _ _ _ Ra.out Ba.out).mono ?_
  rintro e w' ⟨rfl, rfl⟩
  have q1 : ((fenceL { flushL x with now := over x.now 0 b }).kept == (flushL x).now) = true := by simp [fenceL, flushL]
  have q2 : ((fenceL { backL y with now := over y.now 0 b }).kept == (backL y).kept) = true := by simp [fenceL, backL]
  rw [q1]
  go_wp2_with fail
  refine (law0_SameBytes _ _ _ _ _ _ _ _ _ Sa.out Ca.out).mono ?_
  rintro e w' ⟨rfl, rfl⟩
  rw [q2]
  go_wp2_with fail
  refine (law3_awake _).mono ?_
  rintro e wb ⟨rfl, ob⟩
  have Ob := Lib.hid (Oa.out.trans0 ob)
  clear ob
  go_wp2
  go_ret
  exact ⟨rfl, Ob.out⟩
end Go.Proofs.Ytfafpggppbolkaa
