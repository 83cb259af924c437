/- Note, Owed, Left; what is told of no clock. -/
import Derived.Test.YtecdalmnndalgaaClkA
import Derived.Test.YtecdalmnndalgaaCode
namespace Go.Proofs.Ytecdalmnndalgaa
open Go.RowKit Go.Proofs.FuMem Go.Proofs.FuClk
set_option maxRecDepth 100000
theorem clk_Now_nil (w : World) : Calls Try.prog 11 #[.pointer none] w fun e w' => e = .returned (.int .u64 0) ∧ w = w' := by
  go_enter Try.func11, Try.ntmps11
  go_wp2
  go_ret
  exact ⟨rfl, rfl⟩
theorem clk_Durable_nil (w : World) : Calls Try.prog 12 #[.pointer none] w fun e w' => e = .returned (.int .u64 0) ∧ w = w' := by
  go_enter Try.func12, Try.ntmps12
  go_wp2
  go_ret
  exact ⟨rfl, rfl⟩
theorem clk_Closing_nil (w : World) : Calls Try.prog 16 #[.pointer none] w fun e w' => e = .returned (.tuple #[.int .u64 0, .bool false]) ∧ w = w' := by
  go_enter Try.func16, Try.ntmps16
  go_wp2
  go_ret2
  exact ⟨rfl, rfl⟩
theorem clk_Note_nil (t line : Int) (w : World) : Calls Try.prog 13 #[.pointer none, .int .i64 t, .int .i64 line] w fun e w' => e = .returned (.int .i64 1) ∧ w = w' := by
  go_enter Try.func13, Try.ntmps13
  go_wp2
  go_ret
  exact ⟨rfl, rfl⟩
theorem clk_Owed_nil (w : World) : Calls Try.prog 17 #[.pointer none] w fun e w' => e = .returned (.slice none 0 0) ∧ w = w' := by
  go_enter Try.func17, Try.ntmps17
  go_wp2
  go_ret
  exact ⟨rfl, rfl⟩
theorem clk_Begin_nil (w : World) : Calls Try.prog 14 #[.pointer none] w fun e w' => e = .returned (.int .i64 1) ∧ w = w' := by
  go_enter Try.func14, Try.ntmps14
  go_wp2
  go_ret
  exact ⟨rfl, rfl⟩
theorem clk_Left_nil (w : World) : Calls Try.prog 18 #[.pointer none] w fun e w' => e = .returned (.slice none 0 0) ∧ w = w' := by
  go_enter Try.func18, Try.ntmps18
  go_wp2
  go_ret
  exact ⟨rfl, rfl⟩
theorem clk_Step_nil (A : Option Addr) (w : World) : Calls Try.prog 15 #[.pointer A, .pointer none] w fun e w' => e = .returned (.tuple #[.int .i64 0, .int .i64 1]) ∧ w = w' := by
  go_enter Try.func15, Try.ntmps15
  go_wp2
  go_ret2
  exact ⟨rfl, rfl⟩
def noteNo (C : Clk) (t line : Int) : Int := if t < 0 ∨ (C.owed.length : Int) ≤ t then 1 else if line < 0 ∨ 258 ≤ line then 2 else 0
def noteT (C : Clk) (t line : Int) : Clk := if noteNo C t line = 0 then noteC C t.toNat line.toNat else C
theorem clk_Note_arg (g ob : Nat) (C : Clk) (t line : Int) (w : World) (h : ClkAt w g ob C) (ht : t < 0 ∨ (C.owed.length : Int) ≤ t) :
    Calls Try.prog 13 #[.pointer (some ⟨g, 0, none⟩), .int .i64 t, .int .i64 line] w fun e w' => e = .returned (.int .i64 1) ∧ w = w' := by
  have hc := h.owe
  generalize C.owed.length = m at *
  clear h
  by_cases h1 : t < 0
  · have q1 : decide (t < 0) = true := by simpa using h1
    clear ht
    go_enter Try.func13, Try.ntmps13
    go_wp2
    go_ret
    exact ⟨rfl, rfl⟩
  · have q1 : decide (t < 0) = false := by simpa using h1
    have h2 : (m : Int) ≤ t := by omega
    have q2 : decide ((m : Int) ≤ t) = true := by simpa using h2
    clear ht
    go_enter Try.func13, Try.ntmps13
    go_wp2
    go_ret
    exact ⟨rfl, rfl⟩
theorem clk_Note_range (g ob : Nat) (C : Clk) (t line : Int) (w : World) (h : ClkAt w g ob C) (ht : ¬ (t < 0 ∨ (C.owed.length : Int) ≤ t)) (hl : line < 0 ∨ 258 ≤ line) :
    Calls Try.prog 13 #[.pointer (some ⟨g, 0, none⟩), .int .i64 t, .int .i64 line] w fun e w' => e = .returned (.int .i64 2) ∧ w = w' := by
  have hc := h.owe
  generalize C.owed.length = m at *
  clear h
  have h1 : ¬ t < 0 := by omega
  have h2 : ¬ (m : Int) ≤ t := by omega
  have q1 : decide (t < 0) = false := by simpa using h1
  have q2 : decide ((m : Int) ≤ t) = false := by simpa using h2
  clear ht
  by_cases h3 : line < 0
  · have q3 : decide (line < 0) = true := by simpa using h3
    clear hl
    go_enter Try.func13, Try.ntmps13
    go_wp2
    go_ret
    exact ⟨rfl, rfl⟩
  · have q3 : decide (line < 0) = false := by simpa using h3
    have h4 : 258 ≤ line := by omega
    have q4 : decide (258 ≤ line) = true := by simpa using h4
    clear hl
    go_enter Try.func13, Try.ntmps13
    go_wp2
    go_ret
    exact ⟨rfl, rfl⟩
theorem clk_Note (g ob : Nat) (C : Clk) (t i : Nat) (w : World) (h : ClkAt w g ob C) (ht : t < C.owed.length) (hi : i < 258) :
    Calls Try.prog 13 #[.pointer (some ⟨g, 0, none⟩), .int .i64 t, .int .i64 i] w fun e w' => e = .returned (.int .i64 0) ∧ ClkAt w' g ob (noteC C t i) ∧ Only [g, ob] w w' := by
  have hc := h.owe
  have ho := h.owedCell ht
  have hf := h.fr2 t
  have h4 := h.ok.owed4
  have hne := h.ne
  have hn := h.notedCell hi
  have hf2 := h.fr1 (4 + i)
  have q1 : decide ((t : Int) < 0) = false := by rw [decide_eq_false_iff_not]; omega
  have q2 : decide ((C.owed.length : Int) ≤ (t : Int)) = false := by rw [decide_eq_false_iff_not]; omega
  have q3 : decide ((i : Int) < 0) = false := by rw [decide_eq_false_iff_not]; omega
  have q4 : decide ((258 : Int) ≤ (i : Int)) = false := by rw [decide_eq_false_iff_not]; omega
  have hgt : C.owed[t] = C.owed.getD t 0 := by simp [List.getD, ht]
  have o1 : Only [ob] w (w.setCell ⟨ob, t, none⟩ (.int .i64 (wrap64 (C.owed.getD t 0 + 1)))) := (Only.refl _ _).setCell (.inl (by simp)) _
  have hr := h.row.set t (.int .i64 (wrap64 (C.owed.getD t 0 + 1)))
  have hb := (h.head.only o1 (by simpa using h.ne)).set (4 + i) (.bool true)
  have o2 : Only [g] (w.setCell ⟨ob, t, none⟩ (.int .i64 (wrap64 (C.owed.getD t 0 + 1)))) ((w.setCell ⟨ob, t, none⟩ (.int .i64 (wrap64 (C.owed.getD t 0 + 1)))).setCell ⟨g, 4 + i, none⟩ (.bool true)) := (Only.refl _ _).setCell (.inl (by simp)) _
  have hr2 := hr.only o2 (by simpa using h.ne.symm)
  rw [cellsOf_raw, raw_noted h.ok.noted hi] at hb
  have hR : ClkAt ((w.setCell ⟨ob, t, none⟩ (.int .i64 (wrap64 (C.owed.getD t 0 + 1)))).setCell ⟨g, 4 + i, none⟩ (.bool true)) g ob (noteC C t i) := by
    refine ⟨?_, ?_, h.ne, noteC_ok h.ok t i⟩
    · rw [cellsOf_raw]
      unfold noteC
      simp only [List.length_set]
      exact hb
    · unfold noteC
      simp only [List.map_set]
      rw [List.setIfInBounds_toArray] at hr2
      exact hr2
  have HRES := Lib.hid hR
  have HON := Lib.hid ((o1.mono (T := [g, ob]) (by simp)).trans o2 (by simp))
  clear o1 o2 hr hb hr2 hR
  rw [hgt] at ho
  have hm : ∃ m, m = C.owed.length := ⟨_, rfl⟩
  obtain ⟨m, hm⟩ := hm
  rw [← hm] at hc ht h4 q2
  generalize C.owed.getD t 0 = x at *
  generalize (C.noted[i]'(by rw [h.ok.noted]; exact hi)) = y at *
  clear h hm hgt
  go_enter Try.func13, Try.ntmps13
  go_wp2
  go_ret
  exact ⟨rfl, HRES.out, HON.out⟩
theorem clk_Note_any (g ob : Nat) (C : Clk) (t line : Int) (w : World) (h : ClkAt w g ob C) :
    Calls Try.prog 13 #[.pointer (some ⟨g, 0, none⟩), .int .i64 t, .int .i64 line] w fun e w' => e = .returned (.int .i64 (noteNo C t line)) ∧ ClkAt w' g ob (noteT C t line) ∧ Only [g, ob] w w' := by
  unfold noteT noteNo
  by_cases h1 : t < 0 ∨ (C.owed.length : Int) ≤ t
  · rw [if_pos h1]
    refine (clk_Note_arg g ob C t line w h h1).mono ?_
    rintro e w' ⟨rfl, rfl⟩
    exact ⟨rfl, h, Only.refl _ _⟩
  · rw [if_neg h1]
    by_cases h2 : line < 0 ∨ 258 ≤ line
    · rw [if_pos h2]
      refine (clk_Note_range g ob C t line w h h1 h2).mono ?_
      rintro e w' ⟨rfl, rfl⟩
      exact ⟨rfl, h, Only.refl _ _⟩
    · rw [if_neg h2, if_pos rfl]
      obtain ⟨a, rfl⟩ := Int.eq_ofNat_of_zero_le (show 0 ≤ t by omega)
      obtain ⟨i, rfl⟩ := Int.eq_ofNat_of_zero_le (show 0 ≤ line by omega)
      exact clk_Note g ob C a i w h (by omega) (by omega)
theorem boolInfo : (Try.prog.info? 4).map (·.size) = some 1 := by kernel_rfl
theorem run_index_bool (l : List Bool) (k : Nat) (b : Bool) (hl : l.length = 258) (hk : l[k]? = some b) (w : World) : (Instr.index 76 (.agg (bools l).toArray) (.int .i64 k)).run Try.prog w = .ok (.bool b) w := by
  have hlt : k < 258 := by
    have := (List.getElem?_eq_some_iff.1 hk).1
    omega
  have h0 : (0 : Int) ≤ (k : Int) ∧ (k : Int) < ((258 : Nat) : Int) := by omega
  have hg : (bools l)[k]? = some (.bool b) := by simp [bools, hk]
  have hu := Try.underlying76
  cases hq : Try.prog.info? 4 with
  | none => have := boolInfo; simp [hq] at this
  | some i =>
    have hs : i.size = 1 := by have := boolInfo; simpa [hq] using this
    simp [Instr.index, asIntOf, run_underlying hu, h0, sizeOf, typeInfo, hq, hs, part, isAgg, run_underlying Try.underlying4, hg]
    exact fun h => absurd h (by omega)
theorem clk_Owed (g ob : Nat) (C : Clk) (w : World) (h : ClkAt w g ob C) :
    Calls Try.prog 17 #[.pointer (some ⟨g, 0, none⟩)] w fun e w' => ∃ v, e = .returned v ∧ MadeI w C.owed v w' := by
  have hc := h.owe
  have h4 := h.ok.owed4
  have hlt := h.lt1
  obtain ⟨i0, hi, hz0, hz1, hz2⟩ := info_parts Try.intInfo
  have o1 : Only [] w (w.alloc (.cells #[] 3)) := (Only.refl [] w).alloc _
  have hc2 : (w.alloc (.cells #[] 3)).cell? ⟨g, 3, none⟩ = some (.slice (some ⟨ob, 0, none⟩) C.owed.length C.owed.length) := (cell_only o1 hlt (by simp)).trans hc
  obtain ⟨A', c', w', hr, ho2, hs2, on2⟩ := append_own (P := Try.prog) (w.alloc (.cells #[] 3)) o1 42 42 3 i0 _ 8 Try.underlying42 hi hz0 hz1 hz2 rfl _ 0 _ (own_empty w 3) (some ⟨ob, 0, none⟩) C.owed.length C.owed.length (C.owed.map (Value.int .i64)) ((h.is).only0 o1) one_I (by unfold maxLen; omega) (by omega)
  simp only [List.nil_append, Nat.zero_add] at ho2 hr
  have H2 := Lib.hid (madeI_own (A := A') (c := c') rfl ho2 on2)
  clear h hi hz0 hz1 hz2 ho2 hs2 on2 o1 hc hlt h4
  generalize C.owed = L at *
  generalize L.length = m at *
  go_enter Try.func17, Try.ntmps17
  go_wp2_with (at_builtin; refine wpList_append_run _ rfl (.tmp 5) (.tmp 9) 42 rfl _ _ rfl rfl _ _ hr ?_)
  go_ret
  exact ⟨_, rfl, H2.out⟩
/-- the places of a row of bools that are true -/
def trues (L : List Bool) (k : Nat) : List Int := ((List.range k).filter fun j => L.getD j false).map fun (j : Nat) => (j : Int)
theorem trues_succ (L : List Bool) (k : Nat) : trues L (k + 1) = if L.getD k false = true then trues L k ++ [(k : Int)] else trues L k := by
  unfold trues
  rw [List.range_succ, List.filter_append, List.map_append]
  by_cases h : L.getD k false = true
  · rw [if_pos h]
    simp only [List.filter_cons, h, if_true, List.filter_nil, List.map_cons, List.map_nil]
  · rw [if_neg h]
    have h2 : L.getD k false = false := by simpa using h
    simp only [List.filter_cons, h2, List.filter_nil]
    simp
theorem trues_length (L : List Bool) (k : Nat) : (trues L k).length ≤ k := by
  unfold trues
  rw [List.length_map]
  exact Nat.le_trans (List.length_filter_le _ _) (by simp)
set_option maxHeartbeats 1000000 in
theorem clk_Left (g ob : Nat) (C : Clk) (w : World) (h : ClkAt w g ob C) :
    Calls Try.prog 18 #[.pointer (some ⟨g, 0, none⟩)] w fun e w' => ∃ v, e = .returned v ∧ MadeI w (trues C.left 258) v w' := by
  have hl := h.leftSl
  have hL := h.ok.left
  generalize C.left = L at *
  rw [← hL] at hl
  have hsz : (Try.prog.info? 76).map (·.size) = some L.length := by rw [hL]; kernel_rfl
  have HS := Lib.hid hsz
  have HLL := Lib.hid hL
  obtain ⟨i0, hi, hz0, hz1, hz2⟩ := info_parts Try.intInfo
  have HI := Lib.hid hi
  have HZ0 := Lib.hid hz0
  have HZ1 := Lib.hid hz1
  have HZ2 := Lib.hid hz2
  clear hi hz0 hz1 hz2
  clear h hsz hL
  go_enter Try.func18, Try.ntmps18
  go_wp2_with ((with_reducible show wpList _ _ _ (Oper.mk (some 12) _ _ _ _ _ :: _) _ _); refine wpList_load_bools rfl 76 (.tmp 11) rfl g 262 rfl L hl 258 4 Try.underlying76 HS.out ?_)
  clear hl
  generalize hAG : (bools L).toArray = AG at *
  have HAG := Lib.hid hAG
  clear hAG
  go_loopw [3, 4, 5, 13] (fun v _ _ i wr => ∃ (k n : Nat), k ≤ 258 ∧ i = .int .i64 k ∧ n = (trues L k).length ∧ wr.ownsRow w.heap.size 3 1 v n ((trues L k).map (.int .i64)) ∧ Only [] w wr) (fun _ _ _ i _ => 258 - (intOf i).toNat)
  case atStart => exact ⟨0, 0, Nat.zero_le _, rfl, rfl, own_nil _ _ _ _, Only.refl _ _⟩
  case round =>
    obtain ⟨k, n, hk, rfl, hn, ho, on⟩ := hrel
    by_cases hlt : k < 258
    · have hix : ∀ w, (Instr.index 76 (.agg AG) (.int .i64 k)).run Try.prog w = .ok (.bool (L.getD k false)) w := fun w => by
        rw [← HAG.out]
        exact run_index_bool L k _ HLL.out (by rw [List.getElem?_eq_getElem (by rw [HLL.out]; exact hlt)]; simp [List.getD, HLL.out, hlt]) w
      have y1 : decide ((k : Int) < 258) = true := by rw [decide_eq_true_eq]; omega
      have hnk := trues_length L k
      rw [← hn] at hnk
      have hsu := trues_succ L k
      by_cases hp : L.getD k false = true
      · rw [hp] at hix
        rw [if_pos hp] at hsu
        obtain ⟨A', c', w', hr, ho2, hs2, on2⟩ := append_own (P := Try.prog) (wr.alloc (.cells #[.int .i64 (k : Int)] 3)) (on.alloc _) 42 42 3 i0 _ 8 Try.underlying42 HI.out HZ0.out HZ1.out HZ2.out rfl _ n _ (ho.alloc _) (some ⟨wr.heap.size, 0, none⟩) 1 1 [.int .i64 (k : Int)] (cell_new1 _ _ _) (ints_new1 _ _) (by unfold maxLen; omega) (by omega)
        rw [show (trues L k).map (Value.int .i64) ++ [.int .i64 (k : Int)] = (trues L (k + 1)).map (.int .i64) by rw [hsu]; simp] at ho2
        have H2 := Lib.hid ho2
        have N2 := Lib.hid on2
        have HN : Hid (n + 1 = (trues L (k + 1)).length) := Lib.hid (by rw [hsu, List.length_append, hn]; rfl)
        clear ho2 hs2 on2 ho on hn hsu hp
        go_wp2_with (at_builtin; refine wpList_append_run _ rfl (.tmp 18) (.tmp 20) 42 rfl _ _ rfl rfl _ _ hr ?_)
        go_roundw
        case rel => exact ⟨k + 1, n + 1, by omega, by go_num, HN.out, H2.out, N2.out⟩
        case measure => simp [intOf]; omega
      · have hp0 : L.getD k false = false := by simpa using hp
        rw [hp0] at hix
        rw [if_neg hp] at hsu
        rw [← hsu] at hn ho
        have H2 := Lib.hid ho
        have N2 := Lib.hid on
        have HN := Lib.hid hn
        clear ho on hn hsu hp hp0
        go_wp2
        go_roundw
        case rel => exact ⟨k + 1, n, by omega, by go_num, HN.out, H2.out, N2.out⟩
        case measure => simp [intOf]; omega
    · obtain rfl : k = 258 := by omega
      obtain ⟨A', c', rfl, _, _⟩ := own_slice ho
      have H1 := Lib.hid ho
      have H2 := Lib.hid on
      have HN := Lib.hid hn
      clear ho on hn
      go_wp2
      go_ret
      exact ⟨.slice A' n c', rfl, madeI_own HN.out.symm H1.out H2.out⟩
end Go.Proofs.Ytecdalmnndalgaa
