/- The contracts of class.Starts, class.Home and of their references; slices.Index, slices.Contains on ints. -/
import Derived.Test.YtpenmnngjfncgaaClass
namespace Go.Proofs.Ytpenmnngjfncgaa
open Go.RowKit Go.Proofs.FuMem Go.Proofs.FuClass
set_option maxRecDepth 100000

theorem geom_Slab (k : Int) (w : World) :
    Calls Try.prog 40 #[.int .i64 k] w fun e w' => e = .returned (.int .i64 (slab k)) ∧ w = w' := by
  by_cases h1 : k < 0
  · rw [show slab k = -1 from if_pos (.inl h1)]
    go_enter Try.func40, Try.ntmps40
    go_wp2
    go_ret
    exact ⟨rfl, rfl⟩
  · by_cases h2 : 31 < k
    · rw [show slab k = -1 from if_pos (.inr h2)]
      have h3 : 32 ≤ k := by omega
      clear h2
      go_enter Try.func40, Try.ntmps40
      go_wp2
      go_ret
      exact ⟨rfl, rfl⟩
    · rw [show slab k = 2 + 8 * k from if_neg (by omega)]
      have h3 : k < 32 := by omega
      clear h2
      go_enter Try.func40, Try.ntmps40
      go_wp2
      go_ret
      exact ⟨ret_int (by omega), rfl⟩
theorem ref4_Slab (k : Int) (w : World) :
    Calls Try.prog 56 #[.int .i64 k] w fun e w' => e = .returned (.int .i64 (slab k)) ∧ w = w' := by
  by_cases h1 : k < 0
  · rw [show slab k = -1 from if_pos (.inl h1)]
    go_enter Try.func56, Try.ntmps56
    go_wp2
    go_ret
    exact ⟨rfl, rfl⟩
  · by_cases h2 : 31 < k
    · rw [show slab k = -1 from if_pos (.inr h2)]
      go_enter Try.func56, Try.ntmps56
      go_wp2
      go_ret
      exact ⟨rfl, rfl⟩
    · rw [show slab k = 2 + 8 * k from if_neg (by omega)]
      go_enter Try.func56, Try.ntmps56
      go_wp2
      go_ret
      exact ⟨ret_int (by omega), rfl⟩
theorem geom_SlabOf (k : Int) (w : World) :
    Calls Try.prog 15 #[.int .i64 k] w fun e w' => e = .returned (.int .i64 (slabOf k)) ∧ w = w' := by
  by_cases h1 : k < 2
  · rw [show slabOf k = -1 from if_pos (.inl h1)]
    go_enter Try.func15, Try.ntmps15
    go_wp2
    go_ret
    exact ⟨rfl, rfl⟩
  · by_cases h2 : 258 ≤ k
    · rw [show slabOf k = -1 from if_pos (.inr h2)]
      go_enter Try.func15, Try.ntmps15
      go_wp2
      go_ret
      exact ⟨rfl, rfl⟩
    · rw [show slabOf k = (k - 2) / 8 from if_neg (by omega)]
      go_enter Try.func15, Try.ntmps15
      go_wp2
      go_ret
      exact ⟨ret_int (by omega), rfl⟩
theorem ref4_SlabOf (k : Int) (w : World) :
    Calls Try.prog 47 #[.int .i64 k] w fun e w' => e = .returned (.int .i64 (slabOf k)) ∧ w = w' := by
  by_cases h1 : k < 2
  · rw [show slabOf k = -1 from if_pos (.inl h1)]
    go_enter Try.func47, Try.ntmps47
    go_wp2
    go_ret
    exact ⟨rfl, rfl⟩
  · by_cases h2 : 258 ≤ k
    · rw [show slabOf k = -1 from if_pos (.inr h2)]
      go_enter Try.func47, Try.ntmps47
      go_wp2
      go_ret
      exact ⟨rfl, rfl⟩
    · rw [show slabOf k = (k - 2) / 8 from if_neg (by omega)]
      go_enter Try.func47, Try.ntmps47
      go_wp2
      go_ret
      exact ⟨ret_int (by omega), rfl⟩
theorem index_ints (A : Option Addr) (n c : Nat) (l : List Int) (v : Int) (w : World) (h : Is w A n l) (hn : n ≤ 1000000) :
    Calls Try.prog 43 #[.slice A n c, .int .i64 v] w fun e w' => e = .returned (.int .i64 (idx l v)) ∧ w = w' := by
  have hl := h.len
  have HL := Lib.hid hl
  have HX := Lib.hid h
  clear h hl
  go_enter Try.func43, Try.ntmps43
  go_wp2
  go_loop [5, 8] (fun _ i => ∃ k : Nat, k ≤ n ∧ i = .int .i64 k ∧ ∀ j, j < k → ∀ x, l[j]? = some x → x ≠ v) (fun _ i => n - (intOf i).toNat)
  case atStart => exact ⟨0, Nat.zero_le _, rfl, fun j hj => by omega⟩
  case round =>
    obtain ⟨k, hk, rfl, hno⟩ := hrel
    have HN := Lib.hid hno
    clear hno
    by_cases hlt : k < n
    · obtain ⟨b, f, rfl, hc⟩ := HX.out.at_ (by omega)
      have hkl : k < l.length := by rw [HL.out]; exact hlt
      have hc1 := hc k hkl
      clear hc
      obtain ⟨x, hx⟩ : ∃ x, l[k]? = some x := ⟨_, List.getElem?_eq_getElem hkl⟩
      have hxe : l[k] = x := by
        rw [List.getElem?_eq_getElem hkl] at hx
        exact Option.some.inj hx
      rw [hxe] at hc1
      by_cases hv : x = v
      · subst hv
        have HI := Lib.hid (idx_some hkl hxe (fun j hj => HN.out j hj _ (List.getElem?_eq_getElem (by omega))))
        clear hxe hx
        go_wp2
        go_ret
        exact ⟨ret_int HI.out.symm, rfl⟩
      · have d1 : (v == x) = false := by rw [beq_eq_false_iff_ne]; exact fun e => hv e.symm
        have HV := Lib.hid hv
        have HX1 := Lib.hid hx
        clear hv hxe hx
        go_wp2
        go_round
        case rel =>
          refine ⟨k + 1, by omega, by go_num, fun j hj y hy => ?_⟩
          by_cases e : j = k
          · rw [e, HX1.out] at hy
            rw [← Option.some.inj hy]
            exact HV.out
          · exact HN.out j (by omega) y hy
        case measure => simp [intOf]; omega
    · obtain rfl : k = n := by omega
      have hm : v ∉ l := by
        intro hm
        obtain ⟨j, hj, he⟩ := List.getElem_of_mem hm
        exact HN.out j (by rw [← HL.out]; exact hj) _ (List.getElem?_eq_getElem hj) he
      have HI := Lib.hid (idx_none hm)
      clear hm
      go_wp2
      go_ret
      exact ⟨ret_int HI.out.symm, rfl⟩
theorem contains_ints (A : Option Addr) (n c : Nat) (l : List Int) (v : Int) (w : World) (h : Is w A n l) (hn : n ≤ 1000000) :
    Calls Try.prog 37 #[.slice A n c, .int .i64 v] w fun e w' => e = .returned (.bool (decide (v ∈ l))) ∧ w = w' := by
  have HI := Lib.hid (index_ints A n c l v w h hn)
  have HE := Lib.hid (idx_nonneg l v)
  generalize idx l v = x at *
  clear h
  go_enter Try.func37, Try.ntmps37
  go_wp2_with fail
  refine (HI.out).mono ?_
  rintro e w' ⟨rfl, rfl⟩
  go_wp2
  go_ret
  exact ⟨ret_bool HE.out, rfl⟩
theorem starts_next (f : Int) (s i : Nat) (x : Int) (hx : x = f + ((i * s : Nat) : Int)) : (startsTo f s i).map (Value.int .i64) ++ [.int .i64 x] = (startsTo f s (i + 1)).map (.int .i64) := by
  rw [startsTo_succ, List.map_append, hx]
  rfl
theorem class_Starts (k c : Int) (w : World) (h : -9223372036854775808 ≤ c ∧ c ≤ 9223372036854775807) :
    Calls Try.prog 36 #[.int .i64 k, .int .i64 c] w fun e w' => ∃ x, e = .returned x ∧ MadeI w (starts k c) x w' := by
  have HC := Lib.hid (class_Span c w h)
  have HS := Lib.hid (geom_Slab k w)
  have hs := span_le c
  have hb := slab_bd k
  by_cases hz : span c = 0 ∨ slab k < 0
  · have he : starts k c = [] := if_pos hz
    rw [he]
    clear he
    by_cases h0 : span c = 0
    · clear hz hs
      rw [h0] at HC
      clear h0
      generalize slab k = f at *
      go_enter Try.func36, Try.ntmps36
      go_wp2_with fail
      refine (HC.out).mono ?_
      rintro e w' ⟨rfl, rfl⟩
      go_wp2_with fail
      refine (HS.out).mono ?_
      rintro e w' ⟨rfl, rfl⟩
      go_wp2
      go_ret
      exact ⟨_, rfl, madeI_nil _⟩
    · have h1 : slab k < 0 := by omega
      have d0 : ((span c : Int) == 0) = false := by simp; omega
      clear hz h0
      generalize slab k = f at *
      generalize span c = s at *
      go_enter Try.func36, Try.ntmps36
      go_wp2_with fail
      refine (HC.out).mono ?_
      rintro e w' ⟨rfl, rfl⟩
      go_wp2_with fail
      refine (HS.out).mono ?_
      rintro e w' ⟨rfl, rfl⟩
      go_wp2
      go_ret
      exact ⟨_, rfl, madeI_nil _⟩
  · have he : starts k c = startsTo (slab k) (span c) (8 / span c) := if_neg hz
    rw [he]
    have h1 : 0 ≤ slab k := by omega
    have h2 : 0 < span c := by omega
    have d0 : ((span c : Int) == 0) = false := by simp; omega
    clear hz he
    generalize slab k = f at *
    generalize span c = s at *
    have hq : 8 / s ≤ 8 := Nat.div_le_self _ _
    obtain ⟨q, hqe⟩ : ∃ q, q = 8 / s := ⟨_, rfl⟩
    have hqs : q * s ≤ 8 := by rw [hqe]; exact Nat.div_mul_le_self _ _
    rw [← hqe]
    rw [← hqe] at hq
    have hqi : (8 : Int) / (s : Int) = (q : Int) := by rw [hqe]; simp
    have HQ := Lib.hid hqi
    clear hqe hqi
    obtain ⟨i0, hi, hz0, hz1, hz2⟩ := info_parts Try.intInfo
    have HI := Lib.hid hi
    have HZ0 := Lib.hid hz0
    have HZ1 := Lib.hid hz1
    have HZ2 := Lib.hid hz2
    clear hi hz0 hz1 hz2
    go_enter Try.func36, Try.ntmps36
    go_wp2_with fail
    refine (HC.out).mono ?_
    rintro e w' ⟨rfl, rfl⟩
    go_wp2_with fail
    refine (HS.out).mono ?_
    rintro e w' ⟨rfl, rfl⟩
    go_wp2
    rw [HQ.out]
    go_loopw [7, 8, 21] (fun x _ i wr => ∃ j : Nat, j ≤ q ∧ i = .int .i64 j ∧ wr.ownsRow w.heap.size 3 1 x j ((startsTo f s j).map (.int .i64)) ∧ Only [] w wr) (fun _ _ i _ => q - (intOf i).toNat)
    case atStart => exact ⟨0, Nat.zero_le _, rfl, own_nil _ _ _ _, Only.refl _ _⟩
    case round =>
      obtain ⟨j, hj, rfl, ho, on⟩ := hrel
      by_cases hlt : j < q
      · have hjs : j * s ≤ 8 := Nat.le_trans (Nat.mul_le_mul_right s (Nat.le_of_lt hlt)) hqs
        have b1 : 0 ≤ (j : Int) * (s : Int) := Int.mul_nonneg (by omega) (by omega)
        have b2 : (j : Int) * (s : Int) ≤ 8 := by rw [← Int.natCast_mul]; omega
        have hnx := starts_next f s j (f + (j : Int) * (s : Int)) (by rw [Int.natCast_mul])
        obtain ⟨A', c', w', hr, ho2, hs2, on2⟩ := append_own (P := Try.prog) (wr.alloc (.cells #[.int .i64 (f + (j : Int) * (s : Int))] 3)) (on.alloc _) 28 28 3 i0 _ 8 Try.underlying28 HI.out HZ0.out HZ1.out HZ2.out rfl _ j _ (ho.alloc _) (some ⟨wr.heap.size, 0, none⟩) 1 1 [.int .i64 (f + (j : Int) * (s : Int))] (cell_new1 _ _ _) (ints_new1 _ _) (by unfold maxLen; omega) (by omega)
        rw [hnx] at ho2
        have H1 := Lib.hid ho2
        have H2 := Lib.hid on2
        clear ho on ho2 on2 hs2 hnx
        go_wp2_with (at_builtin; refine wpList_append_run _ rfl (.tmp 24) (.tmp 30) 28 rfl _ _ rfl rfl _ _ hr ?_)
        go_roundw
        case rel => exact ⟨j + 1, by omega, by go_num, H1.out, H2.out⟩
        case measure => simp [intOf]; omega
      · obtain rfl : j = q := by omega
        obtain ⟨A', c', rfl, _, _⟩ := own_slice ho
        have H1 := Lib.hid ho
        have H2 := Lib.hid on
        clear ho on
        go_wp2
        go_ret
        exact ⟨.slice A' j c', rfl, madeI_own (startsTo_length _ _ _) H1.out H2.out⟩

theorem ref5_Starts (k c : Int) (w : World) :
    Calls Try.prog 57 #[.int .i64 k, .int .i64 c] w fun e w' => ∃ x, e = .returned x ∧ MadeI w (starts k c) x w' := by
  have HC := Lib.hid (fun w => ref5_Span c w)
  have HS := Lib.hid (fun w => ref4_Slab k w)
  have hs := span_cases c
  have hb := slab_bd k
  by_cases hz : span c = 0 ∨ slab k < 0
  · have he : starts k c = [] := if_pos hz
    rw [he]
    clear he
    by_cases h1 : slab k < 0
    · clear hz hs
      generalize slab k = f at *
      go_enter Try.func57, Try.ntmps57
      go_wp2_with fail
      refine (HS.out _).mono ?_
      rintro e w' ⟨rfl, rfl⟩
      go_wp2
      go_ret
      exact ⟨_, rfl, madeI_nil _⟩
    · have h0 : span c = 0 := by omega
      clear hz hs
      rw [h0] at HC
      clear h0
      generalize slab k = f at *
      go_enter Try.func57, Try.ntmps57
      go_wp2_with fail
      refine (HS.out _).mono ?_
      rintro e w' ⟨rfl, rfl⟩
      go_wp2_with fail
      refine (HC.out _).mono ?_
      rintro e w' ⟨rfl, rfl⟩
      go_wp2
      go_ret
      exact ⟨_, rfl, madeI_nil _⟩
  · have he : starts k c = startsTo (slab k) (span c) (8 / span c) := if_neg hz
    rw [he]
    have h1 : 0 ≤ slab k := by omega
    have h2 : 0 < span c := by omega
    have d0 : ((span c : Int) == 0) = false := by simp; omega
    have hs8 : span c * (8 / span c) = 8 ∧ span c ≤ 8 ∧ 8 / span c ≤ 8 := by
      rcases hs with ⟨_, h⟩ | ⟨_, h⟩ | ⟨_, h⟩ | ⟨_, h⟩ | ⟨_, h⟩ <;> rw [h] <;> first | decide | omega
    clear hz he hs
    generalize slab k = f at *
    generalize span c = s at *
    generalize 8 / s = q at *
    obtain ⟨hq1, hq2, hq3⟩ := hs8
    have HQ := Lib.hid hq1
    clear hq1
    obtain ⟨i0, hi, hz0, hz1, hz2⟩ := info_parts Try.intInfo
    have HI := Lib.hid hi
    have HZ0 := Lib.hid hz0
    have HZ1 := Lib.hid hz1
    have HZ2 := Lib.hid hz2
    clear hi hz0 hz1 hz2
    go_enter Try.func57, Try.ntmps57
    go_wp2_with fail
    refine (HS.out _).mono ?_
    rintro e w' ⟨rfl, rfl⟩
    go_wp2_with fail
    refine (HC.out _).mono ?_
    rintro e w' ⟨rfl, rfl⟩
    go_wp2
    go_loopw [5, 6] (fun x i wr => ∃ j a : Nat, j ≤ q ∧ i = .int .i64 a ∧ a = j * s ∧ wr.ownsRow w.heap.size 3 1 x j ((startsTo f s j).map (.int .i64)) ∧ Only [] w wr) (fun _ i _ => 8 - (intOf i).toNat)
    case atStart => exact ⟨0, 0, Nat.zero_le _, rfl, by omega, own_nil _ _ _ _, Only.refl _ _⟩
    case round =>
      obtain ⟨j, a, hj, rfl, ha, ho, on⟩ := hrel
      by_cases hlt : j < q
      · have hjs : (j + 1) * s ≤ 8 := by
          have := Nat.mul_le_mul_right s (show j + 1 ≤ q by omega)
          rw [Nat.mul_comm q s, HQ.out] at this
          exact this
        have hsu : (j + 1) * s = j * s + s := Nat.succ_mul j s
        have ha8 : a + s ≤ 8 := by omega
        have ha1 : a + s = (j + 1) * s := by omega
        have hnx := starts_next f s j (f + (a : Int)) (by rw [ha])
        obtain ⟨A', c', w', hr, ho2, hs2, on2⟩ := append_own (P := Try.prog) (wr.alloc (.cells #[.int .i64 (f + (a : Int))] 3)) (on.alloc _) 28 28 3 i0 _ 8 Try.underlying28 HI.out HZ0.out HZ1.out HZ2.out rfl _ j _ (ho.alloc _) (some ⟨wr.heap.size, 0, none⟩) 1 1 [.int .i64 (f + (a : Int))] (cell_new1 _ _ _) (ints_new1 _ _) (by unfold maxLen; omega) (by omega)
        rw [hnx] at ho2
        have H1 := Lib.hid ho2
        have H2 := Lib.hid on2
        have H3 := Lib.hid ha1
        clear ho on ho2 on2 hs2 hnx ha hjs hsu ha1
        go_wp2_with fail
        refine (HS.out _).mono ?_
        rintro e w' ⟨rfl, rfl⟩
        go_wp2_with (at_builtin; refine wpList_append_run _ rfl (.tmp 22) (.tmp 27) 28 rfl _ _ rfl rfl _ _ hr ?_)
        refine (HC.out _).mono ?_
        rintro e w' ⟨rfl, rfl⟩
        go_wp2
        go_roundw
        case rel => exact ⟨j + 1, a + s, by omega, by go_num, H3.out, H1.out, H2.out⟩
        case measure => simp [intOf]; omega
      · obtain rfl : j = q := by omega
        have ha8 : a = 8 := by rw [ha, Nat.mul_comm, HQ.out]
        subst ha8
        obtain ⟨A', c', rfl, _, _⟩ := own_slice ho
        have H1 := Lib.hid ho
        have H2 := Lib.hid on
        clear ho on ha
        go_wp2
        go_ret
        exact ⟨.slice A' j c', rfl, madeI_own (startsTo_length _ _ _) H1.out H2.out⟩
theorem class_Home (line c : Int) (w : World) (h : -9223372036854775808 ≤ c ∧ c ≤ 9223372036854775807) :
    Calls Try.prog 16 #[.int .i64 line, .int .i64 c] w fun e w' => e = .returned (.bool (home line c)) ∧ Only [] w w' := by
  have HO := Lib.hid (geom_SlabOf line w)
  have HS := Lib.hid (class_Starts (slabOf line) c w h)
  have hl := starts_length (slabOf line) c
  unfold home
  generalize slabOf line = k at *
  generalize starts k c = l at *
  go_enter Try.func16, Try.ntmps16
  go_wp2_with fail
  refine (HO.out).mono ?_
  rintro e w' ⟨rfl, rfl⟩
  go_wp2_with fail
  refine (HS.out).mono ?_
  rintro e w1 ⟨_, rfl, A1, c1, rfl, m1, o1⟩
  have M1 := Lib.hid (is_own m1)
  have O1 := Lib.hid o1
  clear m1 o1
  go_wp2_with fail
  refine (contains_ints A1 _ c1 l line _ M1.out (by omega)).mono ?_
  rintro e w' ⟨rfl, rfl⟩
  go_wp2
  go_ret
  exact ⟨rfl, O1.out⟩
theorem ref5_Home (line c : Int) (w : World) :
    Calls Try.prog 48 #[.int .i64 line, .int .i64 c] w fun e w' => e = .returned (.bool (home line c)) ∧ Only [] w w' := by
  have HO := Lib.hid (ref4_SlabOf line w)
  have HS := Lib.hid (ref5_Starts (slabOf line) c w)
  have hl := starts_length (slabOf line) c
  unfold home
  generalize slabOf line = k at *
  generalize starts k c = l at *
  go_enter Try.func48, Try.ntmps48
  go_wp2_with fail
  refine (HO.out).mono ?_
  rintro e w' ⟨rfl, rfl⟩
  go_wp2_with fail
  refine (HS.out).mono ?_
  rintro e w1 ⟨_, rfl, A1, c1, rfl, m1, o1⟩
  have M1 := Lib.hid (is_own m1)
  have O1 := Lib.hid o1
  clear m1 o1
  go_wp2
  go_loop [6] (fun i => ∃ k : Nat, k ≤ l.length ∧ i = .int .i64 k ∧ ∀ j, j < k → ∀ x, l[j]? = some x → x ≠ line) (fun i => l.length - (intOf i).toNat)
  case atStart => exact ⟨0, Nat.zero_le _, rfl, fun j hj => by omega⟩
  case round =>
    obtain ⟨k, hk, rfl, hno⟩ := hrel
    have HN := Lib.hid hno
    clear hno
    by_cases hlt : k < l.length
    · obtain ⟨b, f, rfl, hc⟩ := M1.out.at_ (by omega)
      have hc1 := hc k hlt
      clear hc
      obtain ⟨x, hx⟩ : ∃ x, l[k]? = some x := ⟨_, List.getElem?_eq_getElem hlt⟩
      have hxe : l[k] = x := by
        rw [List.getElem?_eq_getElem hlt] at hx
        exact Option.some.inj hx
      rw [hxe] at hc1
      by_cases hv : x = line
      · subst hv
        have hm : decide (x ∈ l) = true := by
          rw [decide_eq_true_iff, ← hxe]
          exact List.getElem_mem hlt
        have HI := Lib.hid hm
        clear hxe hx hm
        go_wp2
        go_ret
        exact ⟨ret_bool HI.out.symm, O1.out⟩
      · have d1 : (x == line) = false := by rw [beq_eq_false_iff_ne]; exact hv
        have HV := Lib.hid hv
        have HX1 := Lib.hid hx
        clear hv hxe hx
        go_wp2
        go_round
        case rel =>
          refine ⟨k + 1, by omega, by go_num, fun j hj y hy => ?_⟩
          by_cases e : j = k
          · rw [e, HX1.out] at hy
            rw [← Option.some.inj hy]
            exact HV.out
          · exact HN.out j (by omega) y hy
        case measure => simp [intOf]; omega
    · have hm : decide (line ∈ l) = false := by
        rw [decide_eq_false_iff_not]
        intro hm
        obtain ⟨j, hj, he⟩ := List.getElem_of_mem hm
        exact HN.out j (by omega) _ (List.getElem?_eq_getElem hj) he
      have HI := Lib.hid hm
      clear hm
      go_wp2
      go_ret
      exact ⟨ret_bool HI.out.symm, O1.out⟩
end Go.Proofs.Ytpenmnngjfncgaa
