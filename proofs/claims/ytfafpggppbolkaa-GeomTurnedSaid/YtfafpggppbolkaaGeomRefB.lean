/- The contracts of the reference of chapter 4 on lines, second part. -/
import Derived.Test.YtfafpggppbolkaaGeomRef
namespace Go.Proofs.Ytfafpggppbolkaa
open Go.RowKit Go.Proofs.FuMem Go.Proofs.FuCode Go.Proofs.FuCrc Go.Proofs.FuGeom
set_option maxRecDepth 100000

theorem ref4_Clock (v : Nat) (w : World) (hv : v < 18446744073709551616) :
    Calls Try.prog 48 #[.int .u64 v] w fun e w' => ∃ A c, e = .returned (.slice A 64 c) ∧ w'.ownsRow w.heap.size 5 1 (.slice A 64 c) 64 ((clockL v).map B) ∧ Only [] w w' := by
  have hlay := fun w => ref2_Lay 8 v w (by omega) hv
  have ho0 : (w.alloc (.cells #[.int .u8 3] 5)).ownsRow w.heap.size 5 1 (.slice (some ⟨w.heap.size, 0, none⟩) 1 1) 1 [.int .u8 3] := World.ownsRow_lit w #[.int .u8 3] 1 (Nat.le_refl _) (by decide) rfl
  have hn0 : Only [] w (w.alloc (.cells #[.int .u8 3] 5)) := (Only.refl _ _).alloc _
  obtain ⟨i0, hi, hz0, hz1, hz2⟩ := info_parts Try.byteInfo
  have HI := Lib.hid hi
  have HZ0 := Lib.hid hz0
  have HZ1 := Lib.hid hz1
  have HZ2 := Lib.hid hz2
  have HY := Lib.hid hlay
  have HO0 := Lib.hid ho0
  have HN0 := Lib.hid hn0
  clear hlay hi hz0 hz1 hz2 ho0 hn0
  go_enter Try.func48, Try.ntmps48
  go_wp2_with fail
  refine (HY.out _).mono ?_
  rintro e w1 ⟨_, rfl, A1, c1, rfl, m1, o1⟩
  rw [lay_length] at m1 ⊢
  have hown := own_only HO0.out o1 (by simp)
  have hon := HN0.out.trans0 o1
  obtain ⟨A2, c2, w2, hr, ho2, hs2, on2⟩ := append_own (P := Try.prog) w1 hon 30 30 5 i0 _ 1 Try.underlying30 HI.out HZ0.out HZ1.out HZ2.out rfl _ 1 _ hown A1 8 c1 _ (Sl.of_own m1) one_B (by unfold maxLen; omega) (by omega)
  have he : [Value.int .u8 3] ++ (lay 8 v).map B = (clockHead v).map B := rfl
  rw [he] at ho2
  have H2 := Lib.hid ho2
  have N2 := Lib.hid on2
  clear hown hon ho2 hs2 on2 m1 o1 he
  go_wp2_with (at_builtin; refine wpList_append_run _ rfl (.tmp 3) (.tmp 5) 30 rfl _ _ rfl rfl _ _ hr ?_)
  refine (ref4_whole A2 c2 (clockHead v) w2 H2.out N2.out).mono ?_
  rintro e w3 ⟨A3, c3, rfl, m3, o3⟩
  have H3 := Lib.hid m3
  have N3 := Lib.hid o3
  clear m3 o3 hr
  go_wp2
  go_ret
  exact ⟨A3, c3, rfl, H3.out, N3.out⟩
theorem ref4_Super_no (n : Int) (w : World) (h : -9223372036854775808 ≤ n ∧ n ≤ 9223372036854775807) (hn : n < 10 ∨ 258 < n) :
    Calls Try.prog 45 #[.int .i64 n] w fun e w' => e = .returned (.tuple #[.slice none 0 0, .int .i64 2]) ∧ w = w' := by
  by_cases h1 : n < 10
  · clear hn
    go_enter Try.func45, Try.ntmps45
    go_wp2
    go_ret2
    exact ⟨rfl, rfl⟩
  · have h2 : 258 < n := by omega
    clear hn
    go_enter Try.func45, Try.ntmps45
    go_wp2
    go_ret2
    exact ⟨rfl, rfl⟩
theorem ref4_Super (v : Nat) (w : World) (h1 : 10 ≤ v) (h2 : v ≤ 258) :
    Calls Try.prog 45 #[.int .i64 v] w fun e w' => ∃ A c, e = .returned (.tuple #[.slice A 64 c, .int .i64 0]) ∧ w'.ownsRow w.heap.size 5 1 (.slice A 64 c) 64 ((superL v).map B) ∧ Only [] w w' := by
  have hlay := fun w => ref2_Lay 4 v w (by omega) (by omega)
  have ho0 : (w.alloc (.cells #[.int .u8 4, .int .u8 70, .int .u8 85, .int .u8 83, .int .u8 69] 5)).ownsRow w.heap.size 5 1 (.slice (some ⟨w.heap.size, 0, none⟩) 5 5) 5 [.int .u8 4, .int .u8 70, .int .u8 85, .int .u8 83, .int .u8 69] := World.ownsRow_lit w #[.int .u8 4, .int .u8 70, .int .u8 85, .int .u8 83, .int .u8 69] 5 (Nat.le_refl _) (by decide) rfl
  have hn0 : Only [] w (w.alloc (.cells #[.int .u8 4, .int .u8 70, .int .u8 85, .int .u8 83, .int .u8 69] 5)) := (Only.refl _ _).alloc _
  obtain ⟨i0, hi, hz0, hz1, hz2⟩ := info_parts Try.byteInfo
  have HI := Lib.hid hi
  have HZ0 := Lib.hid hz0
  have HZ1 := Lib.hid hz1
  have HZ2 := Lib.hid hz2
  have HY := Lib.hid hlay
  have HO0 := Lib.hid ho0
  have HN0 := Lib.hid hn0
  clear hlay hi hz0 hz1 hz2 ho0 hn0
  go_enter Try.func45, Try.ntmps45
  go_wp2_with fail
  refine (HY.out _).mono ?_
  rintro e w1 ⟨_, rfl, A1, c1, rfl, m1, o1⟩
  rw [lay_length] at m1 ⊢
  have hown := own_only HO0.out o1 (by simp)
  have hon := HN0.out.trans0 o1
  obtain ⟨A2, c2, w2, hr, ho2, hs2, on2⟩ := append_own (P := Try.prog) w1 hon 30 30 5 i0 _ 1 Try.underlying30 HI.out HZ0.out HZ1.out HZ2.out rfl _ 5 _ hown A1 4 c1 _ (Sl.of_own m1) one_B (by unfold maxLen; omega) (by omega)
  have he : [Value.int .u8 4, .int .u8 70, .int .u8 85, .int .u8 83, .int .u8 69] ++ (lay 4 v).map B = (superHead v).map B := rfl
  rw [he] at ho2
  have H2 := Lib.hid ho2
  have N2 := Lib.hid on2
  clear hown hon ho2 hs2 on2 m1 o1 he
  go_wp2_with (at_builtin; refine wpList_append_run _ rfl (.tmp 10) (.tmp 13) 30 rfl _ _ rfl rfl _ _ hr ?_)
  refine (ref4_whole A2 c2 (superHead v) w2 H2.out N2.out).mono ?_
  rintro e w3 ⟨A3, c3, rfl, m3, o3⟩
  have H3 := Lib.hid m3
  have N3 := Lib.hid o3
  clear m3 o3 hr
  go_wp2
  go_ret2
  exact ⟨A3, c3, rfl, H3.out, N3.out⟩
/-- no line of a superblock of fewer lines is it -/
def NoSuper (l : List UInt8) (k : Nat) : Prop := ∀ j, 10 ≤ j → j < k → superL j ≠ l
theorem isSuper_found {l : List UInt8} {k : Nat} (h1 : 10 ≤ k) (h2 : k ≤ 258) (h : superL k = l) : isSuper l = (k, true) := by rw [← h, isSuper_superL k h1 h2]
theorem isSuper_none {l : List UInt8} (h : NoSuper l 259) : isSuper l = (0, false) := by
  unfold isSuper
  rw [if_neg]
  rintro ⟨_, h1, h2, h3⟩
  exact h _ h1 (by omega) h3.symm
theorem ref4_IsSuper (A : Option Addr) (n c : Nat) (l : List UInt8) (w : World) (h : Bs w A n l) :
    Calls Try.prog 31 #[.slice A n c] w fun e w' => e = .returned (.tuple #[.int .i64 (isSuper l).1, .bool (isSuper l).2]) ∧ Only [] w w' := by
  have HB := Lib.hid h
  clear h
  go_enter Try.func31, Try.ntmps31
  go_wp2
  go_loopw [4, 5, 6] (fun i _ _ wr => ∃ k : Nat, 10 ≤ k ∧ k ≤ 259 ∧ i = .int .i64 k ∧ NoSuper l k ∧ Only [] w wr) (fun i _ _ _ => 259 - (intOf i).toNat)
  case atStart => exact ⟨10, by omega, by omega, rfl, fun j h1 h2 => by omega, Only.refl _ _⟩
  case round =>
    obtain ⟨k, hk1, hk2, rfl, hno, on⟩ := hrel
    have HN := Lib.hid hno
    have ON := Lib.hid on
    clear hno on
    by_cases hlt : k ≤ 258
    · go_wp2_with fail
      refine (ref4_Super k _ hk1 hlt).mono ?_
      rintro e w1 ⟨A1, c1, rfl, m1, o1⟩
      have h1 := run_str (P := Try.prog) Try.underlying30 Try.underlying5 Try.underlying9 (bs_own m1) c1
      have h2 := run_str (P := Try.prog) Try.underlying30 Try.underlying5 Try.underlying9 ((HB.out.only0 ON.out).only0 o1) c
      have O1 := Lib.hid (ON.out.trans0 o1)
      clear m1 o1
      go_wp2
      · have hb : superL k = l := beq_iff_eq.1 ‹_›
        go_ret2
        exact ⟨by rw [isSuper_found hk1 hlt hb]; rfl, O1.out⟩
      · have hb : superL k ≠ l := beq_eq_false_iff_ne.1 ‹_›
        go_roundw
        case rel =>
          refine ⟨k + 1, by omega, by omega, by go_num, fun j hj1 hj2 => ?_, O1.out⟩
          by_cases e : j = k
          · rw [e]; exact hb
          · exact HN.out j hj1 (by omega)
        case measure => simp [intOf]; omega
    · obtain rfl : k = 259 := by omega
      have hr := isSuper_none HN.out
      have HR := Lib.hid hr
      clear hr
      go_wp2
      go_ret2
      exact ⟨by rw [HR.out]; rfl, ON.out⟩
theorem ref4_IsClock_no (A : Option Addr) (n c : Nat) (w : World) (h : n ≠ 64) :
    Calls Try.prog 33 #[.slice A n c] w fun e w' => e = .returned (.tuple #[.int .u64 0, .bool false]) ∧ w = w' := by
  have d1 : ((n : Int) != 64) = true := by rw [bne_iff_ne]; omega
  clear h
  go_enter Try.func33, Try.ntmps33
  go_wp2
  go_ret2
  exact ⟨rfl, rfl⟩
set_option maxHeartbeats 400000 in
theorem ref4_IsClock_yes (b off c : Nat) (l : List UInt8) (w : World) (h : Bs w (some ⟨b, off, none⟩) 64 l) (hc : 64 ≤ c) :
    Calls Try.prog 33 #[.slice (some ⟨b, off, none⟩) 64 c] w fun e w' => e = .returned (.tuple #[.int .u64 (isClock l).1, .bool (isClock l).2]) ∧ Only [] w w' := by
  have hl := h.len
  have hv := clockNum_lt l
  have hres : isClock l = if l = clockL (clockNum l) then (clockNum l, true) else (0, false) := by
    unfold isClock
    simp [hl]
  have hcut := h.cut (a := 1) (m := 8) (by omega)
  have hnum : Calls Try.prog 70 #[.slice (some ⟨b, off + 1, none⟩) 8 (c - 1)] w fun e w' => e = .returned (.int .u64 (clockNum l)) ∧ w = w' := ref2_Number _ 8 _ _ w hcut (by omega)
  rw [hres]
  have hcl := fun w => ref4_Clock (clockNum l) w hv
  generalize clockNum l = v at *
  generalize clockL v = k at *
  have hca : ¬ c = 1 := by omega
  have hs0 := run_str (P := Try.prog) Try.underlying30 Try.underlying5 Try.underlying9 (h.only0 (Only.refl [] w).drew) c
  have HX := Lib.hid h
  have HN := Lib.hid hnum
  have HC := Lib.hid hcl
  clear h hnum hcl hcut hres hl
  have core : ∀ t : Bool, (k == l) = t → Calls Try.prog 33 #[.slice (some ⟨b, off, none⟩) 64 c] w fun e w' => e = .returned (.tuple #[.int .u64 (if t = true then (v : Int) else 0), .bool t]) ∧ Only [] w w' := by
    intro t ht
    cases t
    all_goals
      go_enter Try.func33, Try.ntmps33
      go_wp2_with fail
      refine (HN.out).mono ?_
      rintro e w' ⟨rfl, rfl⟩
      go_wp2
      go_region_with (first
        | (go_at_call 48; refine (HC.out _).mono ?_; rintro e w1 ⟨A1, c1, rfl, m1, o1⟩; have h1 := run_str (P := Try.prog) Try.underlying30 Try.underlying5 Try.underlying9 (bs_own m1) c1; have h2 := run_str (P := Try.prog) Try.underlying30 Try.underlying5 Try.underlying9 (HX.out.only0 ((Only.refl [] w).drew.trans0 o1)) c))
      all_goals
        have O1 := Lib.hid ((Only.refl [] w).drew.trans0 ‹Only [] w.drew _›)
        clear ‹Only [] w.drew _›
        go_wp2
        go_ret2
        exact ⟨rfl, O1.out⟩
  by_cases hlk : l = k
  · rw [if_pos hlk]
    exact core true (by rw [beq_iff_eq]; exact hlk.symm)
  · rw [if_neg hlk]
    exact core false (by rw [beq_eq_false_iff_ne]; exact fun e => hlk e.symm)
end Go.Proofs.Ytfafpggppbolkaa
