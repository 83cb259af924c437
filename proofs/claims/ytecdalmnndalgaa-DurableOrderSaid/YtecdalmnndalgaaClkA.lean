/- Counters without a sign that are read and set atomically; a new clock; what a clock tells. -/
import Derived.Test.YtecdalmnndalgaaProg
import Derived.Test.YtecdalmnndalgaaClkP
import Derived.WalkSpells
import Derived.WalkLawsBesides
import Derived.Laws.LoneSync
import Derived.Lib.SliceRun
import Derived.Lib.Hide
namespace Go.Proofs.Ytecdalmnndalgaa
open Go.RowKit Go.Proofs.FuMem Go.Proofs.FuClk
set_option maxRecDepth 100000

theorem uint64_Load (g k : Nat) (x : Int) (w : World) (hc : w.cell? ⟨g, k, none⟩ = some (.int .u64 x)) :
    Calls Try.prog 38 #[.pointer (some ⟨g, k, none⟩)] w fun e w' => e = .returned (.int .u64 x) ∧ w = w' := by
  have hl := run_call_load (P := Try.prog) Try.func61 (by kernel_rfl) (by kernel_rfl) (by kernel_rfl) .u64 (by kernel_rfl) hc
  go_enter Try.func38, Try.ntmps38
  go_wp2
  go_ret
  exact ⟨rfl, rfl⟩
theorem uint64_Store (g k : Nat) (u : Value) (x : Int) (w : World) (hc : w.cell? ⟨g, k, none⟩ = some u) (hf : w.frozen? ⟨g, k, none⟩ = false) :
    Calls Try.prog 37 #[.pointer (some ⟨g, k, none⟩), .int .u64 x] w fun e w' => e = .returned (.tuple #[]) ∧ w.setCell ⟨g, k, none⟩ (.int .u64 x) = w' := by
  have hs := run_call_store (P := Try.prog) Try.func60 (by kernel_rfl) (by kernel_rfl) (by kernel_rfl) (by kernel_rfl) (k := .u64) (y := x) hc hf
  go_enter Try.func37, Try.ntmps37
  go_wp2
  go_end0
  exact ⟨rfl, rfl⟩
theorem uint64_Cas_hit (g k : Nat) (x y : Int) (w : World) (hc : w.cell? ⟨g, k, none⟩ = some (.int .u64 x)) (hf : w.frozen? ⟨g, k, none⟩ = false) :
    Calls Try.prog 39 #[.pointer (some ⟨g, k, none⟩), .int .u64 x, .int .u64 y] w fun e w' => e = .returned (.bool true) ∧ w.setCell ⟨g, k, none⟩ (.int .u64 y) = w' := by
  have hs := run_call_cas_hit (P := Try.prog) Try.func62 (by kernel_rfl) (by kernel_rfl) (by kernel_rfl) .u64 (by kernel_rfl) (y := y) hc hf
  go_enter Try.func39, Try.ntmps39
  go_wp2
  go_ret
  exact ⟨rfl, rfl⟩
theorem uint64_Cas_miss (g k : Nat) (x o y : Int) (w : World) (hc : w.cell? ⟨g, k, none⟩ = some (.int .u64 x)) (hf : w.frozen? ⟨g, k, none⟩ = false) (hne : ¬ x = o) :
    Calls Try.prog 39 #[.pointer (some ⟨g, k, none⟩), .int .u64 o, .int .u64 y] w fun e w' => e = .returned (.bool false) ∧ w = w' := by
  have hs := run_call_cas_miss (P := Try.prog) Try.func62 (by kernel_rfl) (by kernel_rfl) (by kernel_rfl) .u64 (by kernel_rfl) (y := y) hc hf hne
  go_enter Try.func39, Try.ntmps39
  go_wp2
  go_ret
  exact ⟨rfl, rfl⟩

/-- the clock, as this program has it -/
abbrev ClkAt (w : World) (g ob : Nat) (C : Clk) : Prop := IsClk 79 3 40 65 75 79 w g ob C
theorem clk_New_few (n d : Int) (w : World) (h : n < 1 ∨ 4 < n) :
    Calls Try.prog 9 #[.int .i64 n, .int .u64 d] w fun e w' => e = .returned (.tuple #[.pointer none, .int .i64 2]) ∧ w = w' := by
  by_cases h1 : n < 1
  · have q1 : decide (n < 1) = true := by simpa using h1
    clear h
    go_enter Try.func9, Try.ntmps9
    go_wp2
    go_ret2
    exact ⟨rfl, rfl⟩
  · have q1 : decide (n < 1) = false := by simpa using h1
    have h2 : 4 < n := by omega
    have q2 : decide (4 < n) = true := by simpa using h2
    clear h
    go_enter Try.func9, Try.ntmps9
    go_wp2
    go_ret2
    exact ⟨rfl, rfl⟩
theorem clk_New_end (n d : Int) (w : World) (h : ¬ (n < 1 ∨ 4 < n)) (hd : 1152921504606846976 < d) :
    Calls Try.prog 9 #[.int .i64 n, .int .u64 d] w fun e w' => e = .returned (.tuple #[.pointer none, .int .i64 10]) ∧ w = w' := by
  have h1 : ¬ n < 1 := by omega
  have h2 : ¬ 4 < n := by omega
  have q1 : decide (n < 1) = false := by simpa using h1
  have q2 : decide (4 < n) = false := by simpa using h2
  have q3 : decide (1152921504606846976 < d) = true := by simpa using hd
  clear h
  go_enter Try.func9, Try.ntmps9
  go_wp2
  go_ret2
  exact ⟨rfl, rfl⟩
theorem clk_zero : Try.zeroCells79 = #[.int .u64 0, .int .u64 0, .int .u64 0, .slice none 0 0] ++ (Array.replicate 516 (.bool false)).push .nilFunc := by
  kernel_rfl
theorem zero_cells (ob n : Nat) (l : List Int) (hl : l.length = n) : Try.zeroCells79.setIfInBounds 3 (.slice (some ⟨ob, 0, none⟩) n n) = (cellsOf ob .nilFunc ⟨0, 0, 0, l, List.replicate 258 false, List.replicate 258 false⟩).toArray := by
  rw [clk_zero]
  apply Array.ext'
  subst hl
  simp [cellsOf, restOf, bools, Clk.closing]
theorem clk_New (n : Nat) (d : Int) (w : World) (h1 : 1 ≤ n) (h2 : n ≤ 4) (h3 : 0 ≤ d) (h4 : d ≤ 1152921504606846976) :
    Calls Try.prog 9 #[.int .i64 n, .int .u64 d] w fun e w' => ∃ g ob, e = .returned (.tuple #[.pointer (some ⟨g, 0, none⟩), .int .i64 0]) ∧ ClkAt w' g ob (newClk n d) ∧ Only [] w w' ∧ w.heap.size ≤ g ∧ w.heap.size ≤ ob := by
  obtain ⟨i0, hi, hz0, hz1, hz2⟩ := info_parts Try.intInfo
  obtain ⟨w1, hmk, hb1, ho1, hs1⟩ := make_blk (P := Try.prog) w 42 3 i0 _ Try.underlying42 hi hz0 hz1 rfl .i64 .i64 n n (by omega) (by rw [hz2]; omega) (by omega)
  obtain ⟨Z, hZ⟩ : ∃ Z : Array Value, Z = Try.zeroCells79.setIfInBounds 3 (.slice (some ⟨w.heap.size, 0, none⟩) n n) := ⟨_, rfl⟩
  have HZ := Lib.hid hZ
  rw [zero_cells w.heap.size n (List.replicate n 0) List.length_replicate] at hZ
  have q1 : decide ((n : Int) < 1) = false := by rw [decide_eq_false_iff_not]; omega
  have q2 : decide ((4 : Int) < (n : Int)) = false := by rw [decide_eq_false_iff_not]; omega
  have q3 : decide ((1152921504606846976 : Int) < d) = false := by rw [decide_eq_false_iff_not]; omega
  have hw : IntKind.u64.wrap (d + 1) = d + 1 := by rw [IntKind.wrap_u64]; omega
  have hBl := Blk.new w1 79 Z
  have on : Only [] w1 (w1.alloc (.cells Z 79)) := (Only.refl _ _).alloc _
  have hR := hb1.only on (by simp)
  rw [← List.toArray_replicate] at hR
  have HR : Hid (Blk (w1.alloc (.cells Z 79)) w.heap.size 3 ((List.replicate n (0 : Int)).map (Value.int .i64)).toArray) := Lib.hid (by rw [List.map_replicate]; exact hR)
  have HO := Lib.hid (ho1.trans0 on)
  have hs2 : w.heap.size < w1.heap.size := by omega
  rw [hZ] at hBl
  have hc1 := hBl.cell 1
  have hB2 := hBl.set 1 (.int .u64 d)
  have hB3 := hB2.set 0 (.int .u64 (d + 1))
  have hc0 := hB2.cell 0
  have hS1 := uint64_Store w1.heap.size 1 (.int .u64 0) d _ hc1 (hBl.frozen 1)
  have hS2 := uint64_Store w1.heap.size 0 (.int .u64 0) (d + 1) _ hc0 (hB2.frozen 0)
  have HS1 := Lib.hid hS1
  have HS2 := Lib.hid hS2
  have HB3 := Lib.hid hB3
  rw [← hZ] at HS1 HS2 HB3
  have HZ2 := Lib.hid hZ
  clear hS1 hS2 hB3 hB2 hBl hc1 hc0 hR ho1 hb1 hZ on hi hz0 hz1 hz2 hs1
  go_enter Try.func9, Try.ntmps9
  go_wp2_with fail
  rw [← HZ.out]
  have o4 : Only [w1.heap.size] (w1.alloc (.cells Z 79)) (((w1.alloc (.cells Z 79)).setCell ⟨w1.heap.size, 1, none⟩ (.int .u64 d)).setCell ⟨w1.heap.size, 0, none⟩ (.int .u64 (d + 1))) :=
    ((Only.refl _ _).setCell (.inl (by simp)) _).setCell (.inl (by simp)) _
  have O4 := Lib.hid o4
  clear o4
  generalize w1.alloc (.cells Z 79) = wa at *
  refine HS1.out.mono ?_
  rintro e w2 ⟨rfl, rfl⟩
  go_wp2_with fail
  refine HS2.out.mono ?_
  rintro e w3 ⟨rfl, rfl⟩
  go_wp2
  go_ret2
  have hO := HO.out
  have hR := HR.out
  have hB := HB3.out
  have o4 := O4.out
  refine ⟨w1.heap.size, w.heap.size, rfl, ⟨?_, ?_, by omega, newClk_ok h1 h2 h3 h4⟩, hO.trans o4 (by intro b hb; simp at hb; omega), by omega, Nat.le_refl _⟩
  · have e : (((cellsOf w.heap.size .nilFunc ⟨0, 0, 0, List.replicate n 0, List.replicate 258 false, List.replicate 258 false⟩).toArray.setIfInBounds 1 (.int .u64 d)).setIfInBounds 0 (.int .u64 (d + 1))) = (cellsOf w.heap.size .nilFunc (newClk n d)).toArray := by
      apply Array.ext'
      simp [cellsOf, newClk, restOf, Clk.closing]
    rw [HZ2.out, e] at hB
    exact hB
  · exact hR.only o4 (by simp; omega)
theorem clk_Now (g ob : Nat) (C : Clk) (w : World) (h : ClkAt w g ob C) :
    Calls Try.prog 11 #[.pointer (some ⟨g, 0, none⟩)] w fun e w' => e = .returned (.int .u64 C.now) ∧ w = w' := by
  have HL := Lib.hid (uint64_Load g 0 C.now w h.now)
  clear h
  go_enter Try.func11, Try.ntmps11
  go_wp2_with fail
  refine (HL.out).mono ?_
  rintro e w' ⟨rfl, rfl⟩
  go_wp2
  go_ret
  exact ⟨rfl, rfl⟩
theorem clk_Durable (g ob : Nat) (C : Clk) (w : World) (h : ClkAt w g ob C) :
    Calls Try.prog 12 #[.pointer (some ⟨g, 0, none⟩)] w fun e w' => e = .returned (.int .u64 C.durable) ∧ w = w' := by
  have HL := Lib.hid (uint64_Load g 1 C.durable w h.dur)
  clear h
  go_enter Try.func12, Try.ntmps12
  go_wp2_with fail
  refine (HL.out).mono ?_
  rintro e w' ⟨rfl, rfl⟩
  go_wp2
  go_ret
  exact ⟨rfl, rfl⟩
theorem clk_Closing (g ob : Nat) (C : Clk) (w : World) (h : ClkAt w g ob C) :
    Calls Try.prog 16 #[.pointer (some ⟨g, 0, none⟩)] w fun e w' => e = .returned (.tuple #[.int .u64 C.closing, .bool (C.closing != 0)]) ∧ w = w' := by
  have HL := Lib.hid (uint64_Load g 2 C.closing w h.clo)
  clear h
  generalize C.closing = x at *
  go_enter Try.func16, Try.ntmps16
  go_wp2_with fail
  refine (HL.out).mono ?_
  rintro e w' ⟨rfl, rfl⟩
  go_wp2
  go_ret2
  exact ⟨rfl, rfl⟩
end Go.Proofs.Ytecdalmnndalgaa
