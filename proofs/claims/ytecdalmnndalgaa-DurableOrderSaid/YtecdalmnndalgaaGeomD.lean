/- The contracts of geom.IsClock, geom.IsSuper. -/
import Derived.Test.YtecdalmnndalgaaGeomC
namespace Go.Proofs.Ytecdalmnndalgaa
open Go.RowKit Go.Proofs.FuMem Go.Proofs.FuCode Go.Proofs.FuCrc Go.Proofs.FuGeom
set_option maxRecDepth 100000

theorem neq_row (l k : List UInt8) (hl : l.length = 64) (hk : k.length = 64) (w : World) : (binOp .neq 97 (arrV l) (arrV k)).run Try.prog w = .ok (.bool (l != k)) w := by
  obtain ⟨i0, hi, hz0, hz1, hz2⟩ := info_parts Try.byteInfo
  exact run_neq_arr Try.underlying97 Try.underlying5 i0 hi hz1 l k hl hk w
theorem geom_IsClock_no (A : Option Addr) (n c : Nat) (w : World) (hn : n ≤ maxLen) (h64 : n ≠ 64) :
    Calls Try.prog 24 #[.slice A n c] w fun e w' => e = .returned (.tuple #[.int .u64 0, .bool false]) ∧ Only [] w w' := by
  have hL : (Try.prog.info? 97).map (·.size) = some (zer 64).length := by rw [zer_length]; exact rowSize
  have HL := Lib.hid hL
  have HW := Lib.hid (geom_whole_no A n c w hn h64)
  clear hL h64
  go_enter Try.func24, Try.ntmps24
  go_wp2_with fail
  refine (HW.out).mono ?_
  rintro e w1 ⟨rfl, o1⟩
  have h1 := o1.size
  go_wp2_with (first
    | ((with_reducible show wpList _ _ _ (Oper.mk (some 4) _ _ _ _ _ :: _) _ _); refine wpList_alloc_arr rfl 97 rfl _ rowZero ?_; intro w2 hb2 ho2 hs2)
    | ((with_reducible show wpList _ _ _ (Oper.mk none _ _ _ _ _ :: _) _ _); refine wpList_store_arr rfl 97 (.tmp 4) (.tmp 11) rfl w1.heap.size (zer 64) rfl rfl _ (zer 64) hb2 rfl HL.out ?_; intro w6 hb6 ho6 hs6))
  go_ret2
  exact ⟨rfl, (o1.trans0 ho2).trans ho6 (by simpa using h1)⟩
set_option maxHeartbeats 400000 in
theorem geom_IsClock_yes (b off c : Nat) (l : List UInt8) (w : World) (h : Bs w (some ⟨b, off, none⟩) 64 l) :
    Calls Try.prog 24 #[.slice (some ⟨b, off, none⟩) 64 c] w fun e w' => e = .returned (.tuple #[.int .u64 (isClock l).1, .bool (isClock l).2]) ∧ Only [] w w' := by
  have hl := h.len
  have hv := clockNum_lt l
  have hL : (Try.prog.info? 97).map (·.size) = some l.length := by rw [hl]; exact rowSize
  have hZ : (zer 64).length = l.length := by rw [hl]; simp [zer]
  have HW := Lib.hid (geom_whole_yes b off c l w h)
  have hget : ∀ w', Bs w' (some ⟨b, off, none⟩) 64 l → Calls Try.prog 45 #[.slice (some ⟨b, off, none⟩) 64 c, .int .i64 1, .int .i64 8] w' fun e w'' => e = .returned (.tuple #[.int .u64 (clockNum l), .int .i64 0]) ∧ w' = w'' := fun w' hb => by
    have := code_Get (some ⟨b, off, none⟩) 64 c l 1 8 w' hb (by omega) (by omega) (by omega)
    unfold cget at this
    rw [hl, show wrong 64 1 8 = 0 by decide, if_neg (by omega)] at this
    exact this
  have hk := clockL_length (clockNum l)
  have hcl := fun w => geom_clock (clockNum l) w hv
  have hres : isClock l = if l = clockL (clockNum l) then (clockNum l, true) else (0, false) := by
    unfold isClock
    simp [hl]
  rw [hres]
  generalize clockNum l = v at *
  generalize clockL v = k at *
  have hq := neq_row l k hl hk
  have hg := fun (x y : Operand) (w : World) => eqGuard_arr (P := Try.prog) rowGuard .neq x y l k w
  have HL := Lib.hid hL
  have HZ := Lib.hid hZ
  have HX := Lib.hid h
  have HG := Lib.hid hget
  have HC := Lib.hid hcl
  have HQ := Lib.hid hq
  have HE := Lib.hid hg
  have HLL := Lib.hid hl
  clear hL hZ h hget hcl hq hg hl hk hres
  have core : ∀ t : Bool, (∀ w, (binOp .neq 97 (arrV l) (arrV k)).run Try.prog w = .ok (.bool t) w) →
      Calls Try.prog 24 #[.slice (some ⟨b, off, none⟩) 64 c] w fun e w' => e = .returned (.tuple #[.int .u64 (if t = true then 0 else (v : Int)), .bool (!t)]) ∧ Only [] w w' := by
    intro t hq
    have HQT := Lib.hid hq
    clear hq
    cases t
    all_goals
      go_enter Try.func24, Try.ntmps24
      go_wp2_with fail
      refine (HW.out).mono ?_
      rintro e w1 ⟨rfl, o1⟩
      have h1 := o1.size
      go_wp2_with (first
        | ((with_reducible show wpList _ _ _ (Oper.mk (some 4) _ _ _ _ _ :: _) _ _); refine wpList_alloc_arr rfl 97 rfl _ rowZero ?_; intro w2 hb2 ho2 hs2)
        | ((with_reducible show wpList _ _ _ (Oper.mk none _ _ _ _ _ :: _) _ _); refine wpList_store_arr rfl 97 (.tmp 4) (.tmp 11) rfl w1.heap.size l rfl rfl _ (zer 64) hb2 HZ.out HL.out ?_; intro w3 hb3 ho3 hs3))
      have on3 : Only [] w w3 := (o1.trans0 ho2).trans ho3 (by simpa using h1)
      have hB3 := hb3.bs
      have hx3 := HX.out.only0 on3
      have HX3 := Lib.hid hx3
      have HN3 := Lib.hid on3
      have HB3 := Lib.hid hB3
      clear on3 hB3 hx3 hb3 ho3 ho2 hb2 o1
      refine (HG.out _ HX3.out).mono ?_
      rintro e w' ⟨rfl, rfl⟩
      go_wp2
      have hqt := HQT.out
      have hge := HE.out
      refine wp_region_later w3 (by kernel_rfl) (by kernel_rfl) ?_
      refine later_load rfl 97 (.tmp 4) rfl w1.heap.size 0 rfl l HB3.out 64 5 Try.underlying97 HL.out ?_
      repeat (quiet_step (fail))
      quiet_step (exact Calls.later (HC.out _))
      repeat (quiet_step (fail))
      refine wpQuiet_nil ?_
      intro _ hw'
      obtain ⟨p, hw''⟩ := hw'
      subst hw''
      clear hqt hge
      have HP := Lib.hid (HN3.out.trans0 p.only)
      go_wp2
      go_ret2
      exact ⟨rfl, HP.out⟩
  by_cases hlk : l = k
  · have := core false (fun w => by rw [HQ.out w]; simp [hlk])
    rw [if_pos hlk]
    exact this
  · have := core true (fun w => by rw [HQ.out w]; simp [hlk])
    rw [if_neg hlk]
    exact this

end Go.Proofs.Ytecdalmnndalgaa
