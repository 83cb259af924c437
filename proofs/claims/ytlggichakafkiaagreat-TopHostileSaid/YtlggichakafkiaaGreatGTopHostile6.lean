/- The contracts of geom.IsClock, geom.IsSuper. -/
import Derived.Deep.RegionHeld3
import Derived.StillTailTactics
import Derived.Test.YtlggichakafkiaaGreatGTopHostile1
import Derived.Test.YtlggichakafkiaaGreatGTopHostile2
import Derived.Test.YtlggichakafkiaaGreatGTopHostile3
import Derived.Test.YtlggichakafkiaaGreatGTopHostile4
import Derived.Test.YtlggichakafkiaaGreatGTopHostile5
set_option linter.unusedSimpArgs false
set_option linter.unusedVariables false
namespace Go.Proofs.YtlggichakafkiaaGreat
open Go.RowKit Go.Proofs.FuMem Go.Proofs.FuCode Go.Proofs.FuCrc Go.Proofs.FuGeom
set_option maxRecDepth 100000
theorem neq_row (l k : List UInt8) (hl : l.length = 64) (hk : k.length = 64) (w : World) : (binOp .neq 236 (arrV l) (arrV k)).run Tryz.prog w = .ok (.bool (l != k)) w := by
 obtain ⟨i0, hi, hz0, hz1, hz2⟩ := info_parts Tryz.byteInfo
 exact run_neq_arr Tryz.underlying236 Tryz.underlying5 i0 hi hz1 l k hl hk w
theorem geom_IsClock_no (A : Option Addr) (n c : Nat) (w : World) (hn : n ≤ maxLen) (h64 : n ≠ 64) :
  Calls Tryz.prog 82 #[.slice A n c] w fun e w' => e = .returned (.tuple #[.int .u64 0, .bool false]) ∧ Only [] w w' := by
 have hL : (Tryz.prog.info? 236).map (·.size) = some (zer 64).length := by rw [zer_length]; exact rowSize
 have HL := hq9 hL
 have HW := hq9 (geom_whole_no A n c w hn h64)
 clear hL h64
 go_enter Tryz.func82, Tryz.ntmps82
 go_wp2_with fail
 refine (HW.out).mono ?_
 rintro e w1 ⟨rfl, o1⟩
 have h1 := o1.size
 go_wp2_with (first
  | ((with_reducible show wpList _ _ _ (Oper.mk (some 4) _ _ _ _ _ :: _) _ _); refine wpList_alloc_arr rfl 236 rfl _ rowZero ?_; intro w2 hb2 ho2 hs2)
  | ((with_reducible show wpList _ _ _ (Oper.mk none _ _ _ _ _ :: _) _ _); refine wpList_store_arr rfl 236 (.tmp 4) (.tmp 11) rfl w1.heap.size (zer 64) rfl rfl _ (zer 64) hb2 rfl HL.out ?_; intro w6 hb6 ho6 hs6))
 go_ret2
 exact ⟨rfl, (o1.trans0 ho2).trans ho6 (by simpa using h1)⟩
set_option maxHeartbeats 400000 in
theorem geom_IsClock_yes (b off c : Nat) (l : List UInt8) (w : World) (h : Bs w (some ⟨b, off, none⟩) 64 l) :
  Calls Tryz.prog 82 #[.slice (some ⟨b, off, none⟩) 64 c] w fun e w' => e = .returned (.tuple #[.int .u64 (isClock l).1, .bool (isClock l).2]) ∧ Only [] w w' := by
 have hl := h.len
 have hv := clockNum_lt l
 have hL : (Tryz.prog.info? 236).map (·.size) = some l.length := by rw [hl]; exact rowSize
 have hZ : (zer 64).length = l.length := by rw [hl]; simp [zer]
 have HW := hq9 (geom_whole_yes b off c l w h)
 have hget : ∀ w', Bs w' (some ⟨b, off, none⟩) 64 l → Calls Tryz.prog 123 #[.slice (some ⟨b, off, none⟩) 64 c, .int .i64 1, .int .i64 8] w' fun e w'' => e = .returned (.tuple #[.int .u64 (clockNum l), .int .i64 0]) ∧ w' = w'' := fun w' hb => by
  have := code_Get (some ⟨b, off, none⟩) 64 c l 1 8 w' hb (by omega) (by omega) (by omega)
  unfold cget at this
  rw [hl, show wrong 64 1 8 = 0 by decide, if_neg (by omega)] at this
  exact this
 have hk := clockL_length (clockNum l)
 have hcl := fun w => geom_clock (clockNum l) w hv
 have hres : isClock l = if l = clockL (clockNum l) then (clockNum l, true) else (0, false) := by
  unfold isClock
  simp [hl]
 rw [hres]
 generalize clockNum l = v at *
 generalize clockL v = k at *
 have hq := neq_row l k hl hk
 have hg := fun (x y : Operand) (w : World) => eqGuard_arr (P := Tryz.prog) rowGuard .neq x y l k w
 have HL := hq9 hL
 have HZ := hq9 hZ
 have HX := hq9 h
 have HG := hq9 hget
 have HC := hq9 hcl
 have HQ := hq9 hq
 have HE := hq9 hg
 have HLL := hq9 hl
 clear hL hZ h hget hcl hq hg hl hk hres
 have core : ∀ t : Bool, (∀ w, (binOp .neq 236 (arrV l) (arrV k)).run Tryz.prog w = .ok (.bool t) w) →
   Calls Tryz.prog 82 #[.slice (some ⟨b, off, none⟩) 64 c] w fun e w' => e = .returned (.tuple #[.int .u64 (if t = true then 0 else (v : Int)), .bool (!t)]) ∧ Only [] w w' := by
  intro t hq
  have HQT := hq9 hq
  clear hq
  cases t
  all_goals
   go_enter Tryz.func82, Tryz.ntmps82
   go_wp2_with fail
   refine (HW.out).mono ?_
   rintro e w1 ⟨rfl, o1⟩
   have h1 := o1.size
   go_wp2_with (first
    | ((with_reducible show wpList _ _ _ (Oper.mk (some 4) _ _ _ _ _ :: _) _ _); refine wpList_alloc_arr rfl 236 rfl _ rowZero ?_; intro w2 hb2 ho2 hs2)
    | ((with_reducible show wpList _ _ _ (Oper.mk none _ _ _ _ _ :: _) _ _); refine wpList_store_arr rfl 236 (.tmp 4) (.tmp 11) rfl w1.heap.size l rfl rfl _ (zer 64) hb2 HZ.out HL.out ?_; intro w3 hb3 ho3 hs3))
   have on3 : Only [] w w3 := (o1.trans0 ho2).trans ho3 (by simpa using h1)
   have hB3 := hb3.bs
   have hx3 := HX.out.only0 on3
   have HX3 := hq9 hx3
   have HN3 := hq9 on3
   have HB3 := hq9 hB3
   clear on3 hB3 hx3 hb3 ho3 ho2 hb2 o1
   refine (HG.out _ HX3.out).mono ?_
   rintro e w' ⟨rfl, rfl⟩
   go_wp2
   have hqt := HQT.out
   have hge := HE.out
   refine wp_region_later w3 (by kernel_rfl) (by kernel_rfl) ?_
   refine later_load rfl 236 (.tmp 4) rfl w1.heap.size 0 rfl l HB3.out 64 5 Tryz.underlying236 HL.out ?_
   repeat (quiet_step (fail))
   quiet_step (exact Calls.later (HC.out _))
   repeat (quiet_step (fail))
   refine wpQuiet_nil ?_
   intro _ hw'
   obtain ⟨p, hw''⟩ := hw'
   subst hw''
   clear hqt hge
   have HP := hq9 (HN3.out.trans0 p.only)
   go_wp2
   go_ret2
   exact ⟨rfl, HP.out⟩
 by_cases hlk : l = k
 ·have := core false (fun w => by rw [HQ.out w]; simp [hlk])
  rw [if_pos hlk]
  exact this
 ·have := core true (fun w => by rw [HQ.out w]; simp [hlk])
  rw [if_neg hlk]
  exact this
theorem geom_IsSuper_no (A : Option Addr) (n c : Nat) (w : World) (hn : n ≤ maxLen) (h64 : n ≠ 64) :
  Calls Tryz.prog 235 #[.slice A n c] w fun e w' => e = .returned (.tuple #[.int .i64 0, .bool false]) ∧ Only [] w w' := by
 have hL : (Tryz.prog.info? 236).map (·.size) = some (zer 64).length := by rw [zer_length]; exact rowSize
 have HL := hq9 hL
 have HW := hq9 (geom_whole_no A n c w hn h64)
 clear hL h64
 go_enter Tryz.func235, Tryz.ntmps235
 go_wp2_with fail
 refine (HW.out).mono ?_
 rintro e w1 ⟨rfl, o1⟩
 have h1 := o1.size
 go_wp2_with (first
  | ((with_reducible show wpList _ _ _ (Oper.mk (some 4) _ _ _ _ _ :: _) _ _); refine wpList_alloc_arr rfl 236 rfl _ rowZero ?_; intro w2 hb2 ho2 hs2)
  | ((with_reducible show wpList _ _ _ (Oper.mk none _ _ _ _ _ :: _) _ _); refine wpList_store_arr rfl 236 (.tmp 4) (.tmp 11) rfl w1.heap.size (zer 64) rfl rfl _ (zer 64) hb2 rfl HL.out ?_; intro w6 hb6 ho6 hs6))
 go_ret2
 exact ⟨rfl, (o1.trans0 ho2).trans ho6 (by simpa using h1)⟩
set_option maxHeartbeats 400000 in
theorem geom_IsSuper_yes (b off c : Nat) (l : List UInt8) (w : World) (h : Bs w (some ⟨b, off, none⟩) 64 l) :
  Calls Tryz.prog 235 #[.slice (some ⟨b, off, none⟩) 64 c] w fun e w' => e = .returned (.tuple #[.int .i64 (isSuper l).1, .bool (isSuper l).2]) ∧ Only [] w w' := by
 have hl := h.len
 have hv := superNum_lt l
 have hL : (Tryz.prog.info? 236).map (·.size) = some l.length := by rw [hl]; exact rowSize
 have hZ : (zer 64).length = l.length := by rw [hl]; simp [zer]
 have HW := hq9 (geom_whole_yes b off c l w h)
 have hget : ∀ w', Bs w' (some ⟨b, off, none⟩) 64 l → Calls Tryz.prog 123 #[.slice (some ⟨b, off, none⟩) 64 c, .int .i64 5, .int .i64 4] w' fun e w'' => e = .returned (.tuple #[.int .u64 (superNum l), .int .i64 0]) ∧ w' = w'' := fun w' hb => by
  have := code_Get (some ⟨b, off, none⟩) 64 c l 5 4 w' hb (by omega) (by omega) (by omega)
  unfold cget at this
  rw [hl, show wrong 64 5 4 = 0 by decide, if_neg (by omega)] at this
  exact this
 have hk := superL_length (superNum l)
 have hcl := fun w => geom_super (superNum l) w hv
 have hres : isSuper l = if 10 ≤ superNum l ∧ superNum l ≤ 258 ∧ l = superL (superNum l) then (superNum l, true) else (0, false) := by
  unfold isSuper
  simp [hl]
 rw [hres]
 generalize superNum l = v at *
 generalize superL v = k at *
 have hq := neq_row l k hl hk
 have hg := fun (x y : Operand) (w : World) => eqGuard_arr (P := Tryz.prog) rowGuard .neq x y l k w
 have HL := hq9 hL
 have HZ := hq9 hZ
 have HX := hq9 h
 have HG := hq9 hget
 have HC := hq9 hcl
 have HQ := hq9 hq
 have HE := hq9 hg
 have HLL := hq9 hl
 clear hL hZ h hget hcl hq hg hl hk hres
 by_cases hout : v < 10 ∨ 258 < v
 ·rw [if_neg (by omega)]
  by_cases hlo : v < 10
  all_goals
   try have hhi : 258 < v := by omega
   first | (have d1 : decide ((v : Int) < 10) = true := by simp; omega) | (have d1 : decide ((v : Int) < 10) = false := by simp; omega)
   try have d2 : decide ((258 : Int) < (v : Int)) = true := by simp; omega
   clear hout
   go_enter Tryz.func235, Tryz.ntmps235
   go_wp2_with fail
   refine (HW.out).mono ?_
   rintro e w1 ⟨rfl, o1⟩
   have h1 := o1.size
   go_wp2_with (first
    | ((with_reducible show wpList _ _ _ (Oper.mk (some 4) _ _ _ _ _ :: _) _ _); refine wpList_alloc_arr rfl 236 rfl _ rowZero ?_; intro w2 hb2 ho2 hs2)
    | ((with_reducible show wpList _ _ _ (Oper.mk none _ _ _ _ _ :: _) _ _); refine wpList_store_arr rfl 236 (.tmp 4) (.tmp 11) rfl w1.heap.size l rfl rfl _ (zer 64) hb2 HZ.out HL.out ?_; intro w3 hb3 ho3 hs3))
   have on3 : Only [] w w3 := (o1.trans0 ho2).trans ho3 (by simpa using h1)
   have hx3 := HX.out.only0 on3
   have HX3 := hq9 hx3
   have HN3 := hq9 on3
   clear on3 hx3 hb3 ho3 ho2 hb2 o1
   refine (HG.out _ HX3.out).mono ?_
   rintro e w' ⟨rfl, rfl⟩
   go_wp2
   go_quiet (fail)
   go_wp2
   go_ret2
   exact ⟨rfl, HN3.out.drewN _⟩
 ·have core : ∀ t : Bool, (∀ w, (binOp .neq 236 (arrV l) (arrV k)).run Tryz.prog w = .ok (.bool t) w) →
    Calls Tryz.prog 235 #[.slice (some ⟨b, off, none⟩) 64 c] w fun e w' => e = .returned (.tuple #[.int .i64 (if t = true then 0 else (v : Int)), .bool (!t)]) ∧ Only [] w w' := by
   intro t hq
   have HQT := hq9 hq
   have d1 : decide ((v : Int) < 10) = false := by simp; omega
   have d2 : decide ((258 : Int) < (v : Int)) = false := by simp; omega
   have hn1 : ¬ v < 10 := by omega
   have hn2 : ¬ 258 < v := by omega
   have hw : IntKind.i64.wrap (v : Int) = (v : Int) := by rw [IntKind.wrap_i64]; omega
   clear hq hout
   cases t
   all_goals
    go_enter Tryz.func235, Tryz.ntmps235
    go_wp2_with fail
    refine (HW.out).mono ?_
    rintro e w1 ⟨rfl, o1⟩
    have h1 := o1.size
    go_wp2_with (first
     | ((with_reducible show wpList _ _ _ (Oper.mk (some 4) _ _ _ _ _ :: _) _ _); refine wpList_alloc_arr rfl 236 rfl _ rowZero ?_; intro w2 hb2 ho2 hs2)
     | ((with_reducible show wpList _ _ _ (Oper.mk none _ _ _ _ _ :: _) _ _); refine wpList_store_arr rfl 236 (.tmp 4) (.tmp 11) rfl w1.heap.size l rfl rfl _ (zer 64) hb2 HZ.out HL.out ?_; intro w3 hb3 ho3 hs3))
    have on3 : Only [] w w3 := (o1.trans0 ho2).trans ho3 (by simpa using h1)
    have hB3 := hb3.bs
    have hx3 := HX.out.only0 on3
    have HX3 := hq9 hx3
    have HN3 := hq9 on3
    have HB3 := hq9 hB3
    clear on3 hB3 hx3 hb3 ho3 ho2 hb2 o1
    refine (HG.out _ HX3.out).mono ?_
    rintro e w' ⟨rfl, rfl⟩
    go_wp2
    have hqt := HQT.out
    have hge := HE.out
    refine wp_region_later w3 (by kernel_rfl) (by kernel_rfl) ?_
    iterate 7 (quiet_step (fail))
    refine later_load ?_ 236 (.tmp 4) rfl w1.heap.size 0 rfl l HB3.out 64 5 Tryz.underlying236 HL.out ?_
    ·rfl
    repeat (quiet_step (fail))
    quiet_step (exact Calls.later (HC.out _))
    repeat (quiet_step (fail))
    refine wpQuiet_nil ?_
    intro _ hw'
    obtain ⟨p, hw''⟩ := hw'
    subst hw''
    clear hqt hge
    have HP := hq9 (HN3.out.trans0 p.only)
    go_wp2
    go_ret2
    exact ⟨rfl, HP.out⟩
  by_cases hlk : l = k
  ·have := core false (fun w => by rw [HQ.out w]; simp [hlk])
   rw [if_pos ⟨by omega, by omega, hlk⟩]
   exact this
  ·have := core true (fun w => by rw [HQ.out w]; simp [hlk])
   rw [if_neg (fun h => hlk h.2.2)]
   exact this
end Go.Proofs.YtlggichakafkiaaGreat
namespace Go.Proofs.YtlggichakafkiaaGreat
open Go.RowKit Go.Proofs.FuCrc Go.Proofs.FuMem
set_option maxRecDepth 100000
end Go.Proofs.YtlggichakafkiaaGreat
namespace Go.Proofs.YtlggichakafkiaaGreat
open Go.RowKit Go.Proofs.FuMem Go.Proofs.FuCode Go.Proofs.FuCrc Go.Proofs.FuGeom
set_option maxRecDepth 100000
def slabsOf (n : Int) : Int := if n < 10 then 0 else if 258 < n then 32 else (n - 2) / 8
theorem slabsOf_mid {n : Int} (h1 : 10 ≤ n) (h2 : n ≤ 258) : slabsOf n = (n - 2) / 8 := by unfold slabsOf; rw [if_neg (by omega), if_neg (by omega)]
theorem slabsOf_hi {n : Int} (h1 : 258 ≤ n) : slabsOf n = 32 := by unfold slabsOf; split; omega; split <;> omega
theorem geom_Slabs (n : Int) (w : World) :
  Calls Tryz.prog 93 #[.int .i64 n] w fun e w' => e = .returned (.int .i64 (slabsOf n)) ∧ w = w' := by
 by_cases h1 : n < 10
 ·rw [show slabsOf n = 0 from if_pos h1]
  exact geom_Slabs_no n w h1
 ·by_cases h2 : n < 258
  ·rw [slabsOf_mid (by omega) (by omega)]
   have h3 : n ≤ 258 := by omega
   go_enter Tryz.func93, Tryz.ntmps93
   go_wp2
   go_ret
   exact ⟨ret_int (by omega), rfl⟩
  ·rw [slabsOf_hi (by omega)]
   have h3 : 258 ≤ n := by omega
   clear h2
   go_enter Tryz.func93, Tryz.ntmps93
   go_wp2
   all_goals
    go_ret
    exact ⟨ret_int (by omega), rfl⟩
end Go.Proofs.YtlggichakafkiaaGreat
namespace Go.Proofs.YtlggichakafkiaaGreat
open Go.RowKit Go.Proofs.FuMem Go.Proofs.FuCode Go.Proofs.FuCrc Go.Proofs.FuGeom
set_option maxRecDepth 100000
end Go.Proofs.YtlggichakafkiaaGreat
namespace Go.Proofs.YtlggichakafkiaaGreat
open Go.RowKit Go.Proofs.FuMem Go.Proofs.FuCode
set_option maxRecDepth 100000
end Go.Proofs.YtlggichakafkiaaGreat
namespace Go.Proofs.YtlggichakafkiaaGreat
open Go.RowKit Go.Proofs.FuMem Go.Proofs.FuCode Go.Proofs.FuCrc Go.Proofs.FuGeom Go.Proofs.FuClass
set_option maxRecDepth 100000
theorem geom_IsClock {A : Option Addr} {n c : Nat} {l : List UInt8} {w : World} (h : Bs w A n l) (hn : n ≤ maxLen) :
  Calls Tryz.prog 82 #[.slice A n c] w fun e w' => e = .returned (.tuple #[.int .u64 (isClock l).1, .bool (isClock l).2]) ∧ Only [] w w' := by
 by_cases h64 : n = 64
 ·subst h64
  obtain ⟨b, off, rfl, _⟩ := h.at_ (by omega)
  exact geom_IsClock_yes b off c l w h
 ·rw [isClock_short (by rw [h.len]; exact h64)]
  exact geom_IsClock_no A n c w hn h64
theorem geom_IsSuper {A : Option Addr} {n c : Nat} {l : List UInt8} {w : World} (h : Bs w A n l) (hn : n ≤ maxLen) :
  Calls Tryz.prog 235 #[.slice A n c] w fun e w' => e = .returned (.tuple #[.int .i64 (isSuper l).1, .bool (isSuper l).2]) ∧ Only [] w w' := by
 by_cases h64 : n = 64
 ·subst h64
  obtain ⟨b, off, rfl, _⟩ := h.at_ (by omega)
  exact geom_IsSuper_yes b off c l w h
 ·rw [isSuper_short (by rw [h.len]; exact h64)]
  exact geom_IsSuper_no A n c w hn h64
end Go.Proofs.YtlggichakafkiaaGreat
namespace Go.Proofs.YtlggichakafkiaaGreat
open Go.RowKit Go.Proofs.FuMem Go.Proofs.FuClk Go.Proofs.FuNvm Go.Proofs.FuGeom
set_option maxRecDepth 100000
end Go.Proofs.YtlggichakafkiaaGreat
namespace Go.Proofs.FuClk
open Go.RowKit Go.Proofs.FuMem
end Go.Proofs.FuClk
namespace Go.Proofs.YtlggichakafkiaaGreat
open Go.ChangeShapes Go.WideShapes Go.ChangeAt Go.RowKit Go.Proofs.FuMem Go.Proofs.FuClk Go.Deep
set_option maxRecDepth 100000
end Go.Proofs.YtlggichakafkiaaGreat
set_option maxRecDepth 100000
namespace Go.Proofs.YtlggichakafkiaaGreat
open Go.RowKit Go.Proofs.FuMem Go.Proofs.FuNvm Go.Proofs.FuCode
end Go.Proofs.YtlggichakafkiaaGreat
set_option maxRecDepth 100000
namespace Go.Proofs.YtlggichakafkiaaGreat
open Go.RowKit Go.Proofs.FuMem Go.Proofs.FuNvm Go.Proofs.FuCode
theorem drawn_only {w wd : World} (h : ({ w with drawn := w.drawn + 1 } : World) = wd) : Only [] w wd := by subst h; exact (Only.refl _ _).drew
abbrev countsV (D : Dev) : Value := .agg #[.int .i64 D.stores, .int .i64 D.flushes, .int .i64 D.fences, .int .i64 D.backs, .int .i64 D.cuts]
set_option maxHeartbeats 1000000 in
theorem nvm_Counts (g cb cap : Nat) (D : Dev) (w : World) (hd : DevAt w g cb cap D) :
  Calls Tryz.prog 78 #[.pointer (some ⟨g, 0, none⟩)] w fun e w' => e = .returned (countsV D) ∧ Only [] w w' := by
 have o1 : Only [] w (w.alloc (.cells #[.int .i64 0, .int .i64 0, .int .i64 0, .int .i64 0, .int .i64 0] 169)) := (Only.refl _ _).alloc _
 have hb1 := Blk.new w 169 #[.int .i64 0, .int .i64 0, .int .i64 0, .int .i64 0, .int .i64 0]
 have HD := hq9 (hd.only0 o1)
 have O1 := hq9 o1
 have HB := hq9 hb1
 clear o1 hb1 hd
 obtain ⟨L, s1, s2, s3, s4, s5⟩ := D
 go_enter Tryz.func78, Tryz.ntmps78
 go_wp2_with fail
 generalize w.alloc (.cells #[.int .i64 0, .int .i64 0, .int .i64 0, .int .i64 0, .int .i64 0] 169) = w1 at *
 refine wp_region_still_tail 21 (by kernel_rfl) (by kernel_rfl) ?_
 simp only [List.take_succ_cons, List.take_zero, List.drop_succ_cons, List.drop_zero]
 generalize hwd : ({ w1 with drawn := w1.drawn + 1 } : World) = wd
 have OD := hq9 (drawn_only hwd)
 clear hwd
 have hdd := HD.out.only0 OD.out
 have c1 : wd.cell? ⟨g, 1, none⟩ = some (.int .i64 s1) := hdd.cell 1
 have c2 : wd.cell? ⟨g, 2, none⟩ = some (.int .i64 s2) := hdd.cell 2
 have c3 : wd.cell? ⟨g, 3, none⟩ = some (.int .i64 s3) := hdd.cell 3
 have c4 : wd.cell? ⟨g, 4, none⟩ = some (.int .i64 s4) := hdd.cell 4
 have c5 : wd.cell? ⟨g, 5, none⟩ = some (.int .i64 s5) := hdd.cell 5
 have hbd : Blk wd w.heap.size 169 #[.int .i64 0, .int .i64 0, .int .i64 0, .int .i64 0, .int .i64 0] := HB.out.only OD.out (by simp)
 clear hdd
 repeat still_step
 still_call (Calls.flip (int64_Load g 1 s1 wd c1))
 repeat still_step
 still_call (Calls.flip (int64_Load g 2 s2 wd c2))
 repeat still_step
 still_call (Calls.flip (int64_Load g 3 s3 wd c3))
 repeat still_step
 still_call (Calls.flip (int64_Load g 4 s4 wd c4))
 repeat still_step
 still_call (Calls.flip (int64_Load g 5 s5 wd c5))
 repeat still_step
 refine wpStill_nil ?_
 refine wpList_store_blk rfl 169 (.tmp 2) (.tmp 30) rfl w.heap.size 0 #[.int .i64 s1, .int .i64 s2, .int .i64 s3, .int .i64 s4, .int .i64 s5] rfl rfl 169 _ hbd (by simp) (by kernel_rfl) (by kernel_rfl) ?_
 intro w2 hb2 ho2 hs2
 have hb2' : Blk w2 w.heap.size 169 #[.int .i64 s1, .int .i64 s2, .int .i64 s3, .int .i64 s4, .int .i64 s5] := hb2
 go_wp2
 refine bodyPost_ret (results_cell_row rfl _ _ w.heap.size 169 _ _ _ rfl hb2' Tryz.underlying169 rfl (by kernel_rfl)) rfl ⟨rfl, (O1.out.trans0 OD.out).trans ho2 (by simp)⟩
theorem countsZero : (Tryz.prog.info? 169).map (·.zero) = some (some (.agg #[.int .i64 0, .int .i64 0, .int .i64 0, .int .i64 0, .int .i64 0])) := by kernel_rfl
theorem clone_cells (g cb cap : Nat) (D : Dev) (w : World) (hd : DevAt w g cb cap D) :
  Calls Tryz.prog 116 #[.slice (some ⟨cb, 0, none⟩) D.lines.length cap] w fun e w' => ∃ cb2 cap2, e = .returned (.slice (some ⟨cb2, 0, none⟩) D.lines.length cap2) ∧ w.heap.size ≤ cb2 ∧ D.lines.length ≤ cap2 ∧
   (∃ cs, Blk w' cb2 157 cs ∧ cs.toList.take (D.lines.length * 193) = flat D.lines) ∧ Only [] w w' := by
 obtain ⟨ci, cz, hi, hz, hs, hc, hby⟩ := cellZero
 have hf := hd.few
 have on0 : Only [] w (w.alloc (.cells #[] 157)) := (Only.refl _ _).alloc _
 have hown : (w.alloc (.cells #[] 157)).ownsRow w.heap.size 157 193 (.slice (some ⟨w.heap.size, 0, none⟩) 0 0) 0 [] :=
  ⟨rfl, .inr ⟨_, 0, #[], rfl, Nat.le_refl _, heap_alloc_new w _, Nat.le_refl _, Nat.zero_le _, rfl, rfl⟩⟩
 have hd0 := hd.only0 on0
 have hnews : ∀ j u, (flat D.lines)[j]? = some u → (w.alloc (.cells #[] 157)).cell? ((⟨cb, 0, none⟩ : Addr).add j) = some u := fun j u hu => by
  obtain ⟨cs, hb, hp⟩ := hd0.body
  rw [Addr.add_lit, hb.cell, Nat.zero_add]
  rw [← hp] at hu
  have hj := (List.getElem?_eq_some_iff.1 hu).1
  rw [List.length_take] at hj
  rw [List.getElem?_take_of_lt (by omega)] at hu
  rw [← Array.getElem?_toList]
  exact hu
 obtain ⟨v, w', hr, ho, hg, hnil, hblk⟩ := run_append_own_at (P := Tryz.prog) (w.alloc (.cells #[] 157)) w.heap.size 143 143 157 ci cz 193 193 Tryz.underlying143 hi hz hs hby (by rw [hc]; rfl) (by omega) _ 0 [] hown ⟨cb, 0, none⟩ D.lines.length cap (flat D.lines) (flat_length hd.ok) hnews (by
  intro u hu
  unfold flat at hu
  obtain ⟨x, hx, hu⟩ := List.mem_flatMap.1 hu
  exact cellsOf_one x u hu) (by unfold maxLen; omega) (by omega) (by simp)
 rw [Nat.zero_add, List.nil_append] at ho
 have hon : Only [] w w' := on0.trans (Only.of_grown hg (S := [w.heap.size]) (fun k hk => by simp [Value.ownBlock] at hk; subst hk; exact .inl (by simp))) (by simp)
 rcases ho.2 with ⟨e1, _⟩ | ⟨g2, cap2, cur, rfl, hbg, hg2, hnc, hcm, hcs, htake⟩
 ·have := hnil.1 e1
  simp at this
 ·have he := Lib.run_eql_slice_nil (P := Tryz.prog) w 143 157 (some ⟨cb, 0, none⟩) D.lines.length cap 0 0 Tryz.underlying143
  have H1 := hq9 (show Blk w' g2 157 cur from hg2)
  have H2 := hq9 htake
  have H3 := hq9 hon
  clear hd hd0 hnews on0 hown hi hz hs hc hby ho hg hnil hblk hg2 hcs htake hon
  generalize D.lines.length = m at *
  go_enter Tryz.func116, Tryz.ntmps116
  go_wp2_with (at_builtin; refine wpList_append_run _ rfl (.tmp 5) (.tmp 6) 143 rfl _ _ rfl rfl _ _ hr ?_)
  go_ret
  exact ⟨g2, cap2, rfl, hbg, hnc, ⟨cur, H1.out, H2.out⟩, H3.out⟩
set_option maxHeartbeats 2000000 in
theorem nvm_Copy (g cb cap : Nat) (D : Dev) (w : World) (hd : DevAt w g cb cap D) :
  Calls Tryz.prog 67 #[.pointer (some ⟨g, 0, none⟩)] w fun e w' => ∃ g2 cb2 cap2, e = .returned (.pointer (some ⟨g2, 0, none⟩)) ∧ DevAt w' g2 cb2 cap2 D ∧ Only [] w w' ∧ w.heap.size ≤ g2 ∧ w.heap.size ≤ cb2 := by
 have hc : w.cell? ⟨g, 0, none⟩ = some (.slice (some ⟨cb, 0, none⟩) D.lines.length cap) := hd.cell 0
 have HCL := hq9 (clone_cells g cb cap D w hd)
 have HF := hq9 hd.few
 have HOK := hq9 hd.ok
 have HD := hq9 hd
 clear hd
 obtain ⟨m, hm⟩ : ∃ m, m = D.lines.length := ⟨_, rfl⟩
 rw [← hm] at hc HCL HF
 have HM := hq9 hm
 clear hm
 go_enter Tryz.func67, Tryz.ntmps67
 go_wp2_with fail
 refine HCL.out.mono ?_
 rintro e w1 ⟨cb2, cap2, rfl, f1, f2, hbody, o1⟩
 have HB := hq9 hbody
 have O1 := hq9 o1
 have hs1 := o1.size
 clear hbody o1
 go_wp2_with fail
 have o2 : Only [] w1 (w1.alloc (.cells #[.slice (some ⟨cb2, 0, none⟩) m cap2, .int .i64 0, .int .i64 0, .int .i64 0, .int .i64 0, .int .i64 0] 152)) := (Only.refl _ _).alloc _
 have hb2 := Blk.new w1 152 #[.slice (some ⟨cb2, 0, none⟩) m cap2, .int .i64 0, .int .i64 0, .int .i64 0, .int .i64 0, .int .i64 0]
 have HX := hq9 (nvm_Counts g cb cap D _ (HD.out.only0 (O1.out.trans0 o2)))
 have O2 := hq9 o2
 have HB2 := hq9 hb2
 clear o2 hb2
 generalize w1.alloc (.cells #[.slice (some ⟨cb2, 0, none⟩) m cap2, .int .i64 0, .int .i64 0, .int .i64 0, .int .i64 0, .int .i64 0] 152) = w2 at *
 refine HX.out.mono ?_
 rintro e w3 ⟨rfl, o3⟩
 obtain ⟨L, s1, s2, s3, s4, s5⟩ := D
 have HC0 := hq9 (HB2.out.only o3 (by simp))
 have O3 := hq9 (((O1.out.trans0 O2.out).trans0 o3))
 have OB := hq9 (O2.out.trans0 o3)
 have hlt := HC0.out.lt
 clear o3
 go_wp2_with (first
  | ((with_reducible show wpList _ _ _ (Oper.mk (some 4) _ _ _ _ _ :: _) _ _); refine wpList_alloc_blk rfl 169 rfl _ countsZero ?_; intro w4 hb4 ho4 hs4; have hb4' : Blk w4 w3.heap.size 169 #[.int .i64 0, .int .i64 0, .int .i64 0, .int .i64 0, .int .i64 0] := hb4; clear hb4)
  | ((with_reducible show wpList _ _ _ (Oper.mk none _ _ _ _ _ :: _) _ _); refine wpList_store_blk rfl 169 (.tmp 4) (.tmp 15) rfl w3.heap.size 0 #[.int .i64 s1, .int .i64 s2, .int .i64 s3, .int .i64 s4, .int .i64 s5] rfl rfl 169 _ hb4' (by simp) (by kernel_rfl) (by kernel_rfl) ?_; intro w5 hb5 ho5 hs5))
 have HN := hq9 (show Blk w5 w3.heap.size 169 #[.int .i64 s1, .int .i64 s2, .int .i64 s3, .int .i64 s4, .int .i64 s5] from hb5)
 have hne : w1.heap.size ≠ w3.heap.size := by omega
 have OA := hq9 (ho4.trans ho5 (by simp))
 have HC := hq9 (HC0.out.only OA.out (by simp))
 have ON := hq9 ((O3.out.trans0 OA.out))
 have OC := hq9 (OB.out.trans0 OA.out)
 clear hb4' ho4 hs4 hb5 ho5 hs5 HC0 OA
 go_wp2_with fail
 refine wp_region_still_tail 6 (by kernel_rfl) (by kernel_rfl) ?_
 simp only [List.take_succ_cons, List.take_zero, List.drop_succ_cons, List.drop_zero]
 generalize hwd : ({ w5 with drawn := w5.drawn + 1 } : World) = wd1
 have OD := hq9 (drawn_only hwd)
 clear hwd
 have cn : wd1.cell? ⟨w3.heap.size, 0, none⟩ = some (.int .i64 s1) := (HN.out.only OD.out (by simp)).cell 0
 have hcd := HC.out.only OD.out (by simp)
 have cc : wd1.cell? ⟨w1.heap.size, 1, none⟩ = some (.int .i64 0) := hcd.cell 1
 have cf := hcd.frozen 1
 have HC2 := hq9 (show Blk (wd1.setCell ⟨w1.heap.size, 1, none⟩ (.int .i64 s1)) w1.heap.size 152 #[.slice (some ⟨cb2, 0, none⟩) m cap2, .int .i64 s1, .int .i64 0, .int .i64 0, .int .i64 0, .int .i64 0] from hcd.set 1 (.int .i64 s1))
 have o8 : Only [w1.heap.size] wd1 (wd1.setCell ⟨w1.heap.size, 1, none⟩ (.int .i64 s1)) := (Only.refl _ _).setCell (.inl (by simp)) _
 have ON2 := hq9 ((ON.out.trans0 OD.out).trans o8 (by intro b hb; simp at hb; omega))
 have OC2 := hq9 ((OC.out.trans0 OD.out).trans o8 (by intro b hb; simp at hb; omega))
 have HN2 := hq9 ((HN.out.only OD.out (by simp)).only o8 (by simp; omega))
 clear hcd o8 HC HN ON OC OD
 have HC := HC2
 have HN := HN2
 have ON := ON2
 have OC := OC2
 clear HC2 HN2 ON2 OC2
 repeat still_step
 refine wpStill_nil ?_
 go_wp2_with fail
 refine (int64_Store w1.heap.size 1 _ s1 wd1 cc cf).mono ?_
 rintro e w7 ⟨rfl, he1⟩
 rw [he1] at HC HN ON OC
 clear cc cf cn he1
 go_wp2_with fail
 refine wp_region_still_tail 6 (by kernel_rfl) (by kernel_rfl) ?_
 simp only [List.take_succ_cons, List.take_zero, List.drop_succ_cons, List.drop_zero]
 generalize hwd : ({ w7 with drawn := w7.drawn + 1 } : World) = wd2
 have OD := hq9 (drawn_only hwd)
 clear hwd
 have cn : wd2.cell? ⟨w3.heap.size, 1, none⟩ = some (.int .i64 s2) := (HN.out.only OD.out (by simp)).cell 1
 have hcd := HC.out.only OD.out (by simp)
 have cc : wd2.cell? ⟨w1.heap.size, 2, none⟩ = some (.int .i64 0) := hcd.cell 2
 have cf := hcd.frozen 2
 have HC2 := hq9 (show Blk (wd2.setCell ⟨w1.heap.size, 2, none⟩ (.int .i64 s2)) w1.heap.size 152 #[.slice (some ⟨cb2, 0, none⟩) m cap2, .int .i64 s1, .int .i64 s2, .int .i64 0, .int .i64 0, .int .i64 0] from hcd.set 2 (.int .i64 s2))
 have o8 : Only [w1.heap.size] wd2 (wd2.setCell ⟨w1.heap.size, 2, none⟩ (.int .i64 s2)) := (Only.refl _ _).setCell (.inl (by simp)) _
 have ON2 := hq9 ((ON.out.trans0 OD.out).trans o8 (by intro b hb; simp at hb; omega))
 have OC2 := hq9 ((OC.out.trans0 OD.out).trans o8 (by intro b hb; simp at hb; omega))
 have HN2 := hq9 ((HN.out.only OD.out (by simp)).only o8 (by simp; omega))
 clear hcd o8 HC HN ON OC OD
 have HC := HC2
 have HN := HN2
 have ON := ON2
 have OC := OC2
 clear HC2 HN2 ON2 OC2
 repeat still_step
 refine wpStill_nil ?_
 go_wp2_with fail
 refine (int64_Store w1.heap.size 2 _ s2 wd2 cc cf).mono ?_
 rintro e w9 ⟨rfl, he2⟩
 rw [he2] at HC HN ON OC
 clear cc cf cn he2
 go_wp2_with fail
 refine wp_region_still_tail 6 (by kernel_rfl) (by kernel_rfl) ?_
 simp only [List.take_succ_cons, List.take_zero, List.drop_succ_cons, List.drop_zero]
 generalize hwd : ({ w9 with drawn := w9.drawn + 1 } : World) = wd3
 have OD := hq9 (drawn_only hwd)
 clear hwd
 have cn : wd3.cell? ⟨w3.heap.size, 2, none⟩ = some (.int .i64 s3) := (HN.out.only OD.out (by simp)).cell 2
 have hcd := HC.out.only OD.out (by simp)
 have cc : wd3.cell? ⟨w1.heap.size, 3, none⟩ = some (.int .i64 0) := hcd.cell 3
 have cf := hcd.frozen 3
 have HC2 := hq9 (show Blk (wd3.setCell ⟨w1.heap.size, 3, none⟩ (.int .i64 s3)) w1.heap.size 152 #[.slice (some ⟨cb2, 0, none⟩) m cap2, .int .i64 s1, .int .i64 s2, .int .i64 s3, .int .i64 0, .int .i64 0] from hcd.set 3 (.int .i64 s3))
 have o8 : Only [w1.heap.size] wd3 (wd3.setCell ⟨w1.heap.size, 3, none⟩ (.int .i64 s3)) := (Only.refl _ _).setCell (.inl (by simp)) _
 have ON2 := hq9 ((ON.out.trans0 OD.out).trans o8 (by intro b hb; simp at hb; omega))
 have OC2 := hq9 ((OC.out.trans0 OD.out).trans o8 (by intro b hb; simp at hb; omega))
 have HN2 := hq9 ((HN.out.only OD.out (by simp)).only o8 (by simp; omega))
 clear hcd o8 HC HN ON OC OD
 have HC := HC2
 have HN := HN2
 have ON := ON2
 have OC := OC2
 clear HC2 HN2 ON2 OC2
 repeat still_step
 refine wpStill_nil ?_
 go_wp2_with fail
 refine (int64_Store w1.heap.size 3 _ s3 wd3 cc cf).mono ?_
 rintro e w11 ⟨rfl, he3⟩
 rw [he3] at HC HN ON OC
 clear cc cf cn he3
 go_wp2_with fail
 refine wp_region_still_tail 6 (by kernel_rfl) (by kernel_rfl) ?_
 simp only [List.take_succ_cons, List.take_zero, List.drop_succ_cons, List.drop_zero]
 generalize hwd : ({ w11 with drawn := w11.drawn + 1 } : World) = wd4
 have OD := hq9 (drawn_only hwd)
 clear hwd
 have cn : wd4.cell? ⟨w3.heap.size, 3, none⟩ = some (.int .i64 s4) := (HN.out.only OD.out (by simp)).cell 3
 have hcd := HC.out.only OD.out (by simp)
 have cc : wd4.cell? ⟨w1.heap.size, 4, none⟩ = some (.int .i64 0) := hcd.cell 4
 have cf := hcd.frozen 4
 have HC2 := hq9 (show Blk (wd4.setCell ⟨w1.heap.size, 4, none⟩ (.int .i64 s4)) w1.heap.size 152 #[.slice (some ⟨cb2, 0, none⟩) m cap2, .int .i64 s1, .int .i64 s2, .int .i64 s3, .int .i64 s4, .int .i64 0] from hcd.set 4 (.int .i64 s4))
 have o8 : Only [w1.heap.size] wd4 (wd4.setCell ⟨w1.heap.size, 4, none⟩ (.int .i64 s4)) := (Only.refl _ _).setCell (.inl (by simp)) _
 have ON2 := hq9 ((ON.out.trans0 OD.out).trans o8 (by intro b hb; simp at hb; omega))
 have OC2 := hq9 ((OC.out.trans0 OD.out).trans o8 (by intro b hb; simp at hb; omega))
 have HN2 := hq9 ((HN.out.only OD.out (by simp)).only o8 (by simp; omega))
 clear hcd o8 HC HN ON OC OD
 have HC := HC2
 have HN := HN2
 have ON := ON2
 have OC := OC2
 clear HC2 HN2 ON2 OC2
 repeat still_step
 refine wpStill_nil ?_
 go_wp2_with fail
 refine (int64_Store w1.heap.size 4 _ s4 wd4 cc cf).mono ?_
 rintro e w13 ⟨rfl, he4⟩
 rw [he4] at HC HN ON OC
 clear cc cf cn he4
 go_wp2_with fail
 refine wp_region_still_tail 6 (by kernel_rfl) (by kernel_rfl) ?_
 simp only [List.take_succ_cons, List.take_zero, List.drop_succ_cons, List.drop_zero]
 generalize hwd : ({ w13 with drawn := w13.drawn + 1 } : World) = wd5
 have OD := hq9 (drawn_only hwd)
 clear hwd
 have cn : wd5.cell? ⟨w3.heap.size, 4, none⟩ = some (.int .i64 s5) := (HN.out.only OD.out (by simp)).cell 4
 have hcd := HC.out.only OD.out (by simp)
 have cc : wd5.cell? ⟨w1.heap.size, 5, none⟩ = some (.int .i64 0) := hcd.cell 5
 have cf := hcd.frozen 5
 have HC2 := hq9 (show Blk (wd5.setCell ⟨w1.heap.size, 5, none⟩ (.int .i64 s5)) w1.heap.size 152 #[.slice (some ⟨cb2, 0, none⟩) m cap2, .int .i64 s1, .int .i64 s2, .int .i64 s3, .int .i64 s4, .int .i64 s5] from hcd.set 5 (.int .i64 s5))
 have o8 : Only [w1.heap.size] wd5 (wd5.setCell ⟨w1.heap.size, 5, none⟩ (.int .i64 s5)) := (Only.refl _ _).setCell (.inl (by simp)) _
 have ON2 := hq9 ((ON.out.trans0 OD.out).trans o8 (by intro b hb; simp at hb; omega))
 have OC2 := hq9 ((OC.out.trans0 OD.out).trans o8 (by intro b hb; simp at hb; omega))
 have HN2 := hq9 ((HN.out.only OD.out (by simp)).only o8 (by simp; omega))
 clear hcd o8 HC HN ON OC OD
 have HC := HC2
 have HN := HN2
 have ON := ON2
 have OC := OC2
 clear HC2 HN2 ON2 OC2
 repeat still_step
 refine wpStill_nil ?_
 go_wp2_with fail
 refine (int64_Store w1.heap.size 5 _ s5 wd5 cc cf).mono ?_
 rintro e w15 ⟨rfl, he5⟩
 rw [he5] at HC HN ON OC
 clear cc cf cn he5
 go_wp2
 go_ret
 obtain ⟨cs, hb, htk⟩ := HB.out
 rw [HM.out] at htk
 refine ⟨w1.heap.size, cb2, cap2, rfl, ⟨?_, ⟨cs, hb.only OC.out (by simp), htk⟩, ?_, HOK.out, ?_, ?_⟩, ON.out, hs1, f1⟩
 ·have := HC.out
  rw [HM.out] at this
  exact this
 ·have := hb.lt
  omega
 ·have := HF.out
  rw [HM.out] at this
  exact this
 ·have := f2
  rw [HM.out] at this
  exact this
end Go.Proofs.YtlggichakafkiaaGreat
namespace Go.Proofs.FuMem
theorem Whole.push {Xs : List Comp} {w w' : World} {Fs : List (List Nat)} (h : Whole Xs w Fs) (hf : ∀ X ∈ Xs, X.Fit) {F' : List Nat} {Y : Comp} (ho : Only [] w w') (hy : Y w' F') (hn' : F'.Nodup) (hF : ∀ b ∈ F', w.heap.size ≤ b) : Whole (Xs ++ [Y]) w' (Fs ++ [F']) := by
 have hk := h.keep0 hf ho
 have hlt := h.lt hf
 refine ⟨?_, ?_⟩
 ·have : ∀ {Xs : List Comp} {Fs : List (List Nat)}, Star Xs w' Fs → Star (Xs ++ [Y]) w' (Fs ++ [F']) := by
   intro Xs
   induction Xs with
   | nil =>
    intro Fs hs
    cases Fs with
    | nil => exact ⟨hy, trivial⟩
    | cons F Fs => exact hs.elim
   | cons X Xs ih =>
    intro Fs hs
    cases Fs with
    | nil => exact hs.elim
    | cons F Fs => exact ⟨hs.1, ih hs.2⟩
  exact this hk.1
 ·rw [List.flatten_append, List.nodup_append]
  refine ⟨hk.2, by simpa using hn', fun a ha b hb e => ?_⟩
  subst e
  have := hlt a ha
  have := hF a (by simpa using hb)
  omega
theorem Whole.nil (w : World) : Whole [] w [] := ⟨trivial, List.nodup_nil⟩
theorem Whole.push2 {Xs : List Comp} {w w' : World} {Fs : List (List Nat)} {base : Nat} (h : Whole Xs w Fs ∧ (∀ X ∈ Xs, X.Fit) ∧ base ≤ w.heap.size ∧ ∀ b ∈ Fs.flatten, base ≤ b) {F' : List Nat} {Y : Comp} (hY : Y.Fit) (ho : Only [] w w') (hy : Y w' F') (hn' : F'.Nodup) (hF : ∀ b ∈ F', w.heap.size ≤ b) :
  Whole (Xs ++ [Y]) w' (Fs ++ [F']) ∧ (∀ X ∈ Xs ++ [Y], X.Fit) ∧ base ≤ w'.heap.size ∧ ∀ b ∈ (Fs ++ [F']).flatten, base ≤ b := by
 refine ⟨h.1.push h.2.1 ho hy hn' hF, fun X hX => ?_, Nat.le_trans h.2.2.1 ho.size, fun b hb => ?_⟩
 ·rcases List.mem_append.1 hX with hX | hX
  ·exact h.2.1 X hX
  ·rw [List.mem_singleton.1 hX]; exact hY
 ·rw [List.flatten_append, List.mem_append] at hb
  rcases hb with hb | hb
  ·exact h.2.2.2 b hb
  ·exact Nat.le_trans h.2.2.1 (hF b (by simpa using hb))
theorem star_upd2 : ∀ {Xs : List Comp} {w w' : World} {Fs : List (List Nat)} {i : Nat} {F F' T : List Nat} {Y : Comp}, (∀ X ∈ Xs, X.Fit) → Star Xs w Fs → Fs.flatten.Nodup → Fs[i]? = some F → Only T w w' → (∀ b ∈ T, b ∈ F ∨ b ∉ Fs.flatten) → Y w' F' → F'.Nodup → (∀ b ∈ F', b ∈ F ∨ w.heap.size ≤ b) →
  Star (Xs.set i Y) w' (Fs.set i F') ∧ (Fs.set i F').flatten.Nodup
 | [], _, _, [], _, _, _, _, _, _, _, _, hi, _, _, _, _, _ => by simp at hi
 | X :: Xs, w, w', G :: Fs, 0, F, F', T, Y, hf, h, hn, hi, ho, hT, hy, hn', hF => by
  simp only [List.getElem?_cons_zero, Option.some.injEq] at hi
  subst hi
  rw [List.flatten_cons, List.nodup_append] at hn
  have hfs : ∀ Z ∈ Xs, Comp.Fit Z := fun Z hZ => hf Z (by simp [hZ])
  have hlt := Star.lt hfs h.2
  refine ⟨⟨hy, Star.keep hfs h.2 ho fun b hb hbF => ?_⟩, ?_⟩
  ·rcases hT b hbF with h1 | h1
   ·exact hn.2.2 b h1 b hb rfl
   ·exact h1 (by rw [List.flatten_cons]; exact List.mem_append_right _ hb)
  rw [List.set_cons_zero, List.flatten_cons, List.nodup_append]
  refine ⟨hn', hn.2.1, fun a ha b hb e => ?_⟩
  subst e
  rcases hF a ha with h1 | h1
  ·exact hn.2.2 a h1 a hb rfl
  ·have := hlt a hb
   omega
 | X :: Xs, w, w', G :: Fs, i + 1, F, F', T, Y, hf, h, hn, hi, ho, hT, hy, hn', hF => by
  rw [List.getElem?_cons_succ] at hi
  rw [List.flatten_cons, List.nodup_append] at hn
  have hfs : ∀ Z ∈ Xs, Comp.Fit Z := fun Z hZ => hf Z (by simp [hZ])
  have hT' : ∀ b ∈ T, b ∈ F ∨ b ∉ Fs.flatten := fun b hb => (hT b hb).imp id fun h h2 => h (by rw [List.flatten_cons]; exact List.mem_append_right _ h2)
  obtain ⟨h1, h2⟩ := star_upd2 hfs h.2 hn.2.1 hi ho hT' hy hn' hF
  have hFm : ∀ b ∈ F, b ∈ Fs.flatten := fun b hb => List.mem_flatten.2 ⟨F, List.mem_of_getElem? hi, hb⟩
  refine ⟨⟨(hf X (by simp)).keep h.1 ho fun b hb hbF => ?_, h1⟩, ?_⟩
  ·rcases hT b hbF with h3 | h3
   ·exact hn.2.2 b hb b (hFm b h3) rfl
   ·exact h3 (by rw [List.flatten_cons]; exact List.mem_append_left _ hb)
  rw [List.set_cons_succ, List.flatten_cons, List.nodup_append]
  refine ⟨hn.1, h2, fun a ha b hb e => ?_⟩
  subst e
  obtain ⟨G', hG', hbG⟩ := List.mem_flatten.1 hb
  rcases List.mem_or_eq_of_mem_set hG' with h3 | h3
  ·exact hn.2.2 a ha a (List.mem_flatten.2 ⟨G', h3, hbG⟩) rfl
  ·subst h3
   rcases hF a hbG with h4 | h4
   ·exact hn.2.2 a ha a (hFm a h4) rfl
   ·have := (hf X (by simp)).lt h.1 a ha
    omega
theorem Whole.upd2 {Xs : List Comp} {w w' : World} {Fs : List (List Nat)} (h : Whole Xs w Fs) (hf : ∀ X ∈ Xs, X.Fit) (i : Nat) {F F' T : List Nat} {Y : Comp} (hi : Fs[i]? = some F) (ho : Only T w w') (hT : ∀ b ∈ T, b ∈ F ∨ b ∉ Fs.flatten) (hy : Y w' F') (hn' : F'.Nodup) (hF : ∀ b ∈ F', b ∈ F ∨ w.heap.size ≤ b) :
  Whole (Xs.set i Y) w' (Fs.set i F') := star_upd2 hf h.1 h.2 hi ho hT hy hn' hF
end Go.Proofs.FuMem
namespace Go.Proofs.YtlggichakafkiaaGreat
open Go.BigFrame Go.RowKit Go.Proofs.FuMem Go.Proofs.FuTop Go.Proofs.FuNvm Go.Proofs.FuPool Go.Proofs.FuClk
set_option maxRecDepth 100000
def blkC (g : Nat) (t : TypeId) (cs : Array Value) : Comp := fun w F => F = [g] ∧ Blk w g t cs
theorem blkC_fit (g : Nat) (t : TypeId) (cs : Array Value) : (blkC g t cs).Fit := ⟨fun h b hb => by obtain ⟨rfl, h⟩ := h; rw [List.mem_singleton.1 hb]; exact h.lt, fun h ho hs => ⟨h.1, h.2.only ho (hs g (by rw [h.1]; simp))⟩⟩
def poolC (g sb : Nat) (P : Pool) : Comp := fun w F => F = [g, sb] ∧ PoolAt w g sb P
theorem poolC_fit (g sb : Nat) (P : Pool) : (poolC g sb P).Fit := ⟨fun h b hb => by
 obtain ⟨rfl, h⟩ := h
 rcases List.mem_cons.1 hb with rfl | hb
 ·exact h.ltg
 ·rw [List.mem_singleton.1 hb]; exact h.lts, fun h ho hs => ⟨h.1, h.2.only ho (hs g (by rw [h.1]; simp)) (hs sb (by rw [h.1]; simp))⟩⟩
def rdrC (g hb : Nat) (now : Int) (has : List Int) : Comp := fun w F => F = [g, hb] ∧ RdrAt w g hb now has
theorem rdrC_fit (g hb : Nat) (now : Int) (has : List Int) : (rdrC g hb now has).Fit := ⟨fun h b hb => by
 obtain ⟨rfl, h⟩ := h
 rcases List.mem_cons.1 hb with rfl | hb
 ·exact h.head.lt
 ·rw [List.mem_singleton.1 hb]; exact h.row.lt, fun h ho hs => ⟨h.1, h.2.only ho (hs g (by rw [h.1]; simp)) (hs hb (by rw [h.1]; simp))⟩⟩
def clkC (g ob : Nat) (C : Clk) : Comp := fun w F => F = [g, ob] ∧ ClkAt w g ob C
theorem clkC_fit (g ob : Nat) (C : Clk) : (clkC g ob C).Fit := ⟨fun h b hb => by
 obtain ⟨rfl, h⟩ := h
 rcases List.mem_cons.1 hb with rfl | hb
 ·exact h.lt1
 ·rw [List.mem_singleton.1 hb]; exact h.lt2, fun h ho hs => ⟨h.1, h.2.only ho (hs g (by rw [h.1]; simp)) (hs ob (by rw [h.1]; simp))⟩⟩
theorem own_mem {v : Value} {b : Nat} : b ∈ v.ownBlock.toList ↔ v.ownBlock = some b := by
 cases h : v.ownBlock with
 | none => simp
 | some y =>
  simp only [Option.toList_some, List.mem_singleton, Option.some.injEq]
  exact eq_comm
def bagC (g : Nat) (v : Value) (E : List Ent) : Comp := fun w F => F = g :: v.ownBlock.toList ∧ BagAt w g v E
theorem bagC_fit (g : Nat) (v : Value) (E : List Ent) : (bagC g v E).Fit := ⟨fun h b hb => by
 obtain ⟨rfl, h⟩ := h
 rcases List.mem_cons.1 hb with rfl | hb
 ·exact h.head.lt
 ·exact h.row.lt b (own_mem.1 hb), fun h ho hs => ⟨h.1, h.2.only ho (hs g (by rw [h.1]; simp)) fun b hb => hs b (by rw [h.1]; exact List.mem_cons_of_mem _ (own_mem.2 hb))⟩⟩
def tabC (g : Nat) (bs : List Nat) (T : List Link) : Comp := fun w F => F = g :: bs ∧ TabAt w g bs T
theorem tabC_fit (g : Nat) (bs : List Nat) (T : List Link) : (tabC g bs T).Fit := ⟨fun h b hb => by
 obtain ⟨rfl, h⟩ := h
 exact h.lt b hb, fun h ho hs => ⟨h.1, h.2.only ho fun b hb => hs b (by rw [h.1]; exact hb)⟩⟩
def ordC (g : Nat) (vs : List Value) (Ls : List (List Link)) : Comp := fun w F => F = g :: ownsOf vs ∧ LevAt w g vs Ls
theorem ordC_fit (g : Nat) (vs : List Value) (Ls : List (List Link)) : (ordC g vs Ls).Fit := ⟨fun h b hb => by
 obtain ⟨rfl, h⟩ := h
 exact h.lt b hb, fun h ho hs => ⟨h.1, h.2.only ho fun b hb => hs b (by rw [h.1]; exact hb)⟩⟩
def lineC (g : Nat) (v : Value) (L : List Link) : Comp := fun w F => F = g :: v.ownBlock.toList ∧ LineAt w g v L
theorem lineC_fit (g : Nat) (v : Value) (L : List Link) : (lineC g v L).Fit := ⟨fun h b hb => by
 obtain ⟨rfl, h⟩ := h
 rcases List.mem_cons.1 hb with rfl | hb
 ·exact h.head.lt
 ·exact h.row.lt b (own_mem.1 hb), fun h ho hs => ⟨h.1, h.2.only ho (hs g (by rw [h.1]; simp)) fun b hb => hs b (by rw [h.1]; exact List.mem_cons_of_mem _ (own_mem.2 hb))⟩⟩
def rowC (e : TypeId) (k : Nat) (v : Value) (xs : List (List Value)) : Comp := fun w F => F = v.ownBlock.toList ∧ RowS e k w v xs
theorem rowC_fit (e : TypeId) (k : Nat) (v : Value) (xs : List (List Value)) : (rowC e k v xs).Fit := ⟨fun h b hb => by
 obtain ⟨rfl, h⟩ := h
 exact h.lt b (own_mem.1 hb), fun h ho hs => ⟨h.1, h.2.only ho fun b hb => hs b (by rw [h.1]; exact own_mem.2 hb)⟩⟩
structure ArB where
 a : Nat
 d : Nat
 p : Nat
 ps : Nat
 r : Nat
 rh : Nat
 k : Nat
 ko : Nat
 b : Nat
 bv : Value
 t : Nat
 ts : List Nat
 o : Nat
 ov : List Value
 l : Nat
 lv : Value
 ev : Value
structure Eff where
 kind : Int
 key : List UInt8
 val : List UInt8
 id : Nat
 ver : Nat
 ep : Nat
 group : Int
deriving DecidableEq
def effC (x : Eff) : List Value := [.int .i64 x.kind, .string ⟨x.key.toArray⟩, .string ⟨x.val.toArray⟩, .int .u64 x.id, .int .u64 x.ver, .int .u64 x.ep, .int .i64 x.group]
structure ArS where
 done : Int
 P : Pool
 now : Int
 has : List Int
 C : Clk
 E : List Ent
 T : List Link
 Ls : List (List Link)
 L : List Link
 id : Nat
 ver : Nat
 F : List Eff
def pt (g : Nat) : Value := .pointer (some ⟨g, 0, none⟩)
def arHead (B : ArB) (S : ArS) : Array Value := #[pt B.d, pt B.p, pt B.r, pt B.k, pt B.b, pt B.t, pt B.o, pt B.l, .int .u64 S.id, .int .u64 S.ver, B.ev]
def arXs (gd : Nat) (B : ArB) (S : ArS) : List Comp :=
 [rdrC B.r B.rh S.now S.has, clkC B.k B.ko S.C, poolC B.p B.ps S.P, blkC B.d 210 #[pt gd, .int .u32 S.done, .int .i32 0, .int .u32 0], bagC B.b B.bv S.E, tabC B.t B.ts S.T, ordC B.o B.ov S.Ls, lineC B.l B.lv S.L, blkC B.a 198 (arHead B S), rowC 182 7 B.ev (S.F.map effC)]
def arFs (B : ArB) : List (List Nat) := [[B.r, B.rh], [B.k, B.ko], [B.p, B.ps], [B.d], B.b :: B.bv.ownBlock.toList, B.t :: B.ts, B.o :: ownsOf B.ov, B.l :: B.lv.ownBlock.toList, [B.a], B.ev.ownBlock.toList]
theorem arXs_fit (gd : Nat) (B : ArB) (S : ArS) : ∀ X ∈ arXs gd B S, X.Fit := by
 intro X hX
 unfold arXs at hX
 simp only [List.mem_cons, List.not_mem_nil, or_false] at hX
 rcases hX with rfl | rfl | rfl | rfl | rfl | rfl | rfl | rfl | rfl | rfl
 ·exact rdrC_fit _ _ _ _
 ·exact clkC_fit _ _ _
 ·exact poolC_fit _ _ _
 ·exact blkC_fit _ _ _
 ·exact bagC_fit _ _ _
 ·exact tabC_fit _ _ _
 ·exact ordC_fit _ _ _
 ·exact lineC_fit _ _ _
 ·exact blkC_fit _ _ _
 ·exact rowC_fit _ _ _ _
def ArAt (w : World) (gd : Nat) (B : ArB) (S : ArS) : Prop := Whole (arXs gd B S) w (arFs B)
section
variable {w : World} {gd : Nat} {B : ArB} {S : ArS}
theorem ArAt.rdr (h : ArAt w gd B S) : RdrAt w B.r B.rh S.now S.has := h.1.1.2
theorem ArAt.clk (h : ArAt w gd B S) : ClkAt w B.k B.ko S.C := h.1.2.1.2
theorem ArAt.pool (h : ArAt w gd B S) : PoolAt w B.p B.ps S.P := h.1.2.2.1.2
theorem ArAt.dev (h : ArAt w gd B S) : Blk w B.d 210 #[pt gd, .int .u32 S.done, .int .i32 0, .int .u32 0] := h.1.2.2.2.1.2
theorem ArAt.bag (h : ArAt w gd B S) : BagAt w B.b B.bv S.E := h.1.2.2.2.2.1.2
theorem ArAt.tab (h : ArAt w gd B S) : TabAt w B.t B.ts S.T := h.1.2.2.2.2.2.1.2
theorem ArAt.ord (h : ArAt w gd B S) : LevAt w B.o B.ov S.Ls := h.1.2.2.2.2.2.2.1.2
theorem ArAt.line (h : ArAt w gd B S) : LineAt w B.l B.lv S.L := h.1.2.2.2.2.2.2.2.1.2
theorem ArAt.head (h : ArAt w gd B S) : Blk w B.a 198 (arHead B S) := h.1.2.2.2.2.2.2.2.2.1.2
theorem ArAt.eff (h : ArAt w gd B S) : RowS 182 7 w B.ev (S.F.map effC) := h.1.2.2.2.2.2.2.2.2.2.1.2
theorem ArAt.keep {w' : World} {T : List Nat} (h : ArAt w gd B S) (ho : Only T w w') (hs : ∀ b ∈ (arFs B).flatten, b ∉ T) : ArAt w' gd B S := Whole.keep h (arXs_fit _ _ _) ho hs
theorem ArAt.keep0 {w' : World} (h : ArAt w gd B S) (ho : Only [] w w') : ArAt w' gd B S := h.keep ho (by simp)
theorem ArAt.lt (h : ArAt w gd B S) : ∀ b ∈ (arFs B).flatten, b < w.heap.size := Whole.lt h (arXs_fit _ _ _)
end
end Go.Proofs.YtlggichakafkiaaGreat
namespace Go.Proofs.FuTop
open Go.Proofs.FuClass Go.Proofs.FuBlock Go.Proofs.FuPool
structure Rv where
 ph : Nat
 e : Nat
 nx : Nat
 F : List Found
 K : List Found
 B : Nat → List UInt8
def setB (B : Nat → List UInt8) (i : Nat) (l : List UInt8) : Nat → List UInt8 := fun j => if j = i then l else B j
def nextAt (p : Found → Bool) (F : List Found) (nx : Nat) : Option Nat := if h : nx < F.length then if p F[nx] = true then some nx else nextAt p F (nx + 1) else none
termination_by F.length - nx
def toScrub (e : Nat) (F : List Found) (x : Found) : Bool := !anti e x && !keeps e F x
section
variable (srt : List Link → List Link) (n : Nat) (dr : Int → List UInt8)
def wipeRv (p : Found → Bool) (q : Nat) (s : Rv) : Rv := match nextAt p s.F s.nx with
 | some j => match s.F[j]? with
  | some x => { s with nx := j + 1, B := setB s.B x.line (dr x.b.cls) }
  | none => s
 | none => { s with ph := q, nx := 0 }
def scanRv (s : Rv) : Rv := if 8 * slabsN n ≤ s.nx + 1 then { s with F := s.F ++ (scan1 s.B (2 + s.nx)).toList, ph := 2, nx := 0 } else { s with F := s.F ++ (scan1 s.B (2 + s.nx)).toList, nx := s.nx + 1 }
def stepRv (s : Rv) : Rv :=
 if s.ph = 0 then if (openB n s.B).2 ≠ 0 then { s with ph := 7 } else { s with e := (openB n s.B).1, ph := 1, nx := 0 }
 else if s.ph = 1 then scanRv n s
 else if s.ph = 2 then if overOf srt n (keptOf s.e s.F) = none then { s with ph := 7 } else { s with K := keptOf s.e s.F, ph := 3, nx := 0 }
 else if s.ph = 3 then wipeRv dr (toScrub s.e s.F) 4 s
 else if s.ph = 4 then wipeRv dr (anti s.e) 5 s
 else if s.ph = 5 then if overOf srt n s.K = none then { s with ph := 7 } else { s with ph := 6, nx := 0 }
 else s
def runRv : Nat → Rv → Rv
 | 0, s => s
 | k + 1, s => runRv k (stepRv srt n dr s)
def startRv (B : Nat → List UInt8) : Rv := ⟨0, 0, 0, [], [], B⟩
theorem runRv_add : ∀ (j k : Nat) (s : Rv), runRv srt n dr (j + k) s = runRv srt n dr k (runRv srt n dr j s)
 | 0, k, s => by rw [Nat.zero_add]; rfl
 | j + 1, k, s => by rw [Nat.succ_add]; exact runRv_add j k _
theorem runRv_succ (k : Nat) (s : Rv) : runRv srt n dr (k + 1) s = stepRv srt n dr (runRv srt n dr k s) := by rw [runRv_add]; rfl
theorem stepRv_end {s : Rv} (h : 6 ≤ s.ph) : stepRv srt n dr s = s := by
 unfold stepRv
 rw [if_neg (by omega), if_neg (by omega), if_neg (by omega), if_neg (by omega), if_neg (by omega), if_neg (by omega)]
theorem runRv_end {s : Rv} (h : 6 ≤ s.ph) : ∀ k, runRv srt n dr k s = s
 | 0 => rfl
 | k + 1 => by show runRv srt n dr k (stepRv srt n dr s) = s; rw [stepRv_end srt n dr h]; exact runRv_end h k
theorem runRv_one (s : Rv) : runRv srt n dr 1 s = stepRv srt n dr s := rfl
section
variable {s : Rv}
theorem stepRv_0 (h : s.ph = 0) : stepRv srt n dr s = if (openB n s.B).2 ≠ 0 then { s with ph := 7 } else { s with e := (openB n s.B).1, ph := 1, nx := 0 } := if_pos h
theorem stepRv_1 (h : s.ph = 1) : stepRv srt n dr s = scanRv n s := by unfold stepRv; rw [if_neg (by omega), if_pos h]
theorem stepRv_2 (h : s.ph = 2) : stepRv srt n dr s = if overOf srt n (keptOf s.e s.F) = none then { s with ph := 7 } else { s with K := keptOf s.e s.F, ph := 3, nx := 0 } := by unfold stepRv; rw [if_neg (by omega), if_neg (by omega), if_pos h]
theorem stepRv_3 (h : s.ph = 3) : stepRv srt n dr s = wipeRv dr (toScrub s.e s.F) 4 s := by unfold stepRv; rw [if_neg (by omega), if_neg (by omega), if_neg (by omega), if_pos h]
theorem stepRv_4 (h : s.ph = 4) : stepRv srt n dr s = wipeRv dr (anti s.e) 5 s := by unfold stepRv; rw [if_neg (by omega), if_neg (by omega), if_neg (by omega), if_neg (by omega), if_pos h]
theorem stepRv_5 (h : s.ph = 5) : stepRv srt n dr s = if overOf srt n s.K = none then { s with ph := 7 } else { s with ph := 6, nx := 0 } := by unfold stepRv; rw [if_neg (by omega), if_neg (by omega), if_neg (by omega), if_neg (by omega), if_neg (by omega), if_pos h]
end
theorem foundTo_succ (B : Nat → List UInt8) (k : Nat) : foundTo B (k + 1) = foundTo B k ++ (scan1 B (2 + k)).toList := by
 unfold foundTo
 rw [List.range_succ, List.filterMap_append]
 cases h : scan1 B (2 + k) <;> simp [h]
theorem run_scan {m : Nat} (hm : m = 8 * slabsN n) (B : Nat → List UInt8) (e : Nat) (K : List Found) : ∀ (t k : Nat), k + t + 1 = m → runRv srt n dr (t + 1) ⟨1, e, k, foundTo B k, K, B⟩ = ⟨2, e, 0, foundTo B m, K, B⟩
 | 0, k, h => by
  rw [Nat.zero_add, runRv_one, stepRv_1 srt n dr rfl]
  unfold scanRv
  rw [if_pos (by show _ ≤ k + 1; omega), ← foundTo_succ, show k + 1 = m by omega]
 | t + 1, k, h => by
  show runRv srt n dr (t + 1) (stepRv srt n dr _) = _
  have : stepRv srt n dr ⟨1, e, k, foundTo B k, K, B⟩ = ⟨1, e, k + 1, foundTo B (k + 1), K, B⟩ := by
   rw [stepRv_1 srt n dr rfl]
   unfold scanRv
   rw [if_neg (by show ¬ _ ≤ k + 1; omega), ← foundTo_succ]
  rw [this]
  exact run_scan hm B e K t (k + 1) (by omega)
end
theorem nextAt_some {p : Found → Bool} {F : List Found} {nx j : Nat} (h : nextAt p F nx = some j) : nx ≤ j ∧ ∃ x, F[j]? = some x ∧ p x = true ∧ ∀ i y, nx ≤ i → i < j → F[i]? = some y → p y = false := by
 rw [nextAt] at h
 split at h
 ·rename_i hlt
  split at h
  ·rename_i hp
   injection h with h
   subst h
   exact ⟨Nat.le_refl _, _, List.getElem?_eq_getElem hlt, hp, fun i y h1 h2 => by omega⟩
  ·rename_i hp
   obtain ⟨h1, x, hx, hpx, h2⟩ := nextAt_some h
   refine ⟨by omega, x, hx, hpx, fun i y hi hj hy => ?_⟩
   by_cases e : i = nx
   ·subst e
    rw [List.getElem?_eq_getElem hlt] at hy
    injection hy with hy
    rw [← hy]
    simpa using hp
   ·exact h2 i y (by omega) hj hy
 ·cases h
termination_by F.length - nx
theorem nextAt_none {p : Found → Bool} {F : List Found} {nx : Nat} (h : nextAt p F nx = none) : ∀ i y, nx ≤ i → F[i]? = some y → p y = false := by
 rw [nextAt] at h
 split at h
 ·rename_i hlt
  split at h
  ·cases h
  ·rename_i hp
   intro i y hi hy
   by_cases e : i = nx
   ·subst e
    rw [List.getElem?_eq_getElem hlt] at hy
    injection hy with hy
    rw [← hy]
    simpa using hp
   ·exact nextAt_none h i y (by omega) hy
 ·intro i y hi hy
  have := (List.getElem?_eq_some_iff.1 hy).1
  omega
termination_by F.length - nx
def Scr (F : List Found) (P : Found → Prop) (B0 B : Nat → List UInt8) : Prop :=
 (∀ x ∈ F, P x → (B x.line).getD 2 0 = 0) ∧ (∀ i, (∀ x ∈ F, P x → x.line ≠ i) → B i = B0 i)
theorem Scr.step {F : List Found} {P : Found → Prop} {B0 B : Nat → List UInt8} {x : Found} {l : List UInt8} (h : Scr F P B0 B) (hx : x ∈ F) (hl : l.getD 2 0 = 0) : Scr F (fun y => P y ∨ y = x) B0 (setB B x.line l) := by
 refine ⟨fun y hy hp => ?_, fun i hi => ?_⟩
 ·unfold setB
  split
  ·exact hl
  ·rename_i hne
   rcases hp with hp | hp
   ·exact h.1 y hy hp
   ·exact absurd (by rw [hp]) hne
 ·have h1 := hi x hx (.inr rfl)
  unfold setB
  rw [if_neg (fun e => h1 e.symm)]
  exact h.2 i fun y hy hp => hi y hy (.inl hp)
theorem Scr.same {F : List Found} {P Q : Found → Prop} {B0 B : Nat → List UInt8} (h : Scr F P B0 B) (hq : ∀ x ∈ F, P x ↔ Q x) : Scr F Q B0 B :=
 ⟨fun x hx hp => h.1 x hx ((hq x hx).2 hp), fun i hi => h.2 i fun x hx hp => hi x hx ((hq x hx).1 hp)⟩
theorem Scr.refl (F : List Found) (B : Nat → List UInt8) : Scr F (fun _ => False) B B := ⟨fun _ _ h => h.elim, fun _ _ => rfl⟩
section
variable (srt : List Link → List Link) (n : Nat) (dr : Int → List UInt8)
theorem run_wipe (p : Found → Bool) (q ph e : Nat) (F K : List Found) (B0 : Nat → List UInt8) (P : Found → Prop) (hdr : ∀ x ∈ F, (dr x.b.cls).getD 2 0 = 0)
  (hst : ∀ nx B, stepRv srt n dr ⟨ph, e, nx, F, K, B⟩ = wipeRv dr p q ⟨ph, e, nx, F, K, B⟩) :
  ∀ (t nx : Nat) (B : Nat → List UInt8), F.length - nx ≤ t → Scr F (fun x => P x ∨ ∃ i, i < nx ∧ F[i]? = some x ∧ p x = true) B0 B →
   ∃ k B', k ≤ t + 1 ∧ runRv srt n dr k ⟨ph, e, nx, F, K, B⟩ = ⟨q, e, 0, F, K, B'⟩ ∧ Scr F (fun x => P x ∨ p x = true) B0 B'
 | t, nx, B, ht, hs => by
  cases hn : nextAt p F nx with
  | none =>
   refine ⟨1, B, by omega, ?_, hs.same fun x hx => ⟨fun h => h.imp id fun ⟨_, _, _, h⟩ => h, fun h => h.imp id fun h => ?_⟩⟩
   ·rw [runRv_one, hst]
    unfold wipeRv
    rw [hn]
   ·obtain ⟨i, hi⟩ := List.getElem?_of_mem hx
    by_cases hlt : i < nx
    ·exact ⟨i, hlt, hi, h⟩
    ·rw [nextAt_none hn i x (by omega) hi] at h
     cases h
  | some j =>
   obtain ⟨hj, x, hx, hpx, hbt⟩ := nextAt_some hn
   have hjl := (List.getElem?_eq_some_iff.1 hx).1
   have hxF := List.mem_of_getElem? hx
   have hs' := hs.step (l := dr x.b.cls) hxF (hdr x hxF)
   have hs2 : Scr F (fun y => P y ∨ ∃ i, i < j + 1 ∧ F[i]? = some y ∧ p y = true) B0 (setB B x.line (dr x.b.cls)) := hs'.same fun y hy => by
    constructor
    ·rintro ((h | ⟨i, hi, h1, h2⟩) | rfl)
     ·exact .inl h
     ·exact .inr ⟨i, by omega, h1, h2⟩
     ·exact .inr ⟨j, by omega, hx, hpx⟩
    ·rintro (h | ⟨i, hi, h1, h2⟩)
     ·exact .inl (.inl h)
     ·by_cases h3 : i < nx
      ·exact .inl (.inr ⟨i, h3, h1, h2⟩)
      ·by_cases h4 : i = j
       ·subst h4
        rw [hx] at h1
        injection h1 with h1
        exact .inr h1.symm
       ·rw [hbt i y (by omega) (by omega) h1] at h2
        cases h2
   cases t with
   | zero => omega
   | succ t =>
    obtain ⟨k, B', hk, hr, hf⟩ := run_wipe p q ph e F K B0 P hdr hst t (j + 1) _ (by omega) hs2
    refine ⟨k + 1, B', by omega, ?_, hf⟩
    show runRv srt n dr k (stepRv srt n dr _) = _
    rw [hst]
    unfold wipeRv
    rw [hn]
    show runRv srt n dr k (match F[j]? with | some x => _ | none => _) = _
    rw [hx]
    exact hr
theorem foundTo_len (B : Nat → List UInt8) (k : Nat) : (foundTo B k).length ≤ k := by
 unfold foundTo
 exact Nat.le_trans (List.length_filterMap_le _ _) (by simp)
theorem not_keeps (e : Nat) (F : List Found) (x : Found) : (toScrub e F x = true ∨ anti e x = true) ↔ keeps e F x = false := by
 unfold toScrub
 cases h1 : anti e x with
 | true =>
  simp only [or_true, true_iff]
  unfold anti at h1
  unfold keeps payload
  simp only [Bool.and_eq_true, decide_eq_true_eq] at h1
  simp [h1.2]
 | false => simp
theorem run_end (hdr : ∀ c : Int, 0 ≤ c → c ≤ 3 → (dr c).getD 2 0 = 0) (hcls : ∀ B k, ∀ x ∈ foundTo B k, 0 ≤ x.b.cls ∧ x.b.cls ≤ 3) (hn : 1 ≤ slabsN n) (B : Nat → List UInt8) :
  ∃ k, k ≤ 24 * slabsN n + 6 ∧ match revives srt n B with
   | none => (runRv srt n dr k (startRv B)).ph = 7 ∧ (runRv srt n dr k (startRv B)).B = B
   | some (e, F, A) => ∃ B', runRv srt n dr k (startRv B) = ⟨6, e, 0, F, keptOf e F, B'⟩ ∧ Scr F (fun x => keeps e F x = false) B B' ∧ overOf srt n (keptOf e F) = some A := by
 by_cases ho : (openB n B).2 ≠ 0
 ·refine ⟨1, by omega, ?_⟩
  unfold revives
  rw [if_pos ho]
  have : runRv srt n dr 1 (startRv B) = { startRv B with ph := 7 } := by
   rw [runRv_one, stepRv_0 srt n dr rfl]
   exact if_pos ho
  rw [this]
  exact ⟨rfl, rfl⟩
 ·have r1 : runRv srt n dr 1 (startRv B) = ⟨1, (openB n B).1, 0, foundTo B 0, [], B⟩ := by
   rw [runRv_one, stepRv_0 srt n dr rfl]
   exact if_neg ho
  obtain ⟨m, hm⟩ : ∃ m, m = 8 * slabsN n := ⟨_, rfl⟩
  have r2 := run_scan srt n dr hm B (openB n B).1 [] (m - 1) 0 (by omega)
  rw [show m - 1 + 1 = m by omega] at r2
  have r3 : runRv srt n dr (1 + m) (startRv B) = ⟨2, (openB n B).1, 0, foundTo B m, [], B⟩ := by rw [runRv_add, r1, r2]
  unfold revives
  rw [if_neg ho, ← hm]
  obtain ⟨e, he⟩ : ∃ e, e = (openB n B).1 := ⟨_, rfl⟩
  obtain ⟨F, hF⟩ : ∃ F, F = foundTo B m := ⟨_, rfl⟩
  have hFl : F.length ≤ m := by rw [hF]; exact foundTo_len B m
  have hFd : ∀ x ∈ F, (dr x.b.cls).getD 2 0 = 0 := fun x hx => by
   rw [hF] at hx
   exact hdr _ (hcls _ _ x hx).1 (hcls _ _ x hx).2
  rw [← he, ← hF] at r3 ⊢
  cases hov : overOf srt n (keptOf e F) with
  | none =>
   refine ⟨1 + m + 1, by omega, ?_⟩
   have : runRv srt n dr (1 + m + 1) (startRv B) = ⟨7, e, 0, F, [], B⟩ := by
    rw [runRv_add, r3]
    rw [runRv_one, stepRv_2 srt n dr rfl]
    exact if_pos hov
   show (runRv srt n dr (1 + m + 1) (startRv B)).ph = 7 ∧ _
   rw [this]
   exact ⟨rfl, rfl⟩
  | some A =>
   have r4 : runRv srt n dr (1 + m + 1) (startRv B) = ⟨3, e, 0, F, keptOf e F, B⟩ := by
    rw [runRv_add, r3]
    rw [runRv_one, stepRv_2 srt n dr rfl]
    exact if_neg (by show ¬ overOf srt n (keptOf e F) = none; rw [hov]; simp)
   obtain ⟨k1, B1, hk1, hr1, hs1⟩ := run_wipe srt n dr (toScrub e F) 4 3 e F (keptOf e F) B (fun _ => False) hFd (fun nx B => stepRv_3 srt n dr rfl) F.length 0 B (by omega) ((Scr.refl F B).same fun x _ => by simp)
   obtain ⟨k2, B2, hk2, hr2, hs2⟩ := run_wipe srt n dr (anti e) 5 4 e F (keptOf e F) B (fun x => toScrub e F x = true) hFd (fun nx B => stepRv_4 srt n dr rfl) F.length 0 B1 (by omega) (hs1.same fun x _ => by simp)
   refine ⟨1 + m + 1 + (k1 + (k2 + 1)), by omega, B2, ?_, hs2.same fun x _ => not_keeps e F x, hov⟩
   rw [runRv_add, r4, runRv_add, hr1, runRv_add, hr2]
   rw [runRv_one, stepRv_5 srt n dr rfl]
   exact if_neg (by show ¬ overOf srt n (keptOf e F) = none; rw [hov]; simp)
end
structure Bd (x : Found) : Prop where
 c0 : 0 ≤ x.b.cls
 c3 : x.b.cls ≤ 3
 k0 : 0 ≤ x.b.kind
 k3 : x.b.kind ≤ 3
 id : x.b.id < 18446744073709551616
 ver : x.b.ver < 18446744073709551616
 ep : x.b.ep < 18446744073709551616
 key : x.b.key.length ≤ 1000
 val : x.b.val.length ≤ 100000
theorem num8_lt (l : List UInt8) : Go.Proofs.FuCode.num (l.take 8) < 18446744073709551616 :=
 Nat.lt_of_lt_of_le (Go.Proofs.FuCode.num_lt _) (Nat.le_trans (Nat.pow_le_pow_right (by decide) (List.length_take_le 8 l)) (by decide))
theorem num2_lt (l : List UInt8) : Go.Proofs.FuCode.num (l.take 2) < 65536 :=
 Nat.lt_of_lt_of_le (Go.Proofs.FuCode.num_lt _) (Nat.le_trans (Nat.pow_le_pow_right (by decide) (List.length_take_le 2 l)) (by decide))
theorem found_bd {B : Nat → List UInt8} {k : Nat} {x : Found} (h : x ∈ foundTo B k) : Bd x := by
 have h1 := (mem_found h).1
 unfold scan1 at h1
 split at h1
 case isFalse => cases h1
 rename_i hh
 injection h1 with h1
 have hc := hh.1.2.2.1
 have hk := hh.1.2.2.2
 unfold look at h1
 split at h1
 ·rename_i hr
  have hd := reads_head hr.2
  have l1 := hd.2.2.1
  have l2 := hd.2.2.2
  rw [getD_take (by omega)] at l1 l2
  rw [← h1]
  refine ⟨Int.natCast_nonneg _, ?_, Int.natCast_nonneg _, ?_, num8_lt _, num8_lt _, num8_lt _, ?_, ?_⟩
  ·show (((chunk B x.line ((B x.line).getD 1 0).toNat).getD 1 0).toNat : Int) ≤ 3
   omega
  ·show (((chunk B x.line ((B x.line).getD 1 0).toNat).getD 2 0).toNat : Int) ≤ 3
   omega
  ·refine Nat.le_trans (List.length_take_le _ _) ?_
   have := UInt8.toNat_lt ((chunk B x.line ((B x.line).getD 1 0).toNat).getD 3 0)
   omega
  ·exact Nat.le_trans (List.length_take_le _ _) (Nat.le_trans (Nat.le_of_lt (num2_lt _)) (by decide))
 ·rw [← h1]
  unfold bad
  refine ⟨Int.natCast_nonneg _, ?_, Int.natCast_nonneg _, ?_, Nat.zero_lt_succ _, Nat.zero_lt_succ _, Nat.zero_lt_succ _, by simp, by simp⟩
  ·show (((B x.line).getD 1 0).toNat : Int) ≤ 3
   omega
  ·show (((B x.line).getD 2 0).toNat : Int) ≤ 3
   omega
end Go.Proofs.FuTop
namespace Go.Proofs.YtlggichakafkiaaGreat
open Go.BigFrame Go.RowKit Go.Proofs.FuMem Go.Proofs.FuTop
set_option maxRecDepth 100000
def foundC (x : FuTop.Found) : List Value := [.int .i64 x.line, .bool x.good, .int .i64 x.b.cls, .int .i64 x.b.kind, .int .u64 x.b.id, .int .u64 x.b.ver, .int .u64 x.b.ep, .string ⟨x.b.key.toArray⟩, .string ⟨x.b.val.toArray⟩]
def foundV (x : FuTop.Found) : Value := .agg #[.int .i64 x.line, .bool x.good, .int .i64 x.b.cls, .int .i64 x.b.kind, .int .u64 x.b.id, .int .u64 x.b.ver, .int .u64 x.b.ep, .string ⟨x.b.key.toArray⟩, .string ⟨x.b.val.toArray⟩]
theorem foundC_one (x : FuTop.Found) : ∀ v ∈ foundC x, v.oneCell' = true := by
 intro v hv
 simp only [foundC, List.mem_cons, List.not_mem_nil, or_false] at hv
 rcases hv with rfl | rfl | rfl | rfl | rfl | rfl | rfl | rfl | rfl <;> rfl
set_option maxHeartbeats 1600000 in
theorem rv_sound (g e : Nat) (x : FuTop.Found) (cs : Array Value) (w : World) (hb : Blk w g 229 cs) (he : cs[3]? = some (.int .u64 e)) :
  Calls Tryz.prog 248 #[.pointer (some ⟨g, 0, none⟩), foundV x] w fun r w' => r = .returned (.bool (sound e x)) ∧ Only [] w w' := by
 obtain ⟨line, good, ⟨cls, kind, id, ver, ep, key, val⟩⟩ := x
 unfold foundV sound
 dsimp only
 generalize (⟨key.toArray⟩ : ByteArray) = ks
 generalize (⟨val.toArray⟩ : ByteArray) = vs
 have BX := hq9 (Blk.new w 339 #[.int .i64 line, .bool good, .int .i64 cls, .int .i64 kind, .int .u64 id, .int .u64 ver, .int .u64 ep, .string ks, .string vs])
 have OX := hq9 ((Only.refl [] w).alloc (.cells #[.int .i64 line, .bool good, .int .i64 cls, .int .i64 kind, .int .u64 id, .int .u64 ver, .int .u64 ep, .string ks, .string vs] 339))
 have B1 := hb.only OX.out (by simp)
 have c3 := (B1.cell 3).trans he
 have x1 := BX.out.cell 1
 have x6 := BX.out.cell 6
 clear hb he B1
 cases hg : good with
 | false =>
  subst hg
  go_enter Tryz.func248, Tryz.ntmps248
  go_wp2_with fail
  generalize (w.alloc _) = w1 at *
  go_quiet (fail)
  go_wp2
  go_ret
  exact ⟨rfl, OX.out.drewN _⟩
 | true =>
  subst hg
  by_cases hle : ep ≤ e
  ·have q1 : decide ((ep : Int) ≤ (e : Int)) = true := by go_num
   have Q := hq9 (decide_eq_true hle)
   go_enter Tryz.func248, Tryz.ntmps248
   go_wp2_with fail
   generalize (w.alloc _) = w1 at *
   go_quiet (fail)
   go_wp2
   go_ret
   exact ⟨by rw [Q.out]; rfl, OX.out.drewN _⟩
  ·have q1 : decide ((ep : Int) ≤ (e : Int)) = false := by go_num
   have Q := hq9 (decide_eq_false hle)
   go_enter Tryz.func248, Tryz.ntmps248
   go_wp2_with fail
   generalize (w.alloc _) = w1 at *
   go_quiet (fail)
   go_wp2
   go_ret
   exact ⟨by rw [Q.out]; rfl, OX.out.drewN _⟩
set_option maxHeartbeats 1600000 in
theorem rv_anti (g e : Nat) (x : FuTop.Found) (cs : Array Value) (w : World) (hb : Blk w g 229 cs) (he : cs[3]? = some (.int .u64 e)) :
  Calls Tryz.prog 201 #[.pointer (some ⟨g, 0, none⟩), foundV x] w fun r w' => r = .returned (.bool (anti e x)) ∧ Only [] w w' := by
 have HS := hq9 (fun w hb => rv_sound g e x cs w hb he)
 have HB := hq9 hb
 have HX : anti e x = (sound e x && decide (x.b.kind = 3)) := rfl
 rw [HX]
 clear HX hb
 generalize sound e x = sb at *
 unfold foundV at HS ⊢
 generalize (⟨x.b.key.toArray⟩ : ByteArray) = ks at *
 generalize (⟨x.b.val.toArray⟩ : ByteArray) = vs at *
 have BX := hq9 (Blk.new w 339 #[.int .i64 x.line, .bool x.good, .int .i64 x.b.cls, .int .i64 x.b.kind, .int .u64 x.b.id, .int .u64 x.b.ver, .int .u64 x.b.ep, .string ks, .string vs])
 have OX := hq9 ((Only.refl [] w).alloc (.cells #[.int .i64 x.line, .bool x.good, .int .i64 x.b.cls, .int .i64 x.b.kind, .int .u64 x.b.id, .int .u64 x.b.ver, .int .u64 x.b.ep, .string ks, .string vs] 339))
 have x0 := BX.out.cell 0
 have x1 := BX.out.cell 1
 have x2 := BX.out.cell 2
 have x3 := BX.out.cell 3
 have x4 := BX.out.cell 4
 have x5 := BX.out.cell 5
 have x6 := BX.out.cell 6
 have x7 := BX.out.cell 7
 have x8 := BX.out.cell 8
 have QK : Hid ((if x.b.kind = 3 then 1 else 0) = (if x.b.kind = 3 then 1 else (0 : Nat))) := rfl
 go_enter Tryz.func201, Tryz.ntmps201
 go_wp2_with fail
 generalize (w.alloc _) = w1 at *
 refine (HS.out w1 (HB.out.only OX.out (by simp))).mono ?_
 rintro r w2 ⟨rfl, o2⟩
 have O2 := hq9 (OX.out.trans0 o2)
 have B2 := BX.out.only o2 (by simp)
 have y3 := B2.cell 3
 clear x0 x1 x2 x3 x4 x5 x6 x7 x8 B2
 cases sb with
 | false =>
  go_wp2
  go_ret
  exact ⟨rfl, O2.out⟩
 | true =>
  by_cases hk : x.b.kind = 3
  ·have q1 : (x.b.kind == 3) = true := by simpa using hk
   have Q := hq9 (decide_eq_true hk)
   go_wp2
   go_ret
   exact ⟨by rw [Q.out]; rfl, O2.out⟩
  ·have q1 : (x.b.kind == 3) = false := by simpa using hk
   have q2 : ¬ x.b.kind = 3 := hk
   have Q := hq9 (decide_eq_false hk)
   go_wp2
   go_ret
   exact ⟨by rw [Q.out]; rfl, O2.out⟩
set_option maxHeartbeats 1600000 in
theorem rv_payload (g e : Nat) (x : FuTop.Found) (cs : Array Value) (w : World) (hb : Blk w g 229 cs) (he : cs[3]? = some (.int .u64 e)) :
  Calls Tryz.prog 237 #[.pointer (some ⟨g, 0, none⟩), foundV x] w fun r w' => r = .returned (.bool (payload e x)) ∧ Only [] w w' := by
 have HS := hq9 (fun w hb => rv_sound g e x cs w hb he)
 have HB := hq9 hb
 have HX : payload e x = (sound e x && !decide (x.b.kind = 3)) := rfl
 rw [HX]
 clear HX hb
 generalize sound e x = sb at *
 unfold foundV at HS ⊢
 generalize (⟨x.b.key.toArray⟩ : ByteArray) = ks at *
 generalize (⟨x.b.val.toArray⟩ : ByteArray) = vs at *
 have BX := hq9 (Blk.new w 339 #[.int .i64 x.line, .bool x.good, .int .i64 x.b.cls, .int .i64 x.b.kind, .int .u64 x.b.id, .int .u64 x.b.ver, .int .u64 x.b.ep, .string ks, .string vs])
 have OX := hq9 ((Only.refl [] w).alloc (.cells #[.int .i64 x.line, .bool x.good, .int .i64 x.b.cls, .int .i64 x.b.kind, .int .u64 x.b.id, .int .u64 x.b.ver, .int .u64 x.b.ep, .string ks, .string vs] 339))
 have x0 := BX.out.cell 0
 have x1 := BX.out.cell 1
 have x2 := BX.out.cell 2
 have x3 := BX.out.cell 3
 have x4 := BX.out.cell 4
 have x5 := BX.out.cell 5
 have x6 := BX.out.cell 6
 have x7 := BX.out.cell 7
 have x8 := BX.out.cell 8
 have QK : Hid ((if x.b.kind = 3 then 1 else 0) = (if x.b.kind = 3 then 1 else (0 : Nat))) := rfl
 go_enter Tryz.func237, Tryz.ntmps237
 go_wp2_with fail
 generalize (w.alloc _) = w1 at *
 refine (HS.out w1 (HB.out.only OX.out (by simp))).mono ?_
 rintro r w2 ⟨rfl, o2⟩
 have O2 := hq9 (OX.out.trans0 o2)
 have B2 := BX.out.only o2 (by simp)
 have y3 := B2.cell 3
 clear x0 x1 x2 x3 x4 x5 x6 x7 x8 B2
 cases sb with
 | false =>
  go_wp2
  go_ret
  exact ⟨rfl, O2.out⟩
 | true =>
  by_cases hk : x.b.kind = 3
  ·have q1 : (x.b.kind != 3) = false := by simpa using hk
   have Q := hq9 (decide_eq_true hk)
   go_wp2
   go_ret
   exact ⟨by rw [Q.out]; rfl, O2.out⟩
  ·have q1 : (x.b.kind != 3) = true := by simpa using hk
   have q2 : ¬ x.b.kind = 3 := hk
   have Q := hq9 (decide_eq_false hk)
   go_wp2
   go_ret
   exact ⟨by rw [Q.out]; rfl, O2.out⟩
end Go.Proofs.YtlggichakafkiaaGreat
namespace Go.Proofs.YtlggichakafkiaaGreat
open Go.BigFrame Go.RowKit Go.Proofs.FuMem Go.Proofs.FuTop
set_option maxRecDepth 100000
theorem Blk.new2 (w : World) (o : Obj) (T : TypeId) (cs : Array Value) : Blk ((w.alloc o).alloc (.cells cs T)) (w.heap.size + 1) T cs := by
 have := Blk.new (w.alloc o) T cs
 simpa using this
set_option maxHeartbeats 4000000 in
theorem rv_newer (g e : Nat) (y x : FuTop.Found) (cs : Array Value) (w : World) (hb : Blk w g 229 cs) (he : cs[3]? = some (.int .u64 e)) :
  Calls Tryz.prog 240 #[.pointer (some ⟨g, 0, none⟩), foundV y, foundV x] w fun r w' => r = .returned (.bool (newer e x y)) ∧ Only [] w w' := by
 have HS := hq9 (fun w hb => rv_sound g e y cs w hb he)
 have HP := hq9 (fun w hb => rv_payload g e y cs w hb he)
 have HB := hq9 hb
 have HN := hq9 (show newer e x y = (sound e y && decide (y.b.id = x.b.id) && (decide (x.b.ver < y.b.ver) || (payload e y && decide (y.b.ver = x.b.ver) && decide (y.line < x.line)))) from rfl)
 generalize newer e x y = nn at *
 clear hb
 generalize sound e y = sb at *
 generalize payload e y = pb at *
 unfold foundV at HS HP ⊢
 generalize (⟨y.b.key.toArray⟩ : ByteArray) = ky at *
 generalize (⟨y.b.val.toArray⟩ : ByteArray) = vy at *
 generalize (⟨x.b.key.toArray⟩ : ByteArray) = kx at *
 generalize (⟨x.b.val.toArray⟩ : ByteArray) = vx at *
 have OY := (Only.refl [] w).alloc (.cells #[.int .i64 y.line, .bool y.good, .int .i64 y.b.cls, .int .i64 y.b.kind, .int .u64 y.b.id, .int .u64 y.b.ver, .int .u64 y.b.ep, .string ky, .string vy] 339)
 have BY := hq9 ((Blk.new w 339 #[.int .i64 y.line, .bool y.good, .int .i64 y.b.cls, .int .i64 y.b.kind, .int .u64 y.b.id, .int .u64 y.b.ver, .int .u64 y.b.ep, .string ky, .string vy]).only ((Only.refl [] _).alloc (.cells #[.int .i64 x.line, .bool x.good, .int .i64 x.b.cls, .int .i64 x.b.kind, .int .u64 x.b.id, .int .u64 x.b.ver, .int .u64 x.b.ep, .string kx, .string vx] 339)) (by simp))
 have BX := hq9 (Blk.new2 w (.cells #[.int .i64 y.line, .bool y.good, .int .i64 y.b.cls, .int .i64 y.b.kind, .int .u64 y.b.id, .int .u64 y.b.ver, .int .u64 y.b.ep, .string ky, .string vy] 339) 339 #[.int .i64 x.line, .bool x.good, .int .i64 x.b.cls, .int .i64 x.b.kind, .int .u64 x.b.id, .int .u64 x.b.ver, .int .u64 x.b.ep, .string kx, .string vx])
 have OX := hq9 (OY.alloc (.cells #[.int .i64 x.line, .bool x.good, .int .i64 x.b.cls, .int .i64 x.b.kind, .int .u64 x.b.id, .int .u64 x.b.ver, .int .u64 x.b.ep, .string kx, .string vx] 339))
 clear OY
 have y0 := BY.out.cell 0
 have y1 := BY.out.cell 1
 have y2 := BY.out.cell 2
 have y3 := BY.out.cell 3
 have y4 := BY.out.cell 4
 have y5 := BY.out.cell 5
 have y6 := BY.out.cell 6
 have y7 := BY.out.cell 7
 have y8 := BY.out.cell 8
 cases sb with
 | false =>
  have hnn : nn = false := by rw [HN.out]; rfl
  subst hnn
  go_enter Tryz.func240, Tryz.ntmps240
  go_wp2_with fail
  generalize ((w.alloc _).alloc _) = w1 at *
  refine (HS.out w1 (HB.out.only OX.out (by simp))).mono ?_
  rintro r w2 ⟨rfl, o2⟩
  have O2 := hq9 (OX.out.trans0 o2)
  have Y2 := hq9 (BY.out.only o2 (by simp))
  have X2 := hq9 (BX.out.only o2 (by simp))
  clear y0 y1 y2 y3 y4 y5 y6 y7 y8 o2
  go_wp2
  go_ret
  exact ⟨rfl, O2.out⟩
 | true =>
  by_cases hid : y.b.id = x.b.id
  ·have q0 : (y.b.id != x.b.id) = false := by rw [hid]; simp
   have q1 : ((y.b.id : Int) == (x.b.id : Int)) = true := by rw [hid]; simp
   have q1b : ((y.b.id : Int) != (x.b.id : Int)) = false := by rw [hid]; simp
   by_cases hv : x.b.ver < y.b.ver
   ·have q2 : decide ((y.b.ver : Int) > (x.b.ver : Int)) = true := by go_num
    have q2b : (x.b.ver : Int) < (y.b.ver : Int) := by omega
    have hnn : nn = true := by rw [HN.out]; simp [hid, hv]
    subst hnn
    (try clear hw)
    (try clear hid)
    go_enter Tryz.func240, Tryz.ntmps240
    go_wp2_with fail
    generalize ((w.alloc _).alloc _) = w1 at *
    refine (HS.out w1 (HB.out.only OX.out (by simp))).mono ?_
    rintro r w2 ⟨rfl, o2⟩
    have O2 := hq9 (OX.out.trans0 o2)
    have Y2 := hq9 (BY.out.only o2 (by simp))
    have X2 := hq9 (BX.out.only o2 (by simp))
    clear y0 y1 y2 y3 y4 y5 y6 y7 y8 o2
    have y0 := Y2.out.cell 0
    have y1 := Y2.out.cell 1
    have y2 := Y2.out.cell 2
    have y3 := Y2.out.cell 3
    have y4 := Y2.out.cell 4
    have y5 := Y2.out.cell 5
    have y6 := Y2.out.cell 6
    have y7 := Y2.out.cell 7
    have y8 := Y2.out.cell 8
    have x0 := X2.out.cell 0
    have x4 := X2.out.cell 4
    have x5 := X2.out.cell 5
    go_wp2
    go_ret
    exact ⟨rfl, O2.out⟩
   ·have q2 : decide ((y.b.ver : Int) > (x.b.ver : Int)) = false := by go_num
    have q2b : ¬ (x.b.ver : Int) < (y.b.ver : Int) := by omega
    cases pb with
    | false =>
     have hnn : nn = false := by rw [HN.out]; simp [hv]
     subst hnn
     (try clear hw)
     (try clear hid)
     go_enter Tryz.func240, Tryz.ntmps240
     go_wp2_with fail
     generalize ((w.alloc _).alloc _) = w1 at *
     refine (HS.out w1 (HB.out.only OX.out (by simp))).mono ?_
     rintro r w2 ⟨rfl, o2⟩
     have O2 := hq9 (OX.out.trans0 o2)
     have Y2 := hq9 (BY.out.only o2 (by simp))
     have X2 := hq9 (BX.out.only o2 (by simp))
     clear y0 y1 y2 y3 y4 y5 y6 y7 y8 o2
     have y0 := Y2.out.cell 0
     have y1 := Y2.out.cell 1
     have y2 := Y2.out.cell 2
     have y3 := Y2.out.cell 3
     have y4 := Y2.out.cell 4
     have y5 := Y2.out.cell 5
     have y6 := Y2.out.cell 6
     have y7 := Y2.out.cell 7
     have y8 := Y2.out.cell 8
     have x0 := X2.out.cell 0
     have x4 := X2.out.cell 4
     have x5 := X2.out.cell 5
     go_wp2_with fail
     refine (HP.out w2 (HB.out.only O2.out (by simp))).mono ?_
     rintro r w3 ⟨rfl, o3⟩
     have O3 := hq9 (O2.out.trans0 o3)
     have Y3 := hq9 (Y2.out.only o3 (by simp))
     have X3 := hq9 (X2.out.only o3 (by simp))
     clear y0 y1 y2 y3 y4 y5 y6 y7 y8 x0 x4 x5 o3
     have y0 := Y3.out.cell 0
     have y5 := Y3.out.cell 5
     have x0 := X3.out.cell 0
     have x5 := X3.out.cell 5
     go_wp2
     go_ret
     exact ⟨rfl, O3.out⟩
    | true =>
     by_cases hw : y.b.ver = x.b.ver
     ·have q3 : ((y.b.ver : Int) == (x.b.ver : Int)) = true := by rw [hw]; simp
      have q3n : (y.b.ver == x.b.ver) = true := by rw [hw]; simp
      by_cases hl : y.line < x.line
      ·have q4 : decide ((y.line : Int) < (x.line : Int)) = true := by go_num
       have hnn : nn = true := by rw [HN.out]; simp [hid, hv, hw, hl]
       subst hnn
       (try clear hw)
       (try clear hid)
       go_enter Tryz.func240, Tryz.ntmps240
       go_wp2_with fail
       generalize ((w.alloc _).alloc _) = w1 at *
       refine (HS.out w1 (HB.out.only OX.out (by simp))).mono ?_
       rintro r w2 ⟨rfl, o2⟩
       have O2 := hq9 (OX.out.trans0 o2)
       have Y2 := hq9 (BY.out.only o2 (by simp))
       have X2 := hq9 (BX.out.only o2 (by simp))
       clear y0 y1 y2 y3 y4 y5 y6 y7 y8 o2
       have y0 := Y2.out.cell 0
       have y1 := Y2.out.cell 1
       have y2 := Y2.out.cell 2
       have y3 := Y2.out.cell 3
       have y4 := Y2.out.cell 4
       have y5 := Y2.out.cell 5
       have y6 := Y2.out.cell 6
       have y7 := Y2.out.cell 7
       have y8 := Y2.out.cell 8
       have x0 := X2.out.cell 0
       have x4 := X2.out.cell 4
       have x5 := X2.out.cell 5
       go_wp2_with fail
       refine (HP.out w2 (HB.out.only O2.out (by simp))).mono ?_
       rintro r w3 ⟨rfl, o3⟩
       have O3 := hq9 (O2.out.trans0 o3)
       have Y3 := hq9 (Y2.out.only o3 (by simp))
       have X3 := hq9 (X2.out.only o3 (by simp))
       clear y0 y1 y2 y3 y4 y5 y6 y7 y8 x0 x4 x5 o3
       have y0 := Y3.out.cell 0
       have y5 := Y3.out.cell 5
       have x0 := X3.out.cell 0
       have x5 := X3.out.cell 5
       go_wp2
       go_ret
       exact ⟨rfl, O3.out⟩
      ·have q4 : decide ((y.line : Int) < (x.line : Int)) = false := by go_num
       have hnn : nn = false := by rw [HN.out]; simp [hid, hv, hw, hl]
       subst hnn
       (try clear hw)
       (try clear hid)
       go_enter Tryz.func240, Tryz.ntmps240
       go_wp2_with fail
       generalize ((w.alloc _).alloc _) = w1 at *
       refine (HS.out w1 (HB.out.only OX.out (by simp))).mono ?_
       rintro r w2 ⟨rfl, o2⟩
       have O2 := hq9 (OX.out.trans0 o2)
       have Y2 := hq9 (BY.out.only o2 (by simp))
       have X2 := hq9 (BX.out.only o2 (by simp))
       clear y0 y1 y2 y3 y4 y5 y6 y7 y8 o2
       have y0 := Y2.out.cell 0
       have y1 := Y2.out.cell 1
       have y2 := Y2.out.cell 2
       have y3 := Y2.out.cell 3
       have y4 := Y2.out.cell 4
       have y5 := Y2.out.cell 5
       have y6 := Y2.out.cell 6
       have y7 := Y2.out.cell 7
       have y8 := Y2.out.cell 8
       have x0 := X2.out.cell 0
       have x4 := X2.out.cell 4
       have x5 := X2.out.cell 5
       go_wp2_with fail
       refine (HP.out w2 (HB.out.only O2.out (by simp))).mono ?_
       rintro r w3 ⟨rfl, o3⟩
       have O3 := hq9 (O2.out.trans0 o3)
       have Y3 := hq9 (Y2.out.only o3 (by simp))
       have X3 := hq9 (X2.out.only o3 (by simp))
       clear y0 y1 y2 y3 y4 y5 y6 y7 y8 x0 x4 x5 o3
       have y0 := Y3.out.cell 0
       have y5 := Y3.out.cell 5
       have x0 := X3.out.cell 0
       have x5 := X3.out.cell 5
       go_wp2
       go_ret
       exact ⟨rfl, O3.out⟩
     ·have q3n : (y.b.ver == x.b.ver) = false := by simpa using hw
      have q3 : ((y.b.ver : Int) == (x.b.ver : Int)) = false := by simpa using fun h : (y.b.ver : Int) = (x.b.ver : Int) => hw (by omega)
      have hnn : nn = false := by rw [HN.out]; simp [hid, hv, hw]
      subst hnn
      (try clear hw)
      (try clear hid)
      go_enter Tryz.func240, Tryz.ntmps240
      go_wp2_with fail
      generalize ((w.alloc _).alloc _) = w1 at *
      refine (HS.out w1 (HB.out.only OX.out (by simp))).mono ?_
      rintro r w2 ⟨rfl, o2⟩
      have O2 := hq9 (OX.out.trans0 o2)
      have Y2 := hq9 (BY.out.only o2 (by simp))
      have X2 := hq9 (BX.out.only o2 (by simp))
      clear y0 y1 y2 y3 y4 y5 y6 y7 y8 o2
      have y0 := Y2.out.cell 0
      have y1 := Y2.out.cell 1
      have y2 := Y2.out.cell 2
      have y3 := Y2.out.cell 3
      have y4 := Y2.out.cell 4
      have y5 := Y2.out.cell 5
      have y6 := Y2.out.cell 6
      have y7 := Y2.out.cell 7
      have y8 := Y2.out.cell 8
      have x0 := X2.out.cell 0
      have x4 := X2.out.cell 4
      have x5 := X2.out.cell 5
      go_wp2_with fail
      refine (HP.out w2 (HB.out.only O2.out (by simp))).mono ?_
      rintro r w3 ⟨rfl, o3⟩
      have O3 := hq9 (O2.out.trans0 o3)
      have Y3 := hq9 (Y2.out.only o3 (by simp))
      have X3 := hq9 (X2.out.only o3 (by simp))
      clear y0 y1 y2 y3 y4 y5 y6 y7 y8 x0 x4 x5 o3
      have y0 := Y3.out.cell 0
      have y5 := Y3.out.cell 5
      have x0 := X3.out.cell 0
      have x5 := X3.out.cell 5
      go_wp2
      go_ret
      exact ⟨rfl, O3.out⟩
  ·have q0 : (y.b.id != x.b.id) = true := by simpa using hid
   have q1 : ((y.b.id : Int) == (x.b.id : Int)) = false := by simpa using fun h : (y.b.id : Int) = (x.b.id : Int) => hid (by omega)
   have q1b : ((y.b.id : Int) != (x.b.id : Int)) = true := by simpa using fun h : (y.b.id : Int) = (x.b.id : Int) => hid (by omega)
   have hnn : nn = false := by rw [HN.out]; simp [hid]
   subst hnn
   (try clear hw)
   (try clear hid)
   go_enter Tryz.func240, Tryz.ntmps240
   go_wp2_with fail
   generalize ((w.alloc _).alloc _) = w1 at *
   refine (HS.out w1 (HB.out.only OX.out (by simp))).mono ?_
   rintro r w2 ⟨rfl, o2⟩
   have O2 := hq9 (OX.out.trans0 o2)
   have Y2 := hq9 (BY.out.only o2 (by simp))
   have X2 := hq9 (BX.out.only o2 (by simp))
   clear y0 y1 y2 y3 y4 y5 y6 y7 y8 o2
   have y4 := Y2.out.cell 4
   have x4 := X2.out.cell 4
   go_wp2
   go_ret
   exact ⟨rfl, O2.out⟩
end Go.Proofs.YtlggichakafkiaaGreat
namespace Go.Proofs.YtlggichakafkiaaGreat
open Go.BigFrame Go.RowKit Go.Proofs.FuMem Go.Proofs.FuTop
set_option maxRecDepth 100000
theorem row_found {w : World} {A : Option Addr} {n c : Nat} {L : List FuTop.Found} (h : RowS 339 9 w (.slice A n c) (L.map foundC)) {k : Nat} {x : FuTop.Found} (hx : L[k]? = some x) :
  ∃ g, A = some ⟨g, 0, none⟩ ∧ w.cell? ⟨g, k * 9, none⟩ = some (.int .i64 x.line) ∧ w.cell? ⟨g, k * 9 + 1, none⟩ = some (.bool x.good) ∧ w.cell? ⟨g, k * 9 + 2, none⟩ = some (.int .i64 x.b.cls) ∧ w.cell? ⟨g, k * 9 + 3, none⟩ = some (.int .i64 x.b.kind) ∧ w.cell? ⟨g, k * 9 + 4, none⟩ = some (.int .u64 x.b.id) ∧ w.cell? ⟨g, k * 9 + 5, none⟩ = some (.int .u64 x.b.ver) ∧ w.cell? ⟨g, k * 9 + 6, none⟩ = some (.int .u64 x.b.ep) ∧ w.cell? ⟨g, k * 9 + 7, none⟩ = some (.string ⟨x.b.key.toArray⟩) ∧ w.cell? ⟨g, k * 9 + 8, none⟩ = some (.string ⟨x.b.val.toArray⟩) := by
 obtain ⟨hk, hx⟩ := List.getElem?_eq_some_iff.1 hx
 obtain ⟨g, rfl, hc⟩ := h.cell (i := k) (by rw [List.length_map]; exact hk)
 have he : (L.map foundC)[k]'(by rw [List.length_map]; exact hk) = foundC x := by rw [List.getElem_map, hx]
 rw [he] at hc
 exact ⟨g, rfl, hc 0 (by omega), hc 1 (by omega), hc 2 (by omega), hc 3 (by omega), hc 4 (by omega), hc 5 (by omega), hc 6 (by omega), hc 7 (by omega), hc 8 (by omega)⟩
set_option maxHeartbeats 1600000 in
theorem rv_keeps1 (b1 b2 g e : Nat) (y x : FuTop.Found) (cs : Array Value) (w : World) (h1 : Blk w b1 124 #[.pointer (some ⟨g, 0, none⟩)]) (h2 : Blk w b2 339 (foundC x).toArray) (hb : Blk w g 229 cs) (he : cs[3]? = some (.int .u64 e)) :
  Calls Tryz.prog 239 #[foundV y, .pointer (some ⟨b1, 0, none⟩), .pointer (some ⟨b2, 0, none⟩)] w fun r w' => r = .returned (.bool (newer e x y)) ∧ Only [] w w' := by
 have HN := hq9 (fun w hb => rv_newer g e y x cs w hb he)
 generalize newer e x y = nn at *
 have HB := hq9 hb
 unfold foundV at HN ⊢
 unfold foundC at h2
 generalize (⟨y.b.key.toArray⟩ : ByteArray) = ky at *
 generalize (⟨y.b.val.toArray⟩ : ByteArray) = vy at *
 generalize (⟨x.b.key.toArray⟩ : ByteArray) = kx at *
 generalize (⟨x.b.val.toArray⟩ : ByteArray) = vx at *
 have BY := hq9 (Blk.new w 339 #[.int .i64 y.line, .bool y.good, .int .i64 y.b.cls, .int .i64 y.b.kind, .int .u64 y.b.id, .int .u64 y.b.ver, .int .u64 y.b.ep, .string ky, .string vy])
 have OX := hq9 ((Only.refl [] w).alloc (.cells #[.int .i64 y.line, .bool y.good, .int .i64 y.b.cls, .int .i64 y.b.kind, .int .u64 y.b.id, .int .u64 y.b.ver, .int .u64 y.b.ep, .string ky, .string vy] 339))
 have H1 := h1.only OX.out (by simp)
 have H2 := h2.only OX.out (by simp)
 have r0 := H1.cell 0
 have x0 := H2.cell 0
 have x1 := H2.cell 1
 have x2 := H2.cell 2
 have x3 := H2.cell 3
 have x4 := H2.cell 4
 have x5 := H2.cell 5
 have x6 := H2.cell 6
 have x7 := H2.cell 7
 have x8 := H2.cell 8
 have y0 := BY.out.cell 0
 have y1 := BY.out.cell 1
 have y2 := BY.out.cell 2
 have y3 := BY.out.cell 3
 have y4 := BY.out.cell 4
 have y5 := BY.out.cell 5
 have y6 := BY.out.cell 6
 have y7 := BY.out.cell 7
 have y8 := BY.out.cell 8
 clear h1 h2 hb H1 H2
 go_enter Tryz.func239, Tryz.ntmps239
 go_wp2_with fail
 generalize (w.alloc _) = w1 at *
 refine (HN.out w1 (HB.out.only OX.out (by simp))).mono ?_
 rintro r w2 ⟨rfl, o2⟩
 have O2 := hq9 (OX.out.trans0 o2)
 clear o2
 go_wp2
 go_ret
 exact ⟨rfl, O2.out⟩
set_option maxHeartbeats 2000000 in
theorem found_index (v : Value) (L : List FuTop.Found) (b1 b2 g e : Nat) (x : FuTop.Found) (cs : Array Value) (w : World) (h : RowS 339 9 w v (L.map foundC)) (hn : L.length ≤ 100000)
  (h1 : Blk w b1 124 #[.pointer (some ⟨g, 0, none⟩)]) (h2 : Blk w b2 339 (foundC x).toArray) (hb : Blk w g 229 cs) (he : cs[3]? = some (.int .u64 e)) :
  Calls Tryz.prog 293 #[v, .func (.func 239) #[] #[.pointer (some ⟨b1, 0, none⟩), .pointer (some ⟨b2, 0, none⟩)]] w fun r w' => ∃ k : Int, r = .returned (.int .i64 k) ∧ L.any (newer e x) = decide (k ≥ 0) ∧ Only [] w w' := by
 obtain ⟨A, c, rfl, hc, hcm⟩ := h.slice
 obtain ⟨n, hnl⟩ : ∃ n, n = L.length := ⟨_, rfl⟩
 rw [List.length_map, ← hnl] at h
 rw [List.length_map]
 rw [← hnl] at hn ⊢
 have HR := hq9 h
 have HN := hq9 hnl
 have HC := hq9 (fun y w h1 h2 hb => rv_keeps1 b1 b2 g e y x cs w h1 h2 hb he)
 have H1 := hq9 h1
 have H2 := hq9 h2
 have HB := hq9 hb
 clear h hnl hc hcm h1 h2 hb
 go_enter Tryz.func293, Tryz.ntmps293
 go_wp2_with fail
 go_loopw [8] (fun vi wr => ∃ i : Nat, vi = .int .i64 i ∧ i ≤ n ∧ (∀ t y, t < i → L[t]? = some y → newer e x y = false) ∧ Only [] w wr) (fun vi _ => n - (intOf vi).toNat)
 case atStart => exact ⟨0, rfl, by omega, fun t y ht _ => by omega, Only.refl _ _⟩
 case round =>
  obtain ⟨i, rfl, hin, hno, ho⟩ := hrel
  have NO := hq9 hno
  have ON := hq9 ho
  clear hno ho
  by_cases hlt : i < n
  ·have q1 : decide ((i : Int) < (n : Int)) = true := by go_num
   have hiL : i < L.length := by have := HN.out; omega
   obtain ⟨y, hy⟩ : ∃ y, L[i]? = some y := ⟨_, List.getElem?_eq_getElem hiL⟩
   obtain ⟨bg, rfl, e0, e1, e2, e3, e4, e5, e6, e7, e8⟩ := row_found (HR.out.only0 ON.out) hy
   have HY := hq9 hy
   have HCC := hq9 (HC.out y wr (H1.out.only ON.out (by simp)) (H2.out.only ON.out (by simp)) (HB.out.only ON.out (by simp)))
   obtain ⟨nn, hnn⟩ : ∃ b, b = newer e x y := ⟨_, rfl⟩
   rw [← hnn] at HCC
   have HNN := hq9 hnn
   have hwr : IntKind.i64.wrap ((i : Int) + 1) = (i : Int) + 1 := by rw [IntKind.wrap_i64]; omega
   clear hy hnn
   unfold foundV at HCC
   go_wp2_with fail
   refine HCC.out.mono ?_
   rintro r w1 ⟨rfl, o1⟩
   have O1 := hq9 (ON.out.trans0 o1)
   clear o1
   cases nn with
   | true =>
    have HA := hq9 (show L.any (newer e x) = decide ((i : Int) ≥ 0) from by
     rw [decide_eq_true (by omega), List.any_eq_true]
     exact ⟨y, List.mem_of_getElem? HY.out, HNN.out.symm⟩)
    go_wp2
    go_ret
    exact ⟨_, rfl, HA.out, O1.out⟩
   | false =>
    have N1 := hq9 (show ∀ t z, t < i + 1 → L[t]? = some z → newer e x z = false from fun t z ht hz => by
     by_cases e1 : t = i
     ·rw [e1, HY.out] at hz
      injection hz with hz
      rw [← hz]
      exact HNN.out.symm
     ·exact NO.out t z (by omega) hz)
    go_wp2_with fail
    go_roundw
    case rel => exact ⟨i + 1, congrArg (Value.int .i64) (by omega), by omega, N1.out, O1.out⟩
    case measure => simp only [intOf]; omega
  ·have q1 : decide ((i : Int) < (n : Int)) = false := by go_num
   have HA := hq9 (show L.any (newer e x) = decide ((-1 : Int) ≥ 0) from by
    rw [show decide ((-1 : Int) ≥ 0) = false from rfl, List.any_eq_false]
    intro z hz
    obtain ⟨t, ht⟩ := List.getElem?_of_mem hz
    have := (List.getElem?_eq_some_iff.1 ht).1
    rw [NO.out t z (by have := HN.out; omega) ht]
    simp)
   go_wp2
   go_ret
   exact ⟨_, rfl, HA.out, ON.out⟩
theorem found_contains (v : Value) (L : List FuTop.Found) (b1 b2 g e : Nat) (x : FuTop.Found) (cs : Array Value) (w : World) (h : RowS 339 9 w v (L.map foundC)) (hn : L.length ≤ 100000)
  (h1 : Blk w b1 124 #[.pointer (some ⟨g, 0, none⟩)]) (h2 : Blk w b2 339 (foundC x).toArray) (hb : Blk w g 229 cs) (he : cs[3]? = some (.int .u64 e)) :
  Calls Tryz.prog 238 #[v, .func (.func 239) #[] #[.pointer (some ⟨b1, 0, none⟩), .pointer (some ⟨b2, 0, none⟩)]] w fun r w' => r = .returned (.bool (L.any (newer e x))) ∧ Only [] w w' := by
 have HI := hq9 (found_index v L b1 b2 g e x cs w h hn h1 h2 hb he)
 generalize L.any (newer e x) = q at *
 clear h h1 h2 hb he
 go_enter Tryz.func238, Tryz.ntmps238
 go_wp2_with fail
 refine HI.out.mono ?_
 rintro r w1 ⟨k, rfl, hk, o1⟩
 have HK := hq9 hk
 have O1 := hq9 o1
 clear hk o1
 go_wp2
 go_ret
 exact ⟨by rw [HK.out]; rfl, O1.out⟩
end Go.Proofs.YtlggichakafkiaaGreat
namespace Go.Proofs.YtlggichakafkiaaGreat
open Go.BigFrame Go.RowKit Go.Proofs.FuMem Go.Proofs.FuTop
set_option maxRecDepth 100000
set_option maxHeartbeats 4000000 in
theorem rv_keeps (g e : Nat) (v : Value) (L : List FuTop.Found) (x : FuTop.Found) (cs : Array Value) (w : World) (hb : Blk w g 229 cs) (he : cs[3]? = some (.int .u64 e)) (hf : cs[5]? = some v) (hr : RowS 339 9 w v (L.map foundC)) (hn : L.length ≤ 100000) :
  Calls Tryz.prog 197 #[.pointer (some ⟨g, 0, none⟩), foundV x] w fun r w' => r = .returned (.bool (keeps e L x)) ∧ Only [] w w' := by
 have HP := hq9 (fun w hb => rv_payload g e x cs w hb he)
 have HC := hq9 (fun b1 b2 w hr h1 h2 hb => found_contains v L b1 b2 g e x cs w hr hn h1 h2 hb he)
 have HB := hq9 hb
 have HR := hq9 hr
 have HK := hq9 (show keeps e L x = (payload e x && !(L.any (newer e x))) from rfl)
 generalize keeps e L x = kk at *
 generalize payload e x = pb at *
 generalize L.any (newer e x) = an at *
 obtain ⟨A, c, hv, _, _⟩ := hr.slice
 rw [List.length_map] at hv
 subst hv
 have OX := hq9 (((Only.refl [] w).alloc (.cells #[.pointer (some ⟨g, 0, none⟩)] 124)).alloc (.cells (foundC x).toArray 339))
 have BR := hq9 ((Blk.new w 124 #[.pointer (some ⟨g, 0, none⟩)]).only ((Only.refl [] _).alloc (.cells (foundC x).toArray 339)) (by simp))
 have BX := hq9 (Blk.new2 w (.cells #[.pointer (some ⟨g, 0, none⟩)] 124) 339 (foundC x).toArray)
 have B1 := HB.out.only OX.out (by simp)
 have g5 := (B1.cell 5).trans hf
 have r0 := BR.out.cell 0
 have x0 := BX.out.cell 0
 have x1 := BX.out.cell 1
 have x2 := BX.out.cell 2
 have x3 := BX.out.cell 3
 have x4 := BX.out.cell 4
 have x5 := BX.out.cell 5
 have x6 := BX.out.cell 6
 have x7 := BX.out.cell 7
 have x8 := BX.out.cell 8
 have HF := hq9 hf
 clear hb hr hf he B1
 unfold foundV at HP ⊢
 unfold foundC at OX BR BX x0 x1 x2 x3 x4 x5 x6 x7 x8 r0 g5 HC
 generalize (⟨x.b.key.toArray⟩ : ByteArray) = ks at *
 generalize (⟨x.b.val.toArray⟩ : ByteArray) = vs at *
 generalize L.length = n at *
 have hmf : ∀ (fn : Fn) (first cap : Array Value) (w : World), (Instr.makeFunc fn first cap).run Tryz.prog w = .ok (.func fn first cap) w := fun _ _ _ _ => rfl
 cases pb with
 | false =>
  have hkk : kk = false := by rw [HK.out]; rfl
  subst hkk
  go_enter Tryz.func197, Tryz.ntmps197
  go_wp2_with fail
  generalize ((w.alloc _).alloc _) = w1 at *
  refine (HP.out w1 (HB.out.only OX.out (by simp))).mono ?_
  rintro r w2 ⟨rfl, o2⟩
  have O2 := hq9 (OX.out.trans0 o2)
  clear o2 r0 x0 x1 x2 x3 x4 x5 x6 x7 x8 g5
  go_wp2
  go_ret
  exact ⟨rfl, O2.out⟩
 | true =>
  have HKK := hq9 (show kk = !an by rw [HK.out]; rfl)
  go_enter Tryz.func197, Tryz.ntmps197
  go_wp2_with fail
  generalize ((w.alloc _).alloc _) = w1 at *
  refine (HP.out w1 (HB.out.only OX.out (by simp))).mono ?_
  rintro r w2 ⟨rfl, o2⟩
  have O2 := hq9 (OX.out.trans0 o2)
  have R2 := hq9 (BR.out.only o2 (by simp))
  have X2 := hq9 (BX.out.only o2 (by simp))
  have B2 := HB.out.only O2.out (by simp)
  clear o2 r0 x0 x1 x2 x3 x4 x5 x6 x7 x8 g5
  have g5 := (B2.cell 5).trans HF.out
  have r0 := R2.out.cell 0
  clear B2
  go_wp2_with fail
  refine (HC.out w.heap.size (w.heap.size + 1) w2 (HR.out.only0 O2.out) R2.out X2.out (HB.out.only O2.out (by simp))).mono ?_
  rintro r w3 ⟨rfl, o3⟩
  have O3 := hq9 (O2.out.trans0 o3)
  clear o3 g5 r0
  go_wp2
  go_ret
  exact ⟨by rw [HKK.out]; rfl, O3.out⟩
end Go.Proofs.YtlggichakafkiaaGreat
set_option maxRecDepth 100000
namespace Go.Proofs.YtlggichakafkiaaGreat
open Go.RowKit Go.Proofs.FuMem Go.Proofs.FuNvm Go.Proofs.FuCode
end Go.Proofs.YtlggichakafkiaaGreat
set_option maxRecDepth 100000
namespace Go.Proofs.YtlggichakafkiaaGreat
open Go.RowKit Go.Proofs.FuMem Go.Proofs.FuNvm Go.Proofs.FuCode
theorem madeB_bs {w w' : World} {l : List UInt8} {v : Value} (h : MadeB w l v w') : ∃ A c, v = .slice A l.length c ∧ Bs w' A l.length l ∧ (∀ b off s, A = some ⟨b, off, s⟩ → w.heap.size ≤ b) ∧ Only [] w w' := by
 obtain ⟨A, c, rfl, h, o⟩ := h
 refine ⟨A, c, rfl, bs_own h, ?_, o⟩
 intro b off s e
 rcases Nat.eq_zero_or_pos l.length with hz | hp
 ·rcases h.2 with ⟨e1, _⟩ | ⟨g, c2, cur, hv, hbg, _⟩
  ·injection e1 with e1 _ _
   rw [e1] at e
   cases e
  ·injection hv with e1 _ _
   rw [e1] at e
   cases e
   exact hbg
 ·obtain ⟨g, rfl, hbg, _, _⟩ := OwnB.of h hp
  cases e
  exact hbg
end Go.Proofs.YtlggichakafkiaaGreat
set_option maxRecDepth 100000
namespace Go.Proofs.YtlggichakafkiaaGreat
open Go.RowKit Go.Proofs.FuMem Go.Proofs.FuNvm Go.Proofs.FuCode
end Go.Proofs.YtlggichakafkiaaGreat
set_option maxRecDepth 100000
namespace Go.Proofs.YtlggichakafkiaaGreat
open Go.RowKit Go.Proofs.FuMem Go.Proofs.FuNvm Go.Proofs.FuCode
end Go.Proofs.YtlggichakafkiaaGreat
set_option maxRecDepth 100000
namespace Go.Proofs.YtlggichakafkiaaGreat
open Go.RowKit Go.Proofs.FuMem Go.Proofs.FuNvm Go.Proofs.FuCode
end Go.Proofs.YtlggichakafkiaaGreat
namespace Go.Proofs.FuMem
open Go.RowKit
end Go.Proofs.FuMem
namespace Go.Proofs.YtlggichakafkiaaGreat
open Go.RowKit Go.Proofs.FuMem Go.Proofs.FuNvm Go.Proofs.FuCode
set_option maxRecDepth 100000
section
variable {tD tC : TypeId} {w w' : World} {g cb cap : Nat} {D : Dev}
end
end Go.Proofs.YtlggichakafkiaaGreat
namespace Go.Proofs.YtlggichakafkiaaGreat
open Go.RowKit Go.Proofs.FuMem Go.Proofs.FuNvm Go.Proofs.FuCode
set_option maxRecDepth 100000
end Go.Proofs.YtlggichakafkiaaGreat
namespace Go.Proofs.YtlggichakafkiaaGreat
open Go.RowKit Go.Proofs.FuMem Go.Proofs.FuNvm Go.Proofs.FuCode
set_option maxRecDepth 100000
end Go.Proofs.YtlggichakafkiaaGreat
namespace Go.Proofs.YtlggichakafkiaaGreat
open Go.RowKit Go.Proofs.FuMem Go.Proofs.FuNvm Go.Proofs.FuCode
set_option maxRecDepth 100000
end Go.Proofs.YtlggichakafkiaaGreat
set_option maxRecDepth 100000
namespace Go.Proofs.YtlggichakafkiaaGreat
open Go.RowKit Go.Proofs.FuMem
end Go.Proofs.YtlggichakafkiaaGreat
set_option maxRecDepth 100000
namespace Go.Proofs.YtlggichakafkiaaGreat
open Go.RowKit Go.Proofs.FuMem Go.Proofs.FuNvm Go.Proofs.FuCode
end Go.Proofs.YtlggichakafkiaaGreat
set_option maxRecDepth 100000
namespace Go.Proofs.YtlggichakafkiaaGreat
open Go.RowKit Go.Proofs.FuMem Go.Proofs.FuNvm Go.Proofs.FuCode
def Rows (w : World) (m : Nat) (vs : List Value) (ls : List (List UInt8)) : Prop :=
 vs.length = ls.length ∧ ∀ (j : Nat) (v : Value) (l : List UInt8), vs[j]? = some v → ls[j]? = some l → w.ownsRow m 5 1 v l.length (l.map B)
end Go.Proofs.YtlggichakafkiaaGreat
set_option maxRecDepth 100000
namespace Go.Proofs.YtlggichakafkiaaGreat
open Go.RowKit Go.Proofs.FuMem Go.Proofs.FuNvm Go.Proofs.FuCode
end Go.Proofs.YtlggichakafkiaaGreat
set_option maxRecDepth 100000
namespace Go.Proofs.YtlggichakafkiaaGreat
open Go.RowKit Go.Proofs.FuMem Go.Proofs.FuNvm Go.Proofs.FuCode
end Go.Proofs.YtlggichakafkiaaGreat
set_option maxRecDepth 100000
namespace Go.Proofs.YtlggichakafkiaaGreat
open Go.RowKit Go.Proofs.FuMem Go.Proofs.FuNvm Go.Proofs.FuCode Go.Proofs.FuGeom Go.Proofs.FuCrc
def formatA (D : Dev) : Int := if D.lines.length < 10 then 2 else 0
def formatD (D : Dev) : Dev := if D.lines.length < 10 then D else fenceD (flush1 (flush1 (store1 (store1 D 0 0 (superL D.lines.length)) 1 0 (clockL 0)) 0) 1)
def bytesAt (D : Dev) (i : Nat) : List UInt8 := if i < D.lines.length then (lineOf D i).now else []
def openA (D : Dev) : Nat × Nat :=
 if (isSuper (bytesAt D 0)).2 = true ∧ (isSuper (bytesAt D 0)).1 = D.lines.length ∧ (isClock (bytesAt D 1)).2 = true then
  if 1152921504606846976 < (isClock (bytesAt D 1)).1 then (0, 10) else ((isClock (bytesAt D 1)).1, 0)
 else (0, 3)
theorem nvm_Load_any (g cb cap : Nat) (D : Dev) (i : Nat) (w : World) (hd : DevAt w g cb cap D) :
  Calls Tryz.prog 40 #[.pointer (some ⟨g, 0, none⟩), .int .i64 i] w fun e w' => ∃ (A : Option Addr) (n c : Nat) (x : Int), e = .returned (.tuple #[.slice A n c, .int .i64 x]) ∧ Bs w' A n (bytesAt D i) ∧ n ≤ 64 ∧ Only [] w w' := by
 unfold bytesAt
 by_cases h : i < D.lines.length
 ·rw [if_pos h]
  have hx := lineOf_get h
  have hok := hd.ok _ (List.mem_of_getElem? hx)
  refine (nvm_Load g cb cap D i _ hx w hd).mono ?_
  rintro e w' ⟨v, rfl, m⟩
  obtain ⟨A, c, rfl, b, _, o⟩ := madeB_bs m
  exact ⟨A, _, c, _, rfl, b, by rw [hok.1]; exact Nat.le_refl _, o⟩
 ·rw [if_neg h]
  refine (nvm_Load_no g cb cap D i w hd (by unfold noPlace; omega)).mono ?_
  rintro e w' ⟨rfl, rfl⟩
  exact ⟨none, 0, 0, _, rfl, Bs.nil _ _, by omega, Only.refl _ _⟩
set_option maxHeartbeats 2000000 in
theorem geom_Format (g cb cap : Nat) (D : Dev) (w : World) (hd : DevAt w g cb cap D) :
  Calls Tryz.prog 142 #[.pointer (some ⟨g, 0, none⟩)] w fun e w' => e = .returned (.int .i64 (formatA D)) ∧ DevAt w' g cb cap (formatD D) ∧ Only [g, cb] w w' := by
 have hf := hd.few
 have HD := hq9 hd
 have HL := hq9 (nvm_Lines g cb cap D w hd)
 have hg := hd.lt1
 have hc := hd.lt2
 unfold formatA formatD
 clear hd
 by_cases h10 : D.lines.length < 10
 ·rw [if_pos h10, if_pos h10]
  have HS := hq9 (fun w => geom_Super_no (D.lines.length : Int) w (by omega) (by omega))
  clear h10
  go_enter Tryz.func142, Tryz.ntmps142
  go_wp2_with fail
  refine (HL.out).mono ?_
  rintro e w' ⟨rfl, rfl⟩
  go_wp2_with fail
  refine (HS.out _).mono ?_
  rintro e w' ⟨rfl, rfl⟩
  go_wp2
  go_ret
  exact ⟨rfl, HD.out, Only.refl _ _⟩
 ·rw [if_neg h10, if_neg h10]
  have HS := hq9 (fun w => geom_Super D.lines.length w (by omega) hf)
  have hsl := superL_length D.lines.length
  generalize superL D.lines.length = sl at *
  have HSL := hq9 hsl
  have HCL := hq9 (clockL_length 0)
  have HCK := hq9 (fun w => geom_Clock 0 w (by omega))
  clear h10 hsl
  generalize clockL 0 = cl at *
  go_enter Tryz.func142, Tryz.ntmps142
  go_wp2_with fail
  refine (HL.out).mono ?_
  rintro e w' ⟨rfl, rfl⟩
  go_wp2_with fail
  refine (HS.out _).mono ?_
  rintro e w1 ⟨g1, rfl, a1, f1, o1⟩
  have hb1 := Arr.bs a1
  rw [HSL.out] at hb1
  have B1 := hq9 hb1
  have D1 := hq9 (HD.out.only0 o1)
  have O1 := hq9 (o1.mono (T := [g, cb]) (by simp))
  clear a1 o1 hb1
  go_wp2_with fail
  refine (nvm_Store_any g cb cap D 0 0 _ 64 64 sl w1 D1.out B1.out (by unfold maxLen; omega)).mono ?_
  rintro e w2 ⟨rfl, d2, o2⟩
  have D2 := hq9 d2
  have O2 := hq9 (O1.out.trans o2 (fun b hb => .inl hb))
  clear d2 o2
  go_wp2_with fail
  refine (HCK.out _).mono ?_
  rintro e w3 ⟨g3, rfl, a3, f3, o3⟩
  have hb3 := Arr.bs a3
  rw [HCL.out] at hb3
  have B3 := hq9 hb3
  have D3 := hq9 (D2.out.only0 o3)
  have O3 := hq9 (O2.out.trans0 o3)
  clear a3 o3 hb3
  go_wp2_with fail
  refine (nvm_Store_any g cb cap _ 1 0 _ 64 64 cl w3 D3.out B3.out (by unfold maxLen; omega)).mono ?_
  rintro e w4 ⟨rfl, d4, o4⟩
  have D4 := hq9 d4
  have O4 := hq9 (O3.out.trans o4 (fun b hb => .inl hb))
  clear d4 o4
  go_wp2_with fail
  refine (nvm_Flush_any g cb cap _ 0 w4 D4.out).mono ?_
  rintro e w5 ⟨rfl, d5, o5⟩
  have D5 := hq9 d5
  have O5 := hq9 (O4.out.trans o5 (fun b hb => .inl hb))
  clear d5 o5
  go_wp2_with fail
  refine (nvm_Flush_any g cb cap _ 1 w5 D5.out).mono ?_
  rintro e w6 ⟨rfl, d6, o6⟩
  have D6 := hq9 d6
  have O6 := hq9 (O5.out.trans o6 (fun b hb => .inl hb))
  clear d6 o6
  go_wp2_with fail
  refine (nvm_Fence g cb cap _ w6 D6.out).mono ?_
  rintro e w7 ⟨rfl, d7, o7⟩
  have D7 := hq9 d7
  have O7 := hq9 (O6.out.trans o7 (fun b hb => .inl hb))
  clear d7 o7
  go_wp2
  go_ret
  exact ⟨rfl, D7.out, O7.out⟩
set_option maxHeartbeats 2000000 in
theorem geom_Open (g cb cap : Nat) (D : Dev) (w : World) (hd : DevAt w g cb cap D) :
  Calls Tryz.prog 194 #[.pointer (some ⟨g, 0, none⟩)] w fun e w' => e = .returned (.tuple #[.int .u64 (openA D).1, .int .i64 (openA D).2]) ∧ Only [] w w' := by
 have HD := hq9 hd
 clear hd
 have hoa : openA D = openA D := rfl
 unfold openA at hoa ⊢
 clear hoa
 generalize hn : (isSuper (bytesAt D 0)).1 = n at *
 generalize hb : (isSuper (bytesAt D 0)).2 = bs at *
 generalize hv : (isClock (bytesAt D 1)).1 = v at *
 generalize hc : (isClock (bytesAt D 1)).2 = bc at *
 have HN := hq9 hn
 have HB := hq9 hb
 have HV := hq9 hv
 have HC := hq9 hc
 clear hn hb hv hc
 cases bs
 ·rw [if_neg (fun h => by cases h.1)]
  go_enter Tryz.func194, Tryz.ntmps194
  go_wp2_with fail
  refine (nvm_Load_any g cb cap D 0 _ HD.out).mono ?_
  rintro e w1 ⟨A1, n1, c1, x1, rfl, b1, f1, o1⟩
  have O1 := hq9 o1
  have B1 := hq9 b1
  clear o1 b1
  go_wp2_with fail
  refine (geom_IsSuper B1.out (by unfold maxLen; omega)).mono ?_
  rintro e w2 ⟨rfl, o2⟩
  have O2 := hq9 (O1.out.trans0 o2)
  clear o2
  rw [HB.out]
  go_wp2
  go_ret2
  exact ⟨rfl, O2.out⟩
 by_cases hnl : n = D.lines.length
 ·have q1 : ((n : Int) != (D.lines.length : Int)) = false := by rw [hnl]; simp
  cases bc
  ·rw [if_neg (fun h => by cases h.2.2)]
   clear hnl
   go_enter Tryz.func194, Tryz.ntmps194
   go_wp2_with fail
   refine (nvm_Load_any g cb cap D 0 _ HD.out).mono ?_
   rintro e w1 ⟨A1, n1, c1, x1, rfl, b1, f1, o1⟩
   have O1 := hq9 o1
   have B1 := hq9 b1
   have D1 := hq9 (HD.out.only0 o1)
   clear o1 b1
   go_wp2_with fail
   refine (geom_IsSuper B1.out (by unfold maxLen; omega)).mono ?_
   rintro e w2 ⟨rfl, o2⟩
   have O2 := hq9 (O1.out.trans0 o2)
   have D2 := hq9 (D1.out.only0 o2)
   clear o2
   rw [HB.out, HN.out]
   go_wp2_with fail
   refine (nvm_Lines g cb cap D _ D2.out).mono ?_
   rintro e w' ⟨rfl, rfl⟩
   go_wp2_with fail
   refine (nvm_Load_any g cb cap D 1 _ D2.out).mono ?_
   rintro e w3 ⟨A3, n3, c3, x3, rfl, b3, f3, o3⟩
   have O3 := hq9 (O2.out.trans0 o3)
   have B3 := hq9 b3
   clear o3 b3
   go_wp2_with fail
   refine (geom_IsClock B3.out (by unfold maxLen; omega)).mono ?_
   rintro e w4 ⟨rfl, o4⟩
   have O4 := hq9 (O3.out.trans0 o4)
   clear o4
   rw [HC.out]
   go_wp2
   go_ret2
   exact ⟨rfl, O4.out⟩
  ·rw [if_pos ⟨rfl, hnl, rfl⟩]
   clear hnl
   by_cases hmx : 1152921504606846976 < v
   all_goals
    first | rw [if_pos hmx] | rw [if_neg hmx]
    have q2 : decide ((1152921504606846976 : Int) < (v : Int)) = decide (1152921504606846976 < v) := by rw [decide_eq_decide]; omega
    first | rw [decide_eq_true hmx] at q2 | rw [decide_eq_false hmx] at q2
    clear hmx
    go_enter Tryz.func194, Tryz.ntmps194
    go_wp2_with fail
    refine (nvm_Load_any g cb cap D 0 _ HD.out).mono ?_
    rintro e w1 ⟨A1, n1, c1, x1, rfl, b1, f1, o1⟩
    have O1 := hq9 o1
    have B1 := hq9 b1
    have D1 := hq9 (HD.out.only0 o1)
    clear o1 b1
    go_wp2_with fail
    refine (geom_IsSuper B1.out (by unfold maxLen; omega)).mono ?_
    rintro e w2 ⟨rfl, o2⟩
    have O2 := hq9 (O1.out.trans0 o2)
    have D2 := hq9 (D1.out.only0 o2)
    clear o2
    rw [HB.out, HN.out]
    go_wp2_with fail
    refine (nvm_Lines g cb cap D _ D2.out).mono ?_
    rintro e w' ⟨rfl, rfl⟩
    go_wp2_with fail
    refine (nvm_Load_any g cb cap D 1 _ D2.out).mono ?_
    rintro e w3 ⟨A3, n3, c3, x3, rfl, b3, f3, o3⟩
    have O3 := hq9 (O2.out.trans0 o3)
    have B3 := hq9 b3
    clear o3 b3
    go_wp2_with fail
    refine (geom_IsClock B3.out (by unfold maxLen; omega)).mono ?_
    rintro e w4 ⟨rfl, o4⟩
    have O4 := hq9 (O3.out.trans0 o4)
    clear o4
    rw [HC.out, HV.out]
    go_wp2
    go_ret2
    exact ⟨rfl, O4.out⟩
 ·rw [if_neg (fun h => hnl h.2.1)]
  have q1 : ((n : Int) != (D.lines.length : Int)) = true := by rw [bne_iff_ne]; omega
  clear hnl
  go_enter Tryz.func194, Tryz.ntmps194
  go_wp2_with fail
  refine (nvm_Load_any g cb cap D 0 _ HD.out).mono ?_
  rintro e w1 ⟨A1, n1, c1, x1, rfl, b1, f1, o1⟩
  have O1 := hq9 o1
  have B1 := hq9 b1
  have D1 := hq9 (HD.out.only0 o1)
  clear o1 b1
  go_wp2_with fail
  refine (geom_IsSuper B1.out (by unfold maxLen; omega)).mono ?_
  rintro e w2 ⟨rfl, o2⟩
  have O2 := hq9 (O1.out.trans0 o2)
  have D2 := hq9 (D1.out.only0 o2)
  clear o2
  rw [HB.out, HN.out]
  go_wp2_with fail
  refine (nvm_Lines g cb cap D _ D2.out).mono ?_
  rintro e w' ⟨rfl, rfl⟩
  go_wp2
  go_ret2
  exact ⟨rfl, O2.out⟩
end Go.Proofs.YtlggichakafkiaaGreat
namespace Go.Proofs.YtlggichakafkiaaGreat
open Go.RowKit Go.Proofs.FuMem Go.Proofs.FuNvm Go.Proofs.FuCode Go.Proofs.FuGeom Go.Proofs.FuCrc Go.Proofs.FuTop Go.Proofs.FuBlock Go.Proofs.FuClass
def Calm (D : Dev) : Prop := ∀ x ∈ D.lines, x.sent = false ∧ x.kept = x.now
def Held (D : Dev) : Prop := ∀ x ∈ D.lines, (x.sent = false ∧ x.kept = x.now) ∨ (x.sent = true ∧ x.way = x.now)
theorem Calm.held {D : Dev} (h : Calm D) : Held D := fun x hx => .inl (h x hx)
theorem bytesAt_get (D : Dev) (i : Nat) : bytesAt D i = ((D.lines[i]?).map (·.now)).getD [] := by
 unfold bytesAt lineOf
 split
 ·rename_i h
  rw [show ((i : Int)).toNat = i from rfl, List.getD_eq_getElem?_getD, List.getElem?_eq_getElem h]
  rfl
 ·rename_i h
  rw [List.getElem?_eq_none (by omega)]
  rfl
theorem bytes_map {D D' : Dev} (f : Line → Line) (h : D'.lines = D.lines.map f) (hf : ∀ x ∈ D.lines, (f x).now = x.now) : bytesAt D' = bytesAt D := by
 funext i
 rw [bytesAt_get, bytesAt_get, h, List.getElem?_map]
 cases hx : D.lines[i]? with
 | none => rfl
 | some x => exact hf x (List.mem_of_getElem? hx)
theorem bytes_mapIdx {D D' : Dev} (f : Nat → Line → Line) (h : D'.lines = D.lines.mapIdx f) (hf : ∀ i, ∀ x ∈ D.lines, (f i x).now = x.now) : bytesAt D' = bytesAt D := by
 funext i
 rw [bytesAt_get, bytesAt_get, h, List.getElem?_mapIdx]
 cases hx : D.lines[i]? with
 | none => rfl
 | some x => exact hf i x (List.mem_of_getElem? hx)
theorem Held.fence {D : Dev} (h : Held D) : Calm (fenceD D) ∧ bytesAt (fenceD D) = bytesAt D ∧ (fenceD D).lines.length = D.lines.length := by
 have hf : ∀ x ∈ D.lines, (fenceL x).now = x.now ∧ (fenceL x).sent = false ∧ (fenceL x).kept = x.now := fun x hx => by
  unfold fenceL
  rcases h x hx with ⟨h1, h2⟩ | ⟨h1, h2⟩
  ·rw [if_neg (by rw [h1]; decide)]
   exact ⟨rfl, h1, h2⟩
  ·rw [if_pos h1]
   exact ⟨rfl, rfl, h2⟩
 refine ⟨fun y hy => ?_, bytes_map fenceL rfl fun x hx => (hf x hx).1, by simp [fenceD]⟩
 obtain ⟨x, hx, rfl⟩ := List.mem_map.1 hy
 obtain ⟨h1, h2, h3⟩ := hf x hx
 exact ⟨h2, h3.trans h1.symm⟩
theorem Calm.cut {D : Dev} (h : Calm D) (keep : List Int) : Calm (cutD D keep) ∧ bytesAt (cutD D keep) = bytesAt D ∧ (cutD D keep).lines.length = D.lines.length := by
 have hf : ∀ i, ∀ x ∈ D.lines, (cutL keep i x).now = x.now ∧ (cutL keep i x).sent = false ∧ (cutL keep i x).kept = x.now := fun i x hx => by
  obtain ⟨h1, h2⟩ := h x hx
  unfold cutL
  rw [if_neg (by rw [h2]; simp)]
  exact ⟨h2, rfl, h2⟩
 refine ⟨fun y hy => ?_, bytes_mapIdx (cutL keep) rfl fun i x hx => (hf i x hx).1, by simp [cutD]⟩
 obtain ⟨i, hi, rfl⟩ := List.mem_mapIdx.1 hy
 obtain ⟨h1, h2, h3⟩ := hf i _ (List.getElem_mem hi)
 exact ⟨h2, h3.trans h1.symm⟩
theorem bytes_set (D : Dev) (i : Nat) (y : Line) (hi : i < D.lines.length) (D' : Dev) (h : D'.lines = D.lines.set i y) : bytesAt D' = setB (bytesAt D) i y.now := by
 funext j
 rw [bytesAt_get, h, List.getElem?_set]
 unfold setB
 by_cases e : i = j
 ·subst e
  rw [if_pos rfl, if_pos hi, if_pos rfl]
  rfl
 ·rw [if_neg e, if_neg (fun h => e h.symm), bytesAt_get]
theorem over_whole {l m : List UInt8} (h : l.length = 64) (h' : m.length = 64) : over l 0 m = m := by
 unfold over
 simp [h, h']
theorem yes_place {n : Nat} {line : Nat} (h : line < n) {m : Nat} (hm : m ≤ 64) : ¬ noPlace n line 0 m := by
 unfold noPlace
 omega
theorem Held.scrub {D : Dev} (h : Held D) (ho : AllOk D.lines) {i : Nat} (hi : i < D.lines.length) {l : List UInt8} (hl : l.length = 64) :
  Held (flush1 (store1 D i 0 l) i) ∧ bytesAt (flush1 (store1 D i 0 l) i) = setB (bytesAt D) i l ∧ (flush1 (store1 D i 0 l) i).lines.length = D.lines.length := by
 obtain ⟨x, hx⟩ : ∃ x, x = D.lines[i] := ⟨_, rfl⟩
 have hxm : x ∈ D.lines := by rw [hx]; exact List.getElem_mem hi
 have hlo : lineOf D i = x := by
  have := lineOf_get hi
  rw [List.getElem?_eq_getElem hi] at this
  injection this with this
  rw [← this, hx]
 have hs : (store1 D i 0 l).lines = D.lines.set i { x with now := l } := by
  unfold store1
  rw [if_neg (yes_place hi (by omega)), hlo]
  show D.lines.set _ { x with now := over x.now 0 l } = _
  rw [over_whole (ho x hxm).1 hl]
  rfl
 have hi2 : i < (store1 D i 0 l).lines.length := by rw [hs, List.length_set]; exact hi
 have hlo2 : lineOf (store1 D i 0 l) i = { x with now := l } := by
  have := lineOf_get hi2
  rw [hs, List.getElem?_set_self hi] at this
  injection this with this
  exact this.symm
 have hf : (flush1 (store1 D i 0 l) i).lines = D.lines.set i { x with now := l, way := l, sent := true } := by
  unfold flush1
  rw [if_neg (show ¬ noPlace (store1 D (i : Int) 0 l).lines.length (i : Int) 0 0 from yes_place hi2 (m := 0) (Nat.zero_le _)), hlo2]
  show (store1 D i 0 l).lines.set _ (flushL { x with now := l }) = _
  rw [hs, show ((i : Int)).toNat = i from rfl, List.set_set]
  rfl
 refine ⟨fun y hy => ?_, bytes_set D i _ hi _ hf, by rw [hf, List.length_set]⟩
 rw [hf] at hy
 rcases List.mem_or_eq_of_mem_set hy with hy | rfl
 ·exact h y hy
 ·exact .inr ⟨rfl, rfl⟩
theorem Calm.hit {D : Dev} (h : Calm D) (k pos : Int) (l : List UInt8) : Calm (back1 (store1 D k pos l) k) ∧ (back1 (store1 D k pos l) k).lines.length = D.lines.length := by
 have hsl : (store1 D k pos l).lines.length = D.lines.length := by
  unfold store1
  split
  ·rfl
  ·simp [storeD]
 by_cases hb : noPlace (store1 D k pos l).lines.length k 0 0
 ·unfold back1
  rw [if_pos hb]
  refine ⟨?_, hsl⟩
  unfold store1
  rw [if_pos (by rw [hsl] at hb; unfold noPlace at hb ⊢; omega)]
  exact h
 ·unfold back1
  rw [if_neg hb]
  refine ⟨fun y hy => ?_, by show ((store1 D k pos l).lines.set _ _).length = _; rw [List.length_set, hsl]⟩
  obtain ⟨z, hz⟩ : ∃ z, (store1 D k pos l).lines.set k.toNat (backL (lineOf (store1 D k pos l) k)) = D.lines.set k.toNat (backL z) := by
   refine ⟨lineOf (store1 D k pos l) k, ?_⟩
   generalize lineOf (store1 D k pos l) k = z
   unfold store1
   split
   ·rfl
   ·show (D.lines.set k.toNat _).set _ _ = _
    rw [List.set_set]
  have hy' : y ∈ D.lines.set k.toNat (backL z) := by rw [← hz]; exact hy
  rcases List.mem_or_eq_of_mem_set hy' with hy2 | rfl
  ·exact h y hy2
  ·exact ⟨rfl, rfl⟩
theorem calm_new (n : Nat) : Calm (newDev n) := fun x hx => by
 unfold newDev at hx
 rw [(List.mem_replicate.1 hx).2]
 exact ⟨rfl, rfl⟩
end Go.Proofs.YtlggichakafkiaaGreat
namespace Go.Proofs.YtlggichakafkiaaGreat
open Go.BigFrame Go.RowKit Go.Proofs.FuMem Go.Proofs.FuTop Go.Proofs.FuNvm
set_option maxRecDepth 100000
def rvHead (gd : Nat) (ph : Int) (e : Nat) (nx : Int) (fv kv : Value) (done : Int) (sv : Value) (why : Int) : Array Value := #[.pointer (some ⟨gd, 0, none⟩), .int .i64 1, .int .i64 ph, .int .u64 e, .int .i64 nx, fv, kv, .int .u32 done, .int .i32 0, .int .u32 0, sv, .int .i64 why]
theorem rv_to (g gd : Nat) (ph q : Int) (e : Nat) (nx : Int) (fv kv : Value) (done : Int) (sv : Value) (why : Int) (w : World) (hb : Blk w g 229 (rvHead gd ph e nx fv kv done sv why)) :
  Calls Tryz.prog 195 #[.pointer (some ⟨g, 0, none⟩), .int .i64 q] w fun r w' => r = .returned (.int .i64 0) ∧ Blk w' g 229 (rvHead gd q e 0 fv kv done sv why) ∧ Only [g] w w' := by
 have c2 : w.cell? ⟨g, 2, none⟩ = some (.int .i64 ph) := hb.cell 2
 have c4 : w.cell? ⟨g, 4, none⟩ = some (.int .i64 nx) := hb.cell 4
 have f2 := hb.frozen 2
 have f4 := hb.frozen 4
 have B2 : Blk (w.setCell ⟨g, 2, none⟩ (.int .i64 q)) g 229 (rvHead gd q e nx fv kv done sv why) := by
  exact hb.set 2 (.int .i64 q)
 have B4 : Blk ((w.setCell ⟨g, 2, none⟩ (.int .i64 q)).setCell ⟨g, 4, none⟩ (.int .i64 0)) g 229 (rvHead gd q e 0 fv kv done sv why) := by
  exact B2.set 4 (.int .i64 0)
 have O4 : Only [g] w ((w.setCell ⟨g, 2, none⟩ (.int .i64 q)).setCell ⟨g, 4, none⟩ (.int .i64 0)) := ((Only.refl [g] w).setCell (p := ⟨g, 2, none⟩) (.inl (by simp)) _).setCell (p := ⟨g, 4, none⟩) (.inl (by simp)) _
 have E4 := hq9 (And.intro B4 O4)
 have c4' : (w.setCell ⟨g, 2, none⟩ (.int .i64 q)).cell? ⟨g, 4, none⟩ = some (.int .i64 nx) := B2.cell 4
 have f4' := B2.frozen 4
 clear hb B2 B4 O4
 go_enter Tryz.func195, Tryz.ntmps195
 go_wp2_with fail
 generalize ((w.setCell ⟨g, 2, none⟩ (.int .i64 q)).setCell ⟨g, 4, none⟩ (.int .i64 0)) = w2 at *
 go_wp2
 go_ret
 exact ⟨rfl, E4.out.1, E4.out.2⟩
theorem openA_same (D : Dev) : openA D = openB D.lines.length (bytesAt D) := rfl
theorem rv_open (g gd cb cap : Nat) (D : Dev) (fv kv : Value) (done : Int) (sv : Value) (why : Int) (w : World) (hb : Blk w g 229 (rvHead gd 0 0 0 fv kv done sv why)) (hd : DevAt w gd cb cap D) :
  Calls Tryz.prog 157 #[.pointer (some ⟨g, 0, none⟩)] w fun r w' => r = .returned (.int .i64 ((openB D.lines.length (bytesAt D)).2 : Nat)) ∧ Blk w' g 229 (if (openB D.lines.length (bytesAt D)).2 = 0 then rvHead gd 1 (openB D.lines.length (bytesAt D)).1 0 fv kv done sv why else rvHead gd 0 0 0 fv kv done sv why) ∧ Only [g] w w' := by
 have HO := hq9 (geom_Open gd cb cap D w hd)
 rw [openA_same] at HO
 generalize openB D.lines.length (bytesAt D) = ans at *
 obtain ⟨e, x⟩ := ans
 have HB := hq9 hb
 have c0 : w.cell? ⟨g, 0, none⟩ = some (.pointer (some ⟨gd, 0, none⟩)) := hb.cell 0
 clear hb hd
 dsimp only at HO ⊢
 by_cases hx : x = 0
 ·subst hx
  rw [if_pos rfl]
  go_enter Tryz.func157, Tryz.ntmps157
  go_wp2_with fail
  refine HO.out.mono ?_
  rintro r w1 ⟨rfl, o1⟩
  have B1 := HB.out.only o1 (by simp)
  have O1 := hq9 o1
  have c3 : w1.cell? ⟨g, 3, none⟩ = some (.int .u64 0) := B1.cell 3
  have f3 := B1.frozen 3
  have B3 : Blk (w1.setCell ⟨g, 3, none⟩ (.int .u64 e)) g 229 (rvHead gd 0 e 0 fv kv done sv why) := by
   exact B1.set 3 (.int .u64 e)
  have BB3 := hq9 B3
  have O3 := hq9 ((o1.mono (T := [g]) (by simp)).setCell (p := ⟨g, 3, none⟩) (.inl (by simp)) (.int .u64 e))
  clear o1 c0 B1 B3
  go_wp2_with fail
  generalize (w1.setCell ⟨g, 3, none⟩ (.int .u64 e)) = w3 at *
  refine (rv_to g gd 0 1 e 0 fv kv done sv why w3 BB3.out).mono ?_
  rintro r w4 ⟨rfl, b4, o4⟩
  have B4 := hq9 b4
  have O4 := hq9 (O3.out.trans o4 (fun b hb => .inl hb))
  clear b4 o4
  go_wp2
  go_ret
  exact ⟨rfl, B4.out, O4.out⟩
 ·rw [if_neg hx]
  have q1 : ((x : Int) != 0) = true := by simpa using hx
  have q2 : ¬ (x : Int) = 0 := by omega
  have HX := hq9 hx
  go_enter Tryz.func157, Tryz.ntmps157
  go_wp2_with fail
  refine HO.out.mono ?_
  rintro r w1 ⟨rfl, o1⟩
  have B1 := hq9 (HB.out.only o1 (by simp))
  have O1 := hq9 (o1.mono (T := [g]) (by simp))
  clear o1 c0
  go_wp2
  go_ret
  exact ⟨rfl, B1.out, O1.out⟩
end Go.Proofs.YtlggichakafkiaaGreat