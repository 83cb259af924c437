/- The contracts of package geom on lines. -/
import Derived.Test.YtecdalmnndalgaaSum
import Derived.Test.YtecdalmnndalgaaCodeRef
import Derived.Test.YtecdalmnndalgaaGeomP
import Derived.Test.YtecdalmnndalgaaMemC
import Derived.Deep.RegionWith
import Derived.Deep.QuietTactic
import Derived.BigQuiet
namespace Go.Proofs.Ytecdalmnndalgaa
open Go.RowKit Go.Proofs.FuMem Go.Proofs.FuCode Go.Proofs.FuCrc Go.Proofs.FuGeom
set_option maxRecDepth 100000

theorem rowSize : (Try.prog.info? 97).map (·.size) = some 64 := by kernel_rfl
theorem rowZero : (Try.prog.info? 97).map (·.zero) = some (some (arrV (zer 64))) := by kernel_rfl
theorem rowGuard : Try.prog.eqGuardType Try.prog.depth 97 = false := by kernel_rfl
theorem byteSize : (Try.prog.info? 5).map (·.size) = some 1 := by kernel_rfl
set_option maxHeartbeats 400000 in
theorem geom_sealed (A : Option Addr) (c : Nat) (l : List UInt8) (w : World) (h : Bs w A 9 l) :
    Calls Try.prog 69 #[.slice A 9 c] w fun e w' => e = .returned (arrV (sgn l)) ∧ Only [] w w' := by
  have HB := Lib.hid h
  have HL := Lib.hid h.len
  clear h
  have hc := crc_lt l
  have hlen : (l ++ zer 55).length = 64 := by rw [List.length_append, HL.out, zer_length]
  have hput : ∀ (w' : World) (b : Nat), Bs w' (some ⟨b, 0, none⟩) 64 (l ++ zer 55) → Calls Try.prog 68 #[.slice (some ⟨b, 0, none⟩) 64 64, .int .i64 9, .int .i64 4, .int .u64 (crc l)] w' fun e w'' => ∃ A c, e = .returned (.tuple #[.slice A 64 c, .int .i64 0]) ∧ Bs w'' A 64 (sgn l) ∧ Only [] w' w'' := fun w' b hb => by
    have h1 := code_Put _ 64 64 (l ++ zer 55) 9 4 (crc l) w' hb (by omega) (by omega) (by omega) (by omega)
    rw [put_sgn HL.out] at h1
    refine h1.mono ?_
    rintro e w'' ⟨_, rfl, A1, c1, rfl, ho, on⟩
    rw [sgn_length HL.out] at ho ⊢
    exact ⟨A1, c1, rfl, bs_own ho, on⟩
  have HP := Lib.hid hput
  clear hput
  go_enter Try.func69, Try.ntmps69
  go_wp2_with (first
    | ((with_reducible show wpList _ _ _ (Oper.mk (some 2) _ _ _ _ _ :: _) _ _); refine wpList_alloc_arr rfl 97 rfl _ rowZero ?_; intro w1 hb1 ho1 hs1)
    | ((with_reducible show wpList _ _ _ (Oper.mk (some 3) _ _ _ _ _ :: _) _ _); refine wpList_alloc_arr rfl 97 rfl _ rowZero ?_; intro w2 hb2 ho2 hs2; rw [hs1] at hb2 hs2)
    | ((with_reducible show wpList _ _ _ (Oper.mk (some 8) _ _ _ _ _ :: _) _ _); refine wpList_copy_arr rfl (.tmp 6) (.tmp 7) 48 48 rfl 5 Try.underlying48 byteSize _ 0 64 64 A 9 c rfl rfl _ _ hb2 (by simp [zer]) l ((HB.out.only0 ho1).only0 ho2) ?_; intro w3 hb3 ho3 hs3))
  have e3 : over (zer 64) 0 (l.take 64) = l ++ zer 55 := by
    rw [List.take_of_length_le (by rw [HL.out]; omega)]
    unfold over
    rw [HL.out]
    simp [zer]
  rw [e3] at hb3
  clear e3
  have hb1' := (hb1.only ho2 (by simp)).only ho3 (by simp)
  have hbl := ((HB.out.only0 ho1).only0 ho2).only ho3 (by
    intro b off s e hb
    rw [List.mem_singleton] at hb
    subst hb
    exact absurd (Sl.lt HB.out (by omega) e) (by omega))
  have on3 := (ho1.trans0 ho2).trans ho3 (by simp)
  have B3 := hb3.bs
  rw [hlen] at B3
  have HB3 := Lib.hid B3
  have HA3 := Lib.hid hb3
  have HA1 := Lib.hid hb1'
  have HBL := Lib.hid hbl
  have HO3 := Lib.hid on3
  clear hb1 ho1 hb2 ho2 hb3 ho3 hb1' hbl on3 hlen B3
  have hw64 : IntKind.u64.wrap ((crc l : Nat) : Int) = (crc l : Int) := by rw [IntKind.wrap_u64]; omega
  go_region_with (first
    | (go_at_call 76; refine (sum_Sum A 9 c l _ (by exact HBL.out.only0 (Only.refl _ _).drew) (by decide)).mono ?_; rintro e w' ⟨rfl, rfl⟩)
    | (go_at_call 68; refine (HP.out _ _ (by exact HB3.out.only0 (Only.refl _ _).drew)).mono ?_; rintro e w4 ⟨A4, c4, rfl, b4, o4⟩))
  have o34 := (Only.refl [] w3).drew.trans0 o4
  have a4 := HA3.out.only o34 (by simp)
  have a4' := HA1.out.only o34 (by simp)
  have on4 := HO3.out.trans0 o34
  have hbs := sgn_length HL.out
  have h4s := o34.size
  have HA4 := Lib.hid a4
  have HA4' := Lib.hid a4'
  have HN4 := Lib.hid on4
  have HB4 := Lib.hid b4
  have HLS := Lib.hid hbs
  clear o34 a4 a4' on4 hbs b4 o4 hw64 HA3 HA1 HO3 HBL HB3 HP
  have X1 := HA4.out
  have X2 := HB4.out
  have hl64 : (l ++ zer 55).length = 64 := by rw [List.length_append, HL.out, zer_length]
  have X3 : 0 + 64 ≤ (l ++ zer 55).length := by omega
  have X4 : (Try.prog.info? 97).map (·.size) = some (sgn l).length := by rw [HLS.out]; exact rowSize
  have X5 : (zer 64).length = (sgn l).length := by rw [HLS.out]; simp [zer]
  have X6 := over_all (sgn l) (l ++ zer 55) 64 HLS.out hl64
  have H6 := Lib.hid X6
  have H4 := Lib.hid X4
  have H5 := Lib.hid X5
  clear X4 X5 X6 hl64
  go_wp2_with (first
    | ((with_reducible show wpList _ _ _ (Oper.mk (some 19) _ _ _ _ _ :: _) _ _); refine wpList_copy_arr rfl (.tmp 17) (.tmp 18) 48 48 rfl 5 Try.underlying48 byteSize (w.heap.size + 1) 0 64 64 A4 64 c4 rfl rfl _ _ X1 X3 (sgn l) X2 ?_; intro w5 hb5 ho5 hs5; rw [H6.out] at hb5; have Y1 := hb5.bs; have Y2 := HA4'.out.only ho5 (by simp))
    | ((with_reducible show wpList _ _ _ (Oper.mk (some 20) _ _ _ _ _ :: _) _ _); refine wpList_load_arr rfl 97 (.tmp 3) rfl (w.heap.size + 1) 0 rfl (sgn l) Y1 64 5 Try.underlying97 H4.out ?_)
    | ((with_reducible show wpList _ _ _ (Oper.mk none _ _ _ _ _ :: _) _ _); refine wpList_store_arr rfl 97 (.tmp 2) (.tmp 20) rfl w.heap.size (sgn l) rfl rfl _ (zer 64) Y2 H5.out H4.out ?_; intro w6 hb6 ho6 hs6))
  refine bodyPost_ret (v := arrV (sgn l)) (results_cell_row rfl _ _ _ _ _ _ _ rfl hb6 Try.underlying97 rfl (by rw [rowSize]; simp [HLS.out])) rfl ⟨rfl, (HN4.out.trans ho5 ?_).trans ho6 ?_⟩
  all_goals simp
end Go.Proofs.Ytecdalmnndalgaa
