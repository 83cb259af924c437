/- The contracts of package geom on lines, second part. -/
import Derived.Test.YtecdalmnndalgaaGeom
namespace Go.Proofs.Ytecdalmnndalgaa
open Go.RowKit Go.Proofs.FuMem Go.Proofs.FuCode Go.Proofs.FuCrc Go.Proofs.FuGeom
set_option maxRecDepth 100000

theorem nine (w : World) (g : Nat) (hg : g = w.heap.size) (a b c d e f h i j : UInt8) (xs : Array Value) (hx : xs = ([a, b, c, d, e, f, h, i, j].map B).toArray) :
    Bs (w.alloc (.cells xs 5)) (some ⟨g, 0, none⟩) 9 [a, b, c, d, e, f, h, i, j] := by
  subst hg hx
  exact Sl.of_blk (Blk.new w 5 _) 0 (by simp) (by simp)
set_option maxHeartbeats 400000 in
theorem geom_clock (v : Nat) (w : World) (hv : v < 18446744073709551616) :
    Calls Try.prog 46 #[.int .u64 v] w fun e w' => e = .returned (arrV (clockL v)) ∧ Only [] w w' := by
  have hp : ∀ (w' : World) (b : Nat), Bs w' (some ⟨b, 0, none⟩) 9 [3, 0, 0, 0, 0, 0, 0, 0, 0] → Calls Try.prog 68 #[.slice (some ⟨b, 0, none⟩) 9 9, .int .i64 1, .int .i64 8, .int .u64 v] w' fun e w'' => ∃ A c, e = .returned (.tuple #[.slice A 9 c, .int .i64 0]) ∧ Bs w'' A 9 (clockHead v) ∧ Only [] w' w'' := fun w' b hb => by
    have h1 := code_Put _ 9 9 _ 1 8 v w' hb (by omega) (by omega) (by omega) (by omega)
    rw [put_clock v hv] at h1
    refine h1.mono ?_
    rintro e w'' ⟨_, rfl, A1, c1, rfl, ho, on⟩
    rw [clockHead_length] at ho ⊢
    exact ⟨A1, c1, rfl, bs_own ho, on⟩
  have HP := Lib.hid hp
  have hL : (Try.prog.info? 97).map (·.size) = some (clockL v).length := by rw [clockL_length]; exact rowSize
  have hZ : (zer 64).length = (clockL v).length := by rw [clockL_length]; simp [zer]
  have HL := Lib.hid hL
  have HZ := Lib.hid hZ
  clear hp hL hZ
  go_enter Try.func46, Try.ntmps46
  go_wp2_with ((with_reducible show wpList _ _ _ (Oper.mk (some 2) _ _ _ _ _ :: _) _ _); refine wpList_alloc_arr rfl 97 rfl _ rowZero ?_; intro w1 hb1 ho1 hs1)
  refine (HP.out _ _ (by exact nine w1 _ (by simp [hs1]) 3 0 0 0 0 0 0 0 0 _ rfl)).mono ?_
  rintro e w2 ⟨A2, c2, rfl, b2, o2⟩
  have on1 := (Only.refl [] w1).alloc (.cells ([3, 0, 0, 0, 0, 0, 0, 0, 0].map B).toArray 5)
  have hx := hb1.only (on1.trans0 o2) (by simp)
  have HX := Lib.hid hx
  have HB := Lib.hid b2
  have HN := Lib.hid (ho1.trans0 (on1.trans0 o2))
  have hsz := (ho1.trans0 (on1.trans0 o2)).size
  clear on1 hx b2 o2 hb1 ho1
  go_wp2_with fail
  refine (geom_sealed A2 c2 (clockHead v) _ HB.out).mono ?_
  rintro e w3 ⟨rfl, o3⟩
  have hx3 := HX.out.only o3 (by simp)
  have HN3 := Lib.hid (HN.out.trans0 o3)
  have hZ := HZ.out
  have hL := HL.out
  have HX3 := Lib.hid hx3
  clear o3 hx3
  go_wp2_with ((with_reducible show wpList _ _ _ (Oper.mk none _ _ _ _ _ :: _) _ _); refine wpList_store_arr rfl 97 (.tmp 2) (.tmp 12) rfl w.heap.size (clockL v) rfl rfl _ (zer 64) HX3.out HZ.out HL.out ?_; intro w6 hb6 ho6 hs6)
  refine bodyPost_ret (v := arrV (clockL v)) (results_cell_row rfl _ _ _ _ _ _ _ rfl hb6 Try.underlying97 rfl (by rw [rowSize]; simp [clockL_length])) rfl ⟨rfl, HN3.out.trans ho6 ?_⟩
  simp
end Go.Proofs.Ytecdalmnndalgaa
