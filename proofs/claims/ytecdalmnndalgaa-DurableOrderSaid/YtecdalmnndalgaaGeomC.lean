/- The contracts of package geom on lines, third part: what is told of bytes. -/
import Derived.Test.YtecdalmnndalgaaGeomB
namespace Go.Proofs.Ytecdalmnndalgaa
open Go.RowKit Go.Proofs.FuMem Go.Proofs.FuCode Go.Proofs.FuCrc Go.Proofs.FuGeom
set_option maxRecDepth 100000

theorem geom_whole_no (A : Option Addr) (n c : Nat) (w : World) (_hn : n ≤ maxLen) (h64 : n ≠ 64) :
    Calls Try.prog 44 #[.slice A n c] w fun e w' => e = .returned (.tuple #[arrV (zer 64), .bool false]) ∧ Only [] w w' := by
  have d1 : ((n : Int) != 64) = true := by rw [bne_iff_ne]; omega
  have hL : (Try.prog.info? 97).map (·.size) = some (zer 64).length := by rw [zer_length]; exact rowSize
  obtain ⟨i0, hi, hz0, hz1, hz2⟩ := info_parts Try.byteInfo
  have HL := Lib.hid hL
  have HI := Lib.hid hi
  clear hL hi hz0 hz1 hz2 h64
  go_enter Try.func44, Try.ntmps44
  go_wp2_with (first
    | ((with_reducible show wpList _ _ _ (Oper.mk (some 2) _ _ _ _ _ :: _) _ _); refine wpList_alloc_arr rfl 97 rfl _ rowZero ?_; intro w1 hb1 ho1 hs1)
    | ((with_reducible show wpList _ _ _ (Oper.mk (some 7) _ _ _ _ _ :: _) _ _); refine wpList_build_zero rfl 97 rfl (zer 64) rowZero 64 5 Try.underlying97 i0 HI.out ?_)
    | ((with_reducible show wpList _ _ _ (Oper.mk none _ _ _ _ _ :: _) _ _); refine wpList_store_arr rfl 97 (.tmp 2) (.tmp 7) rfl w.heap.size (zer 64) rfl rfl _ (zer 64) hb1 rfl HL.out ?_; intro w6 hb6 ho6 hs6))
  refine bodyPost_ret (results_arr_tmp rfl _ _ _ _ hb6 rfl 64 5 Try.underlying97 HL.out) rfl ⟨rfl, ho1.trans ho6 ?_⟩
  simp
theorem geom_whole_yes (b off c : Nat) (l : List UInt8) (w : World) (h : Bs w (some ⟨b, off, none⟩) 64 l) :
    Calls Try.prog 44 #[.slice (some ⟨b, off, none⟩) 64 c] w fun e w' => e = .returned (.tuple #[arrV l, .bool true]) ∧ Only [] w w' := by
  have hl := h.len
  have hL : (Try.prog.info? 97).map (·.size) = some l.length := by rw [hl]; exact rowSize
  have hZ : (zer 64).length = l.length := by rw [hl]; simp [zer]
  have h' := h
  rw [← hl] at h'
  have HX := Lib.hid h'
  have HL := Lib.hid hL
  have HZ := Lib.hid hZ
  have harr : ∀ w, (Instr.arrayAt 97 (.slice (some ⟨b, off, none⟩) 64 c)).run Try.prog w = .ok (.pointer (some ⟨b, off, none⟩)) w := fun w => by simp [Instr.arrayAt, run_underlying Try.underlying97]
  clear h h' hl hL hZ
  go_enter Try.func44, Try.ntmps44
  go_wp2_with (first
    | ((with_reducible show wpList _ _ _ (Oper.mk (some 2) _ _ _ _ _ :: _) _ _); refine wpList_alloc_arr rfl 97 rfl _ rowZero ?_; intro w1 hb1 ho1 hs1; have hx := HX.out.only0 ho1)
    | ((with_reducible show wpList _ _ _ (Oper.mk (some 10) _ _ _ _ _ :: _) _ _); refine wpList_load_arr rfl 97 (.tmp 9) rfl b off rfl l hx 64 5 Try.underlying97 HL.out ?_)
    | ((with_reducible show wpList _ _ _ (Oper.mk none _ _ _ _ _ :: _) _ _); refine wpList_store_arr rfl 97 (.tmp 2) (.tmp 10) rfl w.heap.size l rfl rfl _ (zer 64) hb1 HZ.out HL.out ?_; intro w6 hb6 ho6 hs6))
  refine bodyPost_ret (results_arr_tmp rfl _ _ _ _ hb6 rfl 64 5 Try.underlying97 HL.out) rfl ⟨rfl, ho1.trans ho6 ?_⟩
  simp
theorem geom_Clock (v : Nat) (w : World) (hv : v < 18446744073709551616) :
    Calls Try.prog 74 #[.int .u64 v] w fun e w' => ∃ g, e = .returned (.slice (some ⟨g, 0, none⟩) 64 64) ∧ Arr w' g 97 (clockL v) ∧ w.heap.size ≤ g ∧ Only [] w w' := by
  have hL : (Try.prog.info? 97).map (·.size) = some (clockL v).length := by rw [clockL_length]; exact rowSize
  have hZ : (zer 64).length = (clockL v).length := by rw [clockL_length]; simp [zer]
  have HL := Lib.hid hL
  have HZ := Lib.hid hZ
  clear hL hZ
  go_enter Try.func74, Try.ntmps74
  go_wp2_with fail
  refine (geom_clock v _ hv).mono ?_
  rintro e w1 ⟨rfl, o1⟩
  have h1 := o1.size
  go_wp2_with (first
    | ((with_reducible show wpList _ _ _ (Oper.mk (some 3) _ _ _ _ _ :: _) _ _); refine wpList_alloc_arr rfl 97 rfl _ rowZero ?_; intro w2 hb2 ho2 hs2)
    | ((with_reducible show wpList _ _ _ (Oper.mk none _ _ _ _ _ :: _) _ _); refine wpList_store_arr rfl 97 (.tmp 3) (.tmp 5) rfl w1.heap.size (clockL v) rfl rfl _ (zer 64) hb2 HZ.out HL.out ?_; intro w6 hb6 ho6 hs6))
  go_ret
  exact ⟨w1.heap.size, rfl, hb6, h1, (o1.trans0 ho2).trans ho6 (by simpa using h1)⟩
end Go.Proofs.Ytecdalmnndalgaa
