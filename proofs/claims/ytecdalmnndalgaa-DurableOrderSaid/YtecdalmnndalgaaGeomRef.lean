/- The contracts of the reference of chapter 4 on lines; of Slabs on both sides. -/
import Derived.Test.YtecdalmnndalgaaGeomD
import Derived.Test.YtecdalmnndalgaaClassB
import Derived.Test.YtecdalmnndalgaaLaw1
namespace Go.Proofs.Ytecdalmnndalgaa
open Go.RowKit Go.Proofs.FuMem Go.Proofs.FuCode Go.Proofs.FuCrc Go.Proofs.FuGeom
set_option maxRecDepth 100000

def slabsOf (n : Int) : Int := if n < 10 then 0 else if 258 < n then 32 else (n - 2) / 8
theorem slabsOf_mid {n : Int} (h1 : 10 ≤ n) (h2 : n ≤ 258) : slabsOf n = (n - 2) / 8 := by unfold slabsOf; rw [if_neg (by omega), if_neg (by omega)]
theorem slabsOf_hi {n : Int} (h1 : 258 ≤ n) : slabsOf n = 32 := by unfold slabsOf; split; omega; split <;> omega
def padTo (h : List UInt8) (j : Nat) : List UInt8 := h ++ lay 4 (crc h) ++ zer (j - 13)
theorem padTo_length {h : List UInt8} (hl : h.length = 9) (j : Nat) (hj : 13 ≤ j) : (padTo h j).length = j := by simp [padTo, hl, lay_length, zer_length]; omega
theorem padTo_13 (h : List UInt8) : padTo h 13 = h ++ lay 4 (crc h) := by simp [padTo, zer]
theorem padTo_64 (h : List UInt8) : padTo h 64 = sgn h := rfl
theorem padTo_succ (h : List UInt8) (j : Nat) (hj : 13 ≤ j) : (padTo h j).map B ++ [Value.int .u8 0] = (padTo h (j + 1)).map B := by
  unfold padTo
  rw [show j + 1 - 13 = (j - 13) + 1 by omega]
  simp [zer, List.replicate_succ', B]
theorem ref4_whole {w0 : World} (A : Option Addr) (c : Nat) (l : List UInt8) (w : World) (h : w.ownsRow w0.heap.size 5 1 (.slice A 9 c) 9 (l.map B)) (on : Only [] w0 w) :
    Calls Try.prog 70 #[.slice A 9 c] w fun e w' => ∃ A' c', e = .returned (.slice A' 64 c') ∧ w'.ownsRow w0.heap.size 5 1 (.slice A' 64 c') 64 ((sgn l).map B) ∧ Only [] w0 w' := by
  have hl : l.length = 9 := by simpa using h.1
  have hc := crc_lt l
  have hs := ref1_Sum A 9 c l w (bs_own h) (by decide)
  have hlay := fun w => ref2_Lay 4 (crc l) w (by omega) (by omega)
  obtain ⟨i0, hi, hz0, hz1, hz2⟩ := info_parts Try.byteInfo
  have HI := Lib.hid hi
  have HZ0 := Lib.hid hz0
  have HZ1 := Lib.hid hz1
  have HZ2 := Lib.hid hz2
  have HO := Lib.hid h
  have HN := Lib.hid on
  have HL := Lib.hid hl
  have HS := Lib.hid hs
  have HY := Lib.hid hlay
  clear h on hl hs hlay hi hz0 hz1 hz2
  go_enter Try.func70, Try.ntmps70
  go_wp2_with fail
  refine (HS.out).mono ?_
  rintro e w' ⟨rfl, rfl⟩
  go_wp2_with fail
  refine (HY.out _).mono ?_
  rintro e w1 ⟨_, rfl, A1, c1, rfl, m1, o1⟩
  rw [lay_length] at m1 ⊢
  have hown := own_only HO.out o1 (by simp)
  have hon := HN.out.trans0 o1
  obtain ⟨A2, c2, w2, hr, ho2, hs2, on2⟩ := append_own (P := Try.prog) w1 hon 48 48 5 i0 _ 1 Try.underlying48 HI.out HZ0.out HZ1.out HZ2.out rfl _ 9 _ hown A1 4 c1 _ (Sl.of_own m1) one_B (by unfold maxLen; omega) (by omega)
  rw [← List.map_append, ← padTo_13] at ho2
  have H2 := Lib.hid ho2
  have N2 := Lib.hid on2
  clear hown hon ho2 hs2 on2 m1 o1
  go_wp2_with (at_builtin; refine wpList_append_run _ rfl (.tmp 3) (.tmp 7) 48 rfl _ _ rfl rfl _ _ hr ?_)
  go_loopw [0] (fun b wr => ∃ (j : Nat) (A : Option Addr) (c : Nat), 13 ≤ j ∧ j ≤ 64 ∧ b = .slice A j c ∧ wr.ownsRow w0.heap.size 5 1 (.slice A j c) j ((padTo l j).map B) ∧ Only [] w0 wr) (fun b _ => 64 - (match b with | .slice _ n _ => n | _ => 0))
  case atStart => exact ⟨13, A2, c2, by omega, by omega, rfl, H2.out, N2.out⟩
  case round =>
    obtain ⟨j, A3, c3, hj1, hj2, rfl, ho, on⟩ := hrel
    by_cases hlt : j < 64
    · obtain ⟨A4, c4, w4, hr4, ho4, hs4, on4⟩ := append_own (P := Try.prog) (wr.alloc (.cells #[.int .u8 0] 5)) (on.alloc _) 48 48 5 i0 _ 1 Try.underlying48 HI.out HZ0.out HZ1.out HZ2.out rfl _ j _ (ho.alloc _) (some ⟨wr.heap.size, 0, none⟩) 1 1 [.int .u8 0] (cell_new1 _ _ _) (ints_new1 _ _) (by unfold maxLen; omega) (by omega)
      rw [padTo_succ l j hj1] at ho4
      have H4 := Lib.hid ho4
      have N4 := Lib.hid on4
      clear ho on ho4 hs4 on4 hr
      go_wp2_with (at_builtin; refine wpList_append_run _ rfl (.tmp 12) (.tmp 13) 48 rfl _ _ rfl rfl _ _ hr4 ?_)
      go_roundw
      case rel => exact ⟨j + 1, A4, c4, by omega, by omega, rfl, H4.out, N4.out⟩
      case measure => simp; omega
    · obtain rfl : j = 64 := by omega
      rw [padTo_64] at ho
      have H4 := Lib.hid ho
      have N4 := Lib.hid on
      clear ho on hr
      go_wp2
      go_ret
      exact ⟨A3, c3, rfl, H4.out, N4.out⟩
end Go.Proofs.Ytecdalmnndalgaa
