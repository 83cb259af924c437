/- The contracts of the reference of chapter 4 on lines, second part. -/
import Derived.Test.YtecdalmnndalgaaGeomRef
namespace Go.Proofs.Ytecdalmnndalgaa
open Go.RowKit Go.Proofs.FuMem Go.Proofs.FuCode Go.Proofs.FuCrc Go.Proofs.FuGeom
set_option maxRecDepth 100000

theorem ref4_Clock (v : Nat) (w : World) (hv : v < 18446744073709551616) :
    Calls Try.prog 50 #[.int .u64 v] w fun e w' => ∃ A c, e = .returned (.slice A 64 c) ∧ w'.ownsRow w.heap.size 5 1 (.slice A 64 c) 64 ((clockL v).map B) ∧ Only [] w w' := by
  have hlay := fun w => ref2_Lay 8 v w (by omega) hv
  have ho0 : (w.alloc (.cells #[.int .u8 3] 5)).ownsRow w.heap.size 5 1 (.slice (some ⟨w.heap.size, 0, none⟩) 1 1) 1 [.int .u8 3] := World.ownsRow_lit w #[.int .u8 3] 1 (Nat.le_refl _) (by decide) rfl
  have hn0 : Only [] w (w.alloc (.cells #[.int .u8 3] 5)) := (Only.refl _ _).alloc _
  obtain ⟨i0, hi, hz0, hz1, hz2⟩ := info_parts Try.byteInfo
  have HI := Lib.hid hi
  have HZ0 := Lib.hid hz0
  have HZ1 := Lib.hid hz1
  have HZ2 := Lib.hid hz2
  have HY := Lib.hid hlay
  have HO0 := Lib.hid ho0
  have HN0 := Lib.hid hn0
  clear hlay hi hz0 hz1 hz2 ho0 hn0
  go_enter Try.func50, Try.ntmps50
  go_wp2_with fail
  refine (HY.out _).mono ?_
  rintro e w1 ⟨_, rfl, A1, c1, rfl, m1, o1⟩
  rw [lay_length] at m1 ⊢
  have hown := own_only HO0.out o1 (by simp)
  have hon := HN0.out.trans0 o1
  obtain ⟨A2, c2, w2, hr, ho2, hs2, on2⟩ := append_own (P := Try.prog) w1 hon 48 48 5 i0 _ 1 Try.underlying48 HI.out HZ0.out HZ1.out HZ2.out rfl _ 1 _ hown A1 8 c1 _ (Sl.of_own m1) one_B (by unfold maxLen; omega) (by omega)
  have he : [Value.int .u8 3] ++ (lay 8 v).map B = (clockHead v).map B := rfl
  rw [he] at ho2
  have H2 := Lib.hid ho2
  have N2 := Lib.hid on2
  clear hown hon ho2 hs2 on2 m1 o1 he
  go_wp2_with (at_builtin; refine wpList_append_run _ rfl (.tmp 3) (.tmp 5) 48 rfl _ _ rfl rfl _ _ hr ?_)
  refine (ref4_whole A2 c2 (clockHead v) w2 H2.out N2.out).mono ?_
  rintro e w3 ⟨A3, c3, rfl, m3, o3⟩
  have H3 := Lib.hid m3
  have N3 := Lib.hid o3
  clear m3 o3 hr
  go_wp2
  go_ret
  exact ⟨A3, c3, rfl, H3.out, N3.out⟩
/-- no line of a superblock of fewer lines is it -/
def NoSuper (l : List UInt8) (k : Nat) : Prop := ∀ j, 10 ≤ j → j < k → superL j ≠ l
theorem isSuper_found {l : List UInt8} {k : Nat} (h1 : 10 ≤ k) (h2 : k ≤ 258) (h : superL k = l) : isSuper l = (k, true) := by rw [← h, isSuper_superL k h1 h2]
theorem isSuper_none {l : List UInt8} (h : NoSuper l 259) : isSuper l = (0, false) := by
  unfold isSuper
  rw [if_neg]
  rintro ⟨_, h1, h2, h3⟩
  exact h _ h1 (by omega) h3.symm
end Go.Proofs.Ytecdalmnndalgaa
