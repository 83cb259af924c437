/- The walks of the statements on code. -/
import Derived.Test.YtecdalmnndalgaaCodeRef
namespace Go.Proofs.Ytecdalmnndalgaa
open Go.RowKit Go.Proofs.FuMem Go.Proofs.FuCode
set_option maxRecDepth 100000

theorem law0_Num (x : Int) (w : World) : Calls Try.prog 26 #[.int .i64 x] w fun e w' => e = .returned (.int .i64 x) ∧ w = w' := by
  go_enter Try.func26, Try.ntmps26
  go_wp2
  go_ret
  exact ⟨rfl, rfl⟩
theorem Lent.only {w w' : World} {S : List Nat} {g : Nat} {l : List UInt8} (h : Lent w g l) (ho : Only S w w') (hs : g ∉ S) : Lent w' g l := (ho.block g h.lt hs).trans h
theorem put_digits : put [0, 0, 0] 1 2 258 = ([0, 2, 1], 0) := by decide +kernel
theorem get_digits : cget [0, 2, 1] 1 2 = (258, 0) := by decide +kernel
theorem three (w : World) (x y z : Int) (a b c : UInt8) (ha : x = a.toNat) (hb : y = b.toNat) (hc : z = c.toNat) : Bs (w.alloc (.cells #[.int .u8 x, .int .u8 y, .int .u8 z] 5)) (some ⟨w.heap.size, 0, none⟩) 3 [a, b, c] := by
  subst ha hb hc
  exact Sl.of_blk (Blk.new w 5 #[.int .u8 (a.toNat : Int), .int .u8 (b.toNat : Int), .int .u8 (c.toNat : Int)]) 0 rfl (by simp)
theorem three' (w : World) (g : Nat) (x y z : Int) (a b c : UInt8) (hg : g = w.heap.size) (ha : x = a.toNat) (hb : y = b.toNat) (hc : z = c.toNat) : Bs (w.alloc (.cells #[.int .u8 x, .int .u8 y, .int .u8 z] 5)) (some ⟨g, 0, none⟩) 3 [a, b, c] := by
  subst hg
  exact three w x y z a b c ha hb hc
theorem awake_put (w : World) : Calls Try.prog 68 #[.slice (some ⟨w.heap.size, 0, none⟩) 3 3, .int .i64 1, .int .i64 2, .int .u64 258] (w.alloc (.cells #[.int .u8 0, .int .u8 0, .int .u8 0] 5)) fun e w' => ∃ A c, e = .returned (.tuple #[.slice A 3 c, .int .i64 0]) ∧ Bs w' A 3 [0, 2, 1] ∧ Only [] w w' := by
  have hp := code_Put _ 3 3 _ 1 2 258 _ (three w 0 0 0 0 0 0 rfl rfl rfl) (by omega) (by omega) (by omega) (by omega)
  rw [put_digits] at hp
  refine hp.mono ?_
  rintro e w1 ⟨_, rfl, A1, c1, rfl, ho, on⟩
  exact ⟨A1, c1, rfl, bs_own ho, ((Only.refl _ _).alloc _).trans0 on⟩
theorem awake_get (w : World) : Calls Try.prog 45 #[.slice (some ⟨w.heap.size, 0, none⟩) 3 3, .int .i64 1, .int .i64 2] (w.alloc (.cells #[.int .u8 0, .int .u8 2, .int .u8 1] 5)) fun e w' => e = .returned (.tuple #[.int .u64 258, .int .i64 0]) ∧ (w.alloc (.cells #[.int .u8 0, .int .u8 2, .int .u8 1] 5)) = w' := by
  have hg := code_Get _ 3 3 _ 1 2 _ (three w 0 2 1 0 2 1 rfl rfl rfl) (by omega) (by omega) (by omega)
  rw [get_digits] at hg
  exact hg
end Go.Proofs.Ytecdalmnndalgaa
