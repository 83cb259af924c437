/- The contracts of the reference of chapter 2, and of OverBytes. -/
import Derived.Test.YtecdalmnndalgaaCodeGet
import Derived.Test.YtecdalmnndalgaaXor8
namespace Go.Proofs.Ytecdalmnndalgaa
open Go.RowKit Go.Proofs.FuMem Go.Proofs.FuCode
set_option maxRecDepth 100000

theorem lay_next (v j y : Nat) (hy : y = v / 256 ^ j) : (lay j v).map B ++ [Value.int .u8 ((y : Int) % 256)] = (lay (j + 1) v).map B := by
  rw [lay_succ, List.map_append, ← hy]
  congr 1
  simp only [List.map_cons, List.map_nil, B, ofNat_mod]
  rw [Int.natCast_emod]
  rfl
theorem one_ints (k : IntKind) (z : Int) : ∀ u ∈ [Value.int k z], u.oneCell' = true := by
  intro u hu
  rw [List.mem_singleton] at hu
  subst hu
  rfl
theorem one_cell (w : World) (t : TypeId) (v : Value) : Sl (w.alloc (.cells #[v] t)) (some ⟨w.heap.size, 0, none⟩) 1 [v] := Sl.of_blk (Blk.new w t #[v]) 0 rfl (by simp)
theorem ref2_Lay (k v : Nat) (w : World) (hk : k ≤ 8) (hv : v < 18446744073709551616) :
    Calls Try.prog 71 #[.int .i64 k, .int .u64 v] w fun e w' => ∃ x, e = .returned x ∧ MadeB w (lay k v) x w' := by
  obtain ⟨i0, hi, hz0, hz1, hz2⟩ := info_parts Try.byteInfo
  have HI := Lib.hid hi
  have HZ0 := Lib.hid hz0
  have HZ1 := Lib.hid hz1
  have HZ2 := Lib.hid hz2
  clear hi hz0 hz1 hz2
  go_enter Try.func71, Try.ntmps71
  go_wp2
  go_loopw [1, 5, 6] (fun x b i wr => ∃ j y : Nat, j ≤ k ∧ i = .int .i64 j ∧ x = .int .u64 (y : Int) ∧ y = v / 256 ^ j ∧ wr.ownsRow w.heap.size 5 1 b j ((lay j v).map B) ∧ Only [] w wr) (fun _ _ i _ => k - (intOf i).toNat)
  case atStart => exact ⟨0, v, Nat.zero_le _, rfl, rfl, by simp, own_nil _ _ _ _, Only.refl _ _⟩
  case round =>
    obtain ⟨j, y, hj, rfl, rfl, hy, ho, on⟩ := hrel
    by_cases hlt : j < k
    · have hyj : y < 18446744073709551616 := by rw [hy]; exact Nat.lt_of_le_of_lt (Nat.div_le_self _ _) hv
      have hq : y / 256 = v / 256 ^ (j + 1) := by rw [Nat.pow_succ, ← Nat.div_div_eq_div_mul, hy]
      have hln := lay_next v j y hy
      obtain ⟨A', c', w', hr, ho2, hs2, on2⟩ := append_own (P := Try.prog) (wr.alloc (.cells #[.int .u8 ((y : Int) % 256)] 5)) (on.alloc _) 48 48 5 i0 _ 1 Try.underlying48 HI.out HZ0.out HZ1.out HZ2.out rfl _ j ((lay j v).map B) (ho.alloc _) (some ⟨wr.heap.size, 0, none⟩) 1 1 [.int .u8 ((y : Int) % 256)] (one_cell _ _ _) (one_ints _ _) (by unfold maxLen; omega) (by omega)
      rw [hln] at ho2
      have H1 := Lib.hid ho2
      have H2 := Lib.hid on2
      have HQ := Lib.hid hq
      clear ho on hq ho2 on2 hs2 hln hy
      go_wp2_with (at_builtin; refine wpList_append_run _ rfl (.tmp 12) (.tmp 15) 48 rfl _ _ rfl rfl _ _ hr ?_)
      go_roundw
      case rel => exact ⟨j + 1, y / 256, by omega, by go_num, by go_num, HQ.out, H1.out, H2.out⟩
      case measure => simp [intOf]; omega
    · obtain rfl : j = k := by omega
      have hl := ho.1
      have hA := own_slice ho
      obtain ⟨A', c', rfl, _, _⟩ := hA
      have H1 := Lib.hid ho
      have H2 := Lib.hid on
      clear ho on hl hy
      go_wp2
      go_ret
      exact ⟨.slice A' j c', rfl, madeB_own (lay_length j v) H1.out H2.out⟩
end Go.Proofs.Ytecdalmnndalgaa
