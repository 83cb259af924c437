/- Law 6: the walk of BlockLays. -/
import Derived.Test.YtkhfcghnodggeaaLaw6B
import Derived.Test.YtkhfcghnodggeaaRef6B
import Derived.Test.YtkhfcghnodggeaaLend
import Derived.Test.YtkhfcghnodggeaaLaw2
namespace Go.Proofs.Ytkhfcghnodggeaa
open Go.RowKit Go.Proofs.FuMem Go.Proofs.FuCode Go.Proofs.FuClass Go.Proofs.FuBlock Go.Proofs.FuEq Go.Proofs.FuCrc
set_option maxRecDepth 100000
set_option maxHeartbeats 1000000 in
theorem law6_BlockLays (cls kind : Int) (id ver ep : Nat) (ks vs : ByteArray) (w : World) (hc : -9223372036854775808 ≤ cls ∧ cls ≤ 9223372036854775807) (hi : id < 18446744073709551616) (hv : ver < 18446744073709551616) (he : ep < 18446744073709551616) :
    Calls Try.prog 4 #[blockV cls kind id ver ep ks vs] w fun e w' => e = .returned (.bool true) ∧ Only [] w w' := by
  have O1 := Lib.hid (show Only [] w (w.alloc (.cells #[.int .i64 cls, .int .i64 kind, .int .u64 id, .int .u64 ver, .int .u64 ep, .string ks, .string vs] 24)) from (Only.refl _ _).alloc _)
  have BX := Lib.hid (Blk.new w 24 #[.int .i64 cls, .int .i64 kind, .int .u64 id, .int .u64 ver, .int .u64 ep, .string ks, .string vs])
  have HLO := Lib.hid (fun w => law6_long cls kind id ver ep ks vs w)
  by_cases hl : longB ks vs = true
  · rw [hl] at HLO
    clear hl
    go_enter Try.func4, Try.ntmps4
    go_wp2_with ((with_reducible show wpList _ _ _ (Oper.mk (some 7) _ _ _ _ _ :: _) _ _); refine wpList_load_mid rfl 24 (.tmp 1) rfl w.heap.size 0 rfl [.int .i64 cls, .int .i64 kind, .int .u64 id, .int .u64 ver, .int .u64 ep, .string ks, .string vs] _ (fun j v hj => by rw [Nat.zero_add, BX.out.cell, List.getElem?_toArray.symm]; exact hj) Try.underlying24 rfl (by kernel_rfl) ?_)
    refine (HLO.out _).mono ?_
    rintro e w2 ⟨rfl, o_w2⟩
    have O2 := Lib.hid (O1.out.trans0 o_w2)
    have O2_ := Lib.hid o_w2
    clear o_w2
    go_wp2_with fail
    refine (law6_awake _).mono ?_
    rintro e wz ⟨rfl, oz⟩
    have OZ := Lib.hid (O2.out.trans0 oz)
    clear oz
    go_wp2
    go_ret
    exact ⟨rfl, OZ.out⟩
  have hl2 : longB ks vs = false := by simpa using hl
  rw [hl2] at HLO
  have hs := long_le hl2
  have HE1 := Lib.hid (fun w => block_Encode cls kind id ver ep ks vs w hc hi hv he (by omega) (by omega))
  have HE2 := Lib.hid (fun w => ref6_Encode cls kind id ver ep ks vs w hi hv he (by omega) (by omega))
  clear hl hl2 hs
  generalize enc (mkB cls kind id ver ep ks vs) = E at *
  obtain ⟨L, k⟩ := E
  go_enter Try.func4, Try.ntmps4
  go_wp2_with ((with_reducible show wpList _ _ _ (Oper.mk (some 7) _ _ _ _ _ :: _) _ _); refine wpList_load_mid rfl 24 (.tmp 1) rfl w.heap.size 0 rfl [.int .i64 cls, .int .i64 kind, .int .u64 id, .int .u64 ver, .int .u64 ep, .string ks, .string vs] _ (fun j v hj => by rw [Nat.zero_add, BX.out.cell, List.getElem?_toArray.symm]; exact hj) Try.underlying24 rfl (by kernel_rfl) ?_)
  refine (HLO.out _).mono ?_
  rintro e w2 ⟨rfl, o_w2⟩
  have O2 := Lib.hid (O1.out.trans0 o_w2)
  have O2_ := Lib.hid o_w2
  clear o_w2
  have B2 := Lib.hid (BX.out.only O2_.out (by simp))
  have z0 : w2.cell? ⟨w.heap.size, 0, none⟩ = some (.int .i64 cls) := B2.out.cell 0
  have z1 : w2.cell? ⟨w.heap.size, 1, none⟩ = some (.int .i64 kind) := B2.out.cell 1
  have z2 : w2.cell? ⟨w.heap.size, 2, none⟩ = some (.int .u64 id) := B2.out.cell 2
  have z3 : w2.cell? ⟨w.heap.size, 3, none⟩ = some (.int .u64 ver) := B2.out.cell 3
  have z4 : w2.cell? ⟨w.heap.size, 4, none⟩ = some (.int .u64 ep) := B2.out.cell 4
  have z5 : w2.cell? ⟨w.heap.size, 5, none⟩ = some (.string ks) := B2.out.cell 5
  have z6 : w2.cell? ⟨w.heap.size, 6, none⟩ = some (.string vs) := B2.out.cell 6
  go_wp2_with fail
  refine (HE1.out _).mono ?_
  rintro e w3 ⟨v3, rfl, A3, c3, rfl, b3, o3⟩
  have O3 := Lib.hid (O2.out.trans0 o3)
  have B3 := Lib.hid (B2.out.only o3 (by simp))
  have S3 := Lib.hid (bs_own b3)
  clear z0 z1 z2 z3 z4 z5 z6 o3 b3
  have z0 : w3.cell? ⟨w.heap.size, 0, none⟩ = some (.int .i64 cls) := B3.out.cell 0
  have z1 : w3.cell? ⟨w.heap.size, 1, none⟩ = some (.int .i64 kind) := B3.out.cell 1
  have z2 : w3.cell? ⟨w.heap.size, 2, none⟩ = some (.int .u64 id) := B3.out.cell 2
  have z3 : w3.cell? ⟨w.heap.size, 3, none⟩ = some (.int .u64 ver) := B3.out.cell 3
  have z4 : w3.cell? ⟨w.heap.size, 4, none⟩ = some (.int .u64 ep) := B3.out.cell 4
  have z5 : w3.cell? ⟨w.heap.size, 5, none⟩ = some (.string ks) := B3.out.cell 5
  have z6 : w3.cell? ⟨w.heap.size, 6, none⟩ = some (.string vs) := B3.out.cell 6
  go_wp2_with fail
  refine (HE2.out _).mono ?_
  rintro e w4 ⟨v4, rfl, A4, c4, rfl, b4, o4⟩
  have O4 := Lib.hid (O3.out.trans0 o4)
  have S4 := Lib.hid (S3.out.only0 o4)
  have T4 := Lib.hid (bs_own b4)
  clear z0 z1 z2 z3 z4 z5 z6 o4 b4
  have HSB := Lib.hid (law0_SameBytes A3 A4 L.length L.length c3 c4 L L w4 S4.out T4.out)
  rw [show (L == L) = true by simp] at HSB
  have HNU := Lib.hid (fun w => law0_Num ((k : Nat) : Int) w)
  have hkk : (((k : Nat) : Int) == ((k : Nat) : Int)) = true := by simp
  go_wp2_with fail
  refine HSB.out.mono ?_
  rintro e w' ⟨rfl, rfl⟩
  go_wp2_with fail
  refine (HNU.out _).mono ?_
  rintro e w' ⟨rfl, rfl⟩
  go_wp2_with fail
  refine (law6_awake _).mono ?_
  rintro e wz ⟨rfl, oz⟩
  have OZ := Lib.hid (O4.out.trans0 oz)
  clear oz
  go_wp2
  go_ret
  exact ⟨rfl, OZ.out⟩
theorem walk_BlockLays (x : Int × Int × Nat × Nat × Nat × ByteArray × ByteArray) (w : World) (h : (-9223372036854775808 ≤ x.1 ∧ x.1 ≤ 9223372036854775807) ∧ x.2.2.1 < 18446744073709551616 ∧ x.2.2.2.1 < 18446744073709551616 ∧ x.2.2.2.2.1 < 18446744073709551616) :
    Calls Try.prog 4 #[blockV x.1 x.2.1 x.2.2.1 x.2.2.2.1 x.2.2.2.2.1 x.2.2.2.2.2.1 x.2.2.2.2.2.2] w fun e w' => e = .returned (.bool true) ∧ Only [] w w' :=
  law6_BlockLays _ _ _ _ _ _ _ w h.1 h.2.1 h.2.2.1 h.2.2.2
end Go.Proofs.Ytkhfcghnodggeaa
