/- Law 6: the walk of BlockReads. -/
import Derived.Test.YtkhfcghnodggeaaLaw6B
import Derived.Test.YtkhfcghnodggeaaRef6C
import Derived.Test.YtkhfcghnodggeaaLend
namespace Go.Proofs.Ytkhfcghnodggeaa
open Go.RowKit Go.Proofs.FuMem Go.Proofs.FuCode Go.Proofs.FuClass Go.Proofs.FuBlock Go.Proofs.FuEq Go.Proofs.FuCrc
set_option maxRecDepth 100000
theorem backV_parts (l : List UInt8) : ∃ (cls kind : Int) (id ver ep : Nat) (ks vs : ByteArray) (r : Bool), backV l = .tuple #[blockV cls kind id ver ep ks vs, .bool r] := ⟨_, _, _, _, _, _, _, _, rfl⟩
set_option maxHeartbeats 1500000 in
theorem walk_BlockReads (A : Option Addr) (n c : Nat) (l : List UInt8) (w : World) (h : Bs w A n l) (hn : n ≤ maxLen) (hc : n ≤ c) :
    Calls Try.prog 5 #[.slice A n c] w fun e w' => e = .returned (.bool true) ∧ Only [] w w' := by
  unfold maxLen at hn
  have O0 := Lib.hid (Only.refl [] w)
  have HB := Lib.hid h
  clear h
  by_cases hbig : 1024 < n
  · have q0 : decide (1024 < (n : Int)) = true := by rw [decide_eq_true_eq]; omega
    go_enter Try.func5, Try.ntmps5
    go_wp2_with fail
    refine (law6_awake _).mono ?_
    rintro e wz ⟨rfl, oz⟩
    have OZ := Lib.hid (O0.out.trans0 oz)
    clear oz
    go_wp2
    go_ret
    exact ⟨rfl, OZ.out⟩
  have q0 : decide (1024 < (n : Int)) = false := by rw [decide_eq_false_iff_not]; omega
  have hn2 : n ≤ 1024 := by omega
  obtain ⟨cls, kind, id, ver, ep, ks, vs, r, hbv⟩ := backV_parts l
  have HBV := Lib.hid hbv
  have HQ : Hid (∀ w, (binOp .eql 24 (blockV cls kind id ver ep ks vs) (blockV cls kind id ver ep ks vs)).run Try.prog w = .ok (.bool true) w) := Lib.hid (fun w => by rw [show true = same (mkB cls kind id ver ep ks vs) (mkB cls kind id ver ep ks vs) from ((same_iff _ _).2 rfl).symm]; exact eql_block cls kind id ver ep ks vs cls kind id ver ep ks vs w)
  have HG := Lib.hid (fun (w : World) (x y : Operand) => run_eqGuard_agg (P := Try.prog) w .eql 24 x y #[.int .i64 cls, .int .i64 kind, .int .u64 id, .int .u64 ver, .int .u64 ep, .string ks, .string vs] #[.int .i64 cls, .int .i64 kind, .int .u64 id, .int .u64 ver, .int .u64 ep, .string ks, .string vs] blockGuard)
  have hrr : (r == r) = true := by simp
  clear hbig hn hbv
  go_enter Try.func5, Try.ntmps5
  go_wp2_with fail
  refine (law0_LendBytes A n c l _ HB.out (by omega)).mono ?_
  rintro e w1 ⟨rfl, hl, o1⟩
  have hb1 : Bs w1 (some ⟨w.heap.size, 0, none⟩) n l := Sl.of_blk hl 0 (by simp [← HB.out.len]) (by simp [← HB.out.len])
  have H1 := Lib.hid hl
  have O1 := Lib.hid o1
  have B1 := Lib.hid hb1
  have L1 := Lib.hid (HB.out.only0 o1)
  clear hl o1 hb1
  have HD1 := Lib.hid (block_Decode (some ⟨w.heap.size, 0, none⟩) n (n + 5) l w1 B1.out (by omega) (by omega))
  rw [HBV.out] at HD1
  go_wp2_with fail
  refine HD1.out.mono ?_
  rintro e w2 ⟨rfl, o2⟩
  have oa : Only [] w2 (w2.alloc (.cells #[.int .i64 cls, .int .i64 kind, .int .u64 id, .int .u64 ver, .int .u64 ep, .string ks, .string vs] 24)) := (Only.refl _ _).alloc _
  have oa' := o2.trans0 oa
  have O2 := Lib.hid (O1.out.trans0 oa')
  have H2 := Lib.hid (H1.out.only oa' (by simp))
  have L2 := Lib.hid (L1.out.only0 oa')
  have X2 := Lib.hid (Blk.new w2 24 #[.int .i64 cls, .int .i64 kind, .int .u64 id, .int .u64 ver, .int .u64 ep, .string ks, .string vs])
  have HD2 := Lib.hid (ref6_Decode A n c l _ L2.out (by omega) hc)
  rw [HBV.out] at HD2
  clear o2 oa oa'
  go_wp2_with fail
  refine HD2.out.mono ?_
  rintro e w3 ⟨rfl, o3⟩
  have ob : Only [] w3 (w3.alloc (.cells #[.int .i64 cls, .int .i64 kind, .int .u64 id, .int .u64 ver, .int .u64 ep, .string ks, .string vs] 24)) := (Only.refl _ _).alloc _
  have ob' := o3.trans0 ob
  have O3 := Lib.hid (O2.out.trans0 ob')
  have H3 := Lib.hid (H2.out.only ob' (by simp))
  have L3 := Lib.hid (L2.out.only0 ob')
  have X3 := Lib.hid (X2.out.only ob' (by simp))
  have Y3 := Lib.hid (Blk.new w3 24 #[.int .i64 cls, .int .i64 kind, .int .u64 id, .int .u64 ver, .int .u64 ep, .string ks, .string vs])
  clear o3 ob ob'
  have x0 : (w3.alloc (.cells #[.int .i64 cls, .int .i64 kind, .int .u64 id, .int .u64 ver, .int .u64 ep, .string ks, .string vs] 24)).cell? ⟨w2.heap.size, 0, none⟩ = some (.int .i64 cls) := X3.out.cell 0
  have x1 : (w3.alloc (.cells #[.int .i64 cls, .int .i64 kind, .int .u64 id, .int .u64 ver, .int .u64 ep, .string ks, .string vs] 24)).cell? ⟨w2.heap.size, 1, none⟩ = some (.int .i64 kind) := X3.out.cell 1
  have x2 : (w3.alloc (.cells #[.int .i64 cls, .int .i64 kind, .int .u64 id, .int .u64 ver, .int .u64 ep, .string ks, .string vs] 24)).cell? ⟨w2.heap.size, 2, none⟩ = some (.int .u64 id) := X3.out.cell 2
  have x3 : (w3.alloc (.cells #[.int .i64 cls, .int .i64 kind, .int .u64 id, .int .u64 ver, .int .u64 ep, .string ks, .string vs] 24)).cell? ⟨w2.heap.size, 3, none⟩ = some (.int .u64 ver) := X3.out.cell 3
  have x4 : (w3.alloc (.cells #[.int .i64 cls, .int .i64 kind, .int .u64 id, .int .u64 ver, .int .u64 ep, .string ks, .string vs] 24)).cell? ⟨w2.heap.size, 4, none⟩ = some (.int .u64 ep) := X3.out.cell 4
  have x5 : (w3.alloc (.cells #[.int .i64 cls, .int .i64 kind, .int .u64 id, .int .u64 ver, .int .u64 ep, .string ks, .string vs] 24)).cell? ⟨w2.heap.size, 5, none⟩ = some (.string ks) := X3.out.cell 5
  have x6 : (w3.alloc (.cells #[.int .i64 cls, .int .i64 kind, .int .u64 id, .int .u64 ver, .int .u64 ep, .string ks, .string vs] 24)).cell? ⟨w2.heap.size, 6, none⟩ = some (.string vs) := X3.out.cell 6
  have y0 : (w3.alloc (.cells #[.int .i64 cls, .int .i64 kind, .int .u64 id, .int .u64 ver, .int .u64 ep, .string ks, .string vs] 24)).cell? ⟨w3.heap.size, 0, none⟩ = some (.int .i64 cls) := Y3.out.cell 0
  have y1 : (w3.alloc (.cells #[.int .i64 cls, .int .i64 kind, .int .u64 id, .int .u64 ver, .int .u64 ep, .string ks, .string vs] 24)).cell? ⟨w3.heap.size, 1, none⟩ = some (.int .i64 kind) := Y3.out.cell 1
  have y2 : (w3.alloc (.cells #[.int .i64 cls, .int .i64 kind, .int .u64 id, .int .u64 ver, .int .u64 ep, .string ks, .string vs] 24)).cell? ⟨w3.heap.size, 2, none⟩ = some (.int .u64 id) := Y3.out.cell 2
  have y3 : (w3.alloc (.cells #[.int .i64 cls, .int .i64 kind, .int .u64 id, .int .u64 ver, .int .u64 ep, .string ks, .string vs] 24)).cell? ⟨w3.heap.size, 3, none⟩ = some (.int .u64 ver) := Y3.out.cell 3
  have y4 : (w3.alloc (.cells #[.int .i64 cls, .int .i64 kind, .int .u64 id, .int .u64 ver, .int .u64 ep, .string ks, .string vs] 24)).cell? ⟨w3.heap.size, 4, none⟩ = some (.int .u64 ep) := Y3.out.cell 4
  have y5 : (w3.alloc (.cells #[.int .i64 cls, .int .i64 kind, .int .u64 id, .int .u64 ver, .int .u64 ep, .string ks, .string vs] 24)).cell? ⟨w3.heap.size, 5, none⟩ = some (.string ks) := Y3.out.cell 5
  have y6 : (w3.alloc (.cells #[.int .i64 cls, .int .i64 kind, .int .u64 id, .int .u64 ver, .int .u64 ep, .string ks, .string vs] 24)).cell? ⟨w3.heap.size, 6, none⟩ = some (.string vs) := Y3.out.cell 6
  have hq := HQ.out
  have hg := HG.out
  have HKB := Lib.hid (law0_KeptBytes A n c l w.heap.size _ H3.out L3.out (by omega))
  go_wp2_with fail
  refine HKB.out.mono ?_
  rintro e w' ⟨rfl, rfl⟩
  go_wp2_with fail
  refine (law6_awake _).mono ?_
  rintro e wz ⟨rfl, oz⟩
  have OZ := Lib.hid (O3.out.trans0 oz)
  clear oz
  go_wp2
  go_ret
  exact ⟨rfl, OZ.out⟩
end Go.Proofs.Ytkhfcghnodggeaa
