/- Law 6: the walk of BlockApart. -/
import Derived.Test.YtkhfcghnodggeaaLaw6B
import Derived.Test.YtkhfcghnodggeaaLend
namespace Go.Proofs.Ytkhfcghnodggeaa
open Go.RowKit Go.Proofs.FuMem Go.Proofs.FuCode Go.Proofs.FuClass Go.Proofs.FuBlock Go.Proofs.FuEq Go.Proofs.FuCrc
set_option maxRecDepth 100000
theorem enc_any (cls kind : Int) (id ver ep : Nat) (ks vs : ByteArray) (w : World) (hc : -9223372036854775808 ≤ cls ∧ cls ≤ 9223372036854775807) (hi : id < 18446744073709551616) (hv : ver < 18446744073709551616) (he : ep < 18446744073709551616)
    (hl : longB ks vs = false) :
    Calls Try.prog 15 #[blockV cls kind id ver ep ks vs] w fun e w' => ∃ A n c k, e = .returned (.tuple #[.slice A n c, .int .i64 ((k : Nat) : Int)]) ∧ Only [] w w' := by
  have hs := long_le hl
  refine (block_Encode cls kind id ver ep ks vs w hc hi hv he (by omega) (by omega)).mono ?_
  rintro e w' ⟨v, rfl, A, c, hvv, ho, on⟩
  subst hvv
  exact ⟨A, _, c, _, rfl, on⟩
theorem same_lines {a b : Block} (ha : may a = true) (hb : may b = true) : (lines a == lines b) = same a b := by
  rw [Bool.eq_iff_iff, same_iff, beq_iff_eq]
  exact ⟨lines_inj ha hb, fun h => by rw [h]⟩
set_option maxHeartbeats 1500000 in
theorem law6_BlockApart (cls kind : Int) (id ver ep : Nat) (ks vs : ByteArray) (cls2 kind2 : Int) (id2 ver2 ep2 : Nat) (ks2 vs2 : ByteArray) (w : World) (hc : -9223372036854775808 ≤ cls ∧ cls ≤ 9223372036854775807) (hi : id < 18446744073709551616) (hv : ver < 18446744073709551616) (he : ep < 18446744073709551616) (hc2 : -9223372036854775808 ≤ cls2 ∧ cls2 ≤ 9223372036854775807) (hi2 : id2 < 18446744073709551616) (hv2 : ver2 < 18446744073709551616) (he2 : ep2 < 18446744073709551616) :
    Calls Try.prog 9 #[blockV cls kind id ver ep ks vs, blockV cls2 kind2 id2 ver2 ep2 ks2 vs2] w fun e w' => e = .returned (.bool true) ∧ Only [] w w' := by
  have oa : Only [] w (w.alloc (.cells #[.int .i64 cls, .int .i64 kind, .int .u64 id, .int .u64 ver, .int .u64 ep, .string ks, .string vs] 24)) := (Only.refl _ _).alloc _
  have ob : Only [] (w.alloc (.cells #[.int .i64 cls, .int .i64 kind, .int .u64 id, .int .u64 ver, .int .u64 ep, .string ks, .string vs] 24)) ((w.alloc (.cells #[.int .i64 cls, .int .i64 kind, .int .u64 id, .int .u64 ver, .int .u64 ep, .string ks, .string vs] 24)).alloc (.cells #[.int .i64 cls2, .int .i64 kind2, .int .u64 id2, .int .u64 ver2, .int .u64 ep2, .string ks2, .string vs2] 24)) := (Only.refl _ _).alloc _
  have O1 := Lib.hid (oa.trans0 ob)
  have BX := Lib.hid ((Blk.new w 24 #[.int .i64 cls, .int .i64 kind, .int .u64 id, .int .u64 ver, .int .u64 ep, .string ks, .string vs]).only ob (by simp))
  have by_ := Blk.new (w.alloc (.cells #[.int .i64 cls, .int .i64 kind, .int .u64 id, .int .u64 ver, .int .u64 ep, .string ks, .string vs] 24)) 24 #[.int .i64 cls2, .int .i64 kind2, .int .u64 id2, .int .u64 ver2, .int .u64 ep2, .string ks2, .string vs2]
  have hsz : (w.alloc (.cells #[.int .i64 cls, .int .i64 kind, .int .u64 id, .int .u64 ver, .int .u64 ep, .string ks, .string vs] 24)).heap.size = w.heap.size + 1 := by simp
  rw [hsz] at by_
  have BY := Lib.hid by_
  have HLO := Lib.hid (fun w => law6_long cls kind id ver ep ks vs w)
  have HLP := Lib.hid (fun w => law6_long cls2 kind2 id2 ver2 ep2 ks2 vs2 w)
  clear oa ob by_ hsz
  by_cases hl : longB ks vs = true
  · rw [hl] at HLO
    clear hl
    go_enter Try.func9, Try.ntmps9
    go_wp2_with ((with_reducible show wpList _ _ _ (Oper.mk (some 9) _ _ _ _ _ :: _) _ _); refine wpList_load_mid rfl 24 (.tmp 2) rfl w.heap.size 0 rfl [.int .i64 cls, .int .i64 kind, .int .u64 id, .int .u64 ver, .int .u64 ep, .string ks, .string vs] _ (fun j v hj => by rw [Nat.zero_add, BX.out.cell, List.getElem?_toArray.symm]; exact hj) Try.underlying24 rfl (by kernel_rfl) ?_)
    refine (HLO.out _).mono ?_
    rintro e w2 ⟨rfl, o_w2⟩
    have O2 := Lib.hid (O1.out.trans0 o_w2)
    have O2_ := Lib.hid o_w2
    clear o_w2
    go_wp2_with fail
    refine (law6_awake _).mono ?_
    rintro e wz ⟨rfl, oz⟩
    have OZ := Lib.hid (O2.out.trans0 oz)
    clear oz
    go_wp2
    go_ret
    exact ⟨rfl, OZ.out⟩
  have hl1 : longB ks vs = false := by simpa using hl
  rw [hl1] at HLO
  clear hl
  by_cases hl : longB ks2 vs2 = true
  · rw [hl] at HLP
    clear hl hl1
    go_enter Try.func9, Try.ntmps9
    go_wp2_with ((with_reducible show wpList _ _ _ (Oper.mk (some 9) _ _ _ _ _ :: _) _ _); refine wpList_load_mid rfl 24 (.tmp 2) rfl w.heap.size 0 rfl [.int .i64 cls, .int .i64 kind, .int .u64 id, .int .u64 ver, .int .u64 ep, .string ks, .string vs] _ (fun j v hj => by rw [Nat.zero_add, BX.out.cell, List.getElem?_toArray.symm]; exact hj) Try.underlying24 rfl (by kernel_rfl) ?_)
    refine (HLO.out _).mono ?_
    rintro e w2 ⟨rfl, o_w2⟩
    have O2 := Lib.hid (O1.out.trans0 o_w2)
    have O2_ := Lib.hid o_w2
    clear o_w2
    have Y2 := Lib.hid (BY.out.only O2_.out (by simp))
    have y0 : w2.cell? ⟨w.heap.size + 1, 0, none⟩ = some (.int .i64 cls2) := Y2.out.cell 0
    have y1 : w2.cell? ⟨w.heap.size + 1, 1, none⟩ = some (.int .i64 kind2) := Y2.out.cell 1
    have y2 : w2.cell? ⟨w.heap.size + 1, 2, none⟩ = some (.int .u64 id2) := Y2.out.cell 2
    have y3 : w2.cell? ⟨w.heap.size + 1, 3, none⟩ = some (.int .u64 ver2) := Y2.out.cell 3
    have y4 : w2.cell? ⟨w.heap.size + 1, 4, none⟩ = some (.int .u64 ep2) := Y2.out.cell 4
    have y5 : w2.cell? ⟨w.heap.size + 1, 5, none⟩ = some (.string ks2) := Y2.out.cell 5
    have y6 : w2.cell? ⟨w.heap.size + 1, 6, none⟩ = some (.string vs2) := Y2.out.cell 6
    go_wp2_with fail
    refine (HLP.out _).mono ?_
    rintro e w3 ⟨rfl, o_w3⟩
    have O3 := Lib.hid (O2.out.trans0 o_w3)
    have O3_ := Lib.hid o_w3
    clear o_w3
    go_wp2_with fail
    refine (law6_awake _).mono ?_
    rintro e wz ⟨rfl, oz⟩
    have OZ := Lib.hid (O3.out.trans0 oz)
    clear oz
    go_wp2
    go_ret
    exact ⟨rfl, OZ.out⟩
  have hl2 : longB ks2 vs2 = false := by simpa using hl
  rw [hl2] at HLP
  clear hl
  by_cases hm : may (mkB cls kind id ver ep ks vs) = true
  case neg =>
    have hm0 : may (mkB cls kind id ver ep ks vs) = false := by simpa using hm
    have HE1 := Lib.hid (fun w => enc_no cls kind id ver ep ks vs w hc hi hv he hl1 hm0)
    have HE2 := Lib.hid (fun w => enc_any cls2 kind2 id2 ver2 ep2 ks2 vs2 w hc2 hi2 hv2 he2 hl2)
    clear hm hm0 hl1 hl2
    go_enter Try.func9, Try.ntmps9
    go_wp2_with ((with_reducible show wpList _ _ _ (Oper.mk (some 9) _ _ _ _ _ :: _) _ _); refine wpList_load_mid rfl 24 (.tmp 2) rfl w.heap.size 0 rfl [.int .i64 cls, .int .i64 kind, .int .u64 id, .int .u64 ver, .int .u64 ep, .string ks, .string vs] _ (fun j v hj => by rw [Nat.zero_add, BX.out.cell, List.getElem?_toArray.symm]; exact hj) Try.underlying24 rfl (by kernel_rfl) ?_)
    refine (HLO.out _).mono ?_
    rintro e w2 ⟨rfl, o_w2⟩
    have O2 := Lib.hid (O1.out.trans0 o_w2)
    have O2_ := Lib.hid o_w2
    clear o_w2
    have X2 := Lib.hid (BX.out.only O2_.out (by simp))
    have Y2 := Lib.hid (BY.out.only O2_.out (by simp))
    have y0 : w2.cell? ⟨w.heap.size + 1, 0, none⟩ = some (.int .i64 cls2) := Y2.out.cell 0
    have y1 : w2.cell? ⟨w.heap.size + 1, 1, none⟩ = some (.int .i64 kind2) := Y2.out.cell 1
    have y2 : w2.cell? ⟨w.heap.size + 1, 2, none⟩ = some (.int .u64 id2) := Y2.out.cell 2
    have y3 : w2.cell? ⟨w.heap.size + 1, 3, none⟩ = some (.int .u64 ver2) := Y2.out.cell 3
    have y4 : w2.cell? ⟨w.heap.size + 1, 4, none⟩ = some (.int .u64 ep2) := Y2.out.cell 4
    have y5 : w2.cell? ⟨w.heap.size + 1, 5, none⟩ = some (.string ks2) := Y2.out.cell 5
    have y6 : w2.cell? ⟨w.heap.size + 1, 6, none⟩ = some (.string vs2) := Y2.out.cell 6
    go_wp2_with fail
    refine (HLP.out _).mono ?_
    rintro e w3 ⟨rfl, o_w3⟩
    have O3 := Lib.hid (O2.out.trans0 o_w3)
    have O3_ := Lib.hid o_w3
    clear o_w3
    have X3 := Lib.hid (X2.out.only O3_.out (by simp))
    have Y3 := Lib.hid (Y2.out.only O3_.out (by simp))
    have x0 : w3.cell? ⟨w.heap.size, 0, none⟩ = some (.int .i64 cls) := X3.out.cell 0
    have x1 : w3.cell? ⟨w.heap.size, 1, none⟩ = some (.int .i64 kind) := X3.out.cell 1
    have x2 : w3.cell? ⟨w.heap.size, 2, none⟩ = some (.int .u64 id) := X3.out.cell 2
    have x3 : w3.cell? ⟨w.heap.size, 3, none⟩ = some (.int .u64 ver) := X3.out.cell 3
    have x4 : w3.cell? ⟨w.heap.size, 4, none⟩ = some (.int .u64 ep) := X3.out.cell 4
    have x5 : w3.cell? ⟨w.heap.size, 5, none⟩ = some (.string ks) := X3.out.cell 5
    have x6 : w3.cell? ⟨w.heap.size, 6, none⟩ = some (.string vs) := X3.out.cell 6
    clear y0 y1 y2 y3 y4 y5 y6
    go_wp2_with fail
    refine (HE1.out _).mono ?_
    rintro e w4 ⟨A, c, rfl, o4⟩
    have O4 := Lib.hid (O3.out.trans0 o4)
    have Y4 := Lib.hid (Y3.out.only o4 (by simp))
    have y0 : w4.cell? ⟨w.heap.size + 1, 0, none⟩ = some (.int .i64 cls2) := Y4.out.cell 0
    have y1 : w4.cell? ⟨w.heap.size + 1, 1, none⟩ = some (.int .i64 kind2) := Y4.out.cell 1
    have y2 : w4.cell? ⟨w.heap.size + 1, 2, none⟩ = some (.int .u64 id2) := Y4.out.cell 2
    have y3 : w4.cell? ⟨w.heap.size + 1, 3, none⟩ = some (.int .u64 ver2) := Y4.out.cell 3
    have y4 : w4.cell? ⟨w.heap.size + 1, 4, none⟩ = some (.int .u64 ep2) := Y4.out.cell 4
    have y5 : w4.cell? ⟨w.heap.size + 1, 5, none⟩ = some (.string ks2) := Y4.out.cell 5
    have y6 : w4.cell? ⟨w.heap.size + 1, 6, none⟩ = some (.string vs2) := Y4.out.cell 6
    clear x0 x1 x2 x3 x4 x5 x6 o4
    go_wp2_with fail
    refine (HE2.out _).mono ?_
    rintro e w5 ⟨A5, n5, c5, k5, rfl, o5⟩
    have O5 := Lib.hid (O4.out.trans0 o5)
    clear o5
    go_wp2_with fail
    refine (law6_awake _).mono ?_
    rintro e wz ⟨rfl, oz⟩
    have OZ := Lib.hid (O5.out.trans0 oz)
    clear oz
    go_wp2
    go_ret
    exact ⟨rfl, OZ.out⟩
  case pos =>
  have HE1 := Lib.hid (fun w => enc_yes cls kind id ver ep ks vs w hc hi hv he hl1 hm)
  by_cases hm2 : may (mkB cls2 kind2 id2 ver2 ep2 ks2 vs2) = true
  case neg =>
    have hm0 : may (mkB cls2 kind2 id2 ver2 ep2 ks2 vs2) = false := by simpa using hm2
    have HE2 := Lib.hid (fun w => enc_no cls2 kind2 id2 ver2 ep2 ks2 vs2 w hc2 hi2 hv2 he2 hl2 hm0)
    clear hm hm0 hm2 hl1 hl2
    generalize lines (mkB cls kind id ver ep ks vs) = L at *
    generalize 64 * span cls = n at *
    go_enter Try.func9, Try.ntmps9
    go_wp2_with ((with_reducible show wpList _ _ _ (Oper.mk (some 9) _ _ _ _ _ :: _) _ _); refine wpList_load_mid rfl 24 (.tmp 2) rfl w.heap.size 0 rfl [.int .i64 cls, .int .i64 kind, .int .u64 id, .int .u64 ver, .int .u64 ep, .string ks, .string vs] _ (fun j v hj => by rw [Nat.zero_add, BX.out.cell, List.getElem?_toArray.symm]; exact hj) Try.underlying24 rfl (by kernel_rfl) ?_)
    refine (HLO.out _).mono ?_
    rintro e w2 ⟨rfl, o_w2⟩
    have O2 := Lib.hid (O1.out.trans0 o_w2)
    have O2_ := Lib.hid o_w2
    clear o_w2
    have X2 := Lib.hid (BX.out.only O2_.out (by simp))
    have Y2 := Lib.hid (BY.out.only O2_.out (by simp))
    have y0 : w2.cell? ⟨w.heap.size + 1, 0, none⟩ = some (.int .i64 cls2) := Y2.out.cell 0
    have y1 : w2.cell? ⟨w.heap.size + 1, 1, none⟩ = some (.int .i64 kind2) := Y2.out.cell 1
    have y2 : w2.cell? ⟨w.heap.size + 1, 2, none⟩ = some (.int .u64 id2) := Y2.out.cell 2
    have y3 : w2.cell? ⟨w.heap.size + 1, 3, none⟩ = some (.int .u64 ver2) := Y2.out.cell 3
    have y4 : w2.cell? ⟨w.heap.size + 1, 4, none⟩ = some (.int .u64 ep2) := Y2.out.cell 4
    have y5 : w2.cell? ⟨w.heap.size + 1, 5, none⟩ = some (.string ks2) := Y2.out.cell 5
    have y6 : w2.cell? ⟨w.heap.size + 1, 6, none⟩ = some (.string vs2) := Y2.out.cell 6
    go_wp2_with fail
    refine (HLP.out _).mono ?_
    rintro e w3 ⟨rfl, o_w3⟩
    have O3 := Lib.hid (O2.out.trans0 o_w3)
    have O3_ := Lib.hid o_w3
    clear o_w3
    have X3 := Lib.hid (X2.out.only O3_.out (by simp))
    have Y3 := Lib.hid (Y2.out.only O3_.out (by simp))
    have x0 : w3.cell? ⟨w.heap.size, 0, none⟩ = some (.int .i64 cls) := X3.out.cell 0
    have x1 : w3.cell? ⟨w.heap.size, 1, none⟩ = some (.int .i64 kind) := X3.out.cell 1
    have x2 : w3.cell? ⟨w.heap.size, 2, none⟩ = some (.int .u64 id) := X3.out.cell 2
    have x3 : w3.cell? ⟨w.heap.size, 3, none⟩ = some (.int .u64 ver) := X3.out.cell 3
    have x4 : w3.cell? ⟨w.heap.size, 4, none⟩ = some (.int .u64 ep) := X3.out.cell 4
    have x5 : w3.cell? ⟨w.heap.size, 5, none⟩ = some (.string ks) := X3.out.cell 5
    have x6 : w3.cell? ⟨w.heap.size, 6, none⟩ = some (.string vs) := X3.out.cell 6
    clear y0 y1 y2 y3 y4 y5 y6
    go_wp2_with fail
    refine (HE1.out _).mono ?_
    rintro e w4 ⟨g, c, rfl, _, _, o4⟩
    have O4 := Lib.hid (O3.out.trans0 o4)
    have Y4 := Lib.hid (Y3.out.only o4 (by simp))
    have y0 : w4.cell? ⟨w.heap.size + 1, 0, none⟩ = some (.int .i64 cls2) := Y4.out.cell 0
    have y1 : w4.cell? ⟨w.heap.size + 1, 1, none⟩ = some (.int .i64 kind2) := Y4.out.cell 1
    have y2 : w4.cell? ⟨w.heap.size + 1, 2, none⟩ = some (.int .u64 id2) := Y4.out.cell 2
    have y3 : w4.cell? ⟨w.heap.size + 1, 3, none⟩ = some (.int .u64 ver2) := Y4.out.cell 3
    have y4 : w4.cell? ⟨w.heap.size + 1, 4, none⟩ = some (.int .u64 ep2) := Y4.out.cell 4
    have y5 : w4.cell? ⟨w.heap.size + 1, 5, none⟩ = some (.string ks2) := Y4.out.cell 5
    have y6 : w4.cell? ⟨w.heap.size + 1, 6, none⟩ = some (.string vs2) := Y4.out.cell 6
    clear x0 x1 x2 x3 x4 x5 x6 o4
    go_wp2_with fail
    refine (HE2.out _).mono ?_
    rintro e w5 ⟨A5, c5, rfl, o5⟩
    have O5 := Lib.hid (O4.out.trans0 o5)
    clear o5
    go_wp2_with fail
    refine (law6_awake _).mono ?_
    rintro e wz ⟨rfl, oz⟩
    have OZ := Lib.hid (O5.out.trans0 oz)
    clear oz
    go_wp2
    go_ret
    exact ⟨rfl, OZ.out⟩
  case pos =>
  have HE2 := Lib.hid (fun w => enc_yes cls2 kind2 id2 ver2 ep2 ks2 vs2 w hc2 hi2 hv2 he2 hl2 hm2)
  have HQ : Hid (∀ w, (binOp .eql 24 (blockV cls kind id ver ep ks vs) (blockV cls2 kind2 id2 ver2 ep2 ks2 vs2)).run Try.prog w = .ok (.bool (lines (mkB cls kind id ver ep ks vs) == lines (mkB cls2 kind2 id2 ver2 ep2 ks2 vs2))) w) := Lib.hid (fun w => by rw [same_lines hm hm2]; exact eql_block cls kind id ver ep ks vs cls2 kind2 id2 ver2 ep2 ks2 vs2 w)
  have HG := Lib.hid (fun (w : World) (x y : Operand) => run_eqGuard_agg (P := Try.prog) w .eql 24 x y #[.int .i64 cls, .int .i64 kind, .int .u64 id, .int .u64 ver, .int .u64 ep, .string ks, .string vs] #[.int .i64 cls2, .int .i64 kind2, .int .u64 id2, .int .u64 ver2, .int .u64 ep2, .string ks2, .string vs2] blockGuard)
  clear hm hm2 hl1 hl2
  generalize lines (mkB cls kind id ver ep ks vs) = L at *
  generalize lines (mkB cls2 kind2 id2 ver2 ep2 ks2 vs2) = K at *
  generalize 64 * span cls = n at *
  generalize 64 * span cls2 = m at *
  go_enter Try.func9, Try.ntmps9
  go_wp2_with ((with_reducible show wpList _ _ _ (Oper.mk (some 9) _ _ _ _ _ :: _) _ _); refine wpList_load_mid rfl 24 (.tmp 2) rfl w.heap.size 0 rfl [.int .i64 cls, .int .i64 kind, .int .u64 id, .int .u64 ver, .int .u64 ep, .string ks, .string vs] _ (fun j v hj => by rw [Nat.zero_add, BX.out.cell, List.getElem?_toArray.symm]; exact hj) Try.underlying24 rfl (by kernel_rfl) ?_)
  refine (HLO.out _).mono ?_
  rintro e w2 ⟨rfl, o_w2⟩
  have O2 := Lib.hid (O1.out.trans0 o_w2)
  have O2_ := Lib.hid o_w2
  clear o_w2
  have X2 := Lib.hid (BX.out.only O2_.out (by simp))
  have Y2 := Lib.hid (BY.out.only O2_.out (by simp))
  have y0 : w2.cell? ⟨w.heap.size + 1, 0, none⟩ = some (.int .i64 cls2) := Y2.out.cell 0
  have y1 : w2.cell? ⟨w.heap.size + 1, 1, none⟩ = some (.int .i64 kind2) := Y2.out.cell 1
  have y2 : w2.cell? ⟨w.heap.size + 1, 2, none⟩ = some (.int .u64 id2) := Y2.out.cell 2
  have y3 : w2.cell? ⟨w.heap.size + 1, 3, none⟩ = some (.int .u64 ver2) := Y2.out.cell 3
  have y4 : w2.cell? ⟨w.heap.size + 1, 4, none⟩ = some (.int .u64 ep2) := Y2.out.cell 4
  have y5 : w2.cell? ⟨w.heap.size + 1, 5, none⟩ = some (.string ks2) := Y2.out.cell 5
  have y6 : w2.cell? ⟨w.heap.size + 1, 6, none⟩ = some (.string vs2) := Y2.out.cell 6
  go_wp2_with fail
  refine (HLP.out _).mono ?_
  rintro e w3 ⟨rfl, o_w3⟩
  have O3 := Lib.hid (O2.out.trans0 o_w3)
  have O3_ := Lib.hid o_w3
  clear o_w3
  have X3 := Lib.hid (X2.out.only O3_.out (by simp))
  have Y3 := Lib.hid (Y2.out.only O3_.out (by simp))
  have x0 : w3.cell? ⟨w.heap.size, 0, none⟩ = some (.int .i64 cls) := X3.out.cell 0
  have x1 : w3.cell? ⟨w.heap.size, 1, none⟩ = some (.int .i64 kind) := X3.out.cell 1
  have x2 : w3.cell? ⟨w.heap.size, 2, none⟩ = some (.int .u64 id) := X3.out.cell 2
  have x3 : w3.cell? ⟨w.heap.size, 3, none⟩ = some (.int .u64 ver) := X3.out.cell 3
  have x4 : w3.cell? ⟨w.heap.size, 4, none⟩ = some (.int .u64 ep) := X3.out.cell 4
  have x5 : w3.cell? ⟨w.heap.size, 5, none⟩ = some (.string ks) := X3.out.cell 5
  have x6 : w3.cell? ⟨w.heap.size, 6, none⟩ = some (.string vs) := X3.out.cell 6
  clear y0 y1 y2 y3 y4 y5 y6
  go_wp2_with fail
  refine (HE1.out _).mono ?_
  rintro e w4 ⟨g, c, rfl, _, ho4, o4⟩
  have O4 := Lib.hid (O3.out.trans0 o4)
  have X4 := Lib.hid (X3.out.only o4 (by simp))
  have Y4 := Lib.hid (Y3.out.only o4 (by simp))
  have S4 := Lib.hid ho4.bs
  have y0 : w4.cell? ⟨w.heap.size + 1, 0, none⟩ = some (.int .i64 cls2) := Y4.out.cell 0
  have y1 : w4.cell? ⟨w.heap.size + 1, 1, none⟩ = some (.int .i64 kind2) := Y4.out.cell 1
  have y2 : w4.cell? ⟨w.heap.size + 1, 2, none⟩ = some (.int .u64 id2) := Y4.out.cell 2
  have y3 : w4.cell? ⟨w.heap.size + 1, 3, none⟩ = some (.int .u64 ver2) := Y4.out.cell 3
  have y4 : w4.cell? ⟨w.heap.size + 1, 4, none⟩ = some (.int .u64 ep2) := Y4.out.cell 4
  have y5 : w4.cell? ⟨w.heap.size + 1, 5, none⟩ = some (.string ks2) := Y4.out.cell 5
  have y6 : w4.cell? ⟨w.heap.size + 1, 6, none⟩ = some (.string vs2) := Y4.out.cell 6
  clear x0 x1 x2 x3 x4 x5 x6 o4 ho4
  go_wp2_with fail
  refine (HE2.out _).mono ?_
  rintro e w5 ⟨g5, c5, rfl, _, ho5, o5⟩
  have O5 := Lib.hid (O4.out.trans0 o5)
  have X5 := Lib.hid (X4.out.only o5 (by simp))
  have Y5 := Lib.hid (Y4.out.only o5 (by simp))
  have S5 := Lib.hid (S4.out.only0 o5)
  have T5 := Lib.hid ho5.bs
  clear y0 y1 y2 y3 y4 y5 y6 o5 ho5
  go_wp2
  have hrr : ((L == K) == (L == K)) = true := by simp
  have HSB : Hid (∀ p : Later w5, Calls Try.prog 17 #[.slice (some ⟨g, 0, none⟩) n c, .slice (some ⟨g5, 0, none⟩) m c5] p.w fun e w' => e = .returned (.bool (L == K)) ∧ p.w = w') := Lib.hid (fun p => law0_SameBytes _ _ _ _ _ _ _ _ _ (S5.out.only0 p.only) (T5.out.only0 p.only))
  generalize (L == K) = r at *
  have hq := HQ.out
  have hg := HG.out
  refine wp_region_later w5 (by kernel_rfl) (by kernel_rfl) ?_
  repeat (quiet_step (fail))
  quiet_step (exact Calls.later_same (HSB.out _))
  refine later_load_struct rfl (.tmp 2) rfl w.heap.size rfl cls kind id ver ep ks vs X5.out ?_
  refine later_load_struct rfl (.tmp 3) rfl (w.heap.size + 1) rfl cls2 kind2 id2 ver2 ep2 ks2 vs2 Y5.out ?_
  repeat (quiet_step (fail))
  quiet_step (exact Calls.later (law6_awake _))
  repeat (quiet_step (fail))
  refine wpQuiet_nil ?_
  intro _ hw'
  obtain ⟨p, hw''⟩ := hw'
  subst hw''
  have HP := Lib.hid (O5.out.trans0 p.only)
  go_wp2
  go_ret
  exact ⟨rfl, HP.out⟩
theorem walk_BlockApart (x : Int × Int × Nat × Nat × Nat × ByteArray × ByteArray) (y : Int × Int × Nat × Nat × Nat × ByteArray × ByteArray) (w : World) (h : (-9223372036854775808 ≤ x.1 ∧ x.1 ≤ 9223372036854775807) ∧ x.2.2.1 < 18446744073709551616 ∧ x.2.2.2.1 < 18446744073709551616 ∧ x.2.2.2.2.1 < 18446744073709551616) (k : (-9223372036854775808 ≤ y.1 ∧ y.1 ≤ 9223372036854775807) ∧ y.2.2.1 < 18446744073709551616 ∧ y.2.2.2.1 < 18446744073709551616 ∧ y.2.2.2.2.1 < 18446744073709551616) :
    Calls Try.prog 9 #[blockV x.1 x.2.1 x.2.2.1 x.2.2.2.1 x.2.2.2.2.1 x.2.2.2.2.2.1 x.2.2.2.2.2.2, blockV y.1 y.2.1 y.2.2.1 y.2.2.2.1 y.2.2.2.2.1 y.2.2.2.2.2.1 y.2.2.2.2.2.2] w fun e w' => e = .returned (.bool true) ∧ Only [] w w' :=
  law6_BlockApart _ _ _ _ _ _ _ _ _ _ _ _ _ _ w h.1 h.2.1 h.2.2.1 h.2.2.2 k.1 k.2.1 k.2.2.1 k.2.2.2
end Go.Proofs.Ytkhfcghnodggeaa
