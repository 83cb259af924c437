/- Law 6: the walk of BlockBack. -/
import Derived.Test.YtkhfcghnodggeaaLaw6B
import Derived.Test.YtkhfcghnodggeaaClassB
namespace Go.Proofs.Ytkhfcghnodggeaa
open Go.RowKit Go.Proofs.FuMem Go.Proofs.FuCode Go.Proofs.FuClass Go.Proofs.FuBlock Go.Proofs.FuEq Go.Proofs.FuCrc
set_option maxRecDepth 100000
theorem back_lines (cls kind : Int) (id ver ep : Nat) (ks vs : ByteArray) (hm : may (mkB cls kind id ver ep ks vs) = true) : backV (lines (mkB cls kind id ver ep ks vs)) = .tuple #[blockV cls kind id ver ep ks vs, .bool true] := by
  rw [backV_yes (reads_lines hm), parse_lines (fine_of hm)]
  rfl
set_option maxHeartbeats 1500000 in
theorem law6_BlockBack (cls kind : Int) (id ver ep : Nat) (ks vs : ByteArray) (w : World) (hc : -9223372036854775808 ≤ cls ∧ cls ≤ 9223372036854775807) (hi : id < 18446744073709551616) (hv : ver < 18446744073709551616) (he : ep < 18446744073709551616) :
    Calls Try.prog 6 #[blockV cls kind id ver ep ks vs] w fun e w' => e = .returned (.bool true) ∧ Only [] w w' := by
  have O1 := Lib.hid (show Only [] w (w.alloc (.cells #[.int .i64 cls, .int .i64 kind, .int .u64 id, .int .u64 ver, .int .u64 ep, .string ks, .string vs] 24)) from (Only.refl _ _).alloc _)
  have BX := Lib.hid (Blk.new w 24 #[.int .i64 cls, .int .i64 kind, .int .u64 id, .int .u64 ver, .int .u64 ep, .string ks, .string vs])
  have HLO := Lib.hid (fun w => law6_long cls kind id ver ep ks vs w)
  by_cases hl : longB ks vs = true
  · rw [hl] at HLO
    clear hl
    go_enter Try.func6, Try.ntmps6
    go_wp2_with ((with_reducible show wpList _ _ _ (Oper.mk (some 11) _ _ _ _ _ :: _) _ _); refine wpList_load_mid rfl 24 (.tmp 1) rfl w.heap.size 0 rfl [.int .i64 cls, .int .i64 kind, .int .u64 id, .int .u64 ver, .int .u64 ep, .string ks, .string vs] _ (fun j v hj => by rw [Nat.zero_add, BX.out.cell, List.getElem?_toArray.symm]; exact hj) Try.underlying24 rfl (by kernel_rfl) ?_)
    refine (HLO.out _).mono ?_
    rintro e w2 ⟨rfl, o_w2⟩
    have O2 := Lib.hid (O1.out.trans0 o_w2)
    have O2_ := Lib.hid o_w2
    clear o_w2
    go_wp2_with fail
    refine (law6_awake _).mono ?_
    rintro e wz ⟨rfl, oz⟩
    have OZ := Lib.hid (O2.out.trans0 oz)
    clear oz
    go_wp2
    go_ret
    exact ⟨rfl, OZ.out⟩
  have hl2 : longB ks vs = false := by simpa using hl
  rw [hl2] at HLO
  clear hl
  have hs := long_le hl2
  have HM := Lib.hid (fun w => block_May cls kind id ver ep ks vs w hc hi hv he (by omega) (by omega))
  clear hs
  by_cases hm : may (mkB cls kind id ver ep ks vs) = true
  case neg =>
    have hm2 : may (mkB cls kind id ver ep ks vs) = false := by simpa using hm
    have HEN := Lib.hid (fun w => enc_no cls kind id ver ep ks vs w hc hi hv he hl2 hm2)
    rw [hm2] at HM
    clear hm hm2 hl2
    go_enter Try.func6, Try.ntmps6
    go_wp2_with ((with_reducible show wpList _ _ _ (Oper.mk (some 11) _ _ _ _ _ :: _) _ _); refine wpList_load_mid rfl 24 (.tmp 1) rfl w.heap.size 0 rfl [.int .i64 cls, .int .i64 kind, .int .u64 id, .int .u64 ver, .int .u64 ep, .string ks, .string vs] _ (fun j v hj => by rw [Nat.zero_add, BX.out.cell, List.getElem?_toArray.symm]; exact hj) Try.underlying24 rfl (by kernel_rfl) ?_)
    refine (HLO.out _).mono ?_
    rintro e w2 ⟨rfl, o_w2⟩
    have O2 := Lib.hid (O1.out.trans0 o_w2)
    have O2_ := Lib.hid o_w2
    clear o_w2
    have B2 := Lib.hid (BX.out.only O2_.out (by simp))
    have z0 : w2.cell? ⟨w.heap.size, 0, none⟩ = some (.int .i64 cls) := B2.out.cell 0
    have z1 : w2.cell? ⟨w.heap.size, 1, none⟩ = some (.int .i64 kind) := B2.out.cell 1
    have z2 : w2.cell? ⟨w.heap.size, 2, none⟩ = some (.int .u64 id) := B2.out.cell 2
    have z3 : w2.cell? ⟨w.heap.size, 3, none⟩ = some (.int .u64 ver) := B2.out.cell 3
    have z4 : w2.cell? ⟨w.heap.size, 4, none⟩ = some (.int .u64 ep) := B2.out.cell 4
    have z5 : w2.cell? ⟨w.heap.size, 5, none⟩ = some (.string ks) := B2.out.cell 5
    have z6 : w2.cell? ⟨w.heap.size, 6, none⟩ = some (.string vs) := B2.out.cell 6
    go_wp2_with fail
    refine (HEN.out _).mono ?_
    rintro e w3 ⟨A, c, rfl, o3⟩
    have O3 := Lib.hid (O2.out.trans0 o3)
    have B3 := Lib.hid (B2.out.only o3 (by simp))
    clear z0 z1 z2 z3 z4 z5 z6 o3
    have z0 : w3.cell? ⟨w.heap.size, 0, none⟩ = some (.int .i64 cls) := B3.out.cell 0
    have z1 : w3.cell? ⟨w.heap.size, 1, none⟩ = some (.int .i64 kind) := B3.out.cell 1
    have z2 : w3.cell? ⟨w.heap.size, 2, none⟩ = some (.int .u64 id) := B3.out.cell 2
    have z3 : w3.cell? ⟨w.heap.size, 3, none⟩ = some (.int .u64 ver) := B3.out.cell 3
    have z4 : w3.cell? ⟨w.heap.size, 4, none⟩ = some (.int .u64 ep) := B3.out.cell 4
    have z5 : w3.cell? ⟨w.heap.size, 5, none⟩ = some (.string ks) := B3.out.cell 5
    have z6 : w3.cell? ⟨w.heap.size, 6, none⟩ = some (.string vs) := B3.out.cell 6
    go_wp2_with fail
    refine (HM.out _).mono ?_
    rintro e w4 ⟨rfl, o_w4⟩
    have O4 := Lib.hid (O3.out.trans0 o_w4)
    have O4_ := Lib.hid o_w4
    clear o_w4
    go_wp2_with fail
    refine (law6_awake _).mono ?_
    rintro e wz ⟨rfl, oz⟩
    have OZ := Lib.hid (O4.out.trans0 oz)
    clear oz
    go_wp2
    go_ret
    exact ⟨rfl, OZ.out⟩
  case pos =>
  have HEN := Lib.hid (fun w => enc_yes cls kind id ver ep ks vs w hc hi hv he hl2 hm)
  have hf := fine_of hm
  have hsp : 1 ≤ span cls ∧ span cls ≤ 8 := span_pos hf.c0 hf.c3
  have hlen : (lines (mkB cls kind id ver ep ks vs)).length = 64 * span cls := lines_length _
  have HBK := Lib.hid (back_lines cls kind id ver ep ks vs hm)
  have HQ : Hid (∀ w, (binOp .eql 24 (blockV cls kind id ver ep ks vs) (blockV cls kind id ver ep ks vs)).run Try.prog w = .ok (.bool true) w) := Lib.hid (fun w => by rw [show true = same (mkB cls kind id ver ep ks vs) (mkB cls kind id ver ep ks vs) from ((same_iff _ _).2 rfl).symm]; exact eql_block cls kind id ver ep ks vs cls kind id ver ep ks vs w)
  have HG := Lib.hid (fun (w : World) (x y : Operand) => run_eqGuard_agg (P := Try.prog) w .eql 24 x y #[.int .i64 cls, .int .i64 kind, .int .u64 id, .int .u64 ver, .int .u64 ep, .string ks, .string vs] #[.int .i64 cls, .int .i64 kind, .int .u64 id, .int .u64 ver, .int .u64 ep, .string ks, .string vs] blockGuard)
  have hq0 : decide (cls < 0) = false := by rw [decide_eq_false_iff_not]; have h1 : 0 ≤ cls := hf.c0; omega
  have hq3 : decide (3 < cls) = false := by rw [decide_eq_false_iff_not]; have h1 : cls ≤ 3 := hf.c3; omega
  have hcl : cls = 0 ∨ cls = 1 ∨ cls = 2 ∨ cls = 3 := by have h1 : 0 ≤ cls := hf.c0; have h2 : cls ≤ 3 := hf.c3; omega
  have HCL := Lib.hid hcl
  clear hf hm hl2 hcl
  generalize lines (mkB cls kind id ver ep ks vs) = L at *
  obtain ⟨n, hn⟩ : ∃ n, n = 64 * span cls := ⟨_, rfl⟩
  rw [← hn] at HEN hlen
  have HN := Lib.hid hn
  have hn1 : 64 ≤ n ∧ n ≤ 512 := by omega
  have HSH : Hid (∀ w, (Op.shift .shl .i64 64 .i64 cls).run Try.prog w = .ok (.int .i64 n) w) := Lib.hid (fun w => by
    rw [hn]
    rcases HCL.out with e | e | e | e <;> rw [e] <;> rfl)
  have HNM := Lib.hid (show ¬ reads (L ++ [0]) from fun x => by have := reads_len x; rw [List.length_append, List.length_singleton] at this; omega)
  have HNL := Lib.hid (show ¬ reads (L.take (n - 1)) from fun x => by have := reads_len x; rw [List.length_take] at this; omega)
  obtain ⟨i0, hi0, hz0, hz1, hz2⟩ := info_parts Try.byteInfo
  have HI0 := Lib.hid hi0
  have HZ0 := Lib.hid hz0
  have HZ1 := Lib.hid hz1
  have HZ2 := Lib.hid hz2
  clear hn hi0 hz0 hz1 hz2 hlen hsp
  go_enter Try.func6, Try.ntmps6
  go_wp2_with ((with_reducible show wpList _ _ _ (Oper.mk (some 11) _ _ _ _ _ :: _) _ _); refine wpList_load_mid rfl 24 (.tmp 1) rfl w.heap.size 0 rfl [.int .i64 cls, .int .i64 kind, .int .u64 id, .int .u64 ver, .int .u64 ep, .string ks, .string vs] _ (fun j v hj => by rw [Nat.zero_add, BX.out.cell, List.getElem?_toArray.symm]; exact hj) Try.underlying24 rfl (by kernel_rfl) ?_)
  refine (HLO.out _).mono ?_
  rintro e w2 ⟨rfl, o_w2⟩
  have O2 := Lib.hid (O1.out.trans0 o_w2)
  have O2_ := Lib.hid o_w2
  clear o_w2
  have B2 := Lib.hid (BX.out.only O2_.out (by simp))
  have z0 : w2.cell? ⟨w.heap.size, 0, none⟩ = some (.int .i64 cls) := B2.out.cell 0
  have z1 : w2.cell? ⟨w.heap.size, 1, none⟩ = some (.int .i64 kind) := B2.out.cell 1
  have z2 : w2.cell? ⟨w.heap.size, 2, none⟩ = some (.int .u64 id) := B2.out.cell 2
  have z3 : w2.cell? ⟨w.heap.size, 3, none⟩ = some (.int .u64 ver) := B2.out.cell 3
  have z4 : w2.cell? ⟨w.heap.size, 4, none⟩ = some (.int .u64 ep) := B2.out.cell 4
  have z5 : w2.cell? ⟨w.heap.size, 5, none⟩ = some (.string ks) := B2.out.cell 5
  have z6 : w2.cell? ⟨w.heap.size, 6, none⟩ = some (.string vs) := B2.out.cell 6
  go_wp2_with fail
  refine (HEN.out _).mono ?_
  rintro e w3 ⟨g, c, rfl, hg, ho3, o3⟩
  have O3 := Lib.hid (O2.out.trans0 o3)
  have B3 := Lib.hid (B2.out.only o3 (by simp))
  have S3 := Lib.hid ho3.bs
  have hcap := ho3.cap.1
  clear z0 z1 z2 z3 z4 z5 z6 o3 ho3 hg
  have z0 : w3.cell? ⟨w.heap.size, 0, none⟩ = some (.int .i64 cls) := B3.out.cell 0
  have HD1 := Lib.hid (block_Decode (some ⟨g, 0, none⟩) n c L w3 S3.out (by omega) hcap)
  rw [HBK.out] at HD1
  go_wp2_with fail
  refine HD1.out.mono ?_
  rintro e w4 ⟨rfl, o4⟩
  have o5 : Only [] w4 (w4.alloc (.cells #[.int .i64 cls, .int .i64 kind, .int .u64 id, .int .u64 ver, .int .u64 ep, .string ks, .string vs] 24)) := (Only.refl _ _).alloc _
  have O4 := Lib.hid ((O3.out.trans0 o4).trans0 o5)
  have B4 := Lib.hid ((B3.out.only o4 (by simp)).only o5 (by simp))
  have S4 := Lib.hid ((S3.out.only0 o4).only0 o5)
  have Y4 := Lib.hid (Blk.new w4 24 #[.int .i64 cls, .int .i64 kind, .int .u64 id, .int .u64 ver, .int .u64 ep, .string ks, .string vs])
  clear o4 o5 z0
  go_wp2_with (first | (at_builtin; obtain ⟨A7, c7, w7, hr7, ho7, hs7, on7⟩ := append_own (P := Try.prog) (w6.alloc (.cells #[.int .u8 0] 5)) (N6.out.alloc _) 27 27 5 i0 _ 1 Try.underlying27 HI0.out HZ0.out HZ1.out HZ2.out rfl (.slice A6 n c6) n (L.map B) (H6.out.alloc _) (some ⟨w6.heap.size, 0, none⟩) 1 1 [.int .u8 0] (cell_new1 _ _ _) (ints_new1 _ _) (by unfold maxLen; omega) (by omega); have H7 := Lib.hid ho7; have N7 := Lib.hid on7; clear ho7 hs7 on7; refine wpList_append_run _ rfl (.tmp 52) (.tmp 53) 27 rfl _ _ rfl rfl _ _ hr7 ?_) | (at_builtin; obtain ⟨A6, c6, w6, hr6, ho6, hs6, on6⟩ := append_fresh (P := Try.prog) (w4.alloc (.cells #[.int .i64 cls, .int .i64 kind, .int .u64 id, .int .u64 ver, .int .u64 ep, .string ks, .string vs] 24)) 27 27 5 i0 _ 1 Try.underlying27 HI0.out HZ0.out HZ1.out HZ2.out rfl (some ⟨g, 0, none⟩) n c (L.map B) S4.out one_B (by unfold maxLen; omega) (by omega); have H6 := Lib.hid ho6; have N6 := Lib.hid on6; clear ho6 hs6 on6; refine wpList_append_run _ rfl (.const (.slice none 0 0)) (.tmp 51) 27 rfl _ _ rfl rfl _ _ hr6 ?_))
  have hb7 : Bs w7 A7 (n + 1) (L ++ [0]) := by
    have := Sl.of_own H7.out
    unfold Bs
    rw [List.map_append]
    exact this
  obtain ⟨A7', c7', hvv, hc7, _⟩ := own_slice H7.out
  cases hvv
  have HD2 := Lib.hid (block_Decode A7 (n + 1) c7 (L ++ [0]) w7 hb7 (by omega) hc7)
  rw [backV_no HNM.out] at HD2
  unfold noneV at HD2
  have O7 := Lib.hid (O4.out.trans0 N7.out)
  have B7 := Lib.hid (B4.out.only N7.out (by simp))
  have S7 := Lib.hid (S4.out.only0 N7.out)
  have Y7 := Lib.hid (Y4.out.only N7.out (by simp))
  clear hb7 hc7
  go_wp2_with fail
  refine HD2.out.mono ?_
  rintro e w8 ⟨rfl, o8⟩
  have o9 : Only [] w8 (w8.alloc (.cells #[.int .i64 0, .int .i64 0, .int .u64 0, .int .u64 0, .int .u64 0, .string ⟨#[]⟩, .string ⟨#[]⟩] 24)) := (Only.refl _ _).alloc _
  have o9' := o8.trans0 o9
  have O8 := Lib.hid (O7.out.trans0 o9')
  have B8 := Lib.hid (B7.out.only o9' (by simp))
  have S8 := Lib.hid (S7.out.only0 o9')
  have Y8 := Lib.hid (Y7.out.only o9' (by simp))
  have hcut : Bs (w8.alloc (.cells #[.int .i64 0, .int .i64 0, .int .u64 0, .int .u64 0, .int .u64 0, .string ⟨#[]⟩, .string ⟨#[]⟩] 24)) (some ⟨g, 0, none⟩) (n - 1) (L.take (n - 1)) := by
    have := S8.out.cut (a := 0) (m := n - 1) (by omega)
    simpa using this
  have HD3 := Lib.hid (block_Decode (some ⟨g, 0, none⟩) (n - 1) c (L.take (n - 1)) _ hcut (by omega) (by omega))
  rw [backV_no HNL.out] at HD3
  unfold noneV at HD3
  clear o8 o9 o9' hcut
  go_wp2_with fail
  refine HD3.out.mono ?_
  rintro e w10 ⟨rfl, o10⟩
  have o11 : Only [] w10 (w10.alloc (.cells #[.int .i64 0, .int .i64 0, .int .u64 0, .int .u64 0, .int .u64 0, .string ⟨#[]⟩, .string ⟨#[]⟩] 24)) := (Only.refl _ _).alloc _
  have o11' := o10.trans0 o11
  have O10 := Lib.hid (O8.out.trans0 o11')
  have BA := Lib.hid (B8.out.only o11' (by simp))
  have YA := Lib.hid (Y8.out.only o11' (by simp))
  clear o10 o11 o11'
  have x0 : (w10.alloc (.cells #[.int .i64 0, .int .i64 0, .int .u64 0, .int .u64 0, .int .u64 0, .string ⟨#[]⟩, .string ⟨#[]⟩] 24)).cell? ⟨w.heap.size, 0, none⟩ = some (.int .i64 cls) := BA.out.cell 0
  have x1 : (w10.alloc (.cells #[.int .i64 0, .int .i64 0, .int .u64 0, .int .u64 0, .int .u64 0, .string ⟨#[]⟩, .string ⟨#[]⟩] 24)).cell? ⟨w.heap.size, 1, none⟩ = some (.int .i64 kind) := BA.out.cell 1
  have x2 : (w10.alloc (.cells #[.int .i64 0, .int .i64 0, .int .u64 0, .int .u64 0, .int .u64 0, .string ⟨#[]⟩, .string ⟨#[]⟩] 24)).cell? ⟨w.heap.size, 2, none⟩ = some (.int .u64 id) := BA.out.cell 2
  have x3 : (w10.alloc (.cells #[.int .i64 0, .int .i64 0, .int .u64 0, .int .u64 0, .int .u64 0, .string ⟨#[]⟩, .string ⟨#[]⟩] 24)).cell? ⟨w.heap.size, 3, none⟩ = some (.int .u64 ver) := BA.out.cell 3
  have x4 : (w10.alloc (.cells #[.int .i64 0, .int .i64 0, .int .u64 0, .int .u64 0, .int .u64 0, .string ⟨#[]⟩, .string ⟨#[]⟩] 24)).cell? ⟨w.heap.size, 4, none⟩ = some (.int .u64 ep) := BA.out.cell 4
  have x5 : (w10.alloc (.cells #[.int .i64 0, .int .i64 0, .int .u64 0, .int .u64 0, .int .u64 0, .string ⟨#[]⟩, .string ⟨#[]⟩] 24)).cell? ⟨w.heap.size, 5, none⟩ = some (.string ks) := BA.out.cell 5
  have x6 : (w10.alloc (.cells #[.int .i64 0, .int .i64 0, .int .u64 0, .int .u64 0, .int .u64 0, .string ⟨#[]⟩, .string ⟨#[]⟩] 24)).cell? ⟨w.heap.size, 6, none⟩ = some (.string vs) := BA.out.cell 6
  have y0 : (w10.alloc (.cells #[.int .i64 0, .int .i64 0, .int .u64 0, .int .u64 0, .int .u64 0, .string ⟨#[]⟩, .string ⟨#[]⟩] 24)).cell? ⟨w4.heap.size, 0, none⟩ = some (.int .i64 cls) := YA.out.cell 0
  have y1 : (w10.alloc (.cells #[.int .i64 0, .int .i64 0, .int .u64 0, .int .u64 0, .int .u64 0, .string ⟨#[]⟩, .string ⟨#[]⟩] 24)).cell? ⟨w4.heap.size, 1, none⟩ = some (.int .i64 kind) := YA.out.cell 1
  have y2 : (w10.alloc (.cells #[.int .i64 0, .int .i64 0, .int .u64 0, .int .u64 0, .int .u64 0, .string ⟨#[]⟩, .string ⟨#[]⟩] 24)).cell? ⟨w4.heap.size, 2, none⟩ = some (.int .u64 id) := YA.out.cell 2
  have y3 : (w10.alloc (.cells #[.int .i64 0, .int .i64 0, .int .u64 0, .int .u64 0, .int .u64 0, .string ⟨#[]⟩, .string ⟨#[]⟩] 24)).cell? ⟨w4.heap.size, 3, none⟩ = some (.int .u64 ver) := YA.out.cell 3
  have y4 : (w10.alloc (.cells #[.int .i64 0, .int .i64 0, .int .u64 0, .int .u64 0, .int .u64 0, .string ⟨#[]⟩, .string ⟨#[]⟩] 24)).cell? ⟨w4.heap.size, 4, none⟩ = some (.int .u64 ep) := YA.out.cell 4
  have y5 : (w10.alloc (.cells #[.int .i64 0, .int .i64 0, .int .u64 0, .int .u64 0, .int .u64 0, .string ⟨#[]⟩, .string ⟨#[]⟩] 24)).cell? ⟨w4.heap.size, 5, none⟩ = some (.string ks) := YA.out.cell 5
  have y6 : (w10.alloc (.cells #[.int .i64 0, .int .i64 0, .int .u64 0, .int .u64 0, .int .u64 0, .string ⟨#[]⟩, .string ⟨#[]⟩] 24)).cell? ⟨w4.heap.size, 6, none⟩ = some (.string vs) := YA.out.cell 6
  have hq := HQ.out
  have hg := HG.out
  have hsh := HSH.out
  go_wp2_with fail
  refine (law6_awake _).mono ?_
  rintro e wz ⟨rfl, oz⟩
  have OZ := Lib.hid (O10.out.trans0 oz)
  clear oz
  go_wp2
  go_ret
  exact ⟨rfl, OZ.out⟩
theorem walk_BlockBack (x : Int × Int × Nat × Nat × Nat × ByteArray × ByteArray) (w : World) (h : (-9223372036854775808 ≤ x.1 ∧ x.1 ≤ 9223372036854775807) ∧ x.2.2.1 < 18446744073709551616 ∧ x.2.2.2.1 < 18446744073709551616 ∧ x.2.2.2.2.1 < 18446744073709551616) :
    Calls Try.prog 6 #[blockV x.1 x.2.1 x.2.2.1 x.2.2.2.1 x.2.2.2.2.1 x.2.2.2.2.2.1 x.2.2.2.2.2.2] w fun e w' => e = .returned (.bool true) ∧ Only [] w w' :=
  law6_BlockBack _ _ _ _ _ _ _ w h.1 h.2.1 h.2.2.1 h.2.2.2
end Go.Proofs.Ytkhfcghnodggeaa
