/- Law 6: the walk of BlockTurned. -/
import Derived.Test.YtkhfcghnodggeaaLaw6B
import Derived.Test.YtkhfcghnodggeaaLend
import Derived.Test.YtkhfcghnodggeaaXor8
namespace Go.Proofs.Ytkhfcghnodggeaa
open Go.RowKit Go.Proofs.FuMem Go.Proofs.FuCode Go.Proofs.FuClass Go.Proofs.FuBlock Go.Proofs.FuEq Go.Proofs.FuCrc
set_option maxRecDepth 100000
set_option maxHeartbeats 1000000 in
theorem law6_BlockTurned (cls kind : Int) (id ver ep : Nat) (ks vs : ByteArray) (at_ wi : Int) (w : World) (hc : -9223372036854775808 ≤ cls ∧ cls ≤ 9223372036854775807) (hi : id < 18446744073709551616) (hv : ver < 18446744073709551616) (he : ep < 18446744073709551616) :
    Calls Try.prog 7 #[blockV cls kind id ver ep ks vs, .int .i64 at_, .int .i64 wi] w fun e w' => e = .returned (.bool true) ∧ Only [] w w' := by
  have O1 := Lib.hid (show Only [] w (w.alloc (.cells #[.int .i64 cls, .int .i64 kind, .int .u64 id, .int .u64 ver, .int .u64 ep, .string ks, .string vs] 24)) from (Only.refl _ _).alloc _)
  have BX := Lib.hid (Blk.new w 24 #[.int .i64 cls, .int .i64 kind, .int .u64 id, .int .u64 ver, .int .u64 ep, .string ks, .string vs])
  have HLO := Lib.hid (fun w => law6_long cls kind id ver ep ks vs w)
  by_cases hl : longB ks vs = true
  · rw [hl] at HLO
    clear hl
    go_enter Try.func7, Try.ntmps7
    go_wp2_with ((with_reducible show wpList _ _ _ (Oper.mk (some 12) _ _ _ _ _ :: _) _ _); refine wpList_load_mid rfl 24 (.tmp 3) rfl w.heap.size 0 rfl [.int .i64 cls, .int .i64 kind, .int .u64 id, .int .u64 ver, .int .u64 ep, .string ks, .string vs] _ (fun j v hj => by rw [Nat.zero_add, BX.out.cell, List.getElem?_toArray.symm]; exact hj) Try.underlying24 rfl (by kernel_rfl) ?_)
    refine (HLO.out _).mono ?_
    rintro e w2 ⟨rfl, o_w2⟩
    have O2 := Lib.hid (O1.out.trans0 o_w2)
    have O2_ := Lib.hid o_w2
    clear o_w2
    go_wp2_with fail
    refine (law6_awake _).mono ?_
    rintro e wz ⟨rfl, oz⟩
    have OZ := Lib.hid (O2.out.trans0 oz)
    clear oz
    go_wp2
    go_ret
    exact ⟨rfl, OZ.out⟩
  have hl2 : longB ks vs = false := by simpa using hl
  rw [hl2] at HLO
  clear hl
  by_cases hm : may (mkB cls kind id ver ep ks vs) = true
  case neg =>
    have hm2 : may (mkB cls kind id ver ep ks vs) = false := by simpa using hm
    have HEN := Lib.hid (fun w => enc_no cls kind id ver ep ks vs w hc hi hv he hl2 hm2)
    clear hm hm2 hl2
    go_enter Try.func7, Try.ntmps7
    go_wp2_with ((with_reducible show wpList _ _ _ (Oper.mk (some 12) _ _ _ _ _ :: _) _ _); refine wpList_load_mid rfl 24 (.tmp 3) rfl w.heap.size 0 rfl [.int .i64 cls, .int .i64 kind, .int .u64 id, .int .u64 ver, .int .u64 ep, .string ks, .string vs] _ (fun j v hj => by rw [Nat.zero_add, BX.out.cell, List.getElem?_toArray.symm]; exact hj) Try.underlying24 rfl (by kernel_rfl) ?_)
    refine (HLO.out _).mono ?_
    rintro e w2 ⟨rfl, o2⟩
    have O2 := Lib.hid (O1.out.trans0 o2)
    have B2 := Lib.hid (BX.out.only o2 (by simp))
    clear o2
    have z0 : w2.cell? ⟨w.heap.size, 0, none⟩ = some (.int .i64 cls) := B2.out.cell 0
    have z1 : w2.cell? ⟨w.heap.size, 1, none⟩ = some (.int .i64 kind) := B2.out.cell 1
    have z2 : w2.cell? ⟨w.heap.size, 2, none⟩ = some (.int .u64 id) := B2.out.cell 2
    have z3 : w2.cell? ⟨w.heap.size, 3, none⟩ = some (.int .u64 ver) := B2.out.cell 3
    have z4 : w2.cell? ⟨w.heap.size, 4, none⟩ = some (.int .u64 ep) := B2.out.cell 4
    have z5 : w2.cell? ⟨w.heap.size, 5, none⟩ = some (.string ks) := B2.out.cell 5
    have z6 : w2.cell? ⟨w.heap.size, 6, none⟩ = some (.string vs) := B2.out.cell 6
    go_wp2_with fail
    refine (HEN.out _).mono ?_
    rintro e w3 ⟨A, c, rfl, o3⟩
    have O3 := Lib.hid (O2.out.trans0 o3)
    clear o3
    go_wp2_with fail
    refine (law6_awake _).mono ?_
    rintro e wz ⟨rfl, oz⟩
    have OZ := Lib.hid (O3.out.trans0 oz)
    clear oz
    go_wp2
    go_ret
    exact ⟨rfl, OZ.out⟩
  case pos =>
  have HEN := Lib.hid (fun w => enc_yes cls kind id ver ep ks vs w hc hi hv he hl2 hm)
  have hf := fine_of hm
  have hsp : 1 ≤ span cls ∧ span cls ≤ 8 := span_pos hf.c0 hf.c3
  have hlen : (lines (mkB cls kind id ver ep ks vs)).length = 64 * span cls := lines_length _
  have HTU := Lib.hid (fun (k : Nat) (v : UInt8) (hk : k < (lines (mkB cls kind id ver ep ks vs)).length) hne => reads_turn hm (k := k) (v := v) hk hne)
  clear hf hm hl2
  generalize lines (mkB cls kind id ver ep ks vs) = L at *
  obtain ⟨n, hn⟩ : ∃ n, n = 64 * span cls := ⟨_, rfl⟩
  rw [← hn] at HEN hlen
  have hn1 : 1 ≤ n ∧ n ≤ 512 := by omega
  clear hn hsp
  have hb0 : ((n : Int) == 0) = false := by simp; omega
  have hk := low_lt at_ n hn1.1
  have hL := Lib.hid (fun w => law0_Low at_ n w hn1.1 (by omega))
  have hL2 : Hid (∀ w, Calls Try.prog 23 #[.int .i64 wi, .int .i64 255] w fun e w' => e = .returned (.int .i64 (low wi 255)) ∧ w = w') := Lib.hid (fun w => law0_Low wi 255 w (by omega) (by omega))
  have hl2 := low_lt wi 255 (by omega)
  generalize low at_ n = k at *
  generalize low wi 255 = j at *
  have hkl : k < L.length := by omega
  have hx1 := Lib.hid (xor8 (L.getD k 0) (1 + j) (by omega))
  have HNR := Lib.hid (HTU.out k (L.getD k 0 ^^^ UInt8.ofNat (1 + j)) hkl (xor8_ne _ _ (by omega) (by omega)))
  clear HTU
  go_enter Try.func7, Try.ntmps7
  go_wp2_with ((with_reducible show wpList _ _ _ (Oper.mk (some 12) _ _ _ _ _ :: _) _ _); refine wpList_load_mid rfl 24 (.tmp 3) rfl w.heap.size 0 rfl [.int .i64 cls, .int .i64 kind, .int .u64 id, .int .u64 ver, .int .u64 ep, .string ks, .string vs] _ (fun j v hj => by rw [Nat.zero_add, BX.out.cell, List.getElem?_toArray.symm]; exact hj) Try.underlying24 rfl (by kernel_rfl) ?_)
  refine (HLO.out _).mono ?_
  rintro e w2 ⟨rfl, o2⟩
  have O2 := Lib.hid (O1.out.trans0 o2)
  have B2 := Lib.hid (BX.out.only o2 (by simp))
  clear o2
  have z0 : w2.cell? ⟨w.heap.size, 0, none⟩ = some (.int .i64 cls) := B2.out.cell 0
  have z1 : w2.cell? ⟨w.heap.size, 1, none⟩ = some (.int .i64 kind) := B2.out.cell 1
  have z2 : w2.cell? ⟨w.heap.size, 2, none⟩ = some (.int .u64 id) := B2.out.cell 2
  have z3 : w2.cell? ⟨w.heap.size, 3, none⟩ = some (.int .u64 ver) := B2.out.cell 3
  have z4 : w2.cell? ⟨w.heap.size, 4, none⟩ = some (.int .u64 ep) := B2.out.cell 4
  have z5 : w2.cell? ⟨w.heap.size, 5, none⟩ = some (.string ks) := B2.out.cell 5
  have z6 : w2.cell? ⟨w.heap.size, 6, none⟩ = some (.string vs) := B2.out.cell 6
  go_wp2_with fail
  refine (HEN.out _).mono ?_
  rintro e w3 ⟨g, c, rfl, hg, ho3, o3⟩
  have O3 := Lib.hid (O2.out.trans0 o3)
  have hgw : w.heap.size ≤ g := Nat.le_trans O2.out.size hg
  have hcap := ho3.cap
  have hc1 := ho3.cell k hk
  have hf1 := ho3.frozen k
  have hset : Bs (w3.drew.setCell ⟨g, k, none⟩ (.int .u8 (bits .xor .u8 ((L.getD k 0).toNat : Int) ((1 + j : Nat) : Int)))) (some ⟨g, 0, none⟩) n (L.set k (L.getD k 0 ^^^ UInt8.ofNat (1 + j))) := (ho3.set k hx1.out).bs
  have on4 : Only [] w (w3.drew.setCell ⟨g, k, none⟩ (.int .u8 (bits .xor .u8 ((L.getD k 0).toNat : Int) ((1 + j : Nat) : Int)))) := O3.out.drew.setCell (p := ⟨g, k, none⟩) (.inr hgw) _
  rw [show ((1 + j : Nat) : Int) = 1 + (j : Int) by omega] at on4 hset
  generalize L.set k (L.getD k 0 ^^^ UInt8.ofNat (1 + j)) = L' at *
  clear hx1
  generalize (L.getD k 0).toNat = y at *
  have HS := Lib.hid hset
  have O4 := Lib.hid on4
  have HCP := Lib.hid hcap.1
  clear hset on4 o3 ho3 hcap hg
  go_wp2_with fail
  refine (hL.out _).mono ?_
  rintro e w' ⟨rfl, rfl⟩
  go_wp2
  refine wp_region_still_tail 12 (by kernel_rfl) (by kernel_rfl) ?_
  simp only [List.take_succ_cons, List.take_zero, List.drop_succ_cons, List.drop_zero]
  generalize hwd : ({ w3 with drawn := w3.drawn + 1 } : World) = wd
  have hc2 : wd.cell? ⟨g, k, none⟩ = some (.int .u8 y) := hwd ▸ hc1
  have hf2 : wd.frozen? ⟨g, k, none⟩ = false := hwd ▸ hf1
  have HD : Hid (w3.drew = wd) := hwd
  clear hwd hc1 hf1
  repeat still_step
  still_call (Calls.flip (hL2.out _))
  repeat still_step
  refine wpStill_nil ?_
  have HDE := Lib.hid (block_Decode (some ⟨g, 0, none⟩) n c L' _ (HD.out ▸ HS.out) (by omega) HCP.out)
  rw [backV_no HNR.out] at HDE
  unfold noneV at HDE
  go_wp2_with fail
  refine HDE.out.mono ?_
  rintro e w5 ⟨rfl, o5⟩
  have O5 := Lib.hid ((HD.out ▸ O4.out).trans0 o5)
  clear o5
  go_wp2_with fail
  refine (law6_awake _).mono ?_
  rintro e w6 ⟨rfl, o6⟩
  have O6 := Lib.hid ((O5.out.alloc _).trans0 o6)
  clear o6
  go_wp2
  go_ret
  exact ⟨rfl, O6.out⟩
theorem walk_BlockTurned (x : Int × Int × Nat × Nat × Nat × ByteArray × ByteArray) (at_ wi : Int) (w : World) (h : (-9223372036854775808 ≤ x.1 ∧ x.1 ≤ 9223372036854775807) ∧ x.2.2.1 < 18446744073709551616 ∧ x.2.2.2.1 < 18446744073709551616 ∧ x.2.2.2.2.1 < 18446744073709551616) (_h1 : -9223372036854775808 ≤ at_ ∧ at_ ≤ 9223372036854775807) (_h2 : -9223372036854775808 ≤ wi ∧ wi ≤ 9223372036854775807) :
    Calls Try.prog 7 #[blockV x.1 x.2.1 x.2.2.1 x.2.2.2.1 x.2.2.2.2.1 x.2.2.2.2.2.1 x.2.2.2.2.2.2, .int .i64 at_, .int .i64 wi] w fun e w' => e = .returned (.bool true) ∧ Only [] w w' :=
  law6_BlockTurned _ _ _ _ _ _ _ _ _ w h.1 h.2.1 h.2.2.1 h.2.2.2
end Go.Proofs.Ytkhfcghnodggeaa
