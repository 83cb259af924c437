/- Law 6: the walk of BlockData. -/
import Derived.Test.YtkhfcghnodggeaaLaw6B
namespace Go.Proofs.Ytkhfcghnodggeaa
open Go.RowKit Go.Proofs.FuMem Go.Proofs.FuCode Go.Proofs.FuClass Go.Proofs.FuBlock Go.Proofs.FuEq Go.Proofs.FuCrc
set_option maxRecDepth 100000
/-- what Head tells of each line -/
theorem heads_of {b : Block} (h : may b = true) {j : Nat} (hj : j < span b.cls) : headOf (((lines b).drop (64 * j)).take 64) = if j = 0 then .tuple #[.int .i64 b.cls, .int .i64 b.kind, .bool true] else .tuple #[.int .i64 0, .int .i64 0, .bool false] := by
  obtain ⟨h1, h2, h3⟩ := first_head h
  by_cases e : j = 0
  · subst e
    rw [if_pos rfl, Nat.mul_zero, List.drop_zero, headOf_yes h1, h2, h3]
  · rw [if_neg e]
    refine headOf_no fun hx => ?_
    have := (line_at (b := b) hj).2
    rw [if_neg e] at this
    rw [hx.2.1] at this
    exact absurd this (by decide)
set_option maxHeartbeats 1000000 in
theorem law6_BlockData (cls kind : Int) (id ver ep : Nat) (ks vs : ByteArray) (w : World) (hc : -9223372036854775808 ≤ cls ∧ cls ≤ 9223372036854775807) (hi : id < 18446744073709551616) (hv : ver < 18446744073709551616) (he : ep < 18446744073709551616) :
    Calls Try.prog 8 #[blockV cls kind id ver ep ks vs] w fun e w' => e = .returned (.bool true) ∧ Only [] w w' := by
  have O1 := Lib.hid (show Only [] w (w.alloc (.cells #[.int .i64 cls, .int .i64 kind, .int .u64 id, .int .u64 ver, .int .u64 ep, .string ks, .string vs] 24)) from (Only.refl _ _).alloc _)
  have BX := Lib.hid (Blk.new w 24 #[.int .i64 cls, .int .i64 kind, .int .u64 id, .int .u64 ver, .int .u64 ep, .string ks, .string vs])
  have HLO := Lib.hid (fun w => law6_long cls kind id ver ep ks vs w)
  by_cases hl : longB ks vs = true
  · rw [hl] at HLO
    clear hl
    go_enter Try.func8, Try.ntmps8
    go_wp2_with ((with_reducible show wpList _ _ _ (Oper.mk (some 9) _ _ _ _ _ :: _) _ _); refine wpList_load_mid rfl 24 (.tmp 1) rfl w.heap.size 0 rfl [.int .i64 cls, .int .i64 kind, .int .u64 id, .int .u64 ver, .int .u64 ep, .string ks, .string vs] _ (fun j v hj => by rw [Nat.zero_add, BX.out.cell, List.getElem?_toArray.symm]; exact hj) Try.underlying24 rfl (by kernel_rfl) ?_)
    refine (HLO.out _).mono ?_
    rintro e w2 ⟨rfl, o_w2⟩
    have O2 := Lib.hid (O1.out.trans0 o_w2)
    have O2_ := Lib.hid o_w2
    clear o_w2
    go_wp2_with fail
    refine (law6_awake _).mono ?_
    rintro e wz ⟨rfl, oz⟩
    have OZ := Lib.hid (O2.out.trans0 oz)
    clear oz
    go_wp2
    go_ret
    exact ⟨rfl, OZ.out⟩
  have hl2 : longB ks vs = false := by simpa using hl
  rw [hl2] at HLO
  clear hl
  by_cases hm : may (mkB cls kind id ver ep ks vs) = true
  case neg =>
    have hm2 : may (mkB cls kind id ver ep ks vs) = false := by simpa using hm
    have HEN := Lib.hid (fun w => enc_no cls kind id ver ep ks vs w hc hi hv he hl2 hm2)
    clear hm hm2 hl2
    go_enter Try.func8, Try.ntmps8
    go_wp2_with ((with_reducible show wpList _ _ _ (Oper.mk (some 9) _ _ _ _ _ :: _) _ _); refine wpList_load_mid rfl 24 (.tmp 1) rfl w.heap.size 0 rfl [.int .i64 cls, .int .i64 kind, .int .u64 id, .int .u64 ver, .int .u64 ep, .string ks, .string vs] _ (fun j v hj => by rw [Nat.zero_add, BX.out.cell, List.getElem?_toArray.symm]; exact hj) Try.underlying24 rfl (by kernel_rfl) ?_)
    refine (HLO.out _).mono ?_
    rintro e w2 ⟨rfl, o_w2⟩
    have O2 := Lib.hid (O1.out.trans0 o_w2)
    have O2_ := Lib.hid o_w2
    clear o_w2
    have B2 := Lib.hid (BX.out.only O2_.out (by simp))
    have z0 : w2.cell? ⟨w.heap.size, 0, none⟩ = some (.int .i64 cls) := B2.out.cell 0
    have z1 : w2.cell? ⟨w.heap.size, 1, none⟩ = some (.int .i64 kind) := B2.out.cell 1
    have z2 : w2.cell? ⟨w.heap.size, 2, none⟩ = some (.int .u64 id) := B2.out.cell 2
    have z3 : w2.cell? ⟨w.heap.size, 3, none⟩ = some (.int .u64 ver) := B2.out.cell 3
    have z4 : w2.cell? ⟨w.heap.size, 4, none⟩ = some (.int .u64 ep) := B2.out.cell 4
    have z5 : w2.cell? ⟨w.heap.size, 5, none⟩ = some (.string ks) := B2.out.cell 5
    have z6 : w2.cell? ⟨w.heap.size, 6, none⟩ = some (.string vs) := B2.out.cell 6
    go_wp2_with fail
    refine (HEN.out _).mono ?_
    rintro e w3 ⟨A, c, rfl, o3⟩
    have O3 := Lib.hid (O2.out.trans0 o3)
    clear o3
    go_wp2_with fail
    refine (law6_awake _).mono ?_
    rintro e wz ⟨rfl, oz⟩
    have OZ := Lib.hid (O3.out.trans0 oz)
    clear oz
    go_wp2
    go_ret
    exact ⟨rfl, OZ.out⟩
  case pos =>
  have HEN := Lib.hid (fun w => enc_yes cls kind id ver ep ks vs w hc hi hv he hl2 hm)
  have hf := fine_of hm
  have hsp : 1 ≤ span cls ∧ span cls ≤ 8 := span_pos hf.c0 hf.c3
  have HHD : Hid (∀ j, j < span cls → headOf (((lines (mkB cls kind id ver ep ks vs)).drop (64 * j)).take 64) = if j = 0 then .tuple #[.int .i64 cls, .int .i64 kind, .bool true] else .tuple #[.int .i64 0, .int .i64 0, .bool false]) := Lib.hid (fun j hj => heads_of hm hj)
  clear hf hm hl2
  generalize lines (mkB cls kind id ver ep ks vs) = L at *
  generalize span cls = s at *
  obtain ⟨n, hn⟩ : ∃ n, n = 64 * s := ⟨_, rfl⟩
  rw [← hn] at HEN
  have HN := Lib.hid hn
  have hn1 : 64 ≤ n ∧ n ≤ 512 := by omega
  clear hn
  go_enter Try.func8, Try.ntmps8
  go_wp2_with ((with_reducible show wpList _ _ _ (Oper.mk (some 9) _ _ _ _ _ :: _) _ _); refine wpList_load_mid rfl 24 (.tmp 1) rfl w.heap.size 0 rfl [.int .i64 cls, .int .i64 kind, .int .u64 id, .int .u64 ver, .int .u64 ep, .string ks, .string vs] _ (fun j v hj => by rw [Nat.zero_add, BX.out.cell, List.getElem?_toArray.symm]; exact hj) Try.underlying24 rfl (by kernel_rfl) ?_)
  refine (HLO.out _).mono ?_
  rintro e w2 ⟨rfl, o_w2⟩
  have O2 := Lib.hid (O1.out.trans0 o_w2)
  have O2_ := Lib.hid o_w2
  clear o_w2
  have B2 := Lib.hid (BX.out.only O2_.out (by simp))
  have z0 : w2.cell? ⟨w.heap.size, 0, none⟩ = some (.int .i64 cls) := B2.out.cell 0
  have z1 : w2.cell? ⟨w.heap.size, 1, none⟩ = some (.int .i64 kind) := B2.out.cell 1
  have z2 : w2.cell? ⟨w.heap.size, 2, none⟩ = some (.int .u64 id) := B2.out.cell 2
  have z3 : w2.cell? ⟨w.heap.size, 3, none⟩ = some (.int .u64 ver) := B2.out.cell 3
  have z4 : w2.cell? ⟨w.heap.size, 4, none⟩ = some (.int .u64 ep) := B2.out.cell 4
  have z5 : w2.cell? ⟨w.heap.size, 5, none⟩ = some (.string ks) := B2.out.cell 5
  have z6 : w2.cell? ⟨w.heap.size, 6, none⟩ = some (.string vs) := B2.out.cell 6
  go_wp2_with fail
  refine (HEN.out _).mono ?_
  rintro e w3 ⟨g, c, rfl, hg, ho3, o3⟩
  have O3 := Lib.hid (O2.out.trans0 o3)
  have B3 := Lib.hid (B2.out.only o3 (by simp))
  have HS := Lib.hid ho3.bs
  have hcap := ho3.cap.1
  clear o3 ho3 hg z0 z1 z2 z3 z4 z5 z6
  go_wp2
  go_loopw [5] (fun av wr => ∃ (j a : Nat), j ≤ s ∧ a = 64 * j ∧ av = .int .i64 a ∧ Only [] w3 wr) (fun av _ => n - (intOf av).toNat)
  case atStart => exact ⟨0, 0, by omega, by omega, rfl, Only.refl _ _⟩
  case round =>
    obtain ⟨j, a, hj, ha, rfl, on⟩ := hrel
    have hn2 := HN.out
    by_cases hjs : j < s
    · have han : a + 64 ≤ n := by omega
      clear hn2
      have q1 : decide ((a : Int) + 64 ≤ (n : Int)) = true := by rw [decide_eq_true_eq]; omega
      have hcut : Bs wr (some ⟨g, 0 + a, none⟩) 64 ((L.drop a).take 64) := (HS.out.only0 on).cut (by omega)
      have HC := Lib.hid hcut
      have HH := Lib.hid (HHD.out j hjs)
      rw [← ha] at HH
      have HAJ := Lib.hid ha
      have ON := Lib.hid on
      rw [Nat.zero_add] at HC
      have hcut2 : c - a < 9223372036854775808 ∨ True := Or.inr trivial
      have HCALL := Lib.hid (block_Head (some ⟨g, a, none⟩) 64 (c - a) _ wr HC.out (by omega))
      rw [HH.out] at HCALL
      have haj := ha
      clear hcut hcut2 on ha HH HC
      by_cases hj0 : j = 0
      · subst hj0
        have ha0 : a = 0 := by omega
        subst ha0
        rw [if_pos rfl] at HCALL
        clear haj
        go_wp2_with fail
        refine HCALL.out.mono ?_
        rintro e w5 ⟨rfl, o5⟩
        have O5 := Lib.hid (ON.out.trans0 o5)
        have B5 := Lib.hid (B3.out.only O5.out (by simp))
        have z0 : w5.cell? ⟨w.heap.size, 0, none⟩ = some (.int .i64 cls) := B5.out.cell 0
        have z1 : w5.cell? ⟨w.heap.size, 1, none⟩ = some (.int .i64 kind) := B5.out.cell 1
        have z2 : w5.cell? ⟨w.heap.size, 2, none⟩ = some (.int .u64 id) := B5.out.cell 2
        have z3 : w5.cell? ⟨w.heap.size, 3, none⟩ = some (.int .u64 ver) := B5.out.cell 3
        have z4 : w5.cell? ⟨w.heap.size, 4, none⟩ = some (.int .u64 ep) := B5.out.cell 4
        have z5 : w5.cell? ⟨w.heap.size, 5, none⟩ = some (.string ks) := B5.out.cell 5
        have z6 : w5.cell? ⟨w.heap.size, 6, none⟩ = some (.string vs) := B5.out.cell 6
        clear o5
        go_wp2
        go_roundw
        · exact ⟨1, 64, by omega, by omega, rfl, O5.out⟩
        · simp [intOf]
          omega
      · rw [if_neg hj0] at HCALL
        have q2 : ((a : Int) == 0) = false := by simp; omega
        clear haj hj0
        go_wp2_with fail
        refine HCALL.out.mono ?_
        rintro e w5 ⟨rfl, o5⟩
        have O5 := Lib.hid (ON.out.trans0 o5)
        clear o5
        go_wp2
        go_roundw
        · exact ⟨j + 1, a + 64, by omega, by have := HAJ.out; omega, by simp, O5.out⟩
        · simp [intOf]
          omega
    · obtain rfl : a = n := by omega
      have q1 : decide ((a : Int) + 64 ≤ (a : Int)) = false := by rw [decide_eq_false_iff_not]; omega
      have q2 : decide ((0 : Int) < (a : Int)) = true := by rw [decide_eq_true_eq]; omega
      have q3 : (a : Int) % 64 = 0 := by omega
      have ON := Lib.hid (O3.out.trans0 on)
      clear ha hn2 on
      go_wp2_with fail
      refine (law6_awake _).mono ?_
      rintro e wz ⟨rfl, oz⟩
      have OZ := Lib.hid (ON.out.trans0 oz)
      clear oz
      go_wp2
      go_ret
      exact ⟨rfl, OZ.out⟩
theorem walk_BlockData (x : Int × Int × Nat × Nat × Nat × ByteArray × ByteArray) (w : World) (h : (-9223372036854775808 ≤ x.1 ∧ x.1 ≤ 9223372036854775807) ∧ x.2.2.1 < 18446744073709551616 ∧ x.2.2.2.1 < 18446744073709551616 ∧ x.2.2.2.2.1 < 18446744073709551616) :
    Calls Try.prog 8 #[blockV x.1 x.2.1 x.2.2.1 x.2.2.2.1 x.2.2.2.2.1 x.2.2.2.2.2.1 x.2.2.2.2.2.2] w fun e w' => e = .returned (.bool true) ∧ Only [] w w' :=
  law6_BlockData _ _ _ _ _ _ _ w h.1 h.2.1 h.2.2.1 h.2.2.2
end Go.Proofs.Ytkhfcghnodggeaa
