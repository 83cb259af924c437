/- The reference of chapter 6: Encode, Draft. -/
import Derived.Test.YtkhfcghnodggeaaRef6A
import Derived.Test.YtkhfcghnodggeaaBlockC
import Derived.Test.YtkhfcghnodggeaaBlockH
namespace Go.Proofs.Ytkhfcghnodggeaa
open Go.RowKit Go.Proofs.FuMem Go.Proofs.FuCode Go.Proofs.FuClass Go.Proofs.FuBlock Go.Proofs.FuEq Go.Proofs.FuCrc
set_option maxRecDepth 100000
theorem own_take {w : World} {base n c : Nat} {A : Option Addr} {l : List UInt8} (h : w.ownsRow base 5 1 (.slice A n c) n (l.map B)) {m : Nat} (hm : m ≤ n) (h0 : 0 < m) : w.ownsRow base 5 1 (.slice A m c) m ((l.take m).map B) := by
  obtain ⟨h1, h2⟩ := h
  rcases h2 with ⟨hv, hn⟩ | ⟨g, cap, cur, hv, hb, hg, hnc, hcm, hcs, htake⟩
  · cases hv
    omega
  · cases hv
    refine ⟨?_, .inr ⟨g, c, cur, rfl, hb, hg, by omega, hcm, hcs, ?_⟩⟩
    · rw [List.length_map] at h1
      rw [List.length_map, List.length_take]
      omega
    · rw [List.map_take, ← htake, List.take_take, Nat.mul_one, Nat.mul_one, Nat.min_eq_left hm]
theorem ref6_Encode (cls kind : Int) (id ver ep : Nat) (ks vs : ByteArray) (w : World) (hi : id < 18446744073709551616) (hv : ver < 18446744073709551616) (he : ep < 18446744073709551616)
    (hks : ks.size ≤ 1000000) (hvs : vs.size ≤ 1000000) :
    Calls Try.prog 16 #[blockV cls kind id ver ep ks vs] w (MadeE w (enc (mkB cls kind id ver ep ks vs))) := by
  have O1 := Lib.hid (show Only [] w (w.alloc (.cells #[.int .i64 cls, .int .i64 kind, .int .u64 id, .int .u64 ver, .int .u64 ep, .string ks, .string vs] 24)) from (Only.refl _ _).alloc _)
  have BX := Lib.hid (Blk.new w 24 #[.int .i64 cls, .int .i64 kind, .int .u64 id, .int .u64 ver, .int .u64 ep, .string ks, .string vs])
  have HM := Lib.hid (fun w => ref6_May cls kind id ver ep ks vs w hi hv he hks hvs)
  clear hks hvs
  by_cases hm : may (mkB cls kind id ver ep ks vs) = true
  case neg =>
    have hm2 : may (mkB cls kind id ver ep ks vs) = false := by simpa using hm
    rw [show enc (mkB cls kind id ver ep ks vs) = ([], 3) from if_neg hm]
    rw [hm2] at HM
    clear hm hm2
    go_enter Try.func16, Try.ntmps16
    go_wp2_with ((with_reducible show wpList _ _ _ (Oper.mk (some 4) _ _ _ _ _ :: _) _ _); refine wpList_load_mid rfl 24 (.tmp 1) rfl w.heap.size 0 rfl [.int .i64 cls, .int .i64 kind, .int .u64 id, .int .u64 ver, .int .u64 ep, .string ks, .string vs] _ (fun j v hj => by rw [Nat.zero_add, BX.out.cell, List.getElem?_toArray.symm]; exact hj) Try.underlying24 rfl (by kernel_rfl) ?_)
    refine (HM.out _).mono ?_
    rintro e w2 ⟨rfl, o_w2⟩
    have O2 := Lib.hid (O1.out.trans0 o_w2)
    have O2_ := Lib.hid o_w2
    clear o_w2
    go_wp2
    go_ret2
    exact ⟨.slice none 0 0, rfl, none, 0, rfl, own_nil _ _ _ _, O2.out⟩
  case pos =>
  rw [show enc (mkB cls kind id ver ep ks vs) = (lines (mkB cls kind id ver ep ks vs), 0) from if_pos hm]
  have HL := Lib.hid (fun w => ref6_Lines cls kind id ver ep ks vs w hm)
  rw [hm] at HM
  clear hm
  go_enter Try.func16, Try.ntmps16
  go_wp2_with ((with_reducible show wpList _ _ _ (Oper.mk (some 4) _ _ _ _ _ :: _) _ _); refine wpList_load_mid rfl 24 (.tmp 1) rfl w.heap.size 0 rfl [.int .i64 cls, .int .i64 kind, .int .u64 id, .int .u64 ver, .int .u64 ep, .string ks, .string vs] _ (fun j v hj => by rw [Nat.zero_add, BX.out.cell, List.getElem?_toArray.symm]; exact hj) Try.underlying24 rfl (by kernel_rfl) ?_)
  refine (HM.out _).mono ?_
  rintro e w2 ⟨rfl, o_w2⟩
  have O2 := Lib.hid (O1.out.trans0 o_w2)
  have O2_ := Lib.hid o_w2
  clear o_w2
  have B2 := Lib.hid (BX.out.only O2_.out (by simp))
  have z0 : w2.cell? ⟨w.heap.size, 0, none⟩ = some (.int .i64 cls) := B2.out.cell 0
  have z1 : w2.cell? ⟨w.heap.size, 1, none⟩ = some (.int .i64 kind) := B2.out.cell 1
  have z2 : w2.cell? ⟨w.heap.size, 2, none⟩ = some (.int .u64 id) := B2.out.cell 2
  have z3 : w2.cell? ⟨w.heap.size, 3, none⟩ = some (.int .u64 ver) := B2.out.cell 3
  have z4 : w2.cell? ⟨w.heap.size, 4, none⟩ = some (.int .u64 ep) := B2.out.cell 4
  have z5 : w2.cell? ⟨w.heap.size, 5, none⟩ = some (.string ks) := B2.out.cell 5
  have z6 : w2.cell? ⟨w.heap.size, 6, none⟩ = some (.string vs) := B2.out.cell 6
  go_wp2_with fail
  refine (HL.out _).mono ?_
  rintro e w3 ⟨v3, rfl, m3⟩
  go_wp2
  go_ret2
  obtain ⟨A3, c3, rfl, b3, o3⟩ := m3
  exact ⟨_, rfl, A3, c3, rfl, World.ownsRow.mono b3 O2.out.size, O2.out.trans0 o3⟩
theorem ref6_Draft (c : Int) (w : World) :
    Calls Try.prog 26 #[.int .i64 c] w fun e w' => ∃ v, e = .returned v ∧ MadeB w (draftOf c) v w' := by
  have HSP := Lib.hid (fun w => ref5_Span c w)
  have o0 : Only [] w w := Only.refl _ _
  by_cases hs : span c = 0
  · have hd : draftOf c = [] := if_pos hs
    rw [hd]
    rw [hs] at HSP
    clear hd hs
    go_enter Try.func26, Try.ntmps26
    go_wp2_with fail
    refine (HSP.out _).mono ?_
    rintro e w' ⟨rfl, rfl⟩
    go_wp2
    go_ret
    exact ⟨.slice none 0 0, rfl, none, 0, rfl, own_nil _ _ _ _, o0⟩
  have hd : draftOf c = linesTo ⟨c, 0, 0, 0, 0, [], []⟩ 64 := if_neg hs
  rw [hd]
  have hsc := span_cases c
  have hm : may (mkB c 0 0 0 0 ⟨#[]⟩ ⟨#[]⟩) = true := by
    have : 0 ≤ c ∧ c ≤ 3 := by omega
    unfold may mkB
    simp
    exact this
  have hsp : 1 ≤ span c ∧ span c ≤ 8 := by omega
  have HL := Lib.hid (fun w => ref6_Lines c 0 0 0 0 ⟨#[]⟩ ⟨#[]⟩ w hm)
  have hlt : (lines (mkB c 0 0 0 0 ⟨#[]⟩ ⟨#[]⟩)).take 64 = linesTo ⟨c, 0, 0, 0, 0, [], []⟩ 64 := by
    unfold lines linesTo
    rw [laid_take _ _ _ (by show 64 ≤ 64 * span c; omega)]
    rfl
  have hll : (lines (mkB c 0 0 0 0 ⟨#[]⟩ ⟨#[]⟩)).length = 64 * span c := lines_length _
  rw [← hlt]
  have hq : ¬ ((span c : Nat) : Int) = 0 := by omega
  clear hd hsc hm hlt
  generalize lines (mkB c 0 0 0 0 ⟨#[]⟩ ⟨#[]⟩) = L at *
  obtain ⟨n, hn⟩ : ∃ n, n = 64 * span c := ⟨_, rfl⟩
  rw [← hn] at hll
  have hn1 : 64 ≤ n ∧ n ≤ 512 := by omega
  have HLL := Lib.hid hll
  clear hn hs hll
  go_enter Try.func26, Try.ntmps26
  go_wp2_with fail
  refine (HSP.out _).mono ?_
  rintro e w' ⟨rfl, rfl⟩
  go_wp2_with fail
  refine (HL.out _).mono ?_
  rintro e w3 ⟨v3, rfl, A3, c3, hv3, b3, o3⟩
  rw [HLL.out] at hv3 b3
  subst hv3
  have H3 := Lib.hid (own_take b3 (m := 64) (by omega) (by omega))
  have O3 := Lib.hid o3
  obtain ⟨A4, c4, hvv, hcc, _⟩ := own_slice b3
  cases hvv
  have hl64 : (L.take 64).length = 64 := by rw [List.length_take, HLL.out]; omega
  have HL64 := Lib.hid hl64
  clear b3 o3 hl64
  go_wp2
  go_ret
  exact ⟨_, rfl, madeB_own HL64.out H3.out O3.out⟩
end Go.Proofs.Ytkhfcghnodggeaa
