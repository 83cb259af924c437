/- The reference of chapter 6: Lines. -/
import Derived.Test.YtkhfcghnodggeaaBlockF
import Derived.Test.YtkhfcghnodggeaaBlockI
import Derived.Test.YtkhfcghnodggeaaSum
import Derived.Test.YtkhfcghnodggeaaCodeRef
import Derived.Test.YtkhfcghnodggeaaInts
namespace Go.Proofs.FuBlock
open Go.Proofs.FuCrc Go.Proofs.FuCode Go.Proofs.FuClass
theorem lines36 (b : Block) : linesTo b 36 = head32 b ++ sumOf b := by
  have h1 := head32_length b
  have h2 := sumOf_length b
  unfold linesTo
  apply List.ext_getElem
  · rw [laid_length, List.length_append, h1, h2]
  · intro i i1 i2
    rw [laid_at]
    unfold byteAt
    rw [laid_length] at i1
    by_cases h : i < 32
    · rw [if_pos h, List.getElem_append_left (by omega), getD_eq (by omega)]
    · rw [if_neg h, if_pos i1, List.getElem_append_right (by omega), getD_eq (by omega)]
      all_goals (congr 1; try omega)
def atOf (k p : Nat) : Nat := if k = 0 then p - 36 else 28 + 63 * (k - 1) + (p - 64 * k - 1)
theorem lines_two (b : Block) {k : Nat} (hk : 1 ≤ k) : linesTo b (64 * k) ++ [2] = linesTo b (64 * k + 1) := by
  unfold linesTo
  rw [laid_succ]
  unfold byteAt
  rw [if_neg (by omega), if_neg (by omega), if_neg (by omega), if_pos (by omega)]
theorem lines_byte (b : Block) {k p : Nat} (h1 : 36 ≤ p) (h2 : p < 64 * (k + 1)) (h3 : k = 0 ∨ 64 * k < p) : linesTo b p ++ [(room b).getD (atOf k p) 0] = linesTo b (p + 1) := by
  unfold linesTo
  rw [laid_succ]
  unfold byteAt atOf
  by_cases hk : k = 0
  · subst hk
    rw [if_pos rfl, if_neg (by omega), if_neg (by omega), if_pos (by omega)]
  · rw [if_neg hk, if_neg (by omega), if_neg (by omega), if_neg (by omega), if_neg (by omega)]
    have e1 : p / 64 = k := by omega
    have e2 : p % 64 = p - 64 * k := by omega
    rw [e1, e2]
theorem room_in (b : Block) {a : Nat} (h : a < (b.key ++ b.val).length) : (room b).getD a 0 = (b.key ++ b.val)[a] := by
  unfold room pad
  simp only [List.getD]
  rw [List.getElem?_append_left h, List.getElem?_eq_getElem h]
  rfl
theorem room_out (b : Block) {a : Nat} (h : (b.key ++ b.val).length ≤ a) : (room b).getD a 0 = 0 := by
  unfold room pad
  simp only [List.getD]
  rw [List.getElem?_append_right h]
  by_cases h2 : a - (b.key ++ b.val).length < (List.replicate (capN b.cls - (b.key ++ b.val).length) (0 : UInt8)).length
  · rw [List.getElem?_eq_getElem h2]
    simp
  · rw [List.getElem?_eq_none (by omega)]
    rfl
theorem atOf_succ {k p : Nat} (h1 : 36 ≤ p) (h3 : k = 0 ∨ 64 * k < p) : atOf k (p + 1) = atOf k p + 1 := by
  unfold atOf
  split <;> omega
end Go.Proofs.FuBlock
namespace Go.Proofs.Ytkhfcghnodggeaa
open Go.RowKit Go.Proofs.FuMem Go.Proofs.FuCode Go.Proofs.FuClass Go.Proofs.FuBlock Go.Proofs.FuEq Go.Proofs.FuCrc
set_option maxRecDepth 100000
theorem str_at (x y : ByteArray) (a : Nat) (_h : a < (x ++ y).size) (h2 : a < (x.data.toList ++ y.data.toList).length) : (x.data.toList ++ y.data.toList)[a] = (x ++ y)[a] := by
  have e : (x ++ y).data.toList = x.data.toList ++ y.data.toList := by rw [ByteArray.data_append, Array.toList_append]
  have e2 : (x ++ y)[a] = (x ++ y).data.toList[a]'(by rw [e]; exact h2) := rfl
  rw [e2]
  simp only [e]
def rowLen : Value → Nat
  | .slice _ n _ => n
  | _ => 0
def strLen : Value → Nat
  | .string s => s.size
  | _ => 0
def first4of (b : Block) : List UInt8 := [1, u8 b.cls, u8 b.kind, u8 b.key.length]
theorem head32_of (b : Block) : head32 b = first4of b ++ lay 2 b.val.length ++ [0, 0] ++ lay 8 b.id ++ lay 8 b.ver ++ lay 8 b.ep := rfl
set_option maxHeartbeats 3000000 in
theorem ref6_Lines (cls kind : Int) (id ver ep : Nat) (ks vs : ByteArray) (w : World) (hm : may (mkB cls kind id ver ep ks vs) = true) :
    Calls Try.prog 37 #[blockV cls kind id ver ep ks vs] w fun e w' => ∃ v, e = .returned v ∧ MadeB w (lines (mkB cls kind id ver ep ks vs)) v w' := by
  obtain ⟨i0, hi0, hz0, hz1, hz2⟩ := info_parts Try.byteInfo
  have HI0 := Lib.hid hi0
  have HZ0 := Lib.hid hz0
  have HZ1 := Lib.hid hz1
  have HZ2 := Lib.hid hz2
  have hf := fine_of hm
  have hsp : 1 ≤ span cls ∧ span cls ≤ 8 := span_pos hf.c0 hf.c3
  have hi : id < 18446744073709551616 := hf.id
  have hv : ver < 18446744073709551616 := hf.ver
  have he : ep < 18446744073709551616 := hf.ep
  have hkl : ks.size ≤ 16 := by have := hf.key; simpa [mkB] using this
  have hvl : vs.size ≤ 400 := by have := hf.val; simpa [mkB] using this
  have hfit : ks.size + vs.size ≤ capN cls := by have := hf.fit; simpa [mkB] using this
  have hcv := capN_val cls
  have hcap : capOf cls = ((capN cls : Nat) : Int) := (Int.toNat_of_nonneg (capOf_bd cls).1).symm
  have u1 : IntKind.u8.wrap cls = ((u8 cls).toNat : Int) := by rw [u8_toNat, IntKind.wrap_u8]
  have u2 : IntKind.u8.wrap kind = ((u8 kind).toNat : Int) := by rw [u8_toNat, IntKind.wrap_u8]
  have u3 : IntKind.u8.wrap (ks.size : Int) = ((u8 ks.size).toNat : Int) := by rw [u8_toNat, IntKind.wrap_u8]
  have HL2 := Lib.hid (fun w => ref2_Lay 2 vs.size w (by omega) (by omega))
  have HLI := Lib.hid (fun w => ref2_Lay 8 id w (by omega) hi)
  have HLV := Lib.hid (fun w => ref2_Lay 8 ver w (by omega) hv)
  have HLE := Lib.hid (fun w => ref2_Lay 8 ep w (by omega) he)
  have HSP := Lib.hid (fun w => ref5_Span cls w)
  have HCP := Lib.hid (fun w => ref5_Cap cls w)
  rw [hcap] at HCP
  have o1 : Only [] w (w.alloc (.cells #[.int .i64 cls, .int .i64 kind, .int .u64 id, .int .u64 ver, .int .u64 ep, .string ks, .string vs] 24)) := (Only.refl _ _).alloc _
  have o2 : Only [] (w.alloc (.cells #[.int .i64 cls, .int .i64 kind, .int .u64 id, .int .u64 ver, .int .u64 ep, .string ks, .string vs] 24)) ((w.alloc (.cells #[.int .i64 cls, .int .i64 kind, .int .u64 id, .int .u64 ver, .int .u64 ep, .string ks, .string vs] 24)).alloc (.cells #[.int .u8 1, .int .u8 ((u8 cls).toNat : Int), .int .u8 ((u8 kind).toNat : Int), .int .u8 ((u8 ks.size).toNat : Int)] 5)) := (Only.refl _ _).alloc _
  have O1 := Lib.hid o1
  have BX := Lib.hid (Blk.new w 24 #[.int .i64 cls, .int .i64 kind, .int .u64 id, .int .u64 ver, .int .u64 ep, .string ks, .string vs])
  have BX2 := Lib.hid (BX.out.only o2 (by simp))
  have O2 := Lib.hid o2
  have x0 : (w.alloc (.cells #[.int .i64 cls, .int .i64 kind, .int .u64 id, .int .u64 ver, .int .u64 ep, .string ks, .string vs] 24)).cell? ⟨w.heap.size, 0, none⟩ = some (.int .i64 cls) := BX.out.cell 0
  have x1 : (w.alloc (.cells #[.int .i64 cls, .int .i64 kind, .int .u64 id, .int .u64 ver, .int .u64 ep, .string ks, .string vs] 24)).cell? ⟨w.heap.size, 1, none⟩ = some (.int .i64 kind) := BX.out.cell 1
  have x5 : (w.alloc (.cells #[.int .i64 cls, .int .i64 kind, .int .u64 id, .int .u64 ver, .int .u64 ep, .string ks, .string vs] 24)).cell? ⟨w.heap.size, 5, none⟩ = some (.string ks) := BX.out.cell 5
  have x6 : ((w.alloc (.cells #[.int .i64 cls, .int .i64 kind, .int .u64 id, .int .u64 ver, .int .u64 ep, .string ks, .string vs] 24)).alloc (.cells #[.int .u8 1, .int .u8 ((u8 cls).toNat : Int), .int .u8 ((u8 kind).toNat : Int), .int .u8 ((u8 ks.size).toNat : Int)] 5)).cell? ⟨w.heap.size, 6, none⟩ = some (.string vs) := BX2.out.cell 6
  have hq2 : ((IntKind.u64.wrap (vs.size : Int))) = (vs.size : Int) := by rw [IntKind.wrap_u64]; omega
  clear hi0 hz0 hz1 hz2 hf o1 o2 hcap
  have hsz : (w.alloc (.cells #[.int .i64 cls, .int .i64 kind, .int .u64 id, .int .u64 ver, .int .u64 ep, .string ks, .string vs] 24)).heap.size = w.heap.size + 1 := by simp
  have BC := Lib.hid (Blk.new (w.alloc (.cells #[.int .i64 cls, .int .i64 kind, .int .u64 id, .int .u64 ver, .int .u64 ep, .string ks, .string vs] 24)) 5 #[.int .u8 1, .int .u8 ((u8 cls).toNat : Int), .int .u8 ((u8 kind).toNat : Int), .int .u8 ((u8 ks.size).toNat : Int)])
  have HO2 : Hid (((w.alloc (.cells #[.int .i64 cls, .int .i64 kind, .int .u64 id, .int .u64 ver, .int .u64 ep, .string ks, .string vs] 24)).alloc (.cells #[.int .u8 1, .int .u8 ((u8 cls).toNat : Int), .int .u8 ((u8 kind).toNat : Int), .int .u8 ((u8 ks.size).toNat : Int)] 5)).ownsRow (w.alloc (.cells #[.int .i64 cls, .int .i64 kind, .int .u64 id, .int .u64 ver, .int .u64 ep, .string ks, .string vs] 24)).heap.size 5 1 (.slice (some ⟨w.heap.size + 1, 0, none⟩) 4 4) 4 ((first4of (mkB cls kind id ver ep ks vs)).map B)) := Lib.hid (by
    have hbc := BC.out
    rw [hsz] at hbc
    rw [hsz]
    exact ⟨by simp [first4of], .inr ⟨_, _, _, rfl, by omega, hbc, by omega, by unfold maxLen; omega, by simp, by simp [B, first4of, mkB]⟩⟩)
  clear hsz BC
  go_enter Try.func37, Try.ntmps37
  go_wp2_with fail
  refine (HL2.out _).mono ?_
  clear x0 x1 x5 x6
  rintro e w3 ⟨x3, rfl, A3, c3, rfl, m3, o3⟩
  rw [lay_length] at m3 ⊢
  obtain ⟨A4, c4, w4, hr4, ho4, hs4, on4⟩ := append_own (P := Try.prog) w3 (O2.out.trans0 o3) 27 27 5 i0 _ 1 Try.underlying27 HI0.out HZ0.out HZ1.out HZ2.out rfl _ 4 _ (own_only HO2.out o3 (by simp)) A3 2 c3 _ (Sl.of_own m3) one_B (by unfold maxLen; omega) (by omega)
  rw [← List.map_append] at ho4
  have O4 := Lib.hid on4
  have HO4 := Lib.hid ho4
  clear hs4 on4 ho4 m3 o3
  obtain ⟨A5, c5, w5, hr5, ho5, hs5, on5⟩ := append_own (P := Try.prog) (w4.alloc (.cells #[.int .u8 0, .int .u8 0] 5)) (O4.out.alloc _) 27 27 5 i0 _ 1 Try.underlying27 HI0.out HZ0.out HZ1.out HZ2.out rfl _ 6 _ (HO4.out.alloc _) (some ⟨w4.heap.size, 0, none⟩) 2 2 [.int .u8 0, .int .u8 0] (Sl.of_blk (Blk.new w4 5 #[.int .u8 0, .int .u8 0]) 0 rfl (by simp)) (by intro u hu; simp at hu; subst hu; rfl) (by unfold maxLen; omega) (by omega)
  rw [show [Value.int .u8 0, Value.int .u8 0] = ([0, 0] : List UInt8).map B from rfl, ← List.map_append] at ho5
  have O5 := Lib.hid on5
  have HO5 := Lib.hid ho5
  clear hs5 on5 ho5
  have x2 : w5.cell? ⟨w.heap.size, 2, none⟩ = some (.int .u64 id) := (BX.out.only O5.out (by simp)).cell 2
  go_wp2_with (first | (at_builtin; refine wpList_append_run _ rfl (.tmp 28) (.tmp 29) 27 rfl _ _ rfl rfl _ _ hr5 ?_) | (at_builtin; refine wpList_append_run _ rfl (.tmp 21) (.tmp 26) 27 rfl _ _ rfl rfl _ _ hr4 ?_))
  refine (HLI.out _).mono ?_
  clear x2
  rintro e w6 ⟨x6, rfl, A6, c6, rfl, m6, o6⟩
  rw [lay_length] at m6 ⊢
  obtain ⟨A7, c7, w7, hr7, ho7, hs7, on7⟩ := append_own (P := Try.prog) w6 (O5.out.trans0 o6) 27 27 5 i0 _ 1 Try.underlying27 HI0.out HZ0.out HZ1.out HZ2.out rfl _ 8 _ (own_only HO5.out o6 (by simp)) A6 8 c6 _ (Sl.of_own m6) one_B (by unfold maxLen; omega) (by omega)
  rw [← List.map_append] at ho7
  have O7 := Lib.hid on7
  have HO7 := Lib.hid ho7
  clear hs7 on7 ho7 m6 o6
  have x3 : w7.cell? ⟨w.heap.size, 3, none⟩ = some (.int .u64 ver) := (BX.out.only O7.out (by simp)).cell 3
  go_wp2_with (at_builtin; refine wpList_append_run _ rfl (.tmp 31) (.tmp 34) 27 rfl _ _ rfl rfl _ _ hr7 ?_)
  refine (HLV.out _).mono ?_
  clear x3
  rintro e w8 ⟨x8, rfl, A8, c8, rfl, m8, o8⟩
  rw [lay_length] at m8 ⊢
  obtain ⟨A9, c9, w9, hr9, ho9, hs9, on9⟩ := append_own (P := Try.prog) w8 (O7.out.trans0 o8) 27 27 5 i0 _ 1 Try.underlying27 HI0.out HZ0.out HZ1.out HZ2.out rfl _ 16 _ (own_only HO7.out o8 (by simp)) A8 8 c8 _ (Sl.of_own m8) one_B (by unfold maxLen; omega) (by omega)
  rw [← List.map_append] at ho9
  have O9 := Lib.hid on9
  have HO9 := Lib.hid ho9
  clear hs9 on9 ho9 m8 o8
  have x4 : w9.cell? ⟨w.heap.size, 4, none⟩ = some (.int .u64 ep) := (BX.out.only O9.out (by simp)).cell 4
  go_wp2_with (at_builtin; refine wpList_append_run _ rfl (.tmp 36) (.tmp 39) 27 rfl _ _ rfl rfl _ _ hr9 ?_)
  refine (HLE.out _).mono ?_
  clear x4
  rintro e w10 ⟨x10, rfl, A10, c10, rfl, m10, o10⟩
  rw [lay_length] at m10 ⊢
  obtain ⟨A11, c11, w11, hr11, ho11, hs11, on11⟩ := append_own (P := Try.prog) w10 (O9.out.trans0 o10) 27 27 5 i0 _ 1 Try.underlying27 HI0.out HZ0.out HZ1.out HZ2.out rfl _ 24 _ (own_only HO9.out o10 (by simp)) A10 8 c10 _ (Sl.of_own m10) one_B (by unfold maxLen; omega) (by omega)
  rw [← List.map_append] at ho11
  have O11 := Lib.hid on11
  have HO11 := Lib.hid ho11
  clear hs11 on11 ho11 m10 o10
  have x5 : w11.cell? ⟨w.heap.size, 5, none⟩ = some (.string ks) := (BX.out.only O11.out (by simp)).cell 5
  have x6 : w11.cell? ⟨w.heap.size, 6, none⟩ = some (.string vs) := (BX.out.only O11.out (by simp)).cell 6
  go_wp2_with (at_builtin; refine wpList_append_run _ rfl (.tmp 41) (.tmp 44) 27 rfl _ _ rfl rfl _ _ hr11 ?_)
  have H32 : Hid (w11.ownsRow (w.alloc (.cells #[.int .i64 cls, .int .i64 kind, .int .u64 id, .int .u64 ver, .int .u64 ep, .string ks, .string vs] 24)).heap.size 5 1 (.slice A11 32 c11) 32 ((head32 (mkB cls kind id ver ep ks vs)).map B)) := Lib.hid HO11.out
  have hrdef : room (mkB cls kind id ver ep ks vs) = pad (capN cls) (ks.data.toList ++ vs.data.toList) := rfl
  have HRD := Lib.hid hrdef
  have x0 : w11.cell? ⟨w.heap.size, 0, none⟩ = some (.int .i64 cls) := (BX.out.only O11.out (by simp)).cell 0
  have hN : 28 ≤ capN cls ∧ capN cls ≤ 500 := by omega
  clear x5 x6 hrdef hcv
  generalize hNN : capN cls = N at *
  have hHl : (head32 (mkB cls kind id ver ep ks vs)).length = 32 := head32_length _
  have hF36 : linesTo (mkB cls kind id ver ep ks vs) 36 = head32 (mkB cls kind id ver ep ks vs) ++ lay 4 (crc (head32 (mkB cls kind id ver ep ks vs) ++ room (mkB cls kind id ver ep ks vs))) := lines36 _
  have hFin : ∀ a, ∀ h : a < (ks ++ vs).size, (room (mkB cls kind id ver ep ks vs)).getD a 0 = (ks ++ vs)[a] := fun a h => by
    have h2 : a < (ks.data.toList ++ vs.data.toList).length := by
      rw [List.length_append]
      rw [ByteArray.size_append] at h
      exact h
    rw [show (room (mkB cls kind id ver ep ks vs)).getD a 0 = (ks.data.toList ++ vs.data.toList)[a] from room_in (mkB cls kind id ver ep ks vs) h2]
    exact str_at ks vs a h h2
  have hFout : ∀ a, (ks ++ vs).size ≤ a → (room (mkB cls kind id ver ep ks vs)).getD a 0 = 0 := fun a h => by
    have h2 : (ks.data.toList ++ vs.data.toList).length ≤ a := by
      rw [List.length_append]
      rw [ByteArray.size_append] at h
      exact h
    exact room_out (mkB cls kind id ver ep ks vs) h2
  have hF2 := fun k (hk : 1 ≤ k) => lines_two (mkB cls kind id ver ep ks vs) (k := k) hk
  have hFB := fun k p h1 h2 h3 => lines_byte (mkB cls kind id ver ep ks vs) (k := k) (p := p) h1 h2 h3
  have hDS : (ks ++ vs).size = ks.size + vs.size := ByteArray.size_append
  have hDD : (ks ++ vs).data.toList = ks.data.toList ++ vs.data.toList := by rw [ByteArray.data_append, Array.toList_append]
  have hLL : lines (mkB cls kind id ver ep ks vs) = linesTo (mkB cls kind id ver ep ks vs) (64 * span cls) := rfl
  have HLL := Lib.hid hLL
  have HF36 := Lib.hid hF36
  have HFIN := Lib.hid hFin
  have HFOUT := Lib.hid hFout
  have HF2 := Lib.hid hF2
  have HFB := Lib.hid hFB
  have HDS := Lib.hid hDS
  have HDD := Lib.hid hDD
  clear hF36 hFin hFout hF2 hFB hDS hDD hLL
  generalize head32 (mkB cls kind id ver ep ks vs) = H at *
  generalize linesTo (mkB cls kind id ver ep ks vs) = F at *
  generalize room (mkB cls kind id ver ep ks vs) = R at *
  generalize span cls = s at *
  generalize hD : ks ++ vs = D at *
  have hDb : D.size ≤ 500 := by have := HDS.out; omega
  clear hD
  go_loop [5] (fun rv => ∃ (S : ByteArray) (j : Nat), rv = .string S ∧ S.size = ks.size + vs.size + j ∧ S.size ≤ N ∧ S.data.toList = ks.data.toList ++ vs.data.toList ++ List.replicate j 0) (fun rv => N - strLen rv)
  case atStart => exact ⟨D, 0, rfl, HDS.out, by have := HDS.out; omega, by rw [HDD.out]; simp⟩
  case round =>
    obtain ⟨S, j, rfl, hS1, hS2, hS3⟩ := hrel
    have HS1 := Lib.hid hS1
    have HS3 := Lib.hid hS3
    clear hS1 hS3
    by_cases hlt : S.size < N
    · have q1 : decide ((S.size : Int) < (N : Int)) = true := by rw [decide_eq_true_eq]; omega
      go_wp2_with fail
      refine (HCP.out _).mono ?_
      rintro e w' ⟨rfl, rfl⟩
      go_wp2
      go_round
      case rel => exact ⟨S ++ ⟨#[0]⟩, j + 1, rfl, by rw [ByteArray.size_append, HS1.out]; rfl, by rw [ByteArray.size_append]; show S.size + 1 ≤ N; omega, by rw [ByteArray.data_append, Array.toList_append, HS3.out, List.replicate_succ']; simp⟩
      case measure =>
        simp only [strLen]
        rw [ByteArray.size_append]
        show N - (S.size + 1) < N - S.size
        omega
    · have q1 : decide ((S.size : Int) < (N : Int)) = false := by rw [decide_eq_false_iff_not]; omega
      have hroom : S.data.toList = R := by
        rw [HRD.out, HS3.out]
        unfold pad
        congr 2
        rw [List.length_append]
        have e1 : ks.data.toList.length = ks.size := rfl
        have e2 : vs.data.toList.length = vs.size := rfl
        have := HS1.out
        omega
      have HR := Lib.hid hroom
      clear hroom
      have hst := run_str (P := Try.prog) Try.underlying27 Try.underlying5 Try.underlying9 (Sl.of_own H32.out) c11
      go_wp2_with fail
      refine (HCP.out _).mono ?_
      rintro e w' ⟨rfl, rfl⟩
      have hT := fun w => ref1_Text (⟨H.toArray⟩ ++ S) w (by rw [ByteArray.size_append]; show H.toArray.size + _ ≤ _; rw [List.size_toArray]; unfold maxLen; omega)
      have hTe : (⟨H.toArray⟩ ++ S : ByteArray).data.toList = H ++ R := by rw [ByteArray.data_append, Array.toList_append, HR.out]
      rw [hTe] at hT
      have hcs := crc_lt (H ++ R)
      have HT := Lib.hid hT
      clear hT hTe
      generalize crc (H ++ R) = cs at *
      have hq4 : IntKind.u64.wrap (cs : Int) = (cs : Int) := by rw [IntKind.wrap_u64]; omega
      have HL4 := Lib.hid (fun w => ref2_Lay 4 cs w (by omega) (by omega))
      go_wp2_with fail
      refine (HT.out _).mono ?_
      rintro e w' ⟨rfl, rfl⟩
      clear hst
      go_wp2_with fail
      refine (HL4.out _).mono ?_
      rintro e w12 ⟨x12, rfl, A12, c12, rfl, m12, o12⟩
      rw [lay_length] at m12 ⊢
      obtain ⟨A13, c13, w13, hr13, ho13, hs13, on13⟩ := append_own (P := Try.prog) w12 (O11.out.trans0 o12) 27 27 5 i0 _ 1 Try.underlying27 HI0.out HZ0.out HZ1.out HZ2.out rfl _ 32 _ (own_only H32.out o12 (by simp)) A12 4 c12 _ (Sl.of_own m12) one_B (by unfold maxLen; omega) (by omega)
      rw [← List.map_append, ← HF36.out] at ho13
      have O13 := Lib.hid on13
      have HO13 := Lib.hid ho13
      clear hs13 on13 ho13 m12 o12 x0
      go_wp2_with (at_builtin; refine wpList_append_run _ rfl (.tmp 65) (.tmp 68) 27 rfl _ _ rfl rfl _ _ hr13 ?_)
      clear HL2 HLI HLV HLE HO2 HO4 HO5 HO7 HO9 HO11 H32 HR HRD HS1 HS3 HL4 HT
      go_loopw [7, 8, 9] (fun ov av kv wr => ∃ (k p a c : Nat) (A : Option Addr), k ≤ s ∧ p = (if k = 0 then 36 else 64 * k) ∧ a = (if k = 0 then 0 else 28 + 63 * (k - 1)) ∧ kv = .int .i64 k ∧ av = .int .i64 a ∧ ov = .slice A p c ∧ wr.ownsRow (w.alloc (.cells #[.int .i64 cls, .int .i64 kind, .int .u64 id, .int .u64 ver, .int .u64 ep, .string ks, .string vs] 24)).heap.size 5 1 (.slice A p c) p ((F p).map B) ∧ Only [] (w.alloc (.cells #[.int .i64 cls, .int .i64 kind, .int .u64 id, .int .u64 ver, .int .u64 ep, .string ks, .string vs] 24)) wr) (fun _ _ kv _ => s - (intOf kv).toNat)
      case atStart => exact ⟨0, 36, 0, c13, A13, by omega, rfl, rfl, rfl, rfl, rfl, HO13.out, O13.out⟩
      case round =>
        obtain ⟨k, p, a, c, A, hk, hp, ha, rfl, rfl, rfl, ho, on⟩ := hrel
        have HO := Lib.hid ho
        have ON := Lib.hid on
        have x0 : wr.cell? ⟨w.heap.size, 0, none⟩ = some (.int .i64 cls) := (BX.out.only on (by simp)).cell 0
        clear ho on
        by_cases hks : k < s
        · have q1 : decide ((k : Int) < (s : Int)) = true := by rw [decide_eq_true_eq]; omega
          by_cases hk0 : k = 0
          · subst hk0
            rw [if_pos rfl] at hp ha
            subst hp
            subst ha
            go_wp2_with fail
            refine (HSP.out _).mono ?_
            rintro e w' ⟨rfl, rfl⟩
            go_wp2
            go_loopw [7, 8] (fun ov av wr2 => ∃ (p2 a2 c2 : Nat) (A2 : Option Addr), 36 ≤ p2 ∧ p2 ≤ 64 * (1) ∧ (0 = 0 ∨ 64 * 0 < p2) ∧ a2 = atOf 0 p2 ∧ av = .int .i64 a2 ∧ ov = .slice A2 p2 c2 ∧ wr2.ownsRow (w.alloc (.cells #[.int .i64 cls, .int .i64 kind, .int .u64 id, .int .u64 ver, .int .u64 ep, .string ks, .string vs] 24)).heap.size 5 1 (.slice A2 p2 c2) p2 ((F p2).map B) ∧ Only [] (w.alloc (.cells #[.int .i64 cls, .int .i64 kind, .int .u64 id, .int .u64 ver, .int .u64 ep, .string ks, .string vs] 24)) wr2) (fun ov _ _ => 64 * (1) - rowLen ov)
            case atStart => exact ⟨36, 0, c, A, by omega, by omega, Or.inl rfl, by simp [atOf], rfl, rfl, HO.out, ON.out⟩
            case round =>
              obtain ⟨p2, a2, c2, A2, h36, hp2, hkp, ha2, rfl, rfl, ho2, on2⟩ := hrel
              have HO2 := Lib.hid ho2
              have ON2 := Lib.hid on2
              have HKP := Lib.hid hkp
              have HA2 := Lib.hid ha2
              have hab : a2 ≤ 600 := by rw [ha2]; unfold atOf; split <;> omega
              clear ho2 on2 ha2 hkp
              by_cases hlt : p2 < 64 * (1)
              · have q3 : decide ((p2 : Int) < 64) = true := by rw [decide_eq_true_eq]; omega
                have hst := HFB.out 0 p2 h36 hlt HKP.out
                have HAT := Lib.hid (atOf_succ h36 HKP.out)
                rw [← HA2.out] at hst
                by_cases had : a2 < D.size
                · have q4 : decide ((a2 : Int) < (D.size : Int)) = true := by rw [decide_eq_true_eq]; omega
                  rw [HFIN.out a2 had] at hst
                  have HST := Lib.hid hst
                  clear hst
                  have hx := byte_lt D[a2]
                  obtain ⟨A3, c3, w3, hr3, ho3, hs3, on3⟩ := append_own (P := Try.prog) (wr.alloc (.cells #[.int .u8 (D[a2].toNat : Int)] 5)) (ON2.out.alloc _) 27 27 5 i0 _ 1 Try.underlying27 HI0.out HZ0.out HZ1.out HZ2.out rfl _ p2 _ (HO2.out.alloc _) (some ⟨wr.heap.size, 0, none⟩) 1 1 [.int .u8 (D[a2].toNat : Int)] (cell_new1 _ _ _) (ints_new1 _ _) (by unfold maxLen; omega) (by omega)
                  rw [show [Value.int .u8 (D[a2].toNat : Int)] = ([D[a2]] : List UInt8).map B from rfl, ← List.map_append, HST.out] at ho3
                  have HO3 := Lib.hid ho3
                  have ON3 := Lib.hid on3
                  clear ho3 hs3 on3
                  go_wp2_with (at_builtin; refine wpList_append_run _ rfl (.tmp 92) (.tmp 96) 27 rfl _ _ rfl rfl _ _ hr3 ?_)
                  go_roundw
                  · exact ⟨p2 + 1, a2 + 1, c3, A3, by omega, by omega, by have := HKP.out; omega, by rw [HAT.out, ← HA2.out], by simp, rfl, HO3.out, ON3.out⟩
                  · simp [rowLen]
                    omega
                · have q4 : decide ((a2 : Int) < (D.size : Int)) = false := by rw [decide_eq_false_iff_not]; omega
                  rw [HFOUT.out a2 (by omega)] at hst
                  have HST := Lib.hid hst
                  clear hst
                  obtain ⟨A3, c3, w3, hr3, ho3, hs3, on3⟩ := append_own (P := Try.prog) (wr.alloc (.cells #[.int .u8 0] 5)) (ON2.out.alloc _) 27 27 5 i0 _ 1 Try.underlying27 HI0.out HZ0.out HZ1.out HZ2.out rfl _ p2 _ (HO2.out.alloc _) (some ⟨wr.heap.size, 0, none⟩) 1 1 [.int .u8 0] (cell_new1 _ _ _) (ints_new1 _ _) (by unfold maxLen; omega) (by omega)
                  rw [show [Value.int .u8 0] = ([0] : List UInt8).map B from rfl, ← List.map_append, HST.out] at ho3
                  have HO3 := Lib.hid ho3
                  have ON3 := Lib.hid on3
                  clear ho3 hs3 on3
                  go_wp2_with (at_builtin; refine wpList_append_run _ rfl (.tmp 98) (.tmp 99) 27 rfl _ _ rfl rfl _ _ hr3 ?_)
                  go_roundw
                  · exact ⟨p2 + 1, a2 + 1, c3, A3, by omega, by omega, by have := HKP.out; omega, by rw [HAT.out, ← HA2.out], by simp, rfl, HO3.out, ON3.out⟩
                  · simp [rowLen]
                    omega
              · have q3 : decide ((p2 : Int) < 64) = false := by rw [decide_eq_false_iff_not]; omega
                have HPE := Lib.hid (show p2 = 64 * (1) by omega)
                go_wp2
                go_roundw
                · exact ⟨1, p2, a2, c2, A2, by omega, by rw [if_neg (by omega)]; exact HPE.out, by rw [if_neg (by omega), HA2.out, HPE.out]; unfold atOf; split <;> omega, by simp, rfl, rfl, HO2.out, ON2.out⟩
                · simp [intOf]
                  omega
          · have q2 : decide ((0 : Int) < (k : Int)) = true := by rw [decide_eq_true_eq]; omega
            rw [if_neg hk0] at hp ha
            obtain ⟨A1, c1, w1, hr1, ho1, hs1, on1⟩ := append_own (P := Try.prog) (wr.alloc (.cells #[.int .u8 2] 5)) (ON.out.alloc _) 27 27 5 i0 _ 1 Try.underlying27 HI0.out HZ0.out HZ1.out HZ2.out rfl _ p _ (HO.out.alloc _) (some ⟨wr.heap.size, 0, none⟩) 1 1 [.int .u8 2] (cell_new1 _ _ _) (ints_new1 _ _) (by unfold maxLen; omega) (by omega)
            rw [show [Value.int .u8 2] = ([2] : List UInt8).map B from rfl, ← List.map_append, hp, HF2.out k (by omega), ← hp] at ho1
            have HO1' := Lib.hid ho1
            have ON1 := Lib.hid on1
            have HP := Lib.hid hp
            have HAA := Lib.hid ha
            have hpb : p ≤ 512 := by omega
            have hk8 : k < 8 := by omega
            clear ho1 hs1 on1 hp ha
            go_wp2_with fail
            refine (HSP.out _).mono ?_
            rintro e w' ⟨rfl, rfl⟩
            go_wp2_with (at_builtin; refine wpList_append_run _ rfl (.tmp 79) (.tmp 80) 27 rfl _ _ rfl rfl _ _ hr1 ?_)
            go_loopw [7, 8] (fun ov av wr2 => ∃ (p2 a2 c2 : Nat) (A2 : Option Addr), 36 ≤ p2 ∧ p2 ≤ 64 * (k + 1) ∧ (k = 0 ∨ 64 * k < p2) ∧ a2 = atOf k p2 ∧ av = .int .i64 a2 ∧ ov = .slice A2 p2 c2 ∧ wr2.ownsRow (w.alloc (.cells #[.int .i64 cls, .int .i64 kind, .int .u64 id, .int .u64 ver, .int .u64 ep, .string ks, .string vs] 24)).heap.size 5 1 (.slice A2 p2 c2) p2 ((F p2).map B) ∧ Only [] (w.alloc (.cells #[.int .i64 cls, .int .i64 kind, .int .u64 id, .int .u64 ver, .int .u64 ep, .string ks, .string vs] 24)) wr2) (fun ov _ _ => 64 * (k + 1) - rowLen ov)
            case atStart => exact ⟨p + 1, a, c1, A1, by have := HP.out; omega, by have := HP.out; omega, Or.inr (by have := HP.out; omega), by rw [HAA.out, HP.out]; unfold atOf; rw [if_neg hk0]; omega, rfl, rfl, HO1'.out, ON1.out⟩
            case round =>
              obtain ⟨p2, a2, c2, A2, h36, hp2, hkp, ha2, rfl, rfl, ho2, on2⟩ := hrel
              have HO2 := Lib.hid ho2
              have ON2 := Lib.hid on2
              have HKP := Lib.hid hkp
              have HA2 := Lib.hid ha2
              have hab : a2 ≤ 600 := by rw [ha2]; unfold atOf; split <;> omega
              clear ho2 on2 ha2 hkp
              by_cases hlt : p2 < 64 * (k + 1)
              · have q3 : decide ((p2 : Int) < 64 * ((k : Int) + 1)) = true := by rw [decide_eq_true_eq]; omega
                have hst := HFB.out k p2 h36 hlt HKP.out
                have HAT := Lib.hid (atOf_succ h36 HKP.out)
                rw [← HA2.out] at hst
                by_cases had : a2 < D.size
                · have q4 : decide ((a2 : Int) < (D.size : Int)) = true := by rw [decide_eq_true_eq]; omega
                  rw [HFIN.out a2 had] at hst
                  have HST := Lib.hid hst
                  clear hst
                  have hx := byte_lt D[a2]
                  obtain ⟨A3, c3, w3, hr3, ho3, hs3, on3⟩ := append_own (P := Try.prog) (wr.alloc (.cells #[.int .u8 (D[a2].toNat : Int)] 5)) (ON2.out.alloc _) 27 27 5 i0 _ 1 Try.underlying27 HI0.out HZ0.out HZ1.out HZ2.out rfl _ p2 _ (HO2.out.alloc _) (some ⟨wr.heap.size, 0, none⟩) 1 1 [.int .u8 (D[a2].toNat : Int)] (cell_new1 _ _ _) (ints_new1 _ _) (by unfold maxLen; omega) (by omega)
                  rw [show [Value.int .u8 (D[a2].toNat : Int)] = ([D[a2]] : List UInt8).map B from rfl, ← List.map_append, HST.out] at ho3
                  have HO3 := Lib.hid ho3
                  have ON3 := Lib.hid on3
                  clear ho3 hs3 on3
                  go_wp2_with (at_builtin; refine wpList_append_run _ rfl (.tmp 92) (.tmp 96) 27 rfl _ _ rfl rfl _ _ hr3 ?_)
                  go_roundw
                  · exact ⟨p2 + 1, a2 + 1, c3, A3, by omega, by omega, by have := HKP.out; omega, by rw [HAT.out, ← HA2.out], by simp, rfl, HO3.out, ON3.out⟩
                  · simp [rowLen]
                    omega
                · have q4 : decide ((a2 : Int) < (D.size : Int)) = false := by rw [decide_eq_false_iff_not]; omega
                  rw [HFOUT.out a2 (by omega)] at hst
                  have HST := Lib.hid hst
                  clear hst
                  obtain ⟨A3, c3, w3, hr3, ho3, hs3, on3⟩ := append_own (P := Try.prog) (wr.alloc (.cells #[.int .u8 0] 5)) (ON2.out.alloc _) 27 27 5 i0 _ 1 Try.underlying27 HI0.out HZ0.out HZ1.out HZ2.out rfl _ p2 _ (HO2.out.alloc _) (some ⟨wr.heap.size, 0, none⟩) 1 1 [.int .u8 0] (cell_new1 _ _ _) (ints_new1 _ _) (by unfold maxLen; omega) (by omega)
                  rw [show [Value.int .u8 0] = ([0] : List UInt8).map B from rfl, ← List.map_append, HST.out] at ho3
                  have HO3 := Lib.hid ho3
                  have ON3 := Lib.hid on3
                  clear ho3 hs3 on3
                  go_wp2_with (at_builtin; refine wpList_append_run _ rfl (.tmp 98) (.tmp 99) 27 rfl _ _ rfl rfl _ _ hr3 ?_)
                  go_roundw
                  · exact ⟨p2 + 1, a2 + 1, c3, A3, by omega, by omega, by have := HKP.out; omega, by rw [HAT.out, ← HA2.out], by simp, rfl, HO3.out, ON3.out⟩
                  · simp [rowLen]
                    omega
              · have q3 : decide ((p2 : Int) < 64 * ((k : Int) + 1)) = false := by rw [decide_eq_false_iff_not]; omega
                have HPE := Lib.hid (show p2 = 64 * (k + 1) by omega)
                go_wp2
                go_roundw
                · exact ⟨k + 1, p2, a2, c2, A2, by omega, by rw [if_neg (by omega)]; exact HPE.out, by rw [if_neg (by omega), HA2.out, HPE.out]; unfold atOf; split <;> omega, by simp, rfl, rfl, HO2.out, ON2.out⟩
                · simp [intOf]
                  omega
        · obtain rfl : k = s := by omega
          have q1 : decide ((k : Int) < (k : Int)) = false := by simp
          rw [if_neg (by omega)] at hp
          have HP := Lib.hid hp
          clear hp ha
          go_wp2_with fail
          refine (HSP.out _).mono ?_
          rintro e w' ⟨rfl, rfl⟩
          go_wp2
          go_ret
          exact ⟨.slice A p c, rfl, by rw [HLL.out, ← HP.out]; exact madeB_own (by simpa using HO.out.1) (World.ownsRow.mono HO.out O1.out.size) (O1.out.trans0 ON.out)⟩
end Go.Proofs.Ytkhfcghnodggeaa
