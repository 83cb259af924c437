/- The contract of block.head. -/
import Derived.Test.YtkhfcghnodggeaaBlockD
import Derived.BigRegion
import Derived.Deep.RegionHeld3
namespace Go.Proofs.FuBlock
open Go.Proofs.FuCode Go.Proofs.FuCrc
theorem over_end (A B : List UInt8) (m : Nat) {a : Nat} (ha : a = A.length) (h : B.length ≤ m) : over (A ++ List.replicate m 0) a B = A ++ B ++ List.replicate (m - B.length) 0 := by
  subst ha
  unfold over
  rw [List.take_left' rfl, List.drop_append, List.drop_eq_nil_of_le (by omega), List.nil_append, List.drop_replicate]
  congr 2
  omega
def first4 (c1 c2 c3 : UInt8) : List UInt8 := [1, c1, c2, c3] ++ List.replicate 60 0
theorem head_to (c1 c2 c3 : UInt8) {w i v e s r : List UInt8} (hw : w.length = 2) (hi : i.length = 8) (hv : v.length = 8) (he : e.length = 8) (hs : s.length = 4) (hr : r.length = 28) :
    over (over (over (over (first4 c1 c2 c3) 4 w) 8 i) 16 v) 24 e = ([1, c1, c2, c3] ++ w ++ [0, 0] ++ i ++ v ++ e) ++ List.replicate 32 0 ∧
    over (over (([1, c1, c2, c3] ++ w ++ [0, 0] ++ i ++ v ++ e) ++ List.replicate 32 0) 32 s) 36 r = ([1, c1, c2, c3] ++ w ++ [0, 0] ++ i ++ v ++ e) ++ s ++ r := by
  have h1 : over (first4 c1 c2 c3) 4 w = ([1, c1, c2, c3] ++ w ++ [0, 0]) ++ List.replicate 56 0 := by
    unfold first4
    rw [over_end _ _ _ (by simp) (by omega), hw]
    simp [List.replicate_succ]
  rw [h1, over_end _ _ _ (by simp; omega) (by omega), over_end _ _ _ (by simp; omega) (by omega), over_end _ _ _ (by simp; omega) (by omega), hi, hv, he]
  refine ⟨rfl, ?_⟩
  rw [over_end _ _ _ (by simp; omega) (by omega), over_end _ _ _ (by simp; omega) (by omega), hs, hr]
  simp
theorem laid64 {h s r : List UInt8} (hh : h.length = 32) (hs : s.length = 4) (hr : 28 ≤ r.length) : laid h s r 64 = h ++ s ++ r.take 28 := by
  apply List.ext_getElem?
  intro i
  by_cases h1 : i < 64
  · rw [List.getElem?_eq_getElem (by rw [laid_length]; exact h1), laid_at, List.getElem?_append, List.getElem?_append]
    unfold byteAt
    simp only [List.length_append, hh, hs]
    by_cases c1 : i < 32
    · rw [if_pos c1, if_pos (by omega), if_pos c1, getD_eq (by omega), List.getElem?_eq_getElem (by omega)]
    · by_cases c2 : i < 36
      · rw [if_neg c1, if_pos c2, if_pos (by omega), if_neg c1, getD_eq (by omega), List.getElem?_eq_getElem (by omega)]
      · rw [if_neg c1, if_neg c2, if_pos h1, if_neg (by omega), List.getElem?_take_of_lt (by omega), getD_eq (by omega), List.getElem?_eq_getElem (by omega)]
  · rw [List.getElem?_eq_none (by rw [laid_length]; omega), List.getElem?_eq_none (by simp; omega)]
end Go.Proofs.FuBlock
namespace Go.Proofs.Ytkhfcghnodggeaa
open Go.RowKit Go.Proofs.FuMem Go.Proofs.FuCode Go.Proofs.FuClass Go.Proofs.FuBlock Go.Proofs.FuEq Go.Proofs.FuCrc
set_option maxRecDepth 100000
set_option maxHeartbeats 4000000 in
theorem block_head (cls kind : Int) (id ver ep : Nat) (ks vs : ByteArray) (A : Option Addr) (n c : Nat) (r : List UInt8) (w : World) (hi : id < 18446744073709551616) (hv : ver < 18446744073709551616) (he : ep < 18446744073709551616)
    (_hks : ks.size ≤ 1000000) (hvs : vs.size < 65536) (hr : Bs w A n r) (hn : 28 ≤ n) (hn2 : n ≤ 1000000) :
    Calls Try.prog 36 #[blockV cls kind id ver ep ks vs, .slice A n c] w fun e w' => ∃ v, e = .returned v ∧ MadeB w (laid (head32 (mkB cls kind id ver ep ks vs)) (lay 4 (crc (head32 (mkB cls kind id ver ep ks vs) ++ r))) r 64) v w' := by
  obtain ⟨i0, hi0, hz0, hz1, hz2⟩ := info_parts Try.byteInfo
  have o1 : Only [] w (w.alloc (.cells #[.int .i64 cls, .int .i64 kind, .int .u64 id, .int .u64 ver, .int .u64 ep, .string ks, .string vs] 24)) := (Only.refl _ _).alloc _
  have HB := Lib.hid (Blk.new w 24 #[.int .i64 cls, .int .i64 kind, .int .u64 id, .int .u64 ver, .int .u64 ep, .string ks, .string vs])
  obtain ⟨w2, hmk, hb2, ho2, hs2⟩ := make_blk (P := Try.prog) (w.alloc (.cells #[.int .i64 cls, .int .i64 kind, .int .u64 id, .int .u64 ver, .int .u64 ep, .string ks, .string vs] 24)) 27 5 i0 _ Try.underlying27 hi0 hz0 hz1 rfl .i64 .i64 64 64 (by omega) (by rw [hz2]; omega) (by omega)
  have O2 := Lib.hid (o1.trans0 ho2)
  have HB2 := Lib.hid (HB.out.only ho2 (by simp))
  have HX := Lib.hid hb2
  have hh : (w.alloc (.cells #[.int .i64 cls, .int .i64 kind, .int .u64 id, .int .u64 ver, .int .u64 ep, .string ks, .string vs] 24)).heap.size = w.heap.size + 1 := by simp
  rw [hh] at HX hmk
  simp only [Int.cast_ofNat_Int] at hmk
  clear o1 hb2 ho2 hs2 hi0 hz0 hz1 hz2 HB hh
  go_enter Try.func36, Try.ntmps36
  go_wp2_with fail
  have x0 : w2.cell? ⟨w.heap.size, 0, none⟩ = some (.int .i64 cls) := HB2.out.cell 0
  have x1 : w2.cell? ⟨w.heap.size, 1, none⟩ = some (.int .i64 kind) := HB2.out.cell 1
  have x5 : w2.cell? ⟨w.heap.size, 5, none⟩ = some (.string ks) := HB2.out.cell 5
  have y0 : w2.cell? ⟨w.heap.size + 1, 0, none⟩ = some (.int .u8 0) := by rw [HX.out.cell]; rfl
  have y1 : w2.cell? ⟨w.heap.size + 1, 1, none⟩ = some (.int .u8 0) := by rw [HX.out.cell]; rfl
  have y2 : w2.cell? ⟨w.heap.size + 1, 2, none⟩ = some (.int .u8 0) := by rw [HX.out.cell]; rfl
  have y3 : w2.cell? ⟨w.heap.size + 1, 3, none⟩ = some (.int .u8 0) := by rw [HX.out.cell]; rfl
  have z0 := HX.out.frozen 0
  have z1 := HX.out.frozen 1
  have z2 := HX.out.frozen 2
  have z3 := HX.out.frozen 3
  go_region_held3 (fun w' => w'.cell? ⟨w.heap.size, 0, none⟩ = some (.int .i64 cls) ∧ w'.cell? ⟨w.heap.size, 1, none⟩ = some (.int .i64 kind) ∧ w'.cell? ⟨w.heap.size, 5, none⟩ = some (.string ks)) (go_keep) (first | fail)
  have u1 : IntKind.u8.wrap cls = ((u8 cls).toNat : Int) := by rw [u8_toNat, IntKind.wrap_u8]
  have u2 : IntKind.u8.wrap kind = ((u8 kind).toNat : Int) := by rw [u8_toNat, IntKind.wrap_u8]
  have u3 : IntKind.u8.wrap (ks.size : Int) = ((u8 ks.size).toNat : Int) := by rw [u8_toNat, IntKind.wrap_u8]
  have hown : OwnB 5 w2 w.heap.size (w.heap.size + 1) 64 64 (List.replicate 64 0) := ⟨by simp, .inr ⟨_, _, _, rfl, by omega, HX.out, by omega, by unfold maxLen; omega, by simp, by simp [B]⟩⟩
  have how := (((hown.set 0 (x := 1) (y := 1) rfl).set 1 u1).set 2 u2).set 3 u3
  have hls : ((((List.replicate 64 (0 : UInt8)).set 0 1).set 1 (u8 cls)).set 2 (u8 kind)).set 3 (u8 ks.size) = first4 (u8 cls) (u8 kind) (u8 ks.size) := by simp [first4, List.replicate_succ]
  rw [hls] at how
  have oo : Only [w.heap.size + 1] w2 _ := (((((Only.refl [w.heap.size + 1] w2).setCell (p := ⟨w.heap.size + 1, 0, none⟩) (.inl (by simp)) (.int .u8 1)).setCell (p := ⟨w.heap.size + 1, 1, none⟩) (.inl (by simp)) (.int .u8 (IntKind.u8.wrap cls))).setCell (p := ⟨w.heap.size + 1, 2, none⟩) (.inl (by simp)) (.int .u8 (IntKind.u8.wrap kind))).setCell (p := ⟨w.heap.size + 1, 3, none⟩) (.inl (by simp)) (.int .u8 (IntKind.u8.wrap (ks.size : Int)))).drew
  have OW3 := Lib.hid (how.only (S := []) ((Only.refl _ _).drew) (by simp))
  have BX3 := Lib.hid (HB2.out.only oo (by simp))
  have O3 := Lib.hid (O2.out.trans oo (by intro b hb; simp at hb; omega))
  clear u1 u2 u3 hown how hls oo x0 x1 x5 y0 y1 y2 y3 z0 z1 z2 z3 HX
  generalize hw3 : (((((w2.setCell ⟨w.heap.size + 1, 0, none⟩ (.int .u8 1)).setCell ⟨w.heap.size + 1, 1, none⟩ (.int .u8 (IntKind.u8.wrap cls))).setCell ⟨w.heap.size + 1, 2, none⟩ (.int .u8 (IntKind.u8.wrap kind))).setCell ⟨w.heap.size + 1, 3, none⟩ (.int .u8 (IntKind.u8.wrap (ks.size : Int))))).drew = w3 at *
  clear hw3
  have c4 : w3.cell? ⟨w.heap.size, 6, none⟩ = some (.string vs) := BX3.out.cell 6
  go_wp2_with fail
  refine (block_put (w.heap.size + 1) 64 _ 4 2 vs.size w3 OW3.out (by omega) (by omega) (by omega)).mono ?_
  rintro e w4 ⟨rfl, ow, oo⟩
  have OW4 := Lib.hid ow
  have BX4 := Lib.hid (BX3.out.only oo (by simp))
  have O4 := Lib.hid (O3.out.trans oo (by intro b hb; simp at hb; omega))
  clear ow oo c4
  have c5 : w4.cell? ⟨w.heap.size, 2, none⟩ = some (.int .u64 id) := BX4.out.cell 2
  go_wp2_with fail
  refine (block_put (w.heap.size + 1) 64 _ 8 8 id w4 OW4.out (by omega) (by omega) (by omega)).mono ?_
  rintro e w5 ⟨rfl, ow, oo⟩
  have OW5 := Lib.hid ow
  have BX5 := Lib.hid (BX4.out.only oo (by simp))
  have O5 := Lib.hid (O4.out.trans oo (by intro b hb; simp at hb; omega))
  clear ow oo c5
  have c6 : w5.cell? ⟨w.heap.size, 3, none⟩ = some (.int .u64 ver) := BX5.out.cell 3
  go_wp2_with fail
  refine (block_put (w.heap.size + 1) 64 _ 16 8 ver w5 OW5.out (by omega) (by omega) (by omega)).mono ?_
  rintro e w6 ⟨rfl, ow, oo⟩
  have OW6 := Lib.hid ow
  have BX6 := Lib.hid (BX5.out.only oo (by simp))
  have O6 := Lib.hid (O5.out.trans oo (by intro b hb; simp at hb; omega))
  clear ow oo c6
  have c7 : w6.cell? ⟨w.heap.size, 4, none⟩ = some (.int .u64 ep) := BX6.out.cell 4
  go_wp2_with fail
  refine (block_put (w.heap.size + 1) 64 _ 24 8 ep w6 OW6.out (by omega) (by omega) (by omega)).mono ?_
  rintro e w7 ⟨rfl, ow, oo⟩
  have OW7 := Lib.hid ow
  have BX7 := Lib.hid (BX6.out.only oo (by simp))
  have O7 := Lib.hid (O6.out.trans oo (by intro b hb; simp at hb; omega))
  clear ow oo c7
  have hl4 : ∀ v, (lay 4 v).length = 4 := fun v => lay_length 4 v
  obtain ⟨hh1, hh2⟩ := head_to (u8 cls) (u8 kind) (u8 ks.size) (lay_length 2 vs.size) (lay_length 8 id) (lay_length 8 ver) (lay_length 8 ep) (hl4 (crc (head32 (mkB cls kind id ver ep ks vs) ++ r))) (r := r.take 28) (by have := hr.len; simp; omega)
  have hhead : [1, u8 cls, u8 kind, u8 ks.size] ++ lay 2 vs.size ++ [0, 0] ++ lay 8 id ++ lay 8 ver ++ lay 8 ep = head32 (mkB cls kind id ver ep ks vs) := by
    unfold head32 mkB
    simp
  rw [hhead] at hh1 hh2
  have hhl := head32_length (mkB cls kind id ver ep ks vs)
  have ow7 := OW7.out
  rw [hh1] at ow7
  have hlaid := laid64 hhl (hl4 (crc (head32 (mkB cls kind id ver ep ks vs) ++ r))) (r := r) (by have := hr.len; omega)
  rw [← hlaid] at hh2
  have HH2 := Lib.hid hh2
  have hrl := hr.len
  have R7 := Lib.hid (Bs.only0 hr O7.out)
  clear hh1 hh2 hhead hlaid hl4
  generalize hhg : head32 (mkB cls kind id ver ep ks vs) = h at *
  have HHG := Lib.hid hhg
  clear hhg
  have hs32 : Bs w7 (some ⟨w.heap.size + 1, 0, none⟩) 32 h := by
    have := ow7.bs.cut (a := 0) (m := 32) (by omega)
    rwa [List.drop_zero, List.take_left' hhl] at this
  have HS := Lib.hid hs32
  have HC := Lib.hid (crc_append h r)
  have hcl := crc_lt h
  have hcl2 := crc_lt (h ++ r)
  have OW := Lib.hid ow7
  clear hs32 ow7
  go_wp2_with fail
  refine (sum_Sum _ _ _ h _ HS.out (by unfold maxLen; omega)).mono ?_
  rintro e w' ⟨rfl, rfl⟩
  go_wp2_with fail
  refine (sum_Add (crc h) _ _ _ r _ hcl R7.out (by unfold maxLen; omega)).mono ?_
  rintro e w' ⟨rfl, rfl⟩
  rw [← HC.out]
  go_wp2_with fail
  refine (block_put (w.heap.size + 1) 64 _ 32 4 (crc (h ++ r)) w7 OW.out (by omega) (by omega) (by omega)).mono ?_
  rintro e w8 ⟨rfl, ow, oo⟩
  have hne : ∀ b off s, A = some ⟨b, off, s⟩ → b < w.heap.size := fun b off s e => Sl.lt hr (by omega) e
  have OW8 := Lib.hid ow
  have R8 := Lib.hid (Bs.only R7.out oo (fun b off s e hb => by have := hne b off s e; simp at hb; omega))
  have O8 := Lib.hid (O7.out.trans oo (by intro b hb; simp at hb; omega))
  clear ow oo
  obtain ⟨cur, hcur, hsz⟩ := OW8.out.blk
  have HCU := Lib.hid hcur
  go_wp2_with (refine wpList_copy_blk rfl (.tmp 52) (.tmp 53) 27 27 rfl 5 Try.underlying27 byteSizeD (w.heap.size + 1) 36 28 28 A n c rfl rfl _ cur hcur (by omega) (r.map B) R8.out one_B ?_; intro w9 hb9 ho9 hs9)
  go_ret
  have hb9' := hb9
  rw [← List.map_take] at hb9'
  have hfin := OW8.out.splice_ HCU.out (l2 := r.take 28) (off := 36) (by simp; omega) hb9'
  rw [HH2.out] at hfin
  rw [HHG.out]
  exact ⟨.slice (some ⟨w.heap.size + 1, 0, none⟩) 64 64, rfl, madeB_of hfin (O8.out.trans ho9 (by intro b hb; simp at hb; omega))⟩
end Go.Proofs.Ytkhfcghnodggeaa
