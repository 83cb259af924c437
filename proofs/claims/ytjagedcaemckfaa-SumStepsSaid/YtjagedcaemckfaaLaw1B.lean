/- The walks of the further statements on sum. -/
import Derived.Test.YtjagedcaemckfaaLaw1
import Derived.Test.YtjagedcaemckfaaMemB
import Derived.StillTailTactics
namespace Go.Proofs.Ytjagedcaemckfaa
open Go.RowKit Go.Proofs.FuCrc Go.Proofs.FuMem

theorem xor8 (a : UInt8) (j : Nat) (hj : j < 256) : bits .xor .u8 (a.toNat : Int) (j : Int) = ((a ^^^ UInt8.ofNat j).toNat : Int) := by
  have ha := a.toNat_lt
  have hx : a.toNat ^^^ j < 256 := Nat.xor_lt_two_pow (n := 8) ha hj
  show IntKind.u8.wrap ((BitVec.ofInt 8 (a.toNat : Int) ^^^ BitVec.ofInt 8 (j : Int)).toNat : Int) = _
  rw [BitVec.toNat_xor, BitVec.ofInt_natCast, BitVec.ofInt_natCast, BitVec.toNat_ofNat, BitVec.toNat_ofNat, Nat.mod_eq_of_lt (by omega), Nat.mod_eq_of_lt (by omega), IntKind.wrap_u8, UInt8.toNat_xor, UInt8.toNat_ofNat_of_lt' (by simpa using hj)]
  omega
theorem xor8_ne (a : UInt8) (j : Nat) (h0 : 0 < j) (hj : j < 256) : a ^^^ UInt8.ofNat j ≠ a := by
  intro h
  have h2 := congrArg UInt8.toNat h
  rw [UInt8.toNat_xor, UInt8.toNat_ofNat_of_lt' (by simpa using hj)] at h2
  have h3 : (a.toNat ^^^ j) ^^^ a.toNat = a.toNat ^^^ a.toNat := by rw [h2]
  rw [Nat.xor_comm a.toNat j, Nat.xor_assoc, Nat.xor_self, Nat.xor_zero] at h3
  omega
theorem bs_of_sl {w : World} {A : Option Addr} {n : Nat} {l : List UInt8} (h : Sl w A n (l.map B)) : Bs w A n l := h
theorem walk_SumJoins (A : Option Addr) (n c : Nat) (l : List UInt8) (A' : Option Addr) (n' c' : Nat) (l' : List UInt8) (w : World) (h : Bs w A n l) (hn : n ≤ maxLen) (h' : Bs w A' n' l') (hn' : n' ≤ maxLen) :
    Calls Try.prog 4 #[.slice A n c, .slice A' n' c'] w fun e w' => e = .returned (.bool true) ∧ Only [] w w' := by
  have hm := hn
  have hm' := hn'
  unfold maxLen at hm hm'
  by_cases hbig : 4096 < n ∨ 4096 < n'
  · clear h h'
    by_cases hb1 : 4096 < n
    · go_enter Try.func4, Try.ntmps4
      go_wp2_with fail
      refine (law1_awake _).mono ?_
      rintro e w' ⟨rfl, rfl⟩
      go_wp2
      go_ret
      exact ⟨rfl, Only.refl _ _⟩
    · have hb2 : 4096 < n' := by omega
      clear hbig
      go_enter Try.func4, Try.ntmps4
      go_wp2_with fail
      refine (law1_awake _).mono ?_
      rintro e w' ⟨rfl, rfl⟩
      go_wp2
      go_ret
      exact ⟨rfl, Only.refl _ _⟩
  · have hb1 : n ≤ 4096 := by omega
    have hb2 : n' ≤ 4096 := by omega
    obtain ⟨i0, hi, hz0, hz1, hz2⟩ := info_parts Try.byteInfo
    obtain ⟨A1, c1, w1, hr1, ho1, hs1, on1⟩ := append_fresh (P := Try.prog) w 22 22 5 i0 _ 1 Try.underlying22 hi hz0 hz1 hz2 rfl A n c _ h one_B hn (by omega)
    obtain ⟨A2, c2, w2, hr2, ho2, hs2, on2⟩ := append_own (P := Try.prog) w1 on1 22 22 5 i0 _ 1 Try.underlying22 hi hz0 hz1 hz2 rfl (.slice A1 n c1) n _ ho1 A' n' c' _ (Sl.only0 h' on1) one_B (by unfold maxLen; omega) (by omega)
    have h1 := Lib.hid (Bs.only0 h on2)
    have h2 := Lib.hid (Bs.only0 h' on2)
    have hb : Bs w2 A2 (n + n') (l ++ l') := by unfold Bs; simpa using hs2
    have h3 := Lib.hid hb
    have HO := Lib.hid on2
    clear h h' ho1 hs1 on1 ho2 hs2 on2 hb hi hz0 hz1 hz2 hbig
    have hc := crc_lt l
    have hj := Lib.hid (crc_append l l')
    go_enter Try.func4, Try.ntmps4
    go_wp2_with (at_builtin; first | refine wpList_append_run _ rfl (.const (.slice none 0 0)) (.tmp 15) 22 rfl _ _ rfl rfl _ _ hr1 ?_ | refine wpList_append_run _ rfl (.tmp 16) (.tmp 17) 22 rfl _ _ rfl rfl _ _ hr2 ?_)
    refine (sum_Sum _ _ _ l _ h1.out hn).mono ?_
    rintro e w' ⟨rfl, rfl⟩
    go_wp2_with fail
    refine (sum_Add _ _ _ _ l' _ hc h2.out hn').mono ?_
    rintro e w' ⟨rfl, rfl⟩
    go_wp2_with fail
    refine (sum_Sum _ _ _ (l ++ l') _ h3.out (by unfold maxLen; omega)).mono ?_
    rintro e w' ⟨rfl, rfl⟩
    rw [hj.out]
    go_wp2_with fail
    refine (sum_Add 0 _ _ _ l' _ (by omega) h2.out hn').mono ?_
    rintro e w' ⟨rfl, rfl⟩
    go_wp2_with fail
    refine (sum_Sum _ _ _ l' _ h2.out hn').mono ?_
    rintro e w' ⟨rfl, rfl⟩
    rw [show crc l' = cadd 0 l' from rfl]
    go_wp2_with fail
    refine (law1_awake _).mono ?_
    rintro e w' ⟨rfl, rfl⟩
    go_wp2
    go_ret
    exact ⟨rfl, HO.out⟩

theorem walk_SumTurns (A : Option Addr) (n c : Nat) (l : List UInt8) (at_ wi : Int) (w : World) (h : Bs w A n l) (hn : n ≤ maxLen) (_h1 : -9223372036854775808 ≤ at_ ∧ at_ ≤ 9223372036854775807) (_h2 : -9223372036854775808 ≤ wi ∧ wi ≤ 9223372036854775807) :
    Calls Try.prog 5 #[.slice A n c, .int .i64 at_, .int .i64 wi] w fun e w' => e = .returned (.bool true) ∧ Only [] w w' := by
  have hm := hn
  unfold maxLen at hm
  by_cases hz : n = 0
  · subst hz
    clear h
    go_enter Try.func5, Try.ntmps5
    go_wp2_with fail
    refine (law1_awake _).mono ?_
    rintro e w' ⟨rfl, rfl⟩
    go_wp2
    go_ret
    exact ⟨rfl, Only.refl _ _⟩
  by_cases hbig : 4096 < n
  · clear h
    have hz' : 0 < n := by omega
    clear hz
    go_enter Try.func5, Try.ntmps5
    go_wp2_with fail
    refine (law1_awake _).mono ?_
    rintro e w' ⟨rfl, rfl⟩
    go_wp2
    go_ret
    exact ⟨rfl, Only.refl _ _⟩
  have hz' : 0 < n := by omega
  have hb0 : ((n : Int) == 0) = false := by simp; omega
  have hb1 : decide (4096 < (n : Int)) = false := by simp; omega
  clear hz
  obtain ⟨i0, hi, hz0, hz1, hz2⟩ := info_parts Try.byteInfo
  obtain ⟨A1, c1, w1, hr1, ho1, hs1, on1⟩ := append_fresh (P := Try.prog) w 22 22 5 i0 _ 1 Try.underlying22 hi hz0 hz1 hz2 rfl A n c _ h one_B hn (by omega)
  obtain ⟨g, cur, rfl, hbg, hblk, hsz, htk⟩ := own_blk ho1 hz'
  have hl := h.len
  have hk := low_lt at_ n hz'
  have hL := Lib.hid (fun w => law0_Low at_ n w hz' (by omega))
  have hL2 : Hid (∀ w, Calls Try.prog 26 #[.int .i64 wi, .int .i64 255] w fun e w' => e = .returned (.int .i64 (low wi 255)) ∧ w = w') := Lib.hid (fun w => law0_Low wi 255 w (by omega) (by omega))
  have hl2 := low_lt wi 255 (by omega)
  generalize low at_ n = k at *
  generalize low wi 255 = j at *
  have hkl : k < l.length := by omega
  have hc1 : w1.cell? ⟨g, k, none⟩ = some (.int .u8 l[k].toNat) := by
    rw [hblk.cell k, ← Array.getElem?_toList, ← List.getElem?_take_of_lt hk, htk, List.getElem?_map, List.getElem?_eq_getElem hkl]
    rfl
  have hf1 : w1.frozen? ⟨g, k, none⟩ = false := hblk.frozen k
  have hx1 := xor8 l[k] (1 + j) (by omega)
  have hset0 := Sl.of_blk_set hblk hsz htk k (B (l[k] ^^^ UInt8.ofNat (1 + j)))
  rw [show (l.map B).set k (B (l[k] ^^^ UInt8.ofNat (1 + j))) = (l.set k (l[k] ^^^ UInt8.ofNat (1 + j))).map B by rw [List.map_set]] at hset0
  have hne := crc_turn l k hkl (l[k] ^^^ UInt8.ofNat (1 + j)) (xor8_ne _ _ (by omega) (by omega))
  have on2 := on1.drew.setCell (p := ⟨g, k, none⟩) (.inr hbg) (B (l[k] ^^^ UInt8.ofNat (1 + j)))
  have hset : Bs (w1.drew.setCell ⟨g, k, none⟩ (B (l[k] ^^^ UInt8.ofNat (1 + j)))) (some ⟨g, 0, none⟩) n (l.set k (l[k] ^^^ UInt8.ofNat (1 + j))) := hset0
  clear hset0
  unfold B at on2 hset
  rw [← hx1, show ((1 + j : Nat) : Int) = 1 + (j : Int) by omega] at on2 hset
  generalize l.set k (l[k] ^^^ UInt8.ofNat (1 + j)) = l' at *
  have HA := Lib.hid h
  have HO := Lib.hid on2
  have HS := Lib.hid hset
  have HNE := Lib.hid hne
  clear hset on2 hne h on1 ho1 hs1 hi hz0 hz1 hz2 hx1 hblk hsz htk hbg
  generalize l[k].toNat = y at *
  clear hl hkl
  go_enter Try.func5, Try.ntmps5
  go_wp2_with (at_builtin; refine wpList_append_run _ rfl (.const (.slice none 0 0)) (.tmp 18) 22 rfl _ _ rfl rfl _ _ hr1 ?_)
  refine (hL.out _).mono ?_
  rintro e w' ⟨rfl, rfl⟩
  go_wp2
  refine wp_region_still_tail 12 (by kernel_rfl) (by kernel_rfl) ?_
  simp only [List.take_succ_cons, List.take_zero, List.drop_succ_cons, List.drop_zero]
  generalize hwd : ({ w1 with drawn := w1.drawn + 1 } : World) = wd
  have hc2 : wd.cell? ⟨g, k, none⟩ = some (.int .u8 y) := hwd ▸ hc1
  have hf2 : wd.frozen? ⟨g, k, none⟩ = false := hwd ▸ hf1
  have HD : Hid (w1.drew = wd) := hwd
  clear hwd hc1 hf1
  repeat still_step
  still_call (Calls.flip (hL2.out _))
  repeat still_step
  refine wpStill_nil ?_
  go_wp2_with fail
  refine (sum_Sum _ _ _ l' _ (HD.out ▸ HS.out) hn).mono ?_
  rintro e w' ⟨rfl, rfl⟩
  have ha : Bs (wd.setCell ⟨g, k, none⟩ (.int .u8 (bits .xor .u8 (y : Int) (1 + (j : Int))))) A n l := Bs.only0 HA.out (HD.out ▸ HO.out)
  go_wp2_with fail
  refine (sum_Sum _ _ _ l _ ha hn).mono ?_
  rintro e w' ⟨rfl, rfl⟩
  have hneq : ((crc l' : Int) != (crc l : Int)) = true := by rw [bne_iff_ne]; exact fun e => HNE.out (Int.ofNat.inj e)
  clear ha
  go_wp2_with fail
  refine (law1_awake _).mono ?_
  rintro e w' ⟨rfl, rfl⟩
  go_wp2
  go_ret
  exact ⟨rfl, HD.out ▸ HO.out⟩
theorem cfold_one (c : Nat) (x : UInt8) (l : List UInt8) : cfold c (l ++ [x]) = cstep (cfold c l) x.toNat := cfold_snoc c l x
theorem cadd_take (l : List UInt8) (k : Nat) (h : k < l.length) : cadd 0 (l.take (k + 1)) = cadd (cadd 0 (l.take k)) [l[k]] := by
  rw [List.take_succ_eq_append_getElem h, cadd_append]
theorem walk_SumSteps (s : ByteArray) (w : World) (hn : s.size ≤ maxLen) :
    Calls Try.prog 6 #[.string s] w fun e w' => e = .returned (.bool true) ∧ Only [] w w' := by
  have hm := hn
  unfold maxLen at hm
  by_cases hbig : 1024 < s.size
  · go_enter Try.func6, Try.ntmps6
    go_wp2_with fail
    refine (law1_awake _).mono ?_
    rintro e w' ⟨rfl, rfl⟩
    go_wp2
    go_ret
    exact ⟨rfl, Only.refl _ _⟩
  have hb1 : decide (1024 < (s.size : Int)) = false := by simp; omega
  go_enter Try.func6, Try.ntmps6
  go_wp2
  go_loopw [3, 4] (fun c k wr => ∃ j : Nat, j ≤ s.size ∧ k = .int .i64 j ∧ c = .int .u32 (crc (s.data.toList.take j)) ∧ Only [] w wr) (fun _ k _ => s.size - (intOf k).toNat)
  case atStart => exact ⟨0, Nat.zero_le _, rfl, by rw [List.take_zero, crc_nil]; rfl, Only.refl _ _⟩
  case round =>
    obtain ⟨j, hj, rfl, rfl, ho⟩ := hrel
    have HO := Lib.hid ho
    clear ho
    by_cases hlt : j < s.size
    · have hjl : j < s.data.toList.length := by simpa using hlt
      have hx := byte_lt s[j]
      have hcl := crc_lt (s.data.toList.take j)
      have HT := Lib.hid (cadd_take s.data.toList j hjl)
      have hb : ∀ wr : World, Bs (wr.alloc (.cells #[.int .u8 (s[j].toNat : Int)] 5)) (some ⟨wr.heap.size, 0, none⟩) 1 [s[j]] := fun wr => Sl.of_blk (Blk.new wr 5 #[.int .u8 (s[j].toNat : Int)]) 0 rfl (by simp)
      have HB := Lib.hid hb
      clear hb
      go_wp2_with fail
      refine (sum_Add _ _ _ _ [s[j]] _ hcl (HB.out _) (by decide)).mono ?_
      rintro e w' ⟨rfl, rfl⟩
      go_wp2
      go_roundw
      case rel => exact ⟨j + 1, by omega, by go_num, by unfold crc; rw [HT.out]; rfl, HO.out.alloc _⟩
      case measure => simp [intOf]; omega
    · obtain rfl : j = s.size := by omega
      have he : s.data.toList.take s.size = s.data.toList := List.take_of_length_le (by simp)
      have HE := Lib.hid he
      clear he
      go_wp2_with fail
      refine (sum_Text s _ hn).mono ?_
      rintro e w' ⟨rfl, rfl⟩
      rw [HE.out]
      go_wp2_with fail
      refine (law1_awake _).mono ?_
      rintro e w' ⟨rfl, rfl⟩
      go_wp2
      go_ret
      exact ⟨rfl, HO.out⟩
end Go.Proofs.Ytjagedcaemckfaa
