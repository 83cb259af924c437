/- The walk of the statement NvmScript. -/
import Derived.Test.YtfafpggppbolkaaProg
import Derived.WalkKit
import Derived.WalkLawsBesides
import Derived.WalkSpells
import Derived.Outline
import Derived.Lib.Hide
import Derived.Deep.LoopGhost
import Derived.Laws.BitsLemmas
import Derived.Laws.BitsAllLaws
import Derived.Deep.RegionWith
import Derived.Deep.QuietTactic
import Derived.BigQuiet
import Derived.Test.YtfafpggppbolkaaGGeomOpens1
import Derived.Test.YtfafpggppbolkaaGGeomOpens2
import Derived.Test.YtfafpggppbolkaaGGeomOpens3
import Derived.Test.YtfafpggppbolkaaGGeomOpens4
set_option maxRecDepth 100000
namespace Go.Proofs.Ytfafpggppbolkaa
open Go.RowKit Go.Proofs.FuMem Go.Proofs.FuNvm Go.Proofs.FuCode
set_option maxHeartbeats 16000000 in
theorem walk_NvmScript (lines : Int) (A : Option Addr) (n c : Nat) (xs : List (Deed × Holds)) (w : World) (_hl : -9223372036854775808 ≤ lines ∧ lines ≤ 9223372036854775807) (h : Deeds w A n xs) (_hc : n ≤ c) :
    Calls Try.prog 12 #[.int .i64 lines, .slice A n c] w fun e w' => e = .returned (.bool true) ∧ Only [] w w' := by
  have HL := Lib.hid (law3_large A n c xs w h)
  by_cases hlg : isLarge xs = true
  · rw [hlg] at HL
    clear h
    go_enter Try.func12, Try.ntmps12
    go_wp2_with fail
    refine (HL.out).mono ?_
    rintro e w' ⟨rfl, rfl⟩
    go_wp2_with fail
    refine (law3_awake _).mono ?_
    rintro e w1 ⟨rfl, o1⟩
    have O1 := Lib.hid o1
    clear o1
    go_wp2
    go_ret
    exact ⟨rfl, O1.out⟩
  have hf : isLarge xs = false := by simpa using hlg
  rw [hf] at HL
  obtain ⟨_, hsm⟩ := large_no hf
  by_cases h1 : lines < 1 ∨ 258 < lines
  · have HN1 := Lib.hid (fun w => nvm_New_no lines w h1)
    have HN2 := Lib.hid (fun w => ref3_New_no lines w h1)
    have hcase : decide (12 < lines) = false ∨ (decide (12 < lines) = true ∧ decide (lines ≤ 258) = false) := by
      rw [decide_eq_false_iff_not, decide_eq_true_eq, decide_eq_false_iff_not]
      omega
    clear h hlg hf hsm h1
    rcases hcase with q1 | ⟨q1, q2⟩
    all_goals
      go_enter Try.func12, Try.ntmps12
      go_wp2_with fail
      refine (HL.out).mono ?_
      rintro e w' ⟨rfl, rfl⟩
      go_wp2_with fail
      refine (HN1.out _).mono ?_
      rintro e w1 ⟨rfl, rfl⟩
      go_wp2_with fail
      refine (HN2.out _).mono ?_
      rintro e w1 ⟨rfl, rfl⟩
      go_wp2_with fail
      refine (law0_Num _ _).mono ?_
      rintro e w' ⟨rfl, rfl⟩
      go_wp2_with fail
      refine (law3_awake _).mono ?_
      rintro e w1 ⟨rfl, o1⟩
      have O1 := Lib.hid o1
      clear o1
      go_wp2
      go_ret
      exact ⟨rfl, O1.out⟩
  by_cases h2 : 12 < lines
  · have q1 : decide (12 < lines) = true := by simpa using h2
    have q2 : decide (lines ≤ 258) = true := by rw [decide_eq_true_eq]; omega
    clear h hlg hf hsm h1 h2
    go_enter Try.func12, Try.ntmps12
    go_wp2_with fail
    refine (HL.out).mono ?_
    rintro e w' ⟨rfl, rfl⟩
    go_wp2_with fail
    refine (law3_awake _).mono ?_
    rintro e w1 ⟨rfl, o1⟩
    have O1 := Lib.hid o1
    clear o1
    go_wp2
    go_ret
    exact ⟨rfl, O1.out⟩
  have q1 : decide (12 < lines) = false := by simpa using h2
  obtain ⟨m, rfl⟩ := Int.eq_ofNat_of_zero_le (show 0 ≤ lines by omega)
  have hm1 : 1 ≤ m := by omega
  have hm2 : m ≤ 258 := by omega
  obtain ⟨hl, hm, hok, hr⟩ := h
  unfold maxLen at hm
  have HOK := Lib.hid hok
  have HR := Lib.hid hr
  have HLN := Lib.hid hl
  have HSM := Lib.hid hsm
  clear hlg hf hsm hok hr hl h1 h2
  go_enter Try.func12, Try.ntmps12
  go_wp2_with fail
  refine (HL.out).mono ?_
  rintro e w' ⟨rfl, rfl⟩
  go_wp2_with fail
  refine (nvm_New m _ hm1 hm2).mono ?_
  rintro e w1 ⟨g0, cb0, rfl, d1, o1, f1, f2⟩
  have hg1 := d1.lt1
  have hc1 := d1.lt2
  have D1 := Lib.hid d1
  have O1 := Lib.hid o1
  clear d1 o1
  go_wp2_with fail
  refine (ref3_New m _ hm1 hm2).mono ?_
  rintro e w2 ⟨rg, rb, rfl, r2, o2, f3, f4⟩
  have D2 := Lib.hid (D1.out.only0 o2)
  obtain ⟨rcap, r2'⟩ : ∃ rcap, RefAt w2 rg rb rcap (newDev m) := ⟨m, r2⟩
  have R2 := Lib.hid r2'
  have O2 := Lib.hid (O1.out.trans0 o2)
  have hs1 := O1.out.size
  clear r2 r2' o2
  go_wp2_with fail
  refine (law0_Num _ _).mono ?_
  rintro e w' ⟨rfl, rfl⟩
  go_wp2
  generalize newDev m = F0 at *
  go_loopw [5, 9] (fun v i wr => ∃ (j : Nat) (F : Dev) (g cb cap : Nat), j ≤ n ∧ v = .pointer (some ⟨g, 0, none⟩) ∧ i = .int .i64 j ∧ DevAt wr g cb cap F ∧ RefAt wr rg rb rcap F ∧ (g ≠ rg ∧ g ≠ rb) ∧ (cb ≠ rg ∧ cb ≠ rb) ∧ w.heap.size ≤ g ∧ w.heap.size ≤ cb ∧ Only [] w wr) (fun _ i _ => n - (intOf i).toNat)
  case atStart => exact ⟨0, F0, g0, cb0, m, Nat.zero_le _, rfl, rfl, D2.out, R2.out, by omega, by omega, f1, f2, O2.out⟩
  case round =>
    obtain ⟨j, F, g, cb, cap, hj, rfl, rfl, hd, hr, hn1, hn2, hg, hcb, on⟩ := hrel
    have hr1 := hr.lt1
    have hr2 := hr.lt2
    have hsw := on.size
    by_cases hlt : j < n
    · rcases HR.out with h0 | ⟨b, off, rfl, hrng⟩
      · omega
      have hxk : xs[j]? = some (xs[j]'(by rw [HLN.out]; exact hlt)) := List.getElem?_eq_getElem _
      have hmem : xs[j]'(by rw [HLN.out]; exact hlt) ∈ xs := List.getElem_mem _
      have hrg := hrng j _ hxk
      have hok := HOK.out _ hmem
      have hsb := (HSM.out _ hmem).1
      have hsk := (HSM.out _ hmem).2
      clear hrng hmem hxk
      generalize xs[j]'(by rw [HLN.out]; exact hlt) = y at *
      obtain ⟨y, s⟩ := y
      simp only at hok hsb hsk hrg
      have hrw : wr.rangeAt b (off + j * 5) (deedV y s) := fun j v hv => by
        have hc := hrg j v hv
        rw [cell_only on (lt_of_cell hc) (by simp)]
        exact hc
      have e0 : wr.cell? ⟨b, off + j * 5, none⟩ = some (.int .i64 y.kind) := hrw 0 _ rfl
      have HOKY := Lib.hid hok
      have HRG := Lib.hid hrg
      have DR := Lib.hid hd
      have RR := Lib.hid hr
      have ON := Lib.hid on
      clear hok hrg hd hr on
      by_cases hk5 : y.kind = 5
      · have q5 : (y.kind == 5) = true := by simpa using hk5
        clear hk5 hrw
        go_wp2_with fail
        refine (nvm_Copy g cb cap F _ DR.out).mono ?_
        rintro e w5 ⟨g2, cb2, cap2, rfl, d5, o5, f5, f6⟩
        have D5 := Lib.hid d5
        have R5 := Lib.hid (RR.out.only0 o5)
        have O5 := Lib.hid (ON.out.trans0 o5)
        have hrw5 : w5.rangeAt b (off + j * 5) (deedV y s) := fun j v hv => by
          have hc := HRG.out j v hv
          rw [cell_only O5.out (lt_of_cell hc) (by simp)]
          exact hc
        clear d5 o5 e0
        go_wp2_with ((with_reducible show wpList _ _ _ (Oper.mk (some 66) _ _ _ _ _ :: _) _ _); refine wpList_load_mid rfl 36 (.tmp 65) rfl b (off + j * 5) rfl (deedV y s) _ hrw5 Try.underlying36 rfl (by kernel_rfl) ?_)
        refine (law3_done g2 cb2 cap2 rg rb rcap F y s w _ HOKY.out O5.out (by omega) (by omega) (by omega) (by omega) D5.out R5.out (by omega) (by omega) (by omega) (by omega)).mono ?_
        rintro e w6 ⟨rfl, d6, r6, o6⟩
        have D6 := Lib.hid d6
        have R6 := Lib.hid r6
        have O6 := Lib.hid (O5.out.trans o6 (by intro b hb; simp at hb; omega))
        clear d6 r6 o6
        go_wp2_with fail
        refine (law3_alike g2 cb2 cap2 rg rb rcap _ w6 D6.out R6.out).mono ?_
        rintro e w7 ⟨rfl, o7⟩
        have D7 := Lib.hid (D6.out.only0 o7)
        have R7 := Lib.hid (R6.out.only0 o7)
        have O7 := Lib.hid (O6.out.trans0 o7)
        clear o7
        go_wp2
        go_roundw
        case rel => exact ⟨j + 1, _, g2, cb2, cap2, by omega, rfl, by go_num, D7.out, R7.out, by omega, by omega, by omega, by omega, O7.out⟩
        case measure => simp [intOf]; omega
      · have q5 : (y.kind == 5) = false := by simpa using hk5
        clear hk5
        go_wp2_with ((with_reducible show wpList _ _ _ (Oper.mk (some 66) _ _ _ _ _ :: _) _ _); refine wpList_load_mid rfl 36 (.tmp 65) rfl b (off + j * 5) rfl (deedV y s) _ hrw Try.underlying36 rfl (by kernel_rfl) ?_)
        refine (law3_done g cb cap rg rb rcap F y s w _ HOKY.out ON.out (by omega) (by omega) (by omega) (by omega) DR.out RR.out (by omega) (by omega) (by omega) (by omega)).mono ?_
        rintro e w6 ⟨rfl, d6, r6, o6⟩
        have D6 := Lib.hid d6
        have R6 := Lib.hid r6
        have O6 := Lib.hid (ON.out.trans o6 (by intro b hb; simp at hb; omega))
        clear d6 r6 o6
        go_wp2_with fail
        refine (law3_alike g cb cap rg rb rcap _ w6 D6.out R6.out).mono ?_
        rintro e w7 ⟨rfl, o7⟩
        have D7 := Lib.hid (D6.out.only0 o7)
        have R7 := Lib.hid (R6.out.only0 o7)
        have O7 := Lib.hid (O6.out.trans0 o7)
        clear o7
        go_wp2
        go_roundw
        case rel => exact ⟨j + 1, _, g, cb, cap, by omega, rfl, by go_num, D7.out, R7.out, by omega, by omega, by omega, by omega, O7.out⟩
        case measure => simp [intOf]; omega
    · obtain rfl : j = n := by omega
      have ON := Lib.hid on
      go_wp2_with fail
      refine (law3_alike g cb cap rg rb rcap _ _ hd hr).mono ?_
      rintro e w7 ⟨rfl, o7⟩
      have O7 := Lib.hid (ON.out.trans0 o7)
      clear o7 hd hr on
      go_wp2_with fail
      refine (law3_awake _).mono ?_
      rintro e w8 ⟨rfl, o8⟩
      have O8 := Lib.hid (O7.out.trans0 o8)
      clear o8
      go_wp2
      go_ret
      exact ⟨rfl, O8.out⟩
end Go.Proofs.Ytfafpggppbolkaa
/- The checksum in plain Lean: one byte's step, its injectivity, folds over lists of bytes. No program in sight. -/
namespace Go.Proofs.FuCrc
/-- one bit -/
def cbit (c : Nat) : Nat := if c % 2 = 0 then c / 2 else (c / 2) ^^^ 3988292384
def cbits : Nat → Nat → Nat
  | 0, c => c
  | n + 1, c => cbits n (cbit c)
def cstep (c x : Nat) : Nat := cbits 8 (c ^^^ x)
def cfold (c : Nat) (l : List UInt8) : Nat := l.foldl (fun c x => cstep c x.toNat) c
/-- the sum of bytes behind others whose sum is c -/
def cadd (c : Nat) (l : List UInt8) : Nat := cfold (c ^^^ 4294967295) l ^^^ 4294967295
def crc (l : List UInt8) : Nat := cadd 0 l
theorem xor_lt {a b : Nat} (ha : a < 4294967296) (hb : b < 4294967296) : a ^^^ b < 4294967296 := Nat.xor_lt_two_pow (n := 32) ha hb
theorem cbit_lt {c : Nat} (h : c < 4294967296) : cbit c < 4294967296 := by
  unfold cbit
  split
  · omega
  · exact xor_lt (by omega) (by omega)
theorem cbits_succ (n c : Nat) : cbits (n + 1) c = cbit (cbits n c) := by
  induction n generalizing c with
  | zero => rfl
  | succ n ih => rw [cbits, ih, cbits]
theorem cbits_lt (n : Nat) {c : Nat} (h : c < 4294967296) : cbits n c < 4294967296 := by
  induction n generalizing c with
  | zero => exact h
  | succ n ih => exact ih (cbit_lt h)
theorem cstep_lt {c x : Nat} (h : c < 4294967296) (hx : x < 256) : cstep c x < 4294967296 := cbits_lt 8 (xor_lt h (by omega))
theorem byte_lt (x : UInt8) : x.toNat < 256 := x.toNat_lt
theorem cfold_lt (l : List UInt8) {c : Nat} (h : c < 4294967296) : cfold c l < 4294967296 := by
  unfold cfold
  induction l generalizing c with
  | nil => exact h
  | cons x l ih => exact ih (cstep_lt h (byte_lt x))
theorem cfold_append (c : Nat) (a b : List UInt8) : cfold c (a ++ b) = cfold (cfold c a) b := by simp [cfold]
theorem cfold_snoc (c : Nat) (a : List UInt8) (x : UInt8) : cfold c (a ++ [x]) = cstep (cfold c a) x.toNat := by simp [cfold]
theorem cfold_take (c : Nat) (l : List UInt8) (k : Nat) (h : k < l.length) : cfold c (l.take (k + 1)) = cstep (cfold c (l.take k)) l[k].toNat := by
  rw [List.take_succ_eq_append_getElem h, cfold_snoc]
theorem cadd_lt (l : List UInt8) {c : Nat} (h : c < 4294967296) : cadd c l < 4294967296 := xor_lt (cfold_lt l (xor_lt h (by omega))) (by omega)
theorem crc_lt (l : List UInt8) : crc l < 4294967296 := cadd_lt l (by omega)
theorem cadd_append (c : Nat) (a b : List UInt8) : cadd c (a ++ b) = cadd (cadd c a) b := by
  unfold cadd
  rw [cfold_append, Nat.xor_assoc, Nat.xor_self, Nat.xor_zero]
theorem crc_append (a b : List UInt8) : crc (a ++ b) = cadd (crc a) b := cadd_append 0 a b
theorem xor_cancel {a b c : Nat} (h : a ^^^ c = b ^^^ c) : a = b := by
  have := congrArg (· ^^^ c) h
  simpa [Nat.xor_assoc] using this
theorem testBit_hi {n : Nat} (h : n < 2147483648) : n.testBit 31 = false := Nat.testBit_lt_two_pow (by omega)
theorem cbit_inj {a b : Nat} (ha : a < 4294967296) (hb : b < 4294967296) (h : cbit a = cbit b) : a = b := by
  unfold cbit at h
  have p31 : (3988292384 : Nat).testBit 31 = true := by decide
  by_cases ea : a % 2 = 0 <;> by_cases eb : b % 2 = 0 <;> simp only [ea, eb, if_true, if_false] at h
  · omega
  · have h1 : (a / 2).testBit 31 = false := testBit_hi (by omega)
    have h2 : (b / 2).testBit 31 = false := testBit_hi (by omega)
    rw [h, Nat.testBit_xor, h2, p31] at h1
    simp at h1
  · have h1 : (a / 2).testBit 31 = false := testBit_hi (by omega)
    have h2 : (b / 2).testBit 31 = false := testBit_hi (by omega)
    rw [← h, Nat.testBit_xor, h1, p31] at h2
    simp at h2
  · have := xor_cancel h
    omega
theorem cbits_inj (n : Nat) {a b : Nat} (ha : a < 4294967296) (hb : b < 4294967296) (h : cbits n a = cbits n b) : a = b := by
  induction n generalizing a b with
  | zero => exact h
  | succ n ih => exact cbit_inj ha hb (ih (cbit_lt ha) (cbit_lt hb) h)
theorem cstep_inj_left {a b x : Nat} (ha : a < 4294967296) (hb : b < 4294967296) (hx : x < 256) (h : cstep a x = cstep b x) : a = b :=
  xor_cancel (cbits_inj 8 (xor_lt ha (by omega)) (xor_lt hb (by omega)) h)
theorem cstep_inj_right {a x y : Nat} (ha : a < 4294967296) (hx : x < 256) (hy : y < 256) (h : cstep a x = cstep a y) : x = y := by
  have := cbits_inj 8 (xor_lt ha (b := x) (by omega)) (xor_lt ha (by omega)) h
  rw [Nat.xor_comm a x, Nat.xor_comm a y] at this
  exact xor_cancel this
theorem cfold_inj (l : List UInt8) {a b : Nat} (ha : a < 4294967296) (hb : b < 4294967296) (h : cfold a l = cfold b l) : a = b := by
  unfold cfold at h
  induction l generalizing a b with
  | nil => exact h
  | cons x l ih => exact cstep_inj_left ha hb (byte_lt x) (ih (cstep_lt ha (byte_lt x)) (cstep_lt hb (byte_lt x)) h)
theorem cadd_inj (l : List UInt8) {a b : Nat} (ha : a < 4294967296) (hb : b < 4294967296) (h : cadd a l = cadd b l) : a = b :=
  xor_cancel (cfold_inj l (xor_lt ha (by omega)) (xor_lt hb (by omega)) (xor_cancel h))
/-- one byte turned turns the sum -/
theorem cadd_turn (c : Nat) (hc : c < 4294967296) (l : List UInt8) (k : Nat) (hk : k < l.length) (y : UInt8) (hne : y ≠ l[k]) : cadd c (l.set k y) ≠ cadd c l := by
  intro h
  have e1 : l.set k y = l.take k ++ [y] ++ l.drop (k + 1) := by
    rw [List.set_eq_take_append_cons_drop]; simp [hk]
  have e2 : l = l.take k ++ [l[k]] ++ l.drop (k + 1) := by
    rw [List.append_assoc]; simp
  have hc' : c ^^^ 4294967295 < 4294967296 := xor_lt hc (by omega)
  have h' := xor_cancel h
  rw [e1] at h'
  rw [show cfold (c ^^^ 4294967295) l = cfold (c ^^^ 4294967295) (l.take k ++ [l[k]] ++ l.drop (k + 1)) from congrArg _ e2] at h'
  rw [cfold_append, cfold_append (b := l.drop (k+1))] at h'
  rw [cfold_snoc, cfold_snoc] at h'
  have hl := cfold_lt (l.take k) hc'
  have h2 := cfold_inj _ (cstep_lt hl (byte_lt _)) (cstep_lt hl (byte_lt _)) h'
  exact hne (UInt8.toNat_inj.1 (cstep_inj_right hl (byte_lt _) (byte_lt _) h2))
theorem crc_turn (l : List UInt8) (k : Nat) (hk : k < l.length) (y : UInt8) (hne : y ≠ l[k]) : crc (l.set k y) ≠ crc l := cadd_turn 0 (by omega) l k hk y hne
theorem crc_nil : crc [] = 0 := by decide
end Go.Proofs.FuCrc
/- The contracts of package sum and of its reference. -/
namespace Go.Proofs.Ytfafpggppbolkaa
open Go.RowKit Go.Proofs.FuCrc Go.Proofs.FuMem
set_option maxRecDepth 100000
theorem bits_xor32 (a b : Nat) (ha : a < 4294967296) (hb : b < 4294967296) : bits .xor .u32 (a : Int) (b : Int) = ((a ^^^ b : Nat) : Int) := by
  have hx : a ^^^ b < 4294967296 := xor_lt ha hb
  show IntKind.u32.wrap ((BitVec.ofInt 32 (a : Int) ^^^ BitVec.ofInt 32 (b : Int)).toNat : Int) = _
  rw [BitVec.toNat_xor, BitVec.ofInt_natCast, BitVec.ofInt_natCast, BitVec.toNat_ofNat, BitVec.toNat_ofNat, Nat.mod_eq_of_lt (by omega), Nat.mod_eq_of_lt (by omega), IntKind.wrap_u32]
  omega
theorem xor_turn (a : Nat) (ha : a < 4294967296) : bits .xor .u32 (a : Int) 4294967295 = ((a ^^^ 4294967295 : Nat) : Int) := bits_xor32 a 4294967295 ha (by omega)
theorem bits_and32_1 (a : Nat) (ha : a < 4294967296) : bits .and .u32 (a : Int) 1 = ((a % 2 : Nat) : Int) := by
  show IntKind.u32.wrap ((BitVec.ofInt 32 (a : Int) &&& BitVec.ofInt 32 1).toNat : Int) = _
  rw [BitVec.toNat_and, BitVec.ofInt_natCast, BitVec.toNat_ofNat, Nat.mod_eq_of_lt (by omega), show (BitVec.ofInt 32 1).toNat = 1 from rfl, Nat.and_one_is_mod, IntKind.wrap_u32]
  omega
theorem cb_even {j y : Nat} (h : (((cbits j y : Nat) : Int) % 2 == 0) = true) (hy : y < 4294967296) : ((cbits j y : Nat) : Int) / 2 % 4294967296 = (cbits (j + 1) y : Nat) := by
  have := cbits_lt j hy
  rw [cbits_succ, cbit, if_pos (by simp at h; omega)]
  omega
theorem cb_odd {j y : Nat} (h : (((cbits j y : Nat) : Int) % 2 == 0) = false) (hy : y < 4294967296) : bits .xor .u32 (((cbits j y : Nat) : Int) / 2 % 4294967296) 3988292384 = (cbits (j + 1) y : Nat) := by
  have := cbits_lt j hy
  rw [cbits_succ, cbit, if_neg (by simp at h; omega), show ((cbits j y : Nat) : Int) / 2 % 4294967296 = ((cbits j y / 2 : Nat) : Int) by omega]
  exact bits_xor32 _ 3988292384 (by omega) (by omega)
theorem sum_step (c x : Nat) (w : World) (hc : c < 4294967296) (hx : x < 256) :
    Calls Try.prog 105 #[.int .u32 c, .int .u8 x] w fun e w' => e = .returned (.int .u32 (cstep c x)) ∧ w = w' := by
  have hy : c ^^^ x < 4294967296 := xor_lt hc (by omega)
  go_enter Try.func105, Try.ntmps105
  go_wp2
  go_step3
  go_wp2
  go_step3
  go_wp2
  rw [bits_xor32 c x hc (by omega)]
  go_loop [0, 5] (fun cc k => ∃ j : Nat, j ≤ 8 ∧ k = .int .i64 j ∧ cc = .int .u32 (cbits j (c ^^^ x))) (fun _ k => 8 - (intOf k).toNat)
  case atStart => exact ⟨0, Nat.zero_le _, rfl, rfl⟩
  case round =>
    obtain ⟨j, hj, rfl, rfl⟩ := hrel
    by_cases hlt : j < 8
    · go_wp2
      all_goals
        go_round
        case rel => exact ⟨j + 1, by omega, by go_num, by first | rw [cb_even ‹_› hy] | (rw [cb_odd ‹_› hy])⟩
        case measure => simp [intOf]; omega
    · go_wp2
      obtain rfl : j = 8 := by omega
      go_ret
      exact ⟨rfl, rfl⟩
theorem sum_Add (c : Nat) (A : Option Addr) (n cap : Nat) (l : List UInt8) (w : World) (hc : c < 4294967296) (hb : Bs w A n l) (hn : n ≤ maxLen) :
    Calls Try.prog 103 #[.int .u32 c, .slice A n cap] w fun e w' => e = .returned (.int .u32 (cadd c l)) ∧ w = w' := by
  have hy : c ^^^ 4294967295 < 4294967296 := xor_lt hc (by omega)
  have hl := Lib.hid hb.len
  have HB := Lib.hid hb
  clear hb
  unfold maxLen at hn
  go_enter Try.func103, Try.ntmps103
  go_wp2
  rw [xor_turn c hc]
  go_loop [0, 6, 11] (fun cc _ k => ∃ j : Nat, j ≤ n ∧ k = .int .i64 j ∧ cc = .int .u32 (cfold (c ^^^ 4294967295) (l.take j))) (fun _ _ k => n - (intOf k).toNat)
  case atStart => exact ⟨0, Nat.zero_le _, rfl, rfl⟩
  case round =>
    obtain ⟨j, hj, rfl, rfl⟩ := hrel
    by_cases hlt : j < n
    · obtain ⟨b, off, rfl, hcell⟩ := HB.out.at_ (by omega)
      have hjl : j < l.length := by rw [hl.out]; exact hlt
      have hc1 := hcell j hjl
      have hx := byte_lt l[j]
      have hcl := cfold_lt (l.take j) hy
      have HT := Lib.hid (cfold_take (c ^^^ 4294967295) l j hjl)
      clear hcell
      go_wp2_with (go_at_call 105; refine (sum_step _ _ _ hcl hx).mono ?_; rintro e w' ⟨rfl, rfl⟩)
      go_round
      case rel => exact ⟨j + 1, by omega, by go_num, by rw [HT.out]⟩
      case measure => simp [intOf]; omega
    · go_wp2
      go_ret
      exact ⟨ret_int (by rw [List.take_of_length_le (by rw [hl.out]; omega)]; exact xor_turn _ (cfold_lt l hy)), rfl⟩
theorem sum_Sum (A : Option Addr) (n cap : Nat) (l : List UInt8) (w : World) (hb : Bs w A n l) (hn : n ≤ maxLen) :
    Calls Try.prog 101 #[.slice A n cap] w fun e w' => e = .returned (.int .u32 (crc l)) ∧ w = w' := by
  have HB := Lib.hid hb
  clear hb
  go_enter Try.func101, Try.ntmps101
  go_wp2_with (go_at_call 103; refine (sum_Add 0 _ _ _ l _ (by omega) HB.out hn).mono ?_; rintro e w' ⟨rfl, rfl⟩)
  go_ret
  exact ⟨rfl, rfl⟩
theorem rb_even {j y : Nat} (h : (bits .and .u32 ((cbits j y : Nat) : Int) 1 == 1) = false) (hy : y < 4294967296) : ((cbits j y : Nat) : Int) / 2 % 4294967296 = (cbits (j + 1) y : Nat) := by
  have := cbits_lt j hy
  rw [bits_and32_1 _ this] at h
  exact cb_even (by simp at h ⊢; omega) hy
theorem rb_odd {j y : Nat} (h : (bits .and .u32 ((cbits j y : Nat) : Int) 1 == 1) = true) (hy : y < 4294967296) : bits .xor .u32 (((cbits j y : Nat) : Int) / 2 % 4294967296) 3988292384 = (cbits (j + 1) y : Nat) := by
  have := cbits_lt j hy
  rw [bits_and32_1 _ this] at h
  exact cb_odd (by simp at h ⊢; omega) hy
theorem ref1_step (c x : Nat) (w : World) (hc : c < 4294967296) (hx : x < 256) :
    Calls Try.prog 104 #[.int .u32 c, .int .u8 x] w fun e w' => e = .returned (.int .u32 (cstep c x)) ∧ w = w' := by
  have hy : c ^^^ x < 4294967296 := xor_lt hc (by omega)
  go_enter Try.func104, Try.ntmps104
  go_wp2
  rw [bits_xor32 c x hc (by omega)]
  go_loop [0, 5, 6] (fun cc k _ => ∃ j : Nat, j ≤ 8 ∧ k = .int .i64 j ∧ cc = .int .u32 (cbits j (c ^^^ x))) (fun _ k _ => 8 - (intOf k).toNat)
  case atStart => exact ⟨0, Nat.zero_le _, rfl, rfl⟩
  case round =>
    obtain ⟨j, hj, rfl, rfl⟩ := hrel
    by_cases hlt : j < 8
    · go_wp2
      all_goals
        go_round
        case rel => exact ⟨j + 1, by omega, by go_num, by first | rw [rb_even ‹_› hy] | (rw [rb_odd ‹_› hy])⟩
        case measure => simp [intOf]; omega
    · go_wp2
      obtain rfl : j = 8 := by omega
      go_ret
      exact ⟨rfl, rfl⟩
theorem ref1_Text (s : ByteArray) (w : World) (hn : s.size ≤ maxLen) :
    Calls Try.prog 102 #[.string s] w fun e w' => e = .returned (.int .u32 (crc s.data.toList)) ∧ w = w' := by
  unfold maxLen at hn
  go_enter Try.func102, Try.ntmps102
  go_wp2
  go_loop [3, 4] (fun cc k => ∃ j : Nat, j ≤ s.size ∧ k = .int .i64 j ∧ cc = .int .u32 (cfold 4294967295 (s.data.toList.take j))) (fun _ k => s.size - (intOf k).toNat)
  case atStart => exact ⟨0, Nat.zero_le _, rfl, rfl⟩
  case round =>
    obtain ⟨j, hj, rfl, rfl⟩ := hrel
    by_cases hlt : j < s.size
    · have hjl : j < s.data.toList.length := by simpa using hlt
      have hx := byte_lt s[j]
      have hcl := cfold_lt (s.data.toList.take j) (c := 4294967295) (by omega)
      have HT := Lib.hid (cfold_take 4294967295 s.data.toList j hjl)
      go_wp2_with (go_at_call 104; refine (ref1_step _ _ _ hcl hx).mono ?_; rintro e w' ⟨rfl, rfl⟩)
      go_round
      case rel => exact ⟨j + 1, by omega, by go_num, by rw [HT.out]; rfl⟩
      case measure => simp [intOf]; omega
    · go_wp2
      go_ret
      exact ⟨ret_int (by rw [List.take_of_length_le (by simp; omega)]; exact xor_turn _ (cfold_lt _ (by omega))), rfl⟩
end Go.Proofs.Ytfafpggppbolkaa
/- The lines of superblock and clock, in plain Lean. No program in sight. -/
namespace Go.Proofs.FuGeom
open Go.Proofs.FuCrc Go.Proofs.FuCode
def zer (n : Nat) : List UInt8 := List.replicate n 0
def superHead (n : Nat) : List UInt8 := [4, 70, 85, 83, 69] ++ lay 4 n
def clockHead (v : Nat) : List UInt8 := [3] ++ lay 8 v
/-- nine bytes, their sum, noughts -/
def sgn (h : List UInt8) : List UInt8 := h ++ lay 4 (crc h) ++ zer 51
def superL (n : Nat) : List UInt8 := sgn (superHead n)
def clockL (v : Nat) : List UInt8 := sgn (clockHead v)
theorem zer_length (n : Nat) : (zer n).length = n := by simp [zer]
theorem superHead_length (n : Nat) : (superHead n).length = 9 := by simp [superHead, lay_length]
theorem clockHead_length (n : Nat) : (clockHead n).length = 9 := by simp [clockHead, lay_length]
theorem sgn_length {h : List UInt8} (hl : h.length = 9) : (sgn h).length = 64 := by simp [sgn, hl, lay_length, zer_length]
theorem superL_length (n : Nat) : (superL n).length = 64 := sgn_length (superHead_length n)
theorem clockL_length (n : Nat) : (clockL n).length = 64 := sgn_length (clockHead_length n)
theorem sgn_take {h : List UInt8} (hl : h.length = 9) : (sgn h).take 9 = h := by
  unfold sgn
  rw [List.append_assoc, List.take_append_of_le_length (by omega), List.take_of_length_le (by omega)]
theorem sgn_inj {h k : List UInt8} (hh : h.length = 9) (hk : k.length = 9) (e : sgn h = sgn k) : h = k := by rw [← sgn_take hh, ← sgn_take hk, e]
theorem over_sgn {h : List UInt8} (hl : h.length = 9) : over (h ++ zer 55) 9 (lay 4 (crc h)) = sgn h := by
  unfold over sgn
  rw [List.take_append_of_le_length (by omega), List.take_of_length_le (by omega), lay_length, List.drop_append, List.drop_eq_nil_of_le (by omega), hl]
  simp [zer]
theorem put_sgn {h : List UInt8} (hl : h.length = 9) : put (h ++ zer 55) 9 4 (crc h) = (sgn h, 0) := by
  have hc := crc_lt h
  have hw : wrong (h ++ zer 55).length 9 4 = 0 := by
    rw [List.length_append, hl, zer_length]
    decide
  unfold put
  rw [hw, if_neg (by omega), if_neg (by simp; omega)]
  simp [over_sgn hl]
theorem put_super (n : Nat) (h : n < 4294967296) : put [4, 70, 85, 83, 69, 0, 0, 0, 0] 5 4 n = (superHead n, 0) := by
  unfold put
  rw [show wrong ([4, 70, 85, 83, 69, 0, 0, 0, 0] : List UInt8).length 5 4 = 0 by decide, if_neg (by omega), if_neg (by simp; omega)]
  simp [over, superHead, lay_length]
theorem put_clock (v : Nat) (h : v < 18446744073709551616) : put [3, 0, 0, 0, 0, 0, 0, 0, 0] 1 8 v = (clockHead v, 0) := by
  unfold put
  rw [show wrong ([3, 0, 0, 0, 0, 0, 0, 0, 0] : List UInt8).length 1 8 = 0 by decide, if_neg (by omega), if_neg (by simp; omega)]
  simp [over, clockHead, lay_length]
/-- the number that stands in a superblock's line, a clock's line -/
def superNum (b : List UInt8) : Nat := num ((b.drop 5).take 4)
def clockNum (b : List UInt8) : Nat := num ((b.drop 1).take 8)
def isSuper (b : List UInt8) : Nat × Bool := if b.length = 64 ∧ 10 ≤ superNum b ∧ superNum b ≤ 258 ∧ b = superL (superNum b) then (superNum b, true) else (0, false)
def isClock (b : List UInt8) : Nat × Bool := if b.length = 64 ∧ b = clockL (clockNum b) then (clockNum b, true) else (0, false)
theorem superNum_lt (b : List UInt8) : superNum b < 4294967296 := by
  have h := num_lt ((b.drop 5).take 4)
  have h2 : ((b.drop 5).take 4).length ≤ 4 := by simp; omega
  have := Nat.pow_le_pow_right (n := 256) (by omega) h2
  unfold superNum
  omega
theorem clockNum_lt (b : List UInt8) : clockNum b < 18446744073709551616 := by
  have h := num_lt ((b.drop 1).take 8)
  have h2 : ((b.drop 1).take 8).length ≤ 8 := by simp; omega
  have := Nat.pow_le_pow_right (n := 256) (by omega) h2
  unfold clockNum
  omega
theorem superNum_superL (n : Nat) (h : n < 4294967296) : superNum (superL n) = n := by
  unfold superNum superL sgn superHead
  simp only [List.append_assoc, List.cons_append, List.nil_append, List.drop_succ_cons, List.drop_zero]
  rw [List.take_append_of_le_length (by rw [lay_length]; omega), List.take_of_length_le (by rw [lay_length]; omega), num_lay_lt]
  omega
theorem clockNum_clockL (n : Nat) (h : n < 18446744073709551616) : clockNum (clockL n) = n := by
  unfold clockNum clockL sgn clockHead
  simp only [List.append_assoc, List.cons_append, List.nil_append, List.drop_succ_cons, List.drop_zero]
  rw [List.take_append_of_le_length (by rw [lay_length]; omega), List.take_of_length_le (by rw [lay_length]; omega), num_lay_lt]
  omega
theorem isSuper_superL (n : Nat) (h1 : 10 ≤ n) (h2 : n ≤ 258) : isSuper (superL n) = (n, true) := by
  unfold isSuper
  rw [superNum_superL n (by omega), if_pos ⟨superL_length n, h1, h2, rfl⟩]
theorem isClock_clockL (n : Nat) (h : n < 18446744073709551616) : isClock (clockL n) = (n, true) := by
  unfold isClock
  rw [clockNum_clockL n h, if_pos ⟨clockL_length n, rfl⟩]
theorem head_of_sgn {h k : List UInt8} (hh : 0 < h.length) (hk : 0 < k.length) (e : sgn h = sgn k) : h[0] = k[0] := by
  have e1 : (sgn h)[0]? = some h[0] := by
    unfold sgn
    rw [List.append_assoc, List.getElem?_append_left hh, List.getElem?_eq_getElem hh]
  have e2 : (sgn k)[0]? = some k[0] := by
    unfold sgn
    rw [List.append_assoc, List.getElem?_append_left hk, List.getElem?_eq_getElem hk]
  rw [e, e2] at e1
  exact (Option.some.inj e1).symm
theorem super_ne_clock (n v : Nat) : superL n ≠ clockL v := by
  intro e
  have := head_of_sgn (h := superHead n) (k := clockHead v) (by rw [superHead_length]; omega) (by rw [clockHead_length]; omega) e
  simp [superHead, clockHead] at this
theorem isClock_superL (n : Nat) : isClock (superL n) = (0, false) := by
  unfold isClock
  rw [if_neg]
  rintro ⟨_, e⟩
  exact super_ne_clock _ _ e
theorem isSuper_clockL (n : Nat) : isSuper (clockL n) = (0, false) := by
  unfold isSuper
  rw [if_neg]
  rintro ⟨_, _, _, e⟩
  exact super_ne_clock _ _ e.symm
theorem isSuper_short {b : List UInt8} (h : b.length ≠ 64) : isSuper b = (0, false) := by
  unfold isSuper
  rw [if_neg]
  exact fun e => h e.1
theorem isClock_short {b : List UInt8} (h : b.length ≠ 64) : isClock b = (0, false) := by
  unfold isClock
  rw [if_neg]
  exact fun e => h e.1
/-- a sealed line of which one byte is another one is not sealed by the same head's bytes -/
theorem sgn_turn {h k : List UInt8} (hh : h.length = 9) (hk : k.length = 9) (i : Nat) (hi : i < 64) (y : UInt8) (hy : (sgn h)[i]? ≠ some y) (e : (sgn h).set i y = sgn k) : False := by
  have hl := sgn_length hh
  by_cases h9 : i < 9
  · -- a byte of the head: the sums differ, but lie the same
    have e1 : k = h.set i y := by
      have := congrArg (List.take 9) e
      rw [sgn_take hk, List.take_set, sgn_take hh] at this
      exact this.symm
    have e2 : ((sgn h).set i y).drop 9 = (sgn h).drop 9 := by
      rw [List.drop_set_of_lt (by omega)]
    rw [e] at e2
    have hdrop : ∀ m : List UInt8, m.length = 9 → (sgn m).drop 9 = lay 4 (crc m) ++ zer 51 := fun m hm => by
      unfold sgn
      rw [List.append_assoc, List.drop_append, List.drop_eq_nil_of_le (by omega), hm]
      simp
    rw [hdrop k hk, hdrop h hh] at e2
    have e3 := List.append_cancel_right e2
    have e4 := congrArg num e3
    rw [num_lay_lt 4 _ (by have := crc_lt k; simpa using this), num_lay_lt 4 _ (by have := crc_lt h; simpa using this)] at e4
    have hne : y ≠ h[i]'(by omega) := by
      intro hy2
      apply hy
      unfold sgn
      rw [List.append_assoc, List.getElem?_append_left (by omega), List.getElem?_eq_getElem (by omega), hy2]
    rw [e1] at e4
    exact crc_turn h i (by omega) y hne e4
  · -- a byte behind the head: the heads are the same
    have e1 : k = h := by
      have := congrArg (List.take 9) e
      rw [sgn_take hk, List.take_set_of_le (by omega), sgn_take hh] at this
      exact this.symm
    rw [e1] at e
    have e2 := congrArg (fun l => l[i]?) e
    simp only [List.getElem?_set, if_true] at e2
    rw [if_pos (by omega)] at e2
    exact hy e2.symm
theorem isClock_turn (v i : Nat) (hi : i < 64) (y : UInt8) (hy : (clockL v)[i]? ≠ some y) : isClock ((clockL v).set i y) = (0, false) := by
  unfold isClock
  rw [if_neg]
  rintro ⟨_, e⟩
  exact sgn_turn (clockHead_length v) (clockHead_length _) i hi y hy e
theorem isSuper_turn (v i : Nat) (hi : i < 64) (y : UInt8) (hy : (superL v)[i]? ≠ some y) : isSuper ((superL v).set i y) = (0, false) := by
  unfold isSuper
  rw [if_neg]
  rintro ⟨_, _, _, e⟩
  exact sgn_turn (superHead_length v) (superHead_length _) i hi y hy e
end Go.Proofs.FuGeom
/- The contracts of package geom on lines. -/
namespace Go.Proofs.Ytfafpggppbolkaa
open Go.RowKit Go.Proofs.FuMem Go.Proofs.FuCode Go.Proofs.FuCrc Go.Proofs.FuGeom
set_option maxRecDepth 100000
theorem rowSize : (Try.prog.info? 106).map (·.size) = some 64 := by kernel_rfl
theorem rowZero : (Try.prog.info? 106).map (·.zero) = some (some (arrV (zer 64))) := by kernel_rfl
theorem rowGuard : Try.prog.eqGuardType Try.prog.depth 106 = false := by kernel_rfl
theorem byteSize : (Try.prog.info? 5).map (·.size) = some 1 := by kernel_rfl
set_option maxHeartbeats 400000 in
theorem geom_sealed (A : Option Addr) (c : Nat) (l : List UInt8) (w : World) (h : Bs w A 9 l) :
    Calls Try.prog 96 #[.slice A 9 c] w fun e w' => e = .returned (arrV (sgn l)) ∧ Only [] w w' := by
  have HB := Lib.hid h
  have HL := Lib.hid h.len
  clear h
  have hc := crc_lt l
  have hlen : (l ++ zer 55).length = 64 := by rw [List.length_append, HL.out, zer_length]
  have hput : ∀ (w' : World) (b : Nat), Bs w' (some ⟨b, 0, none⟩) 64 (l ++ zer 55) → Calls Try.prog 95 #[.slice (some ⟨b, 0, none⟩) 64 64, .int .i64 9, .int .i64 4, .int .u64 (crc l)] w' fun e w'' => ∃ A c, e = .returned (.tuple #[.slice A 64 c, .int .i64 0]) ∧ Bs w'' A 64 (sgn l) ∧ Only [] w' w'' := fun w' b hb => by
    have h1 := code_Put _ 64 64 (l ++ zer 55) 9 4 (crc l) w' hb (by omega) (by omega) (by omega) (by omega)
    rw [put_sgn HL.out] at h1
    refine h1.mono ?_
    rintro e w'' ⟨_, rfl, A1, c1, rfl, ho, on⟩
    rw [sgn_length HL.out] at ho ⊢
    exact ⟨A1, c1, rfl, bs_own ho, on⟩
  have HP := Lib.hid hput
  clear hput
  go_enter Try.func96, Try.ntmps96
  go_wp2_with (first
    | ((with_reducible show wpList _ _ _ (Oper.mk (some 2) _ _ _ _ _ :: _) _ _); refine wpList_alloc_arr rfl 106 rfl _ rowZero ?_; intro w1 hb1 ho1 hs1)
    | ((with_reducible show wpList _ _ _ (Oper.mk (some 3) _ _ _ _ _ :: _) _ _); refine wpList_alloc_arr rfl 106 rfl _ rowZero ?_; intro w2 hb2 ho2 hs2; rw [hs1] at hb2 hs2)
    | ((with_reducible show wpList _ _ _ (Oper.mk (some 8) _ _ _ _ _ :: _) _ _); refine wpList_copy_arr rfl (.tmp 6) (.tmp 7) 30 30 rfl 5 Try.underlying30 byteSize _ 0 64 64 A 9 c rfl rfl _ _ hb2 (by simp [zer]) l ((HB.out.only0 ho1).only0 ho2) ?_; intro w3 hb3 ho3 hs3))
  have e3 : over (zer 64) 0 (l.take 64) = l ++ zer 55 := by
    rw [List.take_of_length_le (by rw [HL.out]; omega)]
    unfold over
    rw [HL.out]
    simp [zer]
  rw [e3] at hb3
  clear e3
  have hb1' := (hb1.only ho2 (by simp)).only ho3 (by simp)
  have hbl := ((HB.out.only0 ho1).only0 ho2).only ho3 (by
    intro b off s e hb
    rw [List.mem_singleton] at hb
    subst hb
    exact absurd (Sl.lt HB.out (by omega) e) (by omega))
  have on3 := (ho1.trans0 ho2).trans ho3 (by simp)
  have B3 := hb3.bs
  rw [hlen] at B3
  have HB3 := Lib.hid B3
  have HA3 := Lib.hid hb3
  have HA1 := Lib.hid hb1'
  have HBL := Lib.hid hbl
  have HO3 := Lib.hid on3
  clear hb1 ho1 hb2 ho2 hb3 ho3 hb1' hbl on3 hlen B3
  have hw64 : IntKind.u64.wrap ((crc l : Nat) : Int) = (crc l : Int) := by rw [IntKind.wrap_u64]; omega
  go_region_with (first
    | (go_at_call 101; refine (sum_Sum A 9 c l _ (by exact HBL.out.only0 (Only.refl _ _).drew) (by decide)).mono ?_; rintro e w' ⟨rfl, rfl⟩)
    | (go_at_call 95; refine (HP.out _ _ (by exact HB3.out.only0 (Only.refl _ _).drew)).mono ?_; rintro e w4 ⟨A4, c4, rfl, b4, o4⟩))
  have o34 := (Only.refl [] w3).drew.trans0 o4
  have a4 := HA3.out.only o34 (by simp)
  have a4' := HA1.out.only o34 (by simp)
  have on4 := HO3.out.trans0 o34
  have hbs := sgn_length HL.out
  have h4s := o34.size
  have HA4 := Lib.hid a4
  have HA4' := Lib.hid a4'
  have HN4 := Lib.hid on4
  have HB4 := Lib.hid b4
  have HLS := Lib.hid hbs
  clear o34 a4 a4' on4 hbs b4 o4 hw64 HA3 HA1 HO3 HBL HB3 HP
  have X1 := HA4.out
  have X2 := HB4.out
  have hl64 : (l ++ zer 55).length = 64 := by rw [List.length_append, HL.out, zer_length]
  have X3 : 0 + 64 ≤ (l ++ zer 55).length := by omega
  have X4 : (Try.prog.info? 106).map (·.size) = some (sgn l).length := by rw [HLS.out]; exact rowSize
  have X5 : (zer 64).length = (sgn l).length := by rw [HLS.out]; simp [zer]
  have X6 := over_all (sgn l) (l ++ zer 55) 64 HLS.out hl64
  have H6 := Lib.hid X6
  have H4 := Lib.hid X4
  have H5 := Lib.hid X5
  clear X4 X5 X6 hl64
  go_wp2_with (first
    | ((with_reducible show wpList _ _ _ (Oper.mk (some 19) _ _ _ _ _ :: _) _ _); refine wpList_copy_arr rfl (.tmp 17) (.tmp 18) 30 30 rfl 5 Try.underlying30 byteSize (w.heap.size + 1) 0 64 64 A4 64 c4 rfl rfl _ _ X1 X3 (sgn l) X2 ?_; intro w5 hb5 ho5 hs5; rw [H6.out] at hb5; have Y1 := hb5.bs; have Y2 := HA4'.out.only ho5 (by simp))
    | ((with_reducible show wpList _ _ _ (Oper.mk (some 20) _ _ _ _ _ :: _) _ _); refine wpList_load_arr rfl 106 (.tmp 3) rfl (w.heap.size + 1) 0 rfl (sgn l) Y1 64 5 Try.underlying106 H4.out ?_)
    | ((with_reducible show wpList _ _ _ (Oper.mk none _ _ _ _ _ :: _) _ _); refine wpList_store_arr rfl 106 (.tmp 2) (.tmp 20) rfl w.heap.size (sgn l) rfl rfl _ (zer 64) Y2 H5.out H4.out ?_; intro w6 hb6 ho6 hs6))
  refine bodyPost_ret (v := arrV (sgn l)) (results_cell_row rfl _ _ _ _ _ _ _ rfl hb6 Try.underlying106 rfl (by rw [rowSize]; simp [HLS.out])) rfl ⟨rfl, (HN4.out.trans ho5 ?_).trans ho6 ?_⟩
  all_goals simp
end Go.Proofs.Ytfafpggppbolkaa
/- The contracts of package geom on lines, second part. -/
namespace Go.Proofs.Ytfafpggppbolkaa
open Go.RowKit Go.Proofs.FuMem Go.Proofs.FuCode Go.Proofs.FuCrc Go.Proofs.FuGeom
set_option maxRecDepth 100000
theorem nine (w : World) (g : Nat) (hg : g = w.heap.size) (a b c d e f h i j : UInt8) (xs : Array Value) (hx : xs = ([a, b, c, d, e, f, h, i, j].map B).toArray) :
    Bs (w.alloc (.cells xs 5)) (some ⟨g, 0, none⟩) 9 [a, b, c, d, e, f, h, i, j] := by
  subst hg hx
  exact Sl.of_blk (Blk.new w 5 _) 0 (by simp) (by simp)
set_option maxHeartbeats 400000 in
theorem geom_super (v : Nat) (w : World) (hv : v < 4294967296) :
    Calls Try.prog 68 #[.int .i64 v] w fun e w' => e = .returned (arrV (superL v)) ∧ Only [] w w' := by
  have hp : ∀ (w' : World) (b : Nat), Bs w' (some ⟨b, 0, none⟩) 9 [4, 70, 85, 83, 69, 0, 0, 0, 0] → Calls Try.prog 95 #[.slice (some ⟨b, 0, none⟩) 9 9, .int .i64 5, .int .i64 4, .int .u64 v] w' fun e w'' => ∃ A c, e = .returned (.tuple #[.slice A 9 c, .int .i64 0]) ∧ Bs w'' A 9 (superHead v) ∧ Only [] w' w'' := fun w' b hb => by
    have h1 := code_Put _ 9 9 _ 5 4 v w' hb (by omega) (by omega) (by omega) (by omega)
    rw [put_super v hv] at h1
    refine h1.mono ?_
    rintro e w'' ⟨_, rfl, A1, c1, rfl, ho, on⟩
    rw [superHead_length] at ho ⊢
    exact ⟨A1, c1, rfl, bs_own ho, on⟩
  have HP := Lib.hid hp
  have hL : (Try.prog.info? 106).map (·.size) = some (superL v).length := by rw [superL_length]; exact rowSize
  have hZ : (zer 64).length = (superL v).length := by rw [superL_length]; simp [zer]
  have HL := Lib.hid hL
  have HZ := Lib.hid hZ
  clear hp hL hZ
  go_enter Try.func68, Try.ntmps68
  go_wp2_with ((with_reducible show wpList _ _ _ (Oper.mk (some 2) _ _ _ _ _ :: _) _ _); refine wpList_alloc_arr rfl 106 rfl _ rowZero ?_; intro w1 hb1 ho1 hs1)
  refine (HP.out _ _ (by exact nine w1 _ (by simp [hs1]) 4 70 85 83 69 0 0 0 0 _ rfl)).mono ?_
  rintro e w2 ⟨A2, c2, rfl, b2, o2⟩
  have on1 := (Only.refl [] w1).alloc (.cells ([4, 70, 85, 83, 69, 0, 0, 0, 0].map B).toArray 5)
  have hx := hb1.only (on1.trans0 o2) (by simp)
  have HX := Lib.hid hx
  have HB := Lib.hid b2
  have HN := Lib.hid (ho1.trans0 (on1.trans0 o2))
  have hsz := (ho1.trans0 (on1.trans0 o2)).size
  clear on1 hx b2 o2 hb1 ho1
  go_wp2_with fail
  refine (geom_sealed A2 c2 (superHead v) _ HB.out).mono ?_
  rintro e w3 ⟨rfl, o3⟩
  have hx3 := HX.out.only o3 (by simp)
  have HN3 := Lib.hid (HN.out.trans0 o3)
  have hZ := HZ.out
  have hL := HL.out
  have HX3 := Lib.hid hx3
  clear o3 hx3
  go_wp2_with ((with_reducible show wpList _ _ _ (Oper.mk none _ _ _ _ _ :: _) _ _); refine wpList_store_arr rfl 106 (.tmp 2) (.tmp 13) rfl w.heap.size (superL v) rfl rfl _ (zer 64) HX3.out HZ.out HL.out ?_; intro w6 hb6 ho6 hs6)
  refine bodyPost_ret (v := arrV (superL v)) (results_cell_row rfl _ _ _ _ _ _ _ rfl hb6 Try.underlying106 rfl (by rw [rowSize]; simp [superL_length])) rfl ⟨rfl, HN3.out.trans ho6 ?_⟩
  simp
set_option maxHeartbeats 400000 in
theorem geom_clock (v : Nat) (w : World) (hv : v < 18446744073709551616) :
    Calls Try.prog 69 #[.int .u64 v] w fun e w' => e = .returned (arrV (clockL v)) ∧ Only [] w w' := by
  have hp : ∀ (w' : World) (b : Nat), Bs w' (some ⟨b, 0, none⟩) 9 [3, 0, 0, 0, 0, 0, 0, 0, 0] → Calls Try.prog 95 #[.slice (some ⟨b, 0, none⟩) 9 9, .int .i64 1, .int .i64 8, .int .u64 v] w' fun e w'' => ∃ A c, e = .returned (.tuple #[.slice A 9 c, .int .i64 0]) ∧ Bs w'' A 9 (clockHead v) ∧ Only [] w' w'' := fun w' b hb => by
    have h1 := code_Put _ 9 9 _ 1 8 v w' hb (by omega) (by omega) (by omega) (by omega)
    rw [put_clock v hv] at h1
    refine h1.mono ?_
    rintro e w'' ⟨_, rfl, A1, c1, rfl, ho, on⟩
    rw [clockHead_length] at ho ⊢
    exact ⟨A1, c1, rfl, bs_own ho, on⟩
  have HP := Lib.hid hp
  have hL : (Try.prog.info? 106).map (·.size) = some (clockL v).length := by rw [clockL_length]; exact rowSize
  have hZ : (zer 64).length = (clockL v).length := by rw [clockL_length]; simp [zer]
  have HL := Lib.hid hL
  have HZ := Lib.hid hZ
  clear hp hL hZ
  go_enter Try.func69, Try.ntmps69
  go_wp2_with ((with_reducible show wpList _ _ _ (Oper.mk (some 2) _ _ _ _ _ :: _) _ _); refine wpList_alloc_arr rfl 106 rfl _ rowZero ?_; intro w1 hb1 ho1 hs1)
  refine (HP.out _ _ (by exact nine w1 _ (by simp [hs1]) 3 0 0 0 0 0 0 0 0 _ rfl)).mono ?_
  rintro e w2 ⟨A2, c2, rfl, b2, o2⟩
  have on1 := (Only.refl [] w1).alloc (.cells ([3, 0, 0, 0, 0, 0, 0, 0, 0].map B).toArray 5)
  have hx := hb1.only (on1.trans0 o2) (by simp)
  have HX := Lib.hid hx
  have HB := Lib.hid b2
  have HN := Lib.hid (ho1.trans0 (on1.trans0 o2))
  have hsz := (ho1.trans0 (on1.trans0 o2)).size
  clear on1 hx b2 o2 hb1 ho1
  go_wp2_with fail
  refine (geom_sealed A2 c2 (clockHead v) _ HB.out).mono ?_
  rintro e w3 ⟨rfl, o3⟩
  have hx3 := HX.out.only o3 (by simp)
  have HN3 := Lib.hid (HN.out.trans0 o3)
  have hZ := HZ.out
  have hL := HL.out
  have HX3 := Lib.hid hx3
  clear o3 hx3
  go_wp2_with ((with_reducible show wpList _ _ _ (Oper.mk none _ _ _ _ _ :: _) _ _); refine wpList_store_arr rfl 106 (.tmp 2) (.tmp 12) rfl w.heap.size (clockL v) rfl rfl _ (zer 64) HX3.out HZ.out HL.out ?_; intro w6 hb6 ho6 hs6)
  refine bodyPost_ret (v := arrV (clockL v)) (results_cell_row rfl _ _ _ _ _ _ _ rfl hb6 Try.underlying106 rfl (by rw [rowSize]; simp [clockL_length])) rfl ⟨rfl, HN3.out.trans ho6 ?_⟩
  simp
end Go.Proofs.Ytfafpggppbolkaa
/- The contracts of package geom on lines, third part: what is told of bytes. -/
namespace Go.Proofs.Ytfafpggppbolkaa
open Go.RowKit Go.Proofs.FuMem Go.Proofs.FuCode Go.Proofs.FuCrc Go.Proofs.FuGeom
set_option maxRecDepth 100000
theorem geom_whole_no (A : Option Addr) (n c : Nat) (w : World) (_hn : n ≤ maxLen) (h64 : n ≠ 64) :
    Calls Try.prog 66 #[.slice A n c] w fun e w' => e = .returned (.tuple #[arrV (zer 64), .bool false]) ∧ Only [] w w' := by
  have d1 : ((n : Int) != 64) = true := by rw [bne_iff_ne]; omega
  have hL : (Try.prog.info? 106).map (·.size) = some (zer 64).length := by rw [zer_length]; exact rowSize
  obtain ⟨i0, hi, hz0, hz1, hz2⟩ := info_parts Try.byteInfo
  have HL := Lib.hid hL
  have HI := Lib.hid hi
  clear hL hi hz0 hz1 hz2 h64
  go_enter Try.func66, Try.ntmps66
  go_wp2_with (first
    | ((with_reducible show wpList _ _ _ (Oper.mk (some 2) _ _ _ _ _ :: _) _ _); refine wpList_alloc_arr rfl 106 rfl _ rowZero ?_; intro w1 hb1 ho1 hs1)
    | ((with_reducible show wpList _ _ _ (Oper.mk (some 7) _ _ _ _ _ :: _) _ _); refine wpList_build_zero rfl 106 rfl (zer 64) rowZero 64 5 Try.underlying106 i0 HI.out ?_)
    | ((with_reducible show wpList _ _ _ (Oper.mk none _ _ _ _ _ :: _) _ _); refine wpList_store_arr rfl 106 (.tmp 2) (.tmp 7) rfl w.heap.size (zer 64) rfl rfl _ (zer 64) hb1 rfl HL.out ?_; intro w6 hb6 ho6 hs6))
  refine bodyPost_ret (results_arr_tmp rfl _ _ _ _ hb6 rfl 64 5 Try.underlying106 HL.out) rfl ⟨rfl, ho1.trans ho6 ?_⟩
  simp
theorem geom_whole_yes (b off c : Nat) (l : List UInt8) (w : World) (h : Bs w (some ⟨b, off, none⟩) 64 l) :
    Calls Try.prog 66 #[.slice (some ⟨b, off, none⟩) 64 c] w fun e w' => e = .returned (.tuple #[arrV l, .bool true]) ∧ Only [] w w' := by
  have hl := h.len
  have hL : (Try.prog.info? 106).map (·.size) = some l.length := by rw [hl]; exact rowSize
  have hZ : (zer 64).length = l.length := by rw [hl]; simp [zer]
  have h' := h
  rw [← hl] at h'
  have HX := Lib.hid h'
  have HL := Lib.hid hL
  have HZ := Lib.hid hZ
  have harr : ∀ w, (Instr.arrayAt 106 (.slice (some ⟨b, off, none⟩) 64 c)).run Try.prog w = .ok (.pointer (some ⟨b, off, none⟩)) w := fun w => by simp [Instr.arrayAt, run_underlying Try.underlying106]
  clear h h' hl hL hZ
  go_enter Try.func66, Try.ntmps66
  go_wp2_with (first
    | ((with_reducible show wpList _ _ _ (Oper.mk (some 2) _ _ _ _ _ :: _) _ _); refine wpList_alloc_arr rfl 106 rfl _ rowZero ?_; intro w1 hb1 ho1 hs1; have hx := HX.out.only0 ho1)
    | ((with_reducible show wpList _ _ _ (Oper.mk (some 10) _ _ _ _ _ :: _) _ _); refine wpList_load_arr rfl 106 (.tmp 9) rfl b off rfl l hx 64 5 Try.underlying106 HL.out ?_)
    | ((with_reducible show wpList _ _ _ (Oper.mk none _ _ _ _ _ :: _) _ _); refine wpList_store_arr rfl 106 (.tmp 2) (.tmp 10) rfl w.heap.size l rfl rfl _ (zer 64) hb1 HZ.out HL.out ?_; intro w6 hb6 ho6 hs6))
  refine bodyPost_ret (results_arr_tmp rfl _ _ _ _ hb6 rfl 64 5 Try.underlying106 HL.out) rfl ⟨rfl, ho1.trans ho6 ?_⟩
  simp
theorem geom_Clock (v : Nat) (w : World) (hv : v < 18446744073709551616) :
    Calls Try.prog 46 #[.int .u64 v] w fun e w' => ∃ g, e = .returned (.slice (some ⟨g, 0, none⟩) 64 64) ∧ Arr w' g 106 (clockL v) ∧ w.heap.size ≤ g ∧ Only [] w w' := by
  have hL : (Try.prog.info? 106).map (·.size) = some (clockL v).length := by rw [clockL_length]; exact rowSize
  have hZ : (zer 64).length = (clockL v).length := by rw [clockL_length]; simp [zer]
  have HL := Lib.hid hL
  have HZ := Lib.hid hZ
  clear hL hZ
  go_enter Try.func46, Try.ntmps46
  go_wp2_with fail
  refine (geom_clock v _ hv).mono ?_
  rintro e w1 ⟨rfl, o1⟩
  have h1 := o1.size
  go_wp2_with (first
    | ((with_reducible show wpList _ _ _ (Oper.mk (some 3) _ _ _ _ _ :: _) _ _); refine wpList_alloc_arr rfl 106 rfl _ rowZero ?_; intro w2 hb2 ho2 hs2)
    | ((with_reducible show wpList _ _ _ (Oper.mk none _ _ _ _ _ :: _) _ _); refine wpList_store_arr rfl 106 (.tmp 3) (.tmp 5) rfl w1.heap.size (clockL v) rfl rfl _ (zer 64) hb2 HZ.out HL.out ?_; intro w6 hb6 ho6 hs6))
  go_ret
  exact ⟨w1.heap.size, rfl, hb6, h1, (o1.trans0 ho2).trans ho6 (by simpa using h1)⟩
theorem geom_Super_no (n : Int) (w : World) (h : -9223372036854775808 ≤ n ∧ n ≤ 9223372036854775807) (hn : n < 10 ∨ 258 < n) :
    Calls Try.prog 44 #[.int .i64 n] w fun e w' => e = .returned (.tuple #[.slice none 0 0, .int .i64 2]) ∧ w = w' := by
  by_cases h1 : n < 10
  · clear hn
    go_enter Try.func44, Try.ntmps44
    go_wp2
    go_ret2
    exact ⟨rfl, rfl⟩
  · have h2 : 258 < n := by omega
    clear hn
    go_enter Try.func44, Try.ntmps44
    go_wp2
    go_ret2
    exact ⟨rfl, rfl⟩
theorem geom_Super (v : Nat) (w : World) (h1 : 10 ≤ v) (h2 : v ≤ 258) :
    Calls Try.prog 44 #[.int .i64 v] w fun e w' => ∃ g, e = .returned (.tuple #[.slice (some ⟨g, 0, none⟩) 64 64, .int .i64 0]) ∧ Arr w' g 106 (superL v) ∧ w.heap.size ≤ g ∧ Only [] w w' := by
  have hL : (Try.prog.info? 106).map (·.size) = some (superL v).length := by rw [superL_length]; exact rowSize
  have hZ : (zer 64).length = (superL v).length := by rw [superL_length]; simp [zer]
  have HL := Lib.hid hL
  have HZ := Lib.hid hZ
  clear hL hZ
  go_enter Try.func44, Try.ntmps44
  go_wp2_with fail
  refine (geom_super v _ (by omega)).mono ?_
  rintro e w1 ⟨rfl, o1⟩
  have h1 := o1.size
  go_wp2_with (first
    | ((with_reducible show wpList _ _ _ (Oper.mk (some 4) _ _ _ _ _ :: _) _ _); refine wpList_alloc_arr rfl 106 rfl _ rowZero ?_; intro w2 hb2 ho2 hs2)
    | ((with_reducible show wpList _ _ _ (Oper.mk none _ _ _ _ _ :: _) _ _); refine wpList_store_arr rfl 106 (.tmp 4) (.tmp 12) rfl w1.heap.size (superL v) rfl rfl _ (zer 64) hb2 HZ.out HL.out ?_; intro w6 hb6 ho6 hs6))
  go_ret2
  exact ⟨w1.heap.size, rfl, hb6, h1, (o1.trans0 ho2).trans ho6 (by simpa using h1)⟩
theorem geom_Slabs_no (n : Int) (w : World) (h : n < 10) :
    Calls Try.prog 38 #[.int .i64 n] w fun e w' => e = .returned (.int .i64 0) ∧ w = w' := by
  go_enter Try.func38, Try.ntmps38
  go_wp2
  go_ret
  exact ⟨rfl, rfl⟩
end Go.Proofs.Ytfafpggppbolkaa
/- The contracts of geom.IsClock, geom.IsSuper. -/
namespace Go.Proofs.Ytfafpggppbolkaa
open Go.RowKit Go.Proofs.FuMem Go.Proofs.FuCode Go.Proofs.FuCrc Go.Proofs.FuGeom
set_option maxRecDepth 100000
theorem neq_row (l k : List UInt8) (hl : l.length = 64) (hk : k.length = 64) (w : World) : (binOp .neq 106 (arrV l) (arrV k)).run Try.prog w = .ok (.bool (l != k)) w := by
  obtain ⟨i0, hi, hz0, hz1, hz2⟩ := info_parts Try.byteInfo
  exact run_neq_arr Try.underlying106 Try.underlying5 i0 hi hz1 l k hl hk w
theorem geom_IsClock_no (A : Option Addr) (n c : Nat) (w : World) (hn : n ≤ maxLen) (h64 : n ≠ 64) :
    Calls Try.prog 32 #[.slice A n c] w fun e w' => e = .returned (.tuple #[.int .u64 0, .bool false]) ∧ Only [] w w' := by
  have hL : (Try.prog.info? 106).map (·.size) = some (zer 64).length := by rw [zer_length]; exact rowSize
  have HL := Lib.hid hL
  have HW := Lib.hid (geom_whole_no A n c w hn h64)
  clear hL h64
  go_enter Try.func32, Try.ntmps32
  go_wp2_with fail
  refine (HW.out).mono ?_
  rintro e w1 ⟨rfl, o1⟩
  have h1 := o1.size
  go_wp2_with (first
    | ((with_reducible show wpList _ _ _ (Oper.mk (some 4) _ _ _ _ _ :: _) _ _); refine wpList_alloc_arr rfl 106 rfl _ rowZero ?_; intro w2 hb2 ho2 hs2)
    | ((with_reducible show wpList _ _ _ (Oper.mk none _ _ _ _ _ :: _) _ _); refine wpList_store_arr rfl 106 (.tmp 4) (.tmp 11) rfl w1.heap.size (zer 64) rfl rfl _ (zer 64) hb2 rfl HL.out ?_; intro w6 hb6 ho6 hs6))
  go_ret2
  exact ⟨rfl, (o1.trans0 ho2).trans ho6 (by simpa using h1)⟩
set_option maxHeartbeats 400000 in
theorem geom_IsClock_yes (b off c : Nat) (l : List UInt8) (w : World) (h : Bs w (some ⟨b, off, none⟩) 64 l) :
    Calls Try.prog 32 #[.slice (some ⟨b, off, none⟩) 64 c] w fun e w' => e = .returned (.tuple #[.int .u64 (isClock l).1, .bool (isClock l).2]) ∧ Only [] w w' := by
  have hl := h.len
  have hv := clockNum_lt l
  have hL : (Try.prog.info? 106).map (·.size) = some l.length := by rw [hl]; exact rowSize
  have hZ : (zer 64).length = l.length := by rw [hl]; simp [zer]
  have HW := Lib.hid (geom_whole_yes b off c l w h)
  have hget : ∀ w', Bs w' (some ⟨b, off, none⟩) 64 l → Calls Try.prog 67 #[.slice (some ⟨b, off, none⟩) 64 c, .int .i64 1, .int .i64 8] w' fun e w'' => e = .returned (.tuple #[.int .u64 (clockNum l), .int .i64 0]) ∧ w' = w'' := fun w' hb => by
    have := code_Get (some ⟨b, off, none⟩) 64 c l 1 8 w' hb (by omega) (by omega) (by omega)
    unfold cget at this
    rw [hl, show wrong 64 1 8 = 0 by decide, if_neg (by omega)] at this
    exact this
  have hk := clockL_length (clockNum l)
  have hcl := fun w => geom_clock (clockNum l) w hv
  have hres : isClock l = if l = clockL (clockNum l) then (clockNum l, true) else (0, false) := by
    unfold isClock
    simp [hl]
  rw [hres]
  generalize clockNum l = v at *
  generalize clockL v = k at *
  have hq := neq_row l k hl hk
  have hg := fun (x y : Operand) (w : World) => eqGuard_arr (P := Try.prog) rowGuard .neq x y l k w
  have HL := Lib.hid hL
  have HZ := Lib.hid hZ
  have HX := Lib.hid h
  have HG := Lib.hid hget
  have HC := Lib.hid hcl
  have HQ := Lib.hid hq
  have HE := Lib.hid hg
  have HLL := Lib.hid hl
  clear hL hZ h hget hcl hq hg hl hk hres
  have core : ∀ t : Bool, (∀ w, (binOp .neq 106 (arrV l) (arrV k)).run Try.prog w = .ok (.bool t) w) →
      Calls Try.prog 32 #[.slice (some ⟨b, off, none⟩) 64 c] w fun e w' => e = .returned (.tuple #[.int .u64 (if t = true then 0 else (v : Int)), .bool (!t)]) ∧ Only [] w w' := by
    intro t hq
    have HQT := Lib.hid hq
    clear hq
    cases t
    all_goals
      go_enter Try.func32, Try.ntmps32
      go_wp2_with fail
      refine (HW.out).mono ?_
      rintro e w1 ⟨rfl, o1⟩
      have h1 := o1.size
      go_wp2_with (first
        | ((with_reducible show wpList _ _ _ (Oper.mk (some 4) _ _ _ _ _ :: _) _ _); refine wpList_alloc_arr rfl 106 rfl _ rowZero ?_; intro w2 hb2 ho2 hs2)
        | ((with_reducible show wpList _ _ _ (Oper.mk none _ _ _ _ _ :: _) _ _); refine wpList_store_arr rfl 106 (.tmp 4) (.tmp 11) rfl w1.heap.size l rfl rfl _ (zer 64) hb2 HZ.out HL.out ?_; intro w3 hb3 ho3 hs3))
      have on3 : Only [] w w3 := (o1.trans0 ho2).trans ho3 (by simpa using h1)
      have hB3 := hb3.bs
      have hx3 := HX.out.only0 on3
      have HX3 := Lib.hid hx3
      have HN3 := Lib.hid on3
      have HB3 := Lib.hid hB3
      clear on3 hB3 hx3 hb3 ho3 ho2 hb2 o1
      refine (HG.out _ HX3.out).mono ?_
      rintro e w' ⟨rfl, rfl⟩
      go_wp2
      have hqt := HQT.out
      have hge := HE.out
      refine wp_region_later w3 (by kernel_rfl) (by kernel_rfl) ?_
      refine later_load rfl 106 (.tmp 4) rfl w1.heap.size 0 rfl l HB3.out 64 5 Try.underlying106 HL.out ?_
      repeat (quiet_step (fail))
      quiet_step (exact Calls.later (HC.out _))
      repeat (quiet_step (fail))
      refine wpQuiet_nil ?_
      intro _ hw'
      obtain ⟨p, hw''⟩ := hw'
      subst hw''
      clear hqt hge
      have HP := Lib.hid (HN3.out.trans0 p.only)
      go_wp2
      go_ret2
      exact ⟨rfl, HP.out⟩
  by_cases hlk : l = k
  · have := core false (fun w => by rw [HQ.out w]; simp [hlk])
    rw [if_pos hlk]
    exact this
  · have := core true (fun w => by rw [HQ.out w]; simp [hlk])
    rw [if_neg hlk]
    exact this
theorem geom_IsSuper_no (A : Option Addr) (n c : Nat) (w : World) (hn : n ≤ maxLen) (h64 : n ≠ 64) :
    Calls Try.prog 30 #[.slice A n c] w fun e w' => e = .returned (.tuple #[.int .i64 0, .bool false]) ∧ Only [] w w' := by
  have hL : (Try.prog.info? 106).map (·.size) = some (zer 64).length := by rw [zer_length]; exact rowSize
  have HL := Lib.hid hL
  have HW := Lib.hid (geom_whole_no A n c w hn h64)
  clear hL h64
  go_enter Try.func30, Try.ntmps30
  go_wp2_with fail
  refine (HW.out).mono ?_
  rintro e w1 ⟨rfl, o1⟩
  have h1 := o1.size
  go_wp2_with (first
    | ((with_reducible show wpList _ _ _ (Oper.mk (some 4) _ _ _ _ _ :: _) _ _); refine wpList_alloc_arr rfl 106 rfl _ rowZero ?_; intro w2 hb2 ho2 hs2)
    | ((with_reducible show wpList _ _ _ (Oper.mk none _ _ _ _ _ :: _) _ _); refine wpList_store_arr rfl 106 (.tmp 4) (.tmp 11) rfl w1.heap.size (zer 64) rfl rfl _ (zer 64) hb2 rfl HL.out ?_; intro w6 hb6 ho6 hs6))
  go_ret2
  exact ⟨rfl, (o1.trans0 ho2).trans ho6 (by simpa using h1)⟩
set_option maxHeartbeats 400000 in
theorem geom_IsSuper_yes (b off c : Nat) (l : List UInt8) (w : World) (h : Bs w (some ⟨b, off, none⟩) 64 l) :
    Calls Try.prog 30 #[.slice (some ⟨b, off, none⟩) 64 c] w fun e w' => e = .returned (.tuple #[.int .i64 (isSuper l).1, .bool (isSuper l).2]) ∧ Only [] w w' := by
  have hl := h.len
  have hv := superNum_lt l
  have hL : (Try.prog.info? 106).map (·.size) = some l.length := by rw [hl]; exact rowSize
  have hZ : (zer 64).length = l.length := by rw [hl]; simp [zer]
  have HW := Lib.hid (geom_whole_yes b off c l w h)
  have hget : ∀ w', Bs w' (some ⟨b, off, none⟩) 64 l → Calls Try.prog 67 #[.slice (some ⟨b, off, none⟩) 64 c, .int .i64 5, .int .i64 4] w' fun e w'' => e = .returned (.tuple #[.int .u64 (superNum l), .int .i64 0]) ∧ w' = w'' := fun w' hb => by
    have := code_Get (some ⟨b, off, none⟩) 64 c l 5 4 w' hb (by omega) (by omega) (by omega)
    unfold cget at this
    rw [hl, show wrong 64 5 4 = 0 by decide, if_neg (by omega)] at this
    exact this
  have hk := superL_length (superNum l)
  have hcl := fun w => geom_super (superNum l) w hv
  have hres : isSuper l = if 10 ≤ superNum l ∧ superNum l ≤ 258 ∧ l = superL (superNum l) then (superNum l, true) else (0, false) := by
    unfold isSuper
    simp [hl]
  rw [hres]
  generalize superNum l = v at *
  generalize superL v = k at *
  have hq := neq_row l k hl hk
  have hg := fun (x y : Operand) (w : World) => eqGuard_arr (P := Try.prog) rowGuard .neq x y l k w
  have HL := Lib.hid hL
  have HZ := Lib.hid hZ
  have HX := Lib.hid h
  have HG := Lib.hid hget
  have HC := Lib.hid hcl
  have HQ := Lib.hid hq
  have HE := Lib.hid hg
  have HLL := Lib.hid hl
  clear hL hZ h hget hcl hq hg hl hk hres
  by_cases hout : v < 10 ∨ 258 < v
  · rw [if_neg (by omega)]
    by_cases hlo : v < 10
    all_goals
      try have hhi : 258 < v := by omega
      first | (have d1 : decide ((v : Int) < 10) = true := by simp; omega) | (have d1 : decide ((v : Int) < 10) = false := by simp; omega)
      try have d2 : decide ((258 : Int) < (v : Int)) = true := by simp; omega
      clear hout
      go_enter Try.func30, Try.ntmps30
      go_wp2_with fail
      refine (HW.out).mono ?_
      rintro e w1 ⟨rfl, o1⟩
      have h1 := o1.size
      go_wp2_with (first
        | ((with_reducible show wpList _ _ _ (Oper.mk (some 4) _ _ _ _ _ :: _) _ _); refine wpList_alloc_arr rfl 106 rfl _ rowZero ?_; intro w2 hb2 ho2 hs2)
        | ((with_reducible show wpList _ _ _ (Oper.mk none _ _ _ _ _ :: _) _ _); refine wpList_store_arr rfl 106 (.tmp 4) (.tmp 11) rfl w1.heap.size l rfl rfl _ (zer 64) hb2 HZ.out HL.out ?_; intro w3 hb3 ho3 hs3))
      have on3 : Only [] w w3 := (o1.trans0 ho2).trans ho3 (by simpa using h1)
      have hx3 := HX.out.only0 on3
      have HX3 := Lib.hid hx3
      have HN3 := Lib.hid on3
      clear on3 hx3 hb3 ho3 ho2 hb2 o1
      refine (HG.out _ HX3.out).mono ?_
      rintro e w' ⟨rfl, rfl⟩
      go_wp2
      go_quiet (fail)
      go_wp2
      go_ret2
      exact ⟨rfl, HN3.out.drewN _⟩
  · have core : ∀ t : Bool, (∀ w, (binOp .neq 106 (arrV l) (arrV k)).run Try.prog w = .ok (.bool t) w) →
        Calls Try.prog 30 #[.slice (some ⟨b, off, none⟩) 64 c] w fun e w' => e = .returned (.tuple #[.int .i64 (if t = true then 0 else (v : Int)), .bool (!t)]) ∧ Only [] w w' := by
      intro t hq
      have HQT := Lib.hid hq
      have d1 : decide ((v : Int) < 10) = false := by simp; omega
      have d2 : decide ((258 : Int) < (v : Int)) = false := by simp; omega
      have hn1 : ¬ v < 10 := by omega
      have hn2 : ¬ 258 < v := by omega
      have hw : IntKind.i64.wrap (v : Int) = (v : Int) := by rw [IntKind.wrap_i64]; omega
      clear hq hout
      cases t
      all_goals
        go_enter Try.func30, Try.ntmps30
        go_wp2_with fail
        refine (HW.out).mono ?_
        rintro e w1 ⟨rfl, o1⟩
        have h1 := o1.size
        go_wp2_with (first
          | ((with_reducible show wpList _ _ _ (Oper.mk (some 4) _ _ _ _ _ :: _) _ _); refine wpList_alloc_arr rfl 106 rfl _ rowZero ?_; intro w2 hb2 ho2 hs2)
          | ((with_reducible show wpList _ _ _ (Oper.mk none _ _ _ _ _ :: _) _ _); refine wpList_store_arr rfl 106 (.tmp 4) (.tmp 11) rfl w1.heap.size l rfl rfl _ (zer 64) hb2 HZ.out HL.out ?_; intro w3 hb3 ho3 hs3))
        have on3 : Only [] w w3 := (o1.trans0 ho2).trans ho3 (by simpa using h1)
        have hB3 := hb3.bs
        have hx3 := HX.out.only0 on3
        have HX3 := Lib.hid hx3
        have HN3 := Lib.hid on3
        have HB3 := Lib.hid hB3
        clear on3 hB3 hx3 hb3 ho3 ho2 hb2 o1
        refine (HG.out _ HX3.out).mono ?_
        rintro e w' ⟨rfl, rfl⟩
        go_wp2
        have hqt := HQT.out
        have hge := HE.out
        refine wp_region_later w3 (by kernel_rfl) (by kernel_rfl) ?_
        iterate 7 (quiet_step (fail))
        refine later_load ?_ 106 (.tmp 4) rfl w1.heap.size 0 rfl l HB3.out 64 5 Try.underlying106 HL.out ?_
        · rfl
        repeat (quiet_step (fail))
        quiet_step (exact Calls.later (HC.out _))
        repeat (quiet_step (fail))
        refine wpQuiet_nil ?_
        intro _ hw'
        obtain ⟨p, hw''⟩ := hw'
        subst hw''
        clear hqt hge
        have HP := Lib.hid (HN3.out.trans0 p.only)
        go_wp2
        go_ret2
        exact ⟨rfl, HP.out⟩
    by_cases hlk : l = k
    · have := core false (fun w => by rw [HQ.out w]; simp [hlk])
      rw [if_pos ⟨by omega, by omega, hlk⟩]
      exact this
    · have := core true (fun w => by rw [HQ.out w]; simp [hlk])
      rw [if_neg (fun h => hlk h.2.2)]
      exact this
end Go.Proofs.Ytfafpggppbolkaa
/- The walks of the statements on sum. -/
namespace Go.Proofs.Ytfafpggppbolkaa
open Go.RowKit Go.Proofs.FuCrc Go.Proofs.FuMem
set_option maxRecDepth 100000
theorem ref1_Sum (A : Option Addr) (n cap : Nat) (l : List UInt8) (w : World) (hb : Bs w A n l) (hn : n ≤ maxLen) :
    Calls Try.prog 98 #[.slice A n cap] w fun e w' => e = .returned (.int .u32 (crc l)) ∧ w = w' := by
  have h1 := run_str (P := Try.prog) Try.underlying30 Try.underlying5 Try.underlying9 hb cap
  have hs : (ByteArray.mk l.toArray).size ≤ maxLen := by rw [show (ByteArray.mk l.toArray).size = l.length from rfl, hb.len]; exact hn
  clear hb
  go_enter Try.func98, Try.ntmps98
  go_wp2_with (go_at_call 102; refine (ref1_Text _ _ hs).mono ?_; rintro e w' ⟨rfl, rfl⟩)
  go_ret
  exact ⟨rfl, rfl⟩
theorem crc_digits : crc [49, 50, 51, 52, 53, 54, 55, 56, 57] = 3421780262 := by decide +kernel
end Go.Proofs.Ytfafpggppbolkaa
/- The contracts of the reference of chapter 4 on lines; of Slabs on both sides. -/
namespace Go.Proofs.Ytfafpggppbolkaa
open Go.RowKit Go.Proofs.FuMem Go.Proofs.FuCode Go.Proofs.FuCrc Go.Proofs.FuGeom
set_option maxRecDepth 100000
def slabsOf (n : Int) : Int := if n < 10 then 0 else if 258 < n then 32 else (n - 2) / 8
theorem slabsOf_mid {n : Int} (h1 : 10 ≤ n) (h2 : n ≤ 258) : slabsOf n = (n - 2) / 8 := by unfold slabsOf; rw [if_neg (by omega), if_neg (by omega)]
theorem slabsOf_hi {n : Int} (h1 : 258 ≤ n) : slabsOf n = 32 := by unfold slabsOf; split; omega; split <;> omega
theorem geom_Slabs (n : Int) (w : World) :
    Calls Try.prog 38 #[.int .i64 n] w fun e w' => e = .returned (.int .i64 (slabsOf n)) ∧ w = w' := by
  by_cases h1 : n < 10
  · rw [show slabsOf n = 0 from if_pos h1]
    exact geom_Slabs_no n w h1
  · by_cases h2 : n < 258
    · rw [slabsOf_mid (by omega) (by omega)]
      have h3 : n ≤ 258 := by omega
      go_enter Try.func38, Try.ntmps38
      go_wp2
      go_ret
      exact ⟨ret_int (by omega), rfl⟩
    · rw [slabsOf_hi (by omega)]
      have h3 : 258 ≤ n := by omega
      clear h2
      go_enter Try.func38, Try.ntmps38
      go_wp2
      · go_ret
        exact ⟨ret_int (by omega), rfl⟩
      · go_ret
        exact ⟨ret_int (by omega), rfl⟩
theorem ref4_Slabs (n : Int) (w : World) :
    Calls Try.prog 39 #[.int .i64 n] w fun e w' => e = .returned (.int .i64 (slabsOf n)) ∧ w = w' := by
  go_enter Try.func39, Try.ntmps39
  go_wp2
  go_loop [3] (fun i => ∃ k : Nat, k ≤ 32 ∧ i = .int .i64 k ∧ (k = 0 ∨ 2 + 8 * (k : Int) ≤ n)) (fun i => 32 - (intOf i).toNat)
  case atStart => exact ⟨0, by omega, rfl, .inl rfl⟩
  case round =>
    obtain ⟨k, hk, rfl, hn⟩ := hrel
    have HN := Lib.hid hn
    clear hn
    by_cases hlt : k < 32
    · by_cases hle : 2 + 8 * ((k : Int) + 1) ≤ n
      · go_wp2
        go_round
        case rel => exact ⟨k + 1, by omega, by go_num, .inr (by omega)⟩
        case measure => simp [intOf]; omega
      · have hr : slabsOf n = k := by
          have := HN.out
          unfold slabsOf
          split
          · omega
          · split <;> omega
        have HR := Lib.hid hr
        clear hr
        go_wp2
        go_ret
        exact ⟨ret_int HR.out.symm, rfl⟩
    · obtain rfl : k = 32 := by omega
      have hr : slabsOf n = 32 := slabsOf_hi (by have := HN.out; omega)
      have HR := Lib.hid hr
      clear hr
      go_wp2
      go_ret
      exact ⟨ret_int HR.out.symm, rfl⟩
def padTo (h : List UInt8) (j : Nat) : List UInt8 := h ++ lay 4 (crc h) ++ zer (j - 13)
theorem padTo_length {h : List UInt8} (hl : h.length = 9) (j : Nat) (hj : 13 ≤ j) : (padTo h j).length = j := by simp [padTo, hl, lay_length, zer_length]; omega
theorem padTo_13 (h : List UInt8) : padTo h 13 = h ++ lay 4 (crc h) := by simp [padTo, zer]
theorem padTo_64 (h : List UInt8) : padTo h 64 = sgn h := rfl
theorem padTo_succ (h : List UInt8) (j : Nat) (hj : 13 ≤ j) : (padTo h j).map B ++ [Value.int .u8 0] = (padTo h (j + 1)).map B := by
  unfold padTo
  rw [show j + 1 - 13 = (j - 13) + 1 by omega]
  simp [zer, List.replicate_succ', B]
theorem ref4_whole {w0 : World} (A : Option Addr) (c : Nat) (l : List UInt8) (w : World) (h : w.ownsRow w0.heap.size 5 1 (.slice A 9 c) 9 (l.map B)) (on : Only [] w0 w) :
    Calls Try.prog 75 #[.slice A 9 c] w fun e w' => ∃ A' c', e = .returned (.slice A' 64 c') ∧ w'.ownsRow w0.heap.size 5 1 (.slice A' 64 c') 64 ((sgn l).map B) ∧ Only [] w0 w' := by
  have hl : l.length = 9 := by simpa using h.1
  have hc := crc_lt l
  have hs := ref1_Sum A 9 c l w (bs_own h) (by decide)
  have hlay := fun w => ref2_Lay 4 (crc l) w (by omega) (by omega)
  obtain ⟨i0, hi, hz0, hz1, hz2⟩ := info_parts Try.byteInfo
  have HI := Lib.hid hi
  have HZ0 := Lib.hid hz0
  have HZ1 := Lib.hid hz1
  have HZ2 := Lib.hid hz2
  have HO := Lib.hid h
  have HN := Lib.hid on
  have HL := Lib.hid hl
  have HS := Lib.hid hs
  have HY := Lib.hid hlay
  clear h on hl hs hlay hi hz0 hz1 hz2
  go_enter Try.func75, Try.ntmps75
  go_wp2_with fail
  refine (HS.out).mono ?_
  rintro e w' ⟨rfl, rfl⟩
  go_wp2_with fail
  refine (HY.out _).mono ?_
  rintro e w1 ⟨_, rfl, A1, c1, rfl, m1, o1⟩
  rw [lay_length] at m1 ⊢
  have hown := own_only HO.out o1 (by simp)
  have hon := HN.out.trans0 o1
  obtain ⟨A2, c2, w2, hr, ho2, hs2, on2⟩ := append_own (P := Try.prog) w1 hon 30 30 5 i0 _ 1 Try.underlying30 HI.out HZ0.out HZ1.out HZ2.out rfl _ 9 _ hown A1 4 c1 _ (Sl.of_own m1) one_B (by unfold maxLen; omega) (by omega)
  rw [← List.map_append, ← padTo_13] at ho2
  have H2 := Lib.hid ho2
  have N2 := Lib.hid on2
  clear hown hon ho2 hs2 on2 m1 o1
  go_wp2_with (at_builtin; refine wpList_append_run _ rfl (.tmp 3) (.tmp 7) 30 rfl _ _ rfl rfl _ _ hr ?_)
  go_loopw [0] (fun b wr => ∃ (j : Nat) (A : Option Addr) (c : Nat), 13 ≤ j ∧ j ≤ 64 ∧ b = .slice A j c ∧ wr.ownsRow w0.heap.size 5 1 (.slice A j c) j ((padTo l j).map B) ∧ Only [] w0 wr) (fun b _ => 64 - (match b with | .slice _ n _ => n | _ => 0))
  case atStart => exact ⟨13, A2, c2, by omega, by omega, rfl, H2.out, N2.out⟩
  case round =>
    obtain ⟨j, A3, c3, hj1, hj2, rfl, ho, on⟩ := hrel
    by_cases hlt : j < 64
    · obtain ⟨A4, c4, w4, hr4, ho4, hs4, on4⟩ := append_own (P := Try.prog) (wr.alloc (.cells #[.int .u8 0] 5)) (on.alloc _) 30 30 5 i0 _ 1 Try.underlying30 HI.out HZ0.out HZ1.out HZ2.out rfl _ j _ (ho.alloc _) (some ⟨wr.heap.size, 0, none⟩) 1 1 [.int .u8 0] (cell_new1 _ _ _) (ints_new1 _ _) (by unfold maxLen; omega) (by omega)
      rw [padTo_succ l j hj1] at ho4
      have H4 := Lib.hid ho4
      have N4 := Lib.hid on4
      clear ho on ho4 hs4 on4 hr
      go_wp2_with (at_builtin; refine wpList_append_run _ rfl (.tmp 12) (.tmp 13) 30 rfl _ _ rfl rfl _ _ hr4 ?_)
      go_roundw
      case rel => exact ⟨j + 1, A4, c4, by omega, by omega, rfl, H4.out, N4.out⟩
      case measure => simp; omega
    · obtain rfl : j = 64 := by omega
      rw [padTo_64] at ho
      have H4 := Lib.hid ho
      have N4 := Lib.hid on
      clear ho on hr
      go_wp2
      go_ret
      exact ⟨A3, c3, rfl, H4.out, N4.out⟩
end Go.Proofs.Ytfafpggppbolkaa
/- The contracts of the reference of chapter 4 on lines, second part. -/
namespace Go.Proofs.Ytfafpggppbolkaa
open Go.RowKit Go.Proofs.FuMem Go.Proofs.FuCode Go.Proofs.FuCrc Go.Proofs.FuGeom
set_option maxRecDepth 100000
theorem ref4_Clock (v : Nat) (w : World) (hv : v < 18446744073709551616) :
    Calls Try.prog 48 #[.int .u64 v] w fun e w' => ∃ A c, e = .returned (.slice A 64 c) ∧ w'.ownsRow w.heap.size 5 1 (.slice A 64 c) 64 ((clockL v).map B) ∧ Only [] w w' := by
  have hlay := fun w => ref2_Lay 8 v w (by omega) hv
  have ho0 : (w.alloc (.cells #[.int .u8 3] 5)).ownsRow w.heap.size 5 1 (.slice (some ⟨w.heap.size, 0, none⟩) 1 1) 1 [.int .u8 3] := World.ownsRow_lit w #[.int .u8 3] 1 (Nat.le_refl _) (by decide) rfl
  have hn0 : Only [] w (w.alloc (.cells #[.int .u8 3] 5)) := (Only.refl _ _).alloc _
  obtain ⟨i0, hi, hz0, hz1, hz2⟩ := info_parts Try.byteInfo
  have HI := Lib.hid hi
  have HZ0 := Lib.hid hz0
  have HZ1 := Lib.hid hz1
  have HZ2 := Lib.hid hz2
  have HY := Lib.hid hlay
  have HO0 := Lib.hid ho0
  have HN0 := Lib.hid hn0
  clear hlay hi hz0 hz1 hz2 ho0 hn0
  go_enter Try.func48, Try.ntmps48
  go_wp2_with fail
  refine (HY.out _).mono ?_
  rintro e w1 ⟨_, rfl, A1, c1, rfl, m1, o1⟩
  rw [lay_length] at m1 ⊢
  have hown := own_only HO0.out o1 (by simp)
  have hon := HN0.out.trans0 o1
  obtain ⟨A2, c2, w2, hr, ho2, hs2, on2⟩ := append_own (P := Try.prog) w1 hon 30 30 5 i0 _ 1 Try.underlying30 HI.out HZ0.out HZ1.out HZ2.out rfl _ 1 _ hown A1 8 c1 _ (Sl.of_own m1) one_B (by unfold maxLen; omega) (by omega)
  have he : [Value.int .u8 3] ++ (lay 8 v).map B = (clockHead v).map B := rfl
  rw [he] at ho2
  have H2 := Lib.hid ho2
  have N2 := Lib.hid on2
  clear hown hon ho2 hs2 on2 m1 o1 he
  go_wp2_with (at_builtin; refine wpList_append_run _ rfl (.tmp 3) (.tmp 5) 30 rfl _ _ rfl rfl _ _ hr ?_)
  refine (ref4_whole A2 c2 (clockHead v) w2 H2.out N2.out).mono ?_
  rintro e w3 ⟨A3, c3, rfl, m3, o3⟩
  have H3 := Lib.hid m3
  have N3 := Lib.hid o3
  clear m3 o3 hr
  go_wp2
  go_ret
  exact ⟨A3, c3, rfl, H3.out, N3.out⟩
theorem ref4_Super_no (n : Int) (w : World) (h : -9223372036854775808 ≤ n ∧ n ≤ 9223372036854775807) (hn : n < 10 ∨ 258 < n) :
    Calls Try.prog 45 #[.int .i64 n] w fun e w' => e = .returned (.tuple #[.slice none 0 0, .int .i64 2]) ∧ w = w' := by
  by_cases h1 : n < 10
  · clear hn
    go_enter Try.func45, Try.ntmps45
    go_wp2
    go_ret2
    exact ⟨rfl, rfl⟩
  · have h2 : 258 < n := by omega
    clear hn
    go_enter Try.func45, Try.ntmps45
    go_wp2
    go_ret2
    exact ⟨rfl, rfl⟩
theorem ref4_Super (v : Nat) (w : World) (h1 : 10 ≤ v) (h2 : v ≤ 258) :
    Calls Try.prog 45 #[.int .i64 v] w fun e w' => ∃ A c, e = .returned (.tuple #[.slice A 64 c, .int .i64 0]) ∧ w'.ownsRow w.heap.size 5 1 (.slice A 64 c) 64 ((superL v).map B) ∧ Only [] w w' := by
  have hlay := fun w => ref2_Lay 4 v w (by omega) (by omega)
  have ho0 : (w.alloc (.cells #[.int .u8 4, .int .u8 70, .int .u8 85, .int .u8 83, .int .u8 69] 5)).ownsRow w.heap.size 5 1 (.slice (some ⟨w.heap.size, 0, none⟩) 5 5) 5 [.int .u8 4, .int .u8 70, .int .u8 85, .int .u8 83, .int .u8 69] := World.ownsRow_lit w #[.int .u8 4, .int .u8 70, .int .u8 85, .int .u8 83, .int .u8 69] 5 (Nat.le_refl _) (by decide) rfl
  have hn0 : Only [] w (w.alloc (.cells #[.int .u8 4, .int .u8 70, .int .u8 85, .int .u8 83, .int .u8 69] 5)) := (Only.refl _ _).alloc _
  obtain ⟨i0, hi, hz0, hz1, hz2⟩ := info_parts Try.byteInfo
  have HI := Lib.hid hi
  have HZ0 := Lib.hid hz0
  have HZ1 := Lib.hid hz1
  have HZ2 := Lib.hid hz2
  have HY := Lib.hid hlay
  have HO0 := Lib.hid ho0
  have HN0 := Lib.hid hn0
  clear hlay hi hz0 hz1 hz2 ho0 hn0
  go_enter Try.func45, Try.ntmps45
  go_wp2_with fail
  refine (HY.out _).mono ?_
  rintro e w1 ⟨_, rfl, A1, c1, rfl, m1, o1⟩
  rw [lay_length] at m1 ⊢
  have hown := own_only HO0.out o1 (by simp)
  have hon := HN0.out.trans0 o1
  obtain ⟨A2, c2, w2, hr, ho2, hs2, on2⟩ := append_own (P := Try.prog) w1 hon 30 30 5 i0 _ 1 Try.underlying30 HI.out HZ0.out HZ1.out HZ2.out rfl _ 5 _ hown A1 4 c1 _ (Sl.of_own m1) one_B (by unfold maxLen; omega) (by omega)
  have he : [Value.int .u8 4, .int .u8 70, .int .u8 85, .int .u8 83, .int .u8 69] ++ (lay 4 v).map B = (superHead v).map B := rfl
  rw [he] at ho2
  have H2 := Lib.hid ho2
  have N2 := Lib.hid on2
  clear hown hon ho2 hs2 on2 m1 o1 he
  go_wp2_with (at_builtin; refine wpList_append_run _ rfl (.tmp 10) (.tmp 13) 30 rfl _ _ rfl rfl _ _ hr ?_)
  refine (ref4_whole A2 c2 (superHead v) w2 H2.out N2.out).mono ?_
  rintro e w3 ⟨A3, c3, rfl, m3, o3⟩
  have H3 := Lib.hid m3
  have N3 := Lib.hid o3
  clear m3 o3 hr
  go_wp2
  go_ret2
  exact ⟨A3, c3, rfl, H3.out, N3.out⟩
/-- no line of a superblock of fewer lines is it -/
def NoSuper (l : List UInt8) (k : Nat) : Prop := ∀ j, 10 ≤ j → j < k → superL j ≠ l
theorem isSuper_found {l : List UInt8} {k : Nat} (h1 : 10 ≤ k) (h2 : k ≤ 258) (h : superL k = l) : isSuper l = (k, true) := by rw [← h, isSuper_superL k h1 h2]
theorem isSuper_none {l : List UInt8} (h : NoSuper l 259) : isSuper l = (0, false) := by
  unfold isSuper
  rw [if_neg]
  rintro ⟨_, h1, h2, h3⟩
  exact h _ h1 (by omega) h3.symm
theorem ref4_IsSuper (A : Option Addr) (n c : Nat) (l : List UInt8) (w : World) (h : Bs w A n l) :
    Calls Try.prog 31 #[.slice A n c] w fun e w' => e = .returned (.tuple #[.int .i64 (isSuper l).1, .bool (isSuper l).2]) ∧ Only [] w w' := by
  have HB := Lib.hid h
  clear h
  go_enter Try.func31, Try.ntmps31
  go_wp2
  go_loopw [4, 5, 6] (fun i _ _ wr => ∃ k : Nat, 10 ≤ k ∧ k ≤ 259 ∧ i = .int .i64 k ∧ NoSuper l k ∧ Only [] w wr) (fun i _ _ _ => 259 - (intOf i).toNat)
  case atStart => exact ⟨10, by omega, by omega, rfl, fun j h1 h2 => by omega, Only.refl _ _⟩
  case round =>
    obtain ⟨k, hk1, hk2, rfl, hno, on⟩ := hrel
    have HN := Lib.hid hno
    have ON := Lib.hid on
    clear hno on
    by_cases hlt : k ≤ 258
    · go_wp2_with fail
      refine (ref4_Super k _ hk1 hlt).mono ?_
      rintro e w1 ⟨A1, c1, rfl, m1, o1⟩
      have h1 := run_str (P := Try.prog) Try.underlying30 Try.underlying5 Try.underlying9 (bs_own m1) c1
      have h2 := run_str (P := Try.prog) Try.underlying30 Try.underlying5 Try.underlying9 ((HB.out.only0 ON.out).only0 o1) c
      have O1 := Lib.hid (ON.out.trans0 o1)
      clear m1 o1
      go_wp2
      · have hb : superL k = l := beq_iff_eq.1 ‹_›
        go_ret2
        exact ⟨by rw [isSuper_found hk1 hlt hb]; rfl, O1.out⟩
      · have hb : superL k ≠ l := beq_eq_false_iff_ne.1 ‹_›
        go_roundw
        case rel =>
          refine ⟨k + 1, by omega, by omega, by go_num, fun j hj1 hj2 => ?_, O1.out⟩
          by_cases e : j = k
          · rw [e]; exact hb
          · exact HN.out j hj1 (by omega)
        case measure => simp [intOf]; omega
    · obtain rfl : k = 259 := by omega
      have hr := isSuper_none HN.out
      have HR := Lib.hid hr
      clear hr
      go_wp2
      go_ret2
      exact ⟨by rw [HR.out]; rfl, ON.out⟩
theorem ref4_IsClock_no (A : Option Addr) (n c : Nat) (w : World) (h : n ≠ 64) :
    Calls Try.prog 33 #[.slice A n c] w fun e w' => e = .returned (.tuple #[.int .u64 0, .bool false]) ∧ w = w' := by
  have d1 : ((n : Int) != 64) = true := by rw [bne_iff_ne]; omega
  clear h
  go_enter Try.func33, Try.ntmps33
  go_wp2
  go_ret2
  exact ⟨rfl, rfl⟩
set_option maxHeartbeats 400000 in
theorem ref4_IsClock_yes (b off c : Nat) (l : List UInt8) (w : World) (h : Bs w (some ⟨b, off, none⟩) 64 l) (hc : 64 ≤ c) :
    Calls Try.prog 33 #[.slice (some ⟨b, off, none⟩) 64 c] w fun e w' => e = .returned (.tuple #[.int .u64 (isClock l).1, .bool (isClock l).2]) ∧ Only [] w w' := by
  have hl := h.len
  have hv := clockNum_lt l
  have hres : isClock l = if l = clockL (clockNum l) then (clockNum l, true) else (0, false) := by
    unfold isClock
    simp [hl]
  have hcut := h.cut (a := 1) (m := 8) (by omega)
  have hnum : Calls Try.prog 70 #[.slice (some ⟨b, off + 1, none⟩) 8 (c - 1)] w fun e w' => e = .returned (.int .u64 (clockNum l)) ∧ w = w' := ref2_Number _ 8 _ _ w hcut (by omega)
  rw [hres]
  have hcl := fun w => ref4_Clock (clockNum l) w hv
  generalize clockNum l = v at *
  generalize clockL v = k at *
  have hca : ¬ c = 1 := by omega
  have hs0 := run_str (P := Try.prog) Try.underlying30 Try.underlying5 Try.underlying9 (h.only0 (Only.refl [] w).drew) c
  have HX := Lib.hid h
  have HN := Lib.hid hnum
  have HC := Lib.hid hcl
  clear h hnum hcl hcut hres hl
  have core : ∀ t : Bool, (k == l) = t → Calls Try.prog 33 #[.slice (some ⟨b, off, none⟩) 64 c] w fun e w' => e = .returned (.tuple #[.int .u64 (if t = true then (v : Int) else 0), .bool t]) ∧ Only [] w w' := by
    intro t ht
    cases t
    all_goals
      go_enter Try.func33, Try.ntmps33
      go_wp2_with fail
      refine (HN.out).mono ?_
      rintro e w' ⟨rfl, rfl⟩
      go_wp2
      go_region_with (first
        | (go_at_call 48; refine (HC.out _).mono ?_; rintro e w1 ⟨A1, c1, rfl, m1, o1⟩; have h1 := run_str (P := Try.prog) Try.underlying30 Try.underlying5 Try.underlying9 (bs_own m1) c1; have h2 := run_str (P := Try.prog) Try.underlying30 Try.underlying5 Try.underlying9 (HX.out.only0 ((Only.refl [] w).drew.trans0 o1)) c))
      all_goals
        have O1 := Lib.hid ((Only.refl [] w).drew.trans0 ‹Only [] w.drew _›)
        clear ‹Only [] w.drew _›
        go_wp2
        go_ret2
        exact ⟨rfl, O1.out⟩
  by_cases hlk : l = k
  · rw [if_pos hlk]
    exact core true (by rw [beq_iff_eq]; exact hlk.symm)
  · rw [if_neg hlk]
    exact core false (by rw [beq_eq_false_iff_ne]; exact fun e => hlk e.symm)
end Go.Proofs.Ytfafpggppbolkaa
/- The walks of the statements on geom (without devices). -/
namespace Go.Proofs.Ytfafpggppbolkaa
open Go.RowKit Go.Proofs.FuMem Go.Proofs.FuCode Go.Proofs.FuCrc Go.Proofs.FuGeom Go.Proofs.FuClass
set_option maxRecDepth 100000
theorem arr64 {w : World} {g : Nat} {t : TypeId} {l : List UInt8} (h : Arr w g t l) (hl : l.length = 64) : Bs w (some ⟨g, 0, none⟩) 64 l := by
  have := h.bs
  rwa [hl] at this
theorem geom_IsClock {A : Option Addr} {n c : Nat} {l : List UInt8} {w : World} (h : Bs w A n l) (hn : n ≤ maxLen) :
    Calls Try.prog 32 #[.slice A n c] w fun e w' => e = .returned (.tuple #[.int .u64 (isClock l).1, .bool (isClock l).2]) ∧ Only [] w w' := by
  by_cases h64 : n = 64
  · subst h64
    obtain ⟨b, off, rfl, _⟩ := h.at_ (by omega)
    exact geom_IsClock_yes b off c l w h
  · rw [isClock_short (by rw [h.len]; exact h64)]
    exact geom_IsClock_no A n c w hn h64
theorem geom_IsSuper {A : Option Addr} {n c : Nat} {l : List UInt8} {w : World} (h : Bs w A n l) (hn : n ≤ maxLen) :
    Calls Try.prog 30 #[.slice A n c] w fun e w' => e = .returned (.tuple #[.int .i64 (isSuper l).1, .bool (isSuper l).2]) ∧ Only [] w w' := by
  by_cases h64 : n = 64
  · subst h64
    obtain ⟨b, off, rfl, _⟩ := h.at_ (by omega)
    exact geom_IsSuper_yes b off c l w h
  · rw [isSuper_short (by rw [h.len]; exact h64)]
    exact geom_IsSuper_no A n c w hn h64
theorem ref4_IsClock {A : Option Addr} {n c : Nat} {l : List UInt8} {w : World} (h : Bs w A n l) (hc : n ≤ c) :
    Calls Try.prog 33 #[.slice A n c] w fun e w' => e = .returned (.tuple #[.int .u64 (isClock l).1, .bool (isClock l).2]) ∧ Only [] w w' := by
  by_cases h64 : n = 64
  · subst h64
    obtain ⟨b, off, rfl, _⟩ := h.at_ (by omega)
    exact ref4_IsClock_yes b off c l w h hc
  · rw [isClock_short (by rw [h.len]; exact h64)]
    refine (ref4_IsClock_no A n c w h64).mono ?_
    rintro e w' ⟨rfl, rfl⟩
    exact ⟨rfl, Only.refl _ _⟩
theorem law4_awake (w : World) : Calls Try.prog 28 #[] w fun e w' => e = .returned (.bool true) ∧ Only [] w w' := by
  have k1 := geom_Clock 7
  have k2 : ∀ (g : Nat) (w : World), Arr w g 106 (clockL 7) → Calls Try.prog 32 #[.slice (some ⟨g, 0, none⟩) 64 64] w fun e w' => e = .returned (.tuple #[.int .u64 7, .bool true]) ∧ Only [] w w' := fun g w h => by
    have := geom_IsClock_yes g 0 64 (clockL 7) w (arr64 h (clockL_length 7))
    rw [isClock_clockL 7 (by omega)] at this
    exact this
  have k3 : ∀ (g : Nat) (w : World), Arr w g 106 (clockL 7) → Calls Try.prog 30 #[.slice (some ⟨g, 0, none⟩) 64 64] w fun e w' => e = .returned (.tuple #[.int .i64 0, .bool false]) ∧ Only [] w w' := fun g w h => by
    have := geom_IsSuper_yes g 0 64 (clockL 7) w (arr64 h (clockL_length 7))
    rw [isSuper_clockL 7] at this
    exact this
  have k4 := fun w => geom_Slabs 10 w
  rw [show slabsOf 10 = 1 by decide] at k4
  have k5 := fun w => geom_Slab 1 w
  rw [show slab 1 = 10 by decide] at k5
  have K1 : Hid (∀ w, Calls Try.prog 46 #[.int .u64 7] w fun e w' => ∃ g, e = .returned (.slice (some ⟨g, 0, none⟩) 64 64) ∧ Arr w' g 106 (clockL 7) ∧ w.heap.size ≤ g ∧ Only [] w w') := Lib.hid (fun w => k1 w (by omega))
  have K2 := Lib.hid k2
  have K3 := Lib.hid k3
  have K4 := Lib.hid k4
  have K5 := Lib.hid k5
  clear k1 k2 k3 k4 k5
  go_enter Try.func28, Try.ntmps28
  go_wp2_with fail
  refine (K1.out _).mono ?_
  rintro e w1 ⟨g1, rfl, a1, _, o1⟩
  have A1 := Lib.hid a1
  have O1 := Lib.hid o1
  clear a1 o1
  go_wp2_with fail
  refine (K2.out _ _ A1.out).mono ?_
  rintro e w2 ⟨rfl, o2⟩
  have O2 := Lib.hid (O1.out.trans0 o2)
  clear o2
  go_wp2_with fail
  refine (K1.out _).mono ?_
  rintro e w3 ⟨g3, rfl, a3, _, o3⟩
  have A3 := Lib.hid a3
  have O3 := Lib.hid (O2.out.trans0 o3)
  clear a3 o3
  go_wp2_with fail
  refine (K3.out _ _ A3.out).mono ?_
  rintro e w4 ⟨rfl, o4⟩
  have O4 := Lib.hid (O3.out.trans0 o4)
  clear o4
  go_wp2_with fail
  refine (K4.out _).mono ?_
  rintro e w' ⟨rfl, rfl⟩
  go_wp2_with fail
  refine (K5.out _).mono ?_
  rintro e w' ⟨rfl, rfl⟩
  go_wp2
  go_ret
  exact ⟨rfl, O4.out⟩
theorem walk_GeomSlabs (n k line : Int) (w : World) (_h1 : -9223372036854775808 ≤ n ∧ n ≤ 9223372036854775807) (_h2 : -9223372036854775808 ≤ k ∧ k ≤ 9223372036854775807) (_h3 : -9223372036854775808 ≤ line ∧ line ≤ 9223372036854775807) :
    Calls Try.prog 8 #[.int .i64 n, .int .i64 k, .int .i64 line] w fun e w' => e = .returned (.bool true) ∧ Only [] w w' := by
  have k1 := Lib.hid (geom_Slabs n w)
  have k2 := Lib.hid (ref4_Slabs n w)
  have k3 := Lib.hid (geom_Slab k w)
  have k4 := Lib.hid (ref4_Slab k w)
  have k5 := Lib.hid (geom_SlabOf line w)
  have k6 := Lib.hid (ref4_SlabOf line w)
  generalize slabsOf n = a at *
  generalize slab k = b at *
  generalize slabOf line = d at *
  go_enter Try.func8, Try.ntmps8
  go_wp2_with fail
  refine (k1.out).mono ?_
  rintro e w' ⟨rfl, rfl⟩
  go_wp2_with fail
  refine (k2.out).mono ?_
  rintro e w' ⟨rfl, rfl⟩
  go_wp2_with fail
  refine (k3.out).mono ?_
  rintro e w' ⟨rfl, rfl⟩
  go_wp2_with fail
  refine (k4.out).mono ?_
  rintro e w' ⟨rfl, rfl⟩
  go_wp2_with fail
  refine (k5.out).mono ?_
  rintro e w' ⟨rfl, rfl⟩
  go_wp2_with fail
  refine (k6.out).mono ?_
  rintro e w' ⟨rfl, rfl⟩
  go_wp2_with fail
  refine (law4_awake _).mono ?_
  rintro e w' ⟨rfl, on⟩
  have HN := Lib.hid on
  clear on
  go_wp2
  go_ret
  exact ⟨rfl, HN.out⟩
theorem walk_GeomApart (line : Int) (w : World) (_h3 : -9223372036854775808 ≤ line ∧ line ≤ 9223372036854775807) :
    Calls Try.prog 9 #[.int .i64 line] w fun e w' => e = .returned (.bool true) ∧ Only [] w w' := by
  have k5 := geom_SlabOf line w
  by_cases h1 : line < 2
  · rw [show slabOf line = -1 from if_pos (.inl h1)] at k5
    have K5 := Lib.hid k5
    clear k5
    go_enter Try.func9, Try.ntmps9
    go_wp2_with fail
    refine (K5.out).mono ?_
    rintro e w' ⟨rfl, rfl⟩
    go_wp2_with fail
    refine (law4_awake _).mono ?_
    rintro e w' ⟨rfl, on⟩
    have HN := Lib.hid on
    clear on
    go_wp2
    go_ret
    exact ⟨rfl, HN.out⟩
  by_cases h2 : 258 ≤ line
  · rw [show slabOf line = -1 from if_pos (.inr h2)] at k5
    have K5 := Lib.hid k5
    clear k5
    go_enter Try.func9, Try.ntmps9
    go_wp2_with fail
    refine (K5.out).mono ?_
    rintro e w' ⟨rfl, rfl⟩
    go_wp2_with fail
    refine (law4_awake _).mono ?_
    rintro e w' ⟨rfl, on⟩
    have HN := Lib.hid on
    clear on
    go_wp2
    go_ret
    exact ⟨rfl, HN.out⟩
  have hso : slabOf line = (line - 2) / 8 := if_neg (by omega)
  rw [hso] at k5
  obtain ⟨k, hk⟩ : ∃ k, k = (line - 2) / 8 := ⟨_, rfl⟩
  rw [← hk] at k5
  have hk1 : 0 ≤ k := by omega
  have hk2 : k ≤ 31 := by omega
  have hl1 : 2 + 8 * k ≤ line := by omega
  have hl2 : line - (2 + 8 * k) < 8 := by omega
  have k6 := geom_Slab k w
  rw [show slab k = 2 + 8 * k from if_neg (by omega)] at k6
  have k7 := geom_SlabOf (2 + 8 * k) w
  rw [show slabOf (2 + 8 * k) = k by unfold slabOf; rw [if_neg (by omega)]; omega] at k7
  have K5 := Lib.hid k5
  have K6 := Lib.hid k6
  have K7 := Lib.hid k7
  clear k5 k6 k7 hso hk
  by_cases h0 : k = 0
  · subst h0
    go_enter Try.func9, Try.ntmps9
    go_wp2_with fail
    refine (K5.out).mono ?_
    rintro e w' ⟨rfl, rfl⟩
    go_wp2_with fail
    refine (K6.out).mono ?_
    rintro e w' ⟨rfl, rfl⟩
    go_wp2_with fail
    refine (K7.out).mono ?_
    rintro e w' ⟨rfl, rfl⟩
    go_wp2_with fail
    refine (law4_awake _).mono ?_
    rintro e w' ⟨rfl, on⟩
    have HN := Lib.hid on
    clear on
    go_wp2
    go_ret
    exact ⟨rfl, HN.out⟩
  · have hk3 : 1 ≤ k := by omega
    have d1 : (2 + 8 * k == 2) = false := by simp; omega
    have k8 := geom_SlabOf (2 + 8 * k - 1) w
    rw [show slabOf (2 + 8 * k - 1) = k - 1 by unfold slabOf; rw [if_neg (by omega)]; omega] at k8
    have K8 := Lib.hid k8
    clear k8 h0
    go_enter Try.func9, Try.ntmps9
    go_wp2_with fail
    refine (K5.out).mono ?_
    rintro e w' ⟨rfl, rfl⟩
    go_wp2_with fail
    refine (K6.out).mono ?_
    rintro e w' ⟨rfl, rfl⟩
    go_wp2_with fail
    refine (K7.out).mono ?_
    rintro e w' ⟨rfl, rfl⟩
    go_wp2_with fail
    refine (K8.out).mono ?_
    rintro e w' ⟨rfl, rfl⟩
    go_wp2_with fail
    refine (law4_awake _).mono ?_
    rintro e w' ⟨rfl, on⟩
    have HN := Lib.hid on
    clear on
    go_wp2
    go_ret
    exact ⟨rfl, HN.out⟩
theorem walk_GeomReads (A : Option Addr) (n c : Nat) (l : List UInt8) (w : World) (h : Bs w A n l) (hn : n ≤ maxLen) (hc : n ≤ c) :
    Calls Try.prog 5 #[.slice A n c] w fun e w' => e = .returned (.bool true) ∧ Only [] w w' := by
  have hm := hn
  unfold maxLen at hm
  have HB := Lib.hid h
  clear h
  by_cases hbig : 1024 < n
  · go_enter Try.func5, Try.ntmps5
    go_wp2_with fail
    refine (law4_awake _).mono ?_
    rintro e w' ⟨rfl, on⟩
    have HN := Lib.hid on
    clear on
    go_wp2
    go_ret
    exact ⟨rfl, HN.out⟩
  have hb1 : decide (1024 < (n : Int)) = false := by simp; omega
  go_enter Try.func5, Try.ntmps5
  go_wp2_with fail
  refine (law0_LendBytes A n c l _ HB.out (by omega)).mono ?_
  rintro e w1 ⟨rfl, hl, o1⟩
  have hb1 : Bs w1 (some ⟨w.heap.size, 0, none⟩) n l := Sl.of_blk hl 0 (by simp [← HB.out.len]) (by simp [← HB.out.len])
  have H1 := Lib.hid hl
  have O1 := Lib.hid o1
  have B1 := Lib.hid hb1
  clear hl o1 hb1
  go_wp2_with fail
  refine (geom_IsSuper B1.out hn).mono ?_
  rintro e w2 ⟨rfl, o2⟩
  have O2 := Lib.hid o2
  clear o2
  go_wp2_with fail
  refine (ref4_IsSuper A n c l _ ((HB.out.only0 O1.out).only0 O2.out)).mono ?_
  rintro e w3 ⟨rfl, o3⟩
  have O3 := Lib.hid (O2.out.trans0 o3)
  clear o3
  go_wp2_with fail
  refine (geom_IsClock (B1.out.only0 O3.out) hn).mono ?_
  rintro e w4 ⟨rfl, o4⟩
  have O4 := Lib.hid (O3.out.trans0 o4)
  clear o4
  go_wp2_with fail
  refine (ref4_IsClock ((HB.out.only0 O1.out).only0 O4.out) hc).mono ?_
  rintro e w5 ⟨rfl, o5⟩
  have O5 := Lib.hid (O4.out.trans0 o5)
  clear o5
  go_wp2_with fail
  refine (law0_KeptBytes A n c l _ _ (H1.out.only O5.out (by simp)) ((HB.out.only0 O1.out).only0 O5.out) (by omega)).mono ?_
  rintro e w' ⟨rfl, rfl⟩
  go_wp2_with fail
  refine (law4_awake _).mono ?_
  rintro e w' ⟨rfl, on⟩
  have HN := Lib.hid on
  clear on
  go_wp2
  go_ret
  exact ⟨rfl, (O1.out.trans0 O5.out).trans0 HN.out⟩
end Go.Proofs.Ytfafpggppbolkaa
/- Law 4: a device is formatted and opened. -/
set_option maxRecDepth 100000
namespace Go.Proofs.Ytfafpggppbolkaa
open Go.RowKit Go.Proofs.FuMem Go.Proofs.FuNvm Go.Proofs.FuCode Go.Proofs.FuGeom Go.Proofs.FuCrc
def formatA (D : Dev) : Int := if D.lines.length < 10 then 2 else 0
def formatD (D : Dev) : Dev := if D.lines.length < 10 then D else fenceD (flush1 (flush1 (store1 (store1 D 0 0 (superL D.lines.length)) 1 0 (clockL 0)) 0) 1)
def bytesAt (D : Dev) (i : Nat) : List UInt8 := if i < D.lines.length then (lineOf D i).now else []
def openA (D : Dev) : Nat × Nat :=
  if (isSuper (bytesAt D 0)).2 = true ∧ (isSuper (bytesAt D 0)).1 = D.lines.length ∧ (isClock (bytesAt D 1)).2 = true then
    if 1152921504606846976 < (isClock (bytesAt D 1)).1 then (0, 10) else ((isClock (bytesAt D 1)).1, 0)
  else (0, 3)
theorem nvm_Load_any (g cb cap : Nat) (D : Dev) (i : Nat) (w : World) (hd : DevAt w g cb cap D) :
    Calls Try.prog 21 #[.pointer (some ⟨g, 0, none⟩), .int .i64 i] w fun e w' => ∃ (A : Option Addr) (n c : Nat) (x : Int), e = .returned (.tuple #[.slice A n c, .int .i64 x]) ∧ Bs w' A n (bytesAt D i) ∧ n ≤ 64 ∧ Only [] w w' := by
  unfold bytesAt
  by_cases h : i < D.lines.length
  · rw [if_pos h]
    have hx := lineOf_get h
    have hok := hd.ok _ (List.mem_of_getElem? hx)
    refine (nvm_Load g cb cap D i _ hx w hd).mono ?_
    rintro e w' ⟨v, rfl, m⟩
    obtain ⟨A, c, rfl, b, _, o⟩ := madeB_bs m
    exact ⟨A, _, c, _, rfl, b, by rw [hok.1]; exact Nat.le_refl _, o⟩
  · rw [if_neg h]
    refine (nvm_Load_no g cb cap D i w hd (by unfold noPlace; omega)).mono ?_
    rintro e w' ⟨rfl, rfl⟩
    exact ⟨none, 0, 0, _, rfl, Bs.nil _ _, by omega, Only.refl _ _⟩
theorem ref3_Load_any (g cb cap : Nat) (D : Dev) (i : Nat) (w : World) (hd : RefAt w g cb cap D) :
    Calls Try.prog 85 #[.pointer (some ⟨g, 0, none⟩), .int .i64 i] w fun e w' => ∃ (A : Option Addr) (n c : Nat) (x : Int), e = .returned (.tuple #[.slice A n c, .int .i64 x]) ∧ Bs w' A n (bytesAt D i) ∧ n ≤ 64 ∧ n ≤ c ∧ Only [] w w' := by
  unfold bytesAt
  by_cases h : i < D.lines.length
  · rw [if_pos h]
    have hx := lineOf_get h
    have hok := hd.ok _ (List.mem_of_getElem? hx)
    refine (ref3_Load g cb cap D i _ hx w hd).mono ?_
    rintro e w' ⟨v, rfl, g', rfl, b, f, o⟩
    exact ⟨_, _, _, _, rfl, b, by rw [hok.1]; exact Nat.le_refl _, Nat.le_refl _, o⟩
  · rw [if_neg h]
    refine (ref3_Load_no g cb cap D i w hd (by omega)).mono ?_
    rintro e w' ⟨rfl, rfl⟩
    exact ⟨none, 0, 0, _, rfl, Bs.nil _ _, by omega, by omega, Only.refl _ _⟩
set_option maxHeartbeats 2000000 in
theorem geom_Format (g cb cap : Nat) (D : Dev) (w : World) (hd : DevAt w g cb cap D) :
    Calls Try.prog 57 #[.pointer (some ⟨g, 0, none⟩)] w fun e w' => e = .returned (.int .i64 (formatA D)) ∧ DevAt w' g cb cap (formatD D) ∧ Only [g, cb] w w' := by
  have hf := hd.few
  have HD := Lib.hid hd
  have HL := Lib.hid (nvm_Lines g cb cap D w hd)
  have hg := hd.lt1
  have hc := hd.lt2
  unfold formatA formatD
  clear hd
  by_cases h10 : D.lines.length < 10
  · rw [if_pos h10, if_pos h10]
    have HS := Lib.hid (fun w => geom_Super_no (D.lines.length : Int) w (by omega) (by omega))
    clear h10
    go_enter Try.func57, Try.ntmps57
    go_wp2_with fail
    refine (HL.out).mono ?_
    rintro e w' ⟨rfl, rfl⟩
    go_wp2_with fail
    refine (HS.out _).mono ?_
    rintro e w' ⟨rfl, rfl⟩
    go_wp2
    go_ret
    exact ⟨rfl, HD.out, Only.refl _ _⟩
  · rw [if_neg h10, if_neg h10]
    have HS := Lib.hid (fun w => geom_Super D.lines.length w (by omega) hf)
    have hsl := superL_length D.lines.length
    generalize superL D.lines.length = sl at *
    have HSL := Lib.hid hsl
    have HCL := Lib.hid (clockL_length 0)
    have HCK := Lib.hid (fun w => geom_Clock 0 w (by omega))
    clear h10 hsl
    generalize clockL 0 = cl at *
    go_enter Try.func57, Try.ntmps57
    go_wp2_with fail
    refine (HL.out).mono ?_
    rintro e w' ⟨rfl, rfl⟩
    go_wp2_with fail
    refine (HS.out _).mono ?_
    rintro e w1 ⟨g1, rfl, a1, f1, o1⟩
    have hb1 := Arr.bs a1
    rw [HSL.out] at hb1
    have B1 := Lib.hid hb1
    have D1 := Lib.hid (HD.out.only0 o1)
    have O1 := Lib.hid (o1.mono (T := [g, cb]) (by simp))
    clear a1 o1 hb1
    go_wp2_with fail
    refine (nvm_Store_any g cb cap D 0 0 _ 64 64 sl w1 D1.out B1.out (by unfold maxLen; omega)).mono ?_
    rintro e w2 ⟨rfl, d2, o2⟩
    have D2 := Lib.hid d2
    have O2 := Lib.hid (O1.out.trans o2 (fun b hb => .inl hb))
    clear d2 o2
    go_wp2_with fail
    refine (HCK.out _).mono ?_
    rintro e w3 ⟨g3, rfl, a3, f3, o3⟩
    have hb3 := Arr.bs a3
    rw [HCL.out] at hb3
    have B3 := Lib.hid hb3
    have D3 := Lib.hid (D2.out.only0 o3)
    have O3 := Lib.hid (O2.out.trans0 o3)
    clear a3 o3 hb3
    go_wp2_with fail
    refine (nvm_Store_any g cb cap _ 1 0 _ 64 64 cl w3 D3.out B3.out (by unfold maxLen; omega)).mono ?_
    rintro e w4 ⟨rfl, d4, o4⟩
    have D4 := Lib.hid d4
    have O4 := Lib.hid (O3.out.trans o4 (fun b hb => .inl hb))
    clear d4 o4
    go_wp2_with fail
    refine (nvm_Flush_any g cb cap _ 0 w4 D4.out).mono ?_
    rintro e w5 ⟨rfl, d5, o5⟩
    have D5 := Lib.hid d5
    have O5 := Lib.hid (O4.out.trans o5 (fun b hb => .inl hb))
    clear d5 o5
    go_wp2_with fail
    refine (nvm_Flush_any g cb cap _ 1 w5 D5.out).mono ?_
    rintro e w6 ⟨rfl, d6, o6⟩
    have D6 := Lib.hid d6
    have O6 := Lib.hid (O5.out.trans o6 (fun b hb => .inl hb))
    clear d6 o6
    go_wp2_with fail
    refine (nvm_Fence g cb cap _ w6 D6.out).mono ?_
    rintro e w7 ⟨rfl, d7, o7⟩
    have D7 := Lib.hid d7
    have O7 := Lib.hid (O6.out.trans o7 (fun b hb => .inl hb))
    clear d7 o7
    go_wp2
    go_ret
    exact ⟨rfl, D7.out, O7.out⟩
theorem own_safe {w w2 : World} {A : Option Addr} {n c : Nat} {xs : List Value} {e : TypeId} (h : w2.ownsRow w.heap.size e 1 (.slice A n c) n xs) {x : Nat} (hx : x < w.heap.size) : 0 < n → ∀ b off s, A = some ⟨b, off, s⟩ → b ≠ x := fun _ b off s e2 => by
  subst e2
  have := World.ownsRow.lt h b rfl
  omega
set_option maxHeartbeats 2000000 in
theorem ref4_Format (g cb cap : Nat) (D : Dev) (w : World) (hd : RefAt w g cb cap D) :
    Calls Try.prog 58 #[.pointer (some ⟨g, 0, none⟩)] w fun e w' => e = .returned (.int .i64 (formatA D)) ∧ RefAt w' g cb cap (formatD D) ∧ Only [g, cb] w w' := by
  have hf := hd.few
  have hc0 : w.cell? ⟨g, 0, none⟩ = some (.slice (some ⟨cb, 0, none⟩) D.lines.length cap) := hd.cell 0
  have HD := Lib.hid hd
  have hg := hd.lt1
  have hc := hd.lt2
  unfold formatA formatD
  clear hd
  by_cases h10 : D.lines.length < 10
  · rw [if_pos h10, if_pos h10]
    have q : decide ((D.lines.length : Int) < 10) = true := by rw [decide_eq_true_eq]; omega
    clear h10
    go_enter Try.func58, Try.ntmps58
    go_wp2
    go_ret
    exact ⟨rfl, HD.out, Only.refl _ _⟩
  · rw [if_neg h10, if_neg h10]
    have q : decide ((D.lines.length : Int) < 10) = false := by rw [decide_eq_false_iff_not]; omega
    have HS := Lib.hid (fun w => ref4_Super D.lines.length w (by omega) hf)
    have hsl := superL_length D.lines.length
    generalize superL D.lines.length = sl at *
    have HSL := Lib.hid hsl
    have HCL := Lib.hid (clockL_length 0)
    have HCK := Lib.hid (fun w => ref4_Clock 0 w (by omega))
    clear h10 hsl
    generalize clockL 0 = cl at *
    go_enter Try.func58, Try.ntmps58
    go_wp2_with fail
    refine (HS.out _).mono ?_
    rintro e w1 ⟨A1, c1, rfl, a1, o1⟩
    have B1 := Lib.hid (bs_own a1)
    have S1 := Lib.hid (own_safe a1 hc)
    have D1 := Lib.hid (HD.out.only0 o1)
    have O1 := Lib.hid (o1.mono (T := [g, cb]) (by simp))
    clear a1 o1 hc0
    go_wp2_with fail
    refine (ref3_Store_any g cb cap D 0 0 _ 64 _ sl w1 D1.out B1.out (by unfold maxLen; omega) S1.out (by omega)).mono ?_
    rintro e w2 ⟨rfl, d2, o2⟩
    have D2 := Lib.hid d2
    have hc2 := d2.lt2
    have O2 := Lib.hid (O1.out.trans o2 (fun b hb => .inl hb))
    clear d2 o2
    go_wp2_with fail
    refine (HCK.out _).mono ?_
    rintro e w3 ⟨A3, c3, rfl, a3, o3⟩
    have B3 := Lib.hid (bs_own a3)
    have S3 := Lib.hid (own_safe a3 hc2)
    have D3 := Lib.hid (D2.out.only0 o3)
    have O3 := Lib.hid (O2.out.trans0 o3)
    clear a3 o3
    go_wp2_with fail
    refine (ref3_Store_any g cb cap _ 1 0 _ 64 _ cl w3 D3.out B3.out (by unfold maxLen; omega) S3.out (by omega)).mono ?_
    rintro e w4 ⟨rfl, d4, o4⟩
    have D4 := Lib.hid d4
    have O4 := Lib.hid (O3.out.trans o4 (fun b hb => .inl hb))
    clear d4 o4
    go_wp2_with fail
    refine (ref3_Flush_any g cb cap _ 0 w4 D4.out).mono ?_
    rintro e w5 ⟨rfl, d5, o5⟩
    have D5 := Lib.hid d5
    have O5 := Lib.hid (O4.out.trans o5 (fun b hb => .inl hb))
    clear d5 o5
    go_wp2_with fail
    refine (ref3_Flush_any g cb cap _ 1 w5 D5.out).mono ?_
    rintro e w6 ⟨rfl, d6, o6⟩
    have D6 := Lib.hid d6
    have O6 := Lib.hid (O5.out.trans o6 (fun b hb => .inl hb))
    clear d6 o6
    go_wp2_with fail
    refine (ref3_Fence g cb cap _ w6 D6.out).mono ?_
    rintro e w7 ⟨rfl, d7, o7⟩
    have D7 := Lib.hid d7
    have O7 := Lib.hid (O6.out.trans o7 (fun b hb => .inl hb))
    clear d7 o7
    go_wp2
    go_ret
    exact ⟨rfl, D7.out, O7.out⟩
set_option maxHeartbeats 2000000 in
theorem geom_Open (g cb cap : Nat) (D : Dev) (w : World) (hd : DevAt w g cb cap D) :
    Calls Try.prog 61 #[.pointer (some ⟨g, 0, none⟩)] w fun e w' => e = .returned (.tuple #[.int .u64 (openA D).1, .int .i64 (openA D).2]) ∧ Only [] w w' := by
  have HD := Lib.hid hd
  clear hd
  have hoa : openA D = openA D := rfl
  unfold openA at hoa ⊢
  clear hoa
  generalize hn : (isSuper (bytesAt D 0)).1 = n at *
  generalize hb : (isSuper (bytesAt D 0)).2 = bs at *
  generalize hv : (isClock (bytesAt D 1)).1 = v at *
  generalize hc : (isClock (bytesAt D 1)).2 = bc at *
  have HN := Lib.hid hn
  have HB := Lib.hid hb
  have HV := Lib.hid hv
  have HC := Lib.hid hc
  clear hn hb hv hc
  cases bs
  · rw [if_neg (fun h => by cases h.1)]
    go_enter Try.func61, Try.ntmps61
    go_wp2_with fail
    refine (nvm_Load_any g cb cap D 0 _ HD.out).mono ?_
    rintro e w1 ⟨A1, n1, c1, x1, rfl, b1, f1, o1⟩
    have O1 := Lib.hid o1
    have B1 := Lib.hid b1
    clear o1 b1
    go_wp2_with fail
    refine (geom_IsSuper B1.out (by unfold maxLen; omega)).mono ?_
    rintro e w2 ⟨rfl, o2⟩
    have O2 := Lib.hid (O1.out.trans0 o2)
    clear o2
    rw [HB.out]
    go_wp2
    go_ret2
    exact ⟨rfl, O2.out⟩
  by_cases hnl : n = D.lines.length
  · have q1 : ((n : Int) != (D.lines.length : Int)) = false := by rw [hnl]; simp
    cases bc
    · rw [if_neg (fun h => by cases h.2.2)]
      clear hnl
      go_enter Try.func61, Try.ntmps61
      go_wp2_with fail
      refine (nvm_Load_any g cb cap D 0 _ HD.out).mono ?_
      rintro e w1 ⟨A1, n1, c1, x1, rfl, b1, f1, o1⟩
      have O1 := Lib.hid o1
      have B1 := Lib.hid b1
      have D1 := Lib.hid (HD.out.only0 o1)
      clear o1 b1
      go_wp2_with fail
      refine (geom_IsSuper B1.out (by unfold maxLen; omega)).mono ?_
      rintro e w2 ⟨rfl, o2⟩
      have O2 := Lib.hid (O1.out.trans0 o2)
      have D2 := Lib.hid (D1.out.only0 o2)
      clear o2
      rw [HB.out, HN.out]
      go_wp2_with fail
      refine (nvm_Lines g cb cap D _ D2.out).mono ?_
      rintro e w' ⟨rfl, rfl⟩
      go_wp2_with fail
      refine (nvm_Load_any g cb cap D 1 _ D2.out).mono ?_
      rintro e w3 ⟨A3, n3, c3, x3, rfl, b3, f3, o3⟩
      have O3 := Lib.hid (O2.out.trans0 o3)
      have B3 := Lib.hid b3
      clear o3 b3
      go_wp2_with fail
      refine (geom_IsClock B3.out (by unfold maxLen; omega)).mono ?_
      rintro e w4 ⟨rfl, o4⟩
      have O4 := Lib.hid (O3.out.trans0 o4)
      clear o4
      rw [HC.out]
      go_wp2
      go_ret2
      exact ⟨rfl, O4.out⟩
    · rw [if_pos ⟨rfl, hnl, rfl⟩]
      clear hnl
      by_cases hmx : 1152921504606846976 < v
      all_goals
        first | rw [if_pos hmx] | rw [if_neg hmx]
        have q2 : decide ((1152921504606846976 : Int) < (v : Int)) = decide (1152921504606846976 < v) := by rw [decide_eq_decide]; omega
        first | rw [decide_eq_true hmx] at q2 | rw [decide_eq_false hmx] at q2
        clear hmx
        go_enter Try.func61, Try.ntmps61
        go_wp2_with fail
        refine (nvm_Load_any g cb cap D 0 _ HD.out).mono ?_
        rintro e w1 ⟨A1, n1, c1, x1, rfl, b1, f1, o1⟩
        have O1 := Lib.hid o1
        have B1 := Lib.hid b1
        have D1 := Lib.hid (HD.out.only0 o1)
        clear o1 b1
        go_wp2_with fail
        refine (geom_IsSuper B1.out (by unfold maxLen; omega)).mono ?_
        rintro e w2 ⟨rfl, o2⟩
        have O2 := Lib.hid (O1.out.trans0 o2)
        have D2 := Lib.hid (D1.out.only0 o2)
        clear o2
        rw [HB.out, HN.out]
        go_wp2_with fail
        refine (nvm_Lines g cb cap D _ D2.out).mono ?_
        rintro e w' ⟨rfl, rfl⟩
        go_wp2_with fail
        refine (nvm_Load_any g cb cap D 1 _ D2.out).mono ?_
        rintro e w3 ⟨A3, n3, c3, x3, rfl, b3, f3, o3⟩
        have O3 := Lib.hid (O2.out.trans0 o3)
        have B3 := Lib.hid b3
        clear o3 b3
        go_wp2_with fail
        refine (geom_IsClock B3.out (by unfold maxLen; omega)).mono ?_
        rintro e w4 ⟨rfl, o4⟩
        have O4 := Lib.hid (O3.out.trans0 o4)
        clear o4
        rw [HC.out, HV.out]
        go_wp2
        go_ret2
        exact ⟨rfl, O4.out⟩
  · rw [if_neg (fun h => hnl h.2.1)]
    have q1 : ((n : Int) != (D.lines.length : Int)) = true := by rw [bne_iff_ne]; omega
    clear hnl
    go_enter Try.func61, Try.ntmps61
    go_wp2_with fail
    refine (nvm_Load_any g cb cap D 0 _ HD.out).mono ?_
    rintro e w1 ⟨A1, n1, c1, x1, rfl, b1, f1, o1⟩
    have O1 := Lib.hid o1
    have B1 := Lib.hid b1
    have D1 := Lib.hid (HD.out.only0 o1)
    clear o1 b1
    go_wp2_with fail
    refine (geom_IsSuper B1.out (by unfold maxLen; omega)).mono ?_
    rintro e w2 ⟨rfl, o2⟩
    have O2 := Lib.hid (O1.out.trans0 o2)
    have D2 := Lib.hid (D1.out.only0 o2)
    clear o2
    rw [HB.out, HN.out]
    go_wp2_with fail
    refine (nvm_Lines g cb cap D _ D2.out).mono ?_
    rintro e w' ⟨rfl, rfl⟩
    go_wp2
    go_ret2
    exact ⟨rfl, O2.out⟩
set_option maxHeartbeats 4000000 in
theorem ref4_Open (g cb cap : Nat) (D : Dev) (w : World) (hd : RefAt w g cb cap D) :
    Calls Try.prog 62 #[.pointer (some ⟨g, 0, none⟩)] w fun e w' => e = .returned (.tuple #[.int .u64 (openA D).1, .int .i64 (openA D).2]) ∧ Only [] w w' := by
  have HD := Lib.hid hd
  clear hd
  have hoa : openA D = openA D := rfl
  unfold openA at hoa ⊢
  clear hoa
  generalize hn : (isSuper (bytesAt D 0)).1 = n at *
  generalize hb : (isSuper (bytesAt D 0)).2 = bs at *
  generalize hv : (isClock (bytesAt D 1)).1 = v at *
  generalize hc : (isClock (bytesAt D 1)).2 = bc at *
  have HN := Lib.hid hn
  have HB := Lib.hid hb
  have HV := Lib.hid hv
  have HC := Lib.hid hc
  clear hn hb hv hc
  cases bs
  · rw [if_neg (fun h => by cases h.1)]
    go_enter Try.func62, Try.ntmps62
    go_wp2_with fail
    refine (ref3_Load_any g cb cap D 0 _ HD.out).mono ?_
    rintro e w1 ⟨A1, n1, c1, x1, rfl, b1, f1, k1, o1⟩
    have O1 := Lib.hid o1
    have B1 := Lib.hid b1
    have D1 := Lib.hid (HD.out.only0 o1)
    clear o1 b1
    go_wp2_with fail
    refine (ref4_IsSuper _ _ _ _ _ B1.out).mono ?_
    rintro e w2 ⟨rfl, o2⟩
    have O2 := Lib.hid (O1.out.trans0 o2)
    have D2 := Lib.hid (D1.out.only0 o2)
    clear o2
    rw [HB.out, HN.out]
    go_wp2_with fail
    refine (ref3_Load_any g cb cap D 1 _ D2.out).mono ?_
    rintro e w3 ⟨A3, n3, c3, x3, rfl, b3, f3, k3, o3⟩
    have O3 := Lib.hid (O2.out.trans0 o3)
    have B3 := Lib.hid b3
    have D3 := Lib.hid (D2.out.only0 o3)
    clear o3 b3
    go_wp2_with fail
    refine (ref4_IsClock B3.out k3).mono ?_
    rintro e w4 ⟨rfl, o4⟩
    have O4 := Lib.hid (O3.out.trans0 o4)
    have hcl : w4.cell? ⟨g, 0, none⟩ = some (.slice (some ⟨cb, 0, none⟩) D.lines.length cap) := (D3.out.only0 o4).cell 0
    clear o4
    rw [HC.out, HV.out]
    go_wp2
    go_ret2
    exact ⟨rfl, O4.out⟩
  by_cases hnl : n = D.lines.length
  · have q1 : ((n : Int) != (D.lines.length : Int)) = false := by rw [hnl]; simp
    cases bc
    · rw [if_neg (fun h => by cases h.2.2)]
      clear hnl
      go_enter Try.func62, Try.ntmps62
      go_wp2_with fail
      refine (ref3_Load_any g cb cap D 0 _ HD.out).mono ?_
      rintro e w1 ⟨A1, n1, c1, x1, rfl, b1, f1, k1, o1⟩
      have O1 := Lib.hid o1
      have B1 := Lib.hid b1
      have D1 := Lib.hid (HD.out.only0 o1)
      clear o1 b1
      go_wp2_with fail
      refine (ref4_IsSuper _ _ _ _ _ B1.out).mono ?_
      rintro e w2 ⟨rfl, o2⟩
      have O2 := Lib.hid (O1.out.trans0 o2)
      have D2 := Lib.hid (D1.out.only0 o2)
      clear o2
      rw [HB.out, HN.out]
      go_wp2_with fail
      refine (ref3_Load_any g cb cap D 1 _ D2.out).mono ?_
      rintro e w3 ⟨A3, n3, c3, x3, rfl, b3, f3, k3, o3⟩
      have O3 := Lib.hid (O2.out.trans0 o3)
      have B3 := Lib.hid b3
      have D3 := Lib.hid (D2.out.only0 o3)
      clear o3 b3
      go_wp2_with fail
      refine (ref4_IsClock B3.out k3).mono ?_
      rintro e w4 ⟨rfl, o4⟩
      have O4 := Lib.hid (O3.out.trans0 o4)
      have hcl : w4.cell? ⟨g, 0, none⟩ = some (.slice (some ⟨cb, 0, none⟩) D.lines.length cap) := (D3.out.only0 o4).cell 0
      clear o4
      rw [HC.out, HV.out]
      go_wp2
      go_ret2
      exact ⟨rfl, O4.out⟩
    · rw [if_pos ⟨rfl, hnl, rfl⟩]
      clear hnl
      by_cases hmx : 1152921504606846976 < v
      all_goals
        first | rw [if_pos hmx] | rw [if_neg hmx]
        have q2 : decide ((1152921504606846976 : Int) < (v : Int)) = decide (1152921504606846976 < v) := by rw [decide_eq_decide]; omega
        first | rw [decide_eq_true hmx] at q2 | rw [decide_eq_false hmx] at q2
        clear hmx
        go_enter Try.func62, Try.ntmps62
        go_wp2_with fail
        refine (ref3_Load_any g cb cap D 0 _ HD.out).mono ?_
        rintro e w1 ⟨A1, n1, c1, x1, rfl, b1, f1, k1, o1⟩
        have O1 := Lib.hid o1
        have B1 := Lib.hid b1
        have D1 := Lib.hid (HD.out.only0 o1)
        clear o1 b1
        go_wp2_with fail
        refine (ref4_IsSuper _ _ _ _ _ B1.out).mono ?_
        rintro e w2 ⟨rfl, o2⟩
        have O2 := Lib.hid (O1.out.trans0 o2)
        have D2 := Lib.hid (D1.out.only0 o2)
        clear o2
        rw [HB.out, HN.out]
        go_wp2_with fail
        refine (ref3_Load_any g cb cap D 1 _ D2.out).mono ?_
        rintro e w3 ⟨A3, n3, c3, x3, rfl, b3, f3, k3, o3⟩
        have O3 := Lib.hid (O2.out.trans0 o3)
        have B3 := Lib.hid b3
        have D3 := Lib.hid (D2.out.only0 o3)
        clear o3 b3
        go_wp2_with fail
        refine (ref4_IsClock B3.out k3).mono ?_
        rintro e w4 ⟨rfl, o4⟩
        have O4 := Lib.hid (O3.out.trans0 o4)
        have hcl : w4.cell? ⟨g, 0, none⟩ = some (.slice (some ⟨cb, 0, none⟩) D.lines.length cap) := (D3.out.only0 o4).cell 0
        clear o4
        rw [HC.out, HV.out]
        go_wp2
        go_ret2
        exact ⟨rfl, O4.out⟩
  · rw [if_neg (fun h => hnl h.2.1)]
    have q1 : ((n : Int) != (D.lines.length : Int)) = true := by rw [bne_iff_ne]; omega
    clear hnl
    go_enter Try.func62, Try.ntmps62
    go_wp2_with fail
    refine (ref3_Load_any g cb cap D 0 _ HD.out).mono ?_
    rintro e w1 ⟨A1, n1, c1, x1, rfl, b1, f1, k1, o1⟩
    have O1 := Lib.hid o1
    have B1 := Lib.hid b1
    have D1 := Lib.hid (HD.out.only0 o1)
    clear o1 b1
    go_wp2_with fail
    refine (ref4_IsSuper _ _ _ _ _ B1.out).mono ?_
    rintro e w2 ⟨rfl, o2⟩
    have O2 := Lib.hid (O1.out.trans0 o2)
    have D2 := Lib.hid (D1.out.only0 o2)
    clear o2
    rw [HB.out, HN.out]
    go_wp2_with fail
    refine (ref3_Load_any g cb cap D 1 _ D2.out).mono ?_
    rintro e w3 ⟨A3, n3, c3, x3, rfl, b3, f3, k3, o3⟩
    have O3 := Lib.hid (O2.out.trans0 o3)
    have B3 := Lib.hid b3
    have D3 := Lib.hid (D2.out.only0 o3)
    clear o3 b3
    go_wp2_with fail
    refine (ref4_IsClock B3.out k3).mono ?_
    rintro e w4 ⟨rfl, o4⟩
    have O4 := Lib.hid (O3.out.trans0 o4)
    have hcl : w4.cell? ⟨g, 0, none⟩ = some (.slice (some ⟨cb, 0, none⟩) D.lines.length cap) := (D3.out.only0 o4).cell 0
    clear o4
    rw [HC.out, HV.out]
    go_wp2
    go_ret2
    exact ⟨rfl, O4.out⟩
theorem geom_Format_nil (w : World) : Calls Try.prog 57 #[.pointer none] w fun e w' => e = .returned (.int .i64 1) ∧ w = w' := by
  go_enter Try.func57, Try.ntmps57
  go_wp2
  go_ret
  exact ⟨rfl, rfl⟩
/-- the answer of a device that is opened is small -/
theorem openA_eq (D : Dev) : (((openA D).1 : Int) == ((openA D).1 : Int)) = true := by simp
end Go.Proofs.Ytfafpggppbolkaa
