/- The contracts of package sum and of its reference. -/
import Derived.Test.YtlggichakafkiaaGreatProg
import Derived.WalkKit
import Derived.WalkLawsBesides
import Derived.WalkSpells
import Derived.Outline
import Derived.Lib.Hide
import Derived.Deep.LoopGhost
import Derived.Laws.BitsLemmas
import Derived.Laws.BitsAllLaws
import Derived.Deep.QuietTactic
import Derived.BigQuiet
import Derived.IntWalk
import Derived.Laws.StructEq
import Derived.Deep.MidRow
import Derived.StillTailTactics
import Derived.BigRegion
import Derived.Deep.RegionHeld3
import Derived.Lib.BufferWrite
import Derived.Test.YtlggichakafkiaaGreatGTopHostile1
set_option linter.unusedSimpArgs false
set_option linter.unusedVariables false
namespace Go.Proofs.YtlggichakafkiaaGreat
open Go.RowKit Go.Proofs.FuCrc Go.Proofs.FuMem
set_option maxRecDepth 100000
theorem bits_xor32 (a b : Nat) (ha : a < 4294967296) (hb : b < 4294967296) : bits .xor .u32 (a : Int) (b : Int) = ((a ^^^ b : Nat) : Int) := by
 have hx : a ^^^ b < 4294967296 := xor_lt ha hb
 show IntKind.u32.wrap ((BitVec.ofInt 32 (a : Int) ^^^ BitVec.ofInt 32 (b : Int)).toNat : Int) = _
 rw [BitVec.toNat_xor, BitVec.ofInt_natCast, BitVec.ofInt_natCast, BitVec.toNat_ofNat, BitVec.toNat_ofNat, Nat.mod_eq_of_lt (by omega), Nat.mod_eq_of_lt (by omega), IntKind.wrap_u32]
 omega
theorem xor_turn (a : Nat) (ha : a < 4294967296) : bits .xor .u32 (a : Int) 4294967295 = ((a ^^^ 4294967295 : Nat) : Int) := bits_xor32 a 4294967295 ha (by omega)
theorem bits_and32_1 (a : Nat) (ha : a < 4294967296) : bits .and .u32 (a : Int) 1 = ((a % 2 : Nat) : Int) := by
 show IntKind.u32.wrap ((BitVec.ofInt 32 (a : Int) &&& BitVec.ofInt 32 1).toNat : Int) = _
 rw [BitVec.toNat_and, BitVec.ofInt_natCast, BitVec.toNat_ofNat, Nat.mod_eq_of_lt (by omega), show (BitVec.ofInt 32 1).toNat = 1 from rfl, Nat.and_one_is_mod, IntKind.wrap_u32]
 omega
theorem cb_even {j y : Nat} (h : (((cbits j y : Nat) : Int) % 2 == 0) = true) (hy : y < 4294967296) : ((cbits j y : Nat) : Int) / 2 % 4294967296 = (cbits (j + 1) y : Nat) := by
 have := cbits_lt j hy
 rw [cbits_succ, cbit, if_pos (by simp at h; omega)]
 omega
theorem cb_odd {j y : Nat} (h : (((cbits j y : Nat) : Int) % 2 == 0) = false) (hy : y < 4294967296) : bits .xor .u32 (((cbits j y : Nat) : Int) / 2 % 4294967296) 3988292384 = (cbits (j + 1) y : Nat) := by
 have := cbits_lt j hy
 rw [cbits_succ, cbit, if_neg (by simp at h; omega), show ((cbits j y : Nat) : Int) / 2 % 4294967296 = ((cbits j y / 2 : Nat) : Int) by omega]
 exact bits_xor32 _ 3988292384 (by omega) (by omega)
theorem sum_step (c x : Nat) (w : World) (hc : c < 4294967296) (hx : x < 256) :
  Calls Tryz.prog 301 #[.int .u32 c, .int .u8 x] w fun e w' => e = .returned (.int .u32 (cstep c x)) ∧ w = w' := by
 have hy : c ^^^ x < 4294967296 := xor_lt hc (by omega)
 go_enter Tryz.func301, Tryz.ntmps301
 go_wp2
 go_step3
 go_wp2
 go_step3
 go_wp2
 rw [bits_xor32 c x hc (by omega)]
 go_loop [0, 5] (fun cc k => ∃ j : Nat, j ≤ 8 ∧ k = .int .i64 j ∧ cc = .int .u32 (cbits j (c ^^^ x))) (fun _ k => 8 - (intOf k).toNat)
 case atStart => exact ⟨0, Nat.zero_le _, rfl, rfl⟩
 case round =>
  obtain ⟨j, hj, rfl, rfl⟩ := hrel
  by_cases hlt : j < 8
  ·go_wp2
   all_goals
    go_round
    case rel => exact ⟨j + 1, by omega, by go_num, by first | rw [cb_even ‹_› hy] | (rw [cb_odd ‹_› hy])⟩
    case measure => simp [intOf]; omega
  ·go_wp2
   obtain rfl : j = 8 := by omega
   go_ret
   exact ⟨rfl, rfl⟩
theorem sum_Add (c : Nat) (A : Option Addr) (n cap : Nat) (l : List UInt8) (w : World) (hc : c < 4294967296) (hb : Bs w A n l) (hn : n ≤ maxLen) :
  Calls Tryz.prog 249 #[.int .u32 c, .slice A n cap] w fun e w' => e = .returned (.int .u32 (cadd c l)) ∧ w = w' := by
 have hy : c ^^^ 4294967295 < 4294967296 := xor_lt hc (by omega)
 have hl := hq9 hb.len
 have HB := hq9 hb
 clear hb
 unfold maxLen at hn
 go_enter Tryz.func249, Tryz.ntmps249
 go_wp2
 rw [xor_turn c hc]
 go_loop [0, 6, 11] (fun cc _ k => ∃ j : Nat, j ≤ n ∧ k = .int .i64 j ∧ cc = .int .u32 (cfold (c ^^^ 4294967295) (l.take j))) (fun _ _ k => n - (intOf k).toNat)
 case atStart => exact ⟨0, Nat.zero_le _, rfl, rfl⟩
 case round =>
  obtain ⟨j, hj, rfl, rfl⟩ := hrel
  by_cases hlt : j < n
  ·obtain ⟨b, off, rfl, hcell⟩ := HB.out.at_ (by omega)
   have hjl : j < l.length := by rw [hl.out]; exact hlt
   have hc1 := hcell j hjl
   have hx := byte_lt l[j]
   have hcl := cfold_lt (l.take j) hy
   have HT := hq9 (cfold_take (c ^^^ 4294967295) l j hjl)
   clear hcell
   go_wp2_with (go_at_call 301; refine (sum_step _ _ _ hcl hx).mono ?_; rintro e w' ⟨rfl, rfl⟩)
   go_round
   case rel => exact ⟨j + 1, by omega, by go_num, by rw [HT.out]⟩
   case measure => simp [intOf]; omega
  ·go_wp2
   go_ret
   exact ⟨ret_int (by rw [List.take_of_length_le (by rw [hl.out]; omega)]; exact xor_turn _ (cfold_lt l hy)), rfl⟩
theorem sum_Sum (A : Option Addr) (n cap : Nat) (l : List UInt8) (w : World) (hb : Bs w A n l) (hn : n ≤ maxLen) :
  Calls Tryz.prog 203 #[.slice A n cap] w fun e w' => e = .returned (.int .u32 (crc l)) ∧ w = w' := by
 have HB := hq9 hb
 clear hb
 go_enter Tryz.func203, Tryz.ntmps203
 go_wp2_with (go_at_call 249; refine (sum_Add 0 _ _ _ l _ (by omega) HB.out hn).mono ?_; rintro e w' ⟨rfl, rfl⟩)
 go_ret
 exact ⟨rfl, rfl⟩
theorem sum_Text (s : ByteArray) (w : World) (hn : s.size ≤ maxLen) :
  Calls Tryz.prog 345 #[.string s] w fun e w' => e = .returned (.int .u32 (crc s.data.toList)) ∧ w = w' := by
 unfold maxLen at hn
 go_enter Tryz.func345, Tryz.ntmps345
 go_wp2
 go_loop [3, 4, 7] (fun cc _ k => ∃ j : Nat, j ≤ s.size ∧ k = .int .i64 j ∧ cc = .int .u32 (cfold 4294967295 (s.data.toList.take j))) (fun _ _ k => s.size - (intOf k).toNat)
 case atStart => exact ⟨0, Nat.zero_le _, rfl, rfl⟩
 case round =>
  obtain ⟨j, hj, rfl, rfl⟩ := hrel
  by_cases hlt : j < s.size
  ·have hjl : j < s.data.toList.length := by simpa using hlt
   have hx := byte_lt s[j]
   have hcl := cfold_lt (s.data.toList.take j) (c := 4294967295) (by omega)
   have HT := hq9 (cfold_take 4294967295 s.data.toList j hjl)
   go_wp2_with (go_at_call 301; refine (sum_step _ _ _ hcl hx).mono ?_; rintro e w' ⟨rfl, rfl⟩)
   go_round
   case rel => exact ⟨j + 1, by omega, by go_num, by rw [HT.out]; rfl⟩
   case measure => simp [intOf]; omega
  ·go_wp2
   go_ret
   exact ⟨ret_int (by rw [List.take_of_length_le (by simp; omega)]; exact xor_turn _ (cfold_lt _ (by omega))), rfl⟩
end Go.Proofs.YtlggichakafkiaaGreat
namespace Go.Proofs.YtlggichakafkiaaGreat
open Go.RowKit Go.Proofs.FuCrc Go.Proofs.FuMem
set_option maxRecDepth 100000
def lev (c : Nat) : Nat := if c / 2 ^ 31 % 2 = 0 then 1 else if c / 2 ^ 30 % 2 = 0 then 2 else if c / 2 ^ 29 % 2 = 0 then 3 else 4
def Ones (c k : Nat) : Prop := ∀ j, j < k → c / 2 ^ (31 - j) % 2 = 1
theorem lev_of {c k : Nat} (hk : k ≤ 3) (h : Ones c k) (h2 : k = 3 ∨ c / 2 ^ (31 - k) % 2 = 0) : lev c = k + 1 := by
 unfold lev
 have h0 := h 0
 have h1 := h 1
 have h3 := h 2
 obtain rfl | rfl | rfl | rfl : k = 0 ∨ k = 1 ∨ k = 2 ∨ k = 3 := by omega
 all_goals simp at h0 h1 h3 h2 ⊢
 all_goals simp [*]
theorem ones_succ {c k : Nat} (h : Ones c k) (h2 : c / 2 ^ (31 - k) % 2 = 1) : Ones c (k + 1) := fun j hj => by
 by_cases e : j = k
 ·rw [e]; exact h2
 ·exact h j (by omega)
theorem bit_at {c k : Nat} (hc : c < 4294967296) : bits .and .u32 ((c : Int) / 2 ^ (31 - k)) 1 = ((c / 2 ^ (31 - k) % 2 : Nat) : Int) := by
 rw [show (c : Int) / 2 ^ (31 - k) = ((c / 2 ^ (31 - k) : Nat) : Int) by simp]
 exact bits_and32_1 _ (Nat.lt_of_le_of_lt (Nat.div_le_self _ _) hc)
theorem bit_zero {c k : Nat} (hc : c < 4294967296) (h : (bits .and .u32 ((c : Int) / 2 ^ (31 - k)) 1 == 0) = true) : c / 2 ^ (31 - k) % 2 = 0 := by
 rw [bit_at hc, beq_iff_eq] at h
 exact Int.ofNat.inj h
theorem bit_one {c k : Nat} (hc : c < 4294967296) (h : (bits .and .u32 ((c : Int) / 2 ^ (31 - k)) 1 == 0) = false) : c / 2 ^ (31 - k) % 2 = 1 := by
 rw [bit_at hc] at h
 have : ¬ c / 2 ^ (31 - k) % 2 = 0 := fun e => by simp [e] at h
 omega
theorem place_Bucket (s : ByteArray) (w : World) (hn : s.size ≤ maxLen) :
  Calls Tryz.prog 313 #[.string s] w fun e w' => e = .returned (.int .i64 ((crc s.data.toList % 8 : Nat) : Int)) ∧ w = w' := by
 have hc := crc_lt s.data.toList
 go_enter Tryz.func313, Tryz.ntmps313
 go_wp2_with fail
 refine (sum_Text _ _ hn).mono ?_
 rintro e w' ⟨rfl, rfl⟩
 go_wp2
 go_ret
 exact ⟨ret_int (by omega), rfl⟩
theorem place_Level (s : ByteArray) (w : World) (hn : s.size ≤ maxLen) :
  Calls Tryz.prog 296 #[.string s] w fun e w' => e = .returned (.int .i64 (lev (crc s.data.toList))) ∧ w = w' := by
 have hc := crc_lt s.data.toList
 have HT := sum_Text s w hn
 generalize crc s.data.toList = c at *
 have HT := hq9 HT
 go_enter Tryz.func296, Tryz.ntmps296
 go_wp2_with fail
 refine HT.out.mono ?_
 rintro e w' ⟨rfl, rfl⟩
 go_wp2
 go_loop [4, 5, 8] (fun n _ i => ∃ k : Nat, k ≤ 3 ∧ Ones c k ∧ i = .int .i64 k ∧ n = .int .i64 ((k : Int) + 1)) (fun _ _ i => 3 - (intOf i).toNat)
 case atStart => exact ⟨0, by omega, fun j hj => by omega, rfl, rfl⟩
 case round =>
  obtain ⟨k, hk, ho, rfl, rfl⟩ := hrel
  have HO := hq9 ho
  clear ho
  by_cases hlt : k < 3
  ·go_wp2
   ·go_ret
    exact ⟨ret_int (by rw [lev_of hk HO.out (.inr (bit_zero hc ‹_›))]; omega), rfl⟩
   ·go_round
    case rel => exact ⟨k + 1, by omega, ones_succ HO.out (bit_one hc ‹_›), by go_num, by go_num⟩
    case measure => simp [intOf]; omega
  ·go_wp2
   go_ret
   exact ⟨ret_int (by rw [lev_of hk HO.out (.inl (by omega))]; omega), rfl⟩
theorem lev_lo (c : Nat) : 1 ≤ lev c ∧ lev c ≤ 4 := by
 unfold lev
 repeat' split
 all_goals omega
end Go.Proofs.YtlggichakafkiaaGreat
namespace Go.Proofs.YtlggichakafkiaaGreat
open Go.RowKit Go.Proofs.FuMem
set_option maxRecDepth 100000
def low (x : Int) (n : Nat) : Nat := (x % 18446744073709551616).toNat % n
theorem low_lt (x : Int) (n : Nat) (h : 0 < n) : low x n < n := Nat.mod_lt _ h
theorem low_eq (x : Int) (n : Nat) (h : 0 < n) (h2 : n < 9223372036854775808) :
  IntKind.i64.wrap ((IntKind.u64.wrap x).tmod n) = low x n := by
 rw [IntKind.wrap_u64, IntKind.wrap_i64, Int.tmod_eq_emod_of_nonneg (by omega)]
 have h0 : 0 ≤ x % 18446744073709551616 := by omega
 have h1 : ((low x n : Nat) : Int) = x % 18446744073709551616 % n := by
  unfold low
  rw [Int.natCast_emod, Int.toNat_of_nonneg h0]
 have := low_lt x n h
 omega
theorem law0_Low (x : Int) (n : Nat) (w : World) (h : 0 < n) (h2 : n < 9223372036854775808) :
  Calls Tryz.prog 25 #[.int .i64 x, .int .i64 n] w fun e w' => e = .returned (.int .i64 (low x n)) ∧ w = w' := by
 go_enter Tryz.func25, Tryz.ntmps25
 go_wp2
 go_ret
 exact ⟨ret_int (by rw [← low_eq x n h h2, wrap64_eq]), rfl⟩
theorem Tryz.byteInfo : (Tryz.prog.info? 5).map (fun i => (i.zero, i.size, i.bytes)) = some (some (.int .u8 0), 1, 1) := by kernel_rfl
end Go.Proofs.YtlggichakafkiaaGreat
namespace Go.Proofs.FuMem
open Go.RowKit
set_option maxRecDepth 100000
def Is (w : World) (A : Option Addr) (n : Nat) (l : List Int) : Prop := Sl w A n (l.map (.int .i64))
section
variable {w w' : World} {S : List Nat} {A : Option Addr} {n c : Nat} {l : List Int} {e : TypeId} {base g : Nat}
theorem Is.len (h : Is w A n l) : l.length = n := by simpa [Is, Sl] using h.1
theorem Is.at_ (h : Is w A n l) (hn : 0 < n) : ∃ b off, A = some ⟨b, off, none⟩ ∧ ∀ k (hk : k < l.length), w.cell? ⟨b, off + k, none⟩ = some (.int .i64 l[k]) := by
 obtain ⟨b, off, e, hc⟩ := Sl.at_ h hn
 exact ⟨b, off, e, fun k hk => by rw [hc k (by simpa using hk), List.getElem_map]⟩
theorem Is.nil (w : World) (A : Option Addr) : Is w A 0 [] := Sl.nil w A
theorem Is.only (h : Is w A n l) (ho : Only S w w') (hs : ∀ b off s, A = some ⟨b, off, s⟩ → b ∉ S) : Is w' A n l := Sl.only h ho hs
theorem Is.only0 (h : Is w A n l) (ho : Only [] w w') : Is w' A n l := Sl.only0 h ho
theorem one_I : ∀ u ∈ l.map (Value.int .i64), u.oneCell' = true := by
 intro u hu
 obtain ⟨x, _, rfl⟩ := List.mem_map.1 hu
 rfl
theorem is_own (h : w.ownsRow base e 1 (.slice A n c) n (l.map (.int .i64))) : Is w A n l := Sl.of_own h
end
theorem cell_new1 (w : World) (t : TypeId) (v : Value) : Sl (w.alloc (.cells #[v] t)) (some ⟨w.heap.size, 0, none⟩) 1 [v] := Sl.of_blk (Blk.new w t #[v]) 0 rfl (by simp)
theorem ints_new1 (k : IntKind) (z : Int) : ∀ u ∈ [Value.int k z], u.oneCell' = true := by
 intro u hu
 rw [List.mem_singleton] at hu
 subst hu
 rfl
end Go.Proofs.FuMem
namespace Go.Proofs.YtlggichakafkiaaGreat
open Go.RowKit Go.Proofs.FuMem
theorem Tryz.intInfo : (Tryz.prog.info? 3).map (fun i => (i.zero, i.size, i.bytes)) = some (some (.int .i64 0), 1, 8) := by kernel_rfl
def MadeI (w : World) (l : List Int) (v : Value) (w' : World) : Prop := ∃ A c, v = .slice A l.length c ∧ w'.ownsRow w.heap.size 3 1 v l.length (l.map (.int .i64)) ∧ Only [] w w'
theorem madeI_own {w w' : World} {A : Option Addr} {n c : Nat} {l : List Int} (hl : l.length = n) (h : w'.ownsRow w.heap.size 3 1 (.slice A n c) n (l.map (.int .i64))) (o : Only [] w w') : MadeI w l (.slice A n c) w' := by
 subst hl
 exact ⟨_, _, rfl, h, o⟩
theorem madeI_nil (w : World) : MadeI w [] (.slice none 0 0) w := ⟨none, 0, rfl, own_nil _ _ _ _, Only.refl _ _⟩
end Go.Proofs.YtlggichakafkiaaGreat
namespace Go.Proofs.YtlggichakafkiaaGreat
open Go.RowKit Go.Proofs.FuMem Go.Proofs.FuClass
set_option maxRecDepth 100000
theorem class_Span (c : Int) (w : World) (h : -9223372036854775808 ≤ c ∧ c ≤ 9223372036854775807) :
  Calls Tryz.prog 131 #[.int .i64 c] w fun e w' => e = .returned (.int .i64 (span c)) ∧ w = w' := by
 rcases span_cases c with ⟨rfl, hs⟩ | ⟨rfl, hs⟩ | ⟨rfl, hs⟩ | ⟨rfl, hs⟩ | ⟨ho, hs⟩
 ·rw [hs]
  clear hs
  go_enter Tryz.func131, Tryz.ntmps131
  go_wp2
  go_ret
  exact ⟨rfl, rfl⟩
 ·rw [hs]
  clear hs
  go_enter Tryz.func131, Tryz.ntmps131
  go_wp2
  go_ret
  exact ⟨rfl, rfl⟩
 ·rw [hs]
  clear hs
  go_enter Tryz.func131, Tryz.ntmps131
  go_wp2
  go_ret
  exact ⟨rfl, rfl⟩
 ·rw [hs]
  clear hs
  go_enter Tryz.func131, Tryz.ntmps131
  go_wp2
  go_ret
  exact ⟨rfl, rfl⟩
 ·rw [hs]
  clear hs
  by_cases hc : c < 0
  ·clear ho
   go_enter Tryz.func131, Tryz.ntmps131
   go_wp2
   go_ret
   exact ⟨rfl, rfl⟩
  ·have h3 : 3 < c := by omega
   clear ho
   go_enter Tryz.func131, Tryz.ntmps131
   go_wp2
   go_ret
   exact ⟨rfl, rfl⟩
theorem class_Cap (c : Int) (w : World) (h : -9223372036854775808 ≤ c ∧ c ≤ 9223372036854775807) :
  Calls Tryz.prog 92 #[.int .i64 c] w fun e w' => e = .returned (.int .i64 (capOf c)) ∧ w = w' := by
 have HC := hq9 (class_Span c w h)
 have hs := span_le c
 by_cases h0 : span c = 0
 ·have hc : capOf c = 0 := if_pos h0
  rw [hc]
  clear hc hs
  rw [h0] at HC
  clear h0
  go_enter Tryz.func92, Tryz.ntmps92
  go_wp2_with fail
  refine (HC.out).mono ?_
  rintro e w' ⟨rfl, rfl⟩
  go_wp2
  go_ret
  exact ⟨rfl, rfl⟩
 ·have hc : capOf c = 28 + 63 * ((span c : Int) - 1) := if_neg h0
  rw [hc]
  have h1 : 0 < span c := by omega
  clear hc h0
  generalize span c = s at *
  go_enter Tryz.func92, Tryz.ntmps92
  go_wp2_with fail
  refine (HC.out).mono ?_
  rintro e w' ⟨rfl, rfl⟩
  go_wp2
  go_ret
  exact ⟨ret_int (by omega), rfl⟩
def NoneBelow (n : Int) (k : Nat) : Prop := ∀ j : Nat, j < k → capOf j < n
theorem NoneBelow.succ {n : Int} {k : Nat} (h : NoneBelow n k) (h2 : capOf k < n) : NoneBelow n (k + 1) := fun j hj => by
 by_cases e : j = k
 ·rw [e]; exact h2
 ·exact h j (by omega)
theorem class_Need (n : Int) (w : World) (h : -9223372036854775808 ≤ n ∧ n ≤ 9223372036854775807) :
  Calls Tryz.prog 53 #[.int .i64 n] w fun e w' => e = .returned (.int .i64 (need n)) ∧ w = w' := by
 by_cases h0 : n < 0
 ·rw [need_no (.inl h0)]
  go_enter Tryz.func53, Tryz.ntmps53
  go_wp2
  go_ret
  exact ⟨rfl, rfl⟩
 ·have h1 : 0 ≤ n := by omega
  clear h0
  go_enter Tryz.func53, Tryz.ntmps53
  go_wp2
  go_loop [3, 6] (fun _ i => ∃ k : Nat, k ≤ 4 ∧ i = .int .i64 k ∧ NoneBelow n k) (fun _ i => 4 - (intOf i).toNat)
  case atStart => exact ⟨0, by omega, rfl, fun j hj => by omega⟩
  case round =>
   obtain ⟨k, hk, rfl, hno⟩ := hrel
   have HN := hq9 hno
   clear hno
   by_cases hlt : k < 4
   ·have hcb := capOf_bd (k : Int)
    have hcc := fun w => class_Cap (k : Int) w (by omega)
    by_cases hfit : n ≤ capOf (k : Int)
    ·have HE := hq9 (need_of hlt h1 HN.out hfit)
     have HC := hq9 hcc
     clear hcc
     generalize capOf (k : Int) = x at *
     go_wp2_with fail
     refine (HC.out _).mono ?_
     rintro e w' ⟨rfl, rfl⟩
     go_wp2
     go_ret
     exact ⟨ret_int HE.out.symm, rfl⟩
    ·have HE := hq9 (HN.out.succ (by omega))
     have HC := hq9 hcc
     clear hcc
     generalize capOf (k : Int) = x at *
     go_wp2_with fail
     refine (HC.out _).mono ?_
     rintro e w' ⟨rfl, rfl⟩
     go_wp2
     go_round
     case rel => exact ⟨k + 1, by omega, by go_num, HE.out⟩
     case measure => simp [intOf]; omega
   ·obtain rfl : k = 4 := by omega
    go_wp2
    go_ret
    exact ⟨ret_int (need_no (.inr HN.out)).symm, rfl⟩
end Go.Proofs.YtlggichakafkiaaGreat
namespace Go.Proofs.YtlggichakafkiaaGreat
open Go.RowKit Go.Proofs.FuMem Go.Proofs.FuCode
set_option maxRecDepth 100000
theorem code_check (A : Option Addr) (n c : Nat) (at_ k : Int) (w : World) (hn : n ≤ maxLen) (h1 : -9223372036854775808 ≤ at_ ∧ at_ ≤ 9223372036854775807) (h2 : -9223372036854775808 ≤ k ∧ k ≤ 9223372036854775807) :
  Calls Tryz.prog 164 #[.slice A n c, .int .i64 at_, .int .i64 k] w fun e w' => e = .returned (.int .i64 (wrong n at_ k)) ∧ w = w' := by
 unfold maxLen at hn
 by_cases ha : k < 1 ∨ 8 < k
 ·have hw : wrong n at_ k = 1 := by unfold wrong; rw [if_pos ha]
  have HW := hq9 hw
  clear hw
  by_cases hb : k < 1
  all_goals
   go_enter Tryz.func164, Tryz.ntmps164
   go_wp2
   go_ret
   exact ⟨ret_int (by rw [HW.out]; rfl), rfl⟩
 ·have hk1 : 1 ≤ k := by omega
  have hk2 : k ≤ 8 := by omega
  by_cases hb : at_ < 0 ∨ (n : Int) - k < at_
  ·have hw : wrong n at_ k = 2 := by unfold wrong; rw [if_neg ha, if_pos hb]
   have HW := hq9 hw
   clear hw ha
   by_cases hc : at_ < 0
   all_goals
    go_enter Tryz.func164, Tryz.ntmps164
    go_wp2
    go_ret
    exact ⟨ret_int (by rw [HW.out]; rfl), rfl⟩
  ·have hw : wrong n at_ k = 0 := by unfold wrong; rw [if_neg ha, if_neg hb]
   have HW := hq9 hw
   have hc1 : 0 ≤ at_ := by omega
   have hc2 : at_ ≤ n - k := by omega
   clear hw ha hb
   go_enter Tryz.func164, Tryz.ntmps164
   go_wp2
   go_ret
   exact ⟨ret_int (by rw [HW.out]; rfl), rfl⟩
def MadeB (w : World) (l : List UInt8) (v : Value) (w' : World) : Prop := ∃ A c, v = .slice A l.length c ∧ w'.ownsRow w.heap.size 5 1 v l.length (l.map B) ∧ Only [] w w'
theorem madeB_of {w w' : World} {g n c : Nat} {l : List UInt8} (h : OwnB 5 w' w.heap.size g n c l) (o : Only [] w w') : MadeB w l (.slice (some ⟨g, 0, none⟩) n c) w' := by
 have hl := h.len
 subst hl
 exact ⟨_, _, rfl, h, o⟩
theorem madeB_own {w w' : World} {A : Option Addr} {n c : Nat} {l : List UInt8} (hl : l.length = n) (h : w'.ownsRow w.heap.size 5 1 (.slice A n c) n (l.map B)) (o : Only [] w w') : MadeB w l (.slice A n c) w' := by
 subst hl
 exact ⟨_, _, rfl, h, o⟩
theorem own_empty (w : World) (e : TypeId) : (w.alloc (.cells #[] e)).ownsRow w.heap.size e 1 (.slice (some ⟨w.heap.size, 0, none⟩) 0 0) 0 [] :=
 ⟨rfl, .inr ⟨_, 0, #[], rfl, Nat.le_refl _, heap_alloc_new w _, Nat.le_refl _, Nat.zero_le _, rfl, rfl⟩⟩
theorem clone_bytes (A : Option Addr) (n c : Nat) (l : List UInt8) (w : World) (h : Bs w A n l) (hn : n ≤ 1000000) :
  Calls Tryz.prog 80 #[.slice A n c] w fun e w' => ∃ v, e = .returned v ∧ MadeB w l v w' := by
 obtain rfl | ⟨a, rfl⟩ : A = none ∨ ∃ a, A = some a := by cases A <;> simp
 ·have hn0 : n = 0 := by
   rcases h.2 with h0 | ⟨b, off, e, _⟩
   ·exact h0
   ·cases e
  subst hn0
  obtain rfl : l = [] := List.eq_nil_of_length_eq_zero h.len
  have he := Lib.run_eql_slice_nil (P := Tryz.prog) w 71 5 none 0 c 0 0 Tryz.underlying71
  clear h
  go_enter Tryz.func80, Tryz.ntmps80
  go_wp2
  go_ret
  exact ⟨_, rfl, none, 0, rfl, own_nil _ _ _ _, Only.refl _ _⟩
 ·obtain ⟨i0, hi, hz0, hz1, hz2⟩ := info_parts Tryz.byteInfo
  have on0 : Only [] w (w.alloc (.cells #[] 5)) := (Only.refl _ _).alloc _
  obtain ⟨A1, c1, w1, hr1, ho1, hs1, on1⟩ := append_own (P := Tryz.prog) (w.alloc (.cells #[] 5)) on0 71 71 5 i0 _ 1 Tryz.underlying71 hi hz0 hz1 hz2 rfl _ 0 [] (own_empty w _) (some a) n c _ (Sl.only0 h on0) one_B (by unfold maxLen; omega) (by omega)
  rw [Nat.zero_add, List.nil_append] at ho1
  rw [Nat.zero_add] at hr1
  have hl := h.len
  have H1 := hq9 ho1
  have H2 := hq9 on1
  have HL := hq9 hl
  clear h ho1 hs1 on1 on0 hl hi hz0 hz1 hz2
  have he := Lib.run_eql_slice_nil (P := Tryz.prog) w 71 5 (some a) n c 0 0 Tryz.underlying71
  go_enter Tryz.func80, Tryz.ntmps80
  go_wp2_with (at_builtin; refine wpList_append_run _ rfl (.tmp 5) (.tmp 6) 71 rfl _ _ rfl rfl _ _ hr1 ?_)
  go_ret
  exact ⟨.slice A1 n c1, rfl, A1, c1, by rw [HL.out], by rw [HL.out]; exact H1.out, H2.out⟩
end Go.Proofs.YtlggichakafkiaaGreat
namespace Go.Proofs.YtlggichakafkiaaGreat
open Go.RowKit Go.Proofs.FuMem Go.Proofs.FuCode
set_option maxRecDepth 100000
def MadeE (w : World) (r : List UInt8 × Nat) (e : Ending) (w' : World) : Prop := ∃ x, e = .returned (.tuple #[x, .int .i64 r.2]) ∧ MadeB w r.1 x w'
theorem madeE_err (w : World) (k : Nat) : MadeE w ([], k) (.returned (.tuple #[.slice none 0 0, .int .i64 k])) w := ⟨_, rfl, none, 0, rfl, own_nil _ _ _ _, Only.refl _ _⟩
theorem byte_shr (v j : Nat) : ((v : Int) / 2 ^ (8 * j) % 256) = ((UInt8.ofNat (v / 256 ^ j % 256)).toNat : Int) := by
 rw [ofNat_mod, pow256]
 simp
theorem over_lay_succ (l : List UInt8) (a j v : Nat) (h : a + j < l.length) : (over l a (lay j v)).set (a + j) (UInt8.ofNat (v / 256 ^ j % 256)) = over l a (lay (j + 1) v) := by
 have := over_snoc l a (lay j v) (UInt8.ofNat (v / 256 ^ j % 256)) (by rw [lay_length]; exact h)
 rw [lay_succ, this, lay_length]
theorem shr_pos {v m : Nat} (h : 256 ^ m ≤ v) : ((v : Int) / 2 ^ (8 * m) != 0) = true := by
 have h0 : 0 < v / 256 ^ m := Nat.div_pos h (Nat.pow_pos (by omega))
 rw [pow256] at h0
 have : (v : Int) / 2 ^ (8 * m) = ((v / 2 ^ (8 * m) : Nat) : Int) := by simp
 rw [bne_iff_ne]
 omega
theorem shr_zero {v m : Nat} (h : v < 256 ^ m) : ((v : Int) / 2 ^ (8 * m) != 0) = false := by
 have h0 : v / 256 ^ m = 0 := Nat.div_eq_of_lt h
 rw [pow256] at h0
 have : (v : Int) / 2 ^ (8 * m) = ((v / 2 ^ (8 * m) : Nat) : Int) := by simp
 rw [this, h0]
 rfl
theorem code_Put (A : Option Addr) (n c : Nat) (l : List UInt8) (at_ k : Int) (v : Nat) (w : World) (h : Bs w A n l) (hn : n ≤ 1000000) (h1 : -9223372036854775808 ≤ at_ ∧ at_ ≤ 9223372036854775807) (h2 : -9223372036854775808 ≤ k ∧ k ≤ 9223372036854775807) (hv : v < 18446744073709551616) :
  Calls Tryz.prog 165 #[.slice A n c, .int .i64 at_, .int .i64 k, .int .u64 v] w (MadeE w (put l at_ k v)) := by
 have hl := h.len
 have hck := code_check A n c at_ k w (by unfold maxLen; omega) h1 h2
 by_cases hw : wrong n at_ k = 0
 ·obtain ⟨hk1, hk2, ha1, ha2⟩ := wrong_zero hw
  obtain ⟨a, rfl⟩ := Int.eq_ofNat_of_zero_le ha1
  obtain ⟨m, rfl⟩ := Int.eq_ofNat_of_zero_le (show 0 ≤ k by omega)
  rw [hw] at hck
  by_cases hbig : 256 ^ m ≤ v
  ·have hm : m < 8 := by
    rcases Nat.lt_or_ge m 8 with h8 | h8
    ·exact h8
    ·have : 256 ^ 8 ≤ 256 ^ m := Nat.pow_le_pow_right (by omega) h8
     omega
   have hp : put l (a : Int) (m : Int) v = ([], 11) := by
    unfold put
    rw [hl, hw, if_neg (by omega), if_pos (by simpa using hbig)]
   have hs := shr_pos hbig
   rw [hp]
   have HC := hq9 hck
   clear hck hw hp hbig h hl
   go_enter Tryz.func165, Tryz.ntmps165
   go_wp2_with fail
   refine (HC.out).mono ?_
   rintro e w' ⟨rfl, rfl⟩
   go_wp2
   go_ret2
   exact madeE_err _ 11
  ·have hp : put l (a : Int) (m : Int) v = (over l a (lay m v), 0) := by
    unfold put
    rw [hl, hw, if_neg (by omega), if_neg (by simpa using hbig)]
    simp
   rw [hp]
   have hs := shr_zero (Nat.lt_of_not_le hbig)
   have hcl := clone_bytes A n c l w h hn
   have HCL := hq9 hcl
   have HC := hq9 hck
   have HL := hq9 hl
   clear hck hw hp hbig h hl hcl
   by_cases hm : m < 8
   all_goals
    go_enter Tryz.func165, Tryz.ntmps165
    go_wp2_with fail
    refine (HC.out).mono ?_
    rintro e w' ⟨rfl, rfl⟩
    go_wp2_with fail
    refine HCL.out.mono ?_
    rintro e w1 ⟨_, rfl, A1, c1, rfl, ho, on⟩
    rw [HL.out] at ho ⊢
    obtain ⟨g, rfl, hbg, hgl, ho⟩ := OwnB.of ho (by omega)
    have HO := hq9 ho
    have HN := hq9 on
    clear ho on
    go_wp2
    go_loopw [12, 32] (fun _ i wr => ∃ j : Nat, j ≤ m ∧ i = .int .i64 j ∧ OwnB 5 wr w.heap.size g n c1 (over l a (lay j v)) ∧ Only [] w wr) (fun _ i _ => m - (intOf i).toNat)
    case atStart => exact ⟨0, Nat.zero_le _, rfl, by rw [show lay 0 v = [] from rfl, over_nil]; exact HO.out, HN.out⟩
    case round =>
     obtain ⟨j, hj, rfl, ho, on⟩ := hrel
     by_cases hlt : j < m
     ·have hcell := ho.cell (a + j) (by omega)
      have hfr := ho.frozen (a + j)
      have hst := ho.set (a + j) (byte_shr v j)
      rw [over_lay_succ l a j v (by rw [HL.out]; omega)] at hst
      have on2 := on.setCell (p := ⟨g, a + j, none⟩) (.inr hbg) (.int .u8 ((v : Int) / 2 ^ (8 * j) % 256))
      have H1 := hq9 hst
      have H2 := hq9 on2
      clear ho on hst on2
      go_wp2
      go_roundw
      case rel => exact ⟨j + 1, by omega, by go_num, H1.out, H2.out⟩
      case measure => simp [intOf]; omega
     ·obtain rfl : j = m := by omega
      have H1 := hq9 ho
      have H2 := hq9 on
      clear ho on
      go_wp2
      go_ret2
      exact ⟨.slice (some ⟨g, 0, none⟩) n c1, rfl, madeB_of H1.out H2.out⟩
 ·have hp : put l at_ k v = ([], wrong n at_ k) := by
   unfold put
   rw [hl, if_pos hw]
  rw [hp]
  have hle := wrong_le n at_ k
  generalize wrong n at_ k = e at *
  have hb : ((e : Int) != 0) = true := by rw [bne_iff_ne]; omega
  have HC := hq9 hck
  clear hck hw hp h hl
  go_enter Tryz.func165, Tryz.ntmps165
  go_wp2_with fail
  refine (HC.out).mono ?_
  rintro e w' ⟨rfl, rfl⟩
  go_wp2
  go_ret2
  exact madeE_err _ _
end Go.Proofs.YtlggichakafkiaaGreat
namespace Go.Proofs.YtlggichakafkiaaGreat
open Go.RowKit Go.Proofs.FuMem Go.Proofs.FuCode
set_option maxRecDepth 100000
theorem bits_or64 (a b : Nat) (ha : a < 18446744073709551616) (hb : b < 18446744073709551616) : bits .or .u64 (a : Int) (b : Int) = ((a ||| b : Nat) : Int) := by
 have hx : a ||| b < 18446744073709551616 := Nat.or_lt_two_pow (n := 64) ha hb
 show IntKind.u64.wrap ((BitVec.ofInt 64 (a : Int) ||| BitVec.ofInt 64 (b : Int)).toNat : Int) = _
 rw [BitVec.toNat_or, BitVec.ofInt_natCast, BitVec.ofInt_natCast, BitVec.toNat_ofNat, BitVec.toNat_ofNat, Nat.mod_eq_of_lt (by omega), Nat.mod_eq_of_lt (by omega), IntKind.wrap_u64]
 omega
theorem or_step (l : List UInt8) (a j : Nat) (hj : j < 8) (h : a + j < l.length) :
  bits .or .u64 (num ((l.drop a).take j) : Int) (IntKind.u64.wrap (IntKind.u64.wrap (l[a + j].toNat : Int) * 2 ^ (8 * j))) = (num ((l.drop a).take (j + 1)) : Int) := by
 have h2 : j < (l.drop a).length := by simp; omega
 have e := num_take_succ (l.drop a) j h2
 rw [List.getElem_drop] at e
 have hx := num_lt ((l.drop a).take j)
 rw [List.length_take, Nat.min_eq_left (by omega)] at hx
 have hy := l[a + j].toNat_lt
 generalize l[a + j].toNat = y at *
 generalize num ((l.drop a).take j) = x at *
 have hp : 256 ^ (j + 1) ≤ 18446744073709551616 := pow_le8 _ (by omega)
 have h3 : y * 256 ^ j + 256 ^ j ≤ 256 ^ (j + 1) := by
  rw [Nat.pow_succ, Nat.mul_comm y]
  have := Nat.mul_le_mul_left (256 ^ j) (show y + 1 ≤ 256 by omega)
  rw [Nat.mul_add] at this
  omega
 have e1 : IntKind.u64.wrap (IntKind.u64.wrap (y : Int) * 2 ^ (8 * j)) = ((y * 2 ^ (8 * j) : Nat) : Int) := by
  rw [← pow256]
  have : (2 : Int) ^ (8 * j) = ((256 ^ j : Nat) : Int) := by rw [pow256]; simp
  rw [this, IntKind.wrap_u64, IntKind.wrap_u64, show (y : Int) % 18446744073709551616 = y by omega, ← Int.natCast_mul]
  omega
 rw [e1, bits_or64 _ _ (by omega) (by rw [← pow256]; omega), num_or x j y hx, e]
theorem code_Get (A : Option Addr) (n c : Nat) (l : List UInt8) (at_ k : Int) (w : World) (h : Bs w A n l) (hn : n ≤ 1000000) (h1 : -9223372036854775808 ≤ at_ ∧ at_ ≤ 9223372036854775807) (h2 : -9223372036854775808 ≤ k ∧ k ≤ 9223372036854775807) :
  Calls Tryz.prog 123 #[.slice A n c, .int .i64 at_, .int .i64 k] w fun e w' => e = .returned (.tuple #[.int .u64 (cget l at_ k).1, .int .i64 (cget l at_ k).2]) ∧ w = w' := by
 have hl := h.len
 have hck := code_check A n c at_ k w (by unfold maxLen; omega) h1 h2
 by_cases hw : wrong n at_ k = 0
 ·obtain ⟨hk1, hk2, ha1, ha2⟩ := wrong_zero hw
  obtain ⟨a, rfl⟩ := Int.eq_ofNat_of_zero_le ha1
  obtain ⟨m, rfl⟩ := Int.eq_ofNat_of_zero_le (show 0 ≤ k by omega)
  rw [hw] at hck
  have hp : cget l (a : Int) (m : Int) = (num ((l.drop a).take m), 0) := by
   unfold cget
   rw [hl, hw, if_neg (by omega)]
   simp
  rw [hp]
  obtain ⟨b, off, rfl, hcell⟩ := h.at_ (by omega)
  have HL := hq9 hl
  have HC := hq9 hck
  have HX := hq9 hcell
  clear hck hw hp h hl hcell
  go_enter Tryz.func123, Tryz.ntmps123
  go_wp2_with fail
  refine (HC.out).mono ?_
  rintro e w' ⟨rfl, rfl⟩
  go_wp2
  go_loop [9, 10, 19] (fun v _ i => ∃ j : Nat, j ≤ m ∧ i = .int .i64 j ∧ v = .int .u64 (num ((l.drop a).take j))) (fun _ _ i => m - (intOf i).toNat)
  case atStart => exact ⟨0, Nat.zero_le _, rfl, rfl⟩
  case round =>
   obtain ⟨j, hj, rfl, rfl⟩ := hrel
   by_cases hlt : j < m
   ·have hc1 := HX.out (a + j) (by rw [HL.out]; omega)
    have HS := hq9 (or_step l a j (by omega) (by rw [HL.out]; omega))
    go_wp2
    go_round
    case rel => exact ⟨j + 1, by omega, by go_num, by rw [HS.out]⟩
    case measure => simp [intOf]; omega
   ·obtain rfl : j = m := by omega
    go_wp2
    go_ret2
    exact ⟨rfl, rfl⟩
 ·have hp : cget l at_ k = (0, wrong n at_ k) := by
   unfold cget
   rw [hl, if_pos hw]
  rw [hp]
  have hle := wrong_le n at_ k
  generalize wrong n at_ k = e at *
  have hb : ((e : Int) != 0) = true := by rw [bne_iff_ne]; omega
  have HC := hq9 hck
  clear hck hw hp h hl
  go_enter Tryz.func123, Tryz.ntmps123
  go_wp2_with fail
  refine (HC.out).mono ?_
  rintro e w' ⟨rfl, rfl⟩
  go_wp2
  go_ret2
  exact ⟨rfl, rfl⟩
end Go.Proofs.YtlggichakafkiaaGreat
namespace Go.Proofs.FuMem
end Go.Proofs.FuMem
namespace Go.Proofs.YtlggichakafkiaaGreat
open Go.RowKit Go.Proofs.FuMem Go.Proofs.FuCode
set_option maxRecDepth 100000
end Go.Proofs.YtlggichakafkiaaGreat
namespace Go.Proofs.FuEq
open Go.RowKit
theorem eqFields_cons {P : Program} (d : Nat) (xs ys : Array Value) (f : Field) (fs : List Field) (a b : Value) (r : Bool) (w : World) (hn : f.name ≠ "_") (ha : (part f.type xs f.offset).run P w = .ok a w) (hb : (part f.type ys f.offset).run P w = .ok b w)
  (hr : (Op.equalIn d f.type a b).run P w = .ok r w) (s : Bool) (hs : (Op.eqFields d xs ys fs).run P w = .ok s w) : (Op.eqFields d xs ys (f :: fs)).run P w = .ok (r && s) w := by
 unfold Op.eqFields
 rw [if_pos hn]
 simp only [Sem.run_bind, ha, hb, hr, Result.andThen_ok]
 cases r
 ·simp
 ·simp [hs]
theorem eqFields_nil {P : Program} (d : Nat) (xs ys : Array Value) (w : World) : (Op.eqFields d xs ys []).run P w = .ok true w := by simp [Op.eqFields]
end Go.Proofs.FuEq
namespace Go.Proofs.YtlggichakafkiaaGreat
open Go.RowKit Go.Proofs.FuMem Go.Proofs.FuCode Go.Proofs.FuClass Go.Proofs.FuBlock Go.Proofs.FuEq
set_option maxRecDepth 100000
abbrev blockV (cls kind : Int) (id ver ep : Nat) (ks vs : ByteArray) : Value := .agg #[.int .i64 cls, .int .i64 kind, .int .u64 id, .int .u64 ver, .int .u64 ep, .string ks, .string vs]
def mkB (cls kind : Int) (id ver ep : Nat) (ks vs : ByteArray) : Block := ⟨cls, kind, id, ver, ep, ks.data.toList, vs.data.toList⟩
theorem block_number (v : Nat) (w : World) (hv : v < 18446744073709551616) :
  Calls Tryz.prog 291 #[.int .u64 v] w fun e w' => e = .returned (.bool (number v)) ∧ w = w' := by
 by_cases h1 : 1 ≤ v
 ·by_cases h2 : v ≤ 2305843009213693952
  ·have hn : number v = true := by unfold number; simp [h1, h2]
   have q1 : decide ((1 : Int) ≤ (v : Int)) = true := by go_num
   have q2 : decide ((v : Int) ≤ 2305843009213693952) = true := by go_num
   rw [hn]
   clear hn h2 hv
   go_enter Tryz.func291, Tryz.ntmps291
   go_wp2
   go_ret
   exact ⟨rfl, rfl⟩
  ·have hn : number v = false := by unfold number; simp [h2]
   have q1 : decide ((1 : Int) ≤ (v : Int)) = true := by go_num
   have q2 : decide ((v : Int) ≤ 2305843009213693952) = false := by go_num
   rw [hn]
   clear hn h2 hv
   go_enter Tryz.func291, Tryz.ntmps291
   go_wp2
   go_ret
   exact ⟨rfl, rfl⟩
 ·have hn : number v = false := by unfold number; simp [h1]
  have q1 : decide ((1 : Int) ≤ (v : Int)) = false := by go_num
  rw [hn]
  clear hn hv
  go_enter Tryz.func291, Tryz.ntmps291
  go_wp2
  go_ret
  exact ⟨rfl, rfl⟩
theorem toList_beq (a b : ByteArray) : (a.toList == b.toList) = (a.data.toList == b.data.toList) := by rw [ByteArray.toList_eq, ByteArray.toList_eq]
def same (a b : Block) : Bool := a.cls == b.cls && (a.kind == b.kind && (a.id == b.id && (a.ver == b.ver && (a.ep == b.ep && (a.key == b.key && a.val == b.val)))))
theorem same_iff (a b : Block) : same a b = true ↔ a = b := by
 obtain ⟨a1, a2, a3, a4, a5, a6, a7⟩ := a
 obtain ⟨b1, b2, b3, b4, b5, b6, b7⟩ := b
 simp [same]
theorem nat_beq (a b : Nat) : (((a : Int)) == ((b : Int))) = (a == b) := by
 rw [Bool.eq_iff_iff, beq_iff_eq, beq_iff_eq]
 omega
theorem block_equal (c1 k1 : Int) (i1 v1 e1 : Nat) (s1 t1 : ByteArray) (c2 k2 : Int) (i2 v2 e2 : Nat) (s2 t2 : ByteArray) (w : World) :
  (Op.equalIn 10000 282 (blockV c1 k1 i1 v1 e1 s1 t1) (blockV c2 k2 i2 v2 e2 s2 t2)).run Tryz.prog w = .ok (same (mkB c1 k1 i1 v1 e1 s1 t1) (mkB c2 k2 i2 v2 e2 s2 t2)) w := by
 rw [run_equalIn_struct w 9999 282 _ _ (by kernel_rfl) (by kernel_rfl)]
 have hf : (Tryz.prog.fieldsOf 282).toList.map (fun f => (f.type, f.offset, decide (f.name = "_"))) = [(3, 0, false), (3, 1, false), (50, 2, false), (50, 3, false), (50, 4, false), (9, 5, false), (9, 6, false)] := by kernel_rfl
 generalize (Tryz.prog.fieldsOf 282).toList = fs at *
 obtain ⟨f0, f1, f2, f3, f4, f5, f6, rfl⟩ : ∃ f0 f1 f2 f3 f4 f5 f6, fs = [f0, f1, f2, f3, f4, f5, f6] := by
  have hl := congrArg List.length hf
  rw [List.length_map] at hl
  rcases fs with _ | ⟨f0, _ | ⟨f1, _ | ⟨f2, _ | ⟨f3, _ | ⟨f4, _ | ⟨f5, _ | ⟨f6, _ | ⟨f7, fs⟩⟩⟩⟩⟩⟩⟩⟩
  ·simp at hl
  ·simp at hl
  ·simp at hl
  ·simp at hl
  ·simp at hl
  ·simp at hl
  ·simp at hl
  ·exact ⟨_, _, _, _, _, _, _, rfl⟩
  ·simp at hl
 ·simp only [List.map_cons, List.map_nil, List.cons.injEq, Prod.mk.injEq, decide_eq_false_iff_not, and_true] at hf
  obtain ⟨⟨t0, o0, n0⟩, ⟨t1', o1, n1⟩, ⟨t2', o2, n2⟩, ⟨t3, o3, n3⟩, ⟨t4, o4, n4⟩, ⟨t5, o5, n5⟩, ⟨t6, o6, n6⟩⟩ := hf
  have hpi : ∀ (xs : Array Value) (k : Nat) (v : Value), xs[k]? = some v → (part 3 xs k).run Tryz.prog w = .ok v w := fun xs k v h => by
   simp [part, isAgg, run_underlying Tryz.underlying3, h]
  have hpu : ∀ (xs : Array Value) (k : Nat) (v : Value), xs[k]? = some v → (part 50 xs k).run Tryz.prog w = .ok v w := fun xs k v h => by
   simp [part, isAgg, run_underlying Tryz.underlying50, h]
  have hps : ∀ (xs : Array Value) (k : Nat) (v : Value), xs[k]? = some v → (part 9 xs k).run Tryz.prog w = .ok v w := fun xs k v h => by
   simp [part, isAgg, run_underlying Tryz.underlying9, h]
  have hqi : ∀ a b : Int, (Op.equalIn 9999 3 (.int .i64 a) (.int .i64 b)).run Tryz.prog w = .ok (a == b) w := fun a b => run_equalIn_int (P := Tryz.prog) w 9998 3 .i64 .i64 a b Tryz.underlying3
  have hqu : ∀ a b : Int, (Op.equalIn 9999 50 (.int .u64 a) (.int .u64 b)).run Tryz.prog w = .ok (a == b) w := fun a b => run_equalIn_int (P := Tryz.prog) w 9998 50 .u64 .u64 a b Tryz.underlying50
  have hqs : ∀ a b : ByteArray, (Op.equalIn 9999 9 (.string a) (.string b)).run Tryz.prog w = .ok (a.toList == b.toList) w := fun a b => run_equalIn_string (P := Tryz.prog) w 9998 9 a b Tryz.underlying9
  have key := eqFields_cons (P := Tryz.prog) 9999 #[.int .i64 c1, .int .i64 k1, .int .u64 i1, .int .u64 v1, .int .u64 e1, .string s1, .string t1] #[.int .i64 c2, .int .i64 k2, .int .u64 i2, .int .u64 v2, .int .u64 e2, .string s2, .string t2]
  have := key f0 _ _ _ _ w n0 (by rw [t0, o0]; exact hpi _ 0 _ rfl) (by rw [t0, o0]; exact hpi _ 0 _ rfl) (by rw [t0]; exact hqi _ _) _
   (key f1 _ _ _ _ w n1 (by rw [t1', o1]; exact hpi _ 1 _ rfl) (by rw [t1', o1]; exact hpi _ 1 _ rfl) (by rw [t1']; exact hqi _ _) _
   (key f2 _ _ _ _ w n2 (by rw [t2', o2]; exact hpu _ 2 _ rfl) (by rw [t2', o2]; exact hpu _ 2 _ rfl) (by rw [t2']; exact hqu _ _) _
   (key f3 _ _ _ _ w n3 (by rw [t3, o3]; exact hpu _ 3 _ rfl) (by rw [t3, o3]; exact hpu _ 3 _ rfl) (by rw [t3]; exact hqu _ _) _
   (key f4 _ _ _ _ w n4 (by rw [t4, o4]; exact hpu _ 4 _ rfl) (by rw [t4, o4]; exact hpu _ 4 _ rfl) (by rw [t4]; exact hqu _ _) _
   (key f5 _ _ _ _ w n5 (by rw [t5, o5]; exact hps _ 5 _ rfl) (by rw [t5, o5]; exact hps _ 5 _ rfl) (by rw [t5]; exact hqs _ _) _
   (key f6 _ _ _ _ w n6 (by rw [t6, o6]; exact hps _ 6 _ rfl) (by rw [t6, o6]; exact hps _ 6 _ rfl) (by rw [t6]; exact hqs _ _) _ (eqFields_nil _ _ _ w)))))))
  rw [this]
  simp only [same, mkB, nat_beq, toList_beq, Bool.and_true]
theorem eql_block (c1 k1 : Int) (i1 v1 e1 : Nat) (s1 t1 : ByteArray) (c2 k2 : Int) (i2 v2 e2 : Nat) (s2 t2 : ByteArray) (w : World) :
  (binOp .eql 282 (blockV c1 k1 i1 v1 e1 s1 t1) (blockV c2 k2 i2 v2 e2 s2 t2)).run Tryz.prog w = .ok (.bool (same (mkB c1 k1 i1 v1 e1 s1 t1) (mkB c2 k2 i2 v2 e2 s2 t2))) w := by
 rw [run_eql_struct, block_equal]
 rfl
theorem blockGuard : Tryz.prog.eqGuardType Tryz.prog.depth 282 = false := by kernel_rfl
end Go.Proofs.YtlggichakafkiaaGreat
namespace Go.Proofs.YtlggichakafkiaaGreat
open Go.RowKit Go.Proofs.FuMem Go.Proofs.FuCode Go.Proofs.FuClass Go.Proofs.FuBlock Go.Proofs.FuEq
set_option maxRecDepth 100000
set_option maxHeartbeats 4000000 in
theorem block_May (cls kind : Int) (id ver ep : Nat) (ks vs : ByteArray) (w : World) (hc : -9223372036854775808 ≤ cls ∧ cls ≤ 9223372036854775807) (hi : id < 18446744073709551616) (hv : ver < 18446744073709551616) (he : ep < 18446744073709551616)
  (hks : ks.size ≤ 1000000) (hvs : vs.size ≤ 1000000) :
  Calls Tryz.prog 233 #[blockV cls kind id ver ep ks vs] w fun e w' => e = .returned (.bool (may (mkB cls kind id ver ep ks vs))) ∧ Only [] w w' := by
 have HSP := hq9 (fun w => class_Span cls w hc)
 have ol : ks.data.toList.length = ks.size := by simp
 have ol2 : vs.data.toList.length = vs.size := by simp
 have o1 : Only [] w (w.alloc (.cells #[.int .i64 cls, .int .i64 kind, .int .u64 id, .int .u64 ver, .int .u64 ep, .string ks, .string vs] 282)) := (Only.refl _ _).alloc _
 have HO := hq9 o1
 have HB := hq9 (Blk.new w 282 #[.int .i64 cls, .int .i64 kind, .int .u64 id, .int .u64 ver, .int .u64 ep, .string ks, .string vs])
 clear o1
 by_cases hs : span cls = 0
 ·have hm : may (mkB cls kind id ver ep ks vs) = false := by
   have := span_cases cls
   unfold may mkB
   rw [decide_eq_false (by simp only; omega)]
   rfl
  have HM := hq9 hm
  rw [hs] at HSP
  clear hs hm
  go_enter Tryz.func233, Tryz.ntmps233
  go_wp2_with fail
  refine (HSP.out _).mono ?_
  rintro e w' ⟨rfl, rfl⟩
  go_wp2
  go_ret
  exact ⟨ret_bool HM.out.symm, HO.out⟩
 have hs0 : (((span cls : Nat) : Int) == 0) = false := by simpa using hs
 have hc03 : 0 ≤ cls ∧ cls ≤ 3 := by have := span_cases cls; omega
 have hmay : may (mkB cls kind id ver ep ks vs) = (if kind = 0 then decide (id = 0 ∧ ver = 0 ∧ ep = 0 ∧ ks.data.toList = [] ∧ vs.data.toList = [])
   else (number id && number ver && number ep) &&
    if kind = 1 then decide (1 ≤ ks.size ∧ ks.size ≤ 16 ∧ vs.size ≤ 400 ∧ need (ks.size + vs.size : Nat) = cls)
    else if kind = 2 then decide (ks.size = 0 ∧ vs.size ≤ 400 ∧ need (ks.size + vs.size : Nat) = cls)
    else if kind = 3 then decide (ks.size = 0 ∧ vs.size = 0 ∧ cls = 0)
    else false) := by
  unfold may mkB
  simp only [ol, ol2]
  rw [decide_eq_true hc03, Bool.true_and]
 have HM := hq9 hmay
 clear hmay hs ol ol2
 by_cases h0 : kind = 0
 ·subst h0
  have HM0 := hq9 (HM.out.trans (if_pos rfl))
  clear HM
  have heq := fun (a b : Operand) (w : World) => run_eqGuard_agg (P := Tryz.prog) w .eql 282 a b #[.int .i64 cls, .int .i64 0, .int .u64 id, .int .u64 ver, .int .u64 ep, .string ks, .string vs] #[.int .i64 cls, .int .i64 0, .int .u64 0, .int .u64 0, .int .u64 0, .string ⟨#[]⟩, .string ⟨#[]⟩] blockGuard
  have hbin : ∀ w : World, (binOp .eql 282 (.agg #[.int .i64 cls, .int .i64 0, .int .u64 id, .int .u64 ver, .int .u64 ep, .string ks, .string vs]) (.agg #[.int .i64 cls, .int .i64 0, .int .u64 0, .int .u64 0, .int .u64 0, .string ⟨#[]⟩, .string ⟨#[]⟩])).run Tryz.prog w = .ok (.bool (same (mkB cls 0 id ver ep ks vs) (mkB cls 0 0 0 0 ⟨#[]⟩ ⟨#[]⟩))) w := fun w => eql_block cls 0 id ver ep ks vs cls 0 0 0 0 ⟨#[]⟩ ⟨#[]⟩ w
  have hsame : same (mkB cls 0 id ver ep ks vs) (mkB cls 0 0 0 0 ⟨#[]⟩ ⟨#[]⟩) = decide (id = 0 ∧ ver = 0 ∧ ep = 0 ∧ ks.data.toList = [] ∧ vs.data.toList = []) := by
   rw [Bool.eq_iff_iff, same_iff, decide_eq_true_eq]
   simp [mkB]
  have HSM := hq9 hsame
  clear hsame
  generalize same (mkB cls 0 id ver ep ks vs) (mkB cls 0 0 0 0 ⟨#[]⟩ ⟨#[]⟩) = sb at *
  go_enter Tryz.func233, Tryz.ntmps233
  go_wp2_with fail
  refine (HSP.out _).mono ?_
  rintro e w' ⟨rfl, rfl⟩
  go_wp2_with ((with_reducible show wpList _ _ _ (Oper.mk (some 25) _ _ _ _ _ :: _) _ _); refine wpList_load_mid rfl 282 (.tmp 1) rfl w.heap.size 0 rfl [.int .i64 cls, .int .i64 0, .int .u64 id, .int .u64 ver, .int .u64 ep, .string ks, .string vs] _ (fun j v hj => by rw [Nat.zero_add, HB.out.cell, List.getElem?_toArray.symm]; exact hj) Tryz.underlying282 rfl (by kernel_rfl) ?_)
  go_ret
  exact ⟨ret_bool (HSM.out.trans HM0.out.symm), HO.out⟩
 have HN1 := hq9 (fun w => block_number id w hi)
 have HN2 := hq9 (fun w => block_number ver w hv)
 have HN3 := hq9 (fun w => block_number ep w he)
 have q0 : (kind == 0) = false := by simpa using h0
 have HM1 := hq9 (HM.out.trans (if_neg h0))
 clear HM h0 hi hv he
 generalize number id = b1 at *
 generalize number ver = b2 at *
 generalize number ep = b3 at *
 by_cases h1 : kind = 1
 ·subst h1
  have HM2 := hq9 (HM1.out.trans (by rw [if_pos rfl]))
  clear HM1
  by_cases ha : ks.size < 1
  ·have qa : decide ((ks.size : Int) < 1) = true := by rw [decide_eq_true_eq]; omega
   have HR := hq9 (HM2.out.trans (by rw [decide_eq_false (by omega), Bool.and_false]))
   clear ha HM2
   go_enter Tryz.func233, Tryz.ntmps233
   go_wp2_with fail
   refine (HSP.out _).mono ?_
   rintro e w' ⟨rfl, rfl⟩
   go_wp2
   go_ret
   exact ⟨ret_bool HR.out.symm, HO.out⟩
  have qa : decide ((ks.size : Int) < 1) = false := by rw [decide_eq_false_iff_not]; omega
  by_cases hb : 16 < ks.size
  ·have qb : decide ((16 : Int) < (ks.size : Int)) = true := by rw [decide_eq_true_eq]; omega
   have HR := hq9 (HM2.out.trans (by rw [decide_eq_false (by omega), Bool.and_false]))
   clear ha hb HM2
   go_enter Tryz.func233, Tryz.ntmps233
   go_wp2_with fail
   refine (HSP.out _).mono ?_
   rintro e w' ⟨rfl, rfl⟩
   go_wp2
   go_ret
   exact ⟨ret_bool HR.out.symm, HO.out⟩
  have qb : decide ((16 : Int) < (ks.size : Int)) = false := by rw [decide_eq_false_iff_not]; omega
  have e1 : (ks.size : Int) + (vs.size : Int) - (ks.size : Int) = (vs.size : Int) := by omega
  have E1 := hq9 e1
  have hn0 : (0 : Int) ≤ (ks.size : Int) + (vs.size : Int) := by omega
  have hn1 : (ks.size : Int) + (vs.size : Int) ≤ 2000000 := by omega
  have e2 : IntKind.i64.wrap ((ks.size : Int) + (vs.size : Int)) = (ks.size : Int) + (vs.size : Int) := by rw [IntKind.wrap_i64]; omega
  have E2 := hq9 e2
  clear e1 e2
  by_cases hd : 400 < vs.size
  ·have qd : decide ((400 : Int) < (vs.size : Int)) = true := by rw [decide_eq_true_eq]; omega
   have HR := hq9 (HM2.out.trans (by rw [decide_eq_false (by omega), Bool.and_false]))
   clear ha hb hd HM2
   go_enter Tryz.func233, Tryz.ntmps233
   go_wp2_with fail
   refine (HSP.out _).mono ?_
   rintro e w' ⟨rfl, rfl⟩
   go_wp2
   rw [E1.out]
   go_quiet (fail)
   go_wp2
   go_ret
   exact ⟨ret_bool HR.out.symm, HO.out.drewN _⟩
  have qd : decide ((400 : Int) < (vs.size : Int)) = false := by rw [decide_eq_false_iff_not]; omega
  have HND := hq9 (fun w => Calls.flip (class_Need ((ks.size : Int) + (vs.size : Int)) w (by omega)))
  by_cases hn : need ((ks.size + vs.size : Nat) : Int) = cls
  ·have hn' : need ((ks.size : Int) + (vs.size : Int)) = cls := by rw [← hn]; congr 1
   have qn : (need ((ks.size : Int) + (vs.size : Int)) != cls) = false := by simpa using hn'
   have HR := hq9 (HM2.out.trans (by rw [decide_eq_true (by omega), Bool.and_true]))
   have e2 := E2.out
   clear ha hb hd HM2 hn hn'
   generalize need ((ks.size : Int) + (vs.size : Int)) = nd at *
   go_enter Tryz.func233, Tryz.ntmps233
   go_wp2_with fail
   refine (HSP.out _).mono ?_
   rintro e w' ⟨rfl, rfl⟩
   go_wp2
   rw [E1.out]
   go_quiet ((go_at_call 53; exact Calls.quiet_of_same (HND.out _)))
   clear e2
   cases b1
   ·go_wp2_with fail
    refine (HN1.out _).mono ?_
    rintro e w' ⟨rfl, rfl⟩
    go_wp2
    go_ret
    exact ⟨ret_bool HR.out.symm, HO.out.drewN _⟩
   ·cases b2
    ·go_wp2_with fail
     refine (HN1.out _).mono ?_
     rintro e w' ⟨rfl, rfl⟩
     go_wp2_with fail
     refine (HN2.out _).mono ?_
     rintro e w' ⟨rfl, rfl⟩
     go_wp2
     go_ret
     exact ⟨ret_bool HR.out.symm, HO.out.drewN _⟩
    ·go_wp2_with fail
     refine (HN1.out _).mono ?_
     rintro e w' ⟨rfl, rfl⟩
     go_wp2_with fail
     refine (HN2.out _).mono ?_
     rintro e w' ⟨rfl, rfl⟩
     go_wp2_with fail
     refine (HN3.out _).mono ?_
     rintro e w' ⟨rfl, rfl⟩
     go_wp2
     go_ret
     exact ⟨ret_bool HR.out.symm, HO.out.drewN _⟩
  ·have hn' : need ((ks.size : Int) + (vs.size : Int)) ≠ cls := fun h => hn (by rw [← h]; congr 1)
   have qn : (need ((ks.size : Int) + (vs.size : Int)) != cls) = true := by simpa using hn'
   have HR := hq9 (HM2.out.trans (by rw [decide_eq_false (fun h => hn h.2.2.2), Bool.and_false]))
   have e2 := E2.out
   clear ha hb hd HM2 hn hn'
   generalize need ((ks.size : Int) + (vs.size : Int)) = nd at *
   go_enter Tryz.func233, Tryz.ntmps233
   go_wp2_with fail
   refine (HSP.out _).mono ?_
   rintro e w' ⟨rfl, rfl⟩
   go_wp2
   rw [E1.out]
   go_quiet ((go_at_call 53; exact Calls.quiet_of_same (HND.out _)))
   go_wp2
   go_ret
   exact ⟨ret_bool HR.out.symm, HO.out.drewN _⟩
 have q1 : (kind == 1) = false := by simpa using h1
 by_cases h2 : kind = 2
 ·subst h2
  have HM2 := hq9 (HM1.out.trans (by rw [if_neg (by decide), if_pos rfl]))
  clear HM1 h1 q0 q1
  by_cases hk0 : ks.size = 0
  ·obtain rfl : ks = ⟨#[]⟩ := by
    obtain ⟨⟨l⟩⟩ := ks
    have : l.length = 0 := hk0
    rw [List.length_eq_zero_iff.1 this]
   by_cases hd : 400 < vs.size
   ·have qd : decide ((400 : Int) < (vs.size : Int)) = true := by rw [decide_eq_true_eq]; omega
    have HR := hq9 (HM2.out.trans (by rw [decide_eq_false (by omega), Bool.and_false]))
    clear hd HM2 hk0 hks
    go_enter Tryz.func233, Tryz.ntmps233
    go_wp2_with fail
    refine (HSP.out _).mono ?_
    rintro e w' ⟨rfl, rfl⟩
    go_wp2
    go_quiet (fail)
    go_wp2
    go_ret
    exact ⟨ret_bool HR.out.symm, HO.out.drewN _⟩
   have qd : decide ((400 : Int) < (vs.size : Int)) = false := by rw [decide_eq_false_iff_not]; omega
   have HND := hq9 (fun w => Calls.flip (class_Need (vs.size : Int) w (by omega)))
   have hz : (vs.size : Int) = (((⟨#[]⟩ : ByteArray).size + vs.size : Nat) : Int) := by rw [show (⟨#[]⟩ : ByteArray).size = 0 from rfl, Nat.zero_add]
   by_cases hn : need (vs.size : Int) = cls
   ·have qn : (need (vs.size : Int) != cls) = false := by simpa using hn
    have HR := hq9 (HM2.out.trans (by rw [decide_eq_true ⟨rfl, by omega, by rw [← hz]; exact hn⟩, Bool.and_true]))
    clear hd HM2 hn hk0 hks hz
    generalize need (vs.size : Int) = nd at *
    go_enter Tryz.func233, Tryz.ntmps233
    go_wp2_with fail
    refine (HSP.out _).mono ?_
    rintro e w' ⟨rfl, rfl⟩
    go_wp2
    go_quiet ((go_at_call 53; exact Calls.quiet_of_same (HND.out _)))
    cases b1
    ·go_wp2_with fail
     refine (HN1.out _).mono ?_
     rintro e w' ⟨rfl, rfl⟩
     go_wp2
     go_ret
     exact ⟨ret_bool HR.out.symm, HO.out.drewN _⟩
    ·cases b2
     ·go_wp2_with fail
      refine (HN1.out _).mono ?_
      rintro e w' ⟨rfl, rfl⟩
      go_wp2_with fail
      refine (HN2.out _).mono ?_
      rintro e w' ⟨rfl, rfl⟩
      go_wp2
      go_ret
      exact ⟨ret_bool HR.out.symm, HO.out.drewN _⟩
     ·go_wp2_with fail
      refine (HN1.out _).mono ?_
      rintro e w' ⟨rfl, rfl⟩
      go_wp2_with fail
      refine (HN2.out _).mono ?_
      rintro e w' ⟨rfl, rfl⟩
      go_wp2_with fail
      refine (HN3.out _).mono ?_
      rintro e w' ⟨rfl, rfl⟩
      go_wp2
      go_ret
      exact ⟨ret_bool HR.out.symm, HO.out.drewN _⟩
   ·have qn : (need (vs.size : Int) != cls) = true := by simpa using hn
    have HR := hq9 (HM2.out.trans (by rw [decide_eq_false (fun h => hn (by rw [hz]; exact h.2.2)), Bool.and_false]))
    clear hd HM2 hn hk0 hks hz
    generalize need (vs.size : Int) = nd at *
    go_enter Tryz.func233, Tryz.ntmps233
    go_wp2_with fail
    refine (HSP.out _).mono ?_
    rintro e w' ⟨rfl, rfl⟩
    go_wp2
    go_quiet ((go_at_call 53; exact Calls.quiet_of_same (HND.out _)))
    go_wp2
    go_ret
    exact ⟨ret_bool HR.out.symm, HO.out.drewN _⟩
  ·have hne : ks.toList.isEmpty = false := by
    rw [ByteArray.toList_eq]
    cases hl : ks.data.toList with
    | nil => exact absurd (by have := congrArg List.length hl; simpa using this) hk0
    | cons a l => rfl
   have hne2 : ks.toList ≠ [] := fun h => by rw [h] at hne; cases hne
   have hne3 : (ks.toList == []) = false := by simpa using hne2
   have HR := hq9 (HM2.out.trans (by rw [decide_eq_false (fun h => hk0 h.1), Bool.and_false]))
   clear HM2 hk0
   go_enter Tryz.func233, Tryz.ntmps233
   go_wp2_with fail
   refine (HSP.out _).mono ?_
   rintro e w' ⟨rfl, rfl⟩
   go_wp2
   go_quiet (fail)
   go_wp2
   go_ret
   exact ⟨ret_bool HR.out.symm, HO.out.drewN _⟩
 have q2 : (kind == 2) = false := by simpa using h2
 by_cases h3 : kind = 3
 ·subst h3
  have HM2 := hq9 (HM1.out.trans (by rw [if_neg (by decide), if_neg (by decide), if_pos rfl]))
  clear HM1 h1 h2 q0 q1 q2
  by_cases hk0 : ks.size = 0 ∧ vs.size = 0
  ·have qa : ((ks.size : Int) + (vs.size : Int) != 0) = false := by rw [bne_eq_false_iff_eq]; omega
   by_cases hc0 : cls = 0
   ·have qc : (cls != 0) = false := by simpa using hc0
    have HR := hq9 (HM2.out.trans (by rw [decide_eq_true ⟨hk0.1, hk0.2, hc0⟩, Bool.and_true]))
    clear HM2 hk0 hc0
    go_enter Tryz.func233, Tryz.ntmps233
    go_wp2_with fail
    refine (HSP.out _).mono ?_
    rintro e w' ⟨rfl, rfl⟩
    cases b1
    ·go_wp2_with fail
     refine (HN1.out _).mono ?_
     rintro e w' ⟨rfl, rfl⟩
     go_wp2
     go_ret
     exact ⟨ret_bool HR.out.symm, HO.out⟩
    ·cases b2
     ·go_wp2_with fail
      refine (HN1.out _).mono ?_
      rintro e w' ⟨rfl, rfl⟩
      go_wp2_with fail
      refine (HN2.out _).mono ?_
      rintro e w' ⟨rfl, rfl⟩
      go_wp2
      go_ret
      exact ⟨ret_bool HR.out.symm, HO.out⟩
     ·go_wp2_with fail
      refine (HN1.out _).mono ?_
      rintro e w' ⟨rfl, rfl⟩
      go_wp2_with fail
      refine (HN2.out _).mono ?_
      rintro e w' ⟨rfl, rfl⟩
      go_wp2_with fail
      refine (HN3.out _).mono ?_
      rintro e w' ⟨rfl, rfl⟩
      go_wp2
      go_ret
      exact ⟨ret_bool HR.out.symm, HO.out⟩
   ·have qc : (cls != 0) = true := by simpa using hc0
    have HR := hq9 (HM2.out.trans (by rw [decide_eq_false (fun h => hc0 h.2.2), Bool.and_false]))
    clear HM2 hk0 hc0
    go_enter Tryz.func233, Tryz.ntmps233
    go_wp2_with fail
    refine (HSP.out _).mono ?_
    rintro e w' ⟨rfl, rfl⟩
    go_wp2
    go_ret
    exact ⟨ret_bool HR.out.symm, HO.out⟩
  ·have qa : ((ks.size : Int) + (vs.size : Int) != 0) = true := by rw [bne_iff_ne]; omega
   have HR := hq9 (HM2.out.trans (by rw [decide_eq_false (fun h => hk0 ⟨h.1, h.2.1⟩), Bool.and_false]))
   clear HM2 hk0
   go_enter Tryz.func233, Tryz.ntmps233
   go_wp2_with fail
   refine (HSP.out _).mono ?_
   rintro e w' ⟨rfl, rfl⟩
   go_wp2
   go_ret
   exact ⟨ret_bool HR.out.symm, HO.out⟩
 have q3 : (kind == 3) = false := by simpa using h3
 have HR := hq9 (HM1.out.trans (by rw [if_neg h1, if_neg h2, if_neg h3, Bool.and_false]))
 clear h1 h2 h3 HM1
 go_enter Tryz.func233, Tryz.ntmps233
 go_wp2_with fail
 refine (HSP.out _).mono ?_
 rintro e w' ⟨rfl, rfl⟩
 go_wp2
 go_ret
 exact ⟨ret_bool HR.out.symm, HO.out⟩
end Go.Proofs.YtlggichakafkiaaGreat
namespace Go.Proofs.YtlggichakafkiaaGreat
open Go.RowKit Go.Proofs.FuMem Go.Proofs.FuCode Go.Proofs.FuClass Go.Proofs.FuBlock Go.Proofs.FuEq
set_option maxRecDepth 100000
end Go.Proofs.YtlggichakafkiaaGreat
namespace Go.Proofs.FuMem
open Go.RowKit
theorem OwnB.splice_ {e : TypeId} {w w' : World} {base g n c : Nat} {l l2 : List UInt8} (h : OwnB e w base g n c l) {cur : Array Value} (hcur : Blk w g e cur) {off : Nat} (hf : off + l2.length ≤ n) (hb : Blk w' g e (splice cur off (l2.map B))) :
  OwnB e w' base g n c (FuCode.over l off l2) := by
 have hl := h.len
 rcases h.2 with ⟨h', _⟩ | ⟨g', cap', cur', h', hbg, hg, hnc, hcm, hcs, htake⟩
 ·cases h'
 ·cases h'
  have he : cur' = cur := by
   have : some (Obj.cells cur' e (0, 0)) = some (Obj.cells cur e (0, 0)) := hg.symm.trans hcur
   injection this with this
   injection this
  subst he
  rw [Nat.mul_one] at htake hcs
  refine ⟨by simp [FuCode.over]; omega, .inr ⟨g, c, _, rfl, hbg, hb, hnc, hcm, ?_, ?_⟩⟩
  ·rw [splice_size _ _ _ (by simp; omega), hcs, Nat.mul_one]
  ·rw [Nat.mul_one]
   unfold splice FuCode.over
   simp only [List.map_append, List.map_take, List.map_drop, ← htake]
   apply List.ext_getElem?
   intro i
   have hcl : cur'.toList.length = c := by simpa using hcs
   simp only [List.getElem?_take, List.getElem?_append, List.length_append, List.length_take, List.length_map, List.getElem?_drop]
   repeat' split
   all_goals first | rfl | omega | (congr 1; omega) | (rw [List.getElem?_eq_none (by omega)])
theorem OwnB.blk {e : TypeId} {w : World} {base g n c : Nat} {l : List UInt8} (h : OwnB e w base g n c l) : ∃ cur, Blk w g e cur ∧ n ≤ cur.size := by
 rcases h.2 with ⟨h', _⟩ | ⟨g', cap', cur', h', hbg, hg, hnc, hcm, hcs, htake⟩
 ·cases h'
 ·cases h'
  exact ⟨cur', hg, by omega⟩
end Go.Proofs.FuMem
namespace Go.Proofs.YtlggichakafkiaaGreat
open Go.RowKit Go.Proofs.FuMem Go.Proofs.FuCode Go.Proofs.FuClass Go.Proofs.FuBlock Go.Proofs.FuEq Go.Proofs.FuCrc
set_option maxRecDepth 100000
theorem byteSizeD : (Tryz.prog.info? 5).map (·.size) = some 1 := by kernel_rfl
theorem block_put {base : Nat} (g c : Nat) (l : List UInt8) (a n v : Nat) (w : World) (ho : OwnB 5 w base g 64 c l) (hn : 1 ≤ n ∧ n ≤ 8) (ha : a + n ≤ 64) (hv : v < 256 ^ n) :
  Calls Tryz.prog 292 #[.slice (some ⟨g, 0, none⟩) 64 c, .int .i64 a, .int .i64 n, .int .u64 v] w fun e w' => e = .returned (.tuple #[]) ∧ OwnB 5 w' base g 64 c (over l a (lay n v)) ∧ Only [g] w w' := by
 have hl := ho.len
 have hv64 : v < 18446744073709551616 := Nat.lt_of_lt_of_le hv (pow_le8 n hn.2)
 have hput : put l (a : Int) (n : Int) v = (over l a (lay n v), 0) := by
  unfold put
  rw [if_neg (by unfold wrong; rw [if_neg (by omega), if_neg (by omega)]; omega), if_neg (by rw [Int.toNat_natCast]; omega), Int.toNat_natCast, Int.toNat_natCast]
 have HP := hq9 (code_Put (some ⟨g, 0, none⟩) 64 c l a n v w ho.bs (by omega) (by omega) (by omega) hv64)
 rw [hput] at HP
 have hol : (over l a (lay n v)).length = 64 := by rw [over_length _ _ _ (by rw [lay_length]; omega), hl]
 have HO := hq9 ho
 have HL := hq9 hol
 have HOV := hq9 (over_all (over l a (lay n v)) l 64 hol hl)
 clear ho hl hv hput hol hv64
 generalize over l a (lay n v) = l2 at *
 go_enter Tryz.func292, Tryz.ntmps292
 go_wp2_with fail
 refine (HP.out).mono ?_
 rintro e w1 ⟨x, rfl, A1, c1, rfl, b1, o1⟩
 obtain ⟨cur, hcur, hsz⟩ := (HO.out.only o1 (by simp)).blk
 have H1 := hq9 (HO.out.only o1 (by simp))
 have B1 := hq9 (bs_own b1)
 have O1 := hq9 (o1.mono (T := [g]) (by simp))
 have HC := hq9 hcur
 clear b1 o1
 go_wp2_with (refine wpList_copy_blk rfl (.tmp 18) (.tmp 19) 71 71 rfl 5 Tryz.underlying71 byteSizeD g 0 64 c A1 l2.length c1 rfl rfl _ cur hcur (by omega) (l2.map B) B1.out one_B ?_; intro w2 hb2 ho2 hs2)
 go_end0
 refine ⟨rfl, ?_, O1.out.trans ho2 (by simp)⟩
 rw [← List.map_take] at hb2
 have := H1.out.splice_ HC.out (l2 := l2.take 64) (off := 0) (by simp; omega) hb2
 rwa [HOV.out] at this
theorem block_get (A : Option Addr) (n c : Nat) (l : List UInt8) (a k : Nat) (w : World) (h : Bs w A n l) (hn : n ≤ 1000000) (hk : 1 ≤ k ∧ k ≤ 8) (ha : a + k ≤ n) :
  Calls Tryz.prog 191 #[.slice A n c, .int .i64 a, .int .i64 k] w fun e w' => e = .returned (.int .u64 (num ((l.drop a).take k))) ∧ w = w' := by
 have hl := h.len
 have hget : cget l (a : Int) (k : Int) = (num ((l.drop a).take k), 0) := by
  unfold cget
  rw [if_neg (by unfold wrong; rw [if_neg (by omega), if_neg (by omega)]; omega), Int.toNat_natCast, Int.toNat_natCast]
 have HG := hq9 (code_Get A n c l a k w h hn (by omega) (by omega))
 rw [hget] at HG
 clear h hl hget
 generalize num ((l.drop a).take k) = v at *
 go_enter Tryz.func191, Tryz.ntmps191
 go_wp2_with fail
 refine (HG.out).mono ?_
 rintro e w' ⟨rfl, rfl⟩
 go_wp2
 go_ret
 exact ⟨rfl, rfl⟩
end Go.Proofs.YtlggichakafkiaaGreat
namespace Go.Proofs.FuBlock
open Go.Proofs.FuCode Go.Proofs.FuCrc
theorem over_end (A B : List UInt8) (m : Nat) {a : Nat} (ha : a = A.length) (h : B.length ≤ m) : over (A ++ List.replicate m 0) a B = A ++ B ++ List.replicate (m - B.length) 0 := by
 subst ha
 unfold over
 rw [List.take_left' rfl, List.drop_append, List.drop_eq_nil_of_le (by omega), List.nil_append, List.drop_replicate]
 congr 2
 omega
def first4 (c1 c2 c3 : UInt8) : List UInt8 := [1, c1, c2, c3] ++ List.replicate 60 0
theorem head_to (c1 c2 c3 : UInt8) {w i v e s r : List UInt8} (hw : w.length = 2) (hi : i.length = 8) (hv : v.length = 8) (he : e.length = 8) (hs : s.length = 4) (hr : r.length = 28) :
  over (over (over (over (first4 c1 c2 c3) 4 w) 8 i) 16 v) 24 e = ([1, c1, c2, c3] ++ w ++ [0, 0] ++ i ++ v ++ e) ++ List.replicate 32 0 ∧
  over (over (([1, c1, c2, c3] ++ w ++ [0, 0] ++ i ++ v ++ e) ++ List.replicate 32 0) 32 s) 36 r = ([1, c1, c2, c3] ++ w ++ [0, 0] ++ i ++ v ++ e) ++ s ++ r := by
 have h1 : over (first4 c1 c2 c3) 4 w = ([1, c1, c2, c3] ++ w ++ [0, 0]) ++ List.replicate 56 0 := by
  unfold first4
  rw [over_end _ _ _ (by simp) (by omega), hw]
  simp [List.replicate_succ]
 rw [h1, over_end _ _ _ (by simp; omega) (by omega), over_end _ _ _ (by simp; omega) (by omega), over_end _ _ _ (by simp; omega) (by omega), hi, hv, he]
 refine ⟨rfl, ?_⟩
 rw [over_end _ _ _ (by simp; omega) (by omega), over_end _ _ _ (by simp; omega) (by omega), hs, hr]
 simp
theorem laid64 {h s r : List UInt8} (hh : h.length = 32) (hs : s.length = 4) (hr : 28 ≤ r.length) : laid h s r 64 = h ++ s ++ r.take 28 := by
 apply List.ext_getElem?
 intro i
 by_cases h1 : i < 64
 ·rw [List.getElem?_eq_getElem (by rw [laid_length]; exact h1), laid_at, List.getElem?_append, List.getElem?_append]
  unfold byteAt
  simp only [List.length_append, hh, hs]
  by_cases c1 : i < 32
  ·rw [if_pos c1, if_pos (by omega), if_pos c1, getD_eq (by omega), List.getElem?_eq_getElem (by omega)]
  ·by_cases c2 : i < 36
   ·rw [if_neg c1, if_pos c2, if_pos (by omega), if_neg c1, getD_eq (by omega), List.getElem?_eq_getElem (by omega)]
   ·rw [if_neg c1, if_neg c2, if_pos h1, if_neg (by omega), List.getElem?_take_of_lt (by omega), getD_eq (by omega), List.getElem?_eq_getElem (by omega)]
 ·rw [List.getElem?_eq_none (by rw [laid_length]; omega), List.getElem?_eq_none (by simp; omega)]
end Go.Proofs.FuBlock
namespace Go.Proofs.YtlggichakafkiaaGreat
open Go.RowKit Go.Proofs.FuMem Go.Proofs.FuCode Go.Proofs.FuClass Go.Proofs.FuBlock Go.Proofs.FuEq Go.Proofs.FuCrc
set_option maxRecDepth 100000
set_option maxHeartbeats 4000000 in
theorem block_head (cls kind : Int) (id ver ep : Nat) (ks vs : ByteArray) (A : Option Addr) (n c : Nat) (r : List UInt8) (w : World) (hi : id < 18446744073709551616) (hv : ver < 18446744073709551616) (he : ep < 18446744073709551616)
  (_hks : ks.size ≤ 1000000) (hvs : vs.size < 65536) (hr : Bs w A n r) (hn : 28 ≤ n) (hn2 : n ≤ 1000000) :
  Calls Tryz.prog 234 #[blockV cls kind id ver ep ks vs, .slice A n c] w fun e w' => ∃ v, e = .returned v ∧ MadeB w (laid (head32 (mkB cls kind id ver ep ks vs)) (lay 4 (crc (head32 (mkB cls kind id ver ep ks vs) ++ r))) r 64) v w' := by
 obtain ⟨i0, hi0, hz0, hz1, hz2⟩ := info_parts Tryz.byteInfo
 have o1 : Only [] w (w.alloc (.cells #[.int .i64 cls, .int .i64 kind, .int .u64 id, .int .u64 ver, .int .u64 ep, .string ks, .string vs] 282)) := (Only.refl _ _).alloc _
 have HB := hq9 (Blk.new w 282 #[.int .i64 cls, .int .i64 kind, .int .u64 id, .int .u64 ver, .int .u64 ep, .string ks, .string vs])
 obtain ⟨w2, hmk, hb2, ho2, hs2⟩ := make_blk (P := Tryz.prog) (w.alloc (.cells #[.int .i64 cls, .int .i64 kind, .int .u64 id, .int .u64 ver, .int .u64 ep, .string ks, .string vs] 282)) 71 5 i0 _ Tryz.underlying71 hi0 hz0 hz1 rfl .i64 .i64 64 64 (by omega) (by rw [hz2]; omega) (by omega)
 have O2 := hq9 (o1.trans0 ho2)
 have HB2 := hq9 (HB.out.only ho2 (by simp))
 have HX := hq9 hb2
 have hh : (w.alloc (.cells #[.int .i64 cls, .int .i64 kind, .int .u64 id, .int .u64 ver, .int .u64 ep, .string ks, .string vs] 282)).heap.size = w.heap.size + 1 := by simp
 rw [hh] at HX hmk
 simp only [Int.cast_ofNat_Int] at hmk
 clear o1 hb2 ho2 hs2 hi0 hz0 hz1 hz2 HB hh
 go_enter Tryz.func234, Tryz.ntmps234
 go_wp2_with fail
 have x0 : w2.cell? ⟨w.heap.size, 0, none⟩ = some (.int .i64 cls) := HB2.out.cell 0
 have x1 : w2.cell? ⟨w.heap.size, 1, none⟩ = some (.int .i64 kind) := HB2.out.cell 1
 have x5 : w2.cell? ⟨w.heap.size, 5, none⟩ = some (.string ks) := HB2.out.cell 5
 have y0 : w2.cell? ⟨w.heap.size + 1, 0, none⟩ = some (.int .u8 0) := by rw [HX.out.cell]; rfl
 have y1 : w2.cell? ⟨w.heap.size + 1, 1, none⟩ = some (.int .u8 0) := by rw [HX.out.cell]; rfl
 have y2 : w2.cell? ⟨w.heap.size + 1, 2, none⟩ = some (.int .u8 0) := by rw [HX.out.cell]; rfl
 have y3 : w2.cell? ⟨w.heap.size + 1, 3, none⟩ = some (.int .u8 0) := by rw [HX.out.cell]; rfl
 have z0 := HX.out.frozen 0
 have z1 := HX.out.frozen 1
 have z2 := HX.out.frozen 2
 have z3 := HX.out.frozen 3
 go_region_held3 (fun w' => w'.cell? ⟨w.heap.size, 0, none⟩ = some (.int .i64 cls) ∧ w'.cell? ⟨w.heap.size, 1, none⟩ = some (.int .i64 kind) ∧ w'.cell? ⟨w.heap.size, 5, none⟩ = some (.string ks)) (go_keep) (first | fail)
 have u1 : IntKind.u8.wrap cls = ((u8 cls).toNat : Int) := by rw [u8_toNat, IntKind.wrap_u8]
 have u2 : IntKind.u8.wrap kind = ((u8 kind).toNat : Int) := by rw [u8_toNat, IntKind.wrap_u8]
 have u3 : IntKind.u8.wrap (ks.size : Int) = ((u8 ks.size).toNat : Int) := by rw [u8_toNat, IntKind.wrap_u8]
 have hown : OwnB 5 w2 w.heap.size (w.heap.size + 1) 64 64 (List.replicate 64 0) := ⟨by simp, .inr ⟨_, _, _, rfl, by omega, HX.out, by omega, by unfold maxLen; omega, by simp, by simp [B]⟩⟩
 have how := (((hown.set 0 (x := 1) (y := 1) rfl).set 1 u1).set 2 u2).set 3 u3
 have hls : ((((List.replicate 64 (0 : UInt8)).set 0 1).set 1 (u8 cls)).set 2 (u8 kind)).set 3 (u8 ks.size) = first4 (u8 cls) (u8 kind) (u8 ks.size) := by simp [first4, List.replicate_succ]
 rw [hls] at how
 have oo : Only [w.heap.size + 1] w2 _ := (((((Only.refl [w.heap.size + 1] w2).setCell (p := ⟨w.heap.size + 1, 0, none⟩) (.inl (by simp)) (.int .u8 1)).setCell (p := ⟨w.heap.size + 1, 1, none⟩) (.inl (by simp)) (.int .u8 (IntKind.u8.wrap cls))).setCell (p := ⟨w.heap.size + 1, 2, none⟩) (.inl (by simp)) (.int .u8 (IntKind.u8.wrap kind))).setCell (p := ⟨w.heap.size + 1, 3, none⟩) (.inl (by simp)) (.int .u8 (IntKind.u8.wrap (ks.size : Int)))).drew
 have OW3 := hq9 (how.only (S := []) ((Only.refl _ _).drew) (by simp))
 have BX3 := hq9 (HB2.out.only oo (by simp))
 have O3 := hq9 (O2.out.trans oo (by intro b hb; simp at hb; omega))
 clear u1 u2 u3 hown how hls oo x0 x1 x5 y0 y1 y2 y3 z0 z1 z2 z3 HX
 generalize hw3 : (((((w2.setCell ⟨w.heap.size + 1, 0, none⟩ (.int .u8 1)).setCell ⟨w.heap.size + 1, 1, none⟩ (.int .u8 (IntKind.u8.wrap cls))).setCell ⟨w.heap.size + 1, 2, none⟩ (.int .u8 (IntKind.u8.wrap kind))).setCell ⟨w.heap.size + 1, 3, none⟩ (.int .u8 (IntKind.u8.wrap (ks.size : Int))))).drew = w3 at *
 clear hw3
 have c4 : w3.cell? ⟨w.heap.size, 6, none⟩ = some (.string vs) := BX3.out.cell 6
 go_wp2_with fail
 refine (block_put (w.heap.size + 1) 64 _ 4 2 vs.size w3 OW3.out (by omega) (by omega) (by omega)).mono ?_
 rintro e w4 ⟨rfl, ow, oo⟩
 have OW4 := hq9 ow
 have BX4 := hq9 (BX3.out.only oo (by simp))
 have O4 := hq9 (O3.out.trans oo (by intro b hb; simp at hb; omega))
 clear ow oo c4
 have c5 : w4.cell? ⟨w.heap.size, 2, none⟩ = some (.int .u64 id) := BX4.out.cell 2
 go_wp2_with fail
 refine (block_put (w.heap.size + 1) 64 _ 8 8 id w4 OW4.out (by omega) (by omega) (by omega)).mono ?_
 rintro e w5 ⟨rfl, ow, oo⟩
 have OW5 := hq9 ow
 have BX5 := hq9 (BX4.out.only oo (by simp))
 have O5 := hq9 (O4.out.trans oo (by intro b hb; simp at hb; omega))
 clear ow oo c5
 have c6 : w5.cell? ⟨w.heap.size, 3, none⟩ = some (.int .u64 ver) := BX5.out.cell 3
 go_wp2_with fail
 refine (block_put (w.heap.size + 1) 64 _ 16 8 ver w5 OW5.out (by omega) (by omega) (by omega)).mono ?_
 rintro e w6 ⟨rfl, ow, oo⟩
 have OW6 := hq9 ow
 have BX6 := hq9 (BX5.out.only oo (by simp))
 have O6 := hq9 (O5.out.trans oo (by intro b hb; simp at hb; omega))
 clear ow oo c6
 have c7 : w6.cell? ⟨w.heap.size, 4, none⟩ = some (.int .u64 ep) := BX6.out.cell 4
 go_wp2_with fail
 refine (block_put (w.heap.size + 1) 64 _ 24 8 ep w6 OW6.out (by omega) (by omega) (by omega)).mono ?_
 rintro e w7 ⟨rfl, ow, oo⟩
 have OW7 := hq9 ow
 have BX7 := hq9 (BX6.out.only oo (by simp))
 have O7 := hq9 (O6.out.trans oo (by intro b hb; simp at hb; omega))
 clear ow oo c7
 have hl4 : ∀ v, (lay 4 v).length = 4 := fun v => lay_length 4 v
 obtain ⟨hh1, hh2⟩ := head_to (u8 cls) (u8 kind) (u8 ks.size) (lay_length 2 vs.size) (lay_length 8 id) (lay_length 8 ver) (lay_length 8 ep) (hl4 (crc (head32 (mkB cls kind id ver ep ks vs) ++ r))) (r := r.take 28) (by have := hr.len; simp; omega)
 have hhead : [1, u8 cls, u8 kind, u8 ks.size] ++ lay 2 vs.size ++ [0, 0] ++ lay 8 id ++ lay 8 ver ++ lay 8 ep = head32 (mkB cls kind id ver ep ks vs) := by
  unfold head32 mkB
  simp
 rw [hhead] at hh1 hh2
 have hhl := head32_length (mkB cls kind id ver ep ks vs)
 have ow7 := OW7.out
 rw [hh1] at ow7
 have hlaid := laid64 hhl (hl4 (crc (head32 (mkB cls kind id ver ep ks vs) ++ r))) (r := r) (by have := hr.len; omega)
 rw [← hlaid] at hh2
 have HH2 := hq9 hh2
 have hrl := hr.len
 have R7 := hq9 (Bs.only0 hr O7.out)
 clear hh1 hh2 hhead hlaid hl4
 generalize hhg : head32 (mkB cls kind id ver ep ks vs) = h at *
 have HHG := hq9 hhg
 clear hhg
 have hs32 : Bs w7 (some ⟨w.heap.size + 1, 0, none⟩) 32 h := by
  have := ow7.bs.cut (a := 0) (m := 32) (by omega)
  rwa [List.drop_zero, List.take_left' hhl] at this
 have HS := hq9 hs32
 have HC := hq9 (crc_append h r)
 have hcl := crc_lt h
 have hcl2 := crc_lt (h ++ r)
 have OW := hq9 ow7
 clear hs32 ow7
 go_wp2_with fail
 refine (sum_Sum _ _ _ h _ HS.out (by unfold maxLen; omega)).mono ?_
 rintro e w' ⟨rfl, rfl⟩
 go_wp2_with fail
 refine (sum_Add (crc h) _ _ _ r _ hcl R7.out (by unfold maxLen; omega)).mono ?_
 rintro e w' ⟨rfl, rfl⟩
 rw [← HC.out]
 go_wp2_with fail
 refine (block_put (w.heap.size + 1) 64 _ 32 4 (crc (h ++ r)) w7 OW.out (by omega) (by omega) (by omega)).mono ?_
 rintro e w8 ⟨rfl, ow, oo⟩
 have hne : ∀ b off s, A = some ⟨b, off, s⟩ → b < w.heap.size := fun b off s e => Sl.lt hr (by omega) e
 have OW8 := hq9 ow
 have R8 := hq9 (Bs.only R7.out oo (fun b off s e hb => by have := hne b off s e; simp at hb; omega))
 have O8 := hq9 (O7.out.trans oo (by intro b hb; simp at hb; omega))
 clear ow oo
 obtain ⟨cur, hcur, hsz⟩ := OW8.out.blk
 have HCU := hq9 hcur
 go_wp2_with (refine wpList_copy_blk rfl (.tmp 52) (.tmp 53) 71 71 rfl 5 Tryz.underlying71 byteSizeD (w.heap.size + 1) 36 28 28 A n c rfl rfl _ cur hcur (by omega) (r.map B) R8.out one_B ?_; intro w9 hb9 ho9 hs9)
 go_ret
 have hb9' := hb9
 rw [← List.map_take] at hb9'
 have hfin := OW8.out.splice_ HCU.out (l2 := r.take 28) (off := 36) (by simp; omega) hb9'
 rw [HH2.out] at hfin
 rw [HHG.out]
 exact ⟨.slice (some ⟨w.heap.size + 1, 0, none⟩) 64 64, rfl, madeB_of hfin (O8.out.trans ho9 (by intro b hb; simp at hb; omega))⟩
end Go.Proofs.YtlggichakafkiaaGreat
namespace Go.Proofs.FuMem
open Go.RowKit
theorem wpList_copy_str {P : Program} {w : World} {ops : Array Oper} {rest : List Oper} {o : Oper} {a : Act} {Q : Exit → Act → World → Prop} (hgd : o.guard = none) (d s : Operand) (dT sT : TypeId)
  (ho : o.op = .call { callee := .builtin .copy, args := #[d, s], argTypes := #[dT, sT] }) (elem : TypeId) (hu : P.underlying dT = some (.slice elem)) (hsz : (P.info? elem).map (·.size) = some 1)
  (g off dLen dCap : Nat) (t : ByteArray) (hd : a.eval d = .slice (some ⟨g, off, none⟩) dLen dCap) (hs : a.eval s = .string t) (T : TypeId) (cs : Array Value) (hb : Blk w g T cs) (hle : t.size ≤ dLen) (hfit : off + t.size ≤ cs.size)
  (h : ∀ w', Blk w' g T (splice cs off (t.data.toList.map B)) → Only [g] w w' → w'.heap.size = w.heap.size → wpList P ops Q rest (a.put o.dst (goInt t.size)) w') : wpList P ops Q (o :: rest) a w :=
 wpList_plain hgd fun K hK => by
  have hr := Lib.run_copy_row_string (P := P) w dT sT o.type elem g off dLen dCap t cs T hu hsz hb hle hfit
  unfold Oper.wp execOp
  simp only [ho, resolve, invoke, builtin, Sem.run_bind, Sem.run_pure, Result.andThen_ok, List.map_toArray, List.map_cons, List.map_nil, hd, hs, hr]
  refine hK _ _ (h _ ?_ ((Only.refl _ _).setRow (.inl (by simp)) _) (by simp))
  have hl : (t.data.toList.map B).length = t.size := by simp
  have := hb.row (cs.toList.take off ++ Lib.byteCells t.data.toList ++ cs.toList.drop (off + t.size)).toArray
  unfold splice
  rw [hl]
  exact this
theorem own_lt {w : World} {base : Nat} {e : TypeId} {size n : Nat} {v : Value} {xs : List Value} (h : w.ownsRow base e size v n xs) : ∀ k, v.ownBlock = some k → k < w.heap.size := fun k hk => by
 rcases h.2 with ⟨rfl, _⟩ | ⟨g, cap, cur, rfl, hbg, hg, _⟩
 ·simp [Value.ownBlock] at hk
 ·have : g = k := by simpa [Value.ownBlock] using hk
  subst this
  exact (Array.getElem?_eq_some_iff.1 hg).1
end Go.Proofs.FuMem
namespace Go.Proofs.FuBlock
open Go.Proofs.FuCode Go.Proofs.FuCrc Go.Proofs.FuClass
def enc (b : Block) : List UInt8 × Nat := if may b = true then (lines b, 0) else ([], 3)
def piece (r : List UInt8) (j : Nat) : List UInt8 := 2 :: (r.drop (28 + 63 * j)).take 63
theorem linesTo_piece {b : Block} {m j : Nat} (hr : (room b).length = 28 + 63 * (m - 1)) (hj : j + 1 < m) : linesTo b (64 * (j + 1)) ++ piece (room b) j = linesTo b (64 * (j + 2)) := by
 have hp : (piece (room b) j).length = 64 := by
  unfold piece
  rw [List.length_cons, List.length_take, List.length_drop]
  omega
 have h1 : (linesTo b (64 * (j + 1))).length = 64 * (j + 1) := laid_length _ _ _ _
 apply List.ext_getElem?
 intro i
 rw [List.getElem?_append, h1]
 by_cases c1 : i < 64 * (j + 1)
 ·rw [if_pos c1]
  unfold linesTo
  rw [List.getElem?_eq_getElem (by rw [laid_length]; exact c1), List.getElem?_eq_getElem (by rw [laid_length]; omega), laid_at, laid_at]
 ·rw [if_neg c1]
  by_cases c2 : i < 64 * (j + 2)
  ·have h2 : (linesTo b (64 * (j + 2)))[i]? = some (byteAt (head32 b) (sumOf b) (room b) i) := by
    unfold linesTo
    rw [List.getElem?_eq_getElem (by rw [laid_length]; exact c2), laid_at]
   rw [h2]
   unfold byteAt
   rw [if_neg (by omega), if_neg (by omega), if_neg (by omega)]
   by_cases c3 : i = 64 * (j + 1)
   ·subst c3
    rw [if_pos (by omega), Nat.sub_self]
    rfl
   ·rw [if_neg (by omega)]
    unfold piece
    obtain ⟨t, ht⟩ : ∃ t, i - 64 * (j + 1) = t + 1 := ⟨i - 64 * (j + 1) - 1, by omega⟩
    rw [ht, List.getElem?_cons_succ, List.getElem?_take_of_lt (by omega), List.getElem?_drop]
    have e : 28 + 63 * (i / 64 - 1) + (i % 64 - 1) = 28 + 63 * j + t := by omega
    rw [e, getD_eq (by omega), List.getElem?_eq_getElem (by omega)]
  ·rw [List.getElem?_eq_none (by omega), List.getElem?_eq_none (by unfold linesTo; rw [laid_length]; omega)]
end Go.Proofs.FuBlock
namespace Go.Proofs.YtlggichakafkiaaGreat
open Go.RowKit Go.Proofs.FuMem Go.Proofs.FuCode Go.Proofs.FuClass Go.Proofs.FuBlock Go.Proofs.FuEq Go.Proofs.FuCrc
set_option maxRecDepth 100000
set_option maxHeartbeats 8000000 in
theorem block_Encode (cls kind : Int) (id ver ep : Nat) (ks vs : ByteArray) (w : World) (hc : -9223372036854775808 ≤ cls ∧ cls ≤ 9223372036854775807) (hi : id < 18446744073709551616) (hv : ver < 18446744073709551616) (he : ep < 18446744073709551616)
  (hks : ks.size ≤ 1000000) (hvs : vs.size ≤ 1000000) :
  Calls Tryz.prog 193 #[blockV cls kind id ver ep ks vs] w (MadeE w (enc (mkB cls kind id ver ep ks vs))) := by
 have o1 : Only [] w (w.alloc (.cells #[.int .i64 cls, .int .i64 kind, .int .u64 id, .int .u64 ver, .int .u64 ep, .string ks, .string vs] 282)) := (Only.refl _ _).alloc _
 have HB := hq9 (Blk.new w 282 #[.int .i64 cls, .int .i64 kind, .int .u64 id, .int .u64 ver, .int .u64 ep, .string ks, .string vs])
 have O1 := hq9 o1
 clear o1
 have HMAY := hq9 (fun w => block_May cls kind id ver ep ks vs w hc hi hv he hks hvs)
 by_cases hm : may (mkB cls kind id ver ep ks vs) = true
 case neg =>
  have hm2 : may (mkB cls kind id ver ep ks vs) = false := by simpa using hm
  have henc : enc (mkB cls kind id ver ep ks vs) = ([], 3) := if_neg hm
  rw [henc]
  rw [hm2] at HMAY
  clear hm hm2 henc
  go_enter Tryz.func193, Tryz.ntmps193
  go_wp2_with ((with_reducible show wpList _ _ _ (Oper.mk (some 8) _ _ _ _ _ :: _) _ _); refine wpList_load_mid rfl 282 (.tmp 1) rfl w.heap.size 0 rfl [.int .i64 cls, .int .i64 kind, .int .u64 id, .int .u64 ver, .int .u64 ep, .string ks, .string vs] _ (fun j v hj => by rw [Nat.zero_add, HB.out.cell, List.getElem?_toArray.symm]; exact hj) Tryz.underlying282 rfl (by kernel_rfl) ?_)
  refine (HMAY.out _).mono ?_
  rintro e w2 ⟨rfl, o2⟩
  have O2 := hq9 (O1.out.trans0 o2)
  clear o2
  go_wp2
  go_ret2
  exact ⟨.slice none 0 0, rfl, none, 0, rfl, own_nil _ _ _ _, O2.out⟩
 case pos =>
 have henc : enc (mkB cls kind id ver ep ks vs) = (lines (mkB cls kind id ver ep ks vs), 0) := if_pos hm
 rw [henc]
 have hfine := fine_of hm
 rw [hm] at HMAY
 clear hm henc
 obtain ⟨i0, hi0, hz0, hz1, hz2⟩ := info_parts Tryz.byteInfo
 have hsp : 1 ≤ span cls ∧ span cls ≤ 8 := span_pos hfine.c0 hfine.c3
 have hcv := capN_val cls
 have hcap : capOf cls = ((capN cls : Nat) : Int) := (Int.toNat_of_nonneg (capOf_bd cls).1).symm
 have HSP := hq9 (fun w => class_Span cls w hc)
 have HCP := hq9 (fun w => class_Cap cls w hc)
 rw [hcap] at HCP
 have hfit : ks.size + vs.size ≤ capN cls := by have := hfine.fit; simpa [mkB] using this
 have hvl : vs.size ≤ 400 := by have := hfine.val; simpa [mkB] using this
 have hroom : (room (mkB cls kind id ver ep ks vs)).length = capN cls := room_length hfine.fit
 have hrdef : room (mkB cls kind id ver ep ks vs) = pad (capN cls) (ks.data.toList ++ vs.data.toList) := rfl
 have hldef : lines (mkB cls kind id ver ep ks vs) = linesTo (mkB cls kind id ver ep ks vs) (64 * span cls) := rfl
 have HEAD := hq9 (fun A n c w (hr : Bs w A n (room (mkB cls kind id ver ep ks vs))) (h1 : 28 ≤ n) (h2 : n ≤ 1000000) => block_head cls kind id ver ep ks vs A n c _ w hi hv he hks (by omega) hr h1 h2)
 have HI0 := hq9 hi0
 have HZ0 := hq9 hz0
 have HZ1 := hq9 hz1
 have HZ2 := hq9 hz2
 have HRD := hq9 hrdef
 have HLD := hq9 hldef
 have HRL := hq9 hroom
 have hm1 : capN cls = 28 + 63 * (span cls - 1) := by omega
 obtain ⟨m, hmm⟩ : ∃ m, m = span cls := ⟨_, rfl⟩
 obtain ⟨N, hN⟩ : ∃ N, N = capN cls := ⟨_, rfl⟩
 rw [← hmm] at hsp HSP HLD hm1
 rw [← hN] at HCP hfit HRD HRL hm1
 have HNM := hq9 hm1
 have hN28 : 28 ≤ N := by omega
 have hN2 : N ≤ 500 := by omega
 clear hi0 hz0 hz1 hz2 hcv hcap hfine hroom hrdef hldef hc hi hv he hm1 hmm hN
 generalize hrr : room (mkB cls kind id ver ep ks vs) = r at *
 have HRR := hq9 hrr
 clear hrr
 go_enter Tryz.func193, Tryz.ntmps193
 go_wp2_with ((with_reducible show wpList _ _ _ (Oper.mk (some 8) _ _ _ _ _ :: _) _ _); refine wpList_load_mid rfl 282 (.tmp 1) rfl w.heap.size 0 rfl [.int .i64 cls, .int .i64 kind, .int .u64 id, .int .u64 ver, .int .u64 ep, .string ks, .string vs] _ (fun j v hj => by rw [Nat.zero_add, HB.out.cell, List.getElem?_toArray.symm]; exact hj) Tryz.underlying282 rfl (by kernel_rfl) ?_)
 refine (HMAY.out _).mono ?_
 rintro e w2 ⟨rfl, o2⟩
 have O2 := hq9 (O1.out.trans0 o2)
 have HB2 := hq9 (HB.out.only o2 (by simp))
 have x0 : w2.cell? ⟨w.heap.size, 0, none⟩ = some (.int .i64 cls) := HB2.out.cell 0
 clear o2
 go_wp2_with fail
 refine (HCP.out _).mono ?_
 rintro e w' ⟨rfl, rfl⟩
 obtain ⟨w3, hmk, hb3, ho3, hs3⟩ := make_blk (P := Tryz.prog) w2 71 5 i0 _ Tryz.underlying71 HI0.out HZ0.out HZ1.out rfl .i64 .i64 N N (by omega) (by rw [HZ2.out]; omega) (by omega)
 have B3 := hq9 hb3
 have HB3 := hq9 (HB2.out.only ho3 (by simp))
 have O3 := hq9 (O2.out.trans0 ho3)
 have x5 : w3.cell? ⟨w.heap.size, 5, none⟩ = some (.string ks) := HB3.out.cell 5
 have x6 : w3.cell? ⟨w.heap.size, 6, none⟩ = some (.string vs) := HB3.out.cell 6
 have hbw := HB2.out.lt
 clear hb3 ho3
 have hsz : (ks ++ vs).size = ks.size + vs.size := ByteArray.size_append ..
 have hdt : (ks ++ vs).data.toList = ks.data.toList ++ vs.data.toList := by simp
 have HDT := hq9 hdt
 clear hdt
 go_wp2_with (first
  | ((with_reducible show wpList _ _ _ (Oper.mk (some 21) _ _ _ _ _ :: _) _ _); refine wpList_copy_str rfl (.tmp 15) (.tmp 20) 71 9 rfl 5 Tryz.underlying71 byteSizeD w2.heap.size 0 N N (ks ++ vs) rfl rfl _ _ B3.out (by rw [hsz]; exact hfit) (by rw [hsz]; simp; omega) ?_; intro w4 hb4 ho4 hs4; have HB4 := hq9 (HB3.out.only ho4 (by simp; omega)); have B4 := hq9 hb4; have O4 := hq9 (O3.out.trans ho4 (by intro b hb; simp at hb; have := O2.out.size; omega)); clear hb4 ho4; have y0 : w4.cell? ⟨w.heap.size, 0, none⟩ = some (.int .i64 cls) := HB4.out.cell 0; have y1 : w4.cell? ⟨w.heap.size, 1, none⟩ = some (.int .i64 kind) := HB4.out.cell 1; have y2 : w4.cell? ⟨w.heap.size, 2, none⟩ = some (.int .u64 id) := HB4.out.cell 2; have y3 : w4.cell? ⟨w.heap.size, 3, none⟩ = some (.int .u64 ver) := HB4.out.cell 3; have y4 : w4.cell? ⟨w.heap.size, 4, none⟩ = some (.int .u64 ep) := HB4.out.cell 4; have y5 : w4.cell? ⟨w.heap.size, 5, none⟩ = some (.string ks) := HB4.out.cell 5; have y6 : w4.cell? ⟨w.heap.size, 6, none⟩ = some (.string vs) := HB4.out.cell 6))
 have hrow : FuMem.splice (Array.replicate N (Value.int .u8 0)) 0 ((ks ++ vs).data.toList.map B) = (r.map B).toArray := by
  unfold FuMem.splice
  rw [HRD.out, HDT.out]
  unfold pad
  apply Array.ext'
  simp [B]
 have b4 := B4.out
 rw [hrow] at b4
 have hbs : Bs w4 (some ⟨w2.heap.size, 0, none⟩) N r := by
  have := Arr.bs b4
  rwa [HRL.out] at this
 have BS4 := hq9 hbs
 have BK4 := hq9 b4
 clear hrow b4 hbs y0 y1 y2 y3 y4 y5 y6
 refine (HEAD.out _ N N w4 BS4.out hN28 (by omega)).mono ?_
 rintro e w5 ⟨v5, rfl, m5⟩
 obtain ⟨A5, c5, rfl, b5, o5⟩ := m5
 have hl5 : laid (head32 (mkB cls kind id ver ep ks vs)) (lay 4 (crc (head32 (mkB cls kind id ver ep ks vs) ++ r))) r 64 = linesTo (mkB cls kind id ver ep ks vs) 64 := by
  unfold linesTo sumOf
  rw [HRR.out]
 rw [hl5] at b5
 have hl6 : (laid (head32 (mkB cls kind id ver ep ks vs)) (lay 4 (crc (head32 (mkB cls kind id ver ep ks vs) ++ r))) r 64).length = 64 := laid_length _ _ _ _
 have hl7 : (linesTo (mkB cls kind id ver ep ks vs) 64).length = 64 := laid_length _ _ _ _
 rw [hl7] at b5
 rw [hl6]
 have hs4 := O4.out.size
 have HSTEP := hq9 (fun j (hj : j + 1 < m) => linesTo_piece (b := mkB cls kind id ver ep ks vs) (m := m) (j := j) (by rw [HRR.out, HRL.out, HNM.out]) hj)
 rw [HRR.out] at HSTEP
 have HOWN := hq9 b5
 have OK5 := hq9 o5
 have HBD := hq9 (BK4.out.only o5 (by simp))
 have O5 := hq9 (O4.out.trans0 o5)
 have HB5 := hq9 (HB4.out.only o5 (by simp))
 have x0 : w5.cell? ⟨w.heap.size, 0, none⟩ = some (.int .i64 cls) := HB5.out.cell 0
 clear hl5 hl6 hl7 b5 o5
 generalize hlt : linesTo (mkB cls kind id ver ep ks vs) = K at *
 have HLT := hq9 hlt
 have HKL := hq9 (fun n => (by rw [← hlt]; exact laid_length _ _ _ _ : (K n).length = n))
 clear hlt
 by_cases hm1 : m = 1
 ·subst hm1
  obtain rfl : N = 28 := by have := HNM.out; omega
  go_wp2_with fail
  refine (HSP.out _).mono ?_
  rintro e w' ⟨rfl, rfl⟩
  go_wp2
  go_loop [5, 31] (fun o i => o = .slice A5 64 c5 ∧ i = .int .i64 0) (fun _ _ => 0)
  case atStart => exact ⟨rfl, rfl⟩
  case round =>
   obtain ⟨rfl, rfl⟩ := hrel
   go_wp2
   go_ret2
   refine ⟨.slice A5 64 c5, rfl, ?_⟩
   have hl1 := HKL.out 64
   have hll : lines (mkB cls kind id ver ep ks vs) = K 64 := HLD.out
   rw [hll]
   exact madeB_own hl1 (World.ownsRow.mono HOWN.out hs4) O5.out
 ·have h28 : ¬ N = 28 := by have := HNM.out; omega
  have hdb : w2.heap.size < w5.heap.size := HBD.out.lt
  have hdw : w.heap.size ≤ w2.heap.size := O2.out.size
  have hbox : w.heap.size < w2.heap.size := hbw
  go_wp2_with fail
  refine (HSP.out _).mono ?_
  rintro e w' ⟨rfl, rfl⟩
  go_wp2
  go_loopw [4, 5, 6, 7, 31] (fun dv ov _ _ i wr => ∃ (j L co : Nat) (Ad Ao : Option Addr), j + 1 ≤ m ∧ i = .int .i64 j ∧ L + 63 * j + 28 = N ∧ dv = .slice Ad L L ∧ (0 < L → Ad = some ⟨w2.heap.size, 28 + 63 * j, none⟩) ∧ ov = .slice Ao (64 * (j + 1)) co ∧
    wr.ownsRow w4.heap.size 5 1 (.slice Ao (64 * (j + 1)) co) (64 * (j + 1)) ((K (64 * (j + 1))).map B) ∧ Only [] w4 wr) (fun _ _ _ _ i _ => m - (intOf i).toNat)
  case atStart => exact ⟨0, N - 28, c5, _, A5, by omega, rfl, by omega, rfl, fun _ => rfl, rfl, HOWN.out, OK5.out⟩
  case round =>
   obtain ⟨j, L, co, Ad, Ao, hj, rfl, hL, rfl, hAd, rfl, ho, on⟩ := hrel
   by_cases hlt : j + 1 < m
   ·have hL63 : 63 ≤ L := by have := HNM.out; omega
    have hL2 : L ≤ 500 := by omega
    obtain rfl := hAd (by omega)
    have q1 : decide ((j : Int) < (m : Int) - 1) = true := by rw [decide_eq_true_eq]; omega
    have hb := BK4.out.only on (by simp)
    have hoa := own_lt ho
    obtain ⟨w6, hmk, hb6, ho6, hs6⟩ := make_blk (P := Tryz.prog) wr 71 5 i0 _ Tryz.underlying71 HI0.out HZ0.out HZ1.out rfl .i64 .i64 64 64 (by omega) (by rw [HZ2.out]; omega) (by omega)
    simp only [Int.cast_ofNat_Int] at hmk
    have hcl0 : w6.cell? ⟨wr.heap.size, 0, none⟩ = some (.int .u8 0) := by rw [hb6.cell]; rfl
    have hfz0 := hb6.frozen 0
    have hdl := hb.lt
    have hsz := on.size
    have o7 : Only [wr.heap.size] w6 (w6.setCell ⟨wr.heap.size, 0, none⟩ (.int .u8 2)) := (Only.refl _ _).setCell (.inl (by simp)) _
    have hb7 := hb6.set 0 (.int .u8 2)
    have hd7 := (hb.only ho6 (by simp)).only o7 (by simp; omega)
    have hsrc : Bs (w6.setCell ⟨wr.heap.size, 0, none⟩ (.int .u8 2)) (some ⟨w2.heap.size, 28 + 63 * j, none⟩) L ((r.drop (28 + 63 * j)).take L) := by
     have := (Arr.bs hd7)
     rw [HRL.out] at this
     have := this.cut (a := 28 + 63 * j) (m := L) (by omega)
     rwa [Nat.zero_add] at this
    have hlen : (r.drop (28 + 63 * j)).length = L := by rw [List.length_drop, HRL.out]; omega
    rw [List.take_of_length_le (by omega)] at hsrc
    have hpiece : FuMem.splice ((Array.replicate 64 (Value.int .u8 0)).setIfInBounds 0 (.int .u8 2)) 1 (((r.drop (28 + 63 * j)).map B).take 63) = ((piece r j).map B).toArray := by
     unfold FuMem.splice piece
     have h63 : ((List.map B (List.drop (28 + 63 * j) r)).take 63).length = 63 := by rw [List.length_take, List.length_map, hlen]; omega
     rw [h63]
     apply Array.ext'
     simp [List.replicate_succ, B]
    have HPC := hq9 hpiece
    have HPL := hq9 (show (piece r j).length = 64 by unfold piece; rw [List.length_cons, List.length_take, hlen]; omega)
    have HS7 := hq9 hsrc
    have HB7 := hq9 hb7
    have O7 := hq9 ((on.trans0 ho6).trans o7 (by intro b hb; simp at hb; omega))
    have HO7 := hq9 (own_only (own_only ho ho6 (by simp)) o7 (by intro k hk; have := hoa k hk; simp; omega))
    have HST := hq9 (HSTEP.out j hlt)
    have HOA := hq9 hoa
    clear hlen hsrc hb7 hd7 o7 ho6 hb6 ho hb on hs6 hAd hpiece hoa
    have hmin : Hid (((min L 63 : Nat) : Int) = 63) := hq9 (by omega)
    go_wp2_with (first | ((with_reducible show wpList _ _ _ (Oper.mk (some 39) _ _ _ _ _ :: _) _ _); refine wpList_copy_blk rfl (.tmp 37) (.tmp 38) 71 71 rfl 5 Tryz.underlying71 byteSizeD wr.heap.size 1 63 63 (some ⟨w2.heap.size, 28 + 63 * j, none⟩) L L rfl rfl _ _ HB7.out (by simp) ((r.drop (28 + 63 * j)).map B) HS7.out one_B ?_; intro w8 hb8 ho8 hs8; rw [HPC.out] at hb8; rw [hmin.out]; have W8 := hq9 hb8; have O8 := hq9 (O7.out.trans ho8 (by intro b hb; simp at hb; omega)); have R8 := hq9 (own_only HO7.out ho8 (by intro k hk; have := HOA.out k hk; simp; omega)); clear hb8 ho8 hs8) | (at_builtin; obtain ⟨A9, c9, w9, hr9, hw9, hs9, on9⟩ := append_own (P := Tryz.prog) w8 O8.out 71 71 5 i0 _ 1 Tryz.underlying71 HI0.out HZ0.out HZ1.out HZ2.out rfl _ (64 * (j + 1)) _ R8.out (some ⟨wr.heap.size, 0, none⟩) 64 64 ((piece r j).map B) (by have := Arr.bs W8.out; rwa [HPL.out] at this) one_B (by unfold maxLen; omega) (by omega); rw [← List.map_append, HST.out] at hw9; have H9 := hq9 hw9; have N9 := hq9 on9; clear hw9 hs9 on9; refine wpList_append_run _ rfl (.tmp 43) (.tmp 44) 71 rfl _ _ rfl rfl _ _ hr9 ?_))
    all_goals
     go_roundw
     ·exact ⟨j + 1, L - 63, c9, _, A9, by omega, by simp, by omega, by congr 1 <;> omega, fun h => by first | omega | (rw [if_neg (show ¬ L = 63 by omega), show 28 + 63 * j + 63 = 28 + 63 * (j + 1) by omega]) | (rw [show 28 + 63 * j + 63 = 28 + 63 * (j + 1) by omega]), rfl, H9.out, N9.out⟩
     ·simp [intOf]
      omega
   ·obtain rfl : m = j + 1 := by omega
    obtain rfl : L = 0 := by have := HNM.out; omega
    have q1 : decide ((j : Int) < ((j + 1 : Nat) : Int) - 1) = false := by rw [decide_eq_false_iff_not]; omega
    have HO := hq9 ho
    have ON := hq9 on
    clear ho on hAd
    go_wp2
    go_ret2
    refine ⟨.slice Ao (64 * (j + 1)) co, rfl, ?_⟩
    have hl1 := HKL.out (64 * (j + 1))
    have hll : lines (mkB cls kind id ver ep ks vs) = K (64 * (j + 1)) := HLD.out
    rw [hll]
    exact madeB_own hl1 (World.ownsRow.mono HO.out hs4) (O4.out.trans0 ON.out)
end Go.Proofs.YtlggichakafkiaaGreat
namespace Go.Proofs.FuBlock
open Go.Proofs.FuCode Go.Proofs.FuCrc Go.Proofs.FuClass
theorem dataOf_one {l : List UInt8} (h : 64 ≤ l.length) : dataOf 1 l = (l.drop 36).take 28 := by
 unfold dataOf
 apply List.ext_getElem
 ·simp
  omega
 ·intro i h1 h2
  simp at h1
  rw [List.getElem_map, List.getElem_range, List.getElem_take, List.getElem_drop]
  unfold pos
  rw [if_pos (by omega), getD_eq (by omega)]
theorem dataOf_succ {l : List UInt8} {j : Nat} (hj : 1 ≤ j) (h : 64 * (j + 1) ≤ l.length) : dataOf (j + 1) l = dataOf j l ++ (l.drop (64 * j + 1)).take 63 := by
 unfold dataOf
 apply List.ext_getElem
 ·simp
  omega
 ·intro i h1 h2
  simp at h1
  rw [List.getElem_map, List.getElem_range, List.getElem_append]
  split
  ·rw [List.getElem_map, List.getElem_range]
  ·rename_i h3
   simp at h3
   rw [List.getElem_take, List.getElem_drop]
   unfold pos
   rw [if_neg (by omega), getD_eq (by omega)]
   congr 1
   simp
   omega
end Go.Proofs.FuBlock
namespace Go.Proofs.YtlggichakafkiaaGreat
open Go.RowKit Go.Proofs.FuMem Go.Proofs.FuCode Go.Proofs.FuClass Go.Proofs.FuBlock Go.Proofs.FuEq Go.Proofs.FuCrc
set_option maxRecDepth 100000
theorem own_empty8 (w : World) (e : TypeId) : (w.alloc (.cells #[] e)).ownsRow w.heap.size e 1 (.slice (some ⟨w.heap.size, 0, none⟩) 0 0) 0 [] :=
 ⟨rfl, .inr ⟨w.heap.size, 0, #[], rfl, Nat.le_refl _, Blk.new w e #[], Nat.le_refl _, Nat.zero_le _, rfl, rfl⟩⟩
set_option maxHeartbeats 800000 in
theorem block_data (A : Option Addr) (n c m : Nat) (l : List UInt8) (w : World) (h : Bs w A n l) (hm : 1 ≤ m ∧ m ≤ 8) (hn : n = 64 * m) (hc : n ≤ c) :
  Calls Tryz.prog 192 #[.slice A n c] w fun e w' => e = .returned (.string ⟨(dataOf m l).toArray⟩) ∧ Only [] w w' := by
 have hl := h.len
 obtain ⟨b, off, rfl, hcell⟩ := h.at_ (by omega)
 have hbw := h.lt (by omega) rfl
 obtain ⟨i0, hi0, hz0, hz1, hz2⟩ := info_parts Tryz.byteInfo
 have HI0 := hq9 hi0
 have HZ0 := hq9 hz0
 have HZ1 := hq9 hz1
 have HZ2 := hq9 hz2
 have HB := hq9 h
 have HN := hq9 hn
 have HL := hq9 hl
 have hn64 : 64 ≤ n := by omega
 have hn2 : n ≤ 512 := by omega
 have D1 := hq9 (dataOf_one (l := l) (by omega))
 have DS := hq9 (fun j (hj : 1 ≤ j) (hh : j + 1 ≤ m) => dataOf_succ (l := l) hj (by omega))
 clear hi0 hz0 hz1 hz2 h hl hcell hn
 have o1 : Only [] w (w.alloc (.cells #[] 5)) := (Only.refl _ _).alloc _
 have HB1 := hq9 ((HB.out.only0 o1).cut (a := 36) (m := 28) (by omega))
 have OW := hq9 (own_empty8 w 5)
 have O1 := hq9 o1
 clear o1
 go_enter Tryz.func192, Tryz.ntmps192
 go_wp2_with (at_builtin; obtain ⟨A9, c9, w9, hr9, hw9, hs9, on9⟩ := append_own (P := Tryz.prog) (w.alloc (.cells #[] 5)) O1.out 71 71 5 i0 _ 1 Tryz.underlying71 HI0.out HZ0.out HZ1.out HZ2.out rfl (.slice (some ⟨w.heap.size, 0, none⟩) 0 0) 0 [] OW.out (some ⟨b, off + 36, none⟩) 28 (c - 36) (((l.drop 36).take 28).map B) HB1.out one_B (by unfold maxLen; omega) (by omega); rw [← D1.out, List.nil_append] at hw9; have H9 := hq9 hw9; have N9 := hq9 on9; clear hw9 hs9 on9; refine wpList_append_run _ rfl (.tmp 5) (.tmp 7) 71 rfl _ _ rfl rfl _ _ hr9 ?_)
 go_loopw [3, 4] (fun xv av wr => ∃ (j a k co : Nat) (Ao : Option Addr), 1 ≤ j ∧ j ≤ m ∧ a = 64 * j ∧ k = 28 + 63 * (j - 1) ∧ av = .int .i64 a ∧ xv = .slice Ao k co ∧ wr.ownsRow w.heap.size 5 1 (.slice Ao k co) k ((dataOf j l).map B) ∧ Only [] w wr) (fun _ av _ => n - (intOf av).toNat)
 case atStart => exact ⟨1, 64, 28, c9, A9, by omega, by omega, by omega, by omega, rfl, by simp, H9.out, N9.out⟩
 case round =>
  obtain ⟨j, a, k, co, Ao, h1, h2, ha, hk, rfl, rfl, ho, on⟩ := hrel
  by_cases hj : j + 1 ≤ m
  ·have han : a + 64 ≤ n := by have := HN.out; omega
   have q1 : decide ((a : Int) < (n : Int)) = true := by rw [decide_eq_true_eq]; omega
   have hcut : Bs wr (some ⟨b, off + (a + 1), none⟩) 63 ((l.drop (a + 1)).take 63) := (HB.out.only0 on).cut (by omega)
   have HST := hq9 (DS.out j h1 hj)
   rw [← ha] at HST
   have HA := hq9 ha
   have HK := hq9 hk
   have h63 : a + 64 - (a + 1) = 63 := by omega
   have hcut2 : Bs wr (some ⟨b, off + (a + 1), none⟩) (a + 64 - (a + 1)) ((l.drop (a + 1)).take 63) := by rw [h63]; exact hcut
   have HC := hq9 hcut2
   clear h63 hcut2
   have HO := hq9 ho
   have ON := hq9 on
   have hk2 : k ≤ 500 := by omega
   clear ha hk hcut ho on
   go_wp2_with (at_builtin; obtain ⟨A8, c8, w8, hr8, hw8, hs8, on8⟩ := append_own (P := Tryz.prog) wr ON.out 71 71 5 i0 _ 1 Tryz.underlying71 HI0.out HZ0.out HZ1.out HZ2.out rfl _ k _ HO.out (some ⟨b, off + (a + 1), none⟩) (a + 64 - (a + 1)) (c - (a + 1)) (((l.drop (a + 1)).take 63).map B) HC.out one_B (by unfold maxLen; omega) (by omega); rw [← List.map_append, ← HST.out] at hw8; have H8 := hq9 hw8; have N8 := hq9 on8; clear hw8 hs8 on8; refine wpList_append_run _ rfl (.tmp 15) (.tmp 21) 71 rfl _ _ rfl rfl _ _ hr8 ?_)
   go_roundw
   ·exact ⟨j + 1, a + 64, k + (a + 64 - (a + 1)), c8, A8, by omega, by omega, by have := HA.out; omega, by have := HK.out; omega, by simp, by rw [show a + 64 - (a + 1) = 63 by omega], H8.out, N8.out⟩
   ·simp [intOf]
    omega
  ·obtain rfl : m = j := by omega
   have han : n = a := by have := HN.out; omega
   subst han
   have q1 : decide ((n : Int) < (n : Int)) = false := by simp
   have HS := hq9 (show Bs wr Ao k (dataOf m l) from Sl.of_own ho)
   have ON := hq9 on
   clear ha hk ho on
   have hst := run_str (P := Tryz.prog) Tryz.underlying71 Tryz.underlying5 Tryz.underlying9 HS.out co
   go_wp2
   go_ret
   exact ⟨rfl, ON.out⟩
end Go.Proofs.YtlggichakafkiaaGreat
namespace Go.Proofs.FuBlock
open Go.Proofs.FuCode Go.Proofs.FuCrc Go.Proofs.FuClass
def headOf (l : List UInt8) : Value := if isHead l then .tuple #[.int .i64 (l.getD 1 0).toNat, .int .i64 (l.getD 2 0).toNat, .bool true] else .tuple #[.int .i64 0, .int .i64 0, .bool false]
def draftOf (c : Int) : List UInt8 := if span c = 0 then [] else linesTo ⟨c, 0, 0, 0, 0, [], []⟩ 64
end Go.Proofs.FuBlock
namespace Go.Proofs.YtlggichakafkiaaGreat
open Go.RowKit Go.Proofs.FuMem Go.Proofs.FuCode Go.Proofs.FuClass Go.Proofs.FuBlock Go.Proofs.FuEq Go.Proofs.FuCrc
set_option maxRecDepth 100000
set_option maxHeartbeats 800000 in
theorem block_Head (A : Option Addr) (n c : Nat) (l : List UInt8) (w : World) (h : Bs w A n l) (hn : n ≤ 1000000) :
  Calls Tryz.prog 190 #[.slice A n c] w fun e w' => e = .returned (headOf l) ∧ Only [] w w' := by
 have hl := h.len
 have o0 : Only [] w w := Only.refl _ _
 by_cases hn64 : n = 64
 case neg =>
  have hh : headOf l = .tuple #[.int .i64 0, .int .i64 0, .bool false] := if_neg fun hx => by have := hx.1; omega
  rw [hh]
  have q0 : ¬ (n : Int) = 64 := by omega
  clear h hl hh
  go_enter Tryz.func190, Tryz.ntmps190
  go_wp2
  go_ret3
  exact ⟨rfl, o0⟩
 subst hn64
 obtain ⟨b, off, rfl, hcell⟩ := h.at_ (by omega)
 have x0 := hcell 0 (by omega)
 have x1 := hcell 1 (by omega)
 have x2 := hcell 2 (by omega)
 have g0 : l.getD 0 0 = l[0] := getD_eq (by omega)
 have g1 : l.getD 1 0 = l[1] := getD_eq (by omega)
 have g2 : l.getD 2 0 = l[2] := getD_eq (by omega)
 have hd : isHead l ↔ l[0] = 1 ∧ l[1].toNat ≤ 3 ∧ l[2].toNat ≤ 3 := by
  unfold isHead
  rw [g0, g1, g2]
  exact ⟨fun x => x.2, fun x => ⟨hl, x⟩⟩
 have hv : headOf l = if l[0] = 1 ∧ l[1].toNat ≤ 3 ∧ l[2].toNat ≤ 3 then .tuple #[.int .i64 l[1].toNat, .int .i64 l[2].toNat, .bool true] else .tuple #[.int .i64 0, .int .i64 0, .bool false] := by
  unfold headOf
  rw [g1, g2]
  by_cases e : isHead l
  ·rw [if_pos e, if_pos (hd.1 e)]
  ·rw [if_neg e, if_neg (fun x => e (hd.2 x))]
 have e01 : l[0] = 1 ↔ l[0].toNat = 1 := ⟨fun e => by rw [e]; rfl, fun e => UInt8.toNat.inj e⟩
 simp only [e01] at hv
 have p0 := l[0].toNat_lt
 have p1 := l[1].toNat_lt
 have p2 := l[2].toNat_lt
 rw [hv]
 generalize l[0].toNat = a at *
 generalize l[1].toNat = p at *
 generalize l[2].toNat = q at *
 clear hv hd g0 g1 g2 h hl hcell e01
 rw [Nat.add_zero] at x0
 have HSP := hq9 (fun w => class_Span (p : Int) w (by omega))
 have hsp := span_cases (p : Int)
 by_cases ha : a = 1
 case neg =>
  rw [if_neg (fun x => ha x.1)]
  have q0 : ¬ (a : Int) = 1 := by omega
  go_enter Tryz.func190, Tryz.ntmps190
  go_wp2
  go_ret3
  exact ⟨rfl, o0⟩
 subst ha
 by_cases hp : p ≤ 3
 case neg =>
  rw [if_neg (fun x => hp x.2.1)]
  have hs0 : span (p : Int) = 0 := by omega
  rw [hs0] at HSP
  clear hsp
  go_enter Tryz.func190, Tryz.ntmps190
  go_wp2_with fail
  refine (HSP.out _).mono ?_
  rintro e w' ⟨rfl, rfl⟩
  go_wp2
  go_ret3
  exact ⟨rfl, o0⟩
 have hs1 : 1 ≤ span (p : Int) := by omega
 generalize span (p : Int) = s at *
 have q1 : ((s : Int) == 0) = false := by rw [beq_eq_false_iff_ne]; omega
 clear hsp
 by_cases hq : q ≤ 3
 case neg =>
  rw [if_neg (fun x => hq x.2.2)]
  have q2 : decide ((3 : Int) < (q : Int)) = true := by rw [decide_eq_true_eq]; omega
  go_enter Tryz.func190, Tryz.ntmps190
  go_wp2_with fail
  refine (HSP.out _).mono ?_
  rintro e w' ⟨rfl, rfl⟩
  go_wp2
  go_ret3
  exact ⟨rfl, o0⟩
 rw [if_pos ⟨rfl, hp, hq⟩]
 have q2 : decide ((3 : Int) < (q : Int)) = false := by rw [decide_eq_false_iff_not]; omega
 go_enter Tryz.func190, Tryz.ntmps190
 go_wp2_with fail
 refine (HSP.out _).mono ?_
 rintro e w' ⟨rfl, rfl⟩
 go_wp2
 go_quiet (fail)
 go_wp2
 go_ret3
 exact ⟨rfl, o0.drewN _⟩
set_option maxHeartbeats 800000 in
theorem block_Draft (c : Int) (w : World) (hc : -9223372036854775808 ≤ c ∧ c ≤ 9223372036854775807) :
  Calls Tryz.prog 247 #[.int .i64 c] w fun e w' => ∃ v, e = .returned v ∧ MadeB w (draftOf c) v w' := by
 have HSP := hq9 (fun w => class_Span c w hc)
 have o0 : Only [] w w := Only.refl _ _
 by_cases hs : span c = 0
 ·have hd : draftOf c = [] := if_pos hs
  rw [hd]
  rw [hs] at HSP
  clear hd hs
  go_enter Tryz.func247, Tryz.ntmps247
  go_wp2_with fail
  refine (HSP.out _).mono ?_
  rintro e w' ⟨rfl, rfl⟩
  go_wp2
  go_ret
  exact ⟨.slice none 0 0, rfl, none, 0, rfl, own_nil _ _ _ _, o0⟩
 have hd : draftOf c = linesTo ⟨c, 0, 0, 0, 0, [], []⟩ 64 := if_neg hs
 have hrr : room ⟨c, 0, 0, 0, 0, [], []⟩ = List.replicate (capN c) 0 := by
  unfold room pad
  simp
 have hcv := capN_val c
 have hcap : capOf c = ((capN c : Nat) : Int) := (Int.toNat_of_nonneg (capOf_bd c).1).symm
 have hz : linesTo ⟨c, 0, 0, 0, 0, [], []⟩ 64 = laid (head32 ⟨c, 0, 0, 0, 0, [], []⟩) (lay 4 (crc (head32 ⟨c, 0, 0, 0, 0, [], []⟩ ++ List.replicate (capN c) 0))) (List.replicate (capN c) 0) 64 := by
  unfold linesTo sumOf
  rw [hrr]
 rw [hd, hz]
 have HEAD := hq9 (fun A n k w (hr : Bs w A n (List.replicate (capN c) 0)) (h1 : 28 ≤ n) (h2 : n ≤ 1000000) => block_head c 0 0 0 0 ⟨#[]⟩ ⟨#[]⟩ A n k _ w (by omega) (by omega) (by omega) (by show (0 : Nat) ≤ _; omega) (by show (0 : Nat) < _; omega) hr h1 h2)
 have hmk0 : mkB c 0 0 0 0 ⟨#[]⟩ ⟨#[]⟩ = ⟨c, 0, 0, 0, 0, [], []⟩ := rfl
 rw [hmk0] at HEAD
 obtain ⟨i0, hi0, hz0, hz1, hz2⟩ := info_parts Tryz.byteInfo
 have HCP := hq9 (fun w => class_Cap c w hc)
 rw [hcap] at HCP
 have hq : ¬ ((span c : Nat) : Int) = 0 := by omega
 generalize span c = s at *
 generalize capN c = N at *
 have hN : 28 ≤ N ∧ N ≤ 500 := by omega
 obtain ⟨w2, hmk, hb, ho, hsz⟩ := make_blk (P := Tryz.prog) w 71 5 i0 _ Tryz.underlying71 hi0 hz0 hz1 rfl .i64 .i64 N N (by omega) (by rw [hz2]; omega) (by omega)
 have hbs : Bs w2 (some ⟨w.heap.size, 0, none⟩) N (List.replicate N 0) := by
  have e : Array.replicate N (Value.int .u8 0) = ((List.replicate N (0 : UInt8)).map B).toArray := by
   apply Array.ext'
   simp [B]
  rw [e] at hb
  have := Arr.bs hb
  rwa [List.length_replicate] at this
 have HBS := hq9 hbs
 have HO := hq9 ho
 clear hi0 hz0 hz1 hz2 hb ho hbs hz hrr hd hs hcap hcv hmk0 hsz o0
 go_enter Tryz.func247, Tryz.ntmps247
 go_wp2_with fail
 refine (HSP.out _).mono ?_
 rintro e w' ⟨rfl, rfl⟩
 go_wp2_with fail
 refine (HCP.out _).mono ?_
 rintro e w' ⟨rfl, rfl⟩
 go_wp2_with fail
 refine (HEAD.out _ N N w2 HBS.out hN.1 (by omega)).mono ?_
 rintro e w5 ⟨v5, rfl, m5⟩
 go_wp2
 go_ret
 obtain ⟨A5, c5, rfl, b5, o5⟩ := m5
 exact ⟨_, rfl, A5, c5, rfl, World.ownsRow.mono b5 HO.out.size, HO.out.trans0 o5⟩
end Go.Proofs.YtlggichakafkiaaGreat
namespace Go.Proofs.FuBlock
open Go.Proofs.FuCode Go.Proofs.FuCrc Go.Proofs.FuClass
def blockOf (b : Block) : Value := .agg #[.int .i64 b.cls, .int .i64 b.kind, .int .u64 b.id, .int .u64 b.ver, .int .u64 b.ep, .string ⟨b.key.toArray⟩, .string ⟨b.val.toArray⟩]
def backV (l : List UInt8) : Value := .tuple #[blockOf (dec l), .bool (decide (reads l))]
def noneV : Value := .tuple #[.agg #[.int .i64 0, .int .i64 0, .int .u64 0, .int .u64 0, .int .u64 0, .string ⟨#[]⟩, .string ⟨#[]⟩], .bool false]
theorem backV_no {l : List UInt8} (h : ¬ reads l) : backV l = noneV := by
 unfold backV dec
 rw [if_neg h, decide_eq_false h]
 rfl
theorem backV_yes {l : List UInt8} (h : reads l) : backV l = .tuple #[blockOf (parse l), .bool true] := by
 unfold backV dec
 rw [if_pos h, decide_eq_true h]
theorem headOf_take {l : List UInt8} (h : 64 ≤ l.length) : (isHead (l.take 64) ↔ l.getD 0 0 = 1 ∧ (l.getD 1 0).toNat ≤ 3 ∧ (l.getD 2 0).toNat ≤ 3) := by
 unfold isHead
 rw [getD_take (by omega), getD_take (by omega), getD_take (by omega), List.length_take]
 exact ⟨fun x => x.2, fun x => ⟨by omega, x⟩⟩
theorem headOf_yes {l : List UInt8} (h : isHead (l.take 64)) : headOf (l.take 64) = .tuple #[.int .i64 (l.getD 1 0).toNat, .int .i64 (l.getD 2 0).toNat, .bool true] := by
 unfold headOf
 rw [if_pos h, getD_take (by omega), getD_take (by omega)]
theorem headOf_no {l : List UInt8} (h : ¬ isHead l) : headOf l = .tuple #[.int .i64 0, .int .i64 0, .bool false] := if_neg h
end Go.Proofs.FuBlock
namespace Go.Proofs.YtlggichakafkiaaGreat
open Go.RowKit Go.Proofs.FuMem Go.Proofs.FuCode Go.Proofs.FuClass Go.Proofs.FuBlock Go.Proofs.FuEq Go.Proofs.FuCrc
set_option maxRecDepth 100000
theorem blockInfo : (Tryz.prog.info? 282).map (·.size) = some 7 := by kernel_rfl
theorem blockV_one (cls kind : Int) (id ver ep : Nat) (ks vs : ByteArray) : (#[.int .i64 cls, .int .i64 kind, .int .u64 id, .int .u64 ver, .int .u64 ep, .string ks, .string vs] : Array Value).all (·.oneCell') = true := by
 simp [Value.oneCell']
theorem wpList_store_all {P : Program} {w : World} {ops : Array Oper} {rest : List Oper} {o : Oper} {a : Act} {Q : Exit → Act → World → Prop} (hgd : o.guard = none) (T : TypeId) (x y : Operand) (ho : o.op = .store T x y) (g : Nat) (vs : Array Value) (hx : a.eval x = .pointer (some ⟨g, 0, none⟩)) (hy : a.eval y = .agg vs)
  (t : TypeId) (cs : Array Value) (hb : Blk w g t cs) (hfit : vs.size = cs.size) (hi : (P.info? T).map (·.size) = some vs.size) (h1 : vs.all (·.oneCell') = true)
  (h : ∀ w', Blk w' g t vs → Only [g] w w' → wpList P ops Q rest (a.put o.dst undef) w') : wpList P ops Q (o :: rest) a w :=
 wpList_store_blk hgd T x y ho g 0 vs hx hy t cs hb (by omega) hi h1 fun w' hb' ho' _ => h w' (by
  have e : FuMem.splice cs 0 vs.toList = vs := by
   unfold FuMem.splice
   apply Array.ext'
   simp
   omega
  rwa [e] at hb') ho'
theorem dec_end {w' : World} {g : Nat} {cs : Array Value} {u : Value} {tmps : Array Value} (hb : Blk w' g 282 cs) (h2 : tmps.getD 2 undef = .pointer (some ⟨g, 0, none⟩)) (h3 : tmps.getD 3 undef = u) (hs : cs.size = 7) :
  (results Tryz.f153 tmps).run Tryz.prog w' = .ok (.tuple #[.agg cs, u]) w' := by
 rw [results_cell_tmp rfl]
 rw [h2, h3]
 have hl := run_loadVar_row (P := Tryz.prog) w' g 282 282 cs (0, 0) _ hb Tryz.underlying282 rfl (by rw [hs]; exact blockInfo)
 simp [asAddr, hl]
end Go.Proofs.YtlggichakafkiaaGreat
namespace Go.Proofs.YtlggichakafkiaaGreat
open Go.BigFrame Go.RowKit Go.Maps Go.ChangeMaps Go.Proofs.FuMem Go.Proofs.FuTop Go.Proofs.FuCrc
set_option maxRecDepth 100000
theorem strKeyed : Maps.Keyed Tryz.prog 9 := Maps.string_keyed Tryz.underlying9
theorem linkZero (w : World) : (zeroValue 70).run Tryz.prog w = .ok (linkV noLink) w := by kernel_rfl
def MapAt (w : World) (b : Nat) (T : List Link) : Prop := w.ownsMap Tryz.prog 9 linkR b T.length (.map (entriesOf T))
section
variable {w w' : World} {b : Nat} {T : List Link} {S : List Nat}
theorem MapAt.lt (h : MapAt w b T) : b < w.heap.size := World.ownsMap.lt h
theorem MapAt.only (h : MapAt w b T) (ho : Only S w w') (hb : b ∉ S) : MapAt w' b T := by
 have hl := h.lt
 obtain ⟨es, clock, hh, r⟩ := h
 exact ⟨es, clock, (ho.block b hl hb).trans hh, r⟩
theorem MapAt.made (w : World) : MapAt (w.alloc (.map #[] 0)) w.heap.size [] := World.ownsMap_made w _ _ _
theorem strLit (s : ByteArray) (hs : s.size ≤ maxLen) : keyOf Tryz.prog 9 (.string s) = some (.string s.data.toList) := WideMaps.keyOf_string_mk Tryz.underlying9 hs
theorem MapAt.look_ok (h : MapAt w b T) (s : ByteArray) (hs : s.size ≤ maxLen) : (Instr.lookup 274 (.map (some b)) (.string s) true).run Tryz.prog w = .ok (.tuple #[linkV (getL T s.data.toList), .bool (hasKey T s.data.toList)]) w := by
 obtain ⟨v, ps, hr, hv⟩ := World.ownsMap.look_ok h strKeyed Tryz.underlying274 (linkZero w) (linkR_mk noLink) (strLit s hs)
 rw [atKey_entries] at hv
 rw [has_entries] at hr
 obtain ⟨l, rfl, he⟩ := linkR_inv hv
 simp only [Prod.mk.injEq, DataW.held.injEq] at he
 rw [hr, ← he.1]
theorem MapAt.look (h : MapAt w b T) (s : ByteArray) (hs : s.size ≤ maxLen) : (Instr.lookup 274 (.map (some b)) (.string s) false).run Tryz.prog w = .ok (linkV (getL T s.data.toList)) w := by
 obtain ⟨v, ps, hr, hv⟩ := World.ownsMap.lookup h strKeyed Tryz.underlying274 (linkZero w) (linkR_mk noLink) (strLit s hs)
 rw [atKey_entries] at hv
 obtain ⟨l, rfl, he⟩ := linkR_inv hv
 simp only [Prod.mk.injEq, DataW.held.injEq] at he
 rw [hr, ← he.1]
theorem MapAt.put (h : MapAt w b T) (hr : Rising T) (hn : T.length < maxLen) (l : Link) (hs : l.key.length ≤ maxLen) :
  ∃ w', (Instr.mapUpdate 274 (.map (some b)) (.string ⟨l.key.toArray⟩) (linkV l)).run Tryz.prog w = .ok () w' ∧ MapAt w' b (ins l T) ∧ Only [b] w w' ∧ w'.heap.size = w.heap.size := by
 obtain ⟨w', hrun, ho, ht⟩ := World.ownsMap.store h strKeyed Tryz.underlying274 hn (strLit ⟨l.key.toArray⟩ (by show l.key.toArray.size ≤ _; simpa using hs)) (linkR_mk l)
 rw [show (ByteArray.mk l.key.toArray).data.toList = l.key by simp, put_entries hr] at ho
 refine ⟨w', hrun, ?_, Only.of_grown ht.grown (fun k hk => .inl (by cases hk; simp)), ?_⟩
 ·obtain ⟨es, clock, hh, F, _, hD⟩ := ho
  refine ⟨es, clock, hh, F, ?_, hD⟩
  have := congrArg Maps.size hD
  simp only [Maps.size, length_sorted, List.length_map, Array.length_toList, entriesOf] at this
  omega
 ·obtain ⟨es, clock, es', clock', hb, rfl⟩ := ht
  simp [setBlock]
end
def bk (k : List UInt8) : Nat := crc k % 8
structure TabAt (w : World) (g : Nat) (bs : List Nat) (T : List Link) : Prop where
 head : Blk w g 277 (bs.map fun b => Value.map (some b)).toArray
 n8 : bs.length = 8
 each : ∀ i b, bs[i]? = some b → MapAt w b (T.filter fun l => bk l.key == i)
 nd : (g :: bs).Nodup
 rise : Rising T
section
variable {w w' : World} {g : Nat} {bs : List Nat} {T : List Link} {S : List Nat}
theorem TabAt.only (h : TabAt w g bs T) (ho : Only S w w') (hs : ∀ b ∈ g :: bs, b ∉ S) : TabAt w' g bs T :=
 ⟨h.head.only ho (hs g (by simp)), h.n8, fun i b hb => (h.each i b hb).only ho (hs b (by simp [List.mem_of_getElem? hb])), h.nd, h.rise⟩
theorem TabAt.lt (h : TabAt w g bs T) : ∀ b ∈ g :: bs, b < w.heap.size := fun b hb => by
 rcases List.mem_cons.1 hb with rfl | hb
 ·exact h.head.lt
 ·obtain ⟨i, hi, rfl⟩ := List.getElem_of_mem hb
  exact (h.each i _ (List.getElem?_eq_getElem hi)).lt
theorem TabAt.cell (h : TabAt w g bs T) {i b : Nat} (hb : bs[i]? = some b) : w.cell? ⟨g, i, none⟩ = some (.map (some b)) := by
 rw [h.head.cell i, List.getElem?_toArray, List.getElem?_map, hb]
 rfl
end
theorem tab_of (g : Nat) (bs : List Nat) (T : List Link) (s : ByteArray) (b : Nat) (w : World) (h : TabAt w g bs T) (hs : s.size ≤ maxLen) (hb : bs[bk s.data.toList]? = some b) :
  Calls Tryz.prog 295 #[.pointer (some ⟨g, 0, none⟩), .string s] w fun e w' => e = .returned (.map (some b)) ∧ Only [] w w' := by
 have c0 := h.cell hb
 have hk : bk s.data.toList < 8 := Nat.mod_lt _ (by decide)
 have HB := hq9 (fun w => place_Bucket s w hs)
 clear h hb hs
 unfold bk at c0 hk
 generalize crc s.data.toList % 8 = i at *
 have q1 : (0 : Int) ≤ (i : Int) := by omega
 have q2 : (i : Int) < 8 := by omega
 go_enter Tryz.func295, Tryz.ntmps295
 go_wp2_with fail
 refine wp_region_later w (by kernel_rfl) (by kernel_rfl) ?_
 have hl := fun (p : Later w) => Later.cell p c0
 clear c0
 repeat (go_big_quiet_step (fail))
 go_big_quiet_step (exact Calls.later_same (HB.out _))
 repeat (go_big_quiet_step (fail))
 refine wpQuiet_nil ?_
 intro _ hw'
 obtain ⟨p, hw''⟩ := hw'
 subst hw''
 have opw := p.only
 generalize p.w = w1 at *
 have O1 := hq9 opw
 clear opw hl
 go_wp2
 go_ret
 exact ⟨rfl, O1.out⟩
theorem map_nil (b : Nat) (w : World) : (binOp .eql 274 (.map (some b)) (.map none)).run Tryz.prog w = .ok (.bool false) w := rfl
theorem linkSize : (Tryz.prog.info? 70).map (·.size) = some 5 := by kernel_rfl
theorem bk_filter (l : Link) (T : List Link) (hr : Rising T) (i : Nat) : (ins l T).filter (fun x => bk x.key == i) = if bk l.key = i then ins l (T.filter fun x => bk x.key == i) else T.filter fun x => bk x.key == i := by
 rw [ins_filter (fun a b e => by rw [e]) hr]
 simp only [beq_iff_eq]
theorem hasKey_filter (T : List Link) (k : List UInt8) : hasKey (T.filter fun x => bk x.key == bk k) k = hasKey T k := by
 unfold hasKey
 rw [List.any_filter]
 congr 1
 funext x
 by_cases h : x.key = k
 ·simp [h]
 ·simp [h]
theorem getL_filter (T : List Link) (k : List UInt8) : getL (T.filter fun x => bk x.key == bk k) k = getL T k := by
 unfold getL
 congr 1
 rw [List.find?_filter]
 congr 1
 funext x
 by_cases h : x.key = k
 ·simp [h]
 ·simp [h]
theorem TabAt.put {w w' : World} {g : Nat} {bs : List Nat} {T : List Link} (h : TabAt w g bs T) {l : Link} {b : Nat} (hb : bs[bk l.key]? = some b) (hm : MapAt w' b (ins l (T.filter fun x => bk x.key == bk l.key))) (ho : Only [b] w w') : TabAt w' g bs (ins l T) := by
 have hbm := List.mem_of_getElem? hb
 have hgn : g ∉ bs := (List.nodup_cons.1 h.nd).1
 refine ⟨h.head.only ho (by simp; exact fun e => hgn (e ▸ hbm)), h.n8, fun i c hc => ?_, h.nd, ins_rising h.rise⟩
 rw [bk_filter l T h.rise]
 by_cases e : bk l.key = i
 ·subst e
  rw [hb] at hc
  cases hc
  rw [if_pos rfl]
  exact hm
 ·rw [if_neg e]
  refine (h.each i c hc).only ho ?_
  simp only [List.mem_singleton]
  intro e2
  subst e2
  have hi := (List.getElem?_eq_some_iff.1 hc)
  have hj := (List.getElem?_eq_some_iff.1 hb)
  have := (List.getElem_inj (List.nodup_cons.1 h.nd).2 (h₀ := hi.1) (h₁ := hj.1)).1 (by rw [hi.2, hj.2])
  exact e this.symm
set_option maxHeartbeats 1000000 in
theorem tab_Set (g : Nat) (bs : List Nat) (T : List Link) (l : Link) (w : World) (h : TabAt w g bs T) (hs : l.key.length ≤ maxLen) (hn : T.length < maxLen) :
  Calls Tryz.prog 242 #[.pointer (some ⟨g, 0, none⟩), linkV l] w fun e w' => e = .returned (.bool (hasKey T l.key)) ∧ TabAt w' g bs (ins l T) ∧ Only (g :: bs) w w' := by
 obtain ⟨b, hb⟩ : ∃ b, bs[bk l.key]? = some b := ⟨_, List.getElem?_eq_getElem (by rw [h.n8]; exact Nat.mod_lt _ (by decide))⟩
 have hbm := List.mem_of_getElem? hb
 have hsz : (ByteArray.mk l.key.toArray).size ≤ maxLen := by show l.key.toArray.size ≤ _; simpa using hs
 have HOF := hq9 (fun w (h : TabAt w g bs T) => tab_of g bs T ⟨l.key.toArray⟩ b w h hsz (by rw [show (ByteArray.mk l.key.toArray).data.toList = l.key by simp]; exact hb))
 have H := hq9 h
 have HB := hq9 hb
 have HK := hq9 (show hasKey (T.filter fun x => bk x.key == bk l.key) l.key = hasKey T l.key from hasKey_filter T l.key)
 have HM := hq9 (fun w' (hm : TabAt w' g bs T) => (hm.each _ _ hb).look_ok ⟨l.key.toArray⟩ hsz)
 have HP := hq9 (fun w' (hm : TabAt w' g bs T) => (hm.each _ _ hb).put (rising_filter h.rise _) (Nat.lt_of_le_of_lt (List.length_filter_le _ _) hn) l hs)
 rw [show (ByteArray.mk l.key.toArray).data.toList = l.key by simp, hasKey_filter] at HM
 have HBM := hq9 hbm
 clear h hb hbm hs hsz hn
 have HV := hq9 (show (linkV l) = .agg #[.string ⟨l.key.toArray⟩, .int .u64 l.id, .int .u64 l.ver, .int .i64 l.line, .int .i64 l.cls] from rfl)
 rw [HV.out]
 have HBX := hq9 (fun (w' : World) (o : Only [] (w.alloc (.cells #[.string ⟨l.key.toArray⟩, .int .u64 l.id, .int .u64 l.ver, .int .i64 l.line, .int .i64 l.cls] 70)) w') => (Blk.new w 70 #[.string ⟨l.key.toArray⟩, .int .u64 l.id, .int .u64 l.ver, .int .i64 l.line, .int .i64 l.cls]).only o (by simp))
 have HO := hq9 ((Only.refl [] w).alloc (.cells #[.string ⟨l.key.toArray⟩, .int .u64 l.id, .int .u64 l.ver, .int .i64 l.line, .int .i64 l.cls] 70))
 go_enter Tryz.func242, Tryz.ntmps242
 go_wp2_with fail
 refine (HOF.out _ (H.out.only HO.out (by simp))).mono ?_
 rintro e w1 ⟨rfl, o1⟩
 have B1 := hq9 (HBX.out w1 o1)
 have O1 := hq9 (HO.out.trans0 o1)
 have T1 := hq9 (H.out.only O1.out (by simp))
 have hl := HM.out w1 T1.out
 generalize getL (List.filter (fun x => bk x.key == bk l.key) T) l.key = x at *
 rw [show linkV x = .agg #[.string ⟨x.key.toArray⟩, .int .u64 x.id, .int .u64 x.ver, .int .i64 x.line, .int .i64 x.cls] from rfl] at hl
 have hc : ∀ o, Blk (w1.alloc o) w.heap.size 70 #[.string ⟨l.key.toArray⟩, .int .u64 l.id, .int .u64 l.ver, .int .i64 l.line, .int .i64 l.cls] := fun o => B1.out.only ((Only.refl [] w1).alloc o) (by simp)
 have c0 := B1.out.cell 0
 have d0 := fun o => (hc o).cell 0
 have d1 := fun o => (hc o).cell 1
 have d2 := fun o => (hc o).cell 2
 have d3 := fun o => (hc o).cell 3
 have d4 := fun o => (hc o).cell 4
 have O2 := hq9 (O1.out.alloc (.cells #[.string ⟨x.key.toArray⟩, .int .u64 x.id, .int .u64 x.ver, .int .i64 x.line, .int .i64 x.cls] 70))
 obtain ⟨w3, hr3, m3, o3, s3⟩ := HP.out _ (H.out.only O2.out (by simp))
 rw [HV.out] at hr3
 have M3 := hq9 m3
 have O3 := hq9 o3
 have hq := map_nil b
 clear o1 m3 o3 s3 hc
 go_wp2
 go_ret
 exact ⟨rfl, (H.out.only O2.out (by simp)).put HB.out M3.out O3.out, (O2.out.mono (T := g :: bs) (by simp)).trans O3.out (fun c hc => .inl (by rw [List.mem_singleton.1 hc]; exact List.mem_cons_of_mem _ HBM.out))⟩
theorem link_one (l : Link) : ((linkC l).toArray).all (·.oneCell') = true := by
 rw [List.all_toArray, List.all_eq_true]
 exact linkC_one l
theorem link_end {fn : Func} {p u : Tmp} (h : fn.results = #[.cell p 70, .tmp u]) {w' : World} {g : Nat} {l : Link} {v : Value} {tmps : Array Value} (hb : Blk w' g 70 (linkC l).toArray) (h2 : tmps.getD p undef = .pointer (some ⟨g, 0, none⟩)) (h3 : tmps.getD u undef = v) :
  (results fn tmps).run Tryz.prog w' = .ok (.tuple #[linkV l, v]) w' := by
 rw [results_cell_tmp h]
 rw [h2, h3]
 have hl := run_loadVar_row (P := Tryz.prog) w' g 70 70 (linkC l).toArray (0, 0) _ hb Tryz.underlying70 rfl linkSize
 simp [asAddr, hl, linkV]
set_option maxHeartbeats 1000000 in
theorem tab_Get (g : Nat) (bs : List Nat) (T : List Link) (k : List UInt8) (w : World) (h : TabAt w g bs T) (hs : k.length ≤ maxLen) :
  Calls Tryz.prog 391 #[.pointer (some ⟨g, 0, none⟩), .string ⟨k.toArray⟩] w fun e w' => e = .returned (.tuple #[linkV (getL T k), .bool (hasKey T k)]) ∧ Only [] w w' := by
 obtain ⟨b, hb⟩ : ∃ b, bs[bk k]? = some b := ⟨_, List.getElem?_eq_getElem (by rw [h.n8]; exact Nat.mod_lt _ (by decide))⟩
 have hsz : (ByteArray.mk k.toArray).size ≤ maxLen := by show k.toArray.size ≤ _; simpa using hs
 have HOF := hq9 (fun w (h : TabAt w g bs T) => tab_of g bs T ⟨k.toArray⟩ b w h hsz (by rw [show (ByteArray.mk k.toArray).data.toList = k by simp]; exact hb))
 have H := hq9 h
 have HM := hq9 (fun w' (hm : TabAt w' g bs T) => (hm.each _ _ hb).look_ok ⟨k.toArray⟩ hsz)
 rw [show (ByteArray.mk k.toArray).data.toList = k by simp, hasKey_filter, getL_filter] at HM
 generalize getL T k = x at *
 clear h hb hs hsz
 have HR := hq9 (fun (w' : World) (o : Only [] (w.alloc (.cells (linkC noLink).toArray 70)) w') => (Blk.new w 70 (linkC noLink).toArray).only o (by simp))
 have HO := hq9 ((Only.refl [] w).alloc (.cells (linkC noLink).toArray 70))
 go_enter Tryz.func391, Tryz.ntmps391
 go_wp2_with fail
 refine (HOF.out _ (H.out.only HO.out (by simp))).mono ?_
 rintro e w1 ⟨rfl, o1⟩
 have B1 := hq9 (HR.out w1 o1)
 have O1 := hq9 (HO.out.trans0 o1)
 have hl := HM.out w1 (H.out.only O1.out (by simp))
 rw [show linkV x = .agg #[.string ⟨x.key.toArray⟩, .int .u64 x.id, .int .u64 x.ver, .int .i64 x.line, .int .i64 x.cls] from rfl] at hl
 have O2 := hq9 (O1.out.alloc (.cells #[.string ⟨x.key.toArray⟩, .int .u64 x.id, .int .u64 x.ver, .int .i64 x.line, .int .i64 x.cls] 70))
 have B2 := hq9 (B1.out.only ((Only.refl [] w1).alloc (.cells #[.string ⟨x.key.toArray⟩, .int .u64 x.id, .int .u64 x.ver, .int .i64 x.line, .int .i64 x.cls] 70)) (by simp))
 clear o1
 go_wp2_with ((with_reducible show wpList _ _ _ (Oper.mk none _ _ _ _ _ :: _) _ _); refine wpList_store_all rfl 70 (.tmp 4) (.tmp 16) rfl w.heap.size (linkC x).toArray rfl rfl _ _ B2.out rfl linkSize (link_one x) ?_; intro w3 hb3 ho3; have B3 := hq9 hb3; have O3 := hq9 (O2.out.trans ho3 (by simp)); clear hb3 ho3)
 refine bodyPost_ret (link_end rfl B3.out rfl rfl) rfl ⟨rfl, O3.out⟩
end Go.Proofs.YtlggichakafkiaaGreat