/- The contracts of package sum and of its reference. -/
import Derived.Test.YtecdalmnndalgaaProg
import Derived.Test.YtecdalmnndalgaaCrc
import Derived.Test.YtecdalmnndalgaaMem
import Derived.WalkKit
import Derived.WalkLawsBesides
import Derived.WalkSpells
import Derived.Outline
import Derived.Lib.Hide
import Derived.Deep.LoopGhost
import Derived.Laws.BitsLemmas
import Derived.Laws.BitsAllLaws
namespace Go.Proofs.Ytecdalmnndalgaa
open Go.RowKit Go.Proofs.FuCrc Go.Proofs.FuMem
set_option maxRecDepth 100000

theorem bits_xor32 (a b : Nat) (ha : a < 4294967296) (hb : b < 4294967296) : bits .xor .u32 (a : Int) (b : Int) = ((a ^^^ b : Nat) : Int) := by
  have hx : a ^^^ b < 4294967296 := xor_lt ha hb
  show IntKind.u32.wrap ((BitVec.ofInt 32 (a : Int) ^^^ BitVec.ofInt 32 (b : Int)).toNat : Int) = _
  rw [BitVec.toNat_xor, BitVec.ofInt_natCast, BitVec.ofInt_natCast, BitVec.toNat_ofNat, BitVec.toNat_ofNat, Nat.mod_eq_of_lt (by omega), Nat.mod_eq_of_lt (by omega), IntKind.wrap_u32]
  omega
theorem xor_turn (a : Nat) (ha : a < 4294967296) : bits .xor .u32 (a : Int) 4294967295 = ((a ^^^ 4294967295 : Nat) : Int) := bits_xor32 a 4294967295 ha (by omega)
theorem bits_and32_1 (a : Nat) (ha : a < 4294967296) : bits .and .u32 (a : Int) 1 = ((a % 2 : Nat) : Int) := by
  show IntKind.u32.wrap ((BitVec.ofInt 32 (a : Int) &&& BitVec.ofInt 32 1).toNat : Int) = _
  rw [BitVec.toNat_and, BitVec.ofInt_natCast, BitVec.toNat_ofNat, Nat.mod_eq_of_lt (by omega), show (BitVec.ofInt 32 1).toNat = 1 from rfl, Nat.and_one_is_mod, IntKind.wrap_u32]
  omega

theorem cb_even {j y : Nat} (h : (((cbits j y : Nat) : Int) % 2 == 0) = true) (hy : y < 4294967296) : ((cbits j y : Nat) : Int) / 2 % 4294967296 = (cbits (j + 1) y : Nat) := by
  have := cbits_lt j hy
  rw [cbits_succ, cbit, if_pos (by simp at h; omega)]
  omega
theorem cb_odd {j y : Nat} (h : (((cbits j y : Nat) : Int) % 2 == 0) = false) (hy : y < 4294967296) : bits .xor .u32 (((cbits j y : Nat) : Int) / 2 % 4294967296) 3988292384 = (cbits (j + 1) y : Nat) := by
  have := cbits_lt j hy
  rw [cbits_succ, cbit, if_neg (by simp at h; omega), show ((cbits j y : Nat) : Int) / 2 % 4294967296 = ((cbits j y / 2 : Nat) : Int) by omega]
  exact bits_xor32 _ 3988292384 (by omega) (by omega)

theorem sum_step (c x : Nat) (w : World) (hc : c < 4294967296) (hx : x < 256) :
    Calls Try.prog 82 #[.int .u32 c, .int .u8 x] w fun e w' => e = .returned (.int .u32 (cstep c x)) ∧ w = w' := by
  have hy : c ^^^ x < 4294967296 := xor_lt hc (by omega)
  go_enter Try.func82, Try.ntmps82
  go_wp2
  go_step3
  go_wp2
  go_step3
  go_wp2
  rw [bits_xor32 c x hc (by omega)]
  go_loop [0, 5] (fun cc k => ∃ j : Nat, j ≤ 8 ∧ k = .int .i64 j ∧ cc = .int .u32 (cbits j (c ^^^ x))) (fun _ k => 8 - (intOf k).toNat)
  case atStart => exact ⟨0, Nat.zero_le _, rfl, rfl⟩
  case round =>
    obtain ⟨j, hj, rfl, rfl⟩ := hrel
    by_cases hlt : j < 8
    · go_wp2
      all_goals
        go_round
        case rel => exact ⟨j + 1, by omega, by go_num, by first | rw [cb_even ‹_› hy] | (rw [cb_odd ‹_› hy])⟩
        case measure => simp [intOf]; omega
    · go_wp2
      obtain rfl : j = 8 := by omega
      go_ret
      exact ⟨rfl, rfl⟩

theorem sum_Add (c : Nat) (A : Option Addr) (n cap : Nat) (l : List UInt8) (w : World) (hc : c < 4294967296) (hb : Bs w A n l) (hn : n ≤ maxLen) :
    Calls Try.prog 80 #[.int .u32 c, .slice A n cap] w fun e w' => e = .returned (.int .u32 (cadd c l)) ∧ w = w' := by
  have hy : c ^^^ 4294967295 < 4294967296 := xor_lt hc (by omega)
  have hl := Lib.hid hb.len
  have HB := Lib.hid hb
  clear hb
  unfold maxLen at hn
  go_enter Try.func80, Try.ntmps80
  go_wp2
  rw [xor_turn c hc]
  go_loop [0, 6, 11] (fun cc _ k => ∃ j : Nat, j ≤ n ∧ k = .int .i64 j ∧ cc = .int .u32 (cfold (c ^^^ 4294967295) (l.take j))) (fun _ _ k => n - (intOf k).toNat)
  case atStart => exact ⟨0, Nat.zero_le _, rfl, rfl⟩
  case round =>
    obtain ⟨j, hj, rfl, rfl⟩ := hrel
    by_cases hlt : j < n
    · obtain ⟨b, off, rfl, hcell⟩ := HB.out.at_ (by omega)
      have hjl : j < l.length := by rw [hl.out]; exact hlt
      have hc1 := hcell j hjl
      have hx := byte_lt l[j]
      have hcl := cfold_lt (l.take j) hy
      have HT := Lib.hid (cfold_take (c ^^^ 4294967295) l j hjl)
      clear hcell
      go_wp2_with (go_at_call 82; refine (sum_step _ _ _ hcl hx).mono ?_; rintro e w' ⟨rfl, rfl⟩)
      go_round
      case rel => exact ⟨j + 1, by omega, by go_num, by rw [HT.out]⟩
      case measure => simp [intOf]; omega
    · go_wp2
      go_ret
      exact ⟨ret_int (by rw [List.take_of_length_le (by rw [hl.out]; omega)]; exact xor_turn _ (cfold_lt l hy)), rfl⟩

theorem sum_Sum (A : Option Addr) (n cap : Nat) (l : List UInt8) (w : World) (hb : Bs w A n l) (hn : n ≤ maxLen) :
    Calls Try.prog 76 #[.slice A n cap] w fun e w' => e = .returned (.int .u32 (crc l)) ∧ w = w' := by
  have HB := Lib.hid hb
  clear hb
  go_enter Try.func76, Try.ntmps76
  go_wp2_with (go_at_call 80; refine (sum_Add 0 _ _ _ l _ (by omega) HB.out hn).mono ?_; rintro e w' ⟨rfl, rfl⟩)
  go_ret
  exact ⟨rfl, rfl⟩

theorem rb_even {j y : Nat} (h : (bits .and .u32 ((cbits j y : Nat) : Int) 1 == 1) = false) (hy : y < 4294967296) : ((cbits j y : Nat) : Int) / 2 % 4294967296 = (cbits (j + 1) y : Nat) := by
  have := cbits_lt j hy
  rw [bits_and32_1 _ this] at h
  exact cb_even (by simp at h ⊢; omega) hy
theorem rb_odd {j y : Nat} (h : (bits .and .u32 ((cbits j y : Nat) : Int) 1 == 1) = true) (hy : y < 4294967296) : bits .xor .u32 (((cbits j y : Nat) : Int) / 2 % 4294967296) 3988292384 = (cbits (j + 1) y : Nat) := by
  have := cbits_lt j hy
  rw [bits_and32_1 _ this] at h
  exact cb_odd (by simp at h ⊢; omega) hy
theorem ref1_step (c x : Nat) (w : World) (hc : c < 4294967296) (hx : x < 256) :
    Calls Try.prog 83 #[.int .u32 c, .int .u8 x] w fun e w' => e = .returned (.int .u32 (cstep c x)) ∧ w = w' := by
  have hy : c ^^^ x < 4294967296 := xor_lt hc (by omega)
  go_enter Try.func83, Try.ntmps83
  go_wp2
  rw [bits_xor32 c x hc (by omega)]
  go_loop [0, 5, 6] (fun cc k _ => ∃ j : Nat, j ≤ 8 ∧ k = .int .i64 j ∧ cc = .int .u32 (cbits j (c ^^^ x))) (fun _ k _ => 8 - (intOf k).toNat)
  case atStart => exact ⟨0, Nat.zero_le _, rfl, rfl⟩
  case round =>
    obtain ⟨j, hj, rfl, rfl⟩ := hrel
    by_cases hlt : j < 8
    · go_wp2
      all_goals
        go_round
        case rel => exact ⟨j + 1, by omega, by go_num, by first | rw [rb_even ‹_› hy] | (rw [rb_odd ‹_› hy])⟩
        case measure => simp [intOf]; omega
    · go_wp2
      obtain rfl : j = 8 := by omega
      go_ret
      exact ⟨rfl, rfl⟩
theorem ref1_Text (s : ByteArray) (w : World) (hn : s.size ≤ maxLen) :
    Calls Try.prog 81 #[.string s] w fun e w' => e = .returned (.int .u32 (crc s.data.toList)) ∧ w = w' := by
  unfold maxLen at hn
  go_enter Try.func81, Try.ntmps81
  go_wp2
  go_loop [3, 4] (fun cc k => ∃ j : Nat, j ≤ s.size ∧ k = .int .i64 j ∧ cc = .int .u32 (cfold 4294967295 (s.data.toList.take j))) (fun _ k => s.size - (intOf k).toNat)
  case atStart => exact ⟨0, Nat.zero_le _, rfl, rfl⟩
  case round =>
    obtain ⟨j, hj, rfl, rfl⟩ := hrel
    by_cases hlt : j < s.size
    · have hjl : j < s.data.toList.length := by simpa using hlt
      have hx := byte_lt s[j]
      have hcl := cfold_lt (s.data.toList.take j) (c := 4294967295) (by omega)
      have HT := Lib.hid (cfold_take 4294967295 s.data.toList j hjl)
      go_wp2_with (go_at_call 83; refine (ref1_step _ _ _ hcl hx).mono ?_; rintro e w' ⟨rfl, rfl⟩)
      go_round
      case rel => exact ⟨j + 1, by omega, by go_num, by rw [HT.out]; rfl⟩
      case measure => simp [intOf]; omega
    · go_wp2
      go_ret
      exact ⟨ret_int (by rw [List.take_of_length_le (by simp; omega)]; exact xor_turn _ (cfold_lt _ (by omega))), rfl⟩
end Go.Proofs.Ytecdalmnndalgaa
