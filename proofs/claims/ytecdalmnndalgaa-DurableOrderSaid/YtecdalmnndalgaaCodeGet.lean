/- The contracts of code.Get, code.Zeros. -/
import Derived.Test.YtecdalmnndalgaaCodePut
import Derived.Laws.BitsLemmas
namespace Go.Proofs.Ytecdalmnndalgaa
open Go.RowKit Go.Proofs.FuMem Go.Proofs.FuCode
set_option maxRecDepth 100000

theorem bits_or64 (a b : Nat) (ha : a < 18446744073709551616) (hb : b < 18446744073709551616) : bits .or .u64 (a : Int) (b : Int) = ((a ||| b : Nat) : Int) := by
  have hx : a ||| b < 18446744073709551616 := Nat.or_lt_two_pow (n := 64) ha hb
  show IntKind.u64.wrap ((BitVec.ofInt 64 (a : Int) ||| BitVec.ofInt 64 (b : Int)).toNat : Int) = _
  rw [BitVec.toNat_or, BitVec.ofInt_natCast, BitVec.ofInt_natCast, BitVec.toNat_ofNat, BitVec.toNat_ofNat, Nat.mod_eq_of_lt (by omega), Nat.mod_eq_of_lt (by omega), IntKind.wrap_u64]
  omega
theorem or_step (l : List UInt8) (a j : Nat) (hj : j < 8) (h : a + j < l.length) :
    bits .or .u64 (num ((l.drop a).take j) : Int) (IntKind.u64.wrap (IntKind.u64.wrap (l[a + j].toNat : Int) * 2 ^ (8 * j))) = (num ((l.drop a).take (j + 1)) : Int) := by
  have h2 : j < (l.drop a).length := by simp; omega
  have e := num_take_succ (l.drop a) j h2
  rw [List.getElem_drop] at e
  have hx := num_lt ((l.drop a).take j)
  rw [List.length_take, Nat.min_eq_left (by omega)] at hx
  have hy := l[a + j].toNat_lt
  generalize l[a + j].toNat = y at *
  generalize num ((l.drop a).take j) = x at *
  have hp : 256 ^ (j + 1) ≤ 18446744073709551616 := pow_le8 _ (by omega)
  have h3 : y * 256 ^ j + 256 ^ j ≤ 256 ^ (j + 1) := by
    rw [Nat.pow_succ, Nat.mul_comm y]
    have := Nat.mul_le_mul_left (256 ^ j) (show y + 1 ≤ 256 by omega)
    rw [Nat.mul_add] at this
    omega
  have e1 : IntKind.u64.wrap (IntKind.u64.wrap (y : Int) * 2 ^ (8 * j)) = ((y * 2 ^ (8 * j) : Nat) : Int) := by
    rw [← pow256]
    have : (2 : Int) ^ (8 * j) = ((256 ^ j : Nat) : Int) := by rw [pow256]; simp
    rw [this, IntKind.wrap_u64, IntKind.wrap_u64, show (y : Int) % 18446744073709551616 = y by omega, ← Int.natCast_mul]
    omega
  rw [e1, bits_or64 _ _ (by omega) (by rw [← pow256]; omega), num_or x j y hx, e]
theorem code_Get (A : Option Addr) (n c : Nat) (l : List UInt8) (at_ k : Int) (w : World) (h : Bs w A n l) (hn : n ≤ 1000000) (h1 : -9223372036854775808 ≤ at_ ∧ at_ ≤ 9223372036854775807) (h2 : -9223372036854775808 ≤ k ∧ k ≤ 9223372036854775807) :
    Calls Try.prog 45 #[.slice A n c, .int .i64 at_, .int .i64 k] w fun e w' => e = .returned (.tuple #[.int .u64 (cget l at_ k).1, .int .i64 (cget l at_ k).2]) ∧ w = w' := by
  have hl := h.len
  have hck := code_check A n c at_ k w (by unfold maxLen; omega) h1 h2
  by_cases hw : wrong n at_ k = 0
  · obtain ⟨hk1, hk2, ha1, ha2⟩ := wrong_zero hw
    obtain ⟨a, rfl⟩ := Int.eq_ofNat_of_zero_le ha1
    obtain ⟨m, rfl⟩ := Int.eq_ofNat_of_zero_le (show 0 ≤ k by omega)
    rw [hw] at hck
    have hp : cget l (a : Int) (m : Int) = (num ((l.drop a).take m), 0) := by
      unfold cget
      rw [hl, hw, if_neg (by omega)]
      simp
    rw [hp]
    obtain ⟨b, off, rfl, hcell⟩ := h.at_ (by omega)
    have HL := Lib.hid hl
    have HC := Lib.hid hck
    have HX := Lib.hid hcell
    clear hck hw hp h hl hcell
    go_enter Try.func45, Try.ntmps45
    go_wp2_with fail
    refine (HC.out).mono ?_
    rintro e w' ⟨rfl, rfl⟩
    go_wp2
    go_loop [9, 10, 19] (fun v _ i => ∃ j : Nat, j ≤ m ∧ i = .int .i64 j ∧ v = .int .u64 (num ((l.drop a).take j))) (fun _ _ i => m - (intOf i).toNat)
    case atStart => exact ⟨0, Nat.zero_le _, rfl, rfl⟩
    case round =>
      obtain ⟨j, hj, rfl, rfl⟩ := hrel
      by_cases hlt : j < m
      · have hc1 := HX.out (a + j) (by rw [HL.out]; omega)
        have HS := Lib.hid (or_step l a j (by omega) (by rw [HL.out]; omega))
        go_wp2
        go_round
        case rel => exact ⟨j + 1, by omega, by go_num, by rw [HS.out]⟩
        case measure => simp [intOf]; omega
      · obtain rfl : j = m := by omega
        go_wp2
        go_ret2
        exact ⟨rfl, rfl⟩
  · have hp : cget l at_ k = (0, wrong n at_ k) := by
      unfold cget
      rw [hl, if_pos hw]
    rw [hp]
    have hle := wrong_le n at_ k
    generalize wrong n at_ k = e at *
    have hb : ((e : Int) != 0) = true := by rw [bne_iff_ne]; omega
    have HC := Lib.hid hck
    clear hck hw hp h hl
    go_enter Try.func45, Try.ntmps45
    go_wp2_with fail
    refine (HC.out).mono ?_
    rintro e w' ⟨rfl, rfl⟩
    go_wp2
    go_ret2
    exact ⟨rfl, rfl⟩
end Go.Proofs.Ytecdalmnndalgaa
