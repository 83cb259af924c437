/- The contracts of code.Get, code.Zeros. -/
import Derived.Test.YtpenmnngjfncgaaCodePut
import Derived.Laws.BitsLemmas
namespace Go.Proofs.Ytpenmnngjfncgaa
open Go.RowKit Go.Proofs.FuMem Go.Proofs.FuCode
set_option maxRecDepth 100000

theorem bits_or64 (a b : Nat) (ha : a < 18446744073709551616) (hb : b < 18446744073709551616) : bits .or .u64 (a : Int) (b : Int) = ((a ||| b : Nat) : Int) := by
  have hx : a ||| b < 18446744073709551616 := Nat.or_lt_two_pow (n := 64) ha hb
  show IntKind.u64.wrap ((BitVec.ofInt 64 (a : Int) ||| BitVec.ofInt 64 (b : Int)).toNat : Int) = _
  rw [BitVec.toNat_or, BitVec.ofInt_natCast, BitVec.ofInt_natCast, BitVec.toNat_ofNat, BitVec.toNat_ofNat, Nat.mod_eq_of_lt (by omega), Nat.mod_eq_of_lt (by omega), IntKind.wrap_u64]
  omega
theorem or_step (l : List UInt8) (a j : Nat) (hj : j < 8) (h : a + j < l.length) :
    bits .or .u64 (num ((l.drop a).take j) : Int) (IntKind.u64.wrap (IntKind.u64.wrap (l[a + j].toNat : Int) * 2 ^ (8 * j))) = (num ((l.drop a).take (j + 1)) : Int) := by
  have h2 : j < (l.drop a).length := by simp; omega
  have e := num_take_succ (l.drop a) j h2
  rw [List.getElem_drop] at e
  have hx := num_lt ((l.drop a).take j)
  rw [List.length_take, Nat.min_eq_left (by omega)] at hx
  have hy := l[a + j].toNat_lt
  generalize l[a + j].toNat = y at *
  generalize num ((l.drop a).take j) = x at *
  have hp : 256 ^ (j + 1) ≤ 18446744073709551616 := pow_le8 _ (by omega)
  have h3 : y * 256 ^ j + 256 ^ j ≤ 256 ^ (j + 1) := by
    rw [Nat.pow_succ, Nat.mul_comm y]
    have := Nat.mul_le_mul_left (256 ^ j) (show y + 1 ≤ 256 by omega)
    rw [Nat.mul_add] at this
    omega
  have e1 : IntKind.u64.wrap (IntKind.u64.wrap (y : Int) * 2 ^ (8 * j)) = ((y * 2 ^ (8 * j) : Nat) : Int) := by
    rw [← pow256]
    have : (2 : Int) ^ (8 * j) = ((256 ^ j : Nat) : Int) := by rw [pow256]; simp
    rw [this, IntKind.wrap_u64, IntKind.wrap_u64, show (y : Int) % 18446744073709551616 = y by omega, ← Int.natCast_mul]
    omega
  rw [e1, bits_or64 _ _ (by omega) (by rw [← pow256]; omega), num_or x j y hx, e]
end Go.Proofs.Ytpenmnngjfncgaa
