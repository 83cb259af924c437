/- Exclusive or on bytes. -/
import Derived.Laws.BitsLemmas
namespace Go.Proofs.FuMem
theorem xor8 (a : UInt8) (j : Nat) (hj : j < 256) : bits .xor .u8 (a.toNat : Int) (j : Int) = ((a ^^^ UInt8.ofNat j).toNat : Int) := by
  have ha := a.toNat_lt
  have hx : a.toNat ^^^ j < 256 := Nat.xor_lt_two_pow (n := 8) ha hj
  show IntKind.u8.wrap ((BitVec.ofInt 8 (a.toNat : Int) ^^^ BitVec.ofInt 8 (j : Int)).toNat : Int) = _
  rw [BitVec.toNat_xor, BitVec.ofInt_natCast, BitVec.ofInt_natCast, BitVec.toNat_ofNat, BitVec.toNat_ofNat, Nat.mod_eq_of_lt (by omega), Nat.mod_eq_of_lt (by omega), IntKind.wrap_u8, UInt8.toNat_xor, UInt8.toNat_ofNat_of_lt' (by simpa using hj)]
  omega
theorem xor8_ne (a : UInt8) (j : Nat) (h0 : 0 < j) (hj : j < 256) : a ^^^ UInt8.ofNat j ≠ a := by
  intro h
  have h2 := congrArg UInt8.toNat h
  rw [UInt8.toNat_xor, UInt8.toNat_ofNat_of_lt' (by simpa using hj)] at h2
  have h3 : (a.toNat ^^^ j) ^^^ a.toNat = a.toNat ^^^ a.toNat := by rw [h2]
  rw [Nat.xor_comm a.toNat j, Nat.xor_assoc, Nat.xor_self, Nat.xor_zero] at h3
  omega
end Go.Proofs.FuMem
