/- The contract of code.Put. -/
import Derived.Test.YtpenmnngjfncgaaCode
namespace Go.Proofs.Ytpenmnngjfncgaa
open Go.RowKit Go.Proofs.FuMem Go.Proofs.FuCode
set_option maxRecDepth 100000

/-- bytes and an error handed back -/
def MadeE (w : World) (r : List UInt8 × Nat) (e : Ending) (w' : World) : Prop := ∃ x, e = .returned (.tuple #[x, .int .i64 r.2]) ∧ MadeB w r.1 x w'
theorem madeE_err (w : World) (k : Nat) : MadeE w ([], k) (.returned (.tuple #[.slice none 0 0, .int .i64 k])) w := ⟨_, rfl, none, 0, rfl, own_nil _ _ _ _, Only.refl _ _⟩
theorem byte_shr (v j : Nat) : ((v : Int) / 2 ^ (8 * j) % 256) = ((UInt8.ofNat (v / 256 ^ j % 256)).toNat : Int) := by
  rw [ofNat_mod, pow256]
  simp
theorem over_lay_succ (l : List UInt8) (a j v : Nat) (h : a + j < l.length) : (over l a (lay j v)).set (a + j) (UInt8.ofNat (v / 256 ^ j % 256)) = over l a (lay (j + 1) v) := by
  have := over_snoc l a (lay j v) (UInt8.ofNat (v / 256 ^ j % 256)) (by rw [lay_length]; exact h)
  rw [lay_succ, this, lay_length]
theorem shr_pos {v m : Nat} (h : 256 ^ m ≤ v) : ((v : Int) / 2 ^ (8 * m) != 0) = true := by
  have h0 : 0 < v / 256 ^ m := Nat.div_pos h (Nat.pow_pos (by omega))
  rw [pow256] at h0
  have : (v : Int) / 2 ^ (8 * m) = ((v / 2 ^ (8 * m) : Nat) : Int) := by simp
  rw [bne_iff_ne]
  omega
theorem shr_zero {v m : Nat} (h : v < 256 ^ m) : ((v : Int) / 2 ^ (8 * m) != 0) = false := by
  have h0 : v / 256 ^ m = 0 := Nat.div_eq_of_lt h
  rw [pow256] at h0
  have : (v : Int) / 2 ^ (8 * m) = ((v / 2 ^ (8 * m) : Nat) : Int) := by simp
  rw [this, h0]
  rfl
end Go.Proofs.Ytpenmnngjfncgaa
