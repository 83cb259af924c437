/- The lines of superblock and clock, in plain Lean. No program in sight. -/
import Derived.Test.YtecdalmnndalgaaCrc
import Derived.Test.YtecdalmnndalgaaCodeP
namespace Go.Proofs.FuGeom
open Go.Proofs.FuCrc Go.Proofs.FuCode
def zer (n : Nat) : List UInt8 := List.replicate n 0
def superHead (n : Nat) : List UInt8 := [4, 70, 85, 83, 69] ++ lay 4 n
def clockHead (v : Nat) : List UInt8 := [3] ++ lay 8 v
/-- nine bytes, their sum, noughts -/
def sgn (h : List UInt8) : List UInt8 := h ++ lay 4 (crc h) ++ zer 51
def superL (n : Nat) : List UInt8 := sgn (superHead n)
def clockL (v : Nat) : List UInt8 := sgn (clockHead v)
theorem zer_length (n : Nat) : (zer n).length = n := by simp [zer]
theorem superHead_length (n : Nat) : (superHead n).length = 9 := by simp [superHead, lay_length]
theorem clockHead_length (n : Nat) : (clockHead n).length = 9 := by simp [clockHead, lay_length]
theorem sgn_length {h : List UInt8} (hl : h.length = 9) : (sgn h).length = 64 := by simp [sgn, hl, lay_length, zer_length]
theorem superL_length (n : Nat) : (superL n).length = 64 := sgn_length (superHead_length n)
theorem clockL_length (n : Nat) : (clockL n).length = 64 := sgn_length (clockHead_length n)
theorem sgn_take {h : List UInt8} (hl : h.length = 9) : (sgn h).take 9 = h := by
  unfold sgn
  rw [List.append_assoc, List.take_append_of_le_length (by omega), List.take_of_length_le (by omega)]
theorem sgn_inj {h k : List UInt8} (hh : h.length = 9) (hk : k.length = 9) (e : sgn h = sgn k) : h = k := by rw [← sgn_take hh, ← sgn_take hk, e]
theorem over_sgn {h : List UInt8} (hl : h.length = 9) : over (h ++ zer 55) 9 (lay 4 (crc h)) = sgn h := by
  unfold over sgn
  rw [List.take_append_of_le_length (by omega), List.take_of_length_le (by omega), lay_length, List.drop_append, List.drop_eq_nil_of_le (by omega), hl]
  simp [zer]
theorem put_sgn {h : List UInt8} (hl : h.length = 9) : put (h ++ zer 55) 9 4 (crc h) = (sgn h, 0) := by
  have hc := crc_lt h
  have hw : wrong (h ++ zer 55).length 9 4 = 0 := by
    rw [List.length_append, hl, zer_length]
    decide
  unfold put
  rw [hw, if_neg (by omega), if_neg (by simp; omega)]
  simp [over_sgn hl]
theorem put_super (n : Nat) (h : n < 4294967296) : put [4, 70, 85, 83, 69, 0, 0, 0, 0] 5 4 n = (superHead n, 0) := by
  unfold put
  rw [show wrong ([4, 70, 85, 83, 69, 0, 0, 0, 0] : List UInt8).length 5 4 = 0 by decide, if_neg (by omega), if_neg (by simp; omega)]
  simp [over, superHead, lay_length]
theorem put_clock (v : Nat) (h : v < 18446744073709551616) : put [3, 0, 0, 0, 0, 0, 0, 0, 0] 1 8 v = (clockHead v, 0) := by
  unfold put
  rw [show wrong ([3, 0, 0, 0, 0, 0, 0, 0, 0] : List UInt8).length 1 8 = 0 by decide, if_neg (by omega), if_neg (by simp; omega)]
  simp [over, clockHead, lay_length]
/-- the number that stands in a superblock's line, a clock's line -/
def superNum (b : List UInt8) : Nat := num ((b.drop 5).take 4)
def clockNum (b : List UInt8) : Nat := num ((b.drop 1).take 8)
def isSuper (b : List UInt8) : Nat × Bool := if b.length = 64 ∧ 10 ≤ superNum b ∧ superNum b ≤ 258 ∧ b = superL (superNum b) then (superNum b, true) else (0, false)
def isClock (b : List UInt8) : Nat × Bool := if b.length = 64 ∧ b = clockL (clockNum b) then (clockNum b, true) else (0, false)
theorem superNum_lt (b : List UInt8) : superNum b < 4294967296 := by
  have h := num_lt ((b.drop 5).take 4)
  have h2 : ((b.drop 5).take 4).length ≤ 4 := by simp; omega
  have := Nat.pow_le_pow_right (n := 256) (by omega) h2
  unfold superNum
  omega
theorem clockNum_lt (b : List UInt8) : clockNum b < 18446744073709551616 := by
  have h := num_lt ((b.drop 1).take 8)
  have h2 : ((b.drop 1).take 8).length ≤ 8 := by simp; omega
  have := Nat.pow_le_pow_right (n := 256) (by omega) h2
  unfold clockNum
  omega
theorem superNum_superL (n : Nat) (h : n < 4294967296) : superNum (superL n) = n := by
  unfold superNum superL sgn superHead
  simp only [List.append_assoc, List.cons_append, List.nil_append, List.drop_succ_cons, List.drop_zero]
  rw [List.take_append_of_le_length (by rw [lay_length]; omega), List.take_of_length_le (by rw [lay_length]; omega), num_lay_lt]
  omega
theorem clockNum_clockL (n : Nat) (h : n < 18446744073709551616) : clockNum (clockL n) = n := by
  unfold clockNum clockL sgn clockHead
  simp only [List.append_assoc, List.cons_append, List.nil_append, List.drop_succ_cons, List.drop_zero]
  rw [List.take_append_of_le_length (by rw [lay_length]; omega), List.take_of_length_le (by rw [lay_length]; omega), num_lay_lt]
  omega
theorem isSuper_superL (n : Nat) (h1 : 10 ≤ n) (h2 : n ≤ 258) : isSuper (superL n) = (n, true) := by
  unfold isSuper
  rw [superNum_superL n (by omega), if_pos ⟨superL_length n, h1, h2, rfl⟩]
theorem isClock_clockL (n : Nat) (h : n < 18446744073709551616) : isClock (clockL n) = (n, true) := by
  unfold isClock
  rw [clockNum_clockL n h, if_pos ⟨clockL_length n, rfl⟩]
theorem head_of_sgn {h k : List UInt8} (hh : 0 < h.length) (hk : 0 < k.length) (e : sgn h = sgn k) : h[0] = k[0] := by
  have e1 : (sgn h)[0]? = some h[0] := by
    unfold sgn
    rw [List.append_assoc, List.getElem?_append_left hh, List.getElem?_eq_getElem hh]
  have e2 : (sgn k)[0]? = some k[0] := by
    unfold sgn
    rw [List.append_assoc, List.getElem?_append_left hk, List.getElem?_eq_getElem hk]
  rw [e, e2] at e1
  exact (Option.some.inj e1).symm
theorem super_ne_clock (n v : Nat) : superL n ≠ clockL v := by
  intro e
  have := head_of_sgn (h := superHead n) (k := clockHead v) (by rw [superHead_length]; omega) (by rw [clockHead_length]; omega) e
  simp [superHead, clockHead] at this
theorem isClock_superL (n : Nat) : isClock (superL n) = (0, false) := by
  unfold isClock
  rw [if_neg]
  rintro ⟨_, e⟩
  exact super_ne_clock _ _ e
theorem isSuper_clockL (n : Nat) : isSuper (clockL n) = (0, false) := by
  unfold isSuper
  rw [if_neg]
  rintro ⟨_, _, _, e⟩
  exact super_ne_clock _ _ e.symm
theorem isSuper_short {b : List UInt8} (h : b.length ≠ 64) : isSuper b = (0, false) := by
  unfold isSuper
  rw [if_neg]
  exact fun e => h e.1
theorem isClock_short {b : List UInt8} (h : b.length ≠ 64) : isClock b = (0, false) := by
  unfold isClock
  rw [if_neg]
  exact fun e => h e.1
/-- a sealed line of which one byte is another one is not sealed by the same head's bytes -/
theorem sgn_turn {h k : List UInt8} (hh : h.length = 9) (hk : k.length = 9) (i : Nat) (hi : i < 64) (y : UInt8) (hy : (sgn h)[i]? ≠ some y) (e : (sgn h).set i y = sgn k) : False := by
  have hl := sgn_length hh
  by_cases h9 : i < 9
  · -- a byte of the head: the sums differ, but lie the same
    have e1 : k = h.set i y := by
      have := congrArg (List.take 9) e
      rw [sgn_take hk, List.take_set, sgn_take hh] at this
      exact this.symm
    have e2 : ((sgn h).set i y).drop 9 = (sgn h).drop 9 := by
      rw [List.drop_set_of_lt (by omega)]
    rw [e] at e2
    have hdrop : ∀ m : List UInt8, m.length = 9 → (sgn m).drop 9 = lay 4 (crc m) ++ zer 51 := fun m hm => by
      unfold sgn
      rw [List.append_assoc, List.drop_append, List.drop_eq_nil_of_le (by omega), hm]
      simp
    rw [hdrop k hk, hdrop h hh] at e2
    have e3 := List.append_cancel_right e2
    have e4 := congrArg num e3
    rw [num_lay_lt 4 _ (by have := crc_lt k; simpa using this), num_lay_lt 4 _ (by have := crc_lt h; simpa using this)] at e4
    have hne : y ≠ h[i]'(by omega) := by
      intro hy2
      apply hy
      unfold sgn
      rw [List.append_assoc, List.getElem?_append_left (by omega), List.getElem?_eq_getElem (by omega), hy2]
    rw [e1] at e4
    exact crc_turn h i (by omega) y hne e4
  · -- a byte behind the head: the heads are the same
    have e1 : k = h := by
      have := congrArg (List.take 9) e
      rw [sgn_take hk, List.take_set_of_le (by omega), sgn_take hh] at this
      exact this.symm
    rw [e1] at e
    have e2 := congrArg (fun l => l[i]?) e
    simp only [List.getElem?_set, if_true] at e2
    rw [if_pos (by omega)] at e2
    exact hy e2.symm
theorem isClock_turn (v i : Nat) (hi : i < 64) (y : UInt8) (hy : (clockL v)[i]? ≠ some y) : isClock ((clockL v).set i y) = (0, false) := by
  unfold isClock
  rw [if_neg]
  rintro ⟨_, e⟩
  exact sgn_turn (clockHead_length v) (clockHead_length _) i hi y hy e
theorem isSuper_turn (v i : Nat) (hi : i < 64) (y : UInt8) (hy : (superL v)[i]? ≠ some y) : isSuper ((superL v).set i y) = (0, false) := by
  unfold isSuper
  rw [if_neg]
  rintro ⟨_, _, _, e⟩
  exact sgn_turn (superHead_length v) (superHead_length _) i hi y hy e
end Go.Proofs.FuGeom
