/- The checksum in plain Lean: one byte's step, its injectivity, folds over lists of bytes. No program in sight. -/
namespace Go.Proofs.FuCrc
/-- one bit -/
def cbit (c : Nat) : Nat := if c % 2 = 0 then c / 2 else (c / 2) ^^^ 3988292384
def cbits : Nat → Nat → Nat
  | 0, c => c
  | n + 1, c => cbits n (cbit c)
def cstep (c x : Nat) : Nat := cbits 8 (c ^^^ x)
def cfold (c : Nat) (l : List UInt8) : Nat := l.foldl (fun c x => cstep c x.toNat) c
/-- the sum of bytes behind others whose sum is c -/
def cadd (c : Nat) (l : List UInt8) : Nat := cfold (c ^^^ 4294967295) l ^^^ 4294967295
def crc (l : List UInt8) : Nat := cadd 0 l

theorem xor_lt {a b : Nat} (ha : a < 4294967296) (hb : b < 4294967296) : a ^^^ b < 4294967296 := Nat.xor_lt_two_pow (n := 32) ha hb
theorem cbit_lt {c : Nat} (h : c < 4294967296) : cbit c < 4294967296 := by
  unfold cbit
  split
  · omega
  · exact xor_lt (by omega) (by omega)
theorem cbits_succ (n c : Nat) : cbits (n + 1) c = cbit (cbits n c) := by
  induction n generalizing c with
  | zero => rfl
  | succ n ih => rw [cbits, ih, cbits]
theorem cbits_lt (n : Nat) {c : Nat} (h : c < 4294967296) : cbits n c < 4294967296 := by
  induction n generalizing c with
  | zero => exact h
  | succ n ih => exact ih (cbit_lt h)
theorem cstep_lt {c x : Nat} (h : c < 4294967296) (hx : x < 256) : cstep c x < 4294967296 := cbits_lt 8 (xor_lt h (by omega))
theorem byte_lt (x : UInt8) : x.toNat < 256 := x.toNat_lt
theorem cfold_lt (l : List UInt8) {c : Nat} (h : c < 4294967296) : cfold c l < 4294967296 := by
  unfold cfold
  induction l generalizing c with
  | nil => exact h
  | cons x l ih => exact ih (cstep_lt h (byte_lt x))
theorem cfold_append (c : Nat) (a b : List UInt8) : cfold c (a ++ b) = cfold (cfold c a) b := by simp [cfold]
theorem cfold_snoc (c : Nat) (a : List UInt8) (x : UInt8) : cfold c (a ++ [x]) = cstep (cfold c a) x.toNat := by simp [cfold]
theorem cfold_take (c : Nat) (l : List UInt8) (k : Nat) (h : k < l.length) : cfold c (l.take (k + 1)) = cstep (cfold c (l.take k)) l[k].toNat := by
  rw [List.take_succ_eq_append_getElem h, cfold_snoc]
theorem cadd_lt (l : List UInt8) {c : Nat} (h : c < 4294967296) : cadd c l < 4294967296 := xor_lt (cfold_lt l (xor_lt h (by omega))) (by omega)
theorem crc_lt (l : List UInt8) : crc l < 4294967296 := cadd_lt l (by omega)
theorem cadd_append (c : Nat) (a b : List UInt8) : cadd c (a ++ b) = cadd (cadd c a) b := by
  unfold cadd
  rw [cfold_append, Nat.xor_assoc, Nat.xor_self, Nat.xor_zero]
theorem crc_append (a b : List UInt8) : crc (a ++ b) = cadd (crc a) b := cadd_append 0 a b

theorem xor_cancel {a b c : Nat} (h : a ^^^ c = b ^^^ c) : a = b := by
  have := congrArg (· ^^^ c) h
  simpa [Nat.xor_assoc] using this
theorem testBit_hi {n : Nat} (h : n < 2147483648) : n.testBit 31 = false := Nat.testBit_lt_two_pow (by omega)
theorem cbit_inj {a b : Nat} (ha : a < 4294967296) (hb : b < 4294967296) (h : cbit a = cbit b) : a = b := by
  unfold cbit at h
  have p31 : (3988292384 : Nat).testBit 31 = true := by decide
  by_cases ea : a % 2 = 0 <;> by_cases eb : b % 2 = 0 <;> simp only [ea, eb, if_true, if_false] at h
  · omega
  · have h1 : (a / 2).testBit 31 = false := testBit_hi (by omega)
    have h2 : (b / 2).testBit 31 = false := testBit_hi (by omega)
    rw [h, Nat.testBit_xor, h2, p31] at h1
    simp at h1
  · have h1 : (a / 2).testBit 31 = false := testBit_hi (by omega)
    have h2 : (b / 2).testBit 31 = false := testBit_hi (by omega)
    rw [← h, Nat.testBit_xor, h1, p31] at h2
    simp at h2
  · have := xor_cancel h
    omega
theorem cbits_inj (n : Nat) {a b : Nat} (ha : a < 4294967296) (hb : b < 4294967296) (h : cbits n a = cbits n b) : a = b := by
  induction n generalizing a b with
  | zero => exact h
  | succ n ih => exact cbit_inj ha hb (ih (cbit_lt ha) (cbit_lt hb) h)
theorem cstep_inj_left {a b x : Nat} (ha : a < 4294967296) (hb : b < 4294967296) (hx : x < 256) (h : cstep a x = cstep b x) : a = b :=
  xor_cancel (cbits_inj 8 (xor_lt ha (by omega)) (xor_lt hb (by omega)) h)
theorem cstep_inj_right {a x y : Nat} (ha : a < 4294967296) (hx : x < 256) (hy : y < 256) (h : cstep a x = cstep a y) : x = y := by
  have := cbits_inj 8 (xor_lt ha (b := x) (by omega)) (xor_lt ha (by omega)) h
  rw [Nat.xor_comm a x, Nat.xor_comm a y] at this
  exact xor_cancel this
theorem cfold_inj (l : List UInt8) {a b : Nat} (ha : a < 4294967296) (hb : b < 4294967296) (h : cfold a l = cfold b l) : a = b := by
  unfold cfold at h
  induction l generalizing a b with
  | nil => exact h
  | cons x l ih => exact cstep_inj_left ha hb (byte_lt x) (ih (cstep_lt ha (byte_lt x)) (cstep_lt hb (byte_lt x)) h)
theorem cadd_inj (l : List UInt8) {a b : Nat} (ha : a < 4294967296) (hb : b < 4294967296) (h : cadd a l = cadd b l) : a = b :=
  xor_cancel (cfold_inj l (xor_lt ha (by omega)) (xor_lt hb (by omega)) (xor_cancel h))
/-- one byte turned turns the sum -/
theorem cadd_turn (c : Nat) (hc : c < 4294967296) (l : List UInt8) (k : Nat) (hk : k < l.length) (y : UInt8) (hne : y ≠ l[k]) : cadd c (l.set k y) ≠ cadd c l := by
  intro h
  have e1 : l.set k y = l.take k ++ [y] ++ l.drop (k + 1) := by
    rw [List.set_eq_take_append_cons_drop]; simp [hk]
  have e2 : l = l.take k ++ [l[k]] ++ l.drop (k + 1) := by
    rw [List.append_assoc]; simp
  have hc' : c ^^^ 4294967295 < 4294967296 := xor_lt hc (by omega)
  have h' := xor_cancel h
  rw [e1] at h'
  rw [show cfold (c ^^^ 4294967295) l = cfold (c ^^^ 4294967295) (l.take k ++ [l[k]] ++ l.drop (k + 1)) from congrArg _ e2] at h'
  rw [cfold_append, cfold_append (b := l.drop (k+1))] at h'
  rw [cfold_snoc, cfold_snoc] at h'
  have hl := cfold_lt (l.take k) hc'
  have h2 := cfold_inj _ (cstep_lt hl (byte_lt _)) (cstep_lt hl (byte_lt _)) h'
  exact hne (UInt8.toNat_inj.1 (cstep_inj_right hl (byte_lt _) (byte_lt _) h2))
theorem crc_turn (l : List UInt8) (k : Nat) (hk : k < l.length) (y : UInt8) (hne : y ≠ l[k]) : crc (l.set k y) ≠ crc l := cadd_turn 0 (by omega) l k hk y hne
theorem crc_nil : crc [] = 0 := by decide
end Go.Proofs.FuCrc
