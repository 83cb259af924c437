/- Numbers laid into bytes, the lowest byte first, in plain Lean. No program in sight. -/
namespace Go.Proofs.FuCode
/-- the number of bytes, the lowest first -/
def num : List UInt8 → Nat
  | [] => 0
  | x :: l => x.toNat + 256 * num l
/-- the bytes of a number -/
def lay (n v : Nat) : List UInt8 := (List.range n).map fun i => UInt8.ofNat (v / 256 ^ i % 256)
theorem lay_length (n v : Nat) : (lay n v).length = n := by simp [lay]
theorem lay_succ (n v : Nat) : lay (n + 1) v = lay n v ++ [UInt8.ofNat (v / 256 ^ n % 256)] := by simp [lay, List.range_succ]
theorem num_append (a b : List UInt8) : num (a ++ b) = num a + 256 ^ a.length * num b := by
  induction a with
  | nil => simp [num]
  | cons x a ih =>
    simp only [List.cons_append, num, ih, List.length_cons, Nat.pow_succ, Nat.mul_add]
    rw [Nat.mul_comm (256 ^ a.length) 256, Nat.mul_assoc, Nat.add_assoc]
theorem num_lt (l : List UInt8) : num l < 256 ^ l.length := by
  induction l with
  | nil => simp [num]
  | cons x l ih =>
    have := x.toNat_lt
    simp only [num, List.length_cons, Nat.pow_succ]
    omega
theorem ofNat_mod (x : Nat) : (UInt8.ofNat (x % 256)).toNat = x % 256 := by
  rw [UInt8.toNat_ofNat_of_lt']
  exact Nat.mod_lt _ (by omega)
theorem num_one (x : Nat) : num [UInt8.ofNat (x % 256)] = x % 256 := by
  simp only [num, ofNat_mod]
  omega
theorem num_lay (n v : Nat) : num (lay n v) = v % 256 ^ n := by
  induction n with
  | zero => simp [lay, num, Nat.mod_one]
  | succ n ih =>
    rw [lay_succ, num_append, ih, lay_length, num_one, Nat.pow_succ, Nat.mod_mul]
theorem num_lay_lt (n v : Nat) (h : v < 256 ^ n) : num (lay n v) = v := by rw [num_lay, Nat.mod_eq_of_lt h]
theorem num_cons_drop (l : List UInt8) (k : Nat) (h : k < l.length) : num (l.drop k) = l[k].toNat + 256 * num (l.drop (k + 1)) := by
  rw [List.drop_eq_getElem_cons h, num]
theorem num_take_succ (l : List UInt8) (k : Nat) (h : k < l.length) : num (l.take (k + 1)) = num (l.take k) + 256 ^ k * l[k].toNat := by
  rw [List.take_succ_eq_append_getElem h, num_append, List.length_take, Nat.min_eq_left (by omega)]
  simp [num]
theorem pow256 (k : Nat) : 256 ^ k = 2 ^ (8 * k) := by rw [show (256 : Nat) = 2 ^ 8 from rfl, ← Nat.pow_mul]
theorem pow_le8 (k : Nat) (h : k ≤ 8) : 256 ^ k ≤ 18446744073709551616 := by
  have := Nat.pow_le_pow_right (n := 256) (by omega) h
  exact Nat.le_trans this (by omega)
/-- what is wrong with a place; 0: nothing -/
def wrong (size : Nat) (at_ n : Int) : Nat := if n < 1 ∨ 8 < n then 1 else if at_ < 0 ∨ (size : Int) - n < at_ then 2 else 0
/-- bytes with others laid over them -/
def over (b : List UInt8) (at_ : Nat) (l : List UInt8) : List UInt8 := b.take at_ ++ l ++ b.drop (at_ + l.length)
theorem over_length (b : List UInt8) (at_ : Nat) (l : List UInt8) (h : at_ + l.length ≤ b.length) : (over b at_ l).length = b.length := by simp [over]; omega
theorem over_nil (b : List UInt8) (at_ : Nat) : over b at_ [] = b := by simp [over]
theorem over_all (l k : List UInt8) (n : Nat) (hl : l.length = n) (hk : k.length = n) : over k 0 (l.take n) = l := by
  subst hl
  unfold over
  rw [List.take_length, List.take_zero, List.nil_append, List.drop_eq_nil_of_le (by omega), List.append_nil]
theorem over_get (b : List UInt8) (at_ : Nat) (l : List UInt8) (h : at_ + l.length ≤ b.length) (i : Nat) (hi : i < b.length) :
    (over b at_ l)[i]? = if h : at_ ≤ i ∧ i < at_ + l.length then some l[i - at_] else some b[i] := by
  unfold over
  rw [List.getElem?_append, List.getElem?_append]
  simp only [List.length_append, List.length_take, Nat.min_eq_left (show at_ ≤ b.length by omega), List.getElem?_take, List.getElem?_drop]
  by_cases h1 : i < at_
  · rw [if_pos (by omega), if_pos h1, if_pos h1, dif_neg (by omega), List.getElem?_eq_getElem hi]
  · by_cases h2 : i < at_ + l.length
    · rw [if_pos h2, if_neg h1, dif_pos ⟨by omega, h2⟩, List.getElem?_eq_getElem (by omega)]
    · rw [if_neg h2, dif_neg (by omega), show at_ + l.length + (i - (at_ + l.length)) = i by omega, List.getElem?_eq_getElem hi]
theorem over_back (b : List UInt8) (a : Nat) (l : List UInt8) (m : Nat) (hm : l.length = m) (h : a + m ≤ b.length) : ((over b a l).drop a).take m = l := by
  unfold over
  have h1 : (b.take a).length = a := by simp; omega
  rw [List.append_assoc, List.drop_append, h1, List.drop_eq_nil_of_le (by omega), Nat.sub_self, List.drop_zero, List.nil_append, ← hm, List.take_append_of_le_length (Nat.le_refl _), List.take_of_length_le (Nat.le_refl _)]
theorem over_snoc (b : List UInt8) (at_ : Nat) (l : List UInt8) (x : UInt8) (h : at_ + l.length < b.length) : over b at_ (l ++ [x]) = (over b at_ l).set (at_ + l.length) x := by
  unfold over
  have hl : (b.take at_ ++ l).length = at_ + l.length := by simp; omega
  rw [List.set_append_right _ _ (by omega), hl, Nat.sub_self, List.drop_eq_getElem_cons h, List.set_cons_zero]
  simp [Nat.add_assoc]
theorem over_take_succ (b l : List UInt8) (a j : Nat) (h : a + l.length ≤ b.length) (hj : j < l.length) : (over b a (l.take j)).set (a + j) (l.getD j 0) = over b a (l.take (j + 1)) := by
  have h1 : (l.take j).length = j := by simp; omega
  have := over_snoc b a (l.take j) (l.getD j 0) (by rw [h1]; omega)
  rw [h1] at this
  rw [← this, List.take_succ_eq_append_getElem hj]
  simp [List.getD, hj]
/-- a number put: the bytes and the error -/
def put (b : List UInt8) (at_ n : Int) (v : Nat) : List UInt8 × Nat :=
  if wrong b.length at_ n ≠ 0 then ([], wrong b.length at_ n)
  else if 256 ^ n.toNat ≤ v then ([], 11)
  else (over b at_.toNat (lay n.toNat v), 0)
/-- a number got, and the error -/
def cget (b : List UInt8) (at_ n : Int) : Nat × Nat :=
  if wrong b.length at_ n ≠ 0 then (0, wrong b.length at_ n) else (num ((b.drop at_.toNat).take n.toNat), 0)
theorem wrong_zero {size : Nat} {at_ n : Int} (h : wrong size at_ n = 0) : 1 ≤ n ∧ n ≤ 8 ∧ 0 ≤ at_ ∧ at_ + n ≤ size := by
  unfold wrong at h
  split at h
  · omega
  · split at h
    · omega
    · omega
theorem wrong_le (size : Nat) (at_ n : Int) : wrong size at_ n ≤ 2 := by
  unfold wrong
  repeat' split
  all_goals omega
theorem put_length {b : List UInt8} {at_ n : Int} {v : Nat} (h : (put b at_ n v).2 = 0) : (put b at_ n v).1.length = b.length := by
  unfold put at h ⊢
  split
  · rename_i h1
    rw [if_pos h1] at h
    exact absurd h h1
  · rename_i h1
    have h0 := wrong_zero (by omega : wrong b.length at_ n = 0)
    split
    · rename_i h2
      rw [if_neg h1, if_pos h2] at h
      cases h
    · exact over_length _ _ _ (by rw [lay_length]; omega)
theorem put_len (b : List UInt8) (at_ n : Int) (v : Nat) : (put b at_ n v).1.length ≤ b.length := by
  by_cases h : (put b at_ n v).2 = 0
  · rw [put_length h]
    exact Nat.le_refl _
  · unfold put at h ⊢
    split
    · simp
    · split
      · simp
      · rename_i h1 h2
        rw [if_neg h1, if_neg h2] at h
        exact absurd rfl h
theorem num_or (a k x : Nat) (h : a < 256 ^ k) : a ||| (x * 2 ^ (8 * k)) = a + 256 ^ k * x := by
  rw [pow256] at h ⊢
  have := Nat.two_pow_add_eq_or_of_lt h x
  rw [Nat.or_comm, Nat.mul_comm x, ← this, Nat.add_comm]
def zall (b : List UInt8) (a n : Nat) : Bool := (List.range n).all fun k => b[a + k]? == some 0
def zeros (b : List UInt8) (i j : Int) : Bool := decide (0 ≤ i ∧ i ≤ j ∧ j ≤ b.length) && zall b i.toNat (j - i).toNat
theorem zall_zero (b : List UInt8) (a : Nat) : zall b a 0 = true := rfl
theorem zall_succ (b : List UInt8) (a n : Nat) : zall b a (n + 1) = (zall b a n && b[a + n]? == some 0) := by simp [zall, List.range_succ]
theorem zall_false {b : List UInt8} {a n k : Nat} (hk : k < n) (h : b[a + k]? ≠ some 0) : zall b a n = false := by
  unfold zall
  rw [List.all_eq_false]
  exact ⟨k, by simpa using hk, by simpa using h⟩
theorem zeros_in {b : List UInt8} {a m : Nat} (h : a ≤ m) (h2 : m ≤ b.length) : zeros b a m = zall b a (m - a) := by
  unfold zeros
  rw [decide_eq_true (by omega), Bool.true_and]
  congr 1
  omega
theorem zeros_out {b : List UInt8} {i j : Int} (h : ¬ (0 ≤ i ∧ i ≤ j ∧ j ≤ b.length)) : zeros b i j = false := by
  unfold zeros
  rw [decide_eq_false h, Bool.false_and]
end Go.Proofs.FuCode
