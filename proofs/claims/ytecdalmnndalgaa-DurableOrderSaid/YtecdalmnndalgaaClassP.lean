/- Classes and slabs in plain Lean. No program in sight. -/
namespace Go.Proofs.FuClass
def span (c : Int) : Nat := if c = 0 then 1 else if c = 1 then 2 else if c = 2 then 4 else if c = 3 then 8 else 0
def capOf (c : Int) : Int := if span c = 0 then 0 else 28 + 63 * ((span c : Int) - 1)
def need (n : Int) : Int := if n < 0 then -1 else if n ≤ 28 then 0 else if n ≤ 91 then 1 else if n ≤ 217 then 2 else if n ≤ 469 then 3 else -1
def slab (k : Int) : Int := if k < 0 ∨ 31 < k then -1 else 2 + 8 * k
def slabOf (line : Int) : Int := if line < 2 ∨ 258 ≤ line then -1 else (line - 2) / 8
def startsTo (f : Int) (s i : Nat) : List Int := (List.range i).map fun j => f + ((j * s : Nat) : Int)
def starts (k c : Int) : List Int := if span c = 0 ∨ slab k < 0 then [] else startsTo (slab k) (span c) (8 / span c)
def home (line c : Int) : Bool := decide (line ∈ starts (slabOf line) c)
theorem span_cases (c : Int) : (c = 0 ∧ span c = 1) ∨ (c = 1 ∧ span c = 2) ∨ (c = 2 ∧ span c = 4) ∨ (c = 3 ∧ span c = 8) ∨ ((c < 0 ∨ 3 < c) ∧ span c = 0) := by
  unfold span
  by_cases h0 : c = 0
  · simp [h0]
  · by_cases h1 : c = 1
    · simp [h1]
    · by_cases h2 : c = 2
      · simp [h2]
      · by_cases h3 : c = 3
        · simp [h3]
        · simp [h0, h1, h2, h3]
          omega
theorem span_le (c : Int) : span c ≤ 8 := by have := span_cases c; omega
theorem capOf_val (c : Int) : (span c = 0 ∧ capOf c = 0) ∨ (span c = 1 ∧ capOf c = 28) ∨ (span c = 2 ∧ capOf c = 91) ∨ (span c = 4 ∧ capOf c = 217) ∨ (span c = 8 ∧ capOf c = 469) := by
  unfold capOf
  have := span_cases c
  split <;> omega
theorem capOf_bd (c : Int) : 0 ≤ capOf c ∧ capOf c ≤ 469 := by have := capOf_val c; omega
theorem capOf0 : capOf 0 = 28 := by decide
theorem capOf1 : capOf 1 = 91 := by decide
theorem capOf2 : capOf 2 = 217 := by decide
theorem capOf3 : capOf 3 = 469 := by decide
/-- the search: no class below k holds so much -/
theorem need_of {n : Int} {k : Nat} (hk : k < 4) (h0 : 0 ≤ n) (hno : ∀ j : Nat, j < k → capOf j < n) (h : n ≤ capOf k) : need n = k := by
  have c0 : capOf ((0 : Nat) : Int) = 28 := capOf0
  have c1 : capOf ((1 : Nat) : Int) = 91 := capOf1
  have c2 : capOf ((2 : Nat) : Int) = 217 := capOf2
  have c3 : capOf ((3 : Nat) : Int) = 469 := capOf3
  have e0 := hno 0
  have e1 := hno 1
  have e2 := hno 2
  rw [c0] at e0
  rw [c1] at e1
  rw [c2] at e2
  unfold need
  obtain rfl | rfl | rfl | rfl : k = 0 ∨ k = 1 ∨ k = 2 ∨ k = 3 := by omega
  · rw [c0] at h
    repeat' split
    all_goals omega
  · rw [c1] at h
    repeat' split
    all_goals omega
  · rw [c2] at h
    repeat' split
    all_goals omega
  · rw [c3] at h
    repeat' split
    all_goals omega
theorem need_no {n : Int} (h : n < 0 ∨ ∀ j : Nat, j < 4 → capOf j < n) : need n = -1 := by
  unfold need
  rcases h with h | h
  · rw [if_pos h]
  · have := h 3 (by omega)
    simp [capOf3] at this
    rw [if_neg (by omega), if_neg (by omega), if_neg (by omega), if_neg (by omega), if_neg (by omega)]
theorem slab_bd (k : Int) : -1 ≤ slab k ∧ slab k ≤ 250 := by
  unfold slab
  split <;> omega
theorem slabOf_bd (l : Int) : -1 ≤ slabOf l ∧ slabOf l ≤ 31 := by
  unfold slabOf
  split <;> omega
theorem startsTo_length (f : Int) (s i : Nat) : (startsTo f s i).length = i := by simp [startsTo]
theorem startsTo_succ (f : Int) (s i : Nat) : startsTo f s (i + 1) = startsTo f s i ++ [f + ((i * s : Nat) : Int)] := by simp [startsTo, List.range_succ]
theorem starts_length (k c : Int) : (starts k c).length ≤ 8 := by
  unfold starts
  split
  · simp
  · rw [startsTo_length]
    exact Nat.div_le_self _ _
/-- where a value stands in a list; -1: nowhere -/
def idx (l : List Int) (v : Int) : Int := if v ∈ l then (l.idxOf v : Int) else -1
theorem idx_none {l : List Int} {v : Int} (h : v ∉ l) : idx l v = -1 := if_neg h
theorem idx_some {l : List Int} {v : Int} {k : Nat} (hk : k < l.length) (he : l[k] = v) (hno : ∀ j (h : j < k), l[j]'(by omega) ≠ v) : idx l v = k := by
  unfold idx
  have hm : v ∈ l := he ▸ List.getElem_mem hk
  rw [if_pos hm]
  congr 1
  have h1 := List.getElem_idxOf (List.idxOf_lt_length_iff.2 hm)
  rcases Nat.lt_trichotomy (l.idxOf v) k with h | h | h
  · exact absurd h1 (hno _ h)
  · exact h
  · have := List.not_of_lt_findIdx (xs := l) (p := (· == v)) h
    simp [he] at this
theorem idx_nonneg (l : List Int) (v : Int) : decide (0 ≤ idx l v) = decide (v ∈ l) := by
  unfold idx
  by_cases h : v ∈ l
  · simp [h]
  · simp [h]
theorem idx_bd (l : List Int) (v : Int) : -1 ≤ idx l v ∧ idx l v ≤ l.length := by
  unfold idx
  split
  · have := List.idxOf_le_length (a := v) (l := l)
    omega
  · omega
end Go.Proofs.FuClass
