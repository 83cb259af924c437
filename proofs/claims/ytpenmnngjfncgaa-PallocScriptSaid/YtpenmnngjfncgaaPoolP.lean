/- Pools of blocks in plain Lean: slabs, what is taken, what is found. No program in sight. -/
import Derived.Test.YtpenmnngjfncgaaClassP
namespace Go.Proofs.FuPool
open Go.Proofs.FuClass
structure Slab where
  cls : Int
  taken : List Bool
/-- how many blocks of a slab are taken -/
def Slab.n (s : Slab) : Nat := s.taken.count true
def whole : Slab := ⟨-1, List.replicate 8 false⟩
/-- how many blocks a slab of a class has -/
def many (c : Int) : Nat := 8 / span c
structure Slab.Ok (s : Slab) : Prop where
  len : s.taken.length = 8
  zero : s.n = 0 → s.cls = -1
  busy : s.n ≠ 0 → 0 ≤ s.cls ∧ s.cls ≤ 3
  fits : ∀ k, s.taken[k]? = some true → k < many s.cls
abbrev Pool := List Slab
def Ok (P : Pool) : Prop := ∀ s ∈ P, s.Ok
theorem whole_ok : whole.Ok := ⟨rfl, fun _ => rfl, fun h => absurd rfl h, fun k h => by
  have := List.mem_of_getElem? h
  unfold whole at this
  simp at this⟩
def newPool (n : Nat) : Pool := List.replicate n whole
theorem newPool_ok (n : Nat) : Ok (newPool n) := fun s hs => by rw [(List.mem_replicate.1 hs).2]; exact whole_ok
theorem many_cases (c : Int) : (c = 0 ∧ many c = 8) ∨ (c = 1 ∧ many c = 4) ∨ (c = 2 ∧ many c = 2) ∨ (c = 3 ∧ many c = 1) ∨ ((c < 0 ∨ 3 < c) ∧ many c = 0) := by
  unfold many
  rcases span_cases c with ⟨h, e⟩ | ⟨h, e⟩ | ⟨h, e⟩ | ⟨h, e⟩ | ⟨h, e⟩ <;> rw [e] <;> simp [h]
theorem many_span {c : Int} (h : 0 ≤ c ∧ c ≤ 3) : many c * span c = 8 ∧ 1 ≤ span c ∧ 1 ≤ many c ∧ many c ≤ 8 := by
  unfold many
  rcases span_cases c with ⟨h, e⟩ | ⟨h, e⟩ | ⟨h, e⟩ | ⟨h, e⟩ | ⟨h', e⟩
  · rw [e]; omega
  · rw [e]; omega
  · rw [e]; omega
  · rw [e]; omega
  · omega
/-- is the k-th block taken? -/
def Slab.at (s : Slab) (k : Nat) : Bool := s.taken.getD k false
/-- the first block that is not taken -/
def Slab.free (s : Slab) : Option Nat := (List.range (many s.cls)).find? fun k => !s.at k
def Slab.take (s : Slab) (c : Int) (k : Nat) : Slab := ⟨c, s.taken.set k true⟩
def Slab.give (s : Slab) (k : Nat) : Slab := ⟨if (s.taken.set k false).count true = 0 then -1 else s.cls, s.taken.set k false⟩
/-- the first slab of a class with room, and its block -/
def room? (c : Int) (s : Slab) : Option Nat := if s.cls = c then s.free else none
def findIn (P : Pool) (c : Int) : Option (Nat × Nat) := (List.range P.length).findSome? fun i => ((P[i]?).bind (room? c)).map fun k => (i, k)
def findWhole (P : Pool) : Option Nat := (List.range P.length).find? fun i => decide ((P[i]?).map Slab.cls = some (-1))
def find (P : Pool) (c : Int) : Option (Nat × Nat) := (findIn P c).or ((findWhole P).map fun i => (i, 0))
def lineAt (i k : Nat) (c : Int) : Int := 2 + 8 * (i : Int) + ((k * span c : Nat) : Int)
def takeP (P : Pool) (c : Int) : Pool := if span c = 0 then P else match find P c with | none => P | some (i, k) => P.modify i fun s => s.take c k
/-- the line, and the error -/
def takeA (P : Pool) (c : Int) : Int × Int := if span c = 0 then (0, 1) else match find P c with | none => (0, 4) | some (i, k) => (lineAt i k c, 0)
/-- the slab and the block that begins at a line, as of the slab's class; and is it taken? -/
def blockAt (P : Pool) (line : Int) : Option (Nat × Nat) :=
  if slabOf line < 0 then none else match P[(slabOf line).toNat]? with
  | none => none
  | some s => if idx (starts (slabOf line) s.cls) line < 0 then none else if s.at (idx (starts (slabOf line) s.cls) line).toNat = true then some ((slabOf line).toNat, (idx (starts (slabOf line) s.cls) line).toNat) else none
def giveP (P : Pool) (line : Int) : Pool := match blockAt P line with | none => P | some (i, k) => P.modify i fun s => s.give k
def giveA (P : Pool) (line : Int) : Int := match blockAt P line with | none => 1 | some _ => 0
def ofA (P : Pool) (line : Int) : Int × Bool := match blockAt P line with | none => (0, false) | some (i, _) => (((P[i]?).map Slab.cls).getD 0, true)
/-- 1: there is no such block; 7: it cannot be had; 0: it is had -/
def markA (P : Pool) (line c : Int) : Int :=
  if home line c = false ∨ (P.length : Int) ≤ slabOf line then 1 else match P[(slabOf line).toNat]? with
  | none => 1
  | some s => if (s.cls ≠ -1 ∧ s.cls ≠ c) ∨ s.at (idx (starts (slabOf line) c) line).toNat = true then 7 else 0
def markP (P : Pool) (line c : Int) : Pool := if markA P line c = 0 then P.modify (slabOf line).toNat fun s => s.take c (idx (starts (slabOf line) c) line).toNat else P
/-- the blocks of a slab that are taken -/
def blocks (i : Nat) (s : Slab) : List (Int × Int) := ((List.range (many s.cls)).filter fun k => s.at k).map fun k => (lineAt i k s.cls, s.cls)
def blocksTo (P : Pool) (n : Nat) : List (Int × Int) := (List.range n).flatMap fun i => match P[i]? with | none => [] | some s => blocks i s
def takenOf (P : Pool) : List (Int × Int) := blocksTo P P.length
def freeIn (c : Int) (i : Nat) (s : Slab) : List Int := if s.cls = c then ((List.range (many c)).filter fun k => !s.at k).map fun k => lineAt i k c else []
def freeTo (P : Pool) (c : Int) (n : Nat) : List Int := (List.range n).flatMap fun i => match P[i]? with | none => [] | some s => freeIn c i s
def freeOf (P : Pool) (c : Int) : List Int := freeTo P c P.length
def slabsOf (P : Pool) : List Int := P.map Slab.cls
def roomOf (P : Pool) (c : Int) : Bool := decide (span c ≠ 0) && (find P c).isSome

/-! ### lines and places -/
theorem starts_eq {i : Nat} {c : Int} (hi : i < 32) : starts (i : Int) c = (List.range (many c)).map fun k => lineAt i k c := by
  unfold starts
  by_cases h : span c = 0
  · rw [if_pos (.inl h)]
    unfold many
    rw [h]
    rfl
  · have hs : slab (i : Int) = 2 + 8 * (i : Int) := by unfold slab; rw [if_neg (by omega)]
    rw [if_neg (by rw [hs]; omega), hs]
    unfold startsTo many lineAt
    rfl
theorem lineAt_bd {i k : Nat} {c : Int} (hc : 0 ≤ c ∧ c ≤ 3) (hk : k < many c) : 2 + 8 * (i : Int) ≤ lineAt i k c ∧ lineAt i k c + span c ≤ 2 + 8 * (i : Int) + 8 := by
  have h := many_span hc
  unfold lineAt
  have h2 : (k + 1) * span c ≤ many c * span c := Nat.mul_le_mul_right _ hk
  rw [Nat.succ_mul] at h2
  omega
theorem slabOf_lineAt {i k : Nat} {c : Int} (hi : i < 32) (hc : 0 ≤ c ∧ c ≤ 3) (hk : k < many c) : slabOf (lineAt i k c) = i := by
  have h := lineAt_bd (i := i) hc hk
  have hs := many_span hc
  unfold slabOf
  rw [if_neg (by omega)]
  omega
theorem lineAt_inj {i k j : Nat} {c : Int} (hc : 0 ≤ c ∧ c ≤ 3) (h : lineAt i k c = lineAt i j c) : k = j := by
  have hs := many_span hc
  unfold lineAt at h
  have : k * span c = j * span c := by omega
  exact Nat.eq_of_mul_eq_mul_right (by omega) this
theorem idx_starts {i k : Nat} {c : Int} (hi : i < 32) (hc : 0 ≤ c ∧ c ≤ 3) (hk : k < many c) : idx (starts (i : Int) c) (lineAt i k c) = k := by
  rw [starts_eq hi]
  refine idx_some (k := k) (by simpa using hk) (by simp) (fun j hj e => ?_)
  simp only [List.getElem_map, List.getElem_range] at e
  have := lineAt_inj hc e
  omega
theorem idx_mem {i : Nat} {c : Int} {line : Int} (hi : i < 32) (h : 0 ≤ idx (starts (i : Int) c) line) : ∃ k, k < many c ∧ idx (starts (i : Int) c) line = k ∧ line = lineAt i k c ∧ 0 ≤ c ∧ c ≤ 3 := by
  have hm : line ∈ starts (i : Int) c := by
    have := idx_nonneg (starts (i : Int) c) line
    rw [decide_eq_true h] at this
    simpa using this.symm
  rw [starts_eq hi] at hm
  obtain ⟨k, hk, rfl⟩ := List.mem_map.1 hm
  have hk' := List.mem_range.1 hk
  have hc : 0 ≤ c ∧ c ≤ 3 := by
    rcases many_cases c with h | h | h | h | h <;> omega
  exact ⟨k, hk', idx_starts hi hc hk', rfl, hc⟩

/-! ### slabs -/
theorem at_some {s : Slab} {k : Nat} (h : s.at k = true) : s.taken[k]? = some true := by
  unfold Slab.at List.getD at h
  cases hq : s.taken[k]? with
  | none => rw [hq] at h; cases h
  | some b => rw [hq] at h; simp at h; rw [h]
theorem at_of {s : Slab} {k : Nat} (h : s.taken[k]? = some true) : s.at k = true := by unfold Slab.at List.getD; rw [h]; rfl
theorem take_at {s : Slab} (hl : s.taken.length = 8) {c : Int} {k j : Nat} (hk : k < 8) : (s.take c k).at j = (decide (j = k) || s.at j) := by
  unfold Slab.at Slab.take List.getD
  simp only [List.getElem?_set]
  by_cases e : k = j
  · subst e
    simp [hl, hk]
  · rw [if_neg e]
    have : decide (j = k) = false := by simpa using fun h => e h.symm
    rw [this, Bool.false_or]
theorem give_at {s : Slab} (hl : s.taken.length = 8) {k j : Nat} (hk : k < 8) : (s.give k).at j = (!decide (j = k) && s.at j) := by
  unfold Slab.at Slab.give List.getD
  simp only [List.getElem?_set]
  by_cases e : k = j
  · subst e
    simp [hl, hk]
  · rw [if_neg e]
    have : decide (j = k) = false := by simpa using fun h => e h.symm
    rw [this, Bool.not_false, Bool.true_and]
theorem n_pos {s : Slab} {k : Nat} (h : s.at k = true) : 0 < s.n := by
  unfold Slab.n
  exact List.count_pos_iff.2 (List.mem_of_getElem? (at_some h))
theorem n_zero {s : Slab} (h : s.n = 0) (k : Nat) : s.at k = false := by
  by_cases hk : s.at k = true
  · have := n_pos hk
    omega
  · simpa using hk
theorem count_set_true {l : List Bool} {k : Nat} (hk : l[k]? = some false) : (l.set k true).count true = l.count true + 1 := by
  obtain ⟨h, e⟩ := List.getElem?_eq_some_iff.1 hk
  rw [List.count_set h, e]
  simp
theorem count_set_false {l : List Bool} {k : Nat} (hk : l[k]? = some true) : (l.set k false).count true + 1 = l.count true := by
  obtain ⟨h, e⟩ := List.getElem?_eq_some_iff.1 hk
  have hp : 0 < l.count true := List.count_pos_iff.2 (List.mem_of_getElem? hk)
  rw [List.count_set h, e]
  simp
  omega
theorem taken_false {s : Slab} (hl : s.taken.length = 8) {k : Nat} (hk : k < 8) (h : s.at k = false) : s.taken[k]? = some false := by
  unfold Slab.at List.getD at h
  rw [List.getElem?_eq_getElem (by omega)] at h ⊢
  simp at h
  rw [h]
theorem take_ok {s : Slab} (h : s.Ok) {c : Int} {k : Nat} (hc : 0 ≤ c ∧ c ≤ 3) (hk : k < many c) (hf : s.at k = false) (hs : s.cls = -1 ∨ s.cls = c) : (s.take c k).Ok := by
  have hm := many_span hc
  have hn : (s.take c k).n = s.n + 1 := count_set_true (taken_false h.len (by omega) hf)
  refine ⟨by simpa [Slab.take] using h.len, fun h0 => by omega, fun _ => hc, fun j hj => ?_⟩
  have h1 := at_of hj
  rw [take_at h.len (by omega)] at h1
  show j < many c
  by_cases e : j = k
  · omega
  · have h2 : s.at j = true := by simpa [e] using h1
    rcases hs with hs | hs
    · have h3 := n_pos h2
      have h4 := h.busy (by omega)
      omega
    · rw [← hs]
      exact h.fits j (at_some h2)
theorem give_ok {s : Slab} (h : s.Ok) {k : Nat} (hk : s.at k = true) : (s.give k).Ok := by
  have hn : (s.give k).n + 1 = s.n := count_set_false (at_some hk)
  have hk8 : k < 8 := by
    have := (List.getElem?_eq_some_iff.1 (at_some hk)).1
    have := h.len
    omega
  refine ⟨by simpa [Slab.give] using h.len, fun h0 => by unfold Slab.n Slab.give at h0; unfold Slab.give; simp only at h0 ⊢; rw [if_pos h0], fun h0 => ?_, fun j hj => ?_⟩
  · have := h.busy (by omega)
    unfold Slab.n Slab.give at h0
    unfold Slab.give
    simp only at h0 ⊢
    rw [if_neg h0]
    exact this
  · have h1 := at_of hj
    have h3 := n_pos h1
    rw [give_at h.len hk8] at h1
    have h2 : s.at j = true := by
      simp at h1
      exact h1.2
    have hc : (s.give k).cls = s.cls := by
      unfold Slab.n Slab.give at h3
      unfold Slab.give
      simp only at h3 ⊢
      rw [if_neg (by omega)]
    rw [hc]
    exact h.fits j (at_some h2)
theorem free_some {s : Slab} {k : Nat} (h : s.free = some k) : k < many s.cls ∧ s.at k = false ∧ ∀ j, j < k → s.at j = true := by
  unfold Slab.free at h
  rw [List.find?_range_eq_some] at h
  obtain ⟨h1, h2, h3⟩ := h
  exact ⟨List.mem_range.1 h2, by simpa using h1, fun j hj => by simpa using h3 j hj⟩
theorem free_none {s : Slab} (h : s.free = none) : ∀ k, k < many s.cls → s.at k = true := by
  unfold Slab.free at h
  rw [List.find?_eq_none] at h
  intro k hk
  simpa using h k (by simpa using hk)
end Go.Proofs.FuPool
