/- Law 9, pure: what a closing does of lines. -/
import Derived.Test.YtecdalmnndalgaaClkL
import Derived.Test.YtecdalmnndalgaaFences
namespace Go.Proofs.Ytecdalmnndalgaa
open Go.RowKit Go.Proofs.FuMem Go.Proofs.FuClk Go.Proofs.FuNvm Go.Proofs.FuGeom Go.Proofs.FuCode
theorem lineOf_some {D : Dev} {i : Int} {x : Line} (h : D.lines[i.toNat]? = some x) : lineOf D i = x := by
  unfold lineOf
  rw [List.getD, h]
  rfl
theorem store1_len (D : Dev) (line pos : Int) (l : List UInt8) : (store1 D line pos l).lines.length = D.lines.length := by
  unfold store1
  split
  · rfl
  · exact List.length_set
theorem flush1_len (D : Dev) (line : Int) : (flush1 D line).lines.length = D.lines.length := by
  unfold flush1
  split
  · rfl
  · exact List.length_set
theorem back1_len (D : Dev) (line : Int) : (back1 D line).lines.length = D.lines.length := by
  unfold back1
  split
  · rfl
  · exact List.length_set
theorem store1_else {D : Dev} {line pos : Int} {l : List UInt8} {i : Nat} (h : line ≠ (i : Int)) : (store1 D line pos l).lines[i]? = D.lines[i]? := by
  unfold store1
  split
  · rfl
  · rename_i hp
    unfold noPlace at hp
    exact set_else (by omega) _
theorem store1_here {D : Dev} {i pos : Nat} {l : List UInt8} {x : Line} (h : D.lines[i]? = some x) (hp : pos + l.length ≤ 64) : (store1 D i pos l).lines[i]? = some { x with now := over x.now pos l } := by
  unfold store1
  have hi := (List.getElem?_eq_some_iff.1 h).1
  rw [if_neg (by unfold noPlace; omega)]
  have : lineOf D i = x := lineOf_some (by rw [Int.toNat_natCast]; exact h)
  rw [this, Int.toNat_natCast, Int.toNat_natCast]
  exact set_here h _
theorem flush1_else {D : Dev} {line : Int} {i : Nat} (h : line ≠ (i : Int)) : (flush1 D line).lines[i]? = D.lines[i]? := by
  unfold flush1
  split
  · rfl
  · rename_i hp
    unfold noPlace at hp
    exact set_else (by omega) _
theorem flush1_here {D : Dev} {i : Nat} {x : Line} (h : D.lines[i]? = some x) : (flush1 D i).lines[i]? = some (flushL x) := by
  unfold flush1
  have hi := (List.getElem?_eq_some_iff.1 h).1
  rw [if_neg (by unfold noPlace; omega)]
  have : lineOf D i = x := lineOf_some (by rw [Int.toNat_natCast]; exact h)
  rw [this, Int.toNat_natCast]
  exact set_here h _
theorem back1_else {D : Dev} {line : Int} {i : Nat} (h : line ≠ (i : Int)) : (back1 D line).lines[i]? = D.lines[i]? := by
  unfold back1
  split
  · rfl
  · rename_i hp
    unfold noPlace at hp
    exact set_else (by omega) _
theorem back1_here {D : Dev} {i : Nat} {x : Line} (h : D.lines[i]? = some x) : (back1 D i).lines[i]? = some (backL x) := by
  unfold back1
  have hi := (List.getElem?_eq_some_iff.1 h).1
  rw [if_neg (by unfold noPlace; omega)]
  have : lineOf D i = x := lineOf_some (by rw [Int.toNat_natCast]; exact h)
  rw [this, Int.toNat_natCast]
  exact set_here h _
theorem fenceD_get {D : Dev} {i : Nat} {x : Line} (h : D.lines[i]? = some x) : (fenceD D).lines[i]? = some (fenceL x) := by
  unfold fenceD
  rw [List.getElem?_map, h]
  rfl
theorem stepD_len (C : Clk) (D : Dev) : (stepD C D).lines.length = D.lines.length := by
  unfold stepD
  split
  · rfl
  split
  · split
    · exact flush1_len _ _
    · exact List.length_map _
  split
  · exact store1_len _ _ _ _
  split
  · exact flush1_len _ _
  · exact List.length_map _
/-! ### while lines are noted -/
structure Base (m : Nat) (C : Clk) (D : Dev) : Prop where
  len : D.lines.length = m
  good : ∀ (i : Nat) (x : Line), D.lines[i]? = some x → x.sent = false ∧ (x.now = x.kept ∨ C.noted.getD i false = true)
  few : ∀ i, C.noted.getD i false = true → 2 ≤ i ∧ i < m
  one : D.lines[1]? = some noLine
theorem base_new (m n : Nat) (d : Int) (hm : 2 ≤ m) : Base m (newClk n d) (newDev m) where
  len := List.length_replicate
  good := fun i x h => by
    have : x = noLine := (List.mem_replicate.1 (List.mem_of_getElem? h)).2
    subst this
    exact ⟨rfl, .inl rfl⟩
  few := fun i h => by
    have : (newClk n d).noted.getD i false = false := by
      show (List.replicate 258 false).getD i false = false
      simp only [List.getD, List.getElem?_replicate]
      split <;> rfl
    rw [this] at h
    cases h
  one := by
    show (List.replicate m noLine)[1]? = some noLine
    rw [List.getElem?_replicate, if_pos (by omega)]
theorem base_note {m : Nat} {C : Clk} {D : Dev} (h : Base m C D) (hC : C.Ok) (hm : m ≤ 258) {t i pos : Nat} (h2 : 2 ≤ i) (hi : i < m) {l : List UInt8} : Base m (noteC C t i) (store1 D i pos l) where
  len := by rw [store1_len]; exact h.len
  good := fun k x hx => by
    have hn : (noteC C t i).noted = C.noted.set i true := rfl
    rw [hn]
    by_cases hk : i = k
    · subst hk
      have hs : (C.noted.set i true).getD i false = true := by
        have hlt : i < C.noted.length := by rw [hC.noted]; omega
        simp [List.getD, hlt]
      refine ⟨?_, .inr hs⟩
      unfold store1 at hx
      split at hx
      · exact (h.good i x hx).1
      · obtain ⟨y, hy⟩ : ∃ y, D.lines[i]? = some y := ⟨_, List.getElem?_eq_getElem (by rw [h.len]; exact hi)⟩
        have e : lineOf D i = y := lineOf_some (by rw [Int.toNat_natCast]; exact hy)
        rw [e, Int.toNat_natCast] at hx
        have := (set_here hy { y with now := over y.now (pos : Int).toNat l }).symm.trans hx
        cases this
        exact (h.good i y hy).1
    · rw [store1_else (by omega)] at hx
      have hs : (C.noted.set i true).getD k false = C.noted.getD k false := by simp [List.getD, List.getElem?_set_ne hk]
      rw [hs]
      exact h.good k x hx
  few := fun k hk => by
    have hn : (noteC C t i).noted = C.noted.set i true := rfl
    rw [hn] at hk
    by_cases hik : i = k
    · subst hik
      exact ⟨h2, hi⟩
    · have hs : (C.noted.set i true).getD k false = C.noted.getD k false := by simp [List.getD, List.getElem?_set_ne hik]
      rw [hs] at hk
      exact h.few k hk
  one := by rw [store1_else (by omega)]; exact h.one
/-! ### while an epoch is being closed -/
def Good (C : Clk) (i : Nat) (x : Line) : Prop := (x.sent = true → x.way = x.now) ∧ (C.phase = 1 → x.now = x.kept ∨ x.sent = true ∨ C.left.getD i false = true) ∧ (C.phase ≠ 1 → x.now = x.kept)
structure Work (m : Nat) (S : Nat → Prop) (C : Clk) (D : Dev) : Prop where
  len : D.lines.length = m
  good : ∀ i x, S i → 2 ≤ i → D.lines[i]? = some x → Good C i x
theorem work_begin {m : Nat} {C : Clk} {D : Dev} (h : Base m C D) (S : Nat → Prop) : Work m S (beginC C) D where
  len := h.len
  good := fun i x _ _ hx => by
    obtain ⟨h1, h2⟩ := h.good i x hx
    refine ⟨fun e => by rw [h1] at e; (cases e), fun _ => ?_, fun e => absurd rfl e⟩
    rcases h2 with h2 | h2
    · exact .inl h2
    · exact .inr (.inr h2)
theorem good_fence {C C' : Clk} {i : Nat} {x : Line} (h : Good C i x) (hl : C.phase = 1 → C.left.getD i false = false) (h' : C'.phase ≠ 1) : Good C' i (fenceL x) := by
  obtain ⟨h1, h2, h3⟩ := h
  unfold fenceL
  by_cases hs : x.sent = true
  · rw [if_pos hs]
    exact ⟨fun e => (by cases e), fun e => absurd e h', fun _ => (h1 hs).symm⟩
  · rw [if_neg hs]
    refine ⟨h1, fun e => absurd e h', fun _ => ?_⟩
    by_cases hp : C.phase = 1
    · rcases h2 hp with e | e | e
      · exact e
      · exact absurd e hs
      · rw [hl hp] at e; cases e
    · exact h3 hp
theorem work_step {m : Nat} {S : Nat → Prop} {C : Clk} {D : Dev} (h : Work m S C D) (_hC : C.Ok) : Work m S (stepC C) (stepD C D) where
  len := by rw [stepD_len]; exact h.len
  good := fun i x hS h2 hx => by
    unfold stepC
    unfold stepD at hx
    by_cases p0 : C.phase = 0
    · rw [if_pos p0] at hx ⊢
      exact h.good i x hS h2 hx
    rw [if_neg p0] at hx ⊢
    by_cases p1 : C.phase = 1
    · rw [if_pos p1] at hx ⊢
      cases hm : least C.left with
      | some k =>
        rw [hm] at hx
        simp only at hx ⊢
        have hk : k < C.left.length := least_lt hm
        by_cases hik : k = i
        · subst hik
          by_cases hlen : k < D.lines.length
          · obtain ⟨y, hy⟩ : ∃ y, D.lines[k]? = some y := ⟨_, List.getElem?_eq_getElem hlen⟩
            rw [flush1_here hy] at hx
            cases hx
            exact ⟨fun _ => rfl, fun _ => .inr (.inl rfl), fun e => absurd p1 e⟩
          · have := (List.getElem?_eq_some_iff.1 hx).1
            rw [flush1_len] at this
            exact absurd this hlen
        · rw [flush1_else (by omega)] at hx
          obtain ⟨g1, g2, g3⟩ := h.good i x hS h2 hx
          refine ⟨g1, fun _ => ?_, fun e => absurd p1 e⟩
          have hs : (C.left.set k false).getD i false = C.left.getD i false := by simp [List.getD, List.getElem?_set_ne hik]
          show _ ∨ _ ∨ (C.left.set k false).getD i false = true
          rw [hs]
          exact g2 p1
      | none =>
        rw [hm] at hx
        simp only at hx ⊢
        have hall := least_false hm
        by_cases hlen : i < D.lines.length
        · obtain ⟨y, hy⟩ : ∃ y, D.lines[i]? = some y := ⟨_, List.getElem?_eq_getElem hlen⟩
          rw [fenceD_get hy] at hx
          cases hx
          refine good_fence (h.good i y hS h2 hy) (fun _ => ?_) (by show (2 : Nat) ≠ 1; omega)
          rw [hall]
          simp only [List.getD, List.getElem?_replicate]
          split <;> rfl
        · have := (List.getElem?_eq_some_iff.1 hx).1
          unfold fenceD at this
          rw [List.length_map] at this
          exact absurd this hlen
    rw [if_neg p1] at hx ⊢
    by_cases p2 : C.phase = 2
    · rw [if_pos p2] at hx ⊢
      rw [store1_else (by omega)] at hx
      obtain ⟨g1, g2, g3⟩ := h.good i x hS h2 hx
      exact ⟨g1, fun e => absurd (show (3 : Nat) = 1 from e) (by omega), fun _ => g3 p1⟩
    rw [if_neg p2] at hx ⊢
    by_cases p3 : C.phase = 3
    · rw [if_pos p3] at hx ⊢
      rw [flush1_else (by omega)] at hx
      obtain ⟨g1, g2, g3⟩ := h.good i x hS h2 hx
      exact ⟨g1, fun e => absurd (show (4 : Nat) = 1 from e) (by omega), fun _ => g3 p1⟩
    rw [if_neg p3] at hx ⊢
    by_cases hlen : i < D.lines.length
    · obtain ⟨y, hy⟩ : ∃ y, D.lines[i]? = some y := ⟨_, List.getElem?_eq_getElem hlen⟩
      rw [fenceD_get hy] at hx
      cases hx
      exact good_fence (h.good i y hS h2 hy) (fun e => absurd e p1) (by show (0 : Nat) ≠ 1; omega)
    · have := (List.getElem?_eq_some_iff.1 hx).1
      unfold fenceD at this
      rw [List.length_map] at this
      exact absurd this hlen
theorem work_back {m : Nat} {S : Nat → Prop} {C : Clk} {D : Dev} (h : Work m S C D) (k : Nat) : Work m S C (back1 D k) where
  len := by rw [back1_len]; exact h.len
  good := fun i x hS h2 hx => by
    by_cases hik : k = i
    · subst hik
      by_cases hlen : k < D.lines.length
      · obtain ⟨y, hy⟩ : ∃ y, D.lines[k]? = some y := ⟨_, List.getElem?_eq_getElem hlen⟩
        rw [back1_here hy] at hx
        cases hx
        exact ⟨fun e => (by cases e), fun _ => .inl rfl, fun _ => rfl⟩
      · have := (List.getElem?_eq_some_iff.1 hx).1
        rw [back1_len] at this
        exact absurd this hlen
    · rw [back1_else (by omega)] at hx
      exact h.good i x hS h2 hx
theorem work_store {m : Nat} {S : Nat → Prop} {C : Clk} {D : Dev} (h : Work m S C D) {k pos : Nat} {l : List UInt8} (hk : ¬ S k) : Work m S C (store1 D k pos l) where
  len := by rw [store1_len]; exact h.len
  good := fun i x hS h2 hx => by
    have hik : k ≠ i := fun e => hk (e ▸ hS)
    rw [store1_else (by omega)] at hx
    exact h.good i x hS h2 hx
/-! ### how many steps are left -/
def rest (C : Clk) : Nat := if C.phase = 0 then 0 else if C.phase = 1 then C.left.count true + 4 else 5 - C.phase
theorem count_set {L : List Bool} {k : Nat} (h : L.getD k false = true) : (L.set k false).count true + 1 = L.count true := by
  induction L generalizing k with
  | nil => simp [List.getD] at h
  | cons b L ih =>
    cases k with
    | zero =>
      have hb : b = true := by simpa [List.getD] using h
      subst hb
      simp
    | succ k =>
      have := ih (k := k) (by simpa [List.getD] using h)
      simp only [List.set_cons_succ, List.count_cons]
      omega
theorem rest_step {C : Clk} (h : C.Ok) (h0 : C.phase ≠ 0) : rest (stepC C) + 1 = rest C := by
  unfold stepC
  rw [if_neg h0]
  by_cases p1 : C.phase = 1
  · rw [if_pos p1]
    cases hm : least C.left with
    | some k =>
      show rest { C with left := C.left.set k false } + 1 = rest C
      unfold rest
      simp only [p1]
      have := count_set (least_at hm)
      simp
      omega
    | none =>
      show rest { C with phase := 2 } + 1 = rest C
      unfold rest
      simp only [p1]
      have := least_false hm
      rw [this, List.count_replicate]
      simp
  rw [if_neg p1]
  have hp := h.phase
  by_cases p2 : C.phase = 2
  · rw [if_pos p2]; unfold rest; simp [p2]
  rw [if_neg p2]
  by_cases p3 : C.phase = 3
  · rw [if_pos p3]; unfold rest; simp [p3]
  rw [if_neg p3]
  have p4 : C.phase = 4 := by omega
  unfold rest
  simp [p4]
theorem count_few {L : List Bool} {m : Nat} (h : ∀ i, L.getD i false = true → i < m) : L.count true ≤ m := by
  have h2 : (L.drop m).count true = 0 := by
    rw [List.count_eq_zero]
    intro hx
    obtain ⟨j, hj, e⟩ := List.getElem_of_mem hx
    rw [List.getElem_drop] at e
    have := h (m + j) (by
      have hl : m + j < L.length := by simp at hj; omega
      simp [List.getD, hl, e])
    omega
  have h3 := List.count_append (a := true) (l₁ := L.take m) (l₂ := L.drop m)
  rw [List.take_append_drop] at h3
  have h4 := List.count_le_length (a := true) (l := L.take m)
  rw [List.length_take] at h4
  omega
theorem rest_begin {m : Nat} {C : Clk} {D : Dev} (h : Base m C D) : rest (beginC C) ≤ m + 4 := by
  have := count_few (L := C.noted) (m := m) (fun i hi => (h.few i hi).2)
  show (if (1 : Nat) = 0 then 0 else if (1 : Nat) = 1 then C.noted.count true + 4 else 5 - 1) ≤ m + 4
  rw [if_neg (by omega), if_pos rfl]
  omega
/-! ### the clock's line -/
def zeros : List UInt8 := List.replicate 64 0
theorem isClock_zeros : (isClock zeros).1 = 0 := by
  unfold isClock
  split
  · show clockNum zeros = 0
    decide +kernel
  · rfl
/-- ahead of the clock's store its line is empty -/
def First (C : Clk) (D : Dev) : Prop := C.phase = 1 ∨ C.phase = 2 → ∃ x, D.lines[1]? = some x ∧ x.now = zeros ∧ x.kept = zeros ∧ (x.sent = true → x.way = zeros)
theorem first_begin {m : Nat} {C : Clk} {D : Dev} (h : Base m C D) : First (beginC C) D := fun _ => ⟨noLine, h.one, rfl, rfl, fun e => by cases e⟩
theorem first_step {C : Clk} {D : Dev} (h : First C D) (hC : C.Ok) : First (stepC C) (stepD C D) := by
  intro hp
  unfold stepD
  unfold stepC at hp
  by_cases p0 : C.phase = 0
  · rw [if_pos p0] at hp ⊢
    exact h hp
  rw [if_neg p0] at hp ⊢
  by_cases p1 : C.phase = 1
  · rw [if_pos p1] at hp ⊢
    obtain ⟨x, hx, x1, x2, x3⟩ := h (.inl p1)
    cases hm : least C.left with
    | some k =>
      simp only
      by_cases hk : k = 1
      · subst hk
        exact ⟨_, flush1_here hx, x1, x2, fun _ => x1⟩
      · exact ⟨x, (flush1_else (by omega)).trans hx, x1, x2, x3⟩
    | none =>
      simp only
      refine ⟨_, fenceD_get hx, ?_⟩
      unfold fenceL
      by_cases hs : x.sent = true
      · rw [if_pos hs]
        exact ⟨x1, x3 hs, fun e => by cases e⟩
      · rw [if_neg hs]
        exact ⟨x1, x2, x3⟩
  rw [if_neg p1] at hp
  have hp4 := hC.phase
  by_cases p2 : C.phase = 2
  · rw [if_pos p2] at hp
    have : (3 : Nat) = 1 ∨ (3 : Nat) = 2 := hp
    omega
  rw [if_neg p2] at hp
  by_cases p3 : C.phase = 3
  · rw [if_pos p3] at hp
    have : (4 : Nat) = 1 ∨ (4 : Nat) = 2 := hp
    omega
  rw [if_neg p3] at hp
  have : (0 : Nat) = 1 ∨ (0 : Nat) = 2 := hp
  omega
theorem first_back {C : Clk} {D : Dev} (h : First C D) (k : Nat) : First C (back1 D k) := by
  intro hp
  obtain ⟨x, hx, x1, x2, x3⟩ := h hp
  by_cases hk : k = 1
  · subst hk
    exact ⟨_, back1_here hx, x1, x1, fun e => by cases e⟩
  · exact ⟨x, (back1_else (by omega)).trans hx, x1, x2, x3⟩
/-- behind the clock's store its line comes to say v -/
def Last (v : Nat) (C : Clk) (D : Dev) : Prop := ∃ x, D.lines[1]? = some x ∧ (C.phase = 3 → x.now = clockL v) ∧ (C.phase = 4 → x.sent = true ∧ x.way = clockL v) ∧ (C.phase = 0 → x.kept = clockL v)
theorem last_begin {m v : Nat} {C : Clk} {D : Dev} (h : Base m C D) : Last v (beginC C) D := ⟨noLine, h.one, fun e => absurd (show (1 : Nat) = 3 from e) (by omega), fun e => absurd (show (1 : Nat) = 4 from e) (by omega), fun e => absurd (show (1 : Nat) = 0 from e) (by omega)⟩
theorem last_step {v : Nat} {C : Clk} {D : Dev} (h : Last v C D) (hC : C.Ok) (hD : AllOk D.lines) (hv : C.phase = 2 → C.closing = v) : Last v (stepC C) (stepD C D) := by
  obtain ⟨x, hx, x3, x4, x0⟩ := h
  unfold stepD stepC
  by_cases p0 : C.phase = 0
  · rw [if_pos p0, if_pos p0]
    exact ⟨x, hx, x3, x4, x0⟩
  rw [if_neg p0, if_neg p0]
  by_cases p1 : C.phase = 1
  · rw [if_pos p1, if_pos p1]
    cases hm : least C.left with
    | some k =>
      simp only
      have ex : ∃ y, (flush1 D k).lines[1]? = some y := by
        by_cases hk : k = 1
        · subst hk
          exact ⟨_, flush1_here hx⟩
        · exact ⟨x, (flush1_else (by omega)).trans hx⟩
      obtain ⟨y, hy⟩ := ex
      exact ⟨y, hy, fun e => absurd (show C.phase = 3 from e) (by omega), fun e => absurd (show C.phase = 4 from e) (by omega), fun e => absurd (show C.phase = 0 from e) (by omega)⟩
    | none =>
      simp only
      exact ⟨_, fenceD_get hx, fun e => absurd (show (2 : Nat) = 3 from e) (by omega), fun e => absurd (show (2 : Nat) = 4 from e) (by omega), fun e => absurd (show (2 : Nat) = 0 from e) (by omega)⟩
  rw [if_neg p1, if_neg p1]
  by_cases p2 : C.phase = 2
  · rw [if_pos p2, if_pos p2, hv p2, Int.toNat_natCast]
    have hxo : x.now.length = 64 := (hD x (List.mem_of_getElem? hx)).1
    have := store1_here (pos := 0) (l := clockL v) hx (by rw [clockL_length]; omega)
    refine ⟨_, this, fun _ => ?_, fun e => absurd (show (3 : Nat) = 4 from e) (by omega), fun e => absurd (show (3 : Nat) = 0 from e) (by omega)⟩
    show over x.now 0 (clockL v) = clockL v
    have h2 := over_all (clockL v) x.now 64 (clockL_length v) hxo
    rw [List.take_of_length_le (by rw [clockL_length]; omega)] at h2
    exact h2
  rw [if_neg p2, if_neg p2]
  by_cases p3 : C.phase = 3
  · rw [if_pos p3, if_pos p3]
    refine ⟨_, flush1_here (i := 1) hx, fun e => absurd (show (4 : Nat) = 3 from e) (by omega), fun _ => ⟨rfl, x3 p3⟩, fun e => absurd (show (4 : Nat) = 0 from e) (by omega)⟩
  rw [if_neg p3, if_neg p3]
  have p4 : C.phase = 4 := by have := hC.phase; omega
  obtain ⟨y1, y2⟩ := x4 p4
  refine ⟨_, fenceD_get hx, fun e => absurd (show (0 : Nat) = 3 from e) (by omega), fun e => absurd (show (0 : Nat) = 4 from e) (by omega), fun _ => ?_⟩
  unfold fenceL
  rw [if_pos y1]
  exact y2
theorem last_store {v : Nat} {C : Clk} {D : Dev} (h : Last v C D) {k pos : Nat} {l : List UInt8} (hk : k ≠ 1) : Last v C (store1 D k pos l) := by
  obtain ⟨x, hx, x3⟩ := h
  exact ⟨x, (store1_else (by omega)).trans hx, x3⟩
end Go.Proofs.Ytecdalmnndalgaa
