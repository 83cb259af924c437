/- How a pool lies in memory. No program in sight. -/
import Derived.Test.YtpenmnngjfncgaaPoolP
import Derived.Test.YtpenmnngjfncgaaMemB
import Derived.Deep.MidRow
namespace Go.Proofs.FuPool
open Go.RowKit Go.Proofs.FuMem Go.Proofs.FuClass
def cellsOf (s : Slab) : List Value := .int .i64 s.cls :: (s.taken.map Value.bool ++ [.int .i64 s.n])
def rows (P : Pool) : List (List Value) := P.map cellsOf
def flat (P : Pool) : List Value := (rows P).flatten
theorem cellsOf_length {s : Slab} (h : s.taken.length = 8) : (cellsOf s).length = 10 := by simp [cellsOf, h]
theorem cellsOf_one (s : Slab) : ∀ v ∈ cellsOf s, v.oneCell' = true := by
  intro v hv
  unfold cellsOf at hv
  rcases List.mem_cons.1 hv with rfl | hv
  · rfl
  · rcases List.mem_append.1 hv with hv | hv
    · obtain ⟨x, _, rfl⟩ := List.mem_map.1 hv
      rfl
    · rw [List.mem_singleton] at hv
      subst hv
      rfl
section
variable {α : Type}
theorem flatten_length10 {L : List (List α)} (h : ∀ x ∈ L, x.length = 10) : L.flatten.length = L.length * 10 := by
  induction L with
  | nil => rfl
  | cons a L ih =>
    rw [List.flatten_cons, List.length_append, ih (fun x hx => h x (List.mem_cons_of_mem _ hx)), h a (List.mem_cons_self ..), List.length_cons]
    omega
theorem flatten_get10 {L : List (List α)} (h : ∀ x ∈ L, x.length = 10) {i o : Nat} (hi : i < L.length) (ho : o < 10) : L.flatten[i * 10 + o]? = (L[i])[o]? := by
  induction L generalizing i with
  | nil => simp at hi
  | cons a L ih =>
    have ha := h a (List.mem_cons_self ..)
    have hr := fun x hx => h x (List.mem_cons_of_mem _ hx)
    rw [List.flatten_cons]
    cases i with
    | zero => rw [List.getElem?_append_left (by omega)]; simp
    | succ i =>
      rw [List.getElem?_append_right (by omega), ha, show (i + 1) * 10 + o - 10 = i * 10 + o by omega, ih hr (by simpa using hi)]
      rfl
theorem flatten_set10 {L : List (List α)} (h : ∀ x ∈ L, x.length = 10) {i o : Nat} (ho : o < 10) (v : α) : L.flatten.set (i * 10 + o) v = (L.modify i (·.set o v)).flatten := by
  induction L generalizing i with
  | nil => simp
  | cons a L ih =>
    have ha := h a (List.mem_cons_self ..)
    have hr := fun x hx => h x (List.mem_cons_of_mem _ hx)
    rw [List.flatten_cons]
    cases i with
    | zero => rw [List.set_append_left _ _ (by omega)]; simp
    | succ i =>
      rw [List.set_append_right _ _ (by omega), ha, show (i + 1) * 10 + o - 10 = i * 10 + o by omega, ih hr]
      simp
theorem modify_rows {P : Pool} {i : Nat} {s : Slab} (hs : P[i]? = some s) {f : Slab → Slab} {F : List Value → List Value} (e : F (cellsOf s) = cellsOf (f s)) : (rows P).modify i F = rows (P.modify i f) := by
  unfold rows
  apply List.ext_getElem?
  intro j
  rw [List.getElem?_modify, List.getElem?_map, List.getElem?_map, List.getElem?_modify]
  by_cases hj : i = j
  · subst hj
    rw [hs]
    simp [e]
  · simp only [if_neg hj]
    cases P[j]? <;> simp
end
structure IsPool (tP tS : TypeId) (w : World) (g sb : Nat) (P : Pool) : Prop where
  head : Blk w g tP #[.slice (some ⟨sb, 0, none⟩) P.length P.length]
  body : Blk w sb tS (flat P).toArray
  ne : g ≠ sb
  n1 : 1 ≤ P.length
  n32 : P.length ≤ 32
  len : ∀ s ∈ P, s.taken.length = 8
section
variable {tP tS : TypeId} {w w' : World} {g sb : Nat} {P : Pool} {S : List Nat}
theorem rows_len (h : ∀ s ∈ P, s.taken.length = 8) : ∀ x ∈ rows P, x.length = 10 := by
  intro x hx
  obtain ⟨s, hs, rfl⟩ := List.mem_map.1 hx
  exact cellsOf_length (h s hs)
theorem flat_length (h : ∀ s ∈ P, s.taken.length = 8) : (flat P).length = P.length * 10 := by
  unfold flat
  rw [flatten_length10 (rows_len h)]
  simp [rows]
theorem IsPool.only (h : IsPool tP tS w g sb P) (ho : Only S w w') (h1 : g ∉ S) (h2 : sb ∉ S) : IsPool tP tS w' g sb P :=
  ⟨h.head.only ho h1, h.body.only ho h2, h.ne, h.n1, h.n32, h.len⟩
theorem IsPool.only0 (h : IsPool tP tS w g sb P) (ho : Only [] w w') : IsPool tP tS w' g sb P := h.only ho (by simp) (by simp)
theorem IsPool.headCell (h : IsPool tP tS w g sb P) : w.cell? ⟨g, 0, none⟩ = some (.slice (some ⟨sb, 0, none⟩) P.length P.length) := h.head.cell 0
theorem IsPool.cell (h : IsPool tP tS w g sb P) {i : Nat} {s : Slab} (hs : P[i]? = some s) {o : Nat} (ho : o < 10) : w.cell? ⟨sb, i * 10 + o, none⟩ = (cellsOf s)[o]? := by
  obtain ⟨hi, rfl⟩ := List.getElem?_eq_some_iff.1 hs
  rw [h.body.cell, List.getElem?_toArray]
  unfold flat
  rw [flatten_get10 (rows_len h.len) (by simpa [rows] using hi) ho]
  simp [rows]
theorem IsPool.range (h : IsPool tP tS w g sb P) {i : Nat} {s : Slab} (hs : P[i]? = some s) : w.rangeAt sb (i * 10) (cellsOf s) := fun o v hv => by
  have hl := cellsOf_length (h.len s (List.mem_of_getElem? hs))
  obtain ⟨ho, _⟩ := List.getElem?_eq_some_iff.1 hv
  rw [h.cell hs (by omega)]
  exact hv
theorem IsPool.cls (h : IsPool tP tS w g sb P) {i : Nat} {s : Slab} (hs : P[i]? = some s) : w.cell? ⟨sb, i * 10, none⟩ = some (.int .i64 s.cls) := h.cell hs (o := 0) (by omega)
theorem IsPool.mark (h : IsPool tP tS w g sb P) {i : Nat} {s : Slab} (hs : P[i]? = some s) {k : Nat} (hk : k < 8) : w.cell? ⟨sb, i * 10 + 1 + k, none⟩ = some (.bool (s.at k)) := by
  have hl := h.len s (List.mem_of_getElem? hs)
  rw [show i * 10 + 1 + k = i * 10 + (1 + k) by omega, h.cell hs (by omega), show 1 + k = k + 1 by omega]
  unfold cellsOf Slab.at
  rw [List.getElem?_cons_succ, List.getElem?_append_left (by simp; omega), List.getElem?_map, List.getElem?_eq_getElem (by omega)]
  simp [List.getD, List.getElem?_eq_getElem (show k < s.taken.length by omega)]
theorem IsPool.cnt (h : IsPool tP tS w g sb P) {i : Nat} {s : Slab} (hs : P[i]? = some s) : w.cell? ⟨sb, i * 10 + 9, none⟩ = some (.int .i64 s.n) := by
  have hl := h.len s (List.mem_of_getElem? hs)
  rw [h.cell hs (by omega)]
  unfold cellsOf
  rw [List.getElem?_cons_succ, List.getElem?_append_right (by simp; omega)]
  simp [hl]
theorem IsPool.frozen (h : IsPool tP tS w g sb P) (k : Nat) : w.frozen? ⟨sb, k, none⟩ = false := h.body.frozen k
theorem IsPool.ltg (h : IsPool tP tS w g sb P) : g < w.heap.size := h.head.lt
theorem IsPool.lts (h : IsPool tP tS w g sb P) : sb < w.heap.size := h.body.lt
theorem n_le {s : Slab} (h : s.taken.length = 8) : s.n ≤ 8 := by
  unfold Slab.n
  have := List.count_le_length (a := true) (l := s.taken)
  omega
theorem set_toArray10 (l : List Value) (k : Nat) (v : Value) : l.toArray.setIfInBounds k v = (l.set k v).toArray := by simp
/-- three cells of one slab are written -/
theorem IsPool.turn3 (h : IsPool tP tS w g sb P) {i : Nat} {s : Slab} (hs : P[i]? = some s) {o1 o2 o3 : Nat} (h1 : o1 < 10) (h2 : o2 < 10) (h3 : o3 < 10) (v1 v2 v3 : Value) {f : Slab → Slab} (hf : ((cellsOf s).set o1 v1 |>.set o2 v2 |>.set o3 v3) = cellsOf (f s)) (hl : (f s).taken.length = 8) :
    IsPool tP tS (((w.setCell ⟨sb, i * 10 + o1, none⟩ v1).setCell ⟨sb, i * 10 + o2, none⟩ v2).setCell ⟨sb, i * 10 + o3, none⟩ v3) g sb (P.modify i f) ∧ Only [sb] w (((w.setCell ⟨sb, i * 10 + o1, none⟩ v1).setCell ⟨sb, i * 10 + o2, none⟩ v2).setCell ⟨sb, i * 10 + o3, none⟩ v3) := by
  have hon : Only [sb] w (((w.setCell ⟨sb, i * 10 + o1, none⟩ v1).setCell ⟨sb, i * 10 + o2, none⟩ v2).setCell ⟨sb, i * 10 + o3, none⟩ v3) :=
    (((Only.refl _ _).setCell (.inl (by simp)) _).setCell (.inl (by simp)) _).setCell (.inl (by simp)) _
  have hb := ((h.body.set (i * 10 + o1) v1).set (i * 10 + o2) v2).set (i * 10 + o3) v3
  have r0 := rows_len h.len
  have rm : ∀ (L : List (List Value)) (o : Nat) (v : Value), (∀ x ∈ L, x.length = 10) → ∀ x ∈ L.modify i (·.set o v), x.length = 10 := fun L o v hL x hx => by
    obtain ⟨j, hj, e⟩ := List.getElem_of_mem hx
    rw [List.getElem_modify] at e
    split at e
    · rw [← e, List.length_set]
      exact hL _ (List.getElem_mem _)
    · rw [← e]
      exact hL _ (List.getElem_mem _)
  rw [set_toArray10, set_toArray10, set_toArray10] at hb
  have he : (((flat P).set (i * 10 + o1) v1).set (i * 10 + o2) v2).set (i * 10 + o3) v3 = flat (P.modify i f) := by
    unfold flat
    rw [flatten_set10 r0 h1, flatten_set10 (rm _ _ _ r0) h2, flatten_set10 (rm _ _ _ (rm _ _ _ r0)) h3, List.modify_modify_eq, List.modify_modify_eq]
    rw [modify_rows hs (f := f) (F := _) hf]
  rw [he] at hb
  refine ⟨⟨?_, hb, h.ne, by simpa using h.n1, by simpa using h.n32, ?_⟩, hon⟩
  · have := h.head.only hon (by simpa using h.ne)
    simpa using this
  · intro x hx
    obtain ⟨j, hj, e⟩ := List.getElem_of_mem hx
    rw [List.getElem_modify] at e
    split at e
    · rename_i hij
      subst hij
      obtain ⟨hi, rfl⟩ := List.getElem?_eq_some_iff.1 hs
      rw [← e]
      exact hl
    · rw [← e]
      exact h.len _ (List.getElem_mem _)
/-- .. two cells -/
theorem IsPool.turn2 (h : IsPool tP tS w g sb P) {i : Nat} {s : Slab} (hs : P[i]? = some s) {o1 o2 : Nat} (h1 : o1 < 10) (h2 : o2 < 10) (v1 v2 : Value) {f : Slab → Slab} (hf : ((cellsOf s).set o1 v1 |>.set o2 v2) = cellsOf (f s)) (hl : (f s).taken.length = 8) :
    IsPool tP tS ((w.setCell ⟨sb, i * 10 + o1, none⟩ v1).setCell ⟨sb, i * 10 + o2, none⟩ v2) g sb (P.modify i f) ∧ Only [sb] w ((w.setCell ⟨sb, i * 10 + o1, none⟩ v1).setCell ⟨sb, i * 10 + o2, none⟩ v2) := by
  have hon : Only [sb] w ((w.setCell ⟨sb, i * 10 + o1, none⟩ v1).setCell ⟨sb, i * 10 + o2, none⟩ v2) :=
    ((Only.refl _ _).setCell (.inl (by simp)) _).setCell (.inl (by simp)) _
  have hb := (h.body.set (i * 10 + o1) v1).set (i * 10 + o2) v2
  have r0 := rows_len h.len
  have rm : ∀ (L : List (List Value)) (o : Nat) (v : Value), (∀ x ∈ L, x.length = 10) → ∀ x ∈ L.modify i (·.set o v), x.length = 10 := fun L o v hL x hx => by
    obtain ⟨j, hj, e⟩ := List.getElem_of_mem hx
    rw [List.getElem_modify] at e
    split at e
    · rw [← e, List.length_set]
      exact hL _ (List.getElem_mem _)
    · rw [← e]
      exact hL _ (List.getElem_mem _)
  rw [set_toArray10, set_toArray10] at hb
  have he : ((flat P).set (i * 10 + o1) v1).set (i * 10 + o2) v2 = flat (P.modify i f) := by
    unfold flat
    rw [flatten_set10 r0 h1, flatten_set10 (rm _ _ _ r0) h2, List.modify_modify_eq]
    rw [modify_rows hs (f := f) (F := _) hf]
  rw [he] at hb
  refine ⟨⟨?_, hb, h.ne, by simpa using h.n1, by simpa using h.n32, ?_⟩, hon⟩
  · have := h.head.only hon (by simpa using h.ne)
    simpa using this
  · intro x hx
    obtain ⟨j, hj, e⟩ := List.getElem_of_mem hx
    rw [List.getElem_modify] at e
    split at e
    · rename_i hij
      subst hij
      obtain ⟨hi, rfl⟩ := List.getElem?_eq_some_iff.1 hs
      rw [← e]
      exact hl
    · rw [← e]
      exact h.len _ (List.getElem_mem _)
/-- .. one cell -/
theorem IsPool.turn1 (h : IsPool tP tS w g sb P) {i : Nat} {s : Slab} (hs : P[i]? = some s) {o1 : Nat} (h1 : o1 < 10) (v1 : Value) {f : Slab → Slab} (hf : (cellsOf s).set o1 v1 = cellsOf (f s)) (hl : (f s).taken.length = 8) :
    IsPool tP tS (w.setCell ⟨sb, i * 10 + o1, none⟩ v1) g sb (P.modify i f) ∧ Only [sb] w (w.setCell ⟨sb, i * 10 + o1, none⟩ v1) := by
  have hon : Only [sb] w (w.setCell ⟨sb, i * 10 + o1, none⟩ v1) :=
    (Only.refl _ _).setCell (.inl (by simp)) _
  have hb := h.body.set (i * 10 + o1) v1
  have r0 := rows_len h.len
  rw [set_toArray10] at hb
  have he : (flat P).set (i * 10 + o1) v1 = flat (P.modify i f) := by
    unfold flat
    rw [flatten_set10 r0 h1]
    rw [modify_rows hs (f := f) (F := _) hf]
  rw [he] at hb
  refine ⟨⟨?_, hb, h.ne, by simpa using h.n1, by simpa using h.n32, ?_⟩, hon⟩
  · have := h.head.only hon (by simpa using h.ne)
    simpa using this
  · intro x hx
    obtain ⟨j, hj, e⟩ := List.getElem_of_mem hx
    rw [List.getElem_modify] at e
    split at e
    · rename_i hij
      subst hij
      obtain ⟨hi, rfl⟩ := List.getElem?_eq_some_iff.1 hs
      rw [← e]
      exact hl
    · rw [← e]
      exact h.len _ (List.getElem_mem _)
end
end Go.Proofs.FuPool
