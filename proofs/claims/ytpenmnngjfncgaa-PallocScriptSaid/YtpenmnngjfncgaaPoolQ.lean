/- Pools of blocks: what the statements ask, plain. No program in sight. -/
import Derived.Test.YtpenmnngjfncgaaPoolB
namespace Go.Proofs.FuPool
open Go.Proofs.FuClass
section
variable {α : Type} (f : α → Int)
/-- two rising lists with the same members are one -/
theorem sorted_ext {l m : List α} (hl : l.Pairwise (fun a b => f a < f b)) (hm : m.Pairwise (fun a b => f a < f b)) (h : ∀ x, x ∈ l ↔ x ∈ m) : l = m := by
  induction l generalizing m with
  | nil =>
    cases m with
    | nil => rfl
    | cons b m => exact absurd ((h b).2 (List.mem_cons_self ..)) (by simp)
  | cons a l ih =>
    cases m with
    | nil => exact absurd ((h a).1 (List.mem_cons_self ..)) (by simp)
    | cons b m =>
      obtain ⟨ha, hl'⟩ := List.pairwise_cons.1 hl
      obtain ⟨hb, hm'⟩ := List.pairwise_cons.1 hm
      have hab : a = b := by
        rcases List.mem_cons.1 ((h a).1 (List.mem_cons_self ..)) with e | e
        · exact e
        · have h1 := hb a e
          rcases List.mem_cons.1 ((h b).2 (List.mem_cons_self ..)) with e2 | e2
          · exact e2.symm
          · have h2 := ha b e2
            omega
      subst hab
      congr 1
      refine ih hl' hm' fun x => ⟨fun hx => ?_, fun hx => ?_⟩
      · have h1 := ha x hx
        rcases List.mem_cons.1 ((h x).1 (List.mem_cons_of_mem _ hx)) with e | e
        · subst e
          omega
        · exact e
      · have h1 := hb x hx
        rcases List.mem_cons.1 ((h x).2 (List.mem_cons_of_mem _ hx)) with e | e
        · subst e
          omega
        · exact e
end
/-! ### what is taken -/
theorem mem_blocks {i : Nat} {s : Slab} {x : Int × Int} : x ∈ blocks i s ↔ ∃ k, k < many s.cls ∧ s.at k = true ∧ x = (lineAt i k s.cls, s.cls) := by
  unfold blocks
  simp only [List.mem_map, List.mem_filter, List.mem_range]
  constructor
  · rintro ⟨k, ⟨h1, h2⟩, rfl⟩
    exact ⟨k, h1, h2, rfl⟩
  · rintro ⟨k, h1, h2, rfl⟩
    exact ⟨k, ⟨h1, h2⟩, rfl⟩
theorem mem_takenOf {P : Pool} {x : Int × Int} : x ∈ takenOf P ↔ ∃ i s k, P[i]? = some s ∧ k < many s.cls ∧ s.at k = true ∧ x = (lineAt i k s.cls, s.cls) := by
  unfold takenOf blocksTo
  rw [List.mem_flatMap]
  constructor
  · rintro ⟨i, hi, hx⟩
    cases hs : P[i]? with
    | none => rw [hs] at hx; cases hx
    | some s =>
      rw [hs] at hx
      obtain ⟨k, h1, h2, h3⟩ := mem_blocks.1 hx
      exact ⟨i, s, k, hs, h1, h2, h3⟩
  · rintro ⟨i, s, k, hs, h1, h2, h3⟩
    refine ⟨i, List.mem_range.2 (List.getElem?_eq_some_iff.1 hs).1, ?_⟩
    rw [hs]
    exact mem_blocks.2 ⟨k, h1, h2, h3⟩
theorem lineAt_step {i j k : Nat} {c : Int} (h : j < k) : lineAt i j c + span c ≤ lineAt i k c := by
  unfold lineAt
  have : (j + 1) * span c ≤ k * span c := Nat.mul_le_mul_right _ h
  rw [Nat.succ_mul] at this
  omega
theorem many_cls {c : Int} {k : Nat} (h : k < many c) : 0 ≤ c ∧ c ≤ 3 := by
  have := many_cases c
  omega
theorem blocks_rise (i : Nat) (s : Slab) : (blocks i s).Pairwise (fun a b => a.1 + (span a.2 : Int) ≤ b.1) := by
  unfold blocks
  rw [List.pairwise_map]
  have h : (List.range (many s.cls)).Pairwise (fun a b => a < b) := List.pairwise_lt_range
  exact (h.filter _).imp fun hab => lineAt_step hab
theorem taken_rise (P : Pool) : (takenOf P).Pairwise (fun a b => a.1 + (span a.2 : Int) ≤ b.1) := by
  unfold takenOf blocksTo
  rw [List.pairwise_flatMap]
  refine ⟨fun i _ => ?_, ?_⟩
  · cases P[i]? with
    | none => exact List.Pairwise.nil
    | some s => exact blocks_rise i s
  · refine (List.pairwise_lt_range (n := P.length)).imp fun {i j} hij x hx y hy => ?_
    cases hs : P[i]? with
    | none => rw [hs] at hx; cases hx
    | some s =>
      cases ht : P[j]? with
      | none => rw [ht] at hy; cases hy
      | some t =>
        rw [hs] at hx
        rw [ht] at hy
        obtain ⟨k, h1, _, rfl⟩ := mem_blocks.1 hx
        obtain ⟨m, h2, _, rfl⟩ := mem_blocks.1 hy
        have e1 := lineAt_bd (i := i) (many_cls h1) h1
        have e2 := lineAt_bd (i := j) (many_cls h2) h2
        show lineAt i k s.cls + span s.cls ≤ lineAt j m t.cls
        omega
theorem taken_lt (P : Pool) : (takenOf P).Pairwise (fun a b => a.1 < b.1) := by
  have h := taken_rise P
  refine List.Pairwise.imp_of_mem (fun {a b} ha _ hab => ?_) h
  obtain ⟨i, s, k, _, h1, _, rfl⟩ := mem_takenOf.1 ha
  have := many_span (many_cls h1)
  simp only at hab ⊢
  omega
/-- a block that is taken: its place -/
theorem taken_place {P : Pool} (hl : P.length ≤ 32) {x : Int × Int} (h : x ∈ takenOf P) : ∃ (i : Nat) (s : Slab), P[i]? = some s ∧ slabOf x.1 = i ∧ s.cls = x.2 ∧ home x.1 x.2 = true ∧ 2 ≤ x.1 ∧ x.1 ≤ 257 ∧ 0 ≤ x.2 ∧ x.2 ≤ 3 ∧ x.1 + span x.2 ≤ 258 := by
  obtain ⟨i, s, k, hs, h1, h2, rfl⟩ := mem_takenOf.1 h
  have hi : i < P.length := (List.getElem?_eq_some_iff.1 hs).1
  have hc := many_cls h1
  have hb := lineAt_bd (i := i) hc h1
  have hm := many_span hc
  refine ⟨i, s, hs, slabOf_lineAt (by omega) hc h1, rfl, ?_, by simp only; omega, by simp only; omega, hc.1, hc.2, by simp only; omega⟩
  unfold home
  rw [decide_eq_true_eq, slabOf_lineAt (by omega) hc h1, starts_eq (by omega)]
  exact List.mem_map.2 ⟨k, List.mem_range.2 h1, rfl⟩
/-! ### a block that is taken and given back -/
theorem take_give {s : Slab} (ho : s.Ok) {c : Int} {k : Nat} (_hc : 0 ≤ c ∧ c ≤ 3) (hk : k < 8) (hf : s.at k = false) (hs : s.cls = -1 ∨ s.cls = c) : (s.take c k).give k = s := by
  have ht : (s.taken.set k true).set k false = s.taken := by
    rw [List.set_set]
    have h1 := taken_false ho.len hk hf
    obtain ⟨h2, h3⟩ := List.getElem?_eq_some_iff.1 h1
    rw [← h3, List.set_getElem_self]
  unfold Slab.give Slab.take
  simp only [ht]
  have hn : s.taken.count true = s.n := rfl
  cases s with
  | mk cl tk =>
    simp only at hs hn ht ⊢
    congr 1
    split
    · rename_i h0
      have h1 := ho.zero (show (Slab.mk cl tk).n = 0 from h0)
      exact h1.symm
    · rename_i h0
      have h1 := ho.busy (show (Slab.mk cl tk).n ≠ 0 from h0)
      simp only at h1
      omega
theorem modify_same {P : Pool} {i : Nat} {s : Slab} (hs : P[i]? = some s) {f : Slab → Slab} (hf : f s = s) : P.modify i f = P := by
  apply List.ext_getElem?
  intro j
  rw [List.getElem?_modify]
  by_cases e : i = j
  · subst e
    rw [hs]
    simp [hf]
  · simp [e]
/-- what Take finds: its place -/
theorem takeA_some {P : Pool} (hP : Ok P) {c : Int} (hc : 0 ≤ c ∧ c ≤ 3) (h : (takeA P c).2 = 0) : ∃ i k s, find P c = some (i, k) ∧ P[i]? = some s ∧ (s.cls = -1 ∨ s.cls = c) ∧ k < many c ∧ s.at k = false ∧ takeA P c = (lineAt i k c, 0) ∧ takeP P c = P.modify i fun s => s.take c k := by
  have h0 : ¬ span c = 0 := by have := many_span hc; omega
  cases hf : find P c with
  | none =>
    exfalso
    unfold takeA at h
    rw [if_neg h0, hf] at h
    simp at h
  | some x =>
    obtain ⟨i, k⟩ := x
    obtain ⟨s, hs, h1, h2, h3⟩ := find_some hP hc hf
    exact ⟨i, k, s, rfl, hs, h1, h2, h3, by unfold takeA; rw [if_neg h0, hf], by unfold takeP; rw [if_neg h0, hf]⟩
theorem takeA_no {P : Pool} {c : Int} (hc : 0 ≤ c ∧ c ≤ 3) (h : (takeA P c).2 ≠ 0) : find P c = none ∧ takeA P c = (0, 4) ∧ takeP P c = P := by
  have h0 : ¬ span c = 0 := by have := many_span hc; omega
  cases hf : find P c with
  | none => exact ⟨rfl, by unfold takeA; rw [if_neg h0, hf], by unfold takeP; rw [if_neg h0, hf]⟩
  | some x =>
    exfalso
    unfold takeA at h
    rw [if_neg h0, hf] at h
    simp at h
theorem back_law {P : Pool} (hP : Ok P) (hl : P.length ≤ 32) {c : Int} (hc : 0 ≤ c ∧ c ≤ 3) (h : (takeA P c).2 = 0) :
    giveA (takeP P c) (takeA P c).1 = 0 ∧ giveP (takeP P c) (takeA P c).1 = P ∧ giveA P (takeA P c).1 = 1 := by
  obtain ⟨i, k, s, hf, hs, h1, h2, h3, e1, e2⟩ := takeA_some hP hc h
  have hm := many_span hc
  have ho := hP s (List.mem_of_getElem? hs)
  have hi : i < P.length := (List.getElem?_eq_some_iff.1 hs).1
  have hs2 : (takeP P c)[i]? = some (s.take c k) := by
    rw [e2, List.getElem?_modify, hs]
    simp
  have hat : (s.take c k).at k = true := by rw [take_at ho.len (by omega)]; simp
  have hb := blockAt_of (takeP_ok hP (c := c)) (by rw [takeP_length]; exact hl) hs2 hat
  rw [e1]
  have hb2 : blockAt (takeP P c) (lineAt i k c) = some (i, k) := hb
  refine ⟨?_, ?_, ?_⟩
  · unfold giveA
    rw [hb2]
  · unfold giveP
    rw [hb2, e2]
    simp only
    rw [List.modify_modify_eq]
    exact modify_same hs (take_give ho hc (by omega) h3 h1)
  · have hno : blockAt P (lineAt i k c) = none := by
      cases hbb : blockAt P (lineAt i k c) with
      | none => rfl
      | some y =>
        exfalso
        obtain ⟨i', k'⟩ := y
        obtain ⟨t, ht, a1, a2, a3, a4, a5, a6⟩ := blockAt_some hl hbb
        rw [slabOf_lineAt (by omega) hc h2] at a6
        have : i' = i := by omega
        subst this
        rw [hs] at ht
        cases ht
        rcases h1 with h1 | h1
        · omega
        · rw [h1] at a2
          have := lineAt_inj hc a2
          subst this
          rw [a1] at h3
          cases h3
    unfold giveA
    rw [hno]
/-! ### what is free -/
theorem mem_freeIn {c : Int} {i : Nat} {s : Slab} {x : Int} : x ∈ freeIn c i s ↔ s.cls = c ∧ ∃ k, k < many c ∧ s.at k = false ∧ x = lineAt i k c := by
  unfold freeIn
  split
  · rename_i h
    simp only [List.mem_map, List.mem_filter, List.mem_range]
    constructor
    · rintro ⟨k, ⟨h1, h2⟩, rfl⟩
      exact ⟨h, k, h1, by simpa using h2, rfl⟩
    · rintro ⟨_, k, h1, h2, rfl⟩
      exact ⟨k, ⟨h1, by simpa using h2⟩, rfl⟩
  · rename_i h
    constructor
    · intro hx
      cases hx
    · rintro ⟨h1, _⟩
      exact absurd h1 h
theorem mem_freeOf {P : Pool} {c : Int} {x : Int} : x ∈ freeOf P c ↔ ∃ i s k, P[i]? = some s ∧ s.cls = c ∧ k < many c ∧ s.at k = false ∧ x = lineAt i k c := by
  unfold freeOf freeTo
  rw [List.mem_flatMap]
  constructor
  · rintro ⟨i, hi, hx⟩
    cases hs : P[i]? with
    | none => rw [hs] at hx; cases hx
    | some s =>
      rw [hs] at hx
      obtain ⟨h0, k, h1, h2, h3⟩ := mem_freeIn.1 hx
      exact ⟨i, s, k, hs, h0, h1, h2, h3⟩
  · rintro ⟨i, s, k, hs, h0, h1, h2, h3⟩
    refine ⟨i, List.mem_range.2 (List.getElem?_eq_some_iff.1 hs).1, ?_⟩
    rw [hs]
    exact mem_freeIn.2 ⟨h0, k, h1, h2, h3⟩
theorem free_rise (P : Pool) {c : Int} (hc : 0 ≤ c ∧ c ≤ 3) : (freeOf P c).Pairwise (fun a b => a < b) := by
  have hm := many_span hc
  unfold freeOf freeTo
  rw [List.pairwise_flatMap]
  refine ⟨fun i _ => ?_, ?_⟩
  · cases P[i]? with
    | none => exact List.Pairwise.nil
    | some s =>
      simp only
      unfold freeIn
      split
      · rw [List.pairwise_map]
        have h : (List.range (many c)).Pairwise (fun a b => a < b) := List.pairwise_lt_range
        refine (h.filter _).imp fun {a b} hab => ?_
        have := lineAt_step (i := i) (c := c) hab
        omega
      · exact List.Pairwise.nil
  · refine (List.pairwise_lt_range (n := P.length)).imp fun {i j} hij x hx y hy => ?_
    cases hs : P[i]? with
    | none => rw [hs] at hx; cases hx
    | some s =>
      cases ht : P[j]? with
      | none => rw [ht] at hy; cases hy
      | some t =>
        rw [hs] at hx
        rw [ht] at hy
        obtain ⟨_, k, h1, _, rfl⟩ := mem_freeIn.1 hx
        obtain ⟨_, m, h2, _, rfl⟩ := mem_freeIn.1 hy
        have e1 := lineAt_bd (i := i) hc h1
        have e2 := lineAt_bd (i := j) hc h2
        omega
theorem findIn_none {P : Pool} {c : Int} (h : findIn P c = none) : freeOf P c = [] := by
  refine List.eq_nil_iff_forall_not_mem.2 fun x hx => ?_
  obtain ⟨i, s, k, hs, h0, h1, h2, _⟩ := mem_freeOf.1 hx
  unfold findIn at h
  rw [List.findSome?_eq_none_iff] at h
  have := h i (List.mem_range.2 (List.getElem?_eq_some_iff.1 hs).1)
  rw [hs] at this
  simp only [Option.bind_some, room?, if_pos h0] at this
  rw [Option.map_eq_none_iff] at this
  have h3 := free_none this k (by rw [h0]; exact h1)
  rw [h2] at h3
  cases h3
theorem findSome_inv {α : Type} {f : Nat → Option α} {n : Nat} {x : α} (h : (List.range n).findSome? f = some x) : ∃ i, i < n ∧ f i = some x ∧ ∀ j, j < i → f j = none := by
  induction n with
  | zero => simp at h
  | succ n ih =>
    rw [List.range_succ, List.findSome?_append] at h
    cases hq : (List.range n).findSome? f with
    | some y =>
      rw [hq, Option.some_or] at h
      cases h
      obtain ⟨i, h1, h2, h3⟩ := ih hq
      exact ⟨i, by omega, h2, h3⟩
    | none =>
      rw [hq, Option.none_or] at h
      refine ⟨n, by omega, by simpa using h, fun j hj => ?_⟩
      rw [List.findSome?_eq_none_iff] at hq
      exact hq j (List.mem_range.2 hj)
theorem findIn_first {P : Pool} {c : Int} {i k : Nat} (h : findIn P c = some (i, k)) : lineAt i k c ∈ freeOf P c ∧ 0 ≤ c ∧ c ≤ 3 ∧ ∀ x ∈ freeOf P c, lineAt i k c ≤ x := by
  obtain ⟨i', _, h1, h2⟩ := findSome_inv h
  rw [Option.map_eq_some_iff] at h1
  obtain ⟨k', hb, he⟩ := h1
  cases he
  rw [Option.bind_eq_some_iff] at hb
  obtain ⟨s, hs, hr⟩ := hb
  unfold room? at hr
  split at hr
  · rename_i hcc
    obtain ⟨f1, f2, f3⟩ := free_some hr
    rw [hcc] at f1
    have hc := many_cls f1
    have hm := many_span hc
    refine ⟨mem_freeOf.2 ⟨i, s, k, hs, hcc, f1, f2, rfl⟩, hc.1, hc.2, fun x hx => ?_⟩
    obtain ⟨j, t, m, ht, t0, t1, t2, rfl⟩ := mem_freeOf.1 hx
    have e1 := lineAt_bd (i := i) hc f1
    have e2 := lineAt_bd (i := j) hc t1
    rcases Nat.lt_trichotomy j i with hlt | rfl | hgt
    · exfalso
      have := h2 j hlt
      rw [ht] at this
      simp only [Option.bind_some, room?, if_pos t0] at this
      rw [Option.map_eq_none_iff] at this
      have h3 := free_none this m (by rw [t0]; exact t1)
      rw [t2] at h3
      cases h3
    · rw [hs] at ht
      cases ht
      by_cases hmk : m < k
      · have := f3 m hmk
        rw [t2] at this
        cases this
      · rcases Nat.eq_or_lt_of_le (Nat.not_lt.1 hmk) with e | e
        · rw [e]
          omega
        · have := lineAt_step (i := j) (c := c) e
          omega
    · omega
  · cases hr
theorem findWhole_first {P : Pool} {i : Nat} (h : findWhole P = some i) : (∃ s, P[i]? = some s ∧ s.cls = -1) ∧ ∀ j, j < i → ∀ t, P[j]? = some t → t.cls ≠ -1 := by
  unfold findWhole at h
  rw [List.find?_range_eq_some] at h
  obtain ⟨h1, _, h3⟩ := h
  rw [decide_eq_true_eq, Option.map_eq_some_iff] at h1
  refine ⟨h1, fun j hj t ht hcl => ?_⟩
  have := h3 j hj
  rw [ht] at this
  simp [hcl] at this
theorem findWhole_none {P : Pool} (h : findWhole P = none) : ∀ s ∈ P, s.cls ≠ -1 := by
  intro s hs hcl
  unfold findWhole at h
  rw [List.find?_eq_none] at h
  obtain ⟨j, hj, e⟩ := List.getElem_of_mem hs
  have := h j (List.mem_range.2 hj)
  rw [List.getElem?_eq_getElem hj, e] at this
  simp [hcl] at this
theorem find_none {P : Pool} {c : Int} : find P c = none ↔ findIn P c = none ∧ findWhole P = none := by
  unfold find
  cases findIn P c with
  | some x => simp
  | none => simp
theorem findIn_some {P : Pool} {c : Int} (h : freeOf P c ≠ []) : findIn P c ≠ none := fun e => h (findIn_none e)
/-- is there room? -/
theorem space_law {P : Pool} {c : Int} : (find P c).isSome = (decide (0 < (freeOf P c).length) || decide (-1 ∈ slabsOf P)) := by
  cases hf : findIn P c with
  | some x =>
    obtain ⟨i, k⟩ := x
    have h1 := (findIn_first hf).1
    have h2 : 0 < (freeOf P c).length := List.length_pos_of_mem h1
    have : find P c = some (i, k) := by unfold find; rw [hf]; rfl
    rw [this]
    simp [h2]
  | none =>
    rw [findIn_none hf]
    cases hw : findWhole P with
    | some i =>
      obtain ⟨⟨s, hs, hcl⟩, _⟩ := findWhole_first hw
      have : find P c = some (i, 0) := by unfold find; rw [hf, hw]; rfl
      rw [this]
      have hm : (-1 : Int) ∈ slabsOf P := List.mem_map.2 ⟨s, List.mem_of_getElem? hs, hcl⟩
      simp [hm]
    | none =>
      rw [find_none.2 ⟨hf, hw⟩]
      have hm : (-1 : Int) ∉ slabsOf P := fun h => by
        obtain ⟨s, hs, hcl⟩ := List.mem_map.1 h
        exact findWhole_none hw s hs hcl
      simp [hm]
/-- what Take finds was not taken -/
theorem taken_new {P : Pool} (hP : Ok P) (hl : P.length ≤ 32) {c : Int} (hc : 0 ≤ c ∧ c ≤ 3) (h : (takeA P c).2 = 0) : ∀ x ∈ takenOf P, x.1 ≠ (takeA P c).1 := by
  intro x hx e
  obtain ⟨i, s, k, hs, h1, h2, rfl⟩ := mem_takenOf.1 hx
  have hb := blockAt_of hP hl hs h2
  have h3 := (back_law hP hl hc h).2.2
  rw [← e] at h3
  unfold giveA at h3
  simp only at h3
  rw [hb] at h3
  cases h3
/-- what Take finds is the least one -/
theorem least_law {P : Pool} {c : Int} (hc : 0 ≤ c ∧ c ≤ 3) (h : (takeA P c).2 = 0) :
    (∀ x ∈ freeOf P c, (takeA P c).1 ≤ x) ∧ (0 < (freeOf P c).length → (freeOf P c)[0]? = some (takeA P c).1) ∧
    ((freeOf P c).length = 0 → ∃ k : Nat, (slabsOf P)[k]? = some (-1) ∧ (takeA P c).1 = 2 + 8 * (k : Int) ∧ ∀ j : Nat, j < k → (slabsOf P)[j]? ≠ some (-1)) := by
  have h0 : ¬ span c = 0 := by have := many_span hc; omega
  cases hf : findIn P c with
  | some x =>
    obtain ⟨i, k⟩ := x
    obtain ⟨h1, _, _, h2⟩ := findIn_first hf
    have hfi : find P c = some (i, k) := by unfold find; rw [hf]; rfl
    have e : takeA P c = (lineAt i k c, 0) := by unfold takeA; rw [if_neg h0, hfi]
    rw [e]
    refine ⟨h2, fun hl => ?_, fun hl => ?_⟩
    · cases hq : freeOf P c with
      | nil => rw [hq] at h1; cases h1
      | cons a l =>
        have hr := free_rise P hc
        rw [hq] at hr h1 h2
        have h3 := h2 a (List.mem_cons_self ..)
        rcases List.mem_cons.1 h1 with e | e
        · rw [e]
          rfl
        · have := (List.pairwise_cons.1 hr).1 _ e
          omega
    · have := List.length_pos_of_mem h1
      omega
  | none =>
    have hn := findIn_none hf
    rw [hn]
    refine ⟨fun x hx => (by cases hx), fun hl => (by simp at hl), fun _ => ?_⟩
    cases hw : findWhole P with
    | none =>
      exfalso
      have hfi := find_none.2 ⟨hf, hw⟩
      unfold takeA at h
      rw [if_neg h0, hfi] at h
      simp at h
    | some i =>
      obtain ⟨⟨s, hs, hcl⟩, h2⟩ := findWhole_first hw
      have hfi : find P c = some (i, 0) := by unfold find; rw [hf, hw]; rfl
      have e : takeA P c = (lineAt i 0 c, 0) := by unfold takeA; rw [if_neg h0, hfi]
      rw [e]
      refine ⟨i, ?_, ?_, fun j hj hjj => ?_⟩
      · unfold slabsOf
        rw [List.getElem?_map, hs]
        simp [hcl]
      · unfold lineAt
        simp
      · unfold slabsOf at hjj
        rw [List.getElem?_map, Option.map_eq_some_iff] at hjj
        obtain ⟨t, ht, htc⟩ := hjj
        exact h2 j hj t ht htc
end Go.Proofs.FuPool
