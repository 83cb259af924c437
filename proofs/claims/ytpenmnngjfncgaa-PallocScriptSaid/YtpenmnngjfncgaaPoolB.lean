/- Pools of blocks, what acts do: plain. No program in sight. -/
import Derived.Test.YtpenmnngjfncgaaPoolP
namespace Go.Proofs.FuPool
open Go.Proofs.FuClass
theorem find_some {P : Pool} (hP : Ok P) {c : Int} (hc : 0 ≤ c ∧ c ≤ 3) {i k : Nat} (h : find P c = some (i, k)) : ∃ s, P[i]? = some s ∧ (s.cls = -1 ∨ s.cls = c) ∧ k < many c ∧ s.at k = false := by
  have hm := many_span hc
  unfold find at h
  cases hf : findIn P c with
  | some x =>
    rw [hf] at h
    rw [Option.some_or] at h
    cases h
    obtain ⟨j, _, hj⟩ := List.exists_of_findSome?_eq_some hf
    rw [Option.map_eq_some_iff] at hj
    obtain ⟨k', hb, he⟩ := hj
    cases he
    rw [Option.bind_eq_some_iff] at hb
    obtain ⟨s, hs, hr⟩ := hb
    unfold room? at hr
    split at hr
    · rename_i hcc
      obtain ⟨h1, h2, _⟩ := free_some hr
      rw [hcc] at h1
      exact ⟨s, hs, .inr hcc, h1, h2⟩
    · cases hr
  | none =>
    rw [hf, Option.none_or, Option.map_eq_some_iff] at h
    obtain ⟨j, hj, he⟩ := h
    cases he
    unfold findWhole at hj
    have := List.find?_some hj
    rw [decide_eq_true_eq, Option.map_eq_some_iff] at this
    obtain ⟨s, hs, hcl⟩ := this
    have ho := hP s (List.mem_of_getElem? hs)
    have hn : s.n = 0 := by
      have := ho.busy
      omega
    exact ⟨s, hs, .inl hcl, by omega, n_zero hn 0⟩
theorem mem_modify {l : List Slab} {i : Nat} {f : Slab → Slab} {x : Slab} (h : x ∈ l.modify i f) : x ∈ l ∨ ∃ s, l[i]? = some s ∧ x = f s := by
  obtain ⟨j, hj, e⟩ := List.getElem_of_mem h
  rw [List.getElem_modify] at e
  split at e
  · rename_i hij
    subst hij
    rw [List.length_modify] at hj
    exact .inr ⟨_, List.getElem?_eq_getElem hj, e.symm⟩
  · rw [← e]
    exact .inl (List.getElem_mem _)
theorem takeP_ok {P : Pool} (hP : Ok P) {c : Int} : Ok (takeP P c) := by
  unfold takeP
  split
  · exact hP
  · rename_i h0
    have hc : 0 ≤ c ∧ c ≤ 3 := by have := span_cases c; omega
    split
    · exact hP
    · rename_i i k hf
      obtain ⟨s, hs, h1, h2, h3⟩ := find_some hP hc hf
      intro x hx
      rcases mem_modify hx with hx | ⟨s', hs', rfl⟩
      · exact hP x hx
      · rw [hs] at hs'
        cases hs'
        exact take_ok (hP s (List.mem_of_getElem? hs)) hc h2 h3 h1
theorem takeP_length (P : Pool) (c : Int) : (takeP P c).length = P.length := by
  unfold takeP
  split
  · rfl
  · split
    · rfl
    · simp
theorem blockAt_some {P : Pool} (hl : P.length ≤ 32) {line : Int} {i k : Nat} (h : blockAt P line = some (i, k)) : ∃ s, P[i]? = some s ∧ s.at k = true ∧ line = lineAt i k s.cls ∧ k < many s.cls ∧ 0 ≤ s.cls ∧ s.cls ≤ 3 ∧ slabOf line = i := by
  unfold blockAt at h
  split at h
  · cases h
  · rename_i h0
    split at h
    · cases h
    · rename_i s hs
      have hi : (slabOf line).toNat < P.length := (List.getElem?_eq_some_iff.1 hs).1
      have e1 : slabOf line = ((slabOf line).toNat : Int) := by omega
      split at h
      · cases h
      · rename_i h1
        split at h
        · rename_i h2
          cases h
          rw [e1] at h1
          obtain ⟨k, hk, hk2, hk3, hk4⟩ := idx_mem (by omega) (Int.not_lt.1 h1)
          rw [e1, hk2] at h2
          refine ⟨s, hs, ?_, ?_, ?_, hk4.1, hk4.2, e1⟩
          · rw [e1, hk2]; exact h2
          · rw [e1, hk2]
            exact hk3
          · rw [e1, hk2]
            exact hk
        · cases h
theorem blockAt_of {P : Pool} (hP : Ok P) (hl : P.length ≤ 32) {i k : Nat} {s : Slab} (hs : P[i]? = some s) (hk : s.at k = true) : blockAt P (lineAt i k s.cls) = some (i, k) := by
  have ho := hP s (List.mem_of_getElem? hs)
  have hc := ho.busy (by have := n_pos hk; omega)
  have hm := ho.fits k (at_some hk)
  have hi : i < P.length := (List.getElem?_eq_some_iff.1 hs).1
  have e := slabOf_lineAt (i := i) (by omega) hc hm
  have e2 := idx_starts (i := i) (by omega) hc hm
  unfold blockAt
  rw [e, if_neg (by omega), Int.toNat_natCast, hs]
  simp only [e2, Int.toNat_natCast]
  rw [if_neg (by omega), if_pos hk]
theorem giveP_ok {P : Pool} (hP : Ok P) (hl : P.length ≤ 32) (line : Int) : Ok (giveP P line) := by
  unfold giveP
  split
  · exact hP
  · rename_i i k h
    obtain ⟨s, hs, h1, _⟩ := blockAt_some hl h
    intro x hx
    rcases mem_modify hx with hx | ⟨s', hs', rfl⟩
    · exact hP x hx
    · rw [hs] at hs'
      cases hs'
      exact give_ok (hP s (List.mem_of_getElem? hs)) h1
theorem giveP_length (P : Pool) (line : Int) : (giveP P line).length = P.length := by
  unfold giveP
  split
  · rfl
  · simp
theorem home_some {line c : Int} (h : home line c = true) : ∃ i k : Nat, i < 32 ∧ slabOf line = i ∧ k < many c ∧ line = lineAt i k c ∧ 0 ≤ c ∧ c ≤ 3 ∧ idx (starts (slabOf line) c) line = k := by
  unfold home at h
  have h0 := h
  rw [decide_eq_true_eq] at h
  have hb := slabOf_bd line
  have hn : 0 ≤ slabOf line := by
    by_cases hn : 0 ≤ slabOf line
    · exact hn
    · exfalso
      have : starts (slabOf line) c = [] := by
        unfold starts
        rw [if_pos (.inr (by unfold slab; rw [if_pos (.inl (by omega))]; omega))]
      rw [this] at h
      cases h
  have e1 : slabOf line = ((slabOf line).toNat : Int) := by omega
  have h1 : 0 ≤ idx (starts (slabOf line) c) line := by
    have := idx_nonneg (starts (slabOf line) c) line
    rw [h0] at this
    simpa using this
  rw [e1] at h1
  obtain ⟨k, hk, hk2, hk3, hk4⟩ := idx_mem (by omega) h1
  exact ⟨(slabOf line).toNat, k, by omega, e1, hk, hk3, hk4.1, hk4.2, by rw [e1]; exact hk2⟩
theorem markP_some {P : Pool} {line c : Int} (h : markA P line c = 0) : ∃ (i k : Nat) (s : Slab), P[i]? = some s ∧ slabOf line = i ∧ (s.cls = -1 ∨ s.cls = c) ∧ s.at k = false ∧ k < many c ∧ 0 ≤ c ∧ c ≤ 3 ∧ line = lineAt i k c ∧ idx (starts (slabOf line) c) line = k ∧ markP P line c = P.modify i fun s => s.take c k := by
  have h0 := h
  unfold markA at h
  split at h
  · cases h
  · rename_i h1
    rw [not_or] at h1
    obtain ⟨i, k, hi, e1, hk, hl, c0, c3, e2⟩ := home_some (line := line) (c := c) (by simpa using h1.1)
    split at h
    · cases h
    · rename_i s hs
      split at h
      · cases h
      · rename_i h2
        rw [not_or] at h2
        refine ⟨i, k, s, by rw [e1] at hs; exact hs, e1, ?_, ?_, hk, c0, c3, hl, e2, ?_⟩
        · omega
        · rw [e2] at h2
          simpa using h2.2
        · unfold markP
          rw [if_pos h0, e1, ← e1, e2, e1]
          rfl
theorem markP_ok {P : Pool} (hP : Ok P) (line c : Int) : Ok (markP P line c) := by
  by_cases h : markA P line c = 0
  · obtain ⟨i, k, s, hs, _, h1, h2, h3, h4, h5, _, _, e⟩ := markP_some h
    rw [e]
    intro x hx
    rcases mem_modify hx with hx | ⟨s', hs', rfl⟩
    · exact hP x hx
    · rw [hs] at hs'
      cases hs'
      exact take_ok (hP s (List.mem_of_getElem? hs)) ⟨h4, h5⟩ h3 h2 h1
  · unfold markP
    rw [if_neg h]
    exact hP
theorem markP_length (P : Pool) (line c : Int) : (markP P line c).length = P.length := by
  unfold markP
  split
  · simp
  · rfl
end Go.Proofs.FuPool
