/- Slices of structs that came in: each field's cell, and its own reading. -/
import Derived.Test.YtecdalmnndalgaaFrame
import Derived.Test.YtecdalmnndalgaaInts
import Derived.Deep.Slices
import Derived.Deep.Fields
namespace Go.Proofs.Ytecdalmnndalgaa
open Go.ChangeShapes Go.WideShapes Go.ChangeAt Go.RowKit Go.Proofs.FuMem Go.Deep
section
variable {H : Type} {enc : TypeId × Value → H} {P : Program} {w : World} {base : Nat} {held : Bool}
theorem open_table {t e : TypeId} {fs : Array Field} {A : Option Addr} {n c : Nat} {d : DataW H} {p : List MemPlace} (ht : P.underlying t = some (.slice e)) (he : P.underlying e = some (.struct fs))
    (hone : oneCellFields P fs = true) (hC : P.cellsOf e = fs.size) (h0 : 0 < fs.size) (h : DataW.Trod enc P w base (fun _ => true) held t (.slice A n c) d p) :
    n ≤ c ∧ c ≤ maxLen ∧ (n = 0 ∨ ∃ b off, A = some ⟨b, off, none⟩ ∧ ∀ i, i < n → ∀ j f, fs[j]? = some f →
      ∃ v y m, w.cell? ⟨b, off + (i * fs.size + j), none⟩ = some v ∧ DataW.trod enc P w base (fun _ => true) held m f.type [v] = some y) := by
  obtain ⟨fuel, hf⟩ := h
  rcases open_slice ht hf with ⟨hcs, _⟩ | ⟨a, len, cap, m, k, D, Pl, hcs, _, hl, hm, hmm, _, hi⟩
  · simp [Value.cells] at hcs
    obtain ⟨rfl, rfl, rfl⟩ := hcs
    exact ⟨Nat.le_refl _, Nat.zero_le _, .inl rfl⟩
  · simp [Value.cells] at hcs
    obtain ⟨rfl, rfl, rfl⟩ := hcs
    refine ⟨hl, hm, ?_⟩
    by_cases hn : n = 0
    · exact .inl hn
    have each : ∀ i, i < n → ∀ j f, fs[j]? = some f → ∃ v y m, w.cell? (a.add (i * fs.size + j)) = some v ∧ DataW.trod enc P w base (fun _ => true) held m f.type [v] = some y := by
      intro i hin j f hj
      obtain ⟨cs, hc, ht'⟩ := hi i (by simp at hmm; omega)
      obtain ⟨ys, m', _, _, hlen, hyl, hg⟩ := DataW.trod_struct he ht'
      obtain ⟨_, _, hat⟩ := World.cells?_some hc
      obtain ⟨ho, hk⟩ := hone_of hone j f hj
      have hjl : j < fs.size := (Array.getElem?_eq_some_iff.1 hj).1
      have hjc : j < cs.length := by omega
      have h1 := hg j f hj
      rw [ho, hk] at h1
      have e1 : (cs.drop j).take 1 = [cs[j]] := by
        rw [List.drop_eq_getElem_cons hjc, List.take_succ_cons, List.take_zero]
      rw [e1, List.getElem?_eq_getElem (by omega)] at h1
      refine ⟨_, _, m', ?_, h1⟩
      rw [← add_add, ← hC, hat j (by omega), List.getElem?_eq_getElem hjc]
    obtain ⟨b, off, spot⟩ := a
    have hs : spot = none := by
      obtain ⟨v, _, _, hv, _⟩ := each 0 (by omega) 0 fs[0] (Array.getElem?_eq_getElem h0)
      simpa [Addr.add] using World.cell?_spot hv
    subst hs
    refine .inr ⟨b, off, rfl, fun i hin j f hj => ?_⟩
    have := each i hin j f hj
    simpa only [Addr.add_lit] using this
theorem field_int {t : TypeId} {v : Value} {y : DataW H × List MemPlace} {m : Nat} {sp : Nat → Bool} (ht : P.underlying t = some (.int .i64)) (h : DataW.trod enc P w base sp held m t [v] = some y) :
    ∃ x : Int, v = .int .i64 x ∧ -9223372036854775808 ≤ x ∧ x ≤ 9223372036854775807 := by
  obtain ⟨x, hv, _, hw⟩ := DataW.trod_int ht h
  simp at hv
  exact ⟨x, hv, bounds_i64 hw⟩
theorem field_slice {t e : TypeId} {k : IntKind} {v : Value} {y : DataW H × List MemPlace} {m : Nat} (ht : P.underlying t = some (.slice e)) (he : P.underlying e = some (.int k)) (hc : P.cellsOf e = 1) (h : DataW.trod enc P w base (fun _ => true) held m t [v] = some y) :
    ∃ A n c zs, v = .slice A n c ∧ IsRow k w A n c zs := by
  rcases open_ints ht he hc h with ⟨hcs, _⟩ | ⟨x, l, c, zs, hcs, _, hl, hm, hz, _, hcell, hwz⟩
  · simp at hcs
    subst hcs
    exact ⟨none, 0, 0, [], rfl, .inl ⟨rfl, rfl, rfl, rfl⟩⟩
  · simp at hcs
    subst hcs
    exact ⟨_, l, c, zs, rfl, .inr ⟨_, rfl, hl, hm, by simpa using hz, hcell, hwz⟩⟩
end
end Go.Proofs.Ytecdalmnndalgaa
