/- What the frames of the statements share: how slices of numbers that came in are read. -/
import Derived.Test.YtecdalmnndalgaaChecked
import Derived.Test.YtecdalmnndalgaaMem
import Derived.ProofKit
import Derived.OpenShut
import Derived.ShutString
import Derived.ChangeOld
namespace Go.Proofs.Ytecdalmnndalgaa
open Go.ChangeShapes Go.WideShapes Go.ChangeAt Go.RowKit Go.Proofs.FuMem
theorem FrameOwn.own : ownKnob Try.prog.godebug = none := by kernel_rfl
theorem FrameOwn.laidOut : laidOutB Try.prog = true := by kernel_rfl
/-- a slice of integers that came in: nil, or a row of cells, of which the first are its elements -/
def IsRow (k : IntKind) (w : World) (a : Option Addr) (len cap : Nat) (zs : List Int) : Prop :=
  (a = none ∧ len = 0 ∧ cap = 0 ∧ zs = []) ∨
  ∃ x, a = some x ∧ len ≤ cap ∧ cap ≤ maxLen ∧ zs.length = cap ∧ (∀ i, i < zs.length → w.cell? (x.add i) = some (.int k (zs.getD i 0))) ∧ ∀ n ∈ zs, (Lit.int k n).wf = true
section
variable {H : Type} {enc : TypeId × Value → H} {P : Program} {W : World} {base : Nat} {spare : Nat → Bool} {held : Bool}
theorem IsRow.of_trod {t e : TypeId} {k : IntKind} {a0 : Option Addr} {len0 cap0 : Nat} {d : DataW H} {p : List MemPlace} (ht : P.underlying t = some (.slice e)) (he : P.underlying e = some (.int k)) (hc : P.cellsOf e = 1)
    (h : DataW.Trod enc P W base (fun _ => true) held t (.slice a0 len0 cap0) d p) : ∃ zs, IsRow k W a0 len0 cap0 zs := by
  obtain ⟨fuel, hf⟩ := h
  rcases open_ints ht he hc hf with ⟨hcs, _⟩ | ⟨x, l, c, zs, hcs, _, hl, hm, hz, _, hcell, hwz⟩
  · simp [Value.cells] at hcs
    obtain ⟨rfl, rfl, rfl⟩ := hcs
    exact ⟨[], .inl ⟨rfl, rfl, rfl, rfl⟩⟩
  · simp [Value.cells] at hcs
    obtain ⟨rfl, rfl, rfl⟩ := hcs
    exact ⟨zs, .inr ⟨_, rfl, hl, hm, by simpa using hz, hcell, hwz⟩⟩
end
theorem IsRow.le_cap {k : IntKind} {w : World} {a : Option Addr} {len cap : Nat} {zs : List Int} (h : IsRow k w a len cap zs) : len ≤ cap := by
  rcases h with ⟨_, rfl, rfl, _⟩ | ⟨_, _, h, _⟩
  · exact Nat.le_refl _
  · exact h
theorem IsRow.sl {k : IntKind} {w : World} {a : Option Addr} {len cap : Nat} {zs : List Int} (h : IsRow k w a len cap zs) :
    ∃ ys : List Int, Sl w a len (ys.map (.int k)) ∧ (∀ n ∈ ys, (Lit.int k n).wf = true) ∧ len ≤ maxLen := by
  rcases h with ⟨rfl, rfl, rfl, rfl⟩ | ⟨x, rfl, hl, hm, hz, hcell, hwz⟩
  · exact ⟨[], Sl.nil _ _, by simp, Nat.zero_le _⟩
  · refine ⟨zs.take len, ⟨by simp; omega, ?_⟩, fun n hn => hwz n (List.mem_of_mem_take hn), by omega⟩
    by_cases h0 : len = 0
    · exact .inl h0
    · obtain ⟨b, off, spot⟩ := x
      have hc := hcell 0 (by omega)
      have hspot : spot = none := by simpa [Addr.add] using World.cell?_spot hc
      subst hspot
      refine .inr ⟨b, off, rfl, fun i hi => ?_⟩
      have := hcell i (by omega)
      rw [Addr.add_lit] at this
      rw [this, List.getElem?_map, List.getElem?_take_of_lt hi, List.getElem?_eq_getElem (by omega)]
      simp [List.getD, List.getElem?_eq_getElem (show i < zs.length by omega)]
theorem IsRow.bytes {w : World} {a : Option Addr} {len cap : Nat} {zs : List Int} (h : IsRow .u8 w a len cap zs) : ∃ l : List UInt8, Bs w a len l ∧ len ≤ maxLen := by
  obtain ⟨ys, hs, hw, hm⟩ := h.sl
  refine ⟨ys.map fun n => UInt8.ofNat n.toNat, ?_, hm⟩
  unfold Bs
  have : (ys.map fun n => UInt8.ofNat n.toNat).map B = ys.map (.int .u8) := by
    rw [List.map_map]
    apply List.map_congr_left
    intro n hn
    have := bounds_u8 (hw n hn)
    simp [B]
    omega
  rw [this]
  exact hs
theorem IsRow.ints {w : World} {a : Option Addr} {len cap : Nat} {zs : List Int} (h : IsRow .i64 w a len cap zs) :
    ∃ ys : List Int, (Sl w a len (ys.map (.int .i64)) ∧ ∀ n ∈ ys, -9223372036854775808 ≤ n ∧ n ≤ 9223372036854775807) ∧ len ≤ maxLen := by
  obtain ⟨ys, hs, hw, hm⟩ := h.sl
  exact ⟨ys, ⟨hs, fun n hn => bounds_i64 (hw n hn)⟩, hm⟩
end Go.Proofs.Ytecdalmnndalgaa
