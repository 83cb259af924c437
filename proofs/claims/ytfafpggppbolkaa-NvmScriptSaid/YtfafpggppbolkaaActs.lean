/- Acts of law 3: how they lie in memory, and what a device does of them. -/
import Derived.Test.YtfafpggppbolkaaTable
import Derived.Test.YtfafpggppbolkaaLaw3
set_option maxRecDepth 100000
namespace Go.Proofs.FuNvm
open Go.RowKit Go.Proofs.FuMem
structure Deed where
  kind : Int
  line : Int
  pos : Int
  b : List UInt8
  keep : List Int
def lineOf (D : Dev) (i : Int) : Line := D.lines.getD i.toNat noLine
end Go.Proofs.FuNvm
namespace Go.Proofs.Ytfafpggppbolkaa
open Go.ChangeShapes Go.WideShapes Go.ChangeAt Go.RowKit Go.Proofs.FuMem Go.Proofs.FuNvm Go.Proofs.FuCode Go.Deep
/-- an act's two slices -/
structure Holds where
  bA : Option Addr
  bn : Nat
  bc : Nat
  kA : Option Addr
  kn : Nat
  kc : Nat
def deedV (x : Deed) (s : Holds) : List Value := [.int .i64 x.kind, .int .i64 x.line, .int .i64 x.pos, .slice s.bA s.bn s.bc, .slice s.kA s.kn s.kc]
structure DeedOk (w : World) (x : Deed) (s : Holds) : Prop where
  k1 : -9223372036854775808 ≤ x.kind ∧ x.kind ≤ 9223372036854775807
  k2 : -9223372036854775808 ≤ x.line ∧ x.line ≤ 9223372036854775807
  k3 : -9223372036854775808 ≤ x.pos ∧ x.pos ≤ 9223372036854775807
  bs : Bs w s.bA s.bn x.b
  is : Is w s.kA s.kn x.keep
  m1 : s.bn ≤ maxLen
  m2 : s.kn ≤ maxLen
theorem DeedOk.only0 {w w' : World} {x : Deed} {s : Holds} (h : DeedOk w x s) (o : Only [] w w') : DeedOk w' x s := ⟨h.k1, h.k2, h.k3, h.bs.only0 o, h.is.only0 o, h.m1, h.m2⟩
theorem sl_blocks {w : World} {A : Option Addr} {n : Nat} {xs : List Value} (h : Sl w A n xs) (hn : 0 < n) : ∀ b off s, A = some ⟨b, off, s⟩ → b < w.heap.size := by
  intro b off s e
  obtain ⟨b', off', e', hc⟩ := Sl.at_ h hn
  rw [e'] at e
  cases e
  have hl : xs.length = n := h.1
  have := hc 0 (by omega)
  exact lt_of_cell this
/-- acts in memory -/
def Deeds (w : World) (A : Option Addr) (n : Nat) (xs : List (Deed × Holds)) : Prop :=
  xs.length = n ∧ n ≤ maxLen ∧ (∀ x ∈ xs, DeedOk w x.1 x.2) ∧ (n = 0 ∨ ∃ b off, A = some ⟨b, off, none⟩ ∧ ∀ k x, xs[k]? = some x → w.rangeAt b (off + k * 5) (deedV x.1 x.2))
theorem Deeds.only0 {w w' : World} {A : Option Addr} {n : Nat} {xs : List (Deed × Holds)} (h : Deeds w A n xs) (o : Only [] w w') : Deeds w' A n xs := by
  obtain ⟨h1, h2, h3, h4⟩ := h
  refine ⟨h1, h2, fun x hx => (h3 x hx).only0 o, ?_⟩
  rcases h4 with h4 | ⟨b, off, e, h4⟩
  · exact .inl h4
  · refine .inr ⟨b, off, e, fun k x hk j v hv => ?_⟩
    have hc := h4 k x hk j v hv
    rw [cell_only o (lt_of_cell hc) (by simp)]
    exact hc
theorem open_deeds {H : Type} {enc : TypeId × Value → H} {w : World} {held : Bool} {A : Option Addr} {n c : Nat} {d : DataW H} {p : List MemPlace}
    (h : DataW.Trod enc Try.prog w 0 (fun _ => true) held 22 (.slice A n c) d p) : ∃ xs, Deeds w A n xs ∧ n ≤ c := by
  obtain ⟨h1, h2, h3⟩ := open_table Try.underlying22 Try.underlying36 (by kernel_rfl) (by kernel_rfl) (by decide) h
  rcases h3 with rfl | ⟨b, off, rfl, hf⟩
  · exact ⟨[], ⟨rfl, Nat.zero_le _, by simp, .inl rfl⟩, h1⟩
  have each : ∀ i, i < n → ∃ x s, DeedOk w x s ∧ w.rangeAt b (off + i * 5) (deedV x s) := by
    intro i hi
    obtain ⟨v0, y0, m0, c0, t0⟩ := hf i hi 0 _ rfl
    obtain ⟨v1, y1, m1, c1, t1⟩ := hf i hi 1 _ rfl
    obtain ⟨v2, y2, m2, c2, t2⟩ := hf i hi 2 _ rfl
    obtain ⟨v3, y3, m3, c3, t3⟩ := hf i hi 3 _ rfl
    obtain ⟨v4, y4, m4, c4, t4⟩ := hf i hi 4 _ rfl
    obtain ⟨x0, rfl, b0⟩ := field_int Try.underlying3 t0
    obtain ⟨x1, rfl, b1⟩ := field_int Try.underlying3 t1
    obtain ⟨x2, rfl, b2⟩ := field_int Try.underlying3 t2
    obtain ⟨bA, bn, bc, z3, rfl, r3⟩ := field_slice Try.underlying30 Try.underlying5 (by kernel_rfl) t3
    obtain ⟨kA, kn, kc, z4, rfl, r4⟩ := field_slice Try.underlying34 Try.underlying3 (by kernel_rfl) t4
    obtain ⟨l3, s3, e3⟩ := IsRow.bytes r3
    obtain ⟨l4, ⟨s4, _⟩, e4⟩ := IsRow.ints r4
    refine ⟨⟨x0, x1, x2, l3, l4⟩, ⟨bA, bn, bc, kA, kn, kc⟩, ⟨b0, b1, b2, s3, s4, e3, e4⟩, fun j v hv => ?_⟩
    rw [Nat.add_assoc]
    match j, hv with
    | 0, hv => simp [deedV] at hv; subst hv; exact c0
    | 1, hv => simp [deedV] at hv; subst hv; exact c1
    | 2, hv => simp [deedV] at hv; subst hv; exact c2
    | 3, hv => simp [deedV] at hv; subst hv; exact c3
    | 4, hv => simp [deedV] at hv; subst hv; exact c4
    | j + 5, hv => simp [deedV] at hv
  have all : ∃ xs : List (Deed × Holds), xs.length = n ∧ ∀ k x, xs[k]? = some x → DeedOk w x.1 x.2 ∧ w.rangeAt b (off + k * 5) (deedV x.1 x.2) := by
    clear hf h h1 h2
    induction n with
    | zero => exact ⟨[], rfl, by simp⟩
    | succ n ih =>
      obtain ⟨xs, hl, hx⟩ := ih (fun i hi => each i (by omega))
      obtain ⟨x, s, h1, h2⟩ := each n (by omega)
      refine ⟨xs ++ [(x, s)], by simp [hl], fun k y hk => ?_⟩
      by_cases hkn : k < n
      · rw [List.getElem?_append_left (by omega)] at hk
        exact hx k y hk
      · have hk2 : k < (xs ++ [(x, s)]).length := (List.getElem?_eq_some_iff.1 hk).1
        obtain rfl : k = n := by simp [hl] at hk2; omega
        rw [List.getElem?_append_right (by omega)] at hk
        simp [hl] at hk
        subst hk
        exact ⟨h1, h2⟩
  obtain ⟨xs, hl, hx⟩ := all
  refine ⟨xs, ⟨hl, by omega, fun x hm => ?_, .inr ⟨b, off, rfl, fun k x hk => (hx k x hk).2⟩⟩, h1⟩
  obtain ⟨k, hk⟩ := List.getElem?_of_mem hm
  exact (hx k x hk).1
end Go.Proofs.Ytfafpggppbolkaa
