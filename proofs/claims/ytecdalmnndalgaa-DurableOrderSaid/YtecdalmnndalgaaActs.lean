/- Acts of law 3: how they lie in memory, and what a device does of them. -/
import Derived.Test.YtecdalmnndalgaaTable
import Derived.Test.YtecdalmnndalgaaLaw3
set_option maxRecDepth 100000
namespace Go.Proofs.FuNvm
open Go.RowKit Go.Proofs.FuMem
structure Deed where
  kind : Int
  line : Int
  pos : Int
  b : List UInt8
  keep : List Int
def lineOf (D : Dev) (i : Int) : Line := D.lines.getD i.toNat noLine
end Go.Proofs.FuNvm
namespace Go.Proofs.Ytecdalmnndalgaa
open Go.ChangeShapes Go.WideShapes Go.ChangeAt Go.RowKit Go.Proofs.FuMem Go.Proofs.FuNvm Go.Proofs.FuCode Go.Deep
/-- an act's two slices -/
structure Holds where
  bA : Option Addr
  bn : Nat
  bc : Nat
  kA : Option Addr
  kn : Nat
  kc : Nat
def deedV (x : Deed) (s : Holds) : List Value := [.int .i64 x.kind, .int .i64 x.line, .int .i64 x.pos, .slice s.bA s.bn s.bc, .slice s.kA s.kn s.kc]
structure DeedOk (w : World) (x : Deed) (s : Holds) : Prop where
  k1 : -9223372036854775808 ≤ x.kind ∧ x.kind ≤ 9223372036854775807
  k2 : -9223372036854775808 ≤ x.line ∧ x.line ≤ 9223372036854775807
  k3 : -9223372036854775808 ≤ x.pos ∧ x.pos ≤ 9223372036854775807
  bs : Bs w s.bA s.bn x.b
  is : Is w s.kA s.kn x.keep
  m1 : s.bn ≤ maxLen
  m2 : s.kn ≤ maxLen
theorem DeedOk.only0 {w w' : World} {x : Deed} {s : Holds} (h : DeedOk w x s) (o : Only [] w w') : DeedOk w' x s := ⟨h.k1, h.k2, h.k3, h.bs.only0 o, h.is.only0 o, h.m1, h.m2⟩
theorem sl_blocks {w : World} {A : Option Addr} {n : Nat} {xs : List Value} (h : Sl w A n xs) (hn : 0 < n) : ∀ b off s, A = some ⟨b, off, s⟩ → b < w.heap.size := by
  intro b off s e
  obtain ⟨b', off', e', hc⟩ := Sl.at_ h hn
  rw [e'] at e
  cases e
  have hl : xs.length = n := h.1
  have := hc 0 (by omega)
  exact lt_of_cell this
/-- acts in memory -/
def Deeds (w : World) (A : Option Addr) (n : Nat) (xs : List (Deed × Holds)) : Prop :=
  xs.length = n ∧ n ≤ maxLen ∧ (∀ x ∈ xs, DeedOk w x.1 x.2) ∧ (n = 0 ∨ ∃ b off, A = some ⟨b, off, none⟩ ∧ ∀ k x, xs[k]? = some x → w.rangeAt b (off + k * 5) (deedV x.1 x.2))
theorem Deeds.only0 {w w' : World} {A : Option Addr} {n : Nat} {xs : List (Deed × Holds)} (h : Deeds w A n xs) (o : Only [] w w') : Deeds w' A n xs := by
  obtain ⟨h1, h2, h3, h4⟩ := h
  refine ⟨h1, h2, fun x hx => (h3 x hx).only0 o, ?_⟩
  rcases h4 with h4 | ⟨b, off, e, h4⟩
  · exact .inl h4
  · refine .inr ⟨b, off, e, fun k x hk j v hv => ?_⟩
    have hc := h4 k x hk j v hv
    rw [cell_only o (lt_of_cell hc) (by simp)]
    exact hc
end Go.Proofs.Ytecdalmnndalgaa
