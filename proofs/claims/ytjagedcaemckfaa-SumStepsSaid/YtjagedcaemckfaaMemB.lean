/- Words for memory, second part: append in plain words. -/
import Derived.Test.YtjagedcaemckfaaMem
namespace Go.Proofs.FuMem
open Go.RowKit
theorem Calls.flip {P : Program} {f : FuncId} {args : Array Value} {w : World} {v : Value} (h : Calls P f args w fun e w' => e = .returned v ∧ w = w') : Calls P f args w fun e w'' => e = .returned v ∧ w'' = w :=
  h.mono fun _ _ ⟨he, hw⟩ => ⟨he, hw.symm⟩
section
variable {P : Program} (w : World)
/-- append to a slice of the call's own (nil, too), in plain words: w0 is the world in which the call began -/
theorem append_own {w0 : World} {T : List Nat} (on : Only T w0 w) (t ty e : TypeId) (i : TypeInfo) (z : Value) (bytes : Nat) (ht : P.underlying t = some (.slice e)) (hi : P.info? e = some i) (hz : i.zero = some z)
    (hsize : i.size = 1) (hby : i.bytes = bytes) (hzs : z.cells.size = 1)
    (v : Value) (n : Nat) (xs : List Value) (hown : w.ownsRow w0.heap.size e 1 v n xs)
    (A : Option Addr) (m c : Nat) (news : List Value) (hr : Sl w A m news) (h1 : ∀ u ∈ news, u.oneCell' = true)
    (h63 : n + m ≤ maxLen) (hbytes : (n + m) * bytes ≤ 140737488355328) :
    ∃ A' c' w', (Builtin.append_ #[t, t] ty #[v, .slice A m c]).run P w = .ok (.slice A' (n + m) c') w' ∧ w'.ownsRow w0.heap.size e 1 (.slice A' (n + m) c') (n + m) (xs ++ news) ∧
      Sl w' A' (n + m) (xs ++ news) ∧ Only T w0 w' := by
  obtain ⟨v', w', hrun, h2, h3, _⟩ := run_append_sl (P := P) w w0.heap.size t ty e i z bytes ht hi hz hsize hby hzs v n xs hown A m c news hr h1 h63 hbytes on.size
  obtain ⟨A', c', rfl, _, _⟩ := own_slice h2
  refine ⟨A', c', w', hrun, h2, Sl.of_own h2, ?_⟩
  exact ⟨h3.os.trans on.os, h3.tape.trans on.tape, h3.output.trans on.output, Nat.le_trans on.size h3.size, fun k hk hn =>
    (h3.block k (Nat.lt_of_lt_of_le hk on.size) (fun e => by have := hown.lt k e.symm; omega)).trans (on.block k hk hn)⟩
theorem own_nil (base : Nat) (e : TypeId) (size : Nat) : w.ownsRow base e size (.slice none 0 0) 0 [] := ⟨by simp, .inl ⟨rfl, rfl⟩⟩
/-- append([]T(nil), l...) -/
theorem append_fresh (t ty e : TypeId) (i : TypeInfo) (z : Value) (bytes : Nat) (ht : P.underlying t = some (.slice e)) (hi : P.info? e = some i) (hz : i.zero = some z)
    (hsize : i.size = 1) (hby : i.bytes = bytes) (hzs : z.cells.size = 1)
    (A : Option Addr) (m c : Nat) (news : List Value) (hr : Sl w A m news) (h1 : ∀ u ∈ news, u.oneCell' = true)
    (h63 : m ≤ maxLen) (hbytes : m * bytes ≤ 140737488355328) :
    ∃ A' c' w', (Builtin.append_ #[t, t] ty #[.slice none 0 0, .slice A m c]).run P w = .ok (.slice A' m c') w' ∧ w'.ownsRow w.heap.size e 1 (.slice A' m c') m news ∧
      Sl w' A' m news ∧ Only [] w w' := by
  have := append_own (P := P) w (Only.refl [] w) t ty e i z bytes ht hi hz hsize hby hzs (.slice none 0 0) 0 [] (own_nil w _ _ _) A m c news hr h1 (by omega) (by simpa using hbytes)
  simpa using this
/-- a slice of the call's own, with an element: its block -/
theorem own_blk {w : World} {base : Nat} {e : TypeId} {A : Option Addr} {n c : Nat} {xs : List Value} (h : w.ownsRow base e 1 (.slice A n c) n xs) (hn : 0 < n) :
    ∃ g cur, A = some ⟨g, 0, none⟩ ∧ base ≤ g ∧ Blk w g e cur ∧ n ≤ cur.size ∧ cur.toList.take n = xs := by
  rcases h.2 with ⟨e1, e2⟩ | ⟨g, cap, cur, hv, hbg, hg, hnc, hcm, hcs, htake⟩
  · subst e2
    have := h.1
    simp at this
    omega
  · cases hv
    exact ⟨g, cur, rfl, hbg, hg, by omega, by simpa using htake⟩
theorem Sl.of_blk_set {w : World} {g : Nat} {t : TypeId} {cs : Array Value} {xs : List Value} {n : Nat} (h : Blk w g t cs) (hn : n ≤ cs.size) (hx : cs.toList.take n = xs) (k : Nat) (u : Value) :
    Sl (w.setCell ⟨g, k, none⟩ u) (some ⟨g, 0, none⟩) n (xs.set k u) := by
  refine Sl.of_blk (h.set k u) 0 ?_ (by simp; omega)
  subst hx
  simp [List.take_set]
theorem Blk.drew {w : World} {g : Nat} {t : TypeId} {cs : Array Value} (h : Blk w g t cs) : Blk w.drew g t cs := h
end
end Go.Proofs.FuMem
