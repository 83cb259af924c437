/- Words for memory, second part: append in plain words. -/
import Derived.Test.YtecdalmnndalgaaMem
import Derived.Deep.Onto
namespace Go.Proofs.FuMem
open Go.RowKit
theorem Calls.flip {P : Program} {f : FuncId} {args : Array Value} {w : World} {v : Value} (h : Calls P f args w fun e w' => e = .returned v ∧ w = w') : Calls P f args w fun e w'' => e = .returned v ∧ w'' = w :=
  h.mono fun _ _ ⟨he, hw⟩ => ⟨he, hw.symm⟩
section
variable {P : Program} (w : World)
/-- append to a slice of the call's own (nil, too), in plain words: w0 is the world in which the call began -/
theorem append_own {w0 : World} {T : List Nat} (on : Only T w0 w) (t ty e : TypeId) (i : TypeInfo) (z : Value) (bytes : Nat) (ht : P.underlying t = some (.slice e)) (hi : P.info? e = some i) (hz : i.zero = some z)
    (hsize : i.size = 1) (hby : i.bytes = bytes) (hzs : z.cells.size = 1)
    (v : Value) (n : Nat) (xs : List Value) (hown : w.ownsRow w0.heap.size e 1 v n xs)
    (A : Option Addr) (m c : Nat) (news : List Value) (hr : Sl w A m news) (h1 : ∀ u ∈ news, u.oneCell' = true)
    (h63 : n + m ≤ maxLen) (hbytes : (n + m) * bytes ≤ 140737488355328) :
    ∃ A' c' w', (Builtin.append_ #[t, t] ty #[v, .slice A m c]).run P w = .ok (.slice A' (n + m) c') w' ∧ w'.ownsRow w0.heap.size e 1 (.slice A' (n + m) c') (n + m) (xs ++ news) ∧
      Sl w' A' (n + m) (xs ++ news) ∧ Only T w0 w' := by
  obtain ⟨v', w', hrun, h2, h3, _⟩ := run_append_sl (P := P) w w0.heap.size t ty e i z bytes ht hi hz hsize hby hzs v n xs hown A m c news hr h1 h63 hbytes on.size
  obtain ⟨A', c', rfl, _, _⟩ := own_slice h2
  refine ⟨A', c', w', hrun, h2, Sl.of_own h2, ?_⟩
  exact ⟨h3.os.trans on.os, h3.tape.trans on.tape, h3.output.trans on.output, Nat.le_trans on.size h3.size, fun k hk hn =>
    (h3.block k (Nat.lt_of_lt_of_le hk on.size) (fun e => by have := hown.lt k e.symm; omega)).trans (on.block k hk hn)⟩
theorem own_nil (base : Nat) (e : TypeId) (size : Nat) : w.ownsRow base e size (.slice none 0 0) 0 [] := ⟨by simp, .inl ⟨rfl, rfl⟩⟩
/-- append([]T(nil), l...) -/
theorem append_fresh (t ty e : TypeId) (i : TypeInfo) (z : Value) (bytes : Nat) (ht : P.underlying t = some (.slice e)) (hi : P.info? e = some i) (hz : i.zero = some z)
    (hsize : i.size = 1) (hby : i.bytes = bytes) (hzs : z.cells.size = 1)
    (A : Option Addr) (m c : Nat) (news : List Value) (hr : Sl w A m news) (h1 : ∀ u ∈ news, u.oneCell' = true)
    (h63 : m ≤ maxLen) (hbytes : m * bytes ≤ 140737488355328) :
    ∃ A' c' w', (Builtin.append_ #[t, t] ty #[.slice none 0 0, .slice A m c]).run P w = .ok (.slice A' m c') w' ∧ w'.ownsRow w.heap.size e 1 (.slice A' m c') m news ∧
      Sl w' A' m news ∧ Only [] w w' := by
  have := append_own (P := P) w (Only.refl [] w) t ty e i z bytes ht hi hz hsize hby hzs (.slice none 0 0) 0 [] (own_nil w _ _ _) A m c news hr h1 (by omega) (by simpa using hbytes)
  simpa using this
/-- a slice of the call's own, with an element: its block -/
theorem own_blk {w : World} {base : Nat} {e : TypeId} {A : Option Addr} {n c : Nat} {xs : List Value} (h : w.ownsRow base e 1 (.slice A n c) n xs) (hn : 0 < n) :
    ∃ g cur, A = some ⟨g, 0, none⟩ ∧ base ≤ g ∧ Blk w g e cur ∧ n ≤ cur.size ∧ cur.toList.take n = xs := by
  rcases h.2 with ⟨e1, e2⟩ | ⟨g, cap, cur, hv, hbg, hg, hnc, hcm, hcs, htake⟩
  · subst e2
    have := h.1
    simp at this
    omega
  · cases hv
    exact ⟨g, cur, rfl, hbg, hg, by omega, by simpa using htake⟩
theorem Sl.of_blk_set {w : World} {g : Nat} {t : TypeId} {cs : Array Value} {xs : List Value} {n : Nat} (h : Blk w g t cs) (hn : n ≤ cs.size) (hx : cs.toList.take n = xs) (k : Nat) (u : Value) :
    Sl (w.setCell ⟨g, k, none⟩ u) (some ⟨g, 0, none⟩) n (xs.set k u) := by
  refine Sl.of_blk (h.set k u) 0 ?_ (by simp; omega)
  subst hx
  simp [List.take_set]
/-- a row of bytes of the call's own, with its block -/
def OwnB (e : TypeId) (w : World) (base g n c : Nat) (l : List UInt8) : Prop := w.ownsRow base e 1 (.slice (some ⟨g, 0, none⟩) n c) n (l.map B)
section
variable {w w' : World} {e : TypeId} {base g n c : Nat} {l : List UInt8}
theorem OwnB.of {A : Option Addr} (h : w.ownsRow base e 1 (.slice A n c) n (l.map B)) (hn : 0 < n) : ∃ g, A = some ⟨g, 0, none⟩ ∧ base ≤ g ∧ g < w.heap.size ∧ OwnB e w base g n c l := by
  obtain ⟨g, c2, he, hbg, hgl⟩ := h.form hn
  cases he
  exact ⟨g, rfl, hbg, hgl, h⟩
theorem OwnB.len (h : OwnB e w base g n c l) : l.length = n := by simpa using h.1
theorem OwnB.bs (h : OwnB e w base g n c l) : Bs w (some ⟨g, 0, none⟩) n l := Sl.of_own h
theorem OwnB.cap (h : OwnB e w base g n c l) : n ≤ c ∧ c ≤ maxLen := by
  rcases h.2 with ⟨h', _⟩ | ⟨g', cap', cur, h', hb, hg, hnc, hcm, hcs, htake⟩
  · cases h'
  · cases h'
    exact ⟨hnc, hcm⟩
theorem OwnB.cell (h : OwnB e w base g n c l) (k : Nat) (hk : k < n) : w.cell? ⟨g, k, none⟩ = some (.int .u8 ((l.getD k 0).toNat : Int)) := by
  have hl := h.len
  have := World.ownsRow.cellAt h k (by omega)
  rw [this, List.getElem?_map, List.getElem?_eq_getElem (by omega)]
  simp [B, List.getD, List.getElem?_eq_getElem (show k < l.length by omega)]
theorem OwnB.frozen (h : OwnB e w base g n c l) (k : Nat) : w.frozen? ⟨g, k, none⟩ = false := World.ownsRow.frozenAt h k
theorem OwnB.set (h : OwnB e w base g n c l) (k : Nat) {x : Int} {y : UInt8} (hx : x = y.toNat) : OwnB e (w.setCell ⟨g, k, none⟩ (.int .u8 x)) base g n c (l.set k y) := by
  have := (World.ownsRow.stored h k (.int .u8 x)).1
  unfold OwnB
  rw [List.map_set, show B y = .int .u8 x by rw [hx]; rfl]
  exact this
theorem OwnB.mono {base' : Nat} (h : OwnB e w base g n c l) (hb : base' ≤ base) : OwnB e w base' g n c l := World.ownsRow.mono h hb
theorem OwnB.only {S : List Nat} (h : OwnB e w base g n c l) (ho : Only S w w') (hs : g ∉ S) : OwnB e w' base g n c l :=
  own_only h ho (by intro k hk; simp [Value.ownBlock] at hk; subst hk; exact hs)
end
theorem bs_own {w : World} {base n c : Nat} {e : TypeId} {A : Option Addr} {l : List UInt8} (h : w.ownsRow base e 1 (.slice A n c) n (l.map B)) : Bs w A n l := Sl.of_own h
theorem Bs.cut {w : World} {b off n : Nat} {l : List UInt8} (h : Bs w (some ⟨b, off, none⟩) n l) {a m : Nat} (hm : a + m ≤ n) : Bs w (some ⟨b, off + a, none⟩) m ((l.drop a).take m) := by
  have hl := h.len
  have := Sl.cut h (i := a) (j := a + m) (by omega) hm
  rw [Nat.add_sub_cancel_left] at this
  unfold Bs
  rw [List.map_take, List.map_drop]
  simpa [Addr.add_lit] using this
theorem Blk.drew {w : World} {g : Nat} {t : TypeId} {cs : Array Value} (h : Blk w g t cs) : Blk w.drew g t cs := h
end
end Go.Proofs.FuMem
