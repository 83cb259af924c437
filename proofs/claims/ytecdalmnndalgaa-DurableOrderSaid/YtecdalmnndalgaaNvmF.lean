/- The contracts of package nvm, fifth part: the cut. -/
import Derived.Test.YtecdalmnndalgaaNvmE
import Derived.Test.YtecdalmnndalgaaClassB
namespace Go.Proofs.Ytecdalmnndalgaa
open Go.RowKit Go.Proofs.FuMem Go.Proofs.FuNvm Go.Proofs.FuCode
set_option maxRecDepth 100000

/-- append to a slice of the call's own: what stood before the call is as it was -/
theorem append_ownB {P : Program} (w : World) {w0 : World} {T : List Nat} (on : Only T w0 w) (t ty e : TypeId) (i : TypeInfo) (z : Value) (bytes : Nat) (ht : P.underlying t = some (.slice e)) (hi : P.info? e = some i) (hz : i.zero = some z)
    (hsize : i.size = 1) (hby : i.bytes = bytes) (hzs : z.cells.size = 1)
    (v : Value) (n : Nat) (xs : List Value) (hown : w.ownsRow w0.heap.size e 1 v n xs)
    (A : Option Addr) (m c : Nat) (news : List Value) (hr : Sl w A m news) (h1 : ∀ u ∈ news, u.oneCell' = true)
    (h63 : n + m ≤ maxLen) (hbytes : (n + m) * bytes ≤ 140737488355328) :
    ∃ A' c' w', (Builtin.append_ #[t, t] ty #[v, .slice A m c]).run P w = .ok (.slice A' (n + m) c') w' ∧ w'.ownsRow w0.heap.size e 1 (.slice A' (n + m) c') (n + m) (xs ++ news) ∧
      Only T w0 w' ∧ Below w0.heap.size w w' := by
  obtain ⟨v', w', hrun, h2, h3, _⟩ := run_append_sl (P := P) w w0.heap.size t ty e i z bytes ht hi hz hsize hby hzs v n xs hown A m c news hr h1 h63 hbytes on.size
  obtain ⟨A', c', rfl, _, _⟩ := own_slice h2
  have hb : ∀ k, k < w0.heap.size → w'.heap[k]? = w.heap[k]? := fun k hk => h3.block k (Nat.lt_of_lt_of_le hk on.size) (fun e => by have := hown.lt k e.symm; omega)
  refine ⟨A', c', w', hrun, h2, ⟨h3.os.trans on.os, h3.tape.trans on.tape, h3.output.trans on.output, Nat.le_trans on.size h3.size, fun k hk hn => (hb k hk).trans (on.block k hk hn)⟩, ⟨h3.os, h3.tape, h3.output, h3.size, hb⟩⟩
theorem IsDev.below {tD tC : TypeId} {w w' : World} {g cb cap B : Nat} {D : Dev} (h : IsDev tD tC w g cb cap D) (hb : Below B w w') (h1 : g < B) (h2 : cb < B) : IsDev tD tC w' g cb cap D :=
  ⟨(hb.block g h1).trans h.head, let ⟨cs, hbl, hp⟩ := h.body; ⟨cs, (hb.block cb h2).trans hbl, hp⟩, h.ne, h.ok, h.few, h.cap_le⟩
theorem IsDev.ready {tD tC : TypeId} {w : World} {g cb cap : Nat} {D : Dev} (h : IsDev tD tC w g cb cap D) {i : Nat} (hi : i < D.lines.length) :
    ∃ cs, Blk w cb tC cs ∧ (∀ (o : Nat) (l : List UInt8), l.length = 64 → o + 64 ≤ 193 → i * 193 + o + (l.map B).toArray.size ≤ cs.size) ∧
      ∀ (o : Nat) (l : List UInt8) (y : Line), o + l.length ≤ 193 → cellsOf y = (cellsOf D.lines[i]).take o ++ l.map B ++ (cellsOf D.lines[i]).drop (o + (l.map B).length) → y.Ok →
        ∀ w', Blk w' cb tC (FuMem.splice cs (i * 193 + o) (l.map B).toArray.toList) → Only [cb] w w' → IsDev tD tC w' g cb cap { D with lines := D.lines.set i y } := by
  obtain ⟨cs, hb, hp⟩ := h.body
  have hs := body_size h.ok hp
  have hi2 : (i + 1) * 193 ≤ D.lines.length * 193 := Nat.mul_le_mul_right _ hi
  refine ⟨cs, hb, fun o l hl ho => ?_, fun o l y ho hy hyo w' hb' on => ?_⟩
  · rw [List.size_toArray, List.length_map, hl]
    omega
  · exact h.write hi (o := o) (vs := l.map B) (by rw [List.length_map]; exact ho) hy hyo cs hp hb' on
def isLost (keep : List Int) (i : Nat) (x : Line) : Bool := (x.now != x.kept) && !(decide ((i : Int) ∈ keep))
def cutL (keep : List Int) (i : Nat) (x : Line) : Line :=
  if (x.now != x.kept) = true ∧ (i : Int) ∈ keep then { x with kept := x.now, sent := false } else { x with now := x.kept, sent := false }
def lostTo (keep : List Int) (L : List Line) (i : Nat) : List Int := ((List.range i).filter fun j => (L[j]?.map (isLost keep j)).getD false).map fun (j : Nat) => (j : Int)
theorem lostTo_succ (keep : List Int) (L : List Line) (i : Nat) (hi : i < L.length) : lostTo keep L (i + 1) = if isLost keep i L[i] = true then lostTo keep L i ++ [(i : Int)] else lostTo keep L i := by
  unfold lostTo
  rw [List.range_succ, List.filter_append, List.map_append]
  by_cases h : isLost keep i L[i] = true
  · rw [if_pos h]
    simp [List.getElem?_eq_getElem hi, h]
  · rw [if_neg h]
    simp [List.getElem?_eq_getElem hi, h]
theorem lostTo_length (keep : List Int) (L : List Line) (i : Nat) : (lostTo keep L i).length ≤ i := by
  unfold lostTo
  rw [List.length_map]
  exact Nat.le_trans (List.length_filter_le _ _) (by simp)
theorem is_only_pos {w w' : World} {S : List Nat} {A : Option Addr} {n : Nat} {l : List Int} (h : Is w A n l) (ho : Only S w w') (hs : 0 < n → ∀ b off s, A = some ⟨b, off, s⟩ → b ∉ S) : Is w' A n l := by
  rcases Nat.eq_zero_or_pos n with rfl | hp
  · have := h.len
    obtain rfl : l = [] := List.length_eq_zero_iff.1 this
    exact Is.nil _ _
  · exact h.only ho (hs hp)
def cutD (D : Dev) (keep : List Int) : Dev := { D with lines := D.lines.mapIdx (cutL keep), cuts := wrap64 (D.cuts + 1) }
end Go.Proofs.Ytecdalmnndalgaa
