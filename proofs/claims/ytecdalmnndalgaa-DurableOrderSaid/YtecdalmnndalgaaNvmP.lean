/- Devices: lines with three copies, counts; how they lie in memory. Over any program. -/
import Derived.Test.YtecdalmnndalgaaMemC
namespace Go.Proofs.FuNvm
open Go.RowKit Go.Proofs.FuMem
structure Line where
  now : List UInt8
  kept : List UInt8
  way : List UInt8
  sent : Bool
def Line.Ok (x : Line) : Prop := x.now.length = 64 ∧ x.kept.length = 64 ∧ x.way.length = 64
structure Dev where
  lines : List Line
  stores : Int
  flushes : Int
  fences : Int
  backs : Int
  cuts : Int
def cellsOf (x : Line) : List Value := x.now.map B ++ x.kept.map B ++ x.way.map B ++ [.bool x.sent]
theorem cellsOf_length {x : Line} (h : x.Ok) : (cellsOf x).length = 193 := by
  obtain ⟨h1, h2, h3⟩ := h
  simp [cellsOf, h1, h2, h3]
theorem cellsOf_one (x : Line) : ∀ v ∈ cellsOf x, v.oneCell' = true := by
  intro v hv
  simp only [cellsOf, List.mem_append, List.mem_singleton] at hv
  rcases hv with ((hv | hv) | hv) | hv
  · exact one_B v hv
  · exact one_B v hv
  · exact one_B v hv
  · subst hv; rfl
def flat (L : List Line) : List Value := L.flatMap cellsOf
def AllOk (L : List Line) : Prop := ∀ x ∈ L, x.Ok
theorem flat_cons (x : Line) (L : List Line) : flat (x :: L) = cellsOf x ++ flat L := rfl
theorem flat_append (L M : List Line) : flat (L ++ M) = flat L ++ flat M := by simp [flat]
theorem flat_length {L : List Line} (h : AllOk L) : (flat L).length = L.length * 193 := by
  induction L with
  | nil => rfl
  | cons x L ih =>
    rw [flat_cons, List.length_append, cellsOf_length (h x (by simp)), ih (fun y hy => h y (by simp [hy])), List.length_cons]
    omega
theorem AllOk.take {L : List Line} (h : AllOk L) (i : Nat) : AllOk (L.take i) := fun x hx => h x (List.mem_of_mem_take hx)
theorem AllOk.set {L : List Line} (h : AllOk L) (i : Nat) {y : Line} (hy : y.Ok) : AllOk (L.set i y) := fun x hx => by
  rcases List.mem_or_eq_of_mem_set hx with h1 | h1
  · exact h x h1
  · rw [h1]; exact hy
theorem AllOk.get {L : List Line} (h : AllOk L) {i : Nat} (hi : i < L.length) : (L[i]).Ok := h _ (List.getElem_mem hi)
theorem flat_split (L : List Line) (i : Nat) (hi : i < L.length) : flat L = flat (L.take i) ++ (cellsOf L[i] ++ flat (L.drop (i + 1))) := by
  rw [← flat_cons, ← flat_append, ← List.drop_eq_getElem_cons hi, List.take_append_drop]
theorem flat_read {L : List Line} (h : AllOk L) {i : Nat} (hi : i < L.length) {o m : Nat} (hm : o + m ≤ 193) : ((flat L).drop (i * 193 + o)).take m = ((cellsOf L[i]).drop o).take m := by
  have hl := flat_length (h.take i)
  rw [List.length_take, Nat.min_eq_left (by omega)] at hl
  have hc := cellsOf_length (h.get hi)
  have e : (flat L).drop (i * 193) = cellsOf L[i] ++ flat (L.drop (i + 1)) := by
    rw [flat_split L i hi, ← hl, List.drop_left]
  rw [← List.drop_drop, e, List.drop_append_of_le_length (by omega), List.take_append_of_le_length (by rw [List.length_drop]; omega)]
/-- what is written within one line -/
theorem flat_write {L : List Line} (h : AllOk L) {i : Nat} (hi : i < L.length) {o : Nat} {vs : List Value} (hm : o + vs.length ≤ 193) {y : Line}
    (hy : cellsOf y = (cellsOf L[i]).take o ++ vs ++ (cellsOf L[i]).drop (o + vs.length)) (cs : List Value) (hp : cs.take (L.length * 193) = flat L) :
    (cs.take (i * 193 + o) ++ vs ++ cs.drop (i * 193 + o + vs.length)).take (L.length * 193) = flat (L.set i y) := by
  have hl := flat_length (h.take i)
  rw [List.length_take, Nat.min_eq_left (by omega)] at hl
  have hc := cellsOf_length (h.get hi)
  have hfl := flat_length h
  have hi2 : (i + 1) * 193 ≤ L.length * 193 := Nat.mul_le_mul_right _ hi
  have hcl : L.length * 193 ≤ cs.length := by
    have := congrArg List.length hp
    rw [List.length_take, hfl] at this
    omega
  have e1 : cs.take (i * 193 + o) = flat (L.take i) ++ (cellsOf L[i]).take o := by
    have : cs.take (i * 193 + o) = (cs.take (L.length * 193)).take (i * 193 + o) := by rw [List.take_take, Nat.min_eq_left (by omega)]
    rw [this, hp, flat_split L i hi, List.take_append, hl, List.take_of_length_le (by omega), show i * 193 + o - i * 193 = o by omega, List.take_append_of_le_length (by omega)]
  have e2 : (cs.drop (i * 193 + o + vs.length)).take (L.length * 193 - (i * 193 + o + vs.length)) = (cellsOf L[i]).drop (o + vs.length) ++ flat (L.drop (i + 1)) := by
    rw [← List.drop_take, hp, flat_split L i hi, List.drop_append, hl, List.drop_eq_nil_of_le (by omega), List.nil_append, show i * 193 + o + vs.length - i * 193 = o + vs.length by omega, List.drop_append_of_le_length (by omega)]
  have hlen : (cs.take (i * 193 + o) ++ vs).length = i * 193 + o + vs.length := by
    rw [List.length_append, List.length_take, Nat.min_eq_left (by omega)]
  rw [List.take_append, List.take_of_length_le (by omega), hlen, e2, e1]
  have hset : L.set i y = L.take i ++ y :: L.drop (i + 1) := by rw [List.set_eq_take_append_cons_drop, if_pos hi]
  rw [hset, flat_append, flat_cons, hy]
  simp only [List.append_assoc]

/-! ### in memory -/
def countsOf (D : Dev) : List Value := [.int .i64 D.stores, .int .i64 D.flushes, .int .i64 D.fences, .int .i64 D.backs, .int .i64 D.cuts]
/-- the device's own block -/
def headOf (cb cap : Nat) (D : Dev) : Array Value := #[.slice (some ⟨cb, 0, none⟩) D.lines.length cap, .int .i64 D.stores, .int .i64 D.flushes, .int .i64 D.fences, .int .i64 D.backs, .int .i64 D.cuts]
structure IsDev (tD tC : TypeId) (w : World) (g cb cap : Nat) (D : Dev) : Prop where
  head : Blk w g tD (headOf cb cap D)
  body : ∃ cs, Blk w cb tC cs ∧ cs.toList.take (D.lines.length * 193) = flat D.lines
  ne : g ≠ cb
  ok : AllOk D.lines
  few : D.lines.length ≤ 258
  cap_le : D.lines.length ≤ cap
section
variable {tD tC : TypeId} {w w' : World} {S : List Nat} {g cb cap : Nat} {D : Dev}
theorem IsDev.only (h : IsDev tD tC w g cb cap D) (ho : Only S w w') (h1 : g ∉ S) (h2 : cb ∉ S) : IsDev tD tC w' g cb cap D :=
  ⟨h.head.only ho h1, let ⟨cs, hb, hp⟩ := h.body; ⟨cs, hb.only ho h2, hp⟩, h.ne, h.ok, h.few, h.cap_le⟩
theorem IsDev.only0 (h : IsDev tD tC w g cb cap D) (ho : Only [] w w') : IsDev tD tC w' g cb cap D := h.only ho (by simp) (by simp)
theorem IsDev.lt1 (h : IsDev tD tC w g cb cap D) : g < w.heap.size := h.head.lt
theorem IsDev.lt2 (h : IsDev tD tC w g cb cap D) : cb < w.heap.size := let ⟨_, hb, _⟩ := h.body; hb.lt
theorem body_size {cs : Array Value} (hok : AllOk D.lines) (hp : cs.toList.take (D.lines.length * 193) = flat D.lines) : D.lines.length * 193 ≤ cs.size := by
  have := congrArg List.length hp
  rw [List.length_take, flat_length hok, Array.length_toList] at this
  omega
/-- a piece of a line -/
theorem IsDev.sl (h : IsDev tD tC w g cb cap D) {i : Nat} (hi : i < D.lines.length) {o m : Nat} (hm : o + m ≤ 193) : Sl w (some ⟨cb, i * 193 + o, none⟩) m (((cellsOf D.lines[i]).drop o).take m) := by
  obtain ⟨cs, hb, hp⟩ := h.body
  have hs := body_size h.ok hp
  have hi2 : (i + 1) * 193 ≤ D.lines.length * 193 := Nat.mul_le_mul_right _ hi
  refine Sl.of_blk hb (i * 193 + o) ?_ (by omega)
  rw [← flat_read h.ok hi hm, ← hp, List.drop_take, List.take_take, Nat.min_eq_left (by omega)]
theorem IsDev.now (h : IsDev tD tC w g cb cap D) {i : Nat} (hi : i < D.lines.length) : Bs w (some ⟨cb, i * 193, none⟩) 64 (D.lines[i]).now := by
  have := h.sl hi (o := 0) (m := 64) (by omega)
  obtain ⟨h1, h2, h3⟩ := h.ok.get hi
  rw [List.drop_zero, cellsOf, List.append_assoc, List.append_assoc, List.take_append_of_le_length (by simp [h1]), List.take_of_length_le (by simp [h1])] at this
  exact this
theorem IsDev.kept (h : IsDev tD tC w g cb cap D) {i : Nat} (hi : i < D.lines.length) : Bs w (some ⟨cb, i * 193 + 64, none⟩) 64 (D.lines[i]).kept := by
  have := h.sl hi (o := 64) (m := 64) (by omega)
  obtain ⟨h1, h2, h3⟩ := h.ok.get hi
  rw [cellsOf, List.append_assoc, List.append_assoc, List.drop_append, List.drop_eq_nil_of_le (by simp [h1]), List.nil_append, List.length_map, h1, Nat.sub_self, List.drop_zero, List.take_append_of_le_length (by simp [h2]), List.take_of_length_le (by simp [h2])] at this
  exact this
theorem IsDev.way (h : IsDev tD tC w g cb cap D) {i : Nat} (hi : i < D.lines.length) : Bs w (some ⟨cb, i * 193 + 128, none⟩) 64 (D.lines[i]).way := by
  have := h.sl hi (o := 128) (m := 64) (by omega)
  obtain ⟨h1, h2, h3⟩ := h.ok.get hi
  rw [cellsOf, List.append_assoc, List.drop_append, List.drop_eq_nil_of_le (by simp [h1, h2]), List.nil_append, List.length_append, List.length_map, List.length_map, h1, h2, Nat.sub_self, List.drop_zero, List.take_append_of_le_length (by simp [h3]), List.take_of_length_le (by simp [h3])] at this
  exact this
theorem IsDev.sentCell (h : IsDev tD tC w g cb cap D) {i : Nat} (hi : i < D.lines.length) : w.cell? ⟨cb, i * 193 + 192, none⟩ = some (.bool (D.lines[i]).sent) := by
  have := h.sl hi (o := 192) (m := 1) (by omega)
  obtain ⟨h1, h2, h3⟩ := h.ok.get hi
  rw [cellsOf, List.drop_append, List.drop_eq_nil_of_le (by simp [h1, h2, h3]), List.nil_append, List.length_append, List.length_append, List.length_map, List.length_map, List.length_map, h1, h2, h3] at this
  obtain ⟨b, off, e, hc⟩ := this.at_ (by omega)
  cases e
  simpa using hc 0 (by simp)
theorem IsDev.frozen2 (h : IsDev tD tC w g cb cap D) (k : Nat) : w.frozen? ⟨cb, k, none⟩ = false := let ⟨_, hb, _⟩ := h.body; hb.frozen k
theorem IsDev.frozen1 (h : IsDev tD tC w g cb cap D) (k : Nat) : w.frozen? ⟨g, k, none⟩ = false := h.head.frozen k
theorem IsDev.cell (h : IsDev tD tC w g cb cap D) (k : Nat) : w.cell? ⟨g, k, none⟩ = (headOf cb cap D)[k]? := h.head.cell k
/-- one line has turned -/
theorem IsDev.write (h : IsDev tD tC w g cb cap D) {i : Nat} (hi : i < D.lines.length) {o : Nat} {vs : List Value} (hm : o + vs.length ≤ 193) {y : Line}
    (hy : cellsOf y = (cellsOf D.lines[i]).take o ++ vs ++ (cellsOf D.lines[i]).drop (o + vs.length)) (hyo : y.Ok)
    (cs : Array Value) (hp : cs.toList.take (D.lines.length * 193) = flat D.lines) (hb : Blk w' cb tC (FuMem.splice cs (i * 193 + o) vs)) (on : Only [cb] w w') :
    IsDev tD tC w' g cb cap { D with lines := D.lines.set i y } := by
  refine ⟨?_, ⟨_, hb, ?_⟩, h.ne, h.ok.set i hyo, by simpa using h.few, by simpa using h.cap_le⟩
  · have := h.head.only on (by simpa using h.ne)
    unfold headOf at this ⊢
    simpa using this
  · have := flat_write h.ok hi hm hy cs.toList hp
    unfold FuMem.splice
    simpa using this
end
end Go.Proofs.FuNvm
