/- The clock of epochs: how it lies in memory. Over any program. -/
import Derived.Test.YtecdalmnndalgaaMemC
import Derived.Test.YtecdalmnndalgaaInts
namespace Go.Proofs.FuClk
open Go.RowKit Go.Proofs.FuMem
structure Clk where
  now : Int
  durable : Int
  phase : Nat
  owed : List Int
  noted : List Bool
  left : List Bool
def Clk.closing (C : Clk) : Int := if C.phase = 0 then 0 else C.now - 1
structure Clk.Ok (C : Clk) : Prop where
  noted : C.noted.length = 258
  left : C.left.length = 258
  owed1 : 1 ≤ C.owed.length
  owed4 : C.owed.length ≤ 4
  phase : C.phase ≤ 4
  lo : 0 ≤ C.durable
  hi : C.now < 18446744073709551616
  idle : C.phase = 0 → C.now = C.durable + 1
  busy : C.phase ≠ 0 → C.now = C.durable + 2
  done : C.phase ≠ 1 → C.left = List.replicate 258 false
def newClk (n : Nat) (d : Int) : Clk := ⟨d + 1, d, 0, List.replicate n 0, List.replicate 258 false, List.replicate 258 false⟩
theorem newClk_ok {n : Nat} {d : Int} (h1 : 1 ≤ n) (h2 : n ≤ 4) (h3 : 0 ≤ d) (h4 : d ≤ 1152921504606846976) : (newClk n d).Ok where
  noted := List.length_replicate
  left := List.length_replicate
  owed1 := by show 1 ≤ (List.replicate n (0 : Int)).length; simpa using h1
  owed4 := by show (List.replicate n (0 : Int)).length ≤ 4; simpa using h2
  phase := by show 0 ≤ 4; omega
  lo := h3
  hi := by show d + 1 < _; omega
  idle := fun _ => rfl
  busy := fun h => absurd rfl h
  done := fun _ => rfl
/-- the function that is to be done next -/
def stepV (f1 f2 f3 f4 : Nat) (g : Nat) : Nat → Value
  | 0 => .nilFunc
  | 1 => .func (.func f1) #[.pointer (some ⟨g, 0, none⟩)] #[]
  | 2 => .func (.func f2) #[.pointer (some ⟨g, 0, none⟩)] #[]
  | 3 => .func (.func f3) #[.pointer (some ⟨g, 0, none⟩)] #[]
  | _ => .func (.func f4) #[.pointer (some ⟨g, 0, none⟩)] #[]
def bools (l : List Bool) : List Value := l.map Value.bool
def raw (a b c s : Value) (N L : List Bool) (v : Value) : Array Value := (a :: b :: c :: s :: (bools N ++ (bools L ++ [v]))).toArray
section
variable {a b c s v x : Value} {N L : List Bool}
theorem bools_length (l : List Bool) : (bools l).length = l.length := List.length_map _
theorem raw_size (hN : N.length = 258) (hL : L.length = 258) : (raw a b c s N L v).size = 521 := by simp [raw, bools, hN, hL]
theorem raw_set0 : (raw a b c s N L v).setIfInBounds 0 x = raw x b c s N L v := by simp [raw]
theorem raw_set1 : (raw a b c s N L v).setIfInBounds 1 x = raw a x c s N L v := by simp [raw]
theorem raw_set2 : (raw a b c s N L v).setIfInBounds 2 x = raw a b x s N L v := by simp [raw]
theorem raw_step (hN : N.length = 258) (hL : L.length = 258) : (raw a b c s N L v).setIfInBounds 520 x = raw a b c s N L x := by
  simp [raw, bools, hN, hL]
theorem raw_noted (hN : N.length = 258) {i : Nat} (hi : i < 258) {y : Bool} : (raw a b c s N L v).setIfInBounds (4 + i) (.bool y) = raw a b c s (N.set i y) L v := by
  rw [Nat.add_comm 4 i]
  simp [raw, bools, hN, hi]
theorem raw_left (hN : N.length = 258) (hL : L.length = 258) {i : Nat} (hi : i < 258) {y : Bool} : (raw a b c s N L v).setIfInBounds (262 + i) (.bool y) = raw a b c s N (L.set i y) v := by
  rw [show 262 + i = (258 + i) + 1 + 1 + 1 + 1 by omega]
  simp [raw, bools, hN, hL, hi]
theorem raw_lefts (hN : N.length = 258) (hL : L.length = 258) {M : List Bool} (hM : M.length = 258) : FuMem.splice (raw a b c s N L v) 262 (bools M) = raw a b c s N M v := by
  have e : raw a b c s N L v = ((a :: b :: c :: s :: bools N) ++ (bools L ++ [v])).toArray := rfl
  rw [e]
  unfold FuMem.splice
  have h1 : (a :: b :: c :: s :: bools N).length = 262 := by simp [bools, hN]
  have h2 : (bools L).length = (bools M).length := by simp [bools, hL, hM]
  rw [← h1, List.take_left' rfl, ← List.drop_drop, List.drop_left' rfl, ← h2, List.drop_left' rfl]
  simp [raw]
theorem raw_noteds (hN : N.length = 258) {M : List Bool} (hM : M.length = 258) : FuMem.splice (raw a b c s N L v) 4 (bools M) = raw a b c s M L v := by
  unfold FuMem.splice raw
  have h2 : (bools N).length = (bools M).length := by simp [bools, hN, hM]
  have e : (a :: b :: c :: s :: (bools N ++ (bools L ++ [v]))).drop (4 + (bools M).length) = bools L ++ [v] := by
    rw [← List.drop_drop]
    show (bools N ++ (bools L ++ [v])).drop _ = _
    rw [← h2, List.drop_left' rfl]
  show ((([a, b, c, s] : List Value) ++ bools M) ++ (a :: b :: c :: s :: (bools N ++ (bools L ++ [v]))).drop (4 + (bools M).length)).toArray = _
  rw [e]
  simp
theorem raw_at520 (hN : N.length = 258) (hL : L.length = 258) : (raw a b c s N L v)[520]? = some v := by
  simp [raw, bools, hN, hL]
end
def restOf (v : Value) (C : Clk) : List Value := bools C.noted ++ (bools C.left ++ [v])
def cellsOf (ob : Nat) (v : Value) (C : Clk) : List Value :=
  .int .u64 C.now :: .int .u64 C.durable :: .int .u64 C.closing :: .slice (some ⟨ob, 0, none⟩) C.owed.length C.owed.length :: restOf v C
theorem restOf_at1 {v : Value} {C : Clk} (h : C.noted.length = 258) {i : Nat} (hi : i < 258) : (restOf v C)[i]? = C.noted[i]?.map Value.bool := by
  unfold restOf bools
  rw [List.getElem?_append_left (by simpa [h] using hi), List.getElem?_map]
theorem restOf_at2 {v : Value} {C : Clk} (h : C.noted.length = 258) (h2 : C.left.length = 258) {i : Nat} (hi : i < 258) : (restOf v C)[258 + i]? = C.left[i]?.map Value.bool := by
  unfold restOf bools
  rw [List.getElem?_append_right (by simp [h]), List.getElem?_append_left (by simp [h, h2]; omega), List.getElem?_map]
  simp [h]
theorem restOf_last {v : Value} {C : Clk} (h : C.noted.length = 258) (h2 : C.left.length = 258) : (restOf v C)[516]? = some v := by
  unfold restOf bools
  rw [List.getElem?_append_right (by simp [h]), List.getElem?_append_right (by simp [h, h2])]
  simp [h, h2]
theorem cellsOf_raw (ob : Nat) (v : Value) (C : Clk) : (cellsOf ob v C).toArray = raw (.int .u64 C.now) (.int .u64 C.durable) (.int .u64 C.closing) (.slice (some ⟨ob, 0, none⟩) C.owed.length C.owed.length) C.noted C.left v := rfl
theorem cellsOf_length {ob : Nat} {v : Value} {C : Clk} (h : C.noted.length = 258) (h2 : C.left.length = 258) : (cellsOf ob v C).length = 521 := by
  simp [cellsOf, restOf, bools, h, h2]
structure IsClk (tC tI : TypeId) (f1 f2 f3 f4 : Nat) (w : World) (g ob : Nat) (C : Clk) : Prop where
  head : Blk w g tC (cellsOf ob (stepV f1 f2 f3 f4 g C.phase) C).toArray
  row : Blk w ob tI (C.owed.map (Value.int .i64)).toArray
  ne : g ≠ ob
  ok : C.Ok
section
variable {tC tI : TypeId} {f1 f2 f3 f4 : Nat} {w w' : World} {S : List Nat} {g ob : Nat} {C : Clk}
theorem IsClk.only (h : IsClk tC tI f1 f2 f3 f4 w g ob C) (ho : Only S w w') (h1 : g ∉ S) (h2 : ob ∉ S) : IsClk tC tI f1 f2 f3 f4 w' g ob C :=
  ⟨h.head.only ho h1, h.row.only ho h2, h.ne, h.ok⟩
theorem IsClk.only0 (h : IsClk tC tI f1 f2 f3 f4 w g ob C) (ho : Only [] w w') : IsClk tC tI f1 f2 f3 f4 w' g ob C := h.only ho (by simp) (by simp)
theorem IsClk.lt1 (h : IsClk tC tI f1 f2 f3 f4 w g ob C) : g < w.heap.size := h.head.lt
theorem IsClk.lt2 (h : IsClk tC tI f1 f2 f3 f4 w g ob C) : ob < w.heap.size := h.row.lt
theorem IsClk.now (h : IsClk tC tI f1 f2 f3 f4 w g ob C) : w.cell? ⟨g, 0, none⟩ = some (.int .u64 C.now) := by rw [h.head.cell]; rfl
theorem IsClk.dur (h : IsClk tC tI f1 f2 f3 f4 w g ob C) : w.cell? ⟨g, 1, none⟩ = some (.int .u64 C.durable) := by rw [h.head.cell]; rfl
theorem IsClk.clo (h : IsClk tC tI f1 f2 f3 f4 w g ob C) : w.cell? ⟨g, 2, none⟩ = some (.int .u64 C.closing) := by rw [h.head.cell]; rfl
theorem IsClk.owe (h : IsClk tC tI f1 f2 f3 f4 w g ob C) : w.cell? ⟨g, 3, none⟩ = some (.slice (some ⟨ob, 0, none⟩) C.owed.length C.owed.length) := by rw [h.head.cell]; rfl
theorem IsClk.step (h : IsClk tC tI f1 f2 f3 f4 w g ob C) : w.cell? ⟨g, 520, none⟩ = some (stepV f1 f2 f3 f4 g C.phase) := by
  rw [h.head.cell]
  have := restOf_last (v := stepV f1 f2 f3 f4 g C.phase) h.ok.noted h.ok.left
  simpa [cellsOf] using this
theorem IsClk.notedCell (h : IsClk tC tI f1 f2 f3 f4 w g ob C) {i : Nat} (hi : i < 258) : w.cell? ⟨g, 4 + i, none⟩ = some (.bool (C.noted[i]'(by rw [h.ok.noted]; exact hi))) := by
  rw [h.head.cell]
  have := restOf_at1 (v := stepV f1 f2 f3 f4 g C.phase) h.ok.noted hi
  rw [List.getElem?_eq_getElem (l := C.noted) (by rw [h.ok.noted]; exact hi)] at this
  rw [Nat.add_comm]
  simpa [cellsOf] using this
theorem IsClk.owedCell (h : IsClk tC tI f1 f2 f3 f4 w g ob C) {i : Nat} (hi : i < C.owed.length) : w.cell? ⟨ob, i, none⟩ = some (.int .i64 C.owed[i]) := by
  rw [h.row.cell]; simp [hi]
theorem IsClk.fr1 (h : IsClk tC tI f1 f2 f3 f4 w g ob C) (k : Nat) : w.frozen? ⟨g, k, none⟩ = false := h.head.frozen k
theorem IsClk.fr2 (h : IsClk tC tI f1 f2 f3 f4 w g ob C) (k : Nat) : w.frozen? ⟨ob, k, none⟩ = false := h.row.frozen k
theorem IsClk.notedSl (h : IsClk tC tI f1 f2 f3 f4 w g ob C) : Sl w (some ⟨g, 4, none⟩) 258 (bools C.noted) := by
  refine Sl.of_blk h.head 4 ?_ (by simp [cellsOf_length h.ok.noted h.ok.left])
  show bools C.noted = (restOf (stepV f1 f2 f3 f4 g C.phase) C).take 258
  unfold restOf
  have hl : (bools C.noted).length = 258 := by simp [bools, h.ok.noted]
  rw [List.take_append_of_le_length (by omega), List.take_of_length_le (by omega)]
theorem IsClk.leftSl (h : IsClk tC tI f1 f2 f3 f4 w g ob C) : Sl w (some ⟨g, 262, none⟩) 258 (bools C.left) := by
  refine Sl.of_blk h.head 262 ?_ (by simp [cellsOf_length h.ok.noted h.ok.left])
  show bools C.left = ((restOf (stepV f1 f2 f3 f4 g C.phase) C).drop 258).take 258
  unfold restOf
  have hl : (bools C.noted).length = 258 := by simp [bools, h.ok.noted]
  have hl2 : (bools C.left).length = 258 := by simp [bools, h.ok.left]
  have e : (bools C.noted ++ (bools C.left ++ [stepV f1 f2 f3 f4 g C.phase])).drop 258 = bools C.left ++ [stepV f1 f2 f3 f4 g C.phase] := by
    rw [← hl, List.drop_left]
  rw [e, List.take_append_of_le_length (by omega), List.take_of_length_le (by omega)]
theorem IsClk.is (h : IsClk tC tI f1 f2 f3 f4 w g ob C) : Is w (some ⟨ob, 0, none⟩) C.owed.length C.owed :=
  Sl.of_blk h.row 0 (by rw [List.drop_zero, List.take_of_length_le (by simp)]) (by simp)
theorem bools_one (l : List Bool) : ((bools l).toArray).all (·.oneCell') = true := by
  simp [bools, Value.oneCell']
/-- what a turn of the head's block makes of its cells -/
theorem IsClk.put (h : IsClk tC tI f1 f2 f3 f4 w g ob C) {C' : Clk} (hb : Blk w' g tC (cellsOf ob (stepV f1 f2 f3 f4 g C'.phase) C').toArray) (ho : Only [g] w w') (e : C'.owed = C.owed) (ok : C'.Ok) : IsClk tC tI f1 f2 f3 f4 w' g ob C' :=
  ⟨hb, by rw [e]; exact h.row.only ho (by simpa using h.ne.symm), h.ne, ok⟩
section
variable {P : Program} {ops : Array Oper} {rest : List Oper} {o : Oper} {a : Act} {Q : Exit → Act → World → Prop}
/-- an array of bools is read -/
theorem wpList_load_bools (hgd : o.guard = none) (T : TypeId) (x : Operand) (ho : o.op = .load T x) (b off : Nat) (hx : a.eval x = .pointer (some ⟨b, off, none⟩)) (l : List Bool)
    (hc : Sl w (some ⟨b, off, none⟩) l.length (bools l)) (n : Nat) (e : TypeId) (hu : P.underlying T = some (.array n e)) (hi : (P.info? T).map (·.size) = some l.length)
    (h : wpList P ops Q rest (a.put o.dst (.agg (bools l).toArray)) w) : wpList P ops Q (o :: rest) a w :=
  wpList_load_mid hgd T x ho b off hx (bools l) _ (Sl.range hc) hu rfl (by simpa [bools] using hi) h
end
end
/-! ### what it does -/
def noteC (C : Clk) (t i : Nat) : Clk := { C with owed := C.owed.set t (wrap64 (C.owed.getD t 0 + 1)), noted := C.noted.set i true }
def beginC (C : Clk) : Clk := ⟨C.now + 1, C.durable, 1, List.replicate C.owed.length 0, List.replicate 258 false, C.noted⟩
theorem noteC_ok {C : Clk} (h : C.Ok) (t i : Nat) : (noteC C t i).Ok :=
  { noted := by show (C.noted.set i true).length = 258; rw [List.length_set]; exact h.noted
    left := h.left
    owed1 := by show 1 ≤ (C.owed.set t _).length; rw [List.length_set]; exact h.owed1
    owed4 := by show (C.owed.set t _).length ≤ 4; rw [List.length_set]; exact h.owed4
    phase := h.phase, lo := h.lo, hi := h.hi, idle := h.idle, busy := h.busy, done := h.done }
theorem beginC_ok {C : Clk} (h : C.Ok) (h0 : C.phase = 0) (hn : C.now + 1 < 18446744073709551616) : (beginC C).Ok where
  noted := List.length_replicate
  left := h.noted
  owed1 := by show 1 ≤ (List.replicate C.owed.length (0 : Int)).length; rw [List.length_replicate]; exact h.owed1
  owed4 := by show (List.replicate C.owed.length (0 : Int)).length ≤ 4; rw [List.length_replicate]; exact h.owed4
  phase := by show 1 ≤ 4; omega
  lo := h.lo
  hi := hn
  idle := fun e => by cases e
  busy := fun _ => by have := h.idle h0; show C.now + 1 = C.durable + 2; omega
  done := fun e => absurd rfl e
theorem closing_zero {C : Clk} (h : C.Ok) : C.closing = 0 ↔ C.phase = 0 := by
  unfold Clk.closing
  by_cases h0 : C.phase = 0
  · simp [h0]
  · have := h.busy h0
    have := h.lo
    rw [if_neg h0]
    constructor
    · intro e; omega
    · intro e; exact absurd e h0
end Go.Proofs.FuClk
