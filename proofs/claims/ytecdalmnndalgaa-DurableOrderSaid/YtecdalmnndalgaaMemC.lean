/- Words for memory, third part: whole arrays of bytes by value, over any program: made, read, written, copied, compared; regions that draw their order and only make memory. -/
import Derived.Test.YtecdalmnndalgaaMemB
import Derived.Test.YtecdalmnndalgaaCodeP
import Derived.Deep.MidRow
import Derived.Deep.Quiet
import Derived.ChangeKeysEq
import Derived.Laws.StructEq
import Derived.Laws.CopyOwn
namespace Go.Proofs.FuMem
open Go.RowKit
section
variable {P : Program}

/-- an array of bytes as a value -/
def arrV (l : List UInt8) : Value := .agg (l.map B).toArray
/-- a block that is just an array of bytes -/
def Arr (w : World) (g : Nat) (t : TypeId) (l : List UInt8) : Prop := Blk w g t (l.map B).toArray
theorem Arr.bs {w : World} {g : Nat} {t : TypeId} {l : List UInt8} (h : Arr w g t l) : Bs w (some ⟨g, 0, none⟩) l.length l := Sl.of_blk h 0 (by rw [List.drop_zero, List.take_of_length_le (by simp)]) (by simp)
theorem Arr.only {w w' : World} {S : List Nat} {g : Nat} {t : TypeId} {l : List UInt8} (h : Arr w g t l) (ho : Only S w w') (hs : g ∉ S) : Arr w' g t l := Blk.only h ho hs
theorem Arr.cell {w : World} {g : Nat} {t : TypeId} {l : List UInt8} (h : Arr w g t l) (k : Nat) (hk : k < l.length) : w.cell? ⟨g, k, none⟩ = some (.int .u8 ((l.getD k 0).toNat : Int)) := by
  rw [Blk.cell h, List.getElem?_toArray, List.getElem?_map, List.getElem?_eq_getElem hk]
  simp [B, List.getD, hk]
theorem Arr.frozen {w : World} {g : Nat} {t : TypeId} {l : List UInt8} (h : Arr w g t l) (k : Nat) : w.frozen? ⟨g, k, none⟩ = false := Blk.frozen h k
theorem Arr.set {w : World} {g : Nat} {t : TypeId} {l : List UInt8} (h : Arr w g t l) (k : Nat) {x : Int} {y : UInt8} (hx : x = y.toNat) : Arr (w.setCell ⟨g, k, none⟩ (.int .u8 x)) g t (l.set k y) := by
  have := Blk.set h k (.int .u8 x)
  unfold Arr
  rw [List.map_set, show B y = .int .u8 x by rw [hx]; rfl]
  have e : (l.map B).toArray.setIfInBounds k (.int .u8 x) = ((l.map B).set k (.int .u8 x)).toArray := by simp
  rw [e] at this
  exact this
theorem all_B (l : List UInt8) : ((l.map B).toArray).all (·.oneCell') = true := all_oneCell_toArray one_B
theorem Sl.range {w : World} {b o n : Nat} {xs : List Value} (h : Sl w (some ⟨b, o, none⟩) n xs) : w.rangeAt b o xs := fun j v hj => by
  have hl := h.1
  have hjn : j < n := by rw [← hl]; exact (List.getElem?_eq_some_iff.1 hj).1
  rcases h.2 with h0 | ⟨b', o', e, hc⟩
  · omega
  · cases e
    rw [hc j hjn, hj]

/-! ### the operations in a plain region -/
variable {w : World} {ops : Array Oper} {rest : List Oper} {o : Oper} {a : Act} {Q : Exit → Act → World → Prop}
/-- a variable is made -/
theorem wpList_alloc_blk (hgd : o.guard = none) (T : TypeId) (ho : o.op = .alloc T) (z : Value) (hz : (P.info? T).map (·.zero) = some (some z))
    (h : ∀ w', Blk w' w.heap.size T z.cells → Only [] w w' → w'.heap.size = w.heap.size + 1 → wpList P ops Q rest (a.put o.dst (.pointer (some ⟨w.heap.size, 0, none⟩))) w') : wpList P ops Q (o :: rest) a w :=
  wpList_plain hgd fun K hK => by
    have hr : (Instr.alloc T true (.tuple #[])).run P w = .ok (.pointer (some ⟨w.heap.size, 0, none⟩)) (w.alloc (.cells z.cells T)) := by
      cases hq : P.info? T with
      | none => simp [hq] at hz
      | some i =>
        simp [hq] at hz
        simp [Instr.alloc, zeroValue, typeInfo, hq, hz, newVar, newRow]
    unfold Oper.wp
    simp only [execOp, ho, Sem.run_bind, hr, Result.andThen_ok, Sem.run_pure]
    exact hK _ _ (h _ (Blk.new _ _ _) ((Only.refl _ _).alloc _) (by simp))
/-- an array is read -/
theorem wpList_load_arr (hgd : o.guard = none) (T : TypeId) (x : Operand) (ho : o.op = .load T x) (b off : Nat) (hx : a.eval x = .pointer (some ⟨b, off, none⟩)) (l : List UInt8)
    (hc : Bs w (some ⟨b, off, none⟩) l.length l) (n : Nat) (e : TypeId) (hu : P.underlying T = some (.array n e)) (hi : (P.info? T).map (·.size) = some l.length)
    (h : wpList P ops Q rest (a.put o.dst (arrV l)) w) : wpList P ops Q (o :: rest) a w :=
  wpList_load_mid hgd T x ho b off hx (l.map B) _ (Sl.range hc) hu rfl (by simpa using hi) h
/-- what was laid over a block -/
def splice (cs : Array Value) (off : Nat) (vs : List Value) : Array Value := (cs.toList.take off ++ vs ++ cs.toList.drop (off + vs.length)).toArray
theorem splice_size (cs : Array Value) (off : Nat) (vs : List Value) (h : off + vs.length ≤ cs.size) : (splice cs off vs).size = cs.size := by simp [splice]; omega
/-- a value of many cells is written into a block -/
theorem wpList_store_blk (hgd : o.guard = none) (T : TypeId) (x y : Operand) (ho : o.op = .store T x y) (g off : Nat) (vs : Array Value) (hx : a.eval x = .pointer (some ⟨g, off, none⟩)) (hy : a.eval y = .agg vs)
    (t : TypeId) (cs : Array Value) (hb : Blk w g t cs) (hfit : off + vs.size ≤ cs.size) (hi : (P.info? T).map (·.size) = some vs.size) (h1 : vs.all (·.oneCell') = true)
    (h : ∀ w', Blk w' g t (splice cs off vs.toList) → Only [g] w w' → w'.heap.size = w.heap.size → wpList P ops Q rest (a.put o.dst undef) w') : wpList P ops Q (o :: rest) a w :=
  wpList_plain hgd fun K hK => by
    have hst := run_storeCells_at P g off t vs.toList 0 cs w hb (by simpa using hfit) (fun v hv => (Array.all_eq_true_iff_forall_mem.1 h1) v (by simpa using hv))
    rw [Nat.add_zero] at hst
    have hr : (Instr.storeAt T (.pointer (some ⟨g, off, none⟩)) (.agg vs)).run P w = .ok () (w.setRow g (splice cs off vs.toList)) := by
      cases hq : P.info? T with
      | none => simp [hq] at hi
      | some i =>
        have hs : vs.size = i.size := by simp [hq] at hi; omega
        simp [Instr.storeAt, Instr.sureAddr, storeVar, sizeOf, typeInfo, hq, Value.cells, hs, hst, splice]
    unfold Oper.wp
    simp only [execOp, ho, hx, hy, Sem.run_bind, hr, Result.andThen_ok, Sem.run_pure]
    exact hK _ _ (h _ (hb.row _) ((Only.refl _ _).setRow (.inl (by simp)) _) (by simp))
/-- builtin copy into a block -/
theorem wpList_copy_blk (hgd : o.guard = none) (d s : Operand) (dT sT : TypeId)
    (ho : o.op = .call { callee := .builtin .copy, args := #[d, s], argTypes := #[dT, sT] }) (elem : TypeId) (hu : P.underlying dT = some (.slice elem)) (hsz : (P.info? elem).map (·.size) = some 1)
    (g off dLen dCap : Nat) (A : Option Addr) (n c : Nat) (hd : a.eval d = .slice (some ⟨g, off, none⟩) dLen dCap) (hs : a.eval s = .slice A n c)
    (t : TypeId) (cs : Array Value) (hb : Blk w g t cs) (hfit : off + dLen ≤ cs.size) (xs : List Value) (hx : Sl w A n xs) (h1 : ∀ v ∈ xs, v.oneCell' = true)
    (h : ∀ w', Blk w' g t (splice cs off (xs.take dLen)) → Only [g] w w' → w'.heap.size = w.heap.size → wpList P ops Q rest (a.put o.dst (goInt ((min n dLen : Nat) : Int))) w') : wpList P ops Q (o :: rest) a w := by
  have hl := hx.1
  by_cases h0 : min n dLen = 0
  · refine wpList_copy_nothing hgd d s dT sT ho elem hu hsz _ _ dLen dCap n c hd hs h0 ?_
    have he : xs.take dLen = [] := by
      apply List.eq_nil_of_length_eq_zero
      rw [List.length_take, hl, Nat.min_comm]
      exact h0
    have := h w (by rw [he]; unfold splice; simpa using hb) (Only.refl _ _) rfl
    rw [h0] at this
    exact this
  · obtain ⟨b, f, rfl, hc⟩ := hx.at_ (by omega)
    have hlen : (xs.take dLen).length = min n dLen := by rw [List.length_take, hl, Nat.min_comm]
    refine wpList_copy_own hgd d s dT sT ho elem hu hsz g off dLen dCap _ n c hd hs cs t hb (xs.take dLen) hlen (fun j v hj => ?_) (by rw [hlen]; omega) (fun v hv => h1 v (List.mem_of_mem_take hv)) ?_
    · have hjl : j < (xs.take dLen).length := (List.getElem?_eq_some_iff.1 hj).1
      rw [hlen] at hjl
      rw [Addr.add_lit, hc j (by omega)]
      rw [List.getElem?_take_of_lt (by omega), List.getElem?_eq_getElem (by omega)] at hj
      exact hj
    · rw [hlen]
      refine h _ ?_ ((Only.refl _ _).setRow (.inl (by simp)) _) (by simp)
      have := hb.row (g := g) (cs.toList.take off ++ (xs.take dLen ++ cs.toList.drop (off + (xs.take dLen).length))).toArray
      rw [hlen] at this
      unfold splice
      rw [hlen, List.append_assoc]
      exact this

/-! ### the same, of blocks that are just arrays of bytes -/
theorem wpList_alloc_arr (hgd : o.guard = none) (T : TypeId) (ho : o.op = .alloc T) (l : List UInt8) (hz : (P.info? T).map (·.zero) = some (some (arrV l)))
    (h : ∀ w', Arr w' w.heap.size T l → Only [] w w' → w'.heap.size = w.heap.size + 1 → wpList P ops Q rest (a.put o.dst (.pointer (some ⟨w.heap.size, 0, none⟩))) w') : wpList P ops Q (o :: rest) a w :=
  wpList_alloc_blk hgd T ho (arrV l) hz h
theorem wpList_store_arr (hgd : o.guard = none) (T : TypeId) (x y : Operand) (ho : o.op = .store T x y) (g : Nat) (l : List UInt8) (hx : a.eval x = .pointer (some ⟨g, 0, none⟩)) (hy : a.eval y = arrV l)
    (t : TypeId) (k : List UInt8) (hb : Arr w g t k) (hlen : k.length = l.length) (hi : (P.info? T).map (·.size) = some l.length)
    (h : ∀ w', Arr w' g t l → Only [g] w w' → w'.heap.size = w.heap.size → wpList P ops Q rest (a.put o.dst undef) w') : wpList P ops Q (o :: rest) a w :=
  wpList_store_blk hgd T x y ho g 0 (l.map B).toArray hx hy t _ hb (by simp [hlen]) (by simpa using hi) (all_B l) fun w' h1 h2 h3 => h w' (by
    have e : splice (k.map B).toArray 0 (l.map B).toArray.toList = (l.map B).toArray := by
      unfold splice
      simp only [List.take_zero, List.nil_append, Nat.zero_add]
      rw [List.drop_eq_nil_of_le (by simp [hlen]), List.append_nil]
    rw [e] at h1
    exact h1) h2 h3
theorem wpList_copy_arr (hgd : o.guard = none) (d s : Operand) (dT sT : TypeId)
    (ho : o.op = .call { callee := .builtin .copy, args := #[d, s], argTypes := #[dT, sT] }) (elem : TypeId) (hu : P.underlying dT = some (.slice elem)) (hsz : (P.info? elem).map (·.size) = some 1)
    (g off dLen dCap : Nat) (A : Option Addr) (n c : Nat) (hd : a.eval d = .slice (some ⟨g, off, none⟩) dLen dCap) (hs : a.eval s = .slice A n c)
    (t : TypeId) (k : List UInt8) (hb : Arr w g t k) (hfit : off + dLen ≤ k.length) (l : List UInt8) (hx : Bs w A n l)
    (h : ∀ w', Arr w' g t (FuCode.over k off (l.take dLen)) → Only [g] w w' → w'.heap.size = w.heap.size → wpList P ops Q rest (a.put o.dst (goInt ((min n dLen : Nat) : Int))) w') : wpList P ops Q (o :: rest) a w :=
  wpList_copy_blk hgd d s dT sT ho elem hu hsz g off dLen dCap A n c hd hs t _ hb (by simpa using hfit) (l.map B) hx one_B fun w' h1 h2 h3 => h w' (by
    have e : splice (k.map B).toArray off ((l.map B).take dLen) = ((FuCode.over k off (l.take dLen)).map B).toArray := by
      unfold splice FuCode.over
      simp
    rw [e] at h1
    exact h1) h2 h3

/-- the zero array, built -/
theorem wpList_build_zero (hgd : o.guard = none) (T : TypeId) (ho : o.op = .build T #[]) (l : List UInt8) (hz : (P.info? T).map (·.zero) = some (some (arrV l))) (n : Nat) (e : TypeId) (hu : P.underlying T = some (.array n e)) (i : TypeInfo) (he : P.info? e = some i)
    (h : wpList P ops Q rest (a.put o.dst (arrV l)) w) : wpList P ops Q (o :: rest) a w :=
  wpList_plain hgd fun K hK => by
    have hr : (Instr.build T #[]).run P w = .ok (arrV l) w := by
      cases hq : P.info? T with
      | none => simp [hq] at hz
      | some j =>
        simp [hq] at hz
        simp [Instr.build, zeroValue, typeInfo, hq, hz, run_underlying hu, sizeOf, he, Instr.fill]
        rfl
    unfold Oper.wp
    simp only [execOp, ho, List.map_toArray, List.map_nil, Sem.run_bind, hr, Result.andThen_ok, Sem.run_pure]
    exact hK _ _ h
/-- two results, of which the first one is an array in memory -/
theorem results_arr_tmp {fn : Func} {p u : Tmp} {ty : TypeId} (h : fn.results = #[.cell p ty, .tmp u]) (tmps : Array Value) (w : World) (g : Nat) (l : List UInt8) (hb : Arr w g ty l)
    (hp : tmps.getD p undef = .pointer (some ⟨g, 0, none⟩)) (n : Nat) (e : TypeId) (hu : P.underlying ty = some (.array n e)) (hi : (P.info? ty).map (·.size) = some l.length) :
    (results fn tmps).run P w = .ok (.tuple #[arrV l, tmps.getD u undef]) w := by
  have hp' : tmps[p]?.getD undef = .pointer (some ⟨g, 0, none⟩) := by simpa using hp
  have hr := run_loadVar_row (P := P) w g ty ty (l.map B).toArray (0, 0) _ hb hu rfl (by simpa using hi)
  simp [results, h, hp', asAddr, hr, arrV]

/-- 'arr[a:]' through an array's address -/
theorem run_sliceAt_low {T e : TypeId} {N : Nat} (hu : P.underlying T = some (.array N e)) (i : TypeInfo) (he : P.info? e = some i) (hs : i.size = 1) (b off a : Nat) (ha : a < N) (w : World) :
    (Instr.sliceAt T (.pointer (some ⟨b, off, none⟩)) (some (.int .i64 a)) none none).run P w = .ok (.slice (some ⟨b, off + a, none⟩) (N - a) (N - a)) w := by
  have h1 : ¬ N = a := by omega
  have h2 : a ≤ N := by omega
  simp [Instr.sliceAt, Instr.sureAddr, Instr.sliceBounds, Instr.sliceBound, asIntOf, run_underlying hu, sizeOf, typeInfo, he, hs, h1, h2, Addr.add_lit]
theorem run_sliceAt_end {T e : TypeId} {N : Nat} (hu : P.underlying T = some (.array N e)) (i : TypeInfo) (he : P.info? e = some i) (b off : Nat) (w : World) :
    (Instr.sliceAt T (.pointer (some ⟨b, off, none⟩)) (some (.int .i64 N)) none none).run P w = .ok (.slice (some ⟨b, off, none⟩) 0 0) w := by
  have h2 : (0 : Int) ≤ N := by omega
  simp [Instr.sliceAt, Instr.sureAddr, Instr.sliceBounds, Instr.sliceBound, asIntOf, run_underlying hu, sizeOf, typeInfo, he, h2]

/-! ### two arrays of bytes -/
theorem run_eqItems_bytes (d : Nat) (e : TypeId) (i : TypeInfo) (he : P.underlying e = some (.int .u8)) (hi : P.info? e = some i) (hs : i.size = 1) (l k : List UInt8) (w : World) : ∀ is : List Nat, (∀ j ∈ is, j < l.length ∧ j < k.length) →
    (Op.eqItems (d + 1) e 1 (l.map B).toArray (k.map B).toArray is).run P w = .ok (is.all fun j => l[j]? == k[j]?) w
  | [], _ => by simp [Op.eqItems]
  | j :: is, h => by
    obtain ⟨h1, h2⟩ := h j (by simp)
    have ih := run_eqItems_bytes d e i he hi hs l k w is (fun j hj => h j (by simp [hj]))
    have hp : ∀ (m : List UInt8) (hm : j < m.length), (part e (m.map B).toArray (j * 1)).run P w = .ok (B m[j]) w := fun m hm => by
      simp [part, isAgg, run_underlying he, hm]
    simp only [Op.eqItems, Sem.run_bind, hp l h1, hp k h2, Result.andThen_ok]
    rw [show (Op.equalIn (d + 1) e (B l[j]) (B k[j])).run P w = .ok (l[j] == k[j]) w by
      have := run_equalIn_int (P := P) w d e .u8 .u8 (l[j].toNat : Int) (k[j].toNat : Int) he
      unfold B
      rw [this]
      congr 1
      rw [Bool.eq_iff_iff, beq_iff_eq, beq_iff_eq]
      exact ⟨fun h => UInt8.toNat_inj.1 (Int.ofNat.inj h), fun h => by rw [h]⟩]
    simp only [Result.andThen_ok, List.all_cons, List.getElem?_eq_getElem h1, List.getElem?_eq_getElem h2]
    by_cases hq : l[j] = k[j]
    · simp [hq, ih]
    · simp [hq]
theorem all_same (l k : List UInt8) (n : Nat) (hl : l.length = n) (hk : k.length = n) : ((List.range n).all fun j => l[j]? == k[j]?) = (l == k) := by
  rw [Bool.eq_iff_iff, List.all_eq_true, beq_iff_eq]
  constructor
  · intro h
    apply List.ext_getElem?
    intro i
    by_cases hi : i < n
    · simpa using h i (by simpa using hi)
    · rw [List.getElem?_eq_none (by omega), List.getElem?_eq_none (by omega)]
  · rintro rfl
    simp
theorem run_equalIn_arr (d : Nat) {T e : TypeId} {n : Nat} (hu : P.underlying T = some (.array n e)) (he : P.underlying e = some (.int .u8)) (i : TypeInfo) (hi : P.info? e = some i) (hs : i.size = 1) (l k : List UInt8) (hl : l.length = n) (hk : k.length = n) (w : World) :
    (Op.equalIn (d + 2) T (arrV l) (arrV k)).run P w = .ok (l == k) w := by
  unfold arrV
  rw [run_equalIn_array w (d + 1) _ _ hu hi, show P.cellsOf e = 1 by simp [Program.cellsOf, hi, hs], run_eqItems_bytes d e i he hi hs l k w _ (fun j hj => by have := List.mem_range.1 hj; omega), all_same l k n hl hk]
theorem run_neq_arr {T e : TypeId} {n : Nat} (hu : P.underlying T = some (.array n e)) (he : P.underlying e = some (.int .u8)) (i : TypeInfo) (hi : P.info? e = some i) (hs : i.size = 1) (l k : List UInt8) (hl : l.length = n) (hk : k.length = n) (w : World) :
    (binOp .neq T (arrV l) (arrV k)).run P w = .ok (.bool (l != k)) w := by
  unfold arrV
  rw [run_neq_struct]
  have := run_equalIn_arr 9998 hu he i hi hs l k hl hk w
  unfold arrV at this
  rw [this]
  rfl

/-! ### a region that draws its order and only makes memory: one walk in the text's order -/
/-- a world behind w0: all blocks of w0 are as they were -/
structure Later (w0 : World) where
  w : World
  only : Only [] w0 w
instance (w0 : World) : Nonempty (Later w0) := ⟨⟨w0, Only.refl _ _⟩⟩
theorem wp_region_later {id : Nat} {Q : Exit → Act → World → Prop} {a : Act} (w : World) {l : List Oper} (hm : P.follows .mixedOrders = true) (hB : Region.lexB .any l.toArray = true)
    (h : wpQuiet P l.toArray (fun w' => ∃ p : Later w, w' = p.w) (fun a' => ∀ w', (∃ p : Later w, w' = p.w) → Q .normal a' w') l a) : (Code.region id l.toArray true).wp P Q a w :=
  wp_region_quiet (C := fun w' => ∃ p : Later w, w' = p.w) hm hB ⟨⟨w.drew, (Only.refl _ _).drew⟩, rfl⟩ (by simpa using h)
/-- a call inside such a region -/
theorem Calls.later {w0 : World} {p : Later w0} {f : FuncId} {args : Array Value} {v : Value} (h : Calls P f args p.w fun e w' => e = .returned v ∧ Only [] p.w w') :
    Calls P f args p.w fun e w'' => e = .returned v ∧ ∃ q : Later w0, w'' = q.w :=
  h.mono fun _ w' ⟨he, ho⟩ => ⟨he, ⟨w', p.only.trans0 ho⟩, rfl⟩
theorem Calls.later_same {w0 : World} {p : Later w0} {f : FuncId} {args : Array Value} {v : Value} (h : Calls P f args p.w fun e w' => e = .returned v ∧ p.w = w') :
    Calls P f args p.w fun e w'' => e = .returned v ∧ ∃ q : Later w0, w'' = q.w :=
  h.mono fun _ _ ⟨he, ho⟩ => ⟨he, p, ho.symm⟩
theorem Later.cell {w0 : World} (p : Later w0) {b o : Nat} {v : Value} (h : w0.cell? ⟨b, o, none⟩ = some v) : p.w.cell? ⟨b, o, none⟩ = some v := by
  have hlt := lt_of_cell h
  rw [cell_only p.only hlt (by simp)]
  exact h
/-- an array is read, in each world behind w0 -/
theorem later_load_arr {w0 : World} (T : TypeId) (b off : Nat) (l : List UInt8) (hc : Bs w0 (some ⟨b, off, none⟩) l.length l) (n : Nat) (e : TypeId) (hu : P.underlying T = some (.array n e)) (hi : (P.info? T).map (·.size) = some l.length)
    (p : Later w0) : (Instr.loadAt T (.pointer (some ⟨b, off, none⟩))).run P p.w = .ok (arrV l) p.w :=
  run_loadAt_mid p.w b off T (l.map B) _ (Sl.range (hc.only0 p.only)) hu rfl (by simpa using hi)
/-- .. as a step of such a region -/
theorem later_load {w0 : World} {Q : Act → Prop} (hw : Region.wanted o (yielded ops a.tmps) = true) (T : TypeId) (x : Operand) (ho : o.op = .load T x) (b off : Nat) (hx : a.eval x = .pointer (some ⟨b, off, none⟩)) (l : List UInt8)
    (hc : Bs w0 (some ⟨b, off, none⟩) l.length l) (n : Nat) (e : TypeId) (hu : P.underlying T = some (.array n e)) (hi : (P.info? T).map (·.size) = some l.length)
    (h : wpQuiet P ops (fun w' => ∃ p : Later w0, w' = p.w) Q rest (a.put o.dst (arrV l))) : wpQuiet P ops (fun w' => ∃ p : Later w0, w' = p.w) Q (o :: rest) a :=
  wpQuiet_step fun K hK => by
    rw [if_pos hw]
    refine ⟨arrV l, fun w' ⟨p, hp⟩ => ?_, hK _ h⟩
    subst hp
    unfold Oper.quietAt execOp
    simp only [ho, hx, Sem.run_bind, later_load_arr T b off l hc n e hu hi p, Result.andThen_ok, Sem.run_pure]
    exact ⟨rfl, rfl⟩
theorem eqGuard_arr {T : TypeId} (hm : P.eqGuardType P.depth T = false) (op : BinOp) (x y : Operand) (l k : List UInt8) (w : World) : (eqGuard op T x y (arrV l) (arrV k)).run P w = .ok () w :=
  run_eqGuard_agg (P := P) w op T x y _ _ hm
end
end Go.Proofs.FuMem
