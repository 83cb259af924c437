/- Words for memory, over any program: a slice that reads as a list of cells; a block that is known whole; what a call has left alone; the laws of append, make and string conversion in these words. -/
import Derived.Below
import Derived.WalkKit
import Derived.Lib.Hide
import Derived.Laws.BytesArg
import Derived.Laws.MakeOwn
import Derived.Laws.AppendOwn
import Derived.Laws.OwnMore
import Derived.Deep.Draws
import Derived.Laws.Rows
import Derived.Maps.AppendAt
import Derived.Deep.AppendLies
import Derived.OwnWalk
namespace Go.Proofs.FuMem
open Go.RowKit

/-! ### results -/
theorem ret_int {k : IntKind} {a b : Int} (h : a = b) : Ending.returned (.int k a) = .returned (.int k b) := by rw [h]
theorem ret_bool {a b : Bool} (h : a = b) : Ending.returned (.bool a) = .returned (.bool b) := by rw [h]

/-! ### a block that is known whole -/
def Blk (w : World) (g : Nat) (t : TypeId) (cs : Array Value) : Prop := w.heap[g]? = some (.cells cs t (0, 0))
section
variable {w w' : World} {g : Nat} {t : TypeId} {cs : Array Value}
theorem Blk.lt (h : Blk w g t cs) : g < w.heap.size := (Array.getElem?_eq_some_iff.1 h).1
theorem Blk.cell (h : Blk w g t cs) (i : Nat) : w.cell? ⟨g, i, none⟩ = cs[i]? := cell_of_row w g i cs t (0, 0) h
theorem Blk.frozen (h : Blk w g t cs) (i : Nat) : w.frozen? ⟨g, i, none⟩ = false := by
  unfold Blk at h
  simp [World.frozen?, h]
theorem Blk.some_ (h : Blk w g t cs) {i : Nat} (hi : i < cs.size) : ∃ v, w.cell? ⟨g, i, none⟩ = some v := ⟨cs[i], by rw [h.cell]; simp [hi]⟩
theorem Blk.new (w : World) (t : TypeId) (cs : Array Value) : Blk (w.alloc (.cells cs t)) w.heap.size t cs := heap_alloc_new w _
theorem Blk.set (h : Blk w g t cs) (i : Nat) (u : Value) : Blk (w.setCell ⟨g, i, none⟩ u) g t (cs.setIfInBounds i u) := by
  unfold Blk at h ⊢
  simp [World.setCell, Array.getElem?_modify, h]
theorem Blk.row (h : Blk w g t cs) (ds : Array Value) : Blk (w.setRow g ds) g t ds := setRow_heap w g cs ds t (0, 0) h
end

/-! ### what is left alone -/
structure Only (S : List Nat) (w w' : World) : Prop where
  os : w'.os = w.os
  tape : w'.tape = w.tape
  output : w'.output = w.output
  size : w.heap.size ≤ w'.heap.size
  block : ∀ k, k < w.heap.size → k ∉ S → w'.heap[k]? = w.heap[k]?
section
variable {w w' w'' : World} {S T : List Nat} {g : Nat} {t : TypeId} {cs : Array Value}
theorem Only.refl (S : List Nat) (w : World) : Only S w w := ⟨rfl, rfl, rfl, Nat.le_refl _, fun _ _ _ => rfl⟩
theorem Only.trans (h : Only S w w') (k : Only T w' w'') (ht : ∀ b ∈ T, b ∈ S ∨ w.heap.size ≤ b) : Only S w w'' :=
  ⟨k.os.trans h.os, k.tape.trans h.tape, k.output.trans h.output, Nat.le_trans h.size k.size, fun i hi hn =>
    (k.block i (Nat.lt_of_lt_of_le hi h.size) (fun hm => by rcases ht i hm with h1 | h1; exact hn h1; omega)).trans (h.block i hi hn)⟩
theorem Only.mono (h : Only S w w') (hs : ∀ b ∈ S, b ∈ T) : Only T w w' := ⟨h.os, h.tape, h.output, h.size, fun i hi hn => h.block i hi fun hm => hn (hs i hm)⟩
theorem Only.trans0 (h : Only S w w') (k : Only [] w' w'') : Only S w w'' := h.trans k (by simp)
theorem Only.alloc (h : Only S w w') (o : Obj) : Only S w (w'.alloc o) :=
  ⟨h.os, h.tape, h.output, Nat.le_trans h.size (by simp), fun i hi hn => (Below.heap_alloc w' o i (Nat.lt_of_lt_of_le hi h.size)).trans (h.block i hi hn)⟩
theorem Only.setCell (h : Only S w w') {p : Addr} (hp : p.block ∈ S ∨ w.heap.size ≤ p.block) (u : Value) : Only S w (w'.setCell p u) :=
  ⟨h.os, h.tape, h.output, by simpa [World.setCell] using h.size, fun i hi hn => (Below.heap_setCell w' p u i (by
    rintro rfl
    rcases hp with hp | hp
    · exact hn hp
    · omega)).trans (h.block i hi hn)⟩
theorem Only.setRow (h : Only S w w') (hp : g ∈ S ∨ w.heap.size ≤ g) (ds : Array Value) : Only S w (w'.setRow g ds) :=
  ⟨h.os, h.tape, h.output, by simpa using h.size, fun i hi hn => (setRow_other w' g i ds (by
    rintro rfl
    rcases hp with hp | hp
    · exact hn hp
    · omega)).trans (h.block i hi hn)⟩
theorem Only.drew (h : Only S w w') : Only S w w'.drew := ⟨h.os, h.tape, h.output, h.size, h.block⟩
theorem Only.drewN (h : Only S w w') (n : Nat) : Only S w (w'.drewN n) := ⟨h.os, h.tape, h.output, h.size, h.block⟩
theorem Only.below (h : Only S w w') {B : Nat} (hB : B ≤ w.heap.size) (hs : ∀ b ∈ S, B ≤ b) : Below B w w' :=
  ⟨h.os, h.tape, h.output, h.size, fun i hi => h.block i (by omega) (fun hm => by have := hs i hm; omega)⟩
theorem Only.below0 (h : Only [] w w') : Below w.heap.size w w' := h.below (Nat.le_refl _) (by simp)
theorem Only.of_below (h : Below w.heap.size w w') : Only [] w w' := ⟨h.os, h.tape, h.output, h.size, fun i hi _ => h.block i hi⟩
theorem Only.of_grown {row : Option Nat} (h : w.grownBy w' row) (hr : ∀ k, row = some k → k ∈ S ∨ w.heap.size ≤ k) : Only S w w' :=
  ⟨h.os, h.tape, h.output, h.size, fun i hi hn => h.block i hi fun e => by
    rcases hr i e.symm with h1 | h1
    · exact hn h1
    · omega⟩
theorem Blk.only (h : Blk w g t cs) (ho : Only S w w') (hg : g ∉ S) : Blk w' g t cs := (ho.block g h.lt hg).trans h
theorem cell_only (ho : Only S w w') {b o : Nat} (hb : b < w.heap.size) (hn : b ∉ S) : w'.cell? ⟨b, o, none⟩ = w.cell? ⟨b, o, none⟩ := World.cell?_of_block (ho.block b hb hn)
theorem lt_of_cell {b o : Nat} {v : Value} (h : w.cell? ⟨b, o, none⟩ = some v) : b < w.heap.size := by
  unfold World.cell? at h
  rcases Nat.lt_or_ge b w.heap.size with hlt | hge
  · exact hlt
  · simp [Array.getElem?_eq_none hge] at h
end

/-! ### a slice that reads as a list of cells -/
/-- the slice value '.slice A n _' holds the cells xs (one cell an element), below block number H -/
def Sl (w : World) (A : Option Addr) (n : Nat) (xs : List Value) : Prop :=
  xs.length = n ∧ (n = 0 ∨ ∃ b off, A = some ⟨b, off, none⟩ ∧ ∀ k, k < n → w.cell? ⟨b, off + k, none⟩ = xs[k]?)
section
variable {w w' : World} {S : List Nat} {A : Option Addr} {n : Nat} {xs : List Value}
theorem Sl.nil (w : World) (A : Option Addr) : Sl w A 0 [] := ⟨rfl, .inl rfl⟩
theorem Sl.at_ (h : Sl w A n xs) (hn : 0 < n) : ∃ b off, A = some ⟨b, off, none⟩ ∧ ∀ k (hk : k < xs.length), w.cell? ⟨b, off + k, none⟩ = some xs[k] := by
  have hl := h.1
  rcases h.2 with h0 | ⟨b, off, e, hc⟩
  · omega
  · exact ⟨b, off, e, fun k hk => by rw [hc k (by omega), List.getElem?_eq_getElem hk]⟩
theorem Sl.lt (h : Sl w A n xs) (hn : 0 < n) {b off : Nat} {s : Option Nat} (e : A = some ⟨b, off, s⟩) : b < w.heap.size := by
  obtain ⟨b', off', e', hc⟩ := h.at_ hn
  rw [e'] at e
  cases e
  exact lt_of_cell (hc 0 (by rw [h.1]; exact hn))
theorem Sl.only (h : Sl w A n xs) (ho : Only S w w') (hs : ∀ b off s, A = some ⟨b, off, s⟩ → b ∉ S) : Sl w' A n xs := by
  refine ⟨h.1, ?_⟩
  by_cases hn : 0 < n
  · obtain ⟨b, off, e, hc⟩ := h.at_ hn
    exact .inr ⟨b, off, e, fun k hk => by
      have hk' : k < xs.length := by rw [h.1]; exact hk
      rw [cell_only ho (h.lt hn e) (hs b off none e), hc k hk', List.getElem?_eq_getElem hk']⟩
  · exact .inl (by omega)
theorem Sl.only0 (h : Sl w A n xs) (ho : Only [] w w') : Sl w' A n xs := h.only ho (by simp)
theorem Sl.of_blk {g : Nat} {t : TypeId} {cs : Array Value} (h : Blk w g t cs) (off : Nat) (hx : xs = (cs.toList.drop off).take n) (hl : off + n ≤ cs.size) : Sl w (some ⟨g, off, none⟩) n xs := by
  subst hx
  refine ⟨by simp; omega, .inr ⟨g, off, rfl, fun k hk => ?_⟩⟩
  rw [h.cell, List.getElem?_take_of_lt hk, List.getElem?_drop, Array.getElem?_toList]
theorem Sl.of_own {base : Nat} {e : TypeId} {c : Nat} (h : w.ownsRow base e 1 (.slice A n c) n xs) : Sl w A n xs := by
  rcases h.2 with ⟨e1, e2⟩ | ⟨g, cap, cur, hv, hbg, hg, hnc, hcm, hcs, htake⟩
  · subst e2
    exact ⟨by simpa using h.1, .inl rfl⟩
  · cases hv
    exact Sl.of_blk (t := e) (cs := cur) hg 0 (by simpa using htake.symm) (by omega)
theorem own_slice {base : Nat} {e : TypeId} {size : Nat} {v : Value} (h : w.ownsRow base e size v n xs) : ∃ A c, v = .slice A n c ∧ n ≤ c ∧ ∀ b off s, A = some ⟨b, off, s⟩ → base ≤ b ∧ b < w.heap.size := by
  rcases h.2 with ⟨e1, e2⟩ | ⟨g, cap, cur, hv, hbg, hg, hnc, hcm, hcs, htake⟩
  · subst e2
    exact ⟨none, 0, e1, Nat.le_refl _, by simp⟩
  · exact ⟨_, _, hv, hnc, fun b off s e => by cases e; exact ⟨hbg, (Array.getElem?_eq_some_iff.1 hg).1⟩⟩
theorem own_only {base : Nat} {e : TypeId} {size : Nat} {v : Value} (h : w.ownsRow base e size v n xs) (ho : Only S w w') (hs : ∀ k, v.ownBlock = some k → k ∉ S) : w'.ownsRow base e size v n xs := by
  refine ⟨h.1, ?_⟩
  rcases h.2 with h0 | ⟨g, cap, cur, rfl, hbg, hg, hnc, hcm, hcs, htake⟩
  · exact .inl h0
  · exact .inr ⟨g, cap, cur, rfl, hbg, (ho.block g (Array.getElem?_eq_some_iff.1 hg).1 (hs g rfl)).trans hg, hnc, hcm, hcs, htake⟩
/-- a cut 's[i:j]' -/
theorem Sl.cut (h : Sl w A n xs) {i j : Nat} (hij : i ≤ j) (hj : j ≤ n) : Sl w (A.map (·.add i)) (j - i) ((xs.drop i).take (j - i)) := by
  refine ⟨by simp [h.1]; omega, ?_⟩
  by_cases hn : i < j
  · obtain ⟨b, off, rfl, hc⟩ := h.at_ (by omega)
    refine .inr ⟨b, off + i, by unfold Addr.add; split <;> simp_all, fun k hk => ?_⟩
    have := h.1
    rw [List.getElem?_take_of_lt hk, List.getElem?_drop, List.getElem?_eq_getElem (by omega), ← hc (i + k) (by omega), Nat.add_assoc]
  · exact .inl (by omega)
end

/-! ### bytes -/
/-- a byte's cell -/
def B (x : UInt8) : Value := .int .u8 x.toNat
/-- the slice holds these bytes -/
def Bs (w : World) (A : Option Addr) (n : Nat) (l : List UInt8) : Prop := Sl w A n (l.map B)
section
variable {w w' : World} {S : List Nat} {A : Option Addr} {n : Nat} {l : List UInt8}
theorem byte_bd (x : UInt8) : 0 ≤ (x.toNat : Int) ∧ (x.toNat : Int) < 256 := by have := x.toNat_lt; omega
theorem Bs.len (h : Bs w A n l) : l.length = n := by simpa [Bs, Sl] using h.1
theorem Bs.at_ (h : Bs w A n l) (hn : 0 < n) : ∃ b off, A = some ⟨b, off, none⟩ ∧ ∀ k (hk : k < l.length), w.cell? ⟨b, off + k, none⟩ = some (.int .u8 (l[k].toNat : Int)) := by
  obtain ⟨b, off, e, hc⟩ := Sl.at_ h hn
  exact ⟨b, off, e, fun k hk => by rw [hc k (by simpa using hk), List.getElem_map]; rfl⟩
theorem Bs.nil (w : World) (A : Option Addr) : Bs w A 0 [] := Sl.nil w A
theorem Bs.only (h : Bs w A n l) (ho : Only S w w') (hs : ∀ b off s, A = some ⟨b, off, s⟩ → b ∉ S) : Bs w' A n l := Sl.only h ho hs
theorem Bs.only0 (h : Bs w A n l) (ho : Only [] w w') : Bs w' A n l := Sl.only0 h ho
theorem one_B : ∀ u ∈ l.map B, u.oneCell' = true := by
  intro u hu
  obtain ⟨x, _, rfl⟩ := List.mem_map.1 hu
  rfl
theorem getD_map_toNat (l : List UInt8) (i : Nat) (h : i < l.length) : (l.map fun x => (x.toNat : Int)).getD i 0 = (l[i].toNat : Int) := by
  simp [List.getD, h]
/-- string(b) -/
theorem run_str {P : Program} {src dst e : TypeId} (hs : P.underlying src = some (.slice e)) (he : P.underlying e = some (.int .u8)) (hd : P.underlying dst = some .string) (h : Bs w A n l) (c : Nat) :
    (convert src dst (.slice A n c)).run P w = .ok (.string ⟨l.toArray⟩) w := by
  have hl := h.len
  by_cases hn : 0 < n
  · obtain ⟨b, off, rfl, hc⟩ := h.at_ hn
    have := run_convert_bytes_arg (P := P) w src e hs he b off n c (l.map fun x => (x.toNat : Int)) (by simpa using hl) (fun i hi => by rw [getD_map_toNat l i (by omega)]; exact hc i (by omega)) dst hd
    rw [this]
    simp [strOfNums, Function.comp_def]
  · obtain rfl : n = 0 := by omega
    obtain rfl : l = [] := List.eq_nil_of_length_eq_zero hl
    rw [run_convert_bytes_string w src dst e _ 0 c hs he hd]
    cases A <;> simp [Conv.bytesToString, loadCells]
    all_goals rfl
end

/-! ### append -/
section
variable {P : Program} (w : World)
theorem run_load0 (a : Addr) : (loadCells a 0).run P w = .ok #[] w := by rfl
theorem run_append_of_nil (base : Nat) (t ty e : TypeId) (i : TypeInfo) (size : Nat) (ht : P.underlying t = some (.slice e)) (hi : P.info? e = some i)
    (v : Value) (n : Nat) (xs : List Value) (hown : w.ownsRow base e size v n xs) (A : Option Addr) (c : Nat) : (Builtin.append_ #[t, t] ty #[v, .slice A 0 c]).run P w = .ok v w := by
  rcases hown.2 with ⟨rfl, rfl⟩ | ⟨g, cap, cur, rfl, _, _, hnc, _⟩
  · cases A <;> simp [Builtin.append_, run_underlying ht, sizeOf, typeInfo, hi, Builtin.lenOf, Builtin.firstCells, run_load0]
  · cases A <;> simp [Builtin.append_, run_underlying ht, sizeOf, typeInfo, hi, Builtin.lenOf, Builtin.firstCells, hnc, storeCells, run_load0]
theorem run_append_sl (base : Nat) (t ty e : TypeId) (i : TypeInfo) (z : Value) (bytes : Nat) (ht : P.underlying t = some (.slice e)) (hi : P.info? e = some i) (hz : i.zero = some z)
    (hsize : i.size = 1) (hby : i.bytes = bytes) (hzs : z.cells.size = 1)
    (v : Value) (n : Nat) (xs : List Value) (hown : w.ownsRow base e 1 v n xs)
    (A : Option Addr) (m c : Nat) (news : List Value) (hr : Sl w A m news) (h1 : ∀ u ∈ news, u.oneCell' = true)
    (h63 : n + m ≤ maxLen) (hbytes : (n + m) * bytes ≤ 140737488355328) (hbase : base ≤ w.heap.size) :
    ∃ v' w', (Builtin.append_ #[t, t] ty #[v, .slice A m c]).run P w = .ok v' w' ∧ w'.ownsRow base e 1 v' (n + m) (xs ++ news) ∧ w.grownBy w' v.ownBlock ∧
      (v'.ownBlock = v.ownBlock ∨ v'.ownBlock = some w.heap.size) := by
  by_cases hm : 0 < m
  · obtain ⟨b, off, rfl, hc⟩ := hr.at_ hm
    have hcells : ∀ j u, news[j]? = some u → w.cell? ((⟨b, off, none⟩ : Addr).add j) = some u := by
      intro j u hu
      obtain ⟨hj, e2⟩ := List.getElem?_eq_some_iff.1 hu
      rw [Addr.add_lit, hc j hj, e2]
    obtain ⟨v', w', hrun, h2, h3, _, h5⟩ := run_append_own_at (P := P) w base t ty e i z 1 bytes ht hi hz hsize hby hzs (by omega) v n xs hown _ m c news (by rw [hr.1, Nat.mul_one]) hcells h1 h63 hbytes hbase
    exact ⟨v', w', hrun, h2, h3, h5⟩
  · obtain rfl : m = 0 := by omega
    obtain rfl : news = [] := List.eq_nil_of_length_eq_zero hr.1
    exact ⟨v, w, run_append_of_nil w base t ty e i 1 ht hi v n xs hown A c, by simpa using hown, World.grownBy.refl w _, .inl rfl⟩
theorem wp_append_sl {o : Oper} {a : Act} {K : Act → World → Prop} {Q : Exit → Act → World → Prop} (s x : Operand) (t : TypeId)
    (ho : o.op = .call { callee := .builtin .append, args := #[s, x], argTypes := #[t, t] })
    (base : Nat) (e : TypeId) (i : TypeInfo) (z : Value) (bytes : Nat) (ht : P.underlying t = some (.slice e)) (hi : P.info? e = some i) (hz : i.zero = some z)
    (hsize : i.size = 1) (hby : i.bytes = bytes) (hzs : z.cells.size = 1)
    (v : Value) (n : Nat) (xs : List Value) (hs : a.eval s = v) (hown : w.ownsRow base e 1 v n xs)
    (A : Option Addr) (m c : Nat) (news : List Value) (hx : a.eval x = .slice A m c) (hr : Sl w A m news) (h1 : ∀ u ∈ news, u.oneCell' = true)
    (h63 : n + m ≤ maxLen) (hbytes : (n + m) * bytes ≤ 140737488355328) (hbase : base ≤ w.heap.size)
    (h : ∀ v' w', w'.ownsRow base e 1 v' (n + m) (xs ++ news) → w.grownBy w' v.ownBlock → (v'.ownBlock = v.ownBlock ∨ v'.ownBlock = some w.heap.size) → K (a.put o.dst v') w') : o.wp P a w K Q := by
  obtain ⟨v', w', hrun, h2, h3, h4⟩ := run_append_sl (P := P) w base t o.type e i z bytes ht hi hz hsize hby hzs v n xs hown A m c news hr h1 h63 hbytes hbase
  unfold Oper.wp execOp
  simp only [ho, resolve, invoke, builtin, Sem.run_bind, Sem.run_pure, Result.andThen_ok, List.map_toArray, List.map_cons, List.map_nil, hs, hx, hrun]
  exact h v' w' h2 h3 h4
theorem wpList_append_sl {ops : Array Oper} {rest : List Oper} {o : Oper} {a : Act} {Q : Exit → Act → World → Prop} (hgd : o.guard = none) (s x : Operand) (t : TypeId)
    (ho : o.op = .call { callee := .builtin .append, args := #[s, x], argTypes := #[t, t] })
    (base : Nat) (e : TypeId) (i : TypeInfo) (z : Value) (bytes : Nat) (ht : P.underlying t = some (.slice e)) (hi : P.info? e = some i) (hz : i.zero = some z)
    (hsize : i.size = 1) (hby : i.bytes = bytes) (hzs : z.cells.size = 1)
    (v : Value) (n : Nat) (xs : List Value) (hs : a.eval s = v) (hown : w.ownsRow base e 1 v n xs)
    (A : Option Addr) (m c : Nat) (news : List Value) (hx : a.eval x = .slice A m c) (hr : Sl w A m news) (h1 : ∀ u ∈ news, u.oneCell' = true)
    (h63 : n + m ≤ maxLen) (hbytes : (n + m) * bytes ≤ 140737488355328) (hbase : base ≤ w.heap.size)
    (h : ∀ v' w', w'.ownsRow base e 1 v' (n + m) (xs ++ news) → w.grownBy w' v.ownBlock → (v'.ownBlock = v.ownBlock ∨ v'.ownBlock = some w.heap.size) → wpList P ops Q rest (a.put o.dst v') w') : wpList P ops Q (o :: rest) a w :=
  wpList_plain hgd fun _ hK => wp_append_sl w s x t ho base e i z bytes ht hi hz hsize hby hzs v n xs hs hown A m c news hx hr h1 h63 hbytes hbase fun v' w' h2 h3 h4 => hK _ _ (h v' w' h2 h3 h4)
/-- append within the capacity of a block that is known whole: the world is known -/
theorem run_append_blk (t ty e : TypeId) (i : TypeInfo) (ht : P.underlying t = some (.slice e)) (hi : P.info? e = some i) (hsize : i.size = 1)
    (g n cap : Nat) (cs : Array Value) (hb : Blk w g e cs) (A : Option Addr) (m c : Nat) (news : List Value) (hr : Sl w A m news) (h1 : ∀ u ∈ news, u.oneCell' = true) (hroom : n + m ≤ cap) (hfit : n + m ≤ cs.size) :
    (Builtin.append_ #[t, t] ty #[.slice (some ⟨g, 0, none⟩) n cap, .slice A m c]).run P w =
      .ok (.slice (some ⟨g, 0, none⟩) (n + m) cap) (w.setRow g (cs.toList.take n ++ news ++ cs.toList.drop (n + m)).toArray) := by
  by_cases hm : 0 < m
  · obtain ⟨b, off, rfl, hc⟩ := hr.at_ hm
    have hcells : ∀ j u, news[j]? = some u → w.cell? ((⟨b, off, none⟩ : Addr).add j) = some u := by
      intro j u hu
      obtain ⟨hj, e2⟩ := List.getElem?_eq_some_iff.1 hu
      rw [Addr.add_lit, hc j hj, e2]
    have := run_append_room (P := P) w t ty e i ht hi g n cap cs hb _ m c news (by rw [hr.1, hsize, Nat.mul_one]) hcells h1 hroom (by rw [hsize, hr.1]; omega)
    rw [this, hsize, hr.1, Nat.mul_one]
  · obtain rfl : m = 0 := by omega
    obtain rfl : news = [] := List.eq_nil_of_length_eq_zero hr.1
    have hz : w.setRow g (cs.toList.take n ++ [] ++ cs.toList.drop (n + 0)).toArray = w := by
      rw [List.append_nil, Nat.add_zero, List.take_append_drop]
      exact setRow_self w g cs e (0, 0) hb
    rw [hz]
    have : n ≤ cap := by omega
    cases A <;> simp [Builtin.append_, run_underlying ht, sizeOf, typeInfo, hi, Builtin.lenOf, Builtin.firstCells, this, storeCells, run_load0]
theorem append_blk (t ty e : TypeId) (i : TypeInfo) (ht : P.underlying t = some (.slice e)) (hi : P.info? e = some i) (hsize : i.size = 1)
    (g n cap : Nat) (cs : Array Value) (hb : Blk w g e cs) (A : Option Addr) (m c : Nat) (news : List Value) (hr : Sl w A m news) (h1 : ∀ u ∈ news, u.oneCell' = true) (hroom : n + m ≤ cap) (hfit : n + m ≤ cs.size) :
    ∃ w', (Builtin.append_ #[t, t] ty #[.slice (some ⟨g, 0, none⟩) n cap, .slice A m c]).run P w = .ok (.slice (some ⟨g, 0, none⟩) (n + m) cap) w' ∧
      Blk w' g e (cs.toList.take n ++ news ++ cs.toList.drop (n + m)).toArray ∧ Only [g] w w' ∧ w'.heap.size = w.heap.size :=
  ⟨_, run_append_blk w t ty e i ht hi hsize g n cap cs hb A m c news hr h1 hroom hfit, hb.row _, (Only.refl _ _).setRow (.inl (by simp)) _, by simp⟩
/-- the operation, where its run is known -/
theorem wpList_append_run {ops : Array Oper} {rest : List Oper} {o : Oper} {a : Act} {Q : Exit → Act → World → Prop} (hgd : o.guard = none) (s x : Operand) (t : TypeId)
    (ho : o.op = .call { callee := .builtin .append, args := #[s, x], argTypes := #[t, t] }) (v u : Value) (hs : a.eval s = v) (hx : a.eval x = u) (v' : Value) (w' : World)
    (hrun : (Builtin.append_ #[t, t] o.type #[v, u]).run P w = .ok v' w') (h : wpList P ops Q rest (a.put o.dst v') w') : wpList P ops Q (o :: rest) a w :=
  wpList_plain hgd fun _ hK => by
    unfold Oper.wp execOp
    simp only [ho, resolve, invoke, builtin, Sem.run_bind, Sem.run_pure, Result.andThen_ok, List.map_toArray, List.map_cons, List.map_nil, hs, hx, hrun]
    exact hK _ _ h
theorem madeCells_one (z : Value) (n : Nat) (hz : z.cells = #[z]) : madeCells z.cells n = Array.replicate n z := by
  apply Array.ext
  · simp [madeCells]
  · intro i h1 h2
    simp [madeCells, hz, Nat.mod_one]
theorem make_blk (t e : TypeId) (i : TypeInfo) (z : Value) (ht : P.underlying t = some (.slice e)) (hi : P.info? e = some i) (hz : i.zero = some z) (hsize : i.size = 1) (hz1 : z.cells = #[z])
    (kl kc : IntKind) (l c : Nat) (hlc : l ≤ c) (hbytes : i.bytes * c ≤ 281474976710656) (h63 : c ≤ 9223372036854775807) :
    ∃ w', (Instr.makeSlice t (.int kl (l : Int)) (.int kc (c : Int))).run P w = .ok (.slice (some ⟨w.heap.size, 0, none⟩) l c) w' ∧
      Blk w' w.heap.size e (Array.replicate c z) ∧ Only [] w w' ∧ w'.heap.size = w.heap.size + 1 := by
  have hb : (i.bytes : Int) * (c : Int) ≤ 281474976710656 := by
    have h : ((i.bytes * c : Nat) : Int) ≤ 281474976710656 := by omega
    rwa [Int.natCast_mul] at h
  have hr := run_make (P := P) w t e i z ht hi hz kl kc l c (by omega) (by omega) hb (by omega)
  simp only [Int.toNat_natCast] at hr
  rw [hsize, Nat.mul_one, madeCells_one z c hz1] at hr
  exact ⟨_, hr, Blk.new _ _ _, (Only.refl _ _).alloc _, by simp⟩
end
theorem wrap64_eq (n : Int) : wrap64 n = IntKind.i64.wrap n := by rw [IntKind.wrap_i64]; unfold wrap64; omega
end Go.Proofs.FuMem
