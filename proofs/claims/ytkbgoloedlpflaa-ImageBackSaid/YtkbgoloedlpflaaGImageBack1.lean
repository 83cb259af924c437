/- Words for memory, over any program: a slice that reads as a list of cells; a block that is known whole; what a call has left alone; the laws of append, make and string conversion in these words. -/
import Derived.Below
import Derived.WalkKit
import Derived.Lib.Hide
import Derived.Laws.BytesArg
import Derived.Laws.MakeOwn
import Derived.Laws.AppendOwn
import Derived.Laws.OwnMore
import Derived.Deep.Draws
import Derived.Laws.Rows
import Derived.Maps.AppendAt
import Derived.Deep.AppendLies
import Derived.OwnWalk
import Derived.Test.YtkbgoloedlpflaaChecked
import Derived.ProofKit
import Derived.OpenShut
import Derived.ShutString
import Derived.ChangeOld
import Derived.Deep.Onto
import Derived.Deep.MidRow
import Derived.Deep.Quiet
import Derived.ChangeKeysEq
import Derived.Laws.StructEq
import Derived.Laws.CopyOwn
import Derived.Test.YtkbgoloedlpflaaProg
import Derived.WalkLawsBesides
import Derived.WalkSpells
import Derived.Outline
import Derived.Deep.QuietTactic
import Derived.BigQuiet
import Derived.IntWalk
import Derived.Deep.Slices
import Derived.Deep.Fields
import Derived.Laws.LoneSync
namespace Go.Proofs.FuMem
open Go.RowKit
/-! ### results -/
theorem ret_int {k : IntKind} {a b : Int} (h : a = b) : Ending.returned (.int k a) = .returned (.int k b) := by rw [h]
theorem ret_bool {a b : Bool} (h : a = b) : Ending.returned (.bool a) = .returned (.bool b) := by rw [h]
/-! ### a block that is known whole -/
def Blk (w : World) (g : Nat) (t : TypeId) (cs : Array Value) : Prop := w.heap[g]? = some (.cells cs t (0, 0))
section
variable {w w' : World} {g : Nat} {t : TypeId} {cs : Array Value}
theorem Blk.lt (h : Blk w g t cs) : g < w.heap.size := (Array.getElem?_eq_some_iff.1 h).1
theorem Blk.cell (h : Blk w g t cs) (i : Nat) : w.cell? ⟨g, i, none⟩ = cs[i]? := cell_of_row w g i cs t (0, 0) h
theorem Blk.frozen (h : Blk w g t cs) (i : Nat) : w.frozen? ⟨g, i, none⟩ = false := by
  unfold Blk at h
  simp [World.frozen?, h]
theorem Blk.some_ (h : Blk w g t cs) {i : Nat} (hi : i < cs.size) : ∃ v, w.cell? ⟨g, i, none⟩ = some v := ⟨cs[i], by rw [h.cell]; simp [hi]⟩
theorem Blk.new (w : World) (t : TypeId) (cs : Array Value) : Blk (w.alloc (.cells cs t)) w.heap.size t cs := heap_alloc_new w _
theorem Blk.set (h : Blk w g t cs) (i : Nat) (u : Value) : Blk (w.setCell ⟨g, i, none⟩ u) g t (cs.setIfInBounds i u) := by
  unfold Blk at h ⊢
  simp [World.setCell, Array.getElem?_modify, h]
theorem Blk.row (h : Blk w g t cs) (ds : Array Value) : Blk (w.setRow g ds) g t ds := setRow_heap w g cs ds t (0, 0) h
end
/-! ### what is left alone -/
structure Only (S : List Nat) (w w' : World) : Prop where
  os : w'.os = w.os
  tape : w'.tape = w.tape
  output : w'.output = w.output
  size : w.heap.size ≤ w'.heap.size
  block : ∀ k, k < w.heap.size → k ∉ S → w'.heap[k]? = w.heap[k]?
section
variable {w w' w'' : World} {S T : List Nat} {g : Nat} {t : TypeId} {cs : Array Value}
theorem Only.refl (S : List Nat) (w : World) : Only S w w := ⟨rfl, rfl, rfl, Nat.le_refl _, fun _ _ _ => rfl⟩
theorem Only.trans (h : Only S w w') (k : Only T w' w'') (ht : ∀ b ∈ T, b ∈ S ∨ w.heap.size ≤ b) : Only S w w'' :=
  ⟨k.os.trans h.os, k.tape.trans h.tape, k.output.trans h.output, Nat.le_trans h.size k.size, fun i hi hn =>
    (k.block i (Nat.lt_of_lt_of_le hi h.size) (fun hm => by rcases ht i hm with h1 | h1; exact hn h1; omega)).trans (h.block i hi hn)⟩
theorem Only.mono (h : Only S w w') (hs : ∀ b ∈ S, b ∈ T) : Only T w w' := ⟨h.os, h.tape, h.output, h.size, fun i hi hn => h.block i hi fun hm => hn (hs i hm)⟩
theorem Only.trans0 (h : Only S w w') (k : Only [] w' w'') : Only S w w'' := h.trans k (by simp)
theorem Only.alloc (h : Only S w w') (o : Obj) : Only S w (w'.alloc o) :=
  ⟨h.os, h.tape, h.output, Nat.le_trans h.size (by simp), fun i hi hn => (Below.heap_alloc w' o i (Nat.lt_of_lt_of_le hi h.size)).trans (h.block i hi hn)⟩
theorem Only.setCell (h : Only S w w') {p : Addr} (hp : p.block ∈ S ∨ w.heap.size ≤ p.block) (u : Value) : Only S w (w'.setCell p u) :=
  ⟨h.os, h.tape, h.output, by simpa [World.setCell] using h.size, fun i hi hn => (Below.heap_setCell w' p u i (by
    rintro rfl
    rcases hp with hp | hp
    · exact hn hp
    · omega)).trans (h.block i hi hn)⟩
theorem Only.setRow (h : Only S w w') (hp : g ∈ S ∨ w.heap.size ≤ g) (ds : Array Value) : Only S w (w'.setRow g ds) :=
  ⟨h.os, h.tape, h.output, by simpa using h.size, fun i hi hn => (setRow_other w' g i ds (by
    rintro rfl
    rcases hp with hp | hp
    · exact hn hp
    · omega)).trans (h.block i hi hn)⟩
theorem Only.drew (h : Only S w w') : Only S w w'.drew := ⟨h.os, h.tape, h.output, h.size, h.block⟩
theorem Only.drewN (h : Only S w w') (n : Nat) : Only S w (w'.drewN n) := ⟨h.os, h.tape, h.output, h.size, h.block⟩
theorem Only.below (h : Only S w w') {B : Nat} (hB : B ≤ w.heap.size) (hs : ∀ b ∈ S, B ≤ b) : Below B w w' :=
  ⟨h.os, h.tape, h.output, h.size, fun i hi => h.block i (by omega) (fun hm => by have := hs i hm; omega)⟩
theorem Only.below0 (h : Only [] w w') : Below w.heap.size w w' := h.below (Nat.le_refl _) (by simp)
theorem Only.of_below (h : Below w.heap.size w w') : Only [] w w' := ⟨h.os, h.tape, h.output, h.size, fun i hi _ => h.block i hi⟩
theorem Only.of_grown {row : Option Nat} (h : w.grownBy w' row) (hr : ∀ k, row = some k → k ∈ S ∨ w.heap.size ≤ k) : Only S w w' :=
  ⟨h.os, h.tape, h.output, h.size, fun i hi hn => h.block i hi fun e => by
    rcases hr i e.symm with h1 | h1
    · exact hn h1
    · omega⟩
theorem Blk.only (h : Blk w g t cs) (ho : Only S w w') (hg : g ∉ S) : Blk w' g t cs := (ho.block g h.lt hg).trans h
theorem cell_only (ho : Only S w w') {b o : Nat} (hb : b < w.heap.size) (hn : b ∉ S) : w'.cell? ⟨b, o, none⟩ = w.cell? ⟨b, o, none⟩ := World.cell?_of_block (ho.block b hb hn)
theorem lt_of_cell {b o : Nat} {v : Value} (h : w.cell? ⟨b, o, none⟩ = some v) : b < w.heap.size := by
  unfold World.cell? at h
  rcases Nat.lt_or_ge b w.heap.size with hlt | hge
  · exact hlt
  · simp [Array.getElem?_eq_none hge] at h
end
/-! ### a slice that reads as a list of cells -/
/-- the slice value '.slice A n _' holds the cells xs (one cell an element), below block number H -/
def Sl (w : World) (A : Option Addr) (n : Nat) (xs : List Value) : Prop :=
  xs.length = n ∧ (n = 0 ∨ ∃ b off, A = some ⟨b, off, none⟩ ∧ ∀ k, k < n → w.cell? ⟨b, off + k, none⟩ = xs[k]?)
section
variable {w w' : World} {S : List Nat} {A : Option Addr} {n : Nat} {xs : List Value}
theorem Sl.nil (w : World) (A : Option Addr) : Sl w A 0 [] := ⟨rfl, .inl rfl⟩
theorem Sl.at_ (h : Sl w A n xs) (hn : 0 < n) : ∃ b off, A = some ⟨b, off, none⟩ ∧ ∀ k (hk : k < xs.length), w.cell? ⟨b, off + k, none⟩ = some xs[k] := by
  have hl := h.1
  rcases h.2 with h0 | ⟨b, off, e, hc⟩
  · omega
  · exact ⟨b, off, e, fun k hk => by rw [hc k (by omega), List.getElem?_eq_getElem hk]⟩
theorem Sl.lt (h : Sl w A n xs) (hn : 0 < n) {b off : Nat} {s : Option Nat} (e : A = some ⟨b, off, s⟩) : b < w.heap.size := by
  obtain ⟨b', off', e', hc⟩ := h.at_ hn
  rw [e'] at e
  cases e
  exact lt_of_cell (hc 0 (by rw [h.1]; exact hn))
theorem Sl.only (h : Sl w A n xs) (ho : Only S w w') (hs : ∀ b off s, A = some ⟨b, off, s⟩ → b ∉ S) : Sl w' A n xs := by
  refine ⟨h.1, ?_⟩
  by_cases hn : 0 < n
  · obtain ⟨b, off, e, hc⟩ := h.at_ hn
    exact .inr ⟨b, off, e, fun k hk => by
      have hk' : k < xs.length := by rw [h.1]; exact hk
      rw [cell_only ho (h.lt hn e) (hs b off none e), hc k hk', List.getElem?_eq_getElem hk']⟩
  · exact .inl (by omega)
theorem Sl.only0 (h : Sl w A n xs) (ho : Only [] w w') : Sl w' A n xs := h.only ho (by simp)
theorem Sl.of_blk {g : Nat} {t : TypeId} {cs : Array Value} (h : Blk w g t cs) (off : Nat) (hx : xs = (cs.toList.drop off).take n) (hl : off + n ≤ cs.size) : Sl w (some ⟨g, off, none⟩) n xs := by
  subst hx
  refine ⟨by simp; omega, .inr ⟨g, off, rfl, fun k hk => ?_⟩⟩
  rw [h.cell, List.getElem?_take_of_lt hk, List.getElem?_drop, Array.getElem?_toList]
theorem Sl.of_own {base : Nat} {e : TypeId} {c : Nat} (h : w.ownsRow base e 1 (.slice A n c) n xs) : Sl w A n xs := by
  rcases h.2 with ⟨e1, e2⟩ | ⟨g, cap, cur, hv, hbg, hg, hnc, hcm, hcs, htake⟩
  · subst e2
    exact ⟨by simpa using h.1, .inl rfl⟩
  · cases hv
    exact Sl.of_blk (t := e) (cs := cur) hg 0 (by simpa using htake.symm) (by omega)
theorem own_slice {base : Nat} {e : TypeId} {size : Nat} {v : Value} (h : w.ownsRow base e size v n xs) : ∃ A c, v = .slice A n c ∧ n ≤ c ∧ ∀ b off s, A = some ⟨b, off, s⟩ → base ≤ b ∧ b < w.heap.size := by
  rcases h.2 with ⟨e1, e2⟩ | ⟨g, cap, cur, hv, hbg, hg, hnc, hcm, hcs, htake⟩
  · subst e2
    exact ⟨none, 0, e1, Nat.le_refl _, by simp⟩
  · exact ⟨_, _, hv, hnc, fun b off s e => by cases e; exact ⟨hbg, (Array.getElem?_eq_some_iff.1 hg).1⟩⟩
theorem own_only {base : Nat} {e : TypeId} {size : Nat} {v : Value} (h : w.ownsRow base e size v n xs) (ho : Only S w w') (hs : ∀ k, v.ownBlock = some k → k ∉ S) : w'.ownsRow base e size v n xs := by
  refine ⟨h.1, ?_⟩
  rcases h.2 with h0 | ⟨g, cap, cur, rfl, hbg, hg, hnc, hcm, hcs, htake⟩
  · exact .inl h0
  · exact .inr ⟨g, cap, cur, rfl, hbg, (ho.block g (Array.getElem?_eq_some_iff.1 hg).1 (hs g rfl)).trans hg, hnc, hcm, hcs, htake⟩
/-- a cut 's[i:j]' -/
theorem Sl.cut (h : Sl w A n xs) {i j : Nat} (hij : i ≤ j) (hj : j ≤ n) : Sl w (A.map (·.add i)) (j - i) ((xs.drop i).take (j - i)) := by
  refine ⟨by simp [h.1]; omega, ?_⟩
  by_cases hn : i < j
  · obtain ⟨b, off, rfl, hc⟩ := h.at_ (by omega)
    refine .inr ⟨b, off + i, by unfold Addr.add; split <;> simp_all, fun k hk => ?_⟩
    have := h.1
    rw [List.getElem?_take_of_lt hk, List.getElem?_drop, List.getElem?_eq_getElem (by omega), ← hc (i + k) (by omega), Nat.add_assoc]
  · exact .inl (by omega)
end
/-! ### bytes -/
/-- a byte's cell -/
def B (x : UInt8) : Value := .int .u8 x.toNat
/-- the slice holds these bytes -/
def Bs (w : World) (A : Option Addr) (n : Nat) (l : List UInt8) : Prop := Sl w A n (l.map B)
section
variable {w w' : World} {S : List Nat} {A : Option Addr} {n : Nat} {l : List UInt8}
theorem byte_bd (x : UInt8) : 0 ≤ (x.toNat : Int) ∧ (x.toNat : Int) < 256 := by have := x.toNat_lt; omega
theorem Bs.len (h : Bs w A n l) : l.length = n := by simpa [Bs, Sl] using h.1
theorem Bs.at_ (h : Bs w A n l) (hn : 0 < n) : ∃ b off, A = some ⟨b, off, none⟩ ∧ ∀ k (hk : k < l.length), w.cell? ⟨b, off + k, none⟩ = some (.int .u8 (l[k].toNat : Int)) := by
  obtain ⟨b, off, e, hc⟩ := Sl.at_ h hn
  exact ⟨b, off, e, fun k hk => by rw [hc k (by simpa using hk), List.getElem_map]; rfl⟩
theorem Bs.nil (w : World) (A : Option Addr) : Bs w A 0 [] := Sl.nil w A
theorem Bs.only (h : Bs w A n l) (ho : Only S w w') (hs : ∀ b off s, A = some ⟨b, off, s⟩ → b ∉ S) : Bs w' A n l := Sl.only h ho hs
theorem Bs.only0 (h : Bs w A n l) (ho : Only [] w w') : Bs w' A n l := Sl.only0 h ho
theorem one_B : ∀ u ∈ l.map B, u.oneCell' = true := by
  intro u hu
  obtain ⟨x, _, rfl⟩ := List.mem_map.1 hu
  rfl
theorem getD_map_toNat (l : List UInt8) (i : Nat) (h : i < l.length) : (l.map fun x => (x.toNat : Int)).getD i 0 = (l[i].toNat : Int) := by
  simp [List.getD, h]
/-- string(b) -/
theorem run_str {P : Program} {src dst e : TypeId} (hs : P.underlying src = some (.slice e)) (he : P.underlying e = some (.int .u8)) (hd : P.underlying dst = some .string) (h : Bs w A n l) (c : Nat) :
    (convert src dst (.slice A n c)).run P w = .ok (.string ⟨l.toArray⟩) w := by
  have hl := h.len
  by_cases hn : 0 < n
  · obtain ⟨b, off, rfl, hc⟩ := h.at_ hn
    have := run_convert_bytes_arg (P := P) w src e hs he b off n c (l.map fun x => (x.toNat : Int)) (by simpa using hl) (fun i hi => by rw [getD_map_toNat l i (by omega)]; exact hc i (by omega)) dst hd
    rw [this]
    simp [strOfNums, Function.comp_def]
  · obtain rfl : n = 0 := by omega
    obtain rfl : l = [] := List.eq_nil_of_length_eq_zero hl
    rw [run_convert_bytes_string w src dst e _ 0 c hs he hd]
    cases A <;> simp [Conv.bytesToString, loadCells]
    all_goals rfl
end
/-! ### append -/
section
variable {P : Program} (w : World)
theorem run_load0 (a : Addr) : (loadCells a 0).run P w = .ok #[] w := by rfl
theorem run_append_of_nil (base : Nat) (t ty e : TypeId) (i : TypeInfo) (size : Nat) (ht : P.underlying t = some (.slice e)) (hi : P.info? e = some i)
    (v : Value) (n : Nat) (xs : List Value) (hown : w.ownsRow base e size v n xs) (A : Option Addr) (c : Nat) : (Builtin.append_ #[t, t] ty #[v, .slice A 0 c]).run P w = .ok v w := by
  rcases hown.2 with ⟨rfl, rfl⟩ | ⟨g, cap, cur, rfl, _, _, hnc, _⟩
  · cases A <;> simp [Builtin.append_, run_underlying ht, sizeOf, typeInfo, hi, Builtin.lenOf, Builtin.firstCells, run_load0]
  · cases A <;> simp [Builtin.append_, run_underlying ht, sizeOf, typeInfo, hi, Builtin.lenOf, Builtin.firstCells, hnc, storeCells, run_load0]
theorem run_append_sl (base : Nat) (t ty e : TypeId) (i : TypeInfo) (z : Value) (bytes : Nat) (ht : P.underlying t = some (.slice e)) (hi : P.info? e = some i) (hz : i.zero = some z)
    (hsize : i.size = 1) (hby : i.bytes = bytes) (hzs : z.cells.size = 1)
    (v : Value) (n : Nat) (xs : List Value) (hown : w.ownsRow base e 1 v n xs)
    (A : Option Addr) (m c : Nat) (news : List Value) (hr : Sl w A m news) (h1 : ∀ u ∈ news, u.oneCell' = true)
    (h63 : n + m ≤ maxLen) (hbytes : (n + m) * bytes ≤ 140737488355328) (hbase : base ≤ w.heap.size) :
    ∃ v' w', (Builtin.append_ #[t, t] ty #[v, .slice A m c]).run P w = .ok v' w' ∧ w'.ownsRow base e 1 v' (n + m) (xs ++ news) ∧ w.grownBy w' v.ownBlock ∧
      (v'.ownBlock = v.ownBlock ∨ v'.ownBlock = some w.heap.size) := by
  by_cases hm : 0 < m
  · obtain ⟨b, off, rfl, hc⟩ := hr.at_ hm
    have hcells : ∀ j u, news[j]? = some u → w.cell? ((⟨b, off, none⟩ : Addr).add j) = some u := by
      intro j u hu
      obtain ⟨hj, e2⟩ := List.getElem?_eq_some_iff.1 hu
      rw [Addr.add_lit, hc j hj, e2]
    obtain ⟨v', w', hrun, h2, h3, _, h5⟩ := run_append_own_at (P := P) w base t ty e i z 1 bytes ht hi hz hsize hby hzs (by omega) v n xs hown _ m c news (by rw [hr.1, Nat.mul_one]) hcells h1 h63 hbytes hbase
    exact ⟨v', w', hrun, h2, h3, h5⟩
  · obtain rfl : m = 0 := by omega
    obtain rfl : news = [] := List.eq_nil_of_length_eq_zero hr.1
    exact ⟨v, w, run_append_of_nil w base t ty e i 1 ht hi v n xs hown A c, by simpa using hown, World.grownBy.refl w _, .inl rfl⟩
theorem wp_append_sl {o : Oper} {a : Act} {K : Act → World → Prop} {Q : Exit → Act → World → Prop} (s x : Operand) (t : TypeId)
    (ho : o.op = .call { callee := .builtin .append, args := #[s, x], argTypes := #[t, t] })
    (base : Nat) (e : TypeId) (i : TypeInfo) (z : Value) (bytes : Nat) (ht : P.underlying t = some (.slice e)) (hi : P.info? e = some i) (hz : i.zero = some z)
    (hsize : i.size = 1) (hby : i.bytes = bytes) (hzs : z.cells.size = 1)
    (v : Value) (n : Nat) (xs : List Value) (hs : a.eval s = v) (hown : w.ownsRow base e 1 v n xs)
    (A : Option Addr) (m c : Nat) (news : List Value) (hx : a.eval x = .slice A m c) (hr : Sl w A m news) (h1 : ∀ u ∈ news, u.oneCell' = true)
    (h63 : n + m ≤ maxLen) (hbytes : (n + m) * bytes ≤ 140737488355328) (hbase : base ≤ w.heap.size)
    (h : ∀ v' w', w'.ownsRow base e 1 v' (n + m) (xs ++ news) → w.grownBy w' v.ownBlock → (v'.ownBlock = v.ownBlock ∨ v'.ownBlock = some w.heap.size) → K (a.put o.dst v') w') : o.wp P a w K Q := by
  obtain ⟨v', w', hrun, h2, h3, h4⟩ := run_append_sl (P := P) w base t o.type e i z bytes ht hi hz hsize hby hzs v n xs hown A m c news hr h1 h63 hbytes hbase
  unfold Oper.wp execOp
  simp only [ho, resolve, invoke, builtin, Sem.run_bind, Sem.run_pure, Result.andThen_ok, List.map_toArray, List.map_cons, List.map_nil, hs, hx, hrun]
  exact h v' w' h2 h3 h4
theorem wpList_append_sl {ops : Array Oper} {rest : List Oper} {o : Oper} {a : Act} {Q : Exit → Act → World → Prop} (hgd : o.guard = none) (s x : Operand) (t : TypeId)
    (ho : o.op = .call { callee := .builtin .append, args := #[s, x], argTypes := #[t, t] })
    (base : Nat) (e : TypeId) (i : TypeInfo) (z : Value) (bytes : Nat) (ht : P.underlying t = some (.slice e)) (hi : P.info? e = some i) (hz : i.zero = some z)
    (hsize : i.size = 1) (hby : i.bytes = bytes) (hzs : z.cells.size = 1)
    (v : Value) (n : Nat) (xs : List Value) (hs : a.eval s = v) (hown : w.ownsRow base e 1 v n xs)
    (A : Option Addr) (m c : Nat) (news : List Value) (hx : a.eval x = .slice A m c) (hr : Sl w A m news) (h1 : ∀ u ∈ news, u.oneCell' = true)
    (h63 : n + m ≤ maxLen) (hbytes : (n + m) * bytes ≤ 140737488355328) (hbase : base ≤ w.heap.size)
    (h : ∀ v' w', w'.ownsRow base e 1 v' (n + m) (xs ++ news) → w.grownBy w' v.ownBlock → (v'.ownBlock = v.ownBlock ∨ v'.ownBlock = some w.heap.size) → wpList P ops Q rest (a.put o.dst v') w') : wpList P ops Q (o :: rest) a w :=
  wpList_plain hgd fun _ hK => wp_append_sl w s x t ho base e i z bytes ht hi hz hsize hby hzs v n xs hs hown A m c news hx hr h1 h63 hbytes hbase fun v' w' h2 h3 h4 => hK _ _ (h v' w' h2 h3 h4)
/-- append within the capacity of a block that is known whole: the world is known -/
theorem run_append_blk (t ty e : TypeId) (i : TypeInfo) (ht : P.underlying t = some (.slice e)) (hi : P.info? e = some i) (hsize : i.size = 1)
    (g n cap : Nat) (cs : Array Value) (hb : Blk w g e cs) (A : Option Addr) (m c : Nat) (news : List Value) (hr : Sl w A m news) (h1 : ∀ u ∈ news, u.oneCell' = true) (hroom : n + m ≤ cap) (hfit : n + m ≤ cs.size) :
    (Builtin.append_ #[t, t] ty #[.slice (some ⟨g, 0, none⟩) n cap, .slice A m c]).run P w =
      .ok (.slice (some ⟨g, 0, none⟩) (n + m) cap) (w.setRow g (cs.toList.take n ++ news ++ cs.toList.drop (n + m)).toArray) := by
  by_cases hm : 0 < m
  · obtain ⟨b, off, rfl, hc⟩ := hr.at_ hm
    have hcells : ∀ j u, news[j]? = some u → w.cell? ((⟨b, off, none⟩ : Addr).add j) = some u := by
      intro j u hu
      obtain ⟨hj, e2⟩ := List.getElem?_eq_some_iff.1 hu
      rw [Addr.add_lit, hc j hj, e2]
    have := run_append_room (P := P) w t ty e i ht hi g n cap cs hb _ m c news (by rw [hr.1, hsize, Nat.mul_one]) hcells h1 hroom (by rw [hsize, hr.1]; omega)
    rw [this, hsize, hr.1, Nat.mul_one]
  · obtain rfl : m = 0 := by omega
    obtain rfl : news = [] := List.eq_nil_of_length_eq_zero hr.1
    have hz : w.setRow g (cs.toList.take n ++ [] ++ cs.toList.drop (n + 0)).toArray = w := by
      rw [List.append_nil, Nat.add_zero, List.take_append_drop]
      exact setRow_self w g cs e (0, 0) hb
    rw [hz]
    have : n ≤ cap := by omega
    cases A <;> simp [Builtin.append_, run_underlying ht, sizeOf, typeInfo, hi, Builtin.lenOf, Builtin.firstCells, this, storeCells, run_load0]
theorem append_blk (t ty e : TypeId) (i : TypeInfo) (ht : P.underlying t = some (.slice e)) (hi : P.info? e = some i) (hsize : i.size = 1)
    (g n cap : Nat) (cs : Array Value) (hb : Blk w g e cs) (A : Option Addr) (m c : Nat) (news : List Value) (hr : Sl w A m news) (h1 : ∀ u ∈ news, u.oneCell' = true) (hroom : n + m ≤ cap) (hfit : n + m ≤ cs.size) :
    ∃ w', (Builtin.append_ #[t, t] ty #[.slice (some ⟨g, 0, none⟩) n cap, .slice A m c]).run P w = .ok (.slice (some ⟨g, 0, none⟩) (n + m) cap) w' ∧
      Blk w' g e (cs.toList.take n ++ news ++ cs.toList.drop (n + m)).toArray ∧ Only [g] w w' ∧ w'.heap.size = w.heap.size :=
  ⟨_, run_append_blk w t ty e i ht hi hsize g n cap cs hb A m c news hr h1 hroom hfit, hb.row _, (Only.refl _ _).setRow (.inl (by simp)) _, by simp⟩
/-- the operation, where its run is known -/
theorem wpList_append_run {ops : Array Oper} {rest : List Oper} {o : Oper} {a : Act} {Q : Exit → Act → World → Prop} (hgd : o.guard = none) (s x : Operand) (t : TypeId)
    (ho : o.op = .call { callee := .builtin .append, args := #[s, x], argTypes := #[t, t] }) (v u : Value) (hs : a.eval s = v) (hx : a.eval x = u) (v' : Value) (w' : World)
    (hrun : (Builtin.append_ #[t, t] o.type #[v, u]).run P w = .ok v' w') (h : wpList P ops Q rest (a.put o.dst v') w') : wpList P ops Q (o :: rest) a w :=
  wpList_plain hgd fun _ hK => by
    unfold Oper.wp execOp
    simp only [ho, resolve, invoke, builtin, Sem.run_bind, Sem.run_pure, Result.andThen_ok, List.map_toArray, List.map_cons, List.map_nil, hs, hx, hrun]
    exact hK _ _ h
theorem madeCells_one (z : Value) (n : Nat) (hz : z.cells = #[z]) : madeCells z.cells n = Array.replicate n z := by
  apply Array.ext
  · simp [madeCells]
  · intro i h1 h2
    simp [madeCells, hz, Nat.mod_one]
theorem make_blk (t e : TypeId) (i : TypeInfo) (z : Value) (ht : P.underlying t = some (.slice e)) (hi : P.info? e = some i) (hz : i.zero = some z) (hsize : i.size = 1) (hz1 : z.cells = #[z])
    (kl kc : IntKind) (l c : Nat) (hlc : l ≤ c) (hbytes : i.bytes * c ≤ 281474976710656) (h63 : c ≤ 9223372036854775807) :
    ∃ w', (Instr.makeSlice t (.int kl (l : Int)) (.int kc (c : Int))).run P w = .ok (.slice (some ⟨w.heap.size, 0, none⟩) l c) w' ∧
      Blk w' w.heap.size e (Array.replicate c z) ∧ Only [] w w' ∧ w'.heap.size = w.heap.size + 1 := by
  have hb : (i.bytes : Int) * (c : Int) ≤ 281474976710656 := by
    have h : ((i.bytes * c : Nat) : Int) ≤ 281474976710656 := by omega
    rwa [Int.natCast_mul] at h
  have hr := run_make (P := P) w t e i z ht hi hz kl kc l c (by omega) (by omega) hb (by omega)
  simp only [Int.toNat_natCast] at hr
  rw [hsize, Nat.mul_one, madeCells_one z c hz1] at hr
  exact ⟨_, hr, Blk.new _ _ _, (Only.refl _ _).alloc _, by simp⟩
end
theorem wrap64_eq (n : Int) : wrap64 n = IntKind.i64.wrap n := by rw [IntKind.wrap_i64]; unfold wrap64; omega
end Go.Proofs.FuMem
/- What the frames of the statements share: how slices of numbers that came in are read. -/
namespace Go.Proofs.Ytkbgoloedlpflaa
open Go.ChangeShapes Go.WideShapes Go.ChangeAt Go.RowKit Go.Proofs.FuMem
theorem FrameOwn.own : ownKnob Try.prog.godebug = none := by kernel_rfl
theorem FrameOwn.laidOut : laidOutB Try.prog = true := by kernel_rfl
/-- a slice of integers that came in: nil, or a row of cells, of which the first are its elements -/
def IsRow (k : IntKind) (w : World) (a : Option Addr) (len cap : Nat) (zs : List Int) : Prop :=
  (a = none ∧ len = 0 ∧ cap = 0 ∧ zs = []) ∨
  ∃ x, a = some x ∧ len ≤ cap ∧ cap ≤ maxLen ∧ zs.length = cap ∧ (∀ i, i < zs.length → w.cell? (x.add i) = some (.int k (zs.getD i 0))) ∧ ∀ n ∈ zs, (Lit.int k n).wf = true
section
variable {H : Type} {enc : TypeId × Value → H} {P : Program} {W : World} {base : Nat} {spare : Nat → Bool} {held : Bool}
theorem IsRow.of_trod {t e : TypeId} {k : IntKind} {a0 : Option Addr} {len0 cap0 : Nat} {d : DataW H} {p : List MemPlace} (ht : P.underlying t = some (.slice e)) (he : P.underlying e = some (.int k)) (hc : P.cellsOf e = 1)
    (h : DataW.Trod enc P W base (fun _ => true) held t (.slice a0 len0 cap0) d p) : ∃ zs, IsRow k W a0 len0 cap0 zs := by
  obtain ⟨fuel, hf⟩ := h
  rcases open_ints ht he hc hf with ⟨hcs, _⟩ | ⟨x, l, c, zs, hcs, _, hl, hm, hz, _, hcell, hwz⟩
  · simp [Value.cells] at hcs
    obtain ⟨rfl, rfl, rfl⟩ := hcs
    exact ⟨[], .inl ⟨rfl, rfl, rfl, rfl⟩⟩
  · simp [Value.cells] at hcs
    obtain ⟨rfl, rfl, rfl⟩ := hcs
    exact ⟨zs, .inr ⟨_, rfl, hl, hm, by simpa using hz, hcell, hwz⟩⟩
end
theorem IsRow.le_cap {k : IntKind} {w : World} {a : Option Addr} {len cap : Nat} {zs : List Int} (h : IsRow k w a len cap zs) : len ≤ cap := by
  rcases h with ⟨_, rfl, rfl, _⟩ | ⟨_, _, h, _⟩
  · exact Nat.le_refl _
  · exact h
theorem IsRow.sl {k : IntKind} {w : World} {a : Option Addr} {len cap : Nat} {zs : List Int} (h : IsRow k w a len cap zs) :
    ∃ ys : List Int, Sl w a len (ys.map (.int k)) ∧ (∀ n ∈ ys, (Lit.int k n).wf = true) ∧ len ≤ maxLen := by
  rcases h with ⟨rfl, rfl, rfl, rfl⟩ | ⟨x, rfl, hl, hm, hz, hcell, hwz⟩
  · exact ⟨[], Sl.nil _ _, by simp, Nat.zero_le _⟩
  · refine ⟨zs.take len, ⟨by simp; omega, ?_⟩, fun n hn => hwz n (List.mem_of_mem_take hn), by omega⟩
    by_cases h0 : len = 0
    · exact .inl h0
    · obtain ⟨b, off, spot⟩ := x
      have hc := hcell 0 (by omega)
      have hspot : spot = none := by simpa [Addr.add] using World.cell?_spot hc
      subst hspot
      refine .inr ⟨b, off, rfl, fun i hi => ?_⟩
      have := hcell i (by omega)
      rw [Addr.add_lit] at this
      rw [this, List.getElem?_map, List.getElem?_take_of_lt hi, List.getElem?_eq_getElem (by omega)]
      simp [List.getD, List.getElem?_eq_getElem (show i < zs.length by omega)]
theorem IsRow.bytes {w : World} {a : Option Addr} {len cap : Nat} {zs : List Int} (h : IsRow .u8 w a len cap zs) : ∃ l : List UInt8, Bs w a len l ∧ len ≤ maxLen := by
  obtain ⟨ys, hs, hw, hm⟩ := h.sl
  refine ⟨ys.map fun n => UInt8.ofNat n.toNat, ?_, hm⟩
  unfold Bs
  have : (ys.map fun n => UInt8.ofNat n.toNat).map B = ys.map (.int .u8) := by
    rw [List.map_map]
    apply List.map_congr_left
    intro n hn
    have := bounds_u8 (hw n hn)
    simp [B]
    omega
  rw [this]
  exact hs
theorem IsRow.ints {w : World} {a : Option Addr} {len cap : Nat} {zs : List Int} (h : IsRow .i64 w a len cap zs) :
    ∃ ys : List Int, (Sl w a len (ys.map (.int .i64)) ∧ ∀ n ∈ ys, -9223372036854775808 ≤ n ∧ n ≤ 9223372036854775807) ∧ len ≤ maxLen := by
  obtain ⟨ys, hs, hw, hm⟩ := h.sl
  exact ⟨ys, ⟨hs, fun n hn => bounds_i64 (hw n hn)⟩, hm⟩
end Go.Proofs.Ytkbgoloedlpflaa
/- Words for memory, second part: append in plain words. -/
namespace Go.Proofs.FuMem
open Go.RowKit
theorem Calls.flip {P : Program} {f : FuncId} {args : Array Value} {w : World} {v : Value} (h : Calls P f args w fun e w' => e = .returned v ∧ w = w') : Calls P f args w fun e w'' => e = .returned v ∧ w'' = w :=
  h.mono fun _ _ ⟨he, hw⟩ => ⟨he, hw.symm⟩
section
variable {P : Program} (w : World)
/-- append to a slice of the call's own (nil, too), in plain words: w0 is the world in which the call began -/
theorem append_own {w0 : World} {T : List Nat} (on : Only T w0 w) (t ty e : TypeId) (i : TypeInfo) (z : Value) (bytes : Nat) (ht : P.underlying t = some (.slice e)) (hi : P.info? e = some i) (hz : i.zero = some z)
    (hsize : i.size = 1) (hby : i.bytes = bytes) (hzs : z.cells.size = 1)
    (v : Value) (n : Nat) (xs : List Value) (hown : w.ownsRow w0.heap.size e 1 v n xs)
    (A : Option Addr) (m c : Nat) (news : List Value) (hr : Sl w A m news) (h1 : ∀ u ∈ news, u.oneCell' = true)
    (h63 : n + m ≤ maxLen) (hbytes : (n + m) * bytes ≤ 140737488355328) :
    ∃ A' c' w', (Builtin.append_ #[t, t] ty #[v, .slice A m c]).run P w = .ok (.slice A' (n + m) c') w' ∧ w'.ownsRow w0.heap.size e 1 (.slice A' (n + m) c') (n + m) (xs ++ news) ∧
      Sl w' A' (n + m) (xs ++ news) ∧ Only T w0 w' := by
  obtain ⟨v', w', hrun, h2, h3, _⟩ := run_append_sl (P := P) w w0.heap.size t ty e i z bytes ht hi hz hsize hby hzs v n xs hown A m c news hr h1 h63 hbytes on.size
  obtain ⟨A', c', rfl, _, _⟩ := own_slice h2
  refine ⟨A', c', w', hrun, h2, Sl.of_own h2, ?_⟩
  exact ⟨h3.os.trans on.os, h3.tape.trans on.tape, h3.output.trans on.output, Nat.le_trans on.size h3.size, fun k hk hn =>
    (h3.block k (Nat.lt_of_lt_of_le hk on.size) (fun e => by have := hown.lt k e.symm; omega)).trans (on.block k hk hn)⟩
theorem own_nil (base : Nat) (e : TypeId) (size : Nat) : w.ownsRow base e size (.slice none 0 0) 0 [] := ⟨by simp, .inl ⟨rfl, rfl⟩⟩
/-- append([]T(nil), l...) -/
theorem append_fresh (t ty e : TypeId) (i : TypeInfo) (z : Value) (bytes : Nat) (ht : P.underlying t = some (.slice e)) (hi : P.info? e = some i) (hz : i.zero = some z)
    (hsize : i.size = 1) (hby : i.bytes = bytes) (hzs : z.cells.size = 1)
    (A : Option Addr) (m c : Nat) (news : List Value) (hr : Sl w A m news) (h1 : ∀ u ∈ news, u.oneCell' = true)
    (h63 : m ≤ maxLen) (hbytes : m * bytes ≤ 140737488355328) :
    ∃ A' c' w', (Builtin.append_ #[t, t] ty #[.slice none 0 0, .slice A m c]).run P w = .ok (.slice A' m c') w' ∧ w'.ownsRow w.heap.size e 1 (.slice A' m c') m news ∧
      Sl w' A' m news ∧ Only [] w w' := by
  have := append_own (P := P) w (Only.refl [] w) t ty e i z bytes ht hi hz hsize hby hzs (.slice none 0 0) 0 [] (own_nil w _ _ _) A m c news hr h1 (by omega) (by simpa using hbytes)
  simpa using this
/-- a slice of the call's own, with an element: its block -/
theorem own_blk {w : World} {base : Nat} {e : TypeId} {A : Option Addr} {n c : Nat} {xs : List Value} (h : w.ownsRow base e 1 (.slice A n c) n xs) (hn : 0 < n) :
    ∃ g cur, A = some ⟨g, 0, none⟩ ∧ base ≤ g ∧ Blk w g e cur ∧ n ≤ cur.size ∧ cur.toList.take n = xs := by
  rcases h.2 with ⟨e1, e2⟩ | ⟨g, cap, cur, hv, hbg, hg, hnc, hcm, hcs, htake⟩
  · subst e2
    have := h.1
    simp at this
    omega
  · cases hv
    exact ⟨g, cur, rfl, hbg, hg, by omega, by simpa using htake⟩
theorem Sl.of_blk_set {w : World} {g : Nat} {t : TypeId} {cs : Array Value} {xs : List Value} {n : Nat} (h : Blk w g t cs) (hn : n ≤ cs.size) (hx : cs.toList.take n = xs) (k : Nat) (u : Value) :
    Sl (w.setCell ⟨g, k, none⟩ u) (some ⟨g, 0, none⟩) n (xs.set k u) := by
  refine Sl.of_blk (h.set k u) 0 ?_ (by simp; omega)
  subst hx
  simp [List.take_set]
/-- a row of bytes of the call's own, with its block -/
def OwnB (e : TypeId) (w : World) (base g n c : Nat) (l : List UInt8) : Prop := w.ownsRow base e 1 (.slice (some ⟨g, 0, none⟩) n c) n (l.map B)
section
variable {w w' : World} {e : TypeId} {base g n c : Nat} {l : List UInt8}
theorem OwnB.of {A : Option Addr} (h : w.ownsRow base e 1 (.slice A n c) n (l.map B)) (hn : 0 < n) : ∃ g, A = some ⟨g, 0, none⟩ ∧ base ≤ g ∧ g < w.heap.size ∧ OwnB e w base g n c l := by
  obtain ⟨g, c2, he, hbg, hgl⟩ := h.form hn
  cases he
  exact ⟨g, rfl, hbg, hgl, h⟩
theorem OwnB.len (h : OwnB e w base g n c l) : l.length = n := by simpa using h.1
theorem OwnB.bs (h : OwnB e w base g n c l) : Bs w (some ⟨g, 0, none⟩) n l := Sl.of_own h
theorem OwnB.cap (h : OwnB e w base g n c l) : n ≤ c ∧ c ≤ maxLen := by
  rcases h.2 with ⟨h', _⟩ | ⟨g', cap', cur, h', hb, hg, hnc, hcm, hcs, htake⟩
  · cases h'
  · cases h'
    exact ⟨hnc, hcm⟩
theorem OwnB.cell (h : OwnB e w base g n c l) (k : Nat) (hk : k < n) : w.cell? ⟨g, k, none⟩ = some (.int .u8 ((l.getD k 0).toNat : Int)) := by
  have hl := h.len
  have := World.ownsRow.cellAt h k (by omega)
  rw [this, List.getElem?_map, List.getElem?_eq_getElem (by omega)]
  simp [B, List.getD, List.getElem?_eq_getElem (show k < l.length by omega)]
theorem OwnB.frozen (h : OwnB e w base g n c l) (k : Nat) : w.frozen? ⟨g, k, none⟩ = false := World.ownsRow.frozenAt h k
theorem OwnB.set (h : OwnB e w base g n c l) (k : Nat) {x : Int} {y : UInt8} (hx : x = y.toNat) : OwnB e (w.setCell ⟨g, k, none⟩ (.int .u8 x)) base g n c (l.set k y) := by
  have := (World.ownsRow.stored h k (.int .u8 x)).1
  unfold OwnB
  rw [List.map_set, show B y = .int .u8 x by rw [hx]; rfl]
  exact this
theorem OwnB.mono {base' : Nat} (h : OwnB e w base g n c l) (hb : base' ≤ base) : OwnB e w base' g n c l := World.ownsRow.mono h hb
theorem OwnB.only {S : List Nat} (h : OwnB e w base g n c l) (ho : Only S w w') (hs : g ∉ S) : OwnB e w' base g n c l :=
  own_only h ho (by intro k hk; simp [Value.ownBlock] at hk; subst hk; exact hs)
end
theorem bs_own {w : World} {base n c : Nat} {e : TypeId} {A : Option Addr} {l : List UInt8} (h : w.ownsRow base e 1 (.slice A n c) n (l.map B)) : Bs w A n l := Sl.of_own h
theorem Bs.cut {w : World} {b off n : Nat} {l : List UInt8} (h : Bs w (some ⟨b, off, none⟩) n l) {a m : Nat} (hm : a + m ≤ n) : Bs w (some ⟨b, off + a, none⟩) m ((l.drop a).take m) := by
  have hl := h.len
  have := Sl.cut h (i := a) (j := a + m) (by omega) hm
  rw [Nat.add_sub_cancel_left] at this
  unfold Bs
  rw [List.map_take, List.map_drop]
  simpa [Addr.add_lit] using this
theorem Blk.drew {w : World} {g : Nat} {t : TypeId} {cs : Array Value} (h : Blk w g t cs) : Blk w.drew g t cs := h
end
end Go.Proofs.FuMem
/- Numbers laid into bytes, the lowest byte first, in plain Lean. No program in sight. -/
namespace Go.Proofs.FuCode
/-- the number of bytes, the lowest first -/
def num : List UInt8 → Nat
  | [] => 0
  | x :: l => x.toNat + 256 * num l
/-- the bytes of a number -/
def lay (n v : Nat) : List UInt8 := (List.range n).map fun i => UInt8.ofNat (v / 256 ^ i % 256)
theorem lay_length (n v : Nat) : (lay n v).length = n := by simp [lay]
theorem lay_succ (n v : Nat) : lay (n + 1) v = lay n v ++ [UInt8.ofNat (v / 256 ^ n % 256)] := by simp [lay, List.range_succ]
theorem num_append (a b : List UInt8) : num (a ++ b) = num a + 256 ^ a.length * num b := by
  induction a with
  | nil => simp [num]
  | cons x a ih =>
    simp only [List.cons_append, num, ih, List.length_cons, Nat.pow_succ, Nat.mul_add]
    rw [Nat.mul_comm (256 ^ a.length) 256, Nat.mul_assoc, Nat.add_assoc]
theorem num_lt (l : List UInt8) : num l < 256 ^ l.length := by
  induction l with
  | nil => simp [num]
  | cons x l ih =>
    have := x.toNat_lt
    simp only [num, List.length_cons, Nat.pow_succ]
    omega
theorem ofNat_mod (x : Nat) : (UInt8.ofNat (x % 256)).toNat = x % 256 := by
  rw [UInt8.toNat_ofNat_of_lt']
  exact Nat.mod_lt _ (by omega)
theorem num_one (x : Nat) : num [UInt8.ofNat (x % 256)] = x % 256 := by
  simp only [num, ofNat_mod]
  omega
theorem num_lay (n v : Nat) : num (lay n v) = v % 256 ^ n := by
  induction n with
  | zero => simp [lay, num, Nat.mod_one]
  | succ n ih =>
    rw [lay_succ, num_append, ih, lay_length, num_one, Nat.pow_succ, Nat.mod_mul]
theorem num_lay_lt (n v : Nat) (h : v < 256 ^ n) : num (lay n v) = v := by rw [num_lay, Nat.mod_eq_of_lt h]
theorem num_cons_drop (l : List UInt8) (k : Nat) (h : k < l.length) : num (l.drop k) = l[k].toNat + 256 * num (l.drop (k + 1)) := by
  rw [List.drop_eq_getElem_cons h, num]
theorem num_take_succ (l : List UInt8) (k : Nat) (h : k < l.length) : num (l.take (k + 1)) = num (l.take k) + 256 ^ k * l[k].toNat := by
  rw [List.take_succ_eq_append_getElem h, num_append, List.length_take, Nat.min_eq_left (by omega)]
  simp [num]
theorem pow256 (k : Nat) : 256 ^ k = 2 ^ (8 * k) := by rw [show (256 : Nat) = 2 ^ 8 from rfl, ← Nat.pow_mul]
theorem pow_le8 (k : Nat) (h : k ≤ 8) : 256 ^ k ≤ 18446744073709551616 := by
  have := Nat.pow_le_pow_right (n := 256) (by omega) h
  exact Nat.le_trans this (by omega)
/-- what is wrong with a place; 0: nothing -/
def wrong (size : Nat) (at_ n : Int) : Nat := if n < 1 ∨ 8 < n then 1 else if at_ < 0 ∨ (size : Int) - n < at_ then 2 else 0
/-- bytes with others laid over them -/
def over (b : List UInt8) (at_ : Nat) (l : List UInt8) : List UInt8 := b.take at_ ++ l ++ b.drop (at_ + l.length)
theorem over_length (b : List UInt8) (at_ : Nat) (l : List UInt8) (h : at_ + l.length ≤ b.length) : (over b at_ l).length = b.length := by simp [over]; omega
theorem over_nil (b : List UInt8) (at_ : Nat) : over b at_ [] = b := by simp [over]
theorem over_all (l k : List UInt8) (n : Nat) (hl : l.length = n) (hk : k.length = n) : over k 0 (l.take n) = l := by
  subst hl
  unfold over
  rw [List.take_length, List.take_zero, List.nil_append, List.drop_eq_nil_of_le (by omega), List.append_nil]
theorem over_get (b : List UInt8) (at_ : Nat) (l : List UInt8) (h : at_ + l.length ≤ b.length) (i : Nat) (hi : i < b.length) :
    (over b at_ l)[i]? = if h : at_ ≤ i ∧ i < at_ + l.length then some l[i - at_] else some b[i] := by
  unfold over
  rw [List.getElem?_append, List.getElem?_append]
  simp only [List.length_append, List.length_take, Nat.min_eq_left (show at_ ≤ b.length by omega), List.getElem?_take, List.getElem?_drop]
  by_cases h1 : i < at_
  · rw [if_pos (by omega), if_pos h1, if_pos h1, dif_neg (by omega), List.getElem?_eq_getElem hi]
  · by_cases h2 : i < at_ + l.length
    · rw [if_pos h2, if_neg h1, dif_pos ⟨by omega, h2⟩, List.getElem?_eq_getElem (by omega)]
    · rw [if_neg h2, dif_neg (by omega), show at_ + l.length + (i - (at_ + l.length)) = i by omega, List.getElem?_eq_getElem hi]
theorem over_back (b : List UInt8) (a : Nat) (l : List UInt8) (m : Nat) (hm : l.length = m) (h : a + m ≤ b.length) : ((over b a l).drop a).take m = l := by
  unfold over
  have h1 : (b.take a).length = a := by simp; omega
  rw [List.append_assoc, List.drop_append, h1, List.drop_eq_nil_of_le (by omega), Nat.sub_self, List.drop_zero, List.nil_append, ← hm, List.take_append_of_le_length (Nat.le_refl _), List.take_of_length_le (Nat.le_refl _)]
theorem over_snoc (b : List UInt8) (at_ : Nat) (l : List UInt8) (x : UInt8) (h : at_ + l.length < b.length) : over b at_ (l ++ [x]) = (over b at_ l).set (at_ + l.length) x := by
  unfold over
  have hl : (b.take at_ ++ l).length = at_ + l.length := by simp; omega
  rw [List.set_append_right _ _ (by omega), hl, Nat.sub_self, List.drop_eq_getElem_cons h, List.set_cons_zero]
  simp [Nat.add_assoc]
theorem over_take_succ (b l : List UInt8) (a j : Nat) (h : a + l.length ≤ b.length) (hj : j < l.length) : (over b a (l.take j)).set (a + j) (l.getD j 0) = over b a (l.take (j + 1)) := by
  have h1 : (l.take j).length = j := by simp; omega
  have := over_snoc b a (l.take j) (l.getD j 0) (by rw [h1]; omega)
  rw [h1] at this
  rw [← this, List.take_succ_eq_append_getElem hj]
  simp [List.getD, hj]
/-- a number put: the bytes and the error -/
def put (b : List UInt8) (at_ n : Int) (v : Nat) : List UInt8 × Nat :=
  if wrong b.length at_ n ≠ 0 then ([], wrong b.length at_ n)
  else if 256 ^ n.toNat ≤ v then ([], 11)
  else (over b at_.toNat (lay n.toNat v), 0)
/-- a number got, and the error -/
def cget (b : List UInt8) (at_ n : Int) : Nat × Nat :=
  if wrong b.length at_ n ≠ 0 then (0, wrong b.length at_ n) else (num ((b.drop at_.toNat).take n.toNat), 0)
theorem wrong_zero {size : Nat} {at_ n : Int} (h : wrong size at_ n = 0) : 1 ≤ n ∧ n ≤ 8 ∧ 0 ≤ at_ ∧ at_ + n ≤ size := by
  unfold wrong at h
  split at h
  · omega
  · split at h
    · omega
    · omega
theorem wrong_le (size : Nat) (at_ n : Int) : wrong size at_ n ≤ 2 := by
  unfold wrong
  repeat' split
  all_goals omega
theorem put_length {b : List UInt8} {at_ n : Int} {v : Nat} (h : (put b at_ n v).2 = 0) : (put b at_ n v).1.length = b.length := by
  unfold put at h ⊢
  split
  · rename_i h1
    rw [if_pos h1] at h
    exact absurd h h1
  · rename_i h1
    have h0 := wrong_zero (by omega : wrong b.length at_ n = 0)
    split
    · rename_i h2
      rw [if_neg h1, if_pos h2] at h
      cases h
    · exact over_length _ _ _ (by rw [lay_length]; omega)
theorem put_len (b : List UInt8) (at_ n : Int) (v : Nat) : (put b at_ n v).1.length ≤ b.length := by
  by_cases h : (put b at_ n v).2 = 0
  · rw [put_length h]
    exact Nat.le_refl _
  · unfold put at h ⊢
    split
    · simp
    · split
      · simp
      · rename_i h1 h2
        rw [if_neg h1, if_neg h2] at h
        exact absurd rfl h
theorem num_or (a k x : Nat) (h : a < 256 ^ k) : a ||| (x * 2 ^ (8 * k)) = a + 256 ^ k * x := by
  rw [pow256] at h ⊢
  have := Nat.two_pow_add_eq_or_of_lt h x
  rw [Nat.or_comm, Nat.mul_comm x, ← this, Nat.add_comm]
def zall (b : List UInt8) (a n : Nat) : Bool := (List.range n).all fun k => b[a + k]? == some 0
def zeros (b : List UInt8) (i j : Int) : Bool := decide (0 ≤ i ∧ i ≤ j ∧ j ≤ b.length) && zall b i.toNat (j - i).toNat
theorem zall_zero (b : List UInt8) (a : Nat) : zall b a 0 = true := rfl
theorem zall_succ (b : List UInt8) (a n : Nat) : zall b a (n + 1) = (zall b a n && b[a + n]? == some 0) := by simp [zall, List.range_succ]
theorem zall_false {b : List UInt8} {a n k : Nat} (hk : k < n) (h : b[a + k]? ≠ some 0) : zall b a n = false := by
  unfold zall
  rw [List.all_eq_false]
  exact ⟨k, by simpa using hk, by simpa using h⟩
theorem zeros_in {b : List UInt8} {a m : Nat} (h : a ≤ m) (h2 : m ≤ b.length) : zeros b a m = zall b a (m - a) := by
  unfold zeros
  rw [decide_eq_true (by omega), Bool.true_and]
  congr 1
  omega
theorem zeros_out {b : List UInt8} {i j : Int} (h : ¬ (0 ≤ i ∧ i ≤ j ∧ j ≤ b.length)) : zeros b i j = false := by
  unfold zeros
  rw [decide_eq_false h, Bool.false_and]
end Go.Proofs.FuCode
/- Words for memory, third part: whole arrays of bytes by value, over any program: made, read, written, copied, compared; regions that draw their order and only make memory. -/
namespace Go.Proofs.FuMem
open Go.RowKit
section
variable {P : Program}
/-- an array of bytes as a value -/
def arrV (l : List UInt8) : Value := .agg (l.map B).toArray
/-- a block that is just an array of bytes -/
def Arr (w : World) (g : Nat) (t : TypeId) (l : List UInt8) : Prop := Blk w g t (l.map B).toArray
theorem Arr.bs {w : World} {g : Nat} {t : TypeId} {l : List UInt8} (h : Arr w g t l) : Bs w (some ⟨g, 0, none⟩) l.length l := Sl.of_blk h 0 (by rw [List.drop_zero, List.take_of_length_le (by simp)]) (by simp)
theorem Arr.only {w w' : World} {S : List Nat} {g : Nat} {t : TypeId} {l : List UInt8} (h : Arr w g t l) (ho : Only S w w') (hs : g ∉ S) : Arr w' g t l := Blk.only h ho hs
theorem Arr.cell {w : World} {g : Nat} {t : TypeId} {l : List UInt8} (h : Arr w g t l) (k : Nat) (hk : k < l.length) : w.cell? ⟨g, k, none⟩ = some (.int .u8 ((l.getD k 0).toNat : Int)) := by
  rw [Blk.cell h, List.getElem?_toArray, List.getElem?_map, List.getElem?_eq_getElem hk]
  simp [B, List.getD, hk]
theorem Arr.frozen {w : World} {g : Nat} {t : TypeId} {l : List UInt8} (h : Arr w g t l) (k : Nat) : w.frozen? ⟨g, k, none⟩ = false := Blk.frozen h k
theorem Arr.set {w : World} {g : Nat} {t : TypeId} {l : List UInt8} (h : Arr w g t l) (k : Nat) {x : Int} {y : UInt8} (hx : x = y.toNat) : Arr (w.setCell ⟨g, k, none⟩ (.int .u8 x)) g t (l.set k y) := by
  have := Blk.set h k (.int .u8 x)
  unfold Arr
  rw [List.map_set, show B y = .int .u8 x by rw [hx]; rfl]
  have e : (l.map B).toArray.setIfInBounds k (.int .u8 x) = ((l.map B).set k (.int .u8 x)).toArray := by simp
  rw [e] at this
  exact this
theorem all_B (l : List UInt8) : ((l.map B).toArray).all (·.oneCell') = true := all_oneCell_toArray one_B
theorem Sl.range {w : World} {b o n : Nat} {xs : List Value} (h : Sl w (some ⟨b, o, none⟩) n xs) : w.rangeAt b o xs := fun j v hj => by
  have hl := h.1
  have hjn : j < n := by rw [← hl]; exact (List.getElem?_eq_some_iff.1 hj).1
  rcases h.2 with h0 | ⟨b', o', e, hc⟩
  · omega
  · cases e
    rw [hc j hjn, hj]
/-! ### the operations in a plain region -/
variable {w : World} {ops : Array Oper} {rest : List Oper} {o : Oper} {a : Act} {Q : Exit → Act → World → Prop}
/-- a variable is made -/
theorem wpList_alloc_blk (hgd : o.guard = none) (T : TypeId) (ho : o.op = .alloc T) (z : Value) (hz : (P.info? T).map (·.zero) = some (some z))
    (h : ∀ w', Blk w' w.heap.size T z.cells → Only [] w w' → w'.heap.size = w.heap.size + 1 → wpList P ops Q rest (a.put o.dst (.pointer (some ⟨w.heap.size, 0, none⟩))) w') : wpList P ops Q (o :: rest) a w :=
  wpList_plain hgd fun K hK => by
    have hr : (Instr.alloc T true (.tuple #[])).run P w = .ok (.pointer (some ⟨w.heap.size, 0, none⟩)) (w.alloc (.cells z.cells T)) := by
      cases hq : P.info? T with
      | none => simp [hq] at hz
      | some i =>
        simp [hq] at hz
        simp [Instr.alloc, zeroValue, typeInfo, hq, hz, newVar, newRow]
    unfold Oper.wp
    simp only [execOp, ho, Sem.run_bind, hr, Result.andThen_ok, Sem.run_pure]
    exact hK _ _ (h _ (Blk.new _ _ _) ((Only.refl _ _).alloc _) (by simp))
/-- an array is read -/
theorem wpList_load_arr (hgd : o.guard = none) (T : TypeId) (x : Operand) (ho : o.op = .load T x) (b off : Nat) (hx : a.eval x = .pointer (some ⟨b, off, none⟩)) (l : List UInt8)
    (hc : Bs w (some ⟨b, off, none⟩) l.length l) (n : Nat) (e : TypeId) (hu : P.underlying T = some (.array n e)) (hi : (P.info? T).map (·.size) = some l.length)
    (h : wpList P ops Q rest (a.put o.dst (arrV l)) w) : wpList P ops Q (o :: rest) a w :=
  wpList_load_mid hgd T x ho b off hx (l.map B) _ (Sl.range hc) hu rfl (by simpa using hi) h
/-- what was laid over a block -/
def splice (cs : Array Value) (off : Nat) (vs : List Value) : Array Value := (cs.toList.take off ++ vs ++ cs.toList.drop (off + vs.length)).toArray
theorem splice_size (cs : Array Value) (off : Nat) (vs : List Value) (h : off + vs.length ≤ cs.size) : (splice cs off vs).size = cs.size := by simp [splice]; omega
/-- a value of many cells is written into a block -/
theorem wpList_store_blk (hgd : o.guard = none) (T : TypeId) (x y : Operand) (ho : o.op = .store T x y) (g off : Nat) (vs : Array Value) (hx : a.eval x = .pointer (some ⟨g, off, none⟩)) (hy : a.eval y = .agg vs)
    (t : TypeId) (cs : Array Value) (hb : Blk w g t cs) (hfit : off + vs.size ≤ cs.size) (hi : (P.info? T).map (·.size) = some vs.size) (h1 : vs.all (·.oneCell') = true)
    (h : ∀ w', Blk w' g t (splice cs off vs.toList) → Only [g] w w' → w'.heap.size = w.heap.size → wpList P ops Q rest (a.put o.dst undef) w') : wpList P ops Q (o :: rest) a w :=
  wpList_plain hgd fun K hK => by
    have hst := run_storeCells_at P g off t vs.toList 0 cs w hb (by simpa using hfit) (fun v hv => (Array.all_eq_true_iff_forall_mem.1 h1) v (by simpa using hv))
    rw [Nat.add_zero] at hst
    have hr : (Instr.storeAt T (.pointer (some ⟨g, off, none⟩)) (.agg vs)).run P w = .ok () (w.setRow g (splice cs off vs.toList)) := by
      cases hq : P.info? T with
      | none => simp [hq] at hi
      | some i =>
        have hs : vs.size = i.size := by simp [hq] at hi; omega
        simp [Instr.storeAt, Instr.sureAddr, storeVar, sizeOf, typeInfo, hq, Value.cells, hs, hst, splice]
    unfold Oper.wp
    simp only [execOp, ho, hx, hy, Sem.run_bind, hr, Result.andThen_ok, Sem.run_pure]
    exact hK _ _ (h _ (hb.row _) ((Only.refl _ _).setRow (.inl (by simp)) _) (by simp))
/-- builtin copy into a block -/
theorem wpList_copy_blk (hgd : o.guard = none) (d s : Operand) (dT sT : TypeId)
    (ho : o.op = .call { callee := .builtin .copy, args := #[d, s], argTypes := #[dT, sT] }) (elem : TypeId) (hu : P.underlying dT = some (.slice elem)) (hsz : (P.info? elem).map (·.size) = some 1)
    (g off dLen dCap : Nat) (A : Option Addr) (n c : Nat) (hd : a.eval d = .slice (some ⟨g, off, none⟩) dLen dCap) (hs : a.eval s = .slice A n c)
    (t : TypeId) (cs : Array Value) (hb : Blk w g t cs) (hfit : off + dLen ≤ cs.size) (xs : List Value) (hx : Sl w A n xs) (h1 : ∀ v ∈ xs, v.oneCell' = true)
    (h : ∀ w', Blk w' g t (splice cs off (xs.take dLen)) → Only [g] w w' → w'.heap.size = w.heap.size → wpList P ops Q rest (a.put o.dst (goInt ((min n dLen : Nat) : Int))) w') : wpList P ops Q (o :: rest) a w := by
  have hl := hx.1
  by_cases h0 : min n dLen = 0
  · refine wpList_copy_nothing hgd d s dT sT ho elem hu hsz _ _ dLen dCap n c hd hs h0 ?_
    have he : xs.take dLen = [] := by
      apply List.eq_nil_of_length_eq_zero
      rw [List.length_take, hl, Nat.min_comm]
      exact h0
    have := h w (by rw [he]; unfold splice; simpa using hb) (Only.refl _ _) rfl
    rw [h0] at this
    exact this
  · obtain ⟨b, f, rfl, hc⟩ := hx.at_ (by omega)
    have hlen : (xs.take dLen).length = min n dLen := by rw [List.length_take, hl, Nat.min_comm]
    refine wpList_copy_own hgd d s dT sT ho elem hu hsz g off dLen dCap _ n c hd hs cs t hb (xs.take dLen) hlen (fun j v hj => ?_) (by rw [hlen]; omega) (fun v hv => h1 v (List.mem_of_mem_take hv)) ?_
    · have hjl : j < (xs.take dLen).length := (List.getElem?_eq_some_iff.1 hj).1
      rw [hlen] at hjl
      rw [Addr.add_lit, hc j (by omega)]
      rw [List.getElem?_take_of_lt (by omega), List.getElem?_eq_getElem (by omega)] at hj
      exact hj
    · rw [hlen]
      refine h _ ?_ ((Only.refl _ _).setRow (.inl (by simp)) _) (by simp)
      have := hb.row (g := g) (cs.toList.take off ++ (xs.take dLen ++ cs.toList.drop (off + (xs.take dLen).length))).toArray
      rw [hlen] at this
      unfold splice
      rw [hlen, List.append_assoc]
      exact this
/-! ### the same, of blocks that are just arrays of bytes -/
theorem wpList_alloc_arr (hgd : o.guard = none) (T : TypeId) (ho : o.op = .alloc T) (l : List UInt8) (hz : (P.info? T).map (·.zero) = some (some (arrV l)))
    (h : ∀ w', Arr w' w.heap.size T l → Only [] w w' → w'.heap.size = w.heap.size + 1 → wpList P ops Q rest (a.put o.dst (.pointer (some ⟨w.heap.size, 0, none⟩))) w') : wpList P ops Q (o :: rest) a w :=
  wpList_alloc_blk hgd T ho (arrV l) hz h
theorem wpList_store_arr (hgd : o.guard = none) (T : TypeId) (x y : Operand) (ho : o.op = .store T x y) (g : Nat) (l : List UInt8) (hx : a.eval x = .pointer (some ⟨g, 0, none⟩)) (hy : a.eval y = arrV l)
    (t : TypeId) (k : List UInt8) (hb : Arr w g t k) (hlen : k.length = l.length) (hi : (P.info? T).map (·.size) = some l.length)
    (h : ∀ w', Arr w' g t l → Only [g] w w' → w'.heap.size = w.heap.size → wpList P ops Q rest (a.put o.dst undef) w') : wpList P ops Q (o :: rest) a w :=
  wpList_store_blk hgd T x y ho g 0 (l.map B).toArray hx hy t _ hb (by simp [hlen]) (by simpa using hi) (all_B l) fun w' h1 h2 h3 => h w' (by
    have e : splice (k.map B).toArray 0 (l.map B).toArray.toList = (l.map B).toArray := by
      unfold splice
      simp only [List.take_zero, List.nil_append, Nat.zero_add]
      rw [List.drop_eq_nil_of_le (by simp [hlen]), List.append_nil]
    rw [e] at h1
    exact h1) h2 h3
theorem wpList_copy_arr (hgd : o.guard = none) (d s : Operand) (dT sT : TypeId)
    (ho : o.op = .call { callee := .builtin .copy, args := #[d, s], argTypes := #[dT, sT] }) (elem : TypeId) (hu : P.underlying dT = some (.slice elem)) (hsz : (P.info? elem).map (·.size) = some 1)
    (g off dLen dCap : Nat) (A : Option Addr) (n c : Nat) (hd : a.eval d = .slice (some ⟨g, off, none⟩) dLen dCap) (hs : a.eval s = .slice A n c)
    (t : TypeId) (k : List UInt8) (hb : Arr w g t k) (hfit : off + dLen ≤ k.length) (l : List UInt8) (hx : Bs w A n l)
    (h : ∀ w', Arr w' g t (FuCode.over k off (l.take dLen)) → Only [g] w w' → w'.heap.size = w.heap.size → wpList P ops Q rest (a.put o.dst (goInt ((min n dLen : Nat) : Int))) w') : wpList P ops Q (o :: rest) a w :=
  wpList_copy_blk hgd d s dT sT ho elem hu hsz g off dLen dCap A n c hd hs t _ hb (by simpa using hfit) (l.map B) hx one_B fun w' h1 h2 h3 => h w' (by
    have e : splice (k.map B).toArray off ((l.map B).take dLen) = ((FuCode.over k off (l.take dLen)).map B).toArray := by
      unfold splice FuCode.over
      simp
    rw [e] at h1
    exact h1) h2 h3
/-- the zero array, built -/
theorem wpList_build_zero (hgd : o.guard = none) (T : TypeId) (ho : o.op = .build T #[]) (l : List UInt8) (hz : (P.info? T).map (·.zero) = some (some (arrV l))) (n : Nat) (e : TypeId) (hu : P.underlying T = some (.array n e)) (i : TypeInfo) (he : P.info? e = some i)
    (h : wpList P ops Q rest (a.put o.dst (arrV l)) w) : wpList P ops Q (o :: rest) a w :=
  wpList_plain hgd fun K hK => by
    have hr : (Instr.build T #[]).run P w = .ok (arrV l) w := by
      cases hq : P.info? T with
      | none => simp [hq] at hz
      | some j =>
        simp [hq] at hz
        simp [Instr.build, zeroValue, typeInfo, hq, hz, run_underlying hu, sizeOf, he, Instr.fill]
        rfl
    unfold Oper.wp
    simp only [execOp, ho, List.map_toArray, List.map_nil, Sem.run_bind, hr, Result.andThen_ok, Sem.run_pure]
    exact hK _ _ h
/-- two results, of which the first one is an array in memory -/
theorem results_arr_tmp {fn : Func} {p u : Tmp} {ty : TypeId} (h : fn.results = #[.cell p ty, .tmp u]) (tmps : Array Value) (w : World) (g : Nat) (l : List UInt8) (hb : Arr w g ty l)
    (hp : tmps.getD p undef = .pointer (some ⟨g, 0, none⟩)) (n : Nat) (e : TypeId) (hu : P.underlying ty = some (.array n e)) (hi : (P.info? ty).map (·.size) = some l.length) :
    (results fn tmps).run P w = .ok (.tuple #[arrV l, tmps.getD u undef]) w := by
  have hp' : tmps[p]?.getD undef = .pointer (some ⟨g, 0, none⟩) := by simpa using hp
  have hr := run_loadVar_row (P := P) w g ty ty (l.map B).toArray (0, 0) _ hb hu rfl (by simpa using hi)
  simp [results, h, hp', asAddr, hr, arrV]
/-- 'arr[a:]' through an array's address -/
theorem run_sliceAt_low {T e : TypeId} {N : Nat} (hu : P.underlying T = some (.array N e)) (i : TypeInfo) (he : P.info? e = some i) (hs : i.size = 1) (b off a : Nat) (ha : a < N) (w : World) :
    (Instr.sliceAt T (.pointer (some ⟨b, off, none⟩)) (some (.int .i64 a)) none none).run P w = .ok (.slice (some ⟨b, off + a, none⟩) (N - a) (N - a)) w := by
  have h1 : ¬ N = a := by omega
  have h2 : a ≤ N := by omega
  simp [Instr.sliceAt, Instr.sureAddr, Instr.sliceBounds, Instr.sliceBound, asIntOf, run_underlying hu, sizeOf, typeInfo, he, hs, h1, h2, Addr.add_lit]
theorem run_sliceAt_end {T e : TypeId} {N : Nat} (hu : P.underlying T = some (.array N e)) (i : TypeInfo) (he : P.info? e = some i) (b off : Nat) (w : World) :
    (Instr.sliceAt T (.pointer (some ⟨b, off, none⟩)) (some (.int .i64 N)) none none).run P w = .ok (.slice (some ⟨b, off, none⟩) 0 0) w := by
  have h2 : (0 : Int) ≤ N := by omega
  simp [Instr.sliceAt, Instr.sureAddr, Instr.sliceBounds, Instr.sliceBound, asIntOf, run_underlying hu, sizeOf, typeInfo, he, h2]
/-! ### two arrays of bytes -/
theorem run_eqItems_bytes (d : Nat) (e : TypeId) (i : TypeInfo) (he : P.underlying e = some (.int .u8)) (hi : P.info? e = some i) (hs : i.size = 1) (l k : List UInt8) (w : World) : ∀ is : List Nat, (∀ j ∈ is, j < l.length ∧ j < k.length) →
    (Op.eqItems (d + 1) e 1 (l.map B).toArray (k.map B).toArray is).run P w = .ok (is.all fun j => l[j]? == k[j]?) w
  | [], _ => by simp [Op.eqItems]
  | j :: is, h => by
    obtain ⟨h1, h2⟩ := h j (by simp)
    have ih := run_eqItems_bytes d e i he hi hs l k w is (fun j hj => h j (by simp [hj]))
    have hp : ∀ (m : List UInt8) (hm : j < m.length), (part e (m.map B).toArray (j * 1)).run P w = .ok (B m[j]) w := fun m hm => by
      simp [part, isAgg, run_underlying he, hm]
    simp only [Op.eqItems, Sem.run_bind, hp l h1, hp k h2, Result.andThen_ok]
    rw [show (Op.equalIn (d + 1) e (B l[j]) (B k[j])).run P w = .ok (l[j] == k[j]) w by
      have := run_equalIn_int (P := P) w d e .u8 .u8 (l[j].toNat : Int) (k[j].toNat : Int) he
      unfold B
      rw [this]
      congr 1
      rw [Bool.eq_iff_iff, beq_iff_eq, beq_iff_eq]
      exact ⟨fun h => UInt8.toNat_inj.1 (Int.ofNat.inj h), fun h => by rw [h]⟩]
    simp only [Result.andThen_ok, List.all_cons, List.getElem?_eq_getElem h1, List.getElem?_eq_getElem h2]
    by_cases hq : l[j] = k[j]
    · simp [hq, ih]
    · simp [hq]
theorem all_same (l k : List UInt8) (n : Nat) (hl : l.length = n) (hk : k.length = n) : ((List.range n).all fun j => l[j]? == k[j]?) = (l == k) := by
  rw [Bool.eq_iff_iff, List.all_eq_true, beq_iff_eq]
  constructor
  · intro h
    apply List.ext_getElem?
    intro i
    by_cases hi : i < n
    · simpa using h i (by simpa using hi)
    · rw [List.getElem?_eq_none (by omega), List.getElem?_eq_none (by omega)]
  · rintro rfl
    simp
theorem run_equalIn_arr (d : Nat) {T e : TypeId} {n : Nat} (hu : P.underlying T = some (.array n e)) (he : P.underlying e = some (.int .u8)) (i : TypeInfo) (hi : P.info? e = some i) (hs : i.size = 1) (l k : List UInt8) (hl : l.length = n) (hk : k.length = n) (w : World) :
    (Op.equalIn (d + 2) T (arrV l) (arrV k)).run P w = .ok (l == k) w := by
  unfold arrV
  rw [run_equalIn_array w (d + 1) _ _ hu hi, show P.cellsOf e = 1 by simp [Program.cellsOf, hi, hs], run_eqItems_bytes d e i he hi hs l k w _ (fun j hj => by have := List.mem_range.1 hj; omega), all_same l k n hl hk]
theorem run_neq_arr {T e : TypeId} {n : Nat} (hu : P.underlying T = some (.array n e)) (he : P.underlying e = some (.int .u8)) (i : TypeInfo) (hi : P.info? e = some i) (hs : i.size = 1) (l k : List UInt8) (hl : l.length = n) (hk : k.length = n) (w : World) :
    (binOp .neq T (arrV l) (arrV k)).run P w = .ok (.bool (l != k)) w := by
  unfold arrV
  rw [run_neq_struct]
  have := run_equalIn_arr 9998 hu he i hi hs l k hl hk w
  unfold arrV at this
  rw [this]
  rfl
/-! ### a region that draws its order and only makes memory: one walk in the text's order -/
/-- a world behind w0: all blocks of w0 are as they were -/
structure Later (w0 : World) where
  w : World
  only : Only [] w0 w
instance (w0 : World) : Nonempty (Later w0) := ⟨⟨w0, Only.refl _ _⟩⟩
theorem wp_region_later {id : Nat} {Q : Exit → Act → World → Prop} {a : Act} (w : World) {l : List Oper} (hm : P.follows .mixedOrders = true) (hB : Region.lexB .any l.toArray = true)
    (h : wpQuiet P l.toArray (fun w' => ∃ p : Later w, w' = p.w) (fun a' => ∀ w', (∃ p : Later w, w' = p.w) → Q .normal a' w') l a) : (Code.region id l.toArray true).wp P Q a w :=
  wp_region_quiet (C := fun w' => ∃ p : Later w, w' = p.w) hm hB ⟨⟨w.drew, (Only.refl _ _).drew⟩, rfl⟩ (by simpa using h)
/-- a call inside such a region -/
theorem Calls.later {w0 : World} {p : Later w0} {f : FuncId} {args : Array Value} {v : Value} (h : Calls P f args p.w fun e w' => e = .returned v ∧ Only [] p.w w') :
    Calls P f args p.w fun e w'' => e = .returned v ∧ ∃ q : Later w0, w'' = q.w :=
  h.mono fun _ w' ⟨he, ho⟩ => ⟨he, ⟨w', p.only.trans0 ho⟩, rfl⟩
theorem Calls.later_same {w0 : World} {p : Later w0} {f : FuncId} {args : Array Value} {v : Value} (h : Calls P f args p.w fun e w' => e = .returned v ∧ p.w = w') :
    Calls P f args p.w fun e w'' => e = .returned v ∧ ∃ q : Later w0, w'' = q.w :=
  h.mono fun _ _ ⟨he, ho⟩ => ⟨he, p, ho.symm⟩
theorem Later.cell {w0 : World} (p : Later w0) {b o : Nat} {v : Value} (h : w0.cell? ⟨b, o, none⟩ = some v) : p.w.cell? ⟨b, o, none⟩ = some v := by
  have hlt := lt_of_cell h
  rw [cell_only p.only hlt (by simp)]
  exact h
/-- an array is read, in each world behind w0 -/
theorem later_load_arr {w0 : World} (T : TypeId) (b off : Nat) (l : List UInt8) (hc : Bs w0 (some ⟨b, off, none⟩) l.length l) (n : Nat) (e : TypeId) (hu : P.underlying T = some (.array n e)) (hi : (P.info? T).map (·.size) = some l.length)
    (p : Later w0) : (Instr.loadAt T (.pointer (some ⟨b, off, none⟩))).run P p.w = .ok (arrV l) p.w :=
  run_loadAt_mid p.w b off T (l.map B) _ (Sl.range (hc.only0 p.only)) hu rfl (by simpa using hi)
/-- .. as a step of such a region -/
theorem later_load {w0 : World} {Q : Act → Prop} (hw : Region.wanted o (yielded ops a.tmps) = true) (T : TypeId) (x : Operand) (ho : o.op = .load T x) (b off : Nat) (hx : a.eval x = .pointer (some ⟨b, off, none⟩)) (l : List UInt8)
    (hc : Bs w0 (some ⟨b, off, none⟩) l.length l) (n : Nat) (e : TypeId) (hu : P.underlying T = some (.array n e)) (hi : (P.info? T).map (·.size) = some l.length)
    (h : wpQuiet P ops (fun w' => ∃ p : Later w0, w' = p.w) Q rest (a.put o.dst (arrV l))) : wpQuiet P ops (fun w' => ∃ p : Later w0, w' = p.w) Q (o :: rest) a :=
  wpQuiet_step fun K hK => by
    rw [if_pos hw]
    refine ⟨arrV l, fun w' ⟨p, hp⟩ => ?_, hK _ h⟩
    subst hp
    unfold Oper.quietAt execOp
    simp only [ho, hx, Sem.run_bind, later_load_arr T b off l hc n e hu hi p, Result.andThen_ok, Sem.run_pure]
    exact ⟨rfl, rfl⟩
theorem eqGuard_arr {T : TypeId} (hm : P.eqGuardType P.depth T = false) (op : BinOp) (x y : Operand) (l k : List UInt8) (w : World) : (eqGuard op T x y (arrV l) (arrV k)).run P w = .ok () w :=
  run_eqGuard_agg (P := P) w op T x y _ _ hm
end
end Go.Proofs.FuMem
/- Devices: lines with three copies, counts; how they lie in memory. Over any program. -/
namespace Go.Proofs.FuNvm
open Go.RowKit Go.Proofs.FuMem
structure Line where
  now : List UInt8
  kept : List UInt8
  way : List UInt8
  sent : Bool
def Line.Ok (x : Line) : Prop := x.now.length = 64 ∧ x.kept.length = 64 ∧ x.way.length = 64
structure Dev where
  lines : List Line
  stores : Int
  flushes : Int
  fences : Int
  backs : Int
  cuts : Int
def cellsOf (x : Line) : List Value := x.now.map B ++ x.kept.map B ++ x.way.map B ++ [.bool x.sent]
theorem cellsOf_length {x : Line} (h : x.Ok) : (cellsOf x).length = 193 := by
  obtain ⟨h1, h2, h3⟩ := h
  simp [cellsOf, h1, h2, h3]
theorem cellsOf_one (x : Line) : ∀ v ∈ cellsOf x, v.oneCell' = true := by
  intro v hv
  simp only [cellsOf, List.mem_append, List.mem_singleton] at hv
  rcases hv with ((hv | hv) | hv) | hv
  · exact one_B v hv
  · exact one_B v hv
  · exact one_B v hv
  · subst hv; rfl
def flat (L : List Line) : List Value := L.flatMap cellsOf
def AllOk (L : List Line) : Prop := ∀ x ∈ L, x.Ok
theorem flat_cons (x : Line) (L : List Line) : flat (x :: L) = cellsOf x ++ flat L := rfl
theorem flat_append (L M : List Line) : flat (L ++ M) = flat L ++ flat M := by simp [flat]
theorem flat_length {L : List Line} (h : AllOk L) : (flat L).length = L.length * 193 := by
  induction L with
  | nil => rfl
  | cons x L ih =>
    rw [flat_cons, List.length_append, cellsOf_length (h x (by simp)), ih (fun y hy => h y (by simp [hy])), List.length_cons]
    omega
theorem AllOk.take {L : List Line} (h : AllOk L) (i : Nat) : AllOk (L.take i) := fun x hx => h x (List.mem_of_mem_take hx)
theorem AllOk.set {L : List Line} (h : AllOk L) (i : Nat) {y : Line} (hy : y.Ok) : AllOk (L.set i y) := fun x hx => by
  rcases List.mem_or_eq_of_mem_set hx with h1 | h1
  · exact h x h1
  · rw [h1]; exact hy
theorem AllOk.get {L : List Line} (h : AllOk L) {i : Nat} (hi : i < L.length) : (L[i]).Ok := h _ (List.getElem_mem hi)
theorem flat_split (L : List Line) (i : Nat) (hi : i < L.length) : flat L = flat (L.take i) ++ (cellsOf L[i] ++ flat (L.drop (i + 1))) := by
  rw [← flat_cons, ← flat_append, ← List.drop_eq_getElem_cons hi, List.take_append_drop]
theorem flat_read {L : List Line} (h : AllOk L) {i : Nat} (hi : i < L.length) {o m : Nat} (hm : o + m ≤ 193) : ((flat L).drop (i * 193 + o)).take m = ((cellsOf L[i]).drop o).take m := by
  have hl := flat_length (h.take i)
  rw [List.length_take, Nat.min_eq_left (by omega)] at hl
  have hc := cellsOf_length (h.get hi)
  have e : (flat L).drop (i * 193) = cellsOf L[i] ++ flat (L.drop (i + 1)) := by
    rw [flat_split L i hi, ← hl, List.drop_left]
  rw [← List.drop_drop, e, List.drop_append_of_le_length (by omega), List.take_append_of_le_length (by rw [List.length_drop]; omega)]
/-- what is written within one line -/
theorem flat_write {L : List Line} (h : AllOk L) {i : Nat} (hi : i < L.length) {o : Nat} {vs : List Value} (hm : o + vs.length ≤ 193) {y : Line}
    (hy : cellsOf y = (cellsOf L[i]).take o ++ vs ++ (cellsOf L[i]).drop (o + vs.length)) (cs : List Value) (hp : cs.take (L.length * 193) = flat L) :
    (cs.take (i * 193 + o) ++ vs ++ cs.drop (i * 193 + o + vs.length)).take (L.length * 193) = flat (L.set i y) := by
  have hl := flat_length (h.take i)
  rw [List.length_take, Nat.min_eq_left (by omega)] at hl
  have hc := cellsOf_length (h.get hi)
  have hfl := flat_length h
  have hi2 : (i + 1) * 193 ≤ L.length * 193 := Nat.mul_le_mul_right _ hi
  have hcl : L.length * 193 ≤ cs.length := by
    have := congrArg List.length hp
    rw [List.length_take, hfl] at this
    omega
  have e1 : cs.take (i * 193 + o) = flat (L.take i) ++ (cellsOf L[i]).take o := by
    have : cs.take (i * 193 + o) = (cs.take (L.length * 193)).take (i * 193 + o) := by rw [List.take_take, Nat.min_eq_left (by omega)]
    rw [this, hp, flat_split L i hi, List.take_append, hl, List.take_of_length_le (by omega), show i * 193 + o - i * 193 = o by omega, List.take_append_of_le_length (by omega)]
  have e2 : (cs.drop (i * 193 + o + vs.length)).take (L.length * 193 - (i * 193 + o + vs.length)) = (cellsOf L[i]).drop (o + vs.length) ++ flat (L.drop (i + 1)) := by
    rw [← List.drop_take, hp, flat_split L i hi, List.drop_append, hl, List.drop_eq_nil_of_le (by omega), List.nil_append, show i * 193 + o + vs.length - i * 193 = o + vs.length by omega, List.drop_append_of_le_length (by omega)]
  have hlen : (cs.take (i * 193 + o) ++ vs).length = i * 193 + o + vs.length := by
    rw [List.length_append, List.length_take, Nat.min_eq_left (by omega)]
  rw [List.take_append, List.take_of_length_le (by omega), hlen, e2, e1]
  have hset : L.set i y = L.take i ++ y :: L.drop (i + 1) := by rw [List.set_eq_take_append_cons_drop, if_pos hi]
  rw [hset, flat_append, flat_cons, hy]
  simp only [List.append_assoc]
/-! ### in memory -/
def countsOf (D : Dev) : List Value := [.int .i64 D.stores, .int .i64 D.flushes, .int .i64 D.fences, .int .i64 D.backs, .int .i64 D.cuts]
/-- the device's own block -/
def headOf (cb cap : Nat) (D : Dev) : Array Value := #[.slice (some ⟨cb, 0, none⟩) D.lines.length cap, .int .i64 D.stores, .int .i64 D.flushes, .int .i64 D.fences, .int .i64 D.backs, .int .i64 D.cuts]
structure IsDev (tD tC : TypeId) (w : World) (g cb cap : Nat) (D : Dev) : Prop where
  head : Blk w g tD (headOf cb cap D)
  body : ∃ cs, Blk w cb tC cs ∧ cs.toList.take (D.lines.length * 193) = flat D.lines
  ne : g ≠ cb
  ok : AllOk D.lines
  few : D.lines.length ≤ 258
  cap_le : D.lines.length ≤ cap
section
variable {tD tC : TypeId} {w w' : World} {S : List Nat} {g cb cap : Nat} {D : Dev}
theorem IsDev.only (h : IsDev tD tC w g cb cap D) (ho : Only S w w') (h1 : g ∉ S) (h2 : cb ∉ S) : IsDev tD tC w' g cb cap D :=
  ⟨h.head.only ho h1, let ⟨cs, hb, hp⟩ := h.body; ⟨cs, hb.only ho h2, hp⟩, h.ne, h.ok, h.few, h.cap_le⟩
theorem IsDev.only0 (h : IsDev tD tC w g cb cap D) (ho : Only [] w w') : IsDev tD tC w' g cb cap D := h.only ho (by simp) (by simp)
theorem IsDev.lt1 (h : IsDev tD tC w g cb cap D) : g < w.heap.size := h.head.lt
theorem IsDev.lt2 (h : IsDev tD tC w g cb cap D) : cb < w.heap.size := let ⟨_, hb, _⟩ := h.body; hb.lt
theorem body_size {cs : Array Value} (hok : AllOk D.lines) (hp : cs.toList.take (D.lines.length * 193) = flat D.lines) : D.lines.length * 193 ≤ cs.size := by
  have := congrArg List.length hp
  rw [List.length_take, flat_length hok, Array.length_toList] at this
  omega
/-- a piece of a line -/
theorem IsDev.sl (h : IsDev tD tC w g cb cap D) {i : Nat} (hi : i < D.lines.length) {o m : Nat} (hm : o + m ≤ 193) : Sl w (some ⟨cb, i * 193 + o, none⟩) m (((cellsOf D.lines[i]).drop o).take m) := by
  obtain ⟨cs, hb, hp⟩ := h.body
  have hs := body_size h.ok hp
  have hi2 : (i + 1) * 193 ≤ D.lines.length * 193 := Nat.mul_le_mul_right _ hi
  refine Sl.of_blk hb (i * 193 + o) ?_ (by omega)
  rw [← flat_read h.ok hi hm, ← hp, List.drop_take, List.take_take, Nat.min_eq_left (by omega)]
theorem IsDev.now (h : IsDev tD tC w g cb cap D) {i : Nat} (hi : i < D.lines.length) : Bs w (some ⟨cb, i * 193, none⟩) 64 (D.lines[i]).now := by
  have := h.sl hi (o := 0) (m := 64) (by omega)
  obtain ⟨h1, h2, h3⟩ := h.ok.get hi
  rw [List.drop_zero, cellsOf, List.append_assoc, List.append_assoc, List.take_append_of_le_length (by simp [h1]), List.take_of_length_le (by simp [h1])] at this
  exact this
theorem IsDev.kept (h : IsDev tD tC w g cb cap D) {i : Nat} (hi : i < D.lines.length) : Bs w (some ⟨cb, i * 193 + 64, none⟩) 64 (D.lines[i]).kept := by
  have := h.sl hi (o := 64) (m := 64) (by omega)
  obtain ⟨h1, h2, h3⟩ := h.ok.get hi
  rw [cellsOf, List.append_assoc, List.append_assoc, List.drop_append, List.drop_eq_nil_of_le (by simp [h1]), List.nil_append, List.length_map, h1, Nat.sub_self, List.drop_zero, List.take_append_of_le_length (by simp [h2]), List.take_of_length_le (by simp [h2])] at this
  exact this
theorem IsDev.way (h : IsDev tD tC w g cb cap D) {i : Nat} (hi : i < D.lines.length) : Bs w (some ⟨cb, i * 193 + 128, none⟩) 64 (D.lines[i]).way := by
  have := h.sl hi (o := 128) (m := 64) (by omega)
  obtain ⟨h1, h2, h3⟩ := h.ok.get hi
  rw [cellsOf, List.append_assoc, List.drop_append, List.drop_eq_nil_of_le (by simp [h1, h2]), List.nil_append, List.length_append, List.length_map, List.length_map, h1, h2, Nat.sub_self, List.drop_zero, List.take_append_of_le_length (by simp [h3]), List.take_of_length_le (by simp [h3])] at this
  exact this
theorem IsDev.sentCell (h : IsDev tD tC w g cb cap D) {i : Nat} (hi : i < D.lines.length) : w.cell? ⟨cb, i * 193 + 192, none⟩ = some (.bool (D.lines[i]).sent) := by
  have := h.sl hi (o := 192) (m := 1) (by omega)
  obtain ⟨h1, h2, h3⟩ := h.ok.get hi
  rw [cellsOf, List.drop_append, List.drop_eq_nil_of_le (by simp [h1, h2, h3]), List.nil_append, List.length_append, List.length_append, List.length_map, List.length_map, List.length_map, h1, h2, h3] at this
  obtain ⟨b, off, e, hc⟩ := this.at_ (by omega)
  cases e
  simpa using hc 0 (by simp)
theorem IsDev.frozen2 (h : IsDev tD tC w g cb cap D) (k : Nat) : w.frozen? ⟨cb, k, none⟩ = false := let ⟨_, hb, _⟩ := h.body; hb.frozen k
theorem IsDev.frozen1 (h : IsDev tD tC w g cb cap D) (k : Nat) : w.frozen? ⟨g, k, none⟩ = false := h.head.frozen k
theorem IsDev.cell (h : IsDev tD tC w g cb cap D) (k : Nat) : w.cell? ⟨g, k, none⟩ = (headOf cb cap D)[k]? := h.head.cell k
/-- one line has turned -/
theorem IsDev.write (h : IsDev tD tC w g cb cap D) {i : Nat} (hi : i < D.lines.length) {o : Nat} {vs : List Value} (hm : o + vs.length ≤ 193) {y : Line}
    (hy : cellsOf y = (cellsOf D.lines[i]).take o ++ vs ++ (cellsOf D.lines[i]).drop (o + vs.length)) (hyo : y.Ok)
    (cs : Array Value) (hp : cs.toList.take (D.lines.length * 193) = flat D.lines) (hb : Blk w' cb tC (FuMem.splice cs (i * 193 + o) vs)) (on : Only [cb] w w') :
    IsDev tD tC w' g cb cap { D with lines := D.lines.set i y } := by
  refine ⟨?_, ⟨_, hb, ?_⟩, h.ne, h.ok.set i hyo, by simpa using h.few, by simpa using h.cap_le⟩
  · have := h.head.only on (by simpa using h.ne)
    unfold headOf at this ⊢
    simpa using this
  · have := flat_write h.ok hi hm hy cs.toList hp
    unfold FuMem.splice
    simpa using this
end
end Go.Proofs.FuNvm
/- The checksum in plain Lean: one byte's step, its injectivity, folds over lists of bytes. No program in sight. -/
namespace Go.Proofs.FuCrc
/-- one bit -/
def cbit (c : Nat) : Nat := if c % 2 = 0 then c / 2 else (c / 2) ^^^ 3988292384
def cbits : Nat → Nat → Nat
  | 0, c => c
  | n + 1, c => cbits n (cbit c)
def cstep (c x : Nat) : Nat := cbits 8 (c ^^^ x)
def cfold (c : Nat) (l : List UInt8) : Nat := l.foldl (fun c x => cstep c x.toNat) c
/-- the sum of bytes behind others whose sum is c -/
def cadd (c : Nat) (l : List UInt8) : Nat := cfold (c ^^^ 4294967295) l ^^^ 4294967295
def crc (l : List UInt8) : Nat := cadd 0 l
theorem xor_lt {a b : Nat} (ha : a < 4294967296) (hb : b < 4294967296) : a ^^^ b < 4294967296 := Nat.xor_lt_two_pow (n := 32) ha hb
theorem cbit_lt {c : Nat} (h : c < 4294967296) : cbit c < 4294967296 := by
  unfold cbit
  split
  · omega
  · exact xor_lt (by omega) (by omega)
theorem cbits_succ (n c : Nat) : cbits (n + 1) c = cbit (cbits n c) := by
  induction n generalizing c with
  | zero => rfl
  | succ n ih => rw [cbits, ih, cbits]
theorem cbits_lt (n : Nat) {c : Nat} (h : c < 4294967296) : cbits n c < 4294967296 := by
  induction n generalizing c with
  | zero => exact h
  | succ n ih => exact ih (cbit_lt h)
theorem cstep_lt {c x : Nat} (h : c < 4294967296) (hx : x < 256) : cstep c x < 4294967296 := cbits_lt 8 (xor_lt h (by omega))
theorem byte_lt (x : UInt8) : x.toNat < 256 := x.toNat_lt
theorem cfold_lt (l : List UInt8) {c : Nat} (h : c < 4294967296) : cfold c l < 4294967296 := by
  unfold cfold
  induction l generalizing c with
  | nil => exact h
  | cons x l ih => exact ih (cstep_lt h (byte_lt x))
theorem cfold_append (c : Nat) (a b : List UInt8) : cfold c (a ++ b) = cfold (cfold c a) b := by simp [cfold]
theorem cfold_snoc (c : Nat) (a : List UInt8) (x : UInt8) : cfold c (a ++ [x]) = cstep (cfold c a) x.toNat := by simp [cfold]
theorem cfold_take (c : Nat) (l : List UInt8) (k : Nat) (h : k < l.length) : cfold c (l.take (k + 1)) = cstep (cfold c (l.take k)) l[k].toNat := by
  rw [List.take_succ_eq_append_getElem h, cfold_snoc]
theorem cadd_lt (l : List UInt8) {c : Nat} (h : c < 4294967296) : cadd c l < 4294967296 := xor_lt (cfold_lt l (xor_lt h (by omega))) (by omega)
theorem crc_lt (l : List UInt8) : crc l < 4294967296 := cadd_lt l (by omega)
theorem cadd_append (c : Nat) (a b : List UInt8) : cadd c (a ++ b) = cadd (cadd c a) b := by
  unfold cadd
  rw [cfold_append, Nat.xor_assoc, Nat.xor_self, Nat.xor_zero]
theorem crc_append (a b : List UInt8) : crc (a ++ b) = cadd (crc a) b := cadd_append 0 a b
theorem xor_cancel {a b c : Nat} (h : a ^^^ c = b ^^^ c) : a = b := by
  have := congrArg (· ^^^ c) h
  simpa [Nat.xor_assoc] using this
theorem testBit_hi {n : Nat} (h : n < 2147483648) : n.testBit 31 = false := Nat.testBit_lt_two_pow (by omega)
theorem cbit_inj {a b : Nat} (ha : a < 4294967296) (hb : b < 4294967296) (h : cbit a = cbit b) : a = b := by
  unfold cbit at h
  have p31 : (3988292384 : Nat).testBit 31 = true := by decide
  by_cases ea : a % 2 = 0 <;> by_cases eb : b % 2 = 0 <;> simp only [ea, eb, if_true, if_false] at h
  · omega
  · have h1 : (a / 2).testBit 31 = false := testBit_hi (by omega)
    have h2 : (b / 2).testBit 31 = false := testBit_hi (by omega)
    rw [h, Nat.testBit_xor, h2, p31] at h1
    simp at h1
  · have h1 : (a / 2).testBit 31 = false := testBit_hi (by omega)
    have h2 : (b / 2).testBit 31 = false := testBit_hi (by omega)
    rw [← h, Nat.testBit_xor, h1, p31] at h2
    simp at h2
  · have := xor_cancel h
    omega
theorem cbits_inj (n : Nat) {a b : Nat} (ha : a < 4294967296) (hb : b < 4294967296) (h : cbits n a = cbits n b) : a = b := by
  induction n generalizing a b with
  | zero => exact h
  | succ n ih => exact cbit_inj ha hb (ih (cbit_lt ha) (cbit_lt hb) h)
theorem cstep_inj_left {a b x : Nat} (ha : a < 4294967296) (hb : b < 4294967296) (hx : x < 256) (h : cstep a x = cstep b x) : a = b :=
  xor_cancel (cbits_inj 8 (xor_lt ha (by omega)) (xor_lt hb (by omega)) h)
theorem cstep_inj_right {a x y : Nat} (ha : a < 4294967296) (hx : x < 256) (hy : y < 256) (h : cstep a x = cstep a y) : x = y := by
  have := cbits_inj 8 (xor_lt ha (b := x) (by omega)) (xor_lt ha (by omega)) h
  rw [Nat.xor_comm a x, Nat.xor_comm a y] at this
  exact xor_cancel this
theorem cfold_inj (l : List UInt8) {a b : Nat} (ha : a < 4294967296) (hb : b < 4294967296) (h : cfold a l = cfold b l) : a = b := by
  unfold cfold at h
  induction l generalizing a b with
  | nil => exact h
  | cons x l ih => exact cstep_inj_left ha hb (byte_lt x) (ih (cstep_lt ha (byte_lt x)) (cstep_lt hb (byte_lt x)) h)
theorem cadd_inj (l : List UInt8) {a b : Nat} (ha : a < 4294967296) (hb : b < 4294967296) (h : cadd a l = cadd b l) : a = b :=
  xor_cancel (cfold_inj l (xor_lt ha (by omega)) (xor_lt hb (by omega)) (xor_cancel h))
/-- one byte turned turns the sum -/
theorem cadd_turn (c : Nat) (hc : c < 4294967296) (l : List UInt8) (k : Nat) (hk : k < l.length) (y : UInt8) (hne : y ≠ l[k]) : cadd c (l.set k y) ≠ cadd c l := by
  intro h
  have e1 : l.set k y = l.take k ++ [y] ++ l.drop (k + 1) := by
    rw [List.set_eq_take_append_cons_drop]; simp [hk]
  have e2 : l = l.take k ++ [l[k]] ++ l.drop (k + 1) := by
    rw [List.append_assoc]; simp
  have hc' : c ^^^ 4294967295 < 4294967296 := xor_lt hc (by omega)
  have h' := xor_cancel h
  rw [e1] at h'
  rw [show cfold (c ^^^ 4294967295) l = cfold (c ^^^ 4294967295) (l.take k ++ [l[k]] ++ l.drop (k + 1)) from congrArg _ e2] at h'
  rw [cfold_append, cfold_append (b := l.drop (k+1))] at h'
  rw [cfold_snoc, cfold_snoc] at h'
  have hl := cfold_lt (l.take k) hc'
  have h2 := cfold_inj _ (cstep_lt hl (byte_lt _)) (cstep_lt hl (byte_lt _)) h'
  exact hne (UInt8.toNat_inj.1 (cstep_inj_right hl (byte_lt _) (byte_lt _) h2))
theorem crc_turn (l : List UInt8) (k : Nat) (hk : k < l.length) (y : UInt8) (hne : y ≠ l[k]) : crc (l.set k y) ≠ crc l := cadd_turn 0 (by omega) l k hk y hne
theorem crc_nil : crc [] = 0 := by decide
end Go.Proofs.FuCrc
/- The image of a device, in plain Lean: what is laid, and what is read. -/
namespace Go.Proofs.FuImg
open Go.Proofs.FuNvm Go.Proofs.FuCode Go.Proofs.FuCrc
def zrow : List UInt8 := List.replicate 64 0
/-- the lines that are not empty, below k -/
def items (L : List Line) (k : Nat) : List (Nat × List UInt8) := (List.range k).filterMap fun i => match L[i]? with
  | some x => if x.kept = zrow then none else some (i, x.kept)
  | none => none
theorem items_succ {L : List Line} {k : Nat} {x : Line} (hx : L[k]? = some x) : items L (k + 1) = if x.kept = zrow then items L k else items L k ++ [(k, x.kept)] := by
  unfold items
  rw [List.range_succ, List.filterMap_append]
  by_cases h : x.kept = zrow
  · simp [hx, h]
  · simp [hx, h]
theorem items_length (L : List Line) (k : Nat) : (items L k).length ≤ k := by
  unfold items
  exact Nat.le_trans (List.length_filterMap_le _ _) (by simp)
/-- a line's number and bytes, of the kind that an image can hold -/
abbrev ImgItem := { p : Nat × List UInt8 // p.1 < 65536 ∧ p.2.length = 64 }
def itemB (p : Nat × List UInt8) : List UInt8 := lay 2 p.1 ++ p.2
def headB (m : Nat) : List UInt8 := [70, 83, 73, 49] ++ lay 2 m
def bodyB (m : Nat) (ps : List (Nat × List UInt8)) : List UInt8 := headB m ++ ps.flatMap itemB
def imgB (m : Nat) (ps : List (Nat × List UInt8)) : List UInt8 := bodyB m ps ++ lay 4 (crc (bodyB m ps))
def imgOf (D : Dev) : List UInt8 := imgB D.lines.length (items D.lines D.lines.length)
theorem bodyB_snoc (m : Nat) (ps : List (Nat × List UInt8)) (x : Nat × List UInt8) : bodyB m (ps ++ [x]) = bodyB m ps ++ lay 2 x.1 ++ x.2 := by
  simp [bodyB, itemB]
theorem items64_length (ps : List ImgItem) : ((ps.map Subtype.val).flatMap itemB).length = 66 * ps.length := by
  induction ps with
  | nil => rfl
  | cons x ps ih =>
    have := x.2.2
    simp only [List.map_cons, List.flatMap_cons, List.length_append, itemB, lay_length, List.length_cons, ih, this]
    omega
theorem headB_length (m : Nat) : (headB m).length = 6 := by simp [headB, lay_length]
theorem bodyB_length (m : Nat) (ps : List ImgItem) : (bodyB m (ps.map Subtype.val)).length = 6 + 66 * ps.length := by
  unfold bodyB
  rw [List.length_append, headB_length, items64_length]
end Go.Proofs.FuImg
/- The contracts of what the statements share (package fuseelaw0) on bytes and small numbers. -/
namespace Go.Proofs.Ytkbgoloedlpflaa
open Go.RowKit Go.Proofs.FuMem
set_option maxRecDepth 100000
/-- a number, from 0 to below n -/
def low (x : Int) (n : Nat) : Nat := (x % 18446744073709551616).toNat % n
theorem low_lt (x : Int) (n : Nat) (h : 0 < n) : low x n < n := Nat.mod_lt _ h
theorem low_eq (x : Int) (n : Nat) (h : 0 < n) (h2 : n < 9223372036854775808) :
    IntKind.i64.wrap ((IntKind.u64.wrap x).tmod n) = low x n := by
  rw [IntKind.wrap_u64, IntKind.wrap_i64, Int.tmod_eq_emod_of_nonneg (by omega)]
  have h0 : 0 ≤ x % 18446744073709551616 := by omega
  have h1 : ((low x n : Nat) : Int) = x % 18446744073709551616 % n := by
    unfold low
    rw [Int.natCast_emod, Int.toNat_of_nonneg h0]
  have := low_lt x n h
  omega
theorem law0_Low (x : Int) (n : Nat) (w : World) (h : 0 < n) (h2 : n < 9223372036854775808) :
    Calls Try.prog 17 #[.int .i64 x, .int .i64 n] w fun e w' => e = .returned (.int .i64 (low x n)) ∧ w = w' := by
  go_enter Try.func17, Try.ntmps17
  go_wp2
  go_ret
  exact ⟨ret_int (by rw [← low_eq x n h h2, wrap64_eq]), rfl⟩
theorem law0_SameBytes (A A' : Option Addr) (n m c d : Nat) (l k : List UInt8) (w : World) (h : Bs w A n l) (h' : Bs w A' m k) :
    Calls Try.prog 21 #[.slice A n c, .slice A' m d] w fun e w' => e = .returned (.bool (l == k)) ∧ w = w' := by
  have h1 := run_str (P := Try.prog) Try.underlying22 Try.underlying5 Try.underlying9 h c
  have h2 := run_str (P := Try.prog) Try.underlying22 Try.underlying5 Try.underlying9 h' d
  clear h h'
  go_enter Try.func21, Try.ntmps21
  go_wp2
  go_ret
  exact ⟨ret_bool (by simp), rfl⟩
theorem Try.byteInfo : (Try.prog.info? 5).map (fun i => (i.zero, i.size, i.bytes)) = some (some (.int .u8 0), 1, 1) := by kernel_rfl
/-- a lent slice: its block holds the bytes and five marks -/
def Lent (w : World) (g : Nat) (l : List UInt8) : Prop := Blk w g 5 ((l.map B) ++ List.replicate 5 (B 165)).toArray
/-- after j marks -/
def lentTo (l : List UInt8) (j : Nat) : Array Value := ((l.map B) ++ List.replicate j (B 165) ++ List.replicate (5 - j) (B 0)).toArray
theorem lentTo_size (l : List UInt8) (j : Nat) (hj : j ≤ 5) : (lentTo l j).size = l.length + 5 := by simp [lentTo]; omega
theorem lentTo_set (l : List UInt8) (j : Nat) (hj : j < 5) : (lentTo l j).setIfInBounds (l.length + j) (B 165) = lentTo l (j + 1) := by
  apply Array.ext'
  simp only [lentTo, Array.toList_setIfInBounds]
  apply List.ext_getElem
  · simp; omega
  · intro i h1 h2
    simp only [List.getElem_set, List.getElem_append, List.getElem_map, List.getElem_replicate, List.length_map, List.length_append, List.length_replicate]
    repeat' split
    all_goals first | rfl | omega
theorem lent_start (l : List UInt8) (n : Nat) : ((Array.replicate (n + 5) (Value.int .u8 0)).toList.take 0 ++ l.map B ++ (Array.replicate (n + 5) (Value.int .u8 0)).toList.drop (0 + n)).toArray = lentTo l 0 := by
  simp [lentTo, B]
theorem law0_LendBytes (A : Option Addr) (n c : Nat) (l : List UInt8) (w : World) (h : Bs w A n l) (hn : n ≤ 1000000) :
    Calls Try.prog 9 #[.slice A n c] w fun e w' => e = .returned (.slice (some ⟨w.heap.size, 0, none⟩) n (n + 5)) ∧ Lent w' w.heap.size l ∧ Only [] w w' := by
  obtain ⟨i0, hi, hz0, hz1, hz2⟩ := info_parts Try.byteInfo
  obtain ⟨w1, hmk, hb1, ho1, hs1⟩ := make_blk (P := Try.prog) w 22 5 i0 _ Try.underlying22 hi hz0 hz1 rfl .i64 .i64 0 (n + 5) (by omega) (by rw [hz2]; omega) (by omega)
  obtain ⟨w2, hap, hb2, ho2, hs2⟩ := append_blk (P := Try.prog) w1 22 22 5 i0 Try.underlying22 hi hz1 w.heap.size 0 (n + 5) _ hb1 A n c _ (Sl.only0 h ho1) one_B (by omega) (by simp)
  rw [lent_start l n] at hb2
  have ho : Only [] w w2 := ho1.trans ho2 (by simp)
  simp only [Nat.zero_add, Int.natCast_add, Int.cast_ofNat_Int] at hmk hap
  have HL := Lib.hid h.len
  clear h hs1 hs2 hb1 ho1 ho2 hi hz0 hz1 hz2
  go_enter Try.func9, Try.ntmps9
  go_wp2_with (at_builtin; refine wpList_append_run _ rfl (.tmp 10) (.tmp 11) 22 rfl _ _ rfl rfl _ _ hap ?_)
  go_loopw [5] (fun k wr => ∃ j : Nat, j ≤ 5 ∧ k = .int .i64 j ∧ Blk wr w.heap.size 5 (lentTo l j) ∧ Only [] w wr) (fun k _ => 5 - (intOf k).toNat)
  case atStart => exact ⟨0, Nat.zero_le _, rfl, hb2, ho⟩
  case round =>
    obtain ⟨j, hj, rfl, hb, ho'⟩ := hrel
    by_cases hlt : j < 5
    · have hsz := lentTo_size l j hj
      rw [HL.out] at hsz
      obtain ⟨u, hcell⟩ := hb.some_ (i := n + j) (by omega)
      have hfr := hb.frozen (n + j)
      have hset := hb.set (n + j) (B 165)
      rw [show n + j = l.length + j by rw [HL.out], lentTo_set l j hlt, HL.out] at hset
      have hon := ho'.setCell (p := ⟨w.heap.size, n + j, none⟩) (.inr (Nat.le_refl _)) (B 165)
      have H1 := Lib.hid hset
      have H2 := Lib.hid hon
      clear hset hon hb ho' hsz
      go_wp2
      go_roundw
      case rel => exact ⟨j + 1, by omega, by go_num, H1.out, H2.out⟩
      case measure => simp [intOf]; omega
    · obtain rfl : j = 5 := by omega
      have H1 := Lib.hid hb
      have H2 := Lib.hid ho'
      clear hb ho'
      go_wp2
      go_ret
      exact ⟨rfl, by have := H1.out; simpa [lentTo, Lent] using this, H2.out⟩
theorem law0_KeptBytes (A : Option Addr) (n c : Nat) (l : List UInt8) (g : Nat) (w : World) (hg : Lent w g l) (h : Bs w A n l) (hn : n ≤ 1000000) :
    Calls Try.prog 13 #[.slice (some ⟨g, 0, none⟩) n (n + 5), .slice A n c] w fun e w' => e = .returned (.bool true) ∧ w = w' := by
  have hl := h.len
  have hcell : ∀ j, j < 5 → w.cell? ⟨g, n + j, none⟩ = some (.int .u8 165) := fun j hj => by
    rw [Blk.cell hg, ← hl, List.getElem?_toArray, List.getElem?_append_right (by simp), List.getElem?_replicate_of_lt (by simpa using hj)]
    rfl
  have hb : Bs w (some ⟨g, 0, none⟩) n l := Sl.of_blk hg 0 (by simp [← hl]) (by simp [← hl])
  have H := Lib.hid hcell
  have HC := fun w1 (e : w = w1) => law0_SameBytes (some ⟨g, 0, none⟩) A n n (n + 5) c l l w1 (e ▸ hb) (e ▸ h)
  have HC := Lib.hid HC
  clear hcell hb hg h hl
  go_enter Try.func13, Try.ntmps13
  go_wp2
  go_loop [6] (fun k => ∃ j : Nat, j ≤ 5 ∧ k = .int .i64 j) (fun k => 5 - (intOf k).toNat)
  case atStart => exact ⟨0, Nat.zero_le _, rfl⟩
  case round =>
    obtain ⟨j, hj, rfl⟩ := hrel
    by_cases hlt : j < 5
    · have hc := H.out j hlt
      go_wp2
      go_round
      case rel => exact ⟨j + 1, by omega, by go_num⟩
      case measure => simp [intOf]; omega
    · go_wp2_with (go_at_call 21; refine (HC.out _ rfl).mono ?_; rintro e w' ⟨rfl, rfl⟩)
      go_ret
      exact ⟨ret_bool (by simp), rfl⟩
end Go.Proofs.Ytkbgoloedlpflaa
/- Slices of ints: words, and the contracts of what the statements share on them. -/
namespace Go.Proofs.FuMem
open Go.RowKit
set_option maxRecDepth 100000
/-- the slice holds these ints -/
def Is (w : World) (A : Option Addr) (n : Nat) (l : List Int) : Prop := Sl w A n (l.map (.int .i64))
section
variable {w w' : World} {S : List Nat} {A : Option Addr} {n c : Nat} {l : List Int} {e : TypeId} {base g : Nat}
theorem Is.len (h : Is w A n l) : l.length = n := by simpa [Is, Sl] using h.1
theorem Is.at_ (h : Is w A n l) (hn : 0 < n) : ∃ b off, A = some ⟨b, off, none⟩ ∧ ∀ k (hk : k < l.length), w.cell? ⟨b, off + k, none⟩ = some (.int .i64 l[k]) := by
  obtain ⟨b, off, e, hc⟩ := Sl.at_ h hn
  exact ⟨b, off, e, fun k hk => by rw [hc k (by simpa using hk), List.getElem_map]⟩
theorem Is.nil (w : World) (A : Option Addr) : Is w A 0 [] := Sl.nil w A
theorem Is.only (h : Is w A n l) (ho : Only S w w') (hs : ∀ b off s, A = some ⟨b, off, s⟩ → b ∉ S) : Is w' A n l := Sl.only h ho hs
theorem Is.only0 (h : Is w A n l) (ho : Only [] w w') : Is w' A n l := Sl.only0 h ho
theorem one_I : ∀ u ∈ l.map (Value.int .i64), u.oneCell' = true := by
  intro u hu
  obtain ⟨x, _, rfl⟩ := List.mem_map.1 hu
  rfl
theorem is_own (h : w.ownsRow base e 1 (.slice A n c) n (l.map (.int .i64))) : Is w A n l := Sl.of_own h
/-- a row of ints of the call's own, with its block -/
def OwnI (e : TypeId) (w : World) (base g n c : Nat) (l : List Int) : Prop := w.ownsRow base e 1 (.slice (some ⟨g, 0, none⟩) n c) n (l.map (.int .i64))
theorem OwnI.of {A : Option Addr} (h : w.ownsRow base e 1 (.slice A n c) n (l.map (.int .i64))) (hn : 0 < n) : ∃ g, A = some ⟨g, 0, none⟩ ∧ base ≤ g ∧ g < w.heap.size ∧ OwnI e w base g n c l := by
  obtain ⟨g, c2, he, hbg, hgl⟩ := h.form hn
  cases he
  exact ⟨g, rfl, hbg, hgl, h⟩
theorem OwnI.len (h : OwnI e w base g n c l) : l.length = n := by simpa using h.1
theorem OwnI.is (h : OwnI e w base g n c l) : Is w (some ⟨g, 0, none⟩) n l := Sl.of_own h
theorem OwnI.cell (h : OwnI e w base g n c l) (k : Nat) (hk : k < n) : w.cell? ⟨g, k, none⟩ = some (.int .i64 (l.getD k 0)) := by
  have hl := h.len
  have := World.ownsRow.cellAt h k (by omega)
  rw [this, List.getElem?_map, List.getElem?_eq_getElem (by omega)]
  simp [List.getD, List.getElem?_eq_getElem (show k < l.length by omega)]
theorem OwnI.frozen (h : OwnI e w base g n c l) (k : Nat) : w.frozen? ⟨g, k, none⟩ = false := World.ownsRow.frozenAt h k
theorem OwnI.set (h : OwnI e w base g n c l) (k : Nat) (x : Int) : OwnI e (w.setCell ⟨g, k, none⟩ (.int .i64 x)) base g n c (l.set k x) := by
  have := (World.ownsRow.stored h k (.int .i64 x)).1
  unfold OwnI
  rw [List.map_set]
  exact this
theorem OwnI.only (h : OwnI e w base g n c l) (ho : Only S w w') (hs : g ∉ S) : OwnI e w' base g n c l :=
  own_only h ho (by intro k hk; simp [Value.ownBlock] at hk; subst hk; exact hs)
end
theorem cell_new1 (w : World) (t : TypeId) (v : Value) : Sl (w.alloc (.cells #[v] t)) (some ⟨w.heap.size, 0, none⟩) 1 [v] := Sl.of_blk (Blk.new w t #[v]) 0 rfl (by simp)
theorem ints_new1 (k : IntKind) (z : Int) : ∀ u ∈ [Value.int k z], u.oneCell' = true := by
  intro u hu
  rw [List.mem_singleton] at hu
  subst hu
  rfl
theorem Only.drewN0 (w : World) (n : Nat) : Only [] w (w.drewN n) := (Only.refl _ _).drewN n
end Go.Proofs.FuMem
namespace Go.Proofs.Ytkbgoloedlpflaa
open Go.RowKit Go.Proofs.FuMem
theorem Try.intInfo : (Try.prog.info? 3).map (fun i => (i.zero, i.size, i.bytes)) = some (some (.int .i64 0), 1, 8) := by kernel_rfl
/-- what a function hands back that makes ints of its own -/
def MadeI (w : World) (l : List Int) (v : Value) (w' : World) : Prop := ∃ A c, v = .slice A l.length c ∧ w'.ownsRow w.heap.size 3 1 v l.length (l.map (.int .i64)) ∧ Only [] w w'
theorem madeI_own {w w' : World} {A : Option Addr} {n c : Nat} {l : List Int} (hl : l.length = n) (h : w'.ownsRow w.heap.size 3 1 (.slice A n c) n (l.map (.int .i64))) (o : Only [] w w') : MadeI w l (.slice A n c) w' := by
  subst hl
  exact ⟨_, _, rfl, h, o⟩
theorem madeI_nil (w : World) : MadeI w [] (.slice none 0 0) w := ⟨none, 0, rfl, own_nil _ _ _ _, Only.refl _ _⟩
theorem law0_SameInts (A A' : Option Addr) (n m c d : Nat) (l k : List Int) (w : World) (h : Is w A n l) (h' : Is w A' m k) (hn : n ≤ 1000000000) (hm : m ≤ 1000000000) :
    Calls Try.prog 24 #[.slice A n c, .slice A' m d] w fun e w' => e = .returned (.bool (l == k)) ∧ Only [] w w' := by
  have hl := h.len
  have hk := h'.len
  by_cases hnm : n = m
  · subst hnm
    have HL := Lib.hid hl
    have HK := Lib.hid hk
    have H1 := Lib.hid h
    have H2 := Lib.hid h'
    clear h h' hl hk
    go_enter Try.func24, Try.ntmps24
    go_wp2
    go_loopw [5] (fun i wr => ∃ j : Nat, j ≤ n ∧ i = .int .i64 j ∧ (∀ i, i < j → l[i]? = k[i]?) ∧ Only [] w wr) (fun i _ => n - (intOf i).toNat)
    case atStart => exact ⟨0, Nat.zero_le _, rfl, fun i hi => by omega, Only.refl _ _⟩
    case round =>
      obtain ⟨j, hj, rfl, he, on⟩ := hrel
      have HE := Lib.hid he
      have HN := Lib.hid on
      clear he
      by_cases hlt : j < n
      · have hx := H1.out.only0 on
        have hy := H2.out.only0 on
        obtain ⟨b1, f1, rfl, hc1⟩ := hx.at_ (by omega)
        obtain ⟨b2, f2, rfl, hc2⟩ := hy.at_ (by omega)
        have hj1 : j < l.length := by rw [HL.out]; exact hlt
        have hj2 : j < k.length := by rw [HK.out]; exact hlt
        have e1 := hc1 j hj1
        have e2 := hc2 j hj2
        have q1 : l[j]? = some l[j] := List.getElem?_eq_getElem hj1
        have q2 : k[j]? = some k[j] := List.getElem?_eq_getElem hj2
        have Q1 := Lib.hid q1
        have Q2 := Lib.hid q2
        clear hc1 hc2 hx hy on q1 q2
        generalize l[j] = x at *
        generalize k[j] = y at *
        by_cases hxy : x = y
        · subst hxy
          go_wp2_with fail
          go_quiet (fail)
          go_wp2
          go_roundw
          case rel =>
            refine ⟨j + 1, by omega, by go_num, fun i hi => ?_, HN.out.drewN _⟩
            by_cases hij : i = j
            · subst hij
              rw [Q1.out, Q2.out]
            · exact HE.out i (by omega)
          case measure => simp [intOf]; omega
        · have d1 : (x != y) = true := by rw [bne_iff_ne]; exact hxy
          have hne : (l == k) = false := by
            rw [beq_eq_false_iff_ne]
            rintro rfl
            exact hxy (Option.some.inj (Q1.out.symm.trans Q2.out))
          have HNE := Lib.hid hne
          clear hne hxy
          go_wp2_with fail
          go_quiet (fail)
          go_wp2
          go_ret
          exact ⟨ret_bool HNE.out.symm, HN.out.drewN _⟩
      · have hee : (l == k) = true := by
          rw [beq_iff_eq]
          apply List.ext_getElem?
          intro i
          by_cases hi : i < n
          · exact HE.out i (by omega)
          · rw [List.getElem?_eq_none (by rw [HL.out]; omega), List.getElem?_eq_none (by rw [HK.out]; omega)]
        have HEE := Lib.hid hee
        clear hee on
        go_wp2
        go_ret
        exact ⟨ret_bool HEE.out.symm, HN.out⟩
  · have hne : (l == k) = false := by
      rw [beq_eq_false_iff_ne]
      rintro rfl
      omega
    have HNE := Lib.hid hne
    have d1 : ((n : Int) != (m : Int)) = true := by rw [bne_iff_ne]; omega
    clear h h' hl hk hne hnm
    go_enter Try.func24, Try.ntmps24
    go_wp2
    go_ret
    exact ⟨ret_bool HNE.out.symm, Only.refl _ _⟩
/-- what was answered may be written over: nothing else turns -/
theorem law0_OverInts {w0 : World} (A : Option Addr) (n c : Nat) (l : List Int) (w : World) (h : w.ownsRow w0.heap.size 3 1 (.slice A n c) n (l.map (.int .i64))) (on : Only [] w0 w) (hn : n ≤ 1000000) :
    Calls Try.prog 27 #[.slice A n c] w fun e w' => e = .returned (.tuple #[]) ∧ Only [] w0 w' := by
  obtain ⟨i0, hi, hz0, hz1, hz2⟩ := info_parts Try.intInfo
  have HI := Lib.hid hi
  have HZ0 := Lib.hid hz0
  have HZ1 := Lib.hid hz1
  have HZ2 := Lib.hid hz2
  have HO := Lib.hid h
  have HN := Lib.hid on
  clear hi hz0 hz1 hz2 h on
  go_enter Try.func27, Try.ntmps27
  go_wp2
  go_loopw [2] (fun i wr => ∃ (j : Nat) (l' : List Int), j ≤ n ∧ i = .int .i64 j ∧ wr.ownsRow w0.heap.size 3 1 (.slice A n c) n (l'.map (.int .i64)) ∧ Only [] w0 wr) (fun i _ => n - (intOf i).toNat)
  case atStart => exact ⟨0, l, Nat.zero_le _, rfl, HO.out, HN.out⟩
  case round =>
    obtain ⟨j, l', hj, rfl, ho, on⟩ := hrel
    by_cases hlt : j < n
    · obtain ⟨g, rfl, hbg, hgg, ho⟩ := OwnI.of ho (by omega)
      have hcell := ho.cell j hlt
      have hfr := ho.frozen j
      have hst := ho.set j (-999)
      have on2 := on.setCell (p := ⟨g, j, none⟩) (.inr hbg) (.int .i64 (-999))
      have H1 := Lib.hid hst
      have H2 := Lib.hid on2
      clear ho on hst on2
      generalize l'.set j (-999) = l2 at *
      generalize l'.getD j 0 = x at *
      go_wp2
      go_roundw
      case rel => exact ⟨j + 1, l2, by omega, by go_num, H1.out, H2.out⟩
      case measure => simp [intOf]; omega
    · obtain rfl : j = n := by omega
      obtain ⟨A', c', w', hr, ho2, hs2, on2⟩ := append_own (P := Try.prog) (wr.alloc (.cells #[.int .i64 (-998)] 3)) (on.alloc _) 51 51 3 i0 _ 8 Try.underlying51 HI.out HZ0.out HZ1.out HZ2.out rfl _ j _ (ho.alloc _) (some ⟨wr.heap.size, 0, none⟩) 1 1 [.int .i64 (-998)] (cell_new1 _ _ _) (ints_new1 _ _) (by unfold maxLen; omega) (by omega)
      have H2 := Lib.hid on2
      clear ho on hs2 ho2 on2
      go_wp2_with (at_builtin; refine wpList_append_run _ rfl (.tmp 12) (.tmp 13) 51 rfl _ _ rfl rfl _ _ hr ?_)
      go_end0
      exact ⟨rfl, H2.out⟩
end Go.Proofs.Ytkbgoloedlpflaa
/- Slices of structs that came in: each field's cell, and its own reading. -/
namespace Go.Proofs.Ytkbgoloedlpflaa
open Go.ChangeShapes Go.WideShapes Go.ChangeAt Go.RowKit Go.Proofs.FuMem Go.Deep
section
variable {H : Type} {enc : TypeId × Value → H} {P : Program} {w : World} {base : Nat} {held : Bool}
theorem open_table {t e : TypeId} {fs : Array Field} {A : Option Addr} {n c : Nat} {d : DataW H} {p : List MemPlace} (ht : P.underlying t = some (.slice e)) (he : P.underlying e = some (.struct fs))
    (hone : oneCellFields P fs = true) (hC : P.cellsOf e = fs.size) (h0 : 0 < fs.size) (h : DataW.Trod enc P w base (fun _ => true) held t (.slice A n c) d p) :
    n ≤ c ∧ c ≤ maxLen ∧ (n = 0 ∨ ∃ b off, A = some ⟨b, off, none⟩ ∧ ∀ i, i < n → ∀ j f, fs[j]? = some f →
      ∃ v y m, w.cell? ⟨b, off + (i * fs.size + j), none⟩ = some v ∧ DataW.trod enc P w base (fun _ => true) held m f.type [v] = some y) := by
  obtain ⟨fuel, hf⟩ := h
  rcases open_slice ht hf with ⟨hcs, _⟩ | ⟨a, len, cap, m, k, D, Pl, hcs, _, hl, hm, hmm, _, hi⟩
  · simp [Value.cells] at hcs
    obtain ⟨rfl, rfl, rfl⟩ := hcs
    exact ⟨Nat.le_refl _, Nat.zero_le _, .inl rfl⟩
  · simp [Value.cells] at hcs
    obtain ⟨rfl, rfl, rfl⟩ := hcs
    refine ⟨hl, hm, ?_⟩
    by_cases hn : n = 0
    · exact .inl hn
    have each : ∀ i, i < n → ∀ j f, fs[j]? = some f → ∃ v y m, w.cell? (a.add (i * fs.size + j)) = some v ∧ DataW.trod enc P w base (fun _ => true) held m f.type [v] = some y := by
      intro i hin j f hj
      obtain ⟨cs, hc, ht'⟩ := hi i (by simp at hmm; omega)
      obtain ⟨ys, m', _, _, hlen, hyl, hg⟩ := DataW.trod_struct he ht'
      obtain ⟨_, _, hat⟩ := World.cells?_some hc
      obtain ⟨ho, hk⟩ := hone_of hone j f hj
      have hjl : j < fs.size := (Array.getElem?_eq_some_iff.1 hj).1
      have hjc : j < cs.length := by omega
      have h1 := hg j f hj
      rw [ho, hk] at h1
      have e1 : (cs.drop j).take 1 = [cs[j]] := by
        rw [List.drop_eq_getElem_cons hjc, List.take_succ_cons, List.take_zero]
      rw [e1, List.getElem?_eq_getElem (by omega)] at h1
      refine ⟨_, _, m', ?_, h1⟩
      rw [← add_add, ← hC, hat j (by omega), List.getElem?_eq_getElem hjc]
    obtain ⟨b, off, spot⟩ := a
    have hs : spot = none := by
      obtain ⟨v, _, _, hv, _⟩ := each 0 (by omega) 0 fs[0] (Array.getElem?_eq_getElem h0)
      simpa [Addr.add] using World.cell?_spot hv
    subst hs
    refine .inr ⟨b, off, rfl, fun i hin j f hj => ?_⟩
    have := each i hin j f hj
    simpa only [Addr.add_lit] using this
theorem field_int {t : TypeId} {v : Value} {y : DataW H × List MemPlace} {m : Nat} {sp : Nat → Bool} (ht : P.underlying t = some (.int .i64)) (h : DataW.trod enc P w base sp held m t [v] = some y) :
    ∃ x : Int, v = .int .i64 x ∧ -9223372036854775808 ≤ x ∧ x ≤ 9223372036854775807 := by
  obtain ⟨x, hv, _, hw⟩ := DataW.trod_int ht h
  simp at hv
  exact ⟨x, hv, bounds_i64 hw⟩
theorem field_slice {t e : TypeId} {k : IntKind} {v : Value} {y : DataW H × List MemPlace} {m : Nat} (ht : P.underlying t = some (.slice e)) (he : P.underlying e = some (.int k)) (hc : P.cellsOf e = 1) (h : DataW.trod enc P w base (fun _ => true) held m t [v] = some y) :
    ∃ A n c zs, v = .slice A n c ∧ IsRow k w A n c zs := by
  rcases open_ints ht he hc h with ⟨hcs, _⟩ | ⟨x, l, c, zs, hcs, _, hl, hm, hz, _, hcell, hwz⟩
  · simp at hcs
    subst hcs
    exact ⟨none, 0, 0, [], rfl, .inl ⟨rfl, rfl, rfl, rfl⟩⟩
  · simp at hcs
    subst hcs
    exact ⟨_, l, c, zs, rfl, .inr ⟨_, rfl, hl, hm, by simpa using hz, hcell, hwz⟩⟩
end
end Go.Proofs.Ytkbgoloedlpflaa
/- Counters that are added to, read and set atomically. -/
namespace Go.Proofs.Ytkbgoloedlpflaa
open Go.RowKit Go.Proofs.FuMem
set_option maxRecDepth 100000
theorem int64_Add (g k : Nat) (x : Int) (w : World) (hc : w.cell? ⟨g, k, none⟩ = some (.int .i64 x)) (hf : w.frozen? ⟨g, k, none⟩ = false) :
    Calls Try.prog 59 #[.pointer (some ⟨g, k, none⟩), .int .i64 1] w fun e w' => e = .returned (.int .i64 (wrap64 (x + 1))) ∧ w.setCell ⟨g, k, none⟩ (.int .i64 (wrap64 (x + 1))) = w' := by
  have hadd := run_call_add (P := Try.prog) Try.func73 (by kernel_rfl) (by kernel_rfl) (by kernel_rfl) .i64 (by kernel_rfl) (y := 1) (s := wrap64 (x + 1)) hc hf (by simp [go_sem, wrap64_eq])
  go_enter Try.func59, Try.ntmps59
  go_wp2
  go_ret
  exact ⟨rfl, rfl⟩
theorem int64_Load (g k : Nat) (x : Int) (w : World) (hc : w.cell? ⟨g, k, none⟩ = some (.int .i64 x)) :
    Calls Try.prog 52 #[.pointer (some ⟨g, k, none⟩)] w fun e w' => e = .returned (.int .i64 x) ∧ w = w' := by
  have hl := run_call_load (P := Try.prog) Try.func70 (by kernel_rfl) (by kernel_rfl) (by kernel_rfl) .i64 (by kernel_rfl) hc
  go_enter Try.func52, Try.ntmps52
  go_wp2
  go_ret
  exact ⟨rfl, rfl⟩
end Go.Proofs.Ytkbgoloedlpflaa
/- The contracts of package code and of its reference. -/
namespace Go.Proofs.Ytkbgoloedlpflaa
open Go.RowKit Go.Proofs.FuMem Go.Proofs.FuCode
set_option maxRecDepth 100000
theorem code_check (A : Option Addr) (n c : Nat) (at_ k : Int) (w : World) (hn : n ≤ maxLen) (h1 : -9223372036854775808 ≤ at_ ∧ at_ ≤ 9223372036854775807) (h2 : -9223372036854775808 ≤ k ∧ k ≤ 9223372036854775807) :
    Calls Try.prog 63 #[.slice A n c, .int .i64 at_, .int .i64 k] w fun e w' => e = .returned (.int .i64 (wrong n at_ k)) ∧ w = w' := by
  unfold maxLen at hn
  by_cases ha : k < 1 ∨ 8 < k
  · have hw : wrong n at_ k = 1 := by unfold wrong; rw [if_pos ha]
    have HW := Lib.hid hw
    clear hw
    by_cases hb : k < 1
    all_goals
      go_enter Try.func63, Try.ntmps63
      go_wp2
      go_ret
      exact ⟨ret_int (by rw [HW.out]; rfl), rfl⟩
  · have hk1 : 1 ≤ k := by omega
    have hk2 : k ≤ 8 := by omega
    by_cases hb : at_ < 0 ∨ (n : Int) - k < at_
    · have hw : wrong n at_ k = 2 := by unfold wrong; rw [if_neg ha, if_pos hb]
      have HW := Lib.hid hw
      clear hw ha
      by_cases hc : at_ < 0
      all_goals
        go_enter Try.func63, Try.ntmps63
        go_wp2
        go_ret
        exact ⟨ret_int (by rw [HW.out]; rfl), rfl⟩
    · have hw : wrong n at_ k = 0 := by unfold wrong; rw [if_neg ha, if_neg hb]
      have HW := Lib.hid hw
      have hc1 : 0 ≤ at_ := by omega
      have hc2 : at_ ≤ n - k := by omega
      clear hw ha hb
      go_enter Try.func63, Try.ntmps63
      go_wp2
      go_ret
      exact ⟨ret_int (by rw [HW.out]; rfl), rfl⟩
/-- what a function hands back that makes bytes of its own -/
def MadeB (w : World) (l : List UInt8) (v : Value) (w' : World) : Prop := ∃ A c, v = .slice A l.length c ∧ w'.ownsRow w.heap.size 5 1 v l.length (l.map B) ∧ Only [] w w'
theorem madeB_of {w w' : World} {g n c : Nat} {l : List UInt8} (h : OwnB 5 w' w.heap.size g n c l) (o : Only [] w w') : MadeB w l (.slice (some ⟨g, 0, none⟩) n c) w' := by
  have hl := h.len
  subst hl
  exact ⟨_, _, rfl, h, o⟩
theorem madeB_own {w w' : World} {A : Option Addr} {n c : Nat} {l : List UInt8} (hl : l.length = n) (h : w'.ownsRow w.heap.size 5 1 (.slice A n c) n (l.map B)) (o : Only [] w w') : MadeB w l (.slice A n c) w' := by
  subst hl
  exact ⟨_, _, rfl, h, o⟩
theorem own_empty (w : World) (e : TypeId) : (w.alloc (.cells #[] e)).ownsRow w.heap.size e 1 (.slice (some ⟨w.heap.size, 0, none⟩) 0 0) 0 [] :=
  ⟨rfl, .inr ⟨_, 0, #[], rfl, Nat.le_refl _, heap_alloc_new w _, Nat.le_refl _, Nat.zero_le _, rfl, rfl⟩⟩
theorem clone_bytes (A : Option Addr) (n c : Nat) (l : List UInt8) (w : World) (h : Bs w A n l) (hn : n ≤ 1000000) :
    Calls Try.prog 61 #[.slice A n c] w fun e w' => ∃ v, e = .returned v ∧ MadeB w l v w' := by
  obtain rfl | ⟨a, rfl⟩ : A = none ∨ ∃ a, A = some a := by cases A <;> simp
  · have hn0 : n = 0 := by
      rcases h.2 with h0 | ⟨b, off, e, _⟩
      · exact h0
      · cases e
    subst hn0
    obtain rfl : l = [] := List.eq_nil_of_length_eq_zero h.len
    have he := Lib.run_eql_slice_nil (P := Try.prog) w 22 5 none 0 c 0 0 Try.underlying22
    clear h
    go_enter Try.func61, Try.ntmps61
    go_wp2
    go_ret
    exact ⟨_, rfl, none, 0, rfl, own_nil _ _ _ _, Only.refl _ _⟩
  · obtain ⟨i0, hi, hz0, hz1, hz2⟩ := info_parts Try.byteInfo
    have on0 : Only [] w (w.alloc (.cells #[] 5)) := (Only.refl _ _).alloc _
    obtain ⟨A1, c1, w1, hr1, ho1, hs1, on1⟩ := append_own (P := Try.prog) (w.alloc (.cells #[] 5)) on0 22 22 5 i0 _ 1 Try.underlying22 hi hz0 hz1 hz2 rfl _ 0 [] (own_empty w _) (some a) n c _ (Sl.only0 h on0) one_B (by unfold maxLen; omega) (by omega)
    rw [Nat.zero_add, List.nil_append] at ho1
    rw [Nat.zero_add] at hr1
    have hl := h.len
    have H1 := Lib.hid ho1
    have H2 := Lib.hid on1
    have HL := Lib.hid hl
    clear h ho1 hs1 on1 on0 hl hi hz0 hz1 hz2
    have he := Lib.run_eql_slice_nil (P := Try.prog) w 22 5 (some a) n c 0 0 Try.underlying22
    go_enter Try.func61, Try.ntmps61
    go_wp2_with (at_builtin; refine wpList_append_run _ rfl (.tmp 5) (.tmp 6) 22 rfl _ _ rfl rfl _ _ hr1 ?_)
    go_ret
    exact ⟨.slice A1 n c1, rfl, A1, c1, by rw [HL.out], by rw [HL.out]; exact H1.out, H2.out⟩
end Go.Proofs.Ytkbgoloedlpflaa
/- The contracts of package nvm, first part: the bounds, the bytes of a line. -/
namespace Go.Proofs.Ytkbgoloedlpflaa
open Go.RowKit Go.Proofs.FuMem Go.Proofs.FuNvm Go.Proofs.FuCode
set_option maxRecDepth 100000
theorem byteSizeN : (Try.prog.info? 5).map (·.size) = some 1 := by kernel_rfl
/-- is there no such line, or not so many of its bytes? -/
def noPlace (len : Nat) (line at_ n : Int) : Prop := line < 0 ∨ (len : Int) ≤ line ∨ at_ < 0 ∨ 64 - n < at_
abbrev DevAt (w : World) (g cb cap : Nat) (D : Dev) : Prop := IsDev 100 110 w g cb cap D
theorem nvm_there_no (g cb cap : Nat) (D : Dev) (line at_ n : Int) (w : World) (hd : DevAt w g cb cap D) (hn : 0 ≤ n ∧ n ≤ 9223372036854775807) (h : noPlace D.lines.length line at_ n) :
    Calls Try.prog 60 #[.pointer (some ⟨g, 0, none⟩), .int .i64 line, .int .i64 at_, .int .i64 n] w fun e w' => e = .returned (.int .i64 2) ∧ w = w' := by
  have hc : w.cell? ⟨g, 0, none⟩ = some (.slice (some ⟨cb, 0, none⟩) D.lines.length cap) := hd.cell 0
  have hf := hd.few
  clear hd
  unfold noPlace at h
  generalize D.lines.length = m at *
  by_cases h1 : line < 0
  · clear h
    go_enter Try.func60, Try.ntmps60
    go_wp2
    go_ret
    exact ⟨rfl, rfl⟩
  by_cases h2 : (m : Int) ≤ line
  · clear h
    go_enter Try.func60, Try.ntmps60
    go_wp2
    go_ret
    exact ⟨rfl, rfl⟩
  by_cases h3 : at_ < 0
  · clear h
    go_enter Try.func60, Try.ntmps60
    go_wp2
    go_ret
    exact ⟨rfl, rfl⟩
  have h4 : 64 - n < at_ := by omega
  clear h
  go_enter Try.func60, Try.ntmps60
  go_wp2
  go_ret
  exact ⟨rfl, rfl⟩
theorem nvm_there_yes (g cb cap : Nat) (D : Dev) (line at_ n : Int) (w : World) (hd : DevAt w g cb cap D) (hn : 0 ≤ n ∧ n ≤ 9223372036854775807) (h : ¬ noPlace D.lines.length line at_ n) :
    Calls Try.prog 60 #[.pointer (some ⟨g, 0, none⟩), .int .i64 line, .int .i64 at_, .int .i64 n] w fun e w' => e = .returned (.int .i64 0) ∧ w = w' := by
  have hc : w.cell? ⟨g, 0, none⟩ = some (.slice (some ⟨cb, 0, none⟩) D.lines.length cap) := hd.cell 0
  have hf := hd.few
  clear hd
  unfold noPlace at h
  generalize D.lines.length = m at *
  have h1 : 0 ≤ line := by omega
  have h2 : line < m := by omega
  have h3 : 0 ≤ at_ := by omega
  have h4 : at_ ≤ 64 - n := by omega
  clear h
  go_enter Try.func60, Try.ntmps60
  go_wp2
  go_ret
  exact ⟨rfl, rfl⟩
theorem nvm_Lines (g cb cap : Nat) (D : Dev) (w : World) (hd : DevAt w g cb cap D) :
    Calls Try.prog 29 #[.pointer (some ⟨g, 0, none⟩)] w fun e w' => e = .returned (.int .i64 D.lines.length) ∧ w = w' := by
  have hc : w.cell? ⟨g, 0, none⟩ = some (.slice (some ⟨cb, 0, none⟩) D.lines.length cap) := hd.cell 0
  clear hd
  generalize D.lines.length = m at *
  go_enter Try.func29, Try.ntmps29
  go_wp2
  go_ret
  exact ⟨rfl, rfl⟩
theorem nvm_Load_no (g cb cap : Nat) (D : Dev) (line : Int) (w : World) (hd : DevAt w g cb cap D) (h : noPlace D.lines.length line 0 0) :
    Calls Try.prog 30 #[.pointer (some ⟨g, 0, none⟩), .int .i64 line] w fun e w' => e = .returned (.tuple #[.slice none 0 0, .int .i64 2]) ∧ w = w' := by
  have HT := Lib.hid (nvm_there_no g cb cap D line 0 0 w hd (by omega) h)
  clear hd h
  go_enter Try.func30, Try.ntmps30
  go_wp2_with fail
  refine (HT.out).mono ?_
  rintro e w' ⟨rfl, rfl⟩
  go_wp2
  go_ret2
  exact ⟨rfl, rfl⟩
theorem nvm_Load (g cb cap : Nat) (D : Dev) (i : Nat) (x : Line) (hx : D.lines[i]? = some x) (w : World) (hd : DevAt w g cb cap D) :
    Calls Try.prog 30 #[.pointer (some ⟨g, 0, none⟩), .int .i64 i] w fun e w' => ∃ v, e = .returned (.tuple #[v, .int .i64 0]) ∧ MadeB w x.now v w' := by
  obtain ⟨hi, rfl⟩ := List.getElem?_eq_some_iff.1 hx
  have hc : w.cell? ⟨g, 0, none⟩ = some (.slice (some ⟨cb, 0, none⟩) D.lines.length cap) := hd.cell 0
  have hf := hd.few
  have HT := Lib.hid (nvm_there_yes g cb cap D i 0 0 w hd (by omega) (by unfold noPlace; omega))
  have hcl := clone_bytes _ 64 64 _ w (hd.now hi) (by omega)
  have HC := Lib.hid hcl
  clear hd hcl hx
  generalize (D.lines[i]).now = l at *
  generalize D.lines.length = m at *
  go_enter Try.func30, Try.ntmps30
  go_wp2_with fail
  refine (HT.out).mono ?_
  rintro e w' ⟨rfl, rfl⟩
  go_wp2_with fail
  refine (HC.out).mono ?_
  rintro e w1 ⟨_, rfl, A1, c1, rfl, m1, o1⟩
  have M1 := Lib.hid m1
  have O1 := Lib.hid o1
  clear m1 o1
  go_wp2
  go_ret2
  exact ⟨.slice A1 l.length c1, rfl, A1, c1, rfl, M1.out, O1.out⟩
theorem nvm_Durable_no (g cb cap : Nat) (D : Dev) (line : Int) (w : World) (hd : DevAt w g cb cap D) (h : noPlace D.lines.length line 0 0) :
    Calls Try.prog 31 #[.pointer (some ⟨g, 0, none⟩), .int .i64 line] w fun e w' => e = .returned (.tuple #[.slice none 0 0, .int .i64 2]) ∧ w = w' := by
  have HT := Lib.hid (nvm_there_no g cb cap D line 0 0 w hd (by omega) h)
  clear hd h
  go_enter Try.func31, Try.ntmps31
  go_wp2_with fail
  refine (HT.out).mono ?_
  rintro e w' ⟨rfl, rfl⟩
  go_wp2
  go_ret2
  exact ⟨rfl, rfl⟩
theorem nvm_Durable (g cb cap : Nat) (D : Dev) (i : Nat) (x : Line) (hx : D.lines[i]? = some x) (w : World) (hd : DevAt w g cb cap D) :
    Calls Try.prog 31 #[.pointer (some ⟨g, 0, none⟩), .int .i64 i] w fun e w' => ∃ v, e = .returned (.tuple #[v, .int .i64 0]) ∧ MadeB w x.kept v w' := by
  obtain ⟨hi, rfl⟩ := List.getElem?_eq_some_iff.1 hx
  have hc : w.cell? ⟨g, 0, none⟩ = some (.slice (some ⟨cb, 0, none⟩) D.lines.length cap) := hd.cell 0
  have hf := hd.few
  have HT := Lib.hid (nvm_there_yes g cb cap D i 0 0 w hd (by omega) (by unfold noPlace; omega))
  have hcl := clone_bytes _ 64 64 _ w (hd.kept hi) (by omega)
  have HC := Lib.hid hcl
  clear hd hcl hx
  generalize (D.lines[i]).kept = l at *
  generalize D.lines.length = m at *
  go_enter Try.func31, Try.ntmps31
  go_wp2_with fail
  refine (HT.out).mono ?_
  rintro e w' ⟨rfl, rfl⟩
  go_wp2_with fail
  refine (HC.out).mono ?_
  rintro e w1 ⟨_, rfl, A1, c1, rfl, m1, o1⟩
  have M1 := Lib.hid m1
  have O1 := Lib.hid o1
  clear m1 o1
  go_wp2
  go_ret2
  exact ⟨.slice A1 l.length c1, rfl, A1, c1, rfl, M1.out, O1.out⟩
theorem nvm_Store_no (g cb cap : Nat) (D : Dev) (line at_ : Int) (A : Option Addr) (n c : Nat) (w : World) (hd : DevAt w g cb cap D) (hn : n ≤ maxLen) (h : noPlace D.lines.length line at_ n) :
    Calls Try.prog 36 #[.pointer (some ⟨g, 0, none⟩), .int .i64 line, .int .i64 at_, .slice A n c] w fun e w' => e = .returned (.int .i64 2) ∧ w = w' := by
  unfold maxLen at hn
  have HT := Lib.hid (nvm_there_no g cb cap D line at_ n w hd (by omega) h)
  clear hd h
  go_enter Try.func36, Try.ntmps36
  go_wp2_with fail
  refine (HT.out).mono ?_
  rintro e w' ⟨rfl, rfl⟩
  go_wp2
  go_ret
  exact ⟨rfl, rfl⟩
/-- the device behind a store -/
def storeD (D : Dev) (i : Nat) (x : Line) (a : Nat) (l : List UInt8) : Dev := { D with lines := D.lines.set i { x with now := over x.now a l }, stores := wrap64 (D.stores + 1) }
theorem storeD_nil (D : Dev) (i a : Nat) (hi : i < D.lines.length) : (storeD D i (D.lines[i]) a []).lines = D.lines := by
  unfold storeD
  rw [over_nil]
  exact List.set_getElem_self hi
theorem over_cells (x : Line) (h : x.Ok) (a : Nat) (l : List UInt8) (hl : a + l.length ≤ 64) : cellsOf { x with now := over x.now a l } = (cellsOf x).take a ++ l.map B ++ (cellsOf x).drop (a + (l.map B).length) := by
  obtain ⟨h1, h2, h3⟩ := h
  unfold cellsOf over
  simp only [List.map_append, List.length_map, List.append_assoc, List.map_take, List.map_drop]
  rw [List.take_append_of_le_length (by simp; omega), List.drop_append_of_le_length (by simp; omega)]
theorem over_ok {x : Line} (h : x.Ok) {a : Nat} {l : List UInt8} (hl : a + l.length ≤ 64) : ({ x with now := over x.now a l } : Line).Ok :=
  ⟨by rw [over_length _ _ _ (by rw [h.1]; exact hl), h.1], h.2.1, h.2.2⟩
/-- the counter of stores has turned -/
theorem IsDev.count {tD tC : TypeId} {w : World} {g cb cap : Nat} {D D' : Dev} (h : IsDev tD tC w g cb cap D) (k : Nat) (z : Int) (hl : D'.lines = D.lines) (he : (headOf cb cap D).setIfInBounds k (.int .i64 z) = headOf cb cap D') :
    IsDev tD tC (w.setCell ⟨g, k, none⟩ (.int .i64 z)) g cb cap D' ∧ Only [g] w (w.setCell ⟨g, k, none⟩ (.int .i64 z)) := by
  have on : Only [g] w (w.setCell ⟨g, k, none⟩ (.int .i64 z)) := (Only.refl [g] w).setCell (p := ⟨g, k, none⟩) (.inl (by simp)) _
  obtain ⟨cs, hb, hp⟩ := h.body
  refine ⟨⟨?_, ⟨cs, hb.only on (by simpa using h.ne.symm), by rw [hl]; exact hp⟩, h.ne, by rw [hl]; exact h.ok, by rw [hl]; exact h.few, by rw [hl]; exact h.cap_le⟩, on⟩
  rw [← he]
  exact h.head.set k _
set_option maxHeartbeats 400000 in
theorem nvm_Store (g cb cap : Nat) (D : Dev) (i a : Nat) (x : Line) (hx : D.lines[i]? = some x) (A : Option Addr) (n c : Nat) (l : List UInt8) (w : World) (hd : DevAt w g cb cap D) (hl : Bs w A n l) (ha : a + n ≤ 64) :
    Calls Try.prog 36 #[.pointer (some ⟨g, 0, none⟩), .int .i64 i, .int .i64 a, .slice A n c] w fun e w' => e = .returned (.int .i64 0) ∧ DevAt w' g cb cap (storeD D i x a l) ∧ Only [g, cb] w w' := by
  obtain ⟨hi, rfl⟩ := List.getElem?_eq_some_iff.1 hx
  have hc : w.cell? ⟨g, 0, none⟩ = some (.slice (some ⟨cb, 0, none⟩) D.lines.length cap) := hd.cell 0
  have hf := hd.few
  have HT := Lib.hid (nvm_there_yes g cb cap D i a n w hd (by omega) (by unfold noPlace; omega))
  have HD := Lib.hid hd
  have HL := Lib.hid hl
  have HN := Lib.hid hl.len
  obtain ⟨cs, hb, hp⟩ := hd.body
  have hs := body_size hd.ok hp
  have hi2 : (i + 1) * 193 ≤ D.lines.length * 193 := Nat.mul_le_mul_right _ hi
  have HB := Lib.hid hb
  have HP := Lib.hid hp
  have HS := Lib.hid hs
  have hfit : i * 193 + a + (64 - a) ≤ cs.size := by omega
  clear hd hl hb hp hs hx hi2
  obtain ⟨i0, hi0, hz0, hz1, hz2⟩ := info_parts Try.byteInfo
  have hsd : storeD D i (D.lines[i]) a l = storeD D i (D.lines[i]) a l := rfl
  by_cases ha64 : a = 64
  · subst ha64
    have hn0 : n = 0 := by omega
    have hl0 : l = [] := List.eq_nil_of_length_eq_zero (by rw [HN.out]; exact hn0)
    have hsl := fun w => run_sliceAt_end (P := Try.prog) Try.underlying108 i0 hi0 cb (i * 193) w
    have hx0 : 0 + 0 ≤ cs.size := by omega
    have H0 := Lib.hid hn0
    have HL0 := Lib.hid hl0
    have hB := HB.out
    have hL := HL.out
    have hc1 := HD.out.cell 1
    have hf1 := HD.out.frozen1 1
    have hcnt := IsDev.count (D' := storeD D i (D.lines[i]) 64 l) HD.out 1 (wrap64 (D.stores + 1)) (by
      rw [HL0.out]
      exact storeD_nil D i 64 hi) (by
      unfold storeD headOf
      simp)
    have HCN := Lib.hid hcnt
    clear hn0 hl0 hsd hi0 hz0 hz1 hz2 hcnt
    go_enter Try.func36, Try.ntmps36
    go_wp2_with fail
    refine (HT.out).mono ?_
    rintro e w' ⟨rfl, rfl⟩
    go_wp2_with ((with_reducible show wpList _ _ _ (Oper.mk (some 29) _ _ _ _ _ :: _) _ _); refine wpList_copy_nothing rfl (.tmp 27) (.tmp 28) 22 22 rfl 5 Try.underlying22 byteSizeN _ _ 0 0 n c rfl rfl (by rw [H0.out]; rfl) ?_)
    refine (int64_Add g 1 D.stores w hc1 hf1).mono ?_
    rintro e w3 ⟨rfl, rfl⟩
    go_wp2
    go_ret
    exact ⟨rfl, HCN.out.1, HCN.out.2.mono (by simp)⟩
  · have ha1 : a < 64 := by omega
    have hsl := fun w => run_sliceAt_low (P := Try.prog) Try.underlying108 i0 hi0 hz1 cb (i * 193) a ha1 w
    have hsp : FuMem.splice cs (i * 193 + a) ((l.map B).take (64 - a)) = FuMem.splice cs (i * 193 + a) (l.map B) := by
      rw [List.take_of_length_le (by rw [List.length_map, HN.out]; omega)]
    have H1 := Lib.hid hsp
    have hB := HB.out
    have hL := HL.out
    clear ha64 hi0 hz0 hz1 hz2 hsd hsp
    go_enter Try.func36, Try.ntmps36
    go_wp2_with fail
    refine (HT.out).mono ?_
    rintro e w' ⟨rfl, rfl⟩
    go_wp2_with ((with_reducible show wpList _ _ _ (Oper.mk (some 29) _ _ _ _ _ :: _) _ _); refine wpList_copy_blk rfl (.tmp 27) (.tmp 28) 22 22 rfl 5 Try.underlying22 byteSizeN cb (i * 193 + a) (64 - a) (64 - a) A n c rfl rfl _ cs hB hfit (l.map B) hL one_B ?_; intro w2 hb2 ho2 hs2; rw [H1.out] at hb2)
    have hd2 : DevAt w2 g cb cap { D with lines := D.lines.set i { D.lines[i] with now := over (D.lines[i]).now a l } } :=
      HD.out.write hi (o := a) (vs := l.map B) (by rw [List.length_map, HN.out]; omega) (over_cells _ (HD.out.ok.get hi) a l (by rw [HN.out]; exact ha)) (over_ok (HD.out.ok.get hi) (by rw [HN.out]; exact ha)) cs HP.out hb2 ho2
    have hc1 := hd2.cell 1
    have hf1 := hd2.frozen1 1
    have hcnt := IsDev.count (D' := storeD D i (D.lines[i]) a l) hd2 1 (wrap64 (D.stores + 1)) rfl (by unfold storeD headOf; simp)
    have HCN := Lib.hid hcnt
    have HO2 := Lib.hid ho2
    clear hcnt hd2 hb2 ho2
    refine (int64_Add g 1 D.stores w2 hc1 hf1).mono ?_
    rintro e w3 ⟨rfl, rfl⟩
    go_wp2
    go_ret
    exact ⟨rfl, HCN.out.1, (HO2.out.mono (by simp)).trans HCN.out.2 (by simp)⟩
end Go.Proofs.Ytkbgoloedlpflaa
