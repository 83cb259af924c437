/- Words for memory, over any program: a slice that reads as a list of cells; a block that is known whole; what a call has left alone; the laws of append, make and string conversion in these words. -/
import Derived.Below
import Derived.WalkKit
import Derived.Lib.Hide
import Derived.Laws.BytesArg
import Derived.Laws.MakeOwn
import Derived.Laws.AppendOwn
import Derived.Laws.OwnMore
import Derived.Deep.Draws
import Derived.Laws.Rows
import Derived.Maps.AppendAt
import Derived.Deep.AppendLies
import Derived.OwnWalk
import Derived.Test.YtlggichakafkiaaGreatChecked
import Derived.ProofKit
import Derived.OpenShut
import Derived.ShutString
import Derived.ChangeOld
import Derived.Deep.Onto
import Derived.Deep.MidRow
import Derived.Deep.Quiet
import Derived.ChangeKeysEq
import Derived.Laws.StructEq
import Derived.Laws.CopyOwn
import Derived.Maps.Own
import Derived.Test.YtlggichakafkiaaGreatProg
import Derived.Maps.OwnSet
import Derived.Maps.RangeWalk
set_option linter.unusedSimpArgs false
set_option linter.unusedVariables false
namespace Go.Proofs.FuMem
open Go.RowKit
theorem hq9 {p : Prop} (h : p) : RowKit.Hid p := Lib.hid h
/-! ### results -/
theorem ret_int {k : IntKind} {a b : Int} (h : a = b) : Ending.returned (.int k a) = .returned (.int k b) := by rw [h]
theorem ret_bool {a b : Bool} (h : a = b) : Ending.returned (.bool a) = .returned (.bool b) := by rw [h]
/-! ### a block that is known whole -/
def Blk (w : World) (g : Nat) (t : TypeId) (cs : Array Value) : Prop := w.heap[g]? = some (.cells cs t (0, 0))
section
variable {w w' : World} {g : Nat} {t : TypeId} {cs : Array Value}
theorem Blk.lt (h : Blk w g t cs) : g < w.heap.size := (Array.getElem?_eq_some_iff.1 h).1
theorem Blk.cell (h : Blk w g t cs) (i : Nat) : w.cell? ⟨g, i, none⟩ = cs[i]? := cell_of_row w g i cs t (0, 0) h
theorem Blk.frozen (h : Blk w g t cs) (i : Nat) : w.frozen? ⟨g, i, none⟩ = false := by
 unfold Blk at h
 simp [World.frozen?, h]
theorem Blk.new (w : World) (t : TypeId) (cs : Array Value) : Blk (w.alloc (.cells cs t)) w.heap.size t cs := heap_alloc_new w _
theorem Blk.set (h : Blk w g t cs) (i : Nat) (u : Value) : Blk (w.setCell ⟨g, i, none⟩ u) g t (cs.setIfInBounds i u) := by
 unfold Blk at h ⊢
 simp [World.setCell, Array.getElem?_modify, h]
theorem Blk.row (h : Blk w g t cs) (ds : Array Value) : Blk (w.setRow g ds) g t ds := setRow_heap w g cs ds t (0, 0) h
end
/-! ### what is left alone -/
structure Only (S : List Nat) (w w' : World) : Prop where
 os : w'.os = w.os
 tape : w'.tape = w.tape
 output : w'.output = w.output
 size : w.heap.size ≤ w'.heap.size
 block : ∀ k, k < w.heap.size → k ∉ S → w'.heap[k]? = w.heap[k]?
section
variable {w w' w'' : World} {S T : List Nat} {g : Nat} {t : TypeId} {cs : Array Value}
theorem Only.refl (S : List Nat) (w : World) : Only S w w := ⟨rfl, rfl, rfl, Nat.le_refl _, fun _ _ _ => rfl⟩
theorem Only.trans (h : Only S w w') (k : Only T w' w'') (ht : ∀ b ∈ T, b ∈ S ∨ w.heap.size ≤ b) : Only S w w'' :=
 ⟨k.os.trans h.os, k.tape.trans h.tape, k.output.trans h.output, Nat.le_trans h.size k.size, fun i hi hn =>
  (k.block i (Nat.lt_of_lt_of_le hi h.size) (fun hm => by rcases ht i hm with h1 | h1; exact hn h1; omega)).trans (h.block i hi hn)⟩
theorem Only.mono (h : Only S w w') (hs : ∀ b ∈ S, b ∈ T) : Only T w w' := ⟨h.os, h.tape, h.output, h.size, fun i hi hn => h.block i hi fun hm => hn (hs i hm)⟩
theorem Only.trans0 (h : Only S w w') (k : Only [] w' w'') : Only S w w'' := h.trans k (by simp)
theorem Only.alloc (h : Only S w w') (o : Obj) : Only S w (w'.alloc o) :=
 ⟨h.os, h.tape, h.output, Nat.le_trans h.size (by simp), fun i hi hn => (Below.heap_alloc w' o i (Nat.lt_of_lt_of_le hi h.size)).trans (h.block i hi hn)⟩
theorem Only.setCell (h : Only S w w') {p : Addr} (hp : p.block ∈ S ∨ w.heap.size ≤ p.block) (u : Value) : Only S w (w'.setCell p u) :=
 ⟨h.os, h.tape, h.output, by simpa [World.setCell] using h.size, fun i hi hn => (Below.heap_setCell w' p u i (by
  rintro rfl
  rcases hp with hp | hp
  ·exact hn hp
  ·omega)).trans (h.block i hi hn)⟩
theorem Only.setRow (h : Only S w w') (hp : g ∈ S ∨ w.heap.size ≤ g) (ds : Array Value) : Only S w (w'.setRow g ds) :=
 ⟨h.os, h.tape, h.output, by simpa using h.size, fun i hi hn => (setRow_other w' g i ds (by
  rintro rfl
  rcases hp with hp | hp
  ·exact hn hp
  ·omega)).trans (h.block i hi hn)⟩
theorem Only.drew (h : Only S w w') : Only S w w'.drew := ⟨h.os, h.tape, h.output, h.size, h.block⟩
theorem Only.drewN (h : Only S w w') (n : Nat) : Only S w (w'.drewN n) := ⟨h.os, h.tape, h.output, h.size, h.block⟩
theorem Only.below (h : Only S w w') {B : Nat} (hB : B ≤ w.heap.size) (hs : ∀ b ∈ S, B ≤ b) : Below B w w' :=
 ⟨h.os, h.tape, h.output, h.size, fun i hi => h.block i (by omega) (fun hm => by have := hs i hm; omega)⟩
theorem Only.below0 (h : Only [] w w') : Below w.heap.size w w' := h.below (Nat.le_refl _) (by simp)
theorem Only.of_below (h : Below w.heap.size w w') : Only [] w w' := ⟨h.os, h.tape, h.output, h.size, fun i hi _ => h.block i hi⟩
theorem Only.of_grown {row : Option Nat} (h : w.grownBy w' row) (hr : ∀ k, row = some k → k ∈ S ∨ w.heap.size ≤ k) : Only S w w' :=
 ⟨h.os, h.tape, h.output, h.size, fun i hi hn => h.block i hi fun e => by
  rcases hr i e.symm with h1 | h1
  ·exact hn h1
  ·omega⟩
theorem Blk.only (h : Blk w g t cs) (ho : Only S w w') (hg : g ∉ S) : Blk w' g t cs := (ho.block g h.lt hg).trans h
theorem cell_only (ho : Only S w w') {b o : Nat} (hb : b < w.heap.size) (hn : b ∉ S) : w'.cell? ⟨b, o, none⟩ = w.cell? ⟨b, o, none⟩ := World.cell?_of_block (ho.block b hb hn)
theorem lt_of_cell {b o : Nat} {v : Value} (h : w.cell? ⟨b, o, none⟩ = some v) : b < w.heap.size := by
 unfold World.cell? at h
 rcases Nat.lt_or_ge b w.heap.size with hlt | hge
 ·exact hlt
 ·simp [Array.getElem?_eq_none hge] at h
end
/-! ### a slice that reads as a list of cells -/
def Sl (w : World) (A : Option Addr) (n : Nat) (xs : List Value) : Prop :=
 xs.length = n ∧ (n = 0 ∨ ∃ b off, A = some ⟨b, off, none⟩ ∧ ∀ k, k < n → w.cell? ⟨b, off + k, none⟩ = xs[k]?)
section
variable {w w' : World} {S : List Nat} {A : Option Addr} {n : Nat} {xs : List Value}
theorem Sl.nil (w : World) (A : Option Addr) : Sl w A 0 [] := ⟨rfl, .inl rfl⟩
theorem Sl.at_ (h : Sl w A n xs) (hn : 0 < n) : ∃ b off, A = some ⟨b, off, none⟩ ∧ ∀ k (hk : k < xs.length), w.cell? ⟨b, off + k, none⟩ = some xs[k] := by
 have hl := h.1
 rcases h.2 with h0 | ⟨b, off, e, hc⟩
 ·omega
 ·exact ⟨b, off, e, fun k hk => by rw [hc k (by omega), List.getElem?_eq_getElem hk]⟩
theorem Sl.lt (h : Sl w A n xs) (hn : 0 < n) {b off : Nat} {s : Option Nat} (e : A = some ⟨b, off, s⟩) : b < w.heap.size := by
 obtain ⟨b', off', e', hc⟩ := h.at_ hn
 rw [e'] at e
 cases e
 exact lt_of_cell (hc 0 (by rw [h.1]; exact hn))
theorem Sl.only (h : Sl w A n xs) (ho : Only S w w') (hs : ∀ b off s, A = some ⟨b, off, s⟩ → b ∉ S) : Sl w' A n xs := by
 refine ⟨h.1, ?_⟩
 by_cases hn : 0 < n
 ·obtain ⟨b, off, e, hc⟩ := h.at_ hn
  exact .inr ⟨b, off, e, fun k hk => by
   have hk' : k < xs.length := by rw [h.1]; exact hk
   rw [cell_only ho (h.lt hn e) (hs b off none e), hc k hk', List.getElem?_eq_getElem hk']⟩
 ·exact .inl (by omega)
theorem Sl.only0 (h : Sl w A n xs) (ho : Only [] w w') : Sl w' A n xs := h.only ho (by simp)
theorem Sl.of_blk {g : Nat} {t : TypeId} {cs : Array Value} (h : Blk w g t cs) (off : Nat) (hx : xs = (cs.toList.drop off).take n) (hl : off + n ≤ cs.size) : Sl w (some ⟨g, off, none⟩) n xs := by
 subst hx
 refine ⟨by simp; omega, .inr ⟨g, off, rfl, fun k hk => ?_⟩⟩
 rw [h.cell, List.getElem?_take_of_lt hk, List.getElem?_drop, Array.getElem?_toList]
theorem Sl.of_own {base : Nat} {e : TypeId} {c : Nat} (h : w.ownsRow base e 1 (.slice A n c) n xs) : Sl w A n xs := by
 rcases h.2 with ⟨e1, e2⟩ | ⟨g, cap, cur, hv, hbg, hg, hnc, hcm, hcs, htake⟩
 ·subst e2
  exact ⟨by simpa using h.1, .inl rfl⟩
 ·cases hv
  exact Sl.of_blk (t := e) (cs := cur) hg 0 (by simpa using htake.symm) (by omega)
theorem own_slice {base : Nat} {e : TypeId} {size : Nat} {v : Value} (h : w.ownsRow base e size v n xs) : ∃ A c, v = .slice A n c ∧ n ≤ c ∧ ∀ b off s, A = some ⟨b, off, s⟩ → base ≤ b ∧ b < w.heap.size := by
 rcases h.2 with ⟨e1, e2⟩ | ⟨g, cap, cur, hv, hbg, hg, hnc, hcm, hcs, htake⟩
 ·subst e2
  exact ⟨none, 0, e1, Nat.le_refl _, by simp⟩
 ·exact ⟨_, _, hv, hnc, fun b off s e => by cases e; exact ⟨hbg, (Array.getElem?_eq_some_iff.1 hg).1⟩⟩
theorem own_only {base : Nat} {e : TypeId} {size : Nat} {v : Value} (h : w.ownsRow base e size v n xs) (ho : Only S w w') (hs : ∀ k, v.ownBlock = some k → k ∉ S) : w'.ownsRow base e size v n xs := by
 refine ⟨h.1, ?_⟩
 rcases h.2 with h0 | ⟨g, cap, cur, rfl, hbg, hg, hnc, hcm, hcs, htake⟩
 ·exact .inl h0
 ·exact .inr ⟨g, cap, cur, rfl, hbg, (ho.block g (Array.getElem?_eq_some_iff.1 hg).1 (hs g rfl)).trans hg, hnc, hcm, hcs, htake⟩
theorem Sl.cut (h : Sl w A n xs) {i j : Nat} (hij : i ≤ j) (hj : j ≤ n) : Sl w (A.map (·.add i)) (j - i) ((xs.drop i).take (j - i)) := by
 refine ⟨by simp [h.1]; omega, ?_⟩
 by_cases hn : i < j
 ·obtain ⟨b, off, rfl, hc⟩ := h.at_ (by omega)
  refine .inr ⟨b, off + i, by unfold Addr.add; split <;> simp_all, fun k hk => ?_⟩
  have := h.1
  rw [List.getElem?_take_of_lt hk, List.getElem?_drop, List.getElem?_eq_getElem (by omega), ← hc (i + k) (by omega), Nat.add_assoc]
 ·exact .inl (by omega)
end
/-! ### bytes -/
def B (x : UInt8) : Value := .int .u8 x.toNat
def Bs (w : World) (A : Option Addr) (n : Nat) (l : List UInt8) : Prop := Sl w A n (l.map B)
section
variable {w w' : World} {S : List Nat} {A : Option Addr} {n : Nat} {l : List UInt8}
theorem Bs.len (h : Bs w A n l) : l.length = n := by simpa [Bs, Sl] using h.1
theorem Bs.at_ (h : Bs w A n l) (hn : 0 < n) : ∃ b off, A = some ⟨b, off, none⟩ ∧ ∀ k (hk : k < l.length), w.cell? ⟨b, off + k, none⟩ = some (.int .u8 (l[k].toNat : Int)) := by
 obtain ⟨b, off, e, hc⟩ := Sl.at_ h hn
 exact ⟨b, off, e, fun k hk => by rw [hc k (by simpa using hk), List.getElem_map]; rfl⟩
theorem Bs.nil (w : World) (A : Option Addr) : Bs w A 0 [] := Sl.nil w A
theorem Bs.only (h : Bs w A n l) (ho : Only S w w') (hs : ∀ b off s, A = some ⟨b, off, s⟩ → b ∉ S) : Bs w' A n l := Sl.only h ho hs
theorem Bs.only0 (h : Bs w A n l) (ho : Only [] w w') : Bs w' A n l := Sl.only0 h ho
theorem one_B : ∀ u ∈ l.map B, u.oneCell' = true := by
 intro u hu
 obtain ⟨x, _, rfl⟩ := List.mem_map.1 hu
 rfl
theorem getD_map_toNat (l : List UInt8) (i : Nat) (h : i < l.length) : (l.map fun x => (x.toNat : Int)).getD i 0 = (l[i].toNat : Int) := by
 simp [List.getD, h]
theorem run_str {P : Program} {src dst e : TypeId} (hs : P.underlying src = some (.slice e)) (he : P.underlying e = some (.int .u8)) (hd : P.underlying dst = some .string) (h : Bs w A n l) (c : Nat) :
  (convert src dst (.slice A n c)).run P w = .ok (.string ⟨l.toArray⟩) w := by
 have hl := h.len
 by_cases hn : 0 < n
 ·obtain ⟨b, off, rfl, hc⟩ := h.at_ hn
  have := run_convert_bytes_arg (P := P) w src e hs he b off n c (l.map fun x => (x.toNat : Int)) (by simpa using hl) (fun i hi => by rw [getD_map_toNat l i (by omega)]; exact hc i (by omega)) dst hd
  rw [this]
  simp [strOfNums, Function.comp_def]
 ·obtain rfl : n = 0 := by omega
  obtain rfl : l = [] := List.eq_nil_of_length_eq_zero hl
  rw [run_convert_bytes_string w src dst e _ 0 c hs he hd]
  cases A <;> simp [Conv.bytesToString, loadCells]
  all_goals rfl
end
/-! ### append -/
section
variable {P : Program} (w : World)
theorem run_load0 (a : Addr) : (loadCells a 0).run P w = .ok #[] w := by rfl
theorem run_append_of_nil (base : Nat) (t ty e : TypeId) (i : TypeInfo) (size : Nat) (ht : P.underlying t = some (.slice e)) (hi : P.info? e = some i)
  (v : Value) (n : Nat) (xs : List Value) (hown : w.ownsRow base e size v n xs) (A : Option Addr) (c : Nat) : (Builtin.append_ #[t, t] ty #[v, .slice A 0 c]).run P w = .ok v w := by
 rcases hown.2 with ⟨rfl, rfl⟩ | ⟨g, cap, cur, rfl, _, _, hnc, _⟩
 ·cases A <;> simp [Builtin.append_, run_underlying ht, sizeOf, typeInfo, hi, Builtin.lenOf, Builtin.firstCells, run_load0]
 ·cases A <;> simp [Builtin.append_, run_underlying ht, sizeOf, typeInfo, hi, Builtin.lenOf, Builtin.firstCells, hnc, storeCells, run_load0]
theorem run_append_sl (base : Nat) (t ty e : TypeId) (i : TypeInfo) (z : Value) (bytes : Nat) (ht : P.underlying t = some (.slice e)) (hi : P.info? e = some i) (hz : i.zero = some z)
  (hsize : i.size = 1) (hby : i.bytes = bytes) (hzs : z.cells.size = 1)
  (v : Value) (n : Nat) (xs : List Value) (hown : w.ownsRow base e 1 v n xs)
  (A : Option Addr) (m c : Nat) (news : List Value) (hr : Sl w A m news) (h1 : ∀ u ∈ news, u.oneCell' = true)
  (h63 : n + m ≤ maxLen) (hbytes : (n + m) * bytes ≤ 140737488355328) (hbase : base ≤ w.heap.size) :
  ∃ v' w', (Builtin.append_ #[t, t] ty #[v, .slice A m c]).run P w = .ok v' w' ∧ w'.ownsRow base e 1 v' (n + m) (xs ++ news) ∧ w.grownBy w' v.ownBlock ∧
   (v'.ownBlock = v.ownBlock ∨ v'.ownBlock = some w.heap.size) := by
 by_cases hm : 0 < m
 ·obtain ⟨b, off, rfl, hc⟩ := hr.at_ hm
  have hcells : ∀ j u, news[j]? = some u → w.cell? ((⟨b, off, none⟩ : Addr).add j) = some u := by
   intro j u hu
   obtain ⟨hj, e2⟩ := List.getElem?_eq_some_iff.1 hu
   rw [Addr.add_lit, hc j hj, e2]
  obtain ⟨v', w', hrun, h2, h3, _, h5⟩ := run_append_own_at (P := P) w base t ty e i z 1 bytes ht hi hz hsize hby hzs (by omega) v n xs hown _ m c news (by rw [hr.1, Nat.mul_one]) hcells h1 h63 hbytes hbase
  exact ⟨v', w', hrun, h2, h3, h5⟩
 ·obtain rfl : m = 0 := by omega
  obtain rfl : news = [] := List.eq_nil_of_length_eq_zero hr.1
  exact ⟨v, w, run_append_of_nil w base t ty e i 1 ht hi v n xs hown A c, by simpa using hown, World.grownBy.refl w _, .inl rfl⟩
theorem wpList_append_run {ops : Array Oper} {rest : List Oper} {o : Oper} {a : Act} {Q : Exit → Act → World → Prop} (hgd : o.guard = none) (s x : Operand) (t : TypeId)
  (ho : o.op = .call { callee := .builtin .append, args := #[s, x], argTypes := #[t, t] }) (v u : Value) (hs : a.eval s = v) (hx : a.eval x = u) (v' : Value) (w' : World)
  (hrun : (Builtin.append_ #[t, t] o.type #[v, u]).run P w = .ok v' w') (h : wpList P ops Q rest (a.put o.dst v') w') : wpList P ops Q (o :: rest) a w :=
 wpList_plain hgd fun _ hK => by
  unfold Oper.wp execOp
  simp only [ho, resolve, invoke, builtin, Sem.run_bind, Sem.run_pure, Result.andThen_ok, List.map_toArray, List.map_cons, List.map_nil, hs, hx, hrun]
  exact hK _ _ h
theorem madeCells_one (z : Value) (n : Nat) (hz : z.cells = #[z]) : madeCells z.cells n = Array.replicate n z := by
 apply Array.ext
 ·simp [madeCells]
 ·intro i h1 h2
  simp [madeCells, hz, Nat.mod_one]
theorem make_blk (t e : TypeId) (i : TypeInfo) (z : Value) (ht : P.underlying t = some (.slice e)) (hi : P.info? e = some i) (hz : i.zero = some z) (hsize : i.size = 1) (hz1 : z.cells = #[z])
  (kl kc : IntKind) (l c : Nat) (hlc : l ≤ c) (hbytes : i.bytes * c ≤ 281474976710656) (h63 : c ≤ 9223372036854775807) :
  ∃ w', (Instr.makeSlice t (.int kl (l : Int)) (.int kc (c : Int))).run P w = .ok (.slice (some ⟨w.heap.size, 0, none⟩) l c) w' ∧
   Blk w' w.heap.size e (Array.replicate c z) ∧ Only [] w w' ∧ w'.heap.size = w.heap.size + 1 := by
 have hb : (i.bytes : Int) * (c : Int) ≤ 281474976710656 := by
  have h : ((i.bytes * c : Nat) : Int) ≤ 281474976710656 := by omega
  rwa [Int.natCast_mul] at h
 have hr := run_make (P := P) w t e i z ht hi hz kl kc l c (by omega) (by omega) hb (by omega)
 simp only [Int.toNat_natCast] at hr
 rw [hsize, Nat.mul_one, madeCells_one z c hz1] at hr
 exact ⟨_, hr, Blk.new _ _ _, (Only.refl _ _).alloc _, by simp⟩
end
theorem wrap64_eq (n : Int) : wrap64 n = IntKind.i64.wrap n := by rw [IntKind.wrap_i64]; unfold wrap64; omega
end Go.Proofs.FuMem
namespace Go.Proofs.YtlggichakafkiaaGreat
open Go.ChangeShapes Go.WideShapes Go.ChangeAt Go.RowKit Go.Proofs.FuMem
theorem FrameOwn.own : ownKnob Tryz.prog.godebug = none := by kernel_rfl
theorem FrameOwn.laidOut : laidOutB Tryz.prog = true := by kernel_rfl
def IsRow (k : IntKind) (w : World) (a : Option Addr) (len cap : Nat) (zs : List Int) : Prop :=
 (a = none ∧ len = 0 ∧ cap = 0 ∧ zs = []) ∨
 ∃ x, a = some x ∧ len ≤ cap ∧ cap ≤ maxLen ∧ zs.length = cap ∧ (∀ i, i < zs.length → w.cell? (x.add i) = some (.int k (zs.getD i 0))) ∧ ∀ n ∈ zs, (Lit.int k n).wf = true
section
variable {H : Type} {enc : TypeId × Value → H} {P : Program} {W : World} {base : Nat} {spare : Nat → Bool} {held : Bool}
theorem IsRow.of_trod {t e : TypeId} {k : IntKind} {a0 : Option Addr} {len0 cap0 : Nat} {d : DataW H} {p : List MemPlace} (ht : P.underlying t = some (.slice e)) (he : P.underlying e = some (.int k)) (hc : P.cellsOf e = 1)
  (h : DataW.Trod enc P W base (fun _ => true) held t (.slice a0 len0 cap0) d p) : ∃ zs, IsRow k W a0 len0 cap0 zs := by
 obtain ⟨fuel, hf⟩ := h
 rcases open_ints ht he hc hf with ⟨hcs, _⟩ | ⟨x, l, c, zs, hcs, _, hl, hm, hz, _, hcell, hwz⟩
 ·simp [Value.cells] at hcs
  obtain ⟨rfl, rfl, rfl⟩ := hcs
  exact ⟨[], .inl ⟨rfl, rfl, rfl, rfl⟩⟩
 ·simp [Value.cells] at hcs
  obtain ⟨rfl, rfl, rfl⟩ := hcs
  exact ⟨zs, .inr ⟨_, rfl, hl, hm, by simpa using hz, hcell, hwz⟩⟩
end
theorem IsRow.sl {k : IntKind} {w : World} {a : Option Addr} {len cap : Nat} {zs : List Int} (h : IsRow k w a len cap zs) :
  ∃ ys : List Int, Sl w a len (ys.map (.int k)) ∧ (∀ n ∈ ys, (Lit.int k n).wf = true) ∧ len ≤ maxLen := by
 rcases h with ⟨rfl, rfl, rfl, rfl⟩ | ⟨x, rfl, hl, hm, hz, hcell, hwz⟩
 ·exact ⟨[], Sl.nil _ _, by simp, Nat.zero_le _⟩
 ·refine ⟨zs.take len, ⟨by simp; omega, ?_⟩, fun n hn => hwz n (List.mem_of_mem_take hn), by omega⟩
  by_cases h0 : len = 0
  ·exact .inl h0
  ·obtain ⟨b, off, spot⟩ := x
   have hc := hcell 0 (by omega)
   have hspot : spot = none := by simpa [Addr.add] using World.cell?_spot hc
   subst hspot
   refine .inr ⟨b, off, rfl, fun i hi => ?_⟩
   have := hcell i (by omega)
   rw [Addr.add_lit] at this
   rw [this, List.getElem?_map, List.getElem?_take_of_lt hi, List.getElem?_eq_getElem (by omega)]
   simp [List.getD, List.getElem?_eq_getElem (show i < zs.length by omega)]
theorem IsRow.bytes {w : World} {a : Option Addr} {len cap : Nat} {zs : List Int} (h : IsRow .u8 w a len cap zs) : ∃ l : List UInt8, Bs w a len l ∧ len ≤ maxLen := by
 obtain ⟨ys, hs, hw, hm⟩ := h.sl
 refine ⟨ys.map fun n => UInt8.ofNat n.toNat, ?_, hm⟩
 unfold Bs
 have : (ys.map fun n => UInt8.ofNat n.toNat).map B = ys.map (.int .u8) := by
  rw [List.map_map]
  apply List.map_congr_left
  intro n hn
  have := bounds_u8 (hw n hn)
  simp [B]
  omega
 rw [this]
 exact hs
theorem IsRow.ints {w : World} {a : Option Addr} {len cap : Nat} {zs : List Int} (h : IsRow .i64 w a len cap zs) :
  ∃ ys : List Int, (Sl w a len (ys.map (.int .i64)) ∧ ∀ n ∈ ys, -9223372036854775808 ≤ n ∧ n ≤ 9223372036854775807) ∧ len ≤ maxLen := by
 obtain ⟨ys, hs, hw, hm⟩ := h.sl
 exact ⟨ys, ⟨hs, fun n hn => bounds_i64 (hw n hn)⟩, hm⟩
end Go.Proofs.YtlggichakafkiaaGreat
namespace Go.Proofs.FuMem
open Go.RowKit
theorem Calls.flip {P : Program} {f : FuncId} {args : Array Value} {w : World} {v : Value} (h : Calls P f args w fun e w' => e = .returned v ∧ w = w') : Calls P f args w fun e w'' => e = .returned v ∧ w'' = w :=
 h.mono fun _ _ ⟨he, hw⟩ => ⟨he, hw.symm⟩
section
variable {P : Program} (w : World)
theorem append_own {w0 : World} {T : List Nat} (on : Only T w0 w) (t ty e : TypeId) (i : TypeInfo) (z : Value) (bytes : Nat) (ht : P.underlying t = some (.slice e)) (hi : P.info? e = some i) (hz : i.zero = some z)
  (hsize : i.size = 1) (hby : i.bytes = bytes) (hzs : z.cells.size = 1)
  (v : Value) (n : Nat) (xs : List Value) (hown : w.ownsRow w0.heap.size e 1 v n xs)
  (A : Option Addr) (m c : Nat) (news : List Value) (hr : Sl w A m news) (h1 : ∀ u ∈ news, u.oneCell' = true)
  (h63 : n + m ≤ maxLen) (hbytes : (n + m) * bytes ≤ 140737488355328) :
  ∃ A' c' w', (Builtin.append_ #[t, t] ty #[v, .slice A m c]).run P w = .ok (.slice A' (n + m) c') w' ∧ w'.ownsRow w0.heap.size e 1 (.slice A' (n + m) c') (n + m) (xs ++ news) ∧
   Sl w' A' (n + m) (xs ++ news) ∧ Only T w0 w' := by
 obtain ⟨v', w', hrun, h2, h3, _⟩ := run_append_sl (P := P) w w0.heap.size t ty e i z bytes ht hi hz hsize hby hzs v n xs hown A m c news hr h1 h63 hbytes on.size
 obtain ⟨A', c', rfl, _, _⟩ := own_slice h2
 refine ⟨A', c', w', hrun, h2, Sl.of_own h2, ?_⟩
 exact ⟨h3.os.trans on.os, h3.tape.trans on.tape, h3.output.trans on.output, Nat.le_trans on.size h3.size, fun k hk hn =>
  (h3.block k (Nat.lt_of_lt_of_le hk on.size) (fun e => by have := hown.lt k e.symm; omega)).trans (on.block k hk hn)⟩
theorem own_nil (base : Nat) (e : TypeId) (size : Nat) : w.ownsRow base e size (.slice none 0 0) 0 [] := ⟨by simp, .inl ⟨rfl, rfl⟩⟩
def OwnB (e : TypeId) (w : World) (base g n c : Nat) (l : List UInt8) : Prop := w.ownsRow base e 1 (.slice (some ⟨g, 0, none⟩) n c) n (l.map B)
section
variable {w w' : World} {e : TypeId} {base g n c : Nat} {l : List UInt8}
theorem OwnB.of {A : Option Addr} (h : w.ownsRow base e 1 (.slice A n c) n (l.map B)) (hn : 0 < n) : ∃ g, A = some ⟨g, 0, none⟩ ∧ base ≤ g ∧ g < w.heap.size ∧ OwnB e w base g n c l := by
 obtain ⟨g, c2, he, hbg, hgl⟩ := h.form hn
 cases he
 exact ⟨g, rfl, hbg, hgl, h⟩
theorem OwnB.len (h : OwnB e w base g n c l) : l.length = n := by simpa using h.1
theorem OwnB.bs (h : OwnB e w base g n c l) : Bs w (some ⟨g, 0, none⟩) n l := Sl.of_own h
theorem OwnB.cell (h : OwnB e w base g n c l) (k : Nat) (hk : k < n) : w.cell? ⟨g, k, none⟩ = some (.int .u8 ((l.getD k 0).toNat : Int)) := by
 have hl := h.len
 have := World.ownsRow.cellAt h k (by omega)
 rw [this, List.getElem?_map, List.getElem?_eq_getElem (by omega)]
 simp [B, List.getD, List.getElem?_eq_getElem (show k < l.length by omega)]
theorem OwnB.frozen (h : OwnB e w base g n c l) (k : Nat) : w.frozen? ⟨g, k, none⟩ = false := World.ownsRow.frozenAt h k
theorem OwnB.set (h : OwnB e w base g n c l) (k : Nat) {x : Int} {y : UInt8} (hx : x = y.toNat) : OwnB e (w.setCell ⟨g, k, none⟩ (.int .u8 x)) base g n c (l.set k y) := by
 have := (World.ownsRow.stored h k (.int .u8 x)).1
 unfold OwnB
 rw [List.map_set, show B y = .int .u8 x by rw [hx]; rfl]
 exact this
theorem OwnB.only {S : List Nat} (h : OwnB e w base g n c l) (ho : Only S w w') (hs : g ∉ S) : OwnB e w' base g n c l :=
 own_only h ho (by intro k hk; simp [Value.ownBlock] at hk; subst hk; exact hs)
end
theorem bs_own {w : World} {base n c : Nat} {e : TypeId} {A : Option Addr} {l : List UInt8} (h : w.ownsRow base e 1 (.slice A n c) n (l.map B)) : Bs w A n l := Sl.of_own h
theorem Bs.cut {w : World} {b off n : Nat} {l : List UInt8} (h : Bs w (some ⟨b, off, none⟩) n l) {a m : Nat} (hm : a + m ≤ n) : Bs w (some ⟨b, off + a, none⟩) m ((l.drop a).take m) := by
 have hl := h.len
 have := Sl.cut h (i := a) (j := a + m) (by omega) hm
 rw [Nat.add_sub_cancel_left] at this
 unfold Bs
 rw [List.map_take, List.map_drop]
 simpa [Addr.add_lit] using this
theorem Blk.drew {w : World} {g : Nat} {t : TypeId} {cs : Array Value} (h : Blk w g t cs) : Blk w.drew g t cs := h
end
end Go.Proofs.FuMem
namespace Go.Proofs.FuCode
def num : List UInt8 → Nat
 | [] => 0
 | x :: l => x.toNat + 256 * num l
def lay (n v : Nat) : List UInt8 := (List.range n).map fun i => UInt8.ofNat (v / 256 ^ i % 256)
theorem lay_length (n v : Nat) : (lay n v).length = n := by simp [lay]
theorem lay_succ (n v : Nat) : lay (n + 1) v = lay n v ++ [UInt8.ofNat (v / 256 ^ n % 256)] := by simp [lay, List.range_succ]
theorem num_append (a b : List UInt8) : num (a ++ b) = num a + 256 ^ a.length * num b := by
 induction a with
 | nil => simp [num]
 | cons x a ih =>
  simp only [List.cons_append, num, ih, List.length_cons, Nat.pow_succ, Nat.mul_add]
  rw [Nat.mul_comm (256 ^ a.length) 256, Nat.mul_assoc, Nat.add_assoc]
theorem num_lt (l : List UInt8) : num l < 256 ^ l.length := by
 induction l with
 | nil => simp [num]
 | cons x l ih =>
  have := x.toNat_lt
  simp only [num, List.length_cons, Nat.pow_succ]
  omega
theorem ofNat_mod (x : Nat) : (UInt8.ofNat (x % 256)).toNat = x % 256 := by
 rw [UInt8.toNat_ofNat_of_lt']
 exact Nat.mod_lt _ (by omega)
theorem num_take_succ (l : List UInt8) (k : Nat) (h : k < l.length) : num (l.take (k + 1)) = num (l.take k) + 256 ^ k * l[k].toNat := by
 rw [List.take_succ_eq_append_getElem h, num_append, List.length_take, Nat.min_eq_left (by omega)]
 simp [num]
theorem pow256 (k : Nat) : 256 ^ k = 2 ^ (8 * k) := by rw [show (256 : Nat) = 2 ^ 8 from rfl, ← Nat.pow_mul]
theorem pow_le8 (k : Nat) (h : k ≤ 8) : 256 ^ k ≤ 18446744073709551616 := by
 have := Nat.pow_le_pow_right (n := 256) (by omega) h
 exact Nat.le_trans this (by omega)
def wrong (size : Nat) (at_ n : Int) : Nat := if n < 1 ∨ 8 < n then 1 else if at_ < 0 ∨ (size : Int) - n < at_ then 2 else 0
def over (b : List UInt8) (at_ : Nat) (l : List UInt8) : List UInt8 := b.take at_ ++ l ++ b.drop (at_ + l.length)
theorem over_length (b : List UInt8) (at_ : Nat) (l : List UInt8) (h : at_ + l.length ≤ b.length) : (over b at_ l).length = b.length := by simp [over]; omega
theorem over_nil (b : List UInt8) (at_ : Nat) : over b at_ [] = b := by simp [over]
theorem over_all (l k : List UInt8) (n : Nat) (hl : l.length = n) (hk : k.length = n) : over k 0 (l.take n) = l := by
 subst hl
 unfold over
 rw [List.take_length, List.take_zero, List.nil_append, List.drop_eq_nil_of_le (by omega), List.append_nil]
theorem over_snoc (b : List UInt8) (at_ : Nat) (l : List UInt8) (x : UInt8) (h : at_ + l.length < b.length) : over b at_ (l ++ [x]) = (over b at_ l).set (at_ + l.length) x := by
 unfold over
 have hl : (b.take at_ ++ l).length = at_ + l.length := by simp; omega
 rw [List.set_append_right _ _ (by omega), hl, Nat.sub_self, List.drop_eq_getElem_cons h, List.set_cons_zero]
 simp [Nat.add_assoc]
def put (b : List UInt8) (at_ n : Int) (v : Nat) : List UInt8 × Nat :=
 if wrong b.length at_ n ≠ 0 then ([], wrong b.length at_ n)
 else if 256 ^ n.toNat ≤ v then ([], 11)
 else (over b at_.toNat (lay n.toNat v), 0)
def cget (b : List UInt8) (at_ n : Int) : Nat × Nat :=
 if wrong b.length at_ n ≠ 0 then (0, wrong b.length at_ n) else (num ((b.drop at_.toNat).take n.toNat), 0)
theorem wrong_zero {size : Nat} {at_ n : Int} (h : wrong size at_ n = 0) : 1 ≤ n ∧ n ≤ 8 ∧ 0 ≤ at_ ∧ at_ + n ≤ size := by
 unfold wrong at h
 split at h
 ·omega
 ·split at h
  ·omega
  ·omega
theorem wrong_le (size : Nat) (at_ n : Int) : wrong size at_ n ≤ 2 := by
 unfold wrong
 repeat' split
 all_goals omega
theorem num_or (a k x : Nat) (h : a < 256 ^ k) : a ||| (x * 2 ^ (8 * k)) = a + 256 ^ k * x := by
 rw [pow256] at h ⊢
 have := Nat.two_pow_add_eq_or_of_lt h x
 rw [Nat.or_comm, Nat.mul_comm x, ← this, Nat.add_comm]
end Go.Proofs.FuCode
namespace Go.Proofs.FuMem
open Go.RowKit
section
variable {P : Program}
def arrV (l : List UInt8) : Value := .agg (l.map B).toArray
def Arr (w : World) (g : Nat) (t : TypeId) (l : List UInt8) : Prop := Blk w g t (l.map B).toArray
theorem Arr.bs {w : World} {g : Nat} {t : TypeId} {l : List UInt8} (h : Arr w g t l) : Bs w (some ⟨g, 0, none⟩) l.length l := Sl.of_blk h 0 (by rw [List.drop_zero, List.take_of_length_le (by simp)]) (by simp)
theorem Arr.only {w w' : World} {S : List Nat} {g : Nat} {t : TypeId} {l : List UInt8} (h : Arr w g t l) (ho : Only S w w') (hs : g ∉ S) : Arr w' g t l := Blk.only h ho hs
theorem all_B (l : List UInt8) : ((l.map B).toArray).all (·.oneCell') = true := all_oneCell_toArray one_B
theorem Sl.range {w : World} {b o n : Nat} {xs : List Value} (h : Sl w (some ⟨b, o, none⟩) n xs) : w.rangeAt b o xs := fun j v hj => by
 have hl := h.1
 have hjn : j < n := by rw [← hl]; exact (List.getElem?_eq_some_iff.1 hj).1
 rcases h.2 with h0 | ⟨b', o', e, hc⟩
 ·omega
 ·cases e
  rw [hc j hjn, hj]
/-! ### the operations in a plain region -/
variable {w : World} {ops : Array Oper} {rest : List Oper} {o : Oper} {a : Act} {Q : Exit → Act → World → Prop}
theorem wpList_alloc_blk (hgd : o.guard = none) (T : TypeId) (ho : o.op = .alloc T) (z : Value) (hz : (P.info? T).map (·.zero) = some (some z))
  (h : ∀ w', Blk w' w.heap.size T z.cells → Only [] w w' → w'.heap.size = w.heap.size + 1 → wpList P ops Q rest (a.put o.dst (.pointer (some ⟨w.heap.size, 0, none⟩))) w') : wpList P ops Q (o :: rest) a w :=
 wpList_plain hgd fun K hK => by
  have hr : (Instr.alloc T true (.tuple #[])).run P w = .ok (.pointer (some ⟨w.heap.size, 0, none⟩)) (w.alloc (.cells z.cells T)) := by
   cases hq : P.info? T with
   | none => simp [hq] at hz
   | some i =>
    simp [hq] at hz
    simp [Instr.alloc, zeroValue, typeInfo, hq, hz, newVar, newRow]
  unfold Oper.wp
  simp only [execOp, ho, Sem.run_bind, hr, Result.andThen_ok, Sem.run_pure]
  exact hK _ _ (h _ (Blk.new _ _ _) ((Only.refl _ _).alloc _) (by simp))
theorem wpList_load_arr (hgd : o.guard = none) (T : TypeId) (x : Operand) (ho : o.op = .load T x) (b off : Nat) (hx : a.eval x = .pointer (some ⟨b, off, none⟩)) (l : List UInt8)
  (hc : Bs w (some ⟨b, off, none⟩) l.length l) (n : Nat) (e : TypeId) (hu : P.underlying T = some (.array n e)) (hi : (P.info? T).map (·.size) = some l.length)
  (h : wpList P ops Q rest (a.put o.dst (arrV l)) w) : wpList P ops Q (o :: rest) a w :=
 wpList_load_mid hgd T x ho b off hx (l.map B) _ (Sl.range hc) hu rfl (by simpa using hi) h
def splice (cs : Array Value) (off : Nat) (vs : List Value) : Array Value := (cs.toList.take off ++ vs ++ cs.toList.drop (off + vs.length)).toArray
theorem splice_size (cs : Array Value) (off : Nat) (vs : List Value) (h : off + vs.length ≤ cs.size) : (splice cs off vs).size = cs.size := by simp [splice]; omega
theorem wpList_store_blk (hgd : o.guard = none) (T : TypeId) (x y : Operand) (ho : o.op = .store T x y) (g off : Nat) (vs : Array Value) (hx : a.eval x = .pointer (some ⟨g, off, none⟩)) (hy : a.eval y = .agg vs)
  (t : TypeId) (cs : Array Value) (hb : Blk w g t cs) (hfit : off + vs.size ≤ cs.size) (hi : (P.info? T).map (·.size) = some vs.size) (h1 : vs.all (·.oneCell') = true)
  (h : ∀ w', Blk w' g t (splice cs off vs.toList) → Only [g] w w' → w'.heap.size = w.heap.size → wpList P ops Q rest (a.put o.dst undef) w') : wpList P ops Q (o :: rest) a w :=
 wpList_plain hgd fun K hK => by
  have hst := run_storeCells_at P g off t vs.toList 0 cs w hb (by simpa using hfit) (fun v hv => (Array.all_eq_true_iff_forall_mem.1 h1) v (by simpa using hv))
  rw [Nat.add_zero] at hst
  have hr : (Instr.storeAt T (.pointer (some ⟨g, off, none⟩)) (.agg vs)).run P w = .ok () (w.setRow g (splice cs off vs.toList)) := by
   cases hq : P.info? T with
   | none => simp [hq] at hi
   | some i =>
    have hs : vs.size = i.size := by simp [hq] at hi; omega
    simp [Instr.storeAt, Instr.sureAddr, storeVar, sizeOf, typeInfo, hq, Value.cells, hs, hst, splice]
  unfold Oper.wp
  simp only [execOp, ho, hx, hy, Sem.run_bind, hr, Result.andThen_ok, Sem.run_pure]
  exact hK _ _ (h _ (hb.row _) ((Only.refl _ _).setRow (.inl (by simp)) _) (by simp))
theorem wpList_copy_blk (hgd : o.guard = none) (d s : Operand) (dT sT : TypeId)
  (ho : o.op = .call { callee := .builtin .copy, args := #[d, s], argTypes := #[dT, sT] }) (elem : TypeId) (hu : P.underlying dT = some (.slice elem)) (hsz : (P.info? elem).map (·.size) = some 1)
  (g off dLen dCap : Nat) (A : Option Addr) (n c : Nat) (hd : a.eval d = .slice (some ⟨g, off, none⟩) dLen dCap) (hs : a.eval s = .slice A n c)
  (t : TypeId) (cs : Array Value) (hb : Blk w g t cs) (hfit : off + dLen ≤ cs.size) (xs : List Value) (hx : Sl w A n xs) (h1 : ∀ v ∈ xs, v.oneCell' = true)
  (h : ∀ w', Blk w' g t (splice cs off (xs.take dLen)) → Only [g] w w' → w'.heap.size = w.heap.size → wpList P ops Q rest (a.put o.dst (goInt ((min n dLen : Nat) : Int))) w') : wpList P ops Q (o :: rest) a w := by
 have hl := hx.1
 by_cases h0 : min n dLen = 0
 ·refine wpList_copy_nothing hgd d s dT sT ho elem hu hsz _ _ dLen dCap n c hd hs h0 ?_
  have he : xs.take dLen = [] := by
   apply List.eq_nil_of_length_eq_zero
   rw [List.length_take, hl, Nat.min_comm]
   exact h0
  have := h w (by rw [he]; unfold splice; simpa using hb) (Only.refl _ _) rfl
  rw [h0] at this
  exact this
 ·obtain ⟨b, f, rfl, hc⟩ := hx.at_ (by omega)
  have hlen : (xs.take dLen).length = min n dLen := by rw [List.length_take, hl, Nat.min_comm]
  refine wpList_copy_own hgd d s dT sT ho elem hu hsz g off dLen dCap _ n c hd hs cs t hb (xs.take dLen) hlen (fun j v hj => ?_) (by rw [hlen]; omega) (fun v hv => h1 v (List.mem_of_mem_take hv)) ?_
  ·have hjl : j < (xs.take dLen).length := (List.getElem?_eq_some_iff.1 hj).1
   rw [hlen] at hjl
   rw [Addr.add_lit, hc j (by omega)]
   rw [List.getElem?_take_of_lt (by omega), List.getElem?_eq_getElem (by omega)] at hj
   exact hj
  ·rw [hlen]
   refine h _ ?_ ((Only.refl _ _).setRow (.inl (by simp)) _) (by simp)
   have := hb.row (g := g) (cs.toList.take off ++ (xs.take dLen ++ cs.toList.drop (off + (xs.take dLen).length))).toArray
   rw [hlen] at this
   unfold splice
   rw [hlen, List.append_assoc]
   exact this
/-! ### the same, of blocks that are just arrays of bytes -/
theorem wpList_alloc_arr (hgd : o.guard = none) (T : TypeId) (ho : o.op = .alloc T) (l : List UInt8) (hz : (P.info? T).map (·.zero) = some (some (arrV l)))
  (h : ∀ w', Arr w' w.heap.size T l → Only [] w w' → w'.heap.size = w.heap.size + 1 → wpList P ops Q rest (a.put o.dst (.pointer (some ⟨w.heap.size, 0, none⟩))) w') : wpList P ops Q (o :: rest) a w :=
 wpList_alloc_blk hgd T ho (arrV l) hz h
theorem wpList_store_arr (hgd : o.guard = none) (T : TypeId) (x y : Operand) (ho : o.op = .store T x y) (g : Nat) (l : List UInt8) (hx : a.eval x = .pointer (some ⟨g, 0, none⟩)) (hy : a.eval y = arrV l)
  (t : TypeId) (k : List UInt8) (hb : Arr w g t k) (hlen : k.length = l.length) (hi : (P.info? T).map (·.size) = some l.length)
  (h : ∀ w', Arr w' g t l → Only [g] w w' → w'.heap.size = w.heap.size → wpList P ops Q rest (a.put o.dst undef) w') : wpList P ops Q (o :: rest) a w :=
 wpList_store_blk hgd T x y ho g 0 (l.map B).toArray hx hy t _ hb (by simp [hlen]) (by simpa using hi) (all_B l) fun w' h1 h2 h3 => h w' (by
  have e : splice (k.map B).toArray 0 (l.map B).toArray.toList = (l.map B).toArray := by
   unfold splice
   simp only [List.take_zero, List.nil_append, Nat.zero_add]
   rw [List.drop_eq_nil_of_le (by simp [hlen]), List.append_nil]
  rw [e] at h1
  exact h1) h2 h3
theorem wpList_copy_arr (hgd : o.guard = none) (d s : Operand) (dT sT : TypeId)
  (ho : o.op = .call { callee := .builtin .copy, args := #[d, s], argTypes := #[dT, sT] }) (elem : TypeId) (hu : P.underlying dT = some (.slice elem)) (hsz : (P.info? elem).map (·.size) = some 1)
  (g off dLen dCap : Nat) (A : Option Addr) (n c : Nat) (hd : a.eval d = .slice (some ⟨g, off, none⟩) dLen dCap) (hs : a.eval s = .slice A n c)
  (t : TypeId) (k : List UInt8) (hb : Arr w g t k) (hfit : off + dLen ≤ k.length) (l : List UInt8) (hx : Bs w A n l)
  (h : ∀ w', Arr w' g t (FuCode.over k off (l.take dLen)) → Only [g] w w' → w'.heap.size = w.heap.size → wpList P ops Q rest (a.put o.dst (goInt ((min n dLen : Nat) : Int))) w') : wpList P ops Q (o :: rest) a w :=
 wpList_copy_blk hgd d s dT sT ho elem hu hsz g off dLen dCap A n c hd hs t _ hb (by simpa using hfit) (l.map B) hx one_B fun w' h1 h2 h3 => h w' (by
  have e : splice (k.map B).toArray off ((l.map B).take dLen) = ((FuCode.over k off (l.take dLen)).map B).toArray := by
   unfold splice FuCode.over
   simp
  rw [e] at h1
  exact h1) h2 h3
theorem wpList_build_zero (hgd : o.guard = none) (T : TypeId) (ho : o.op = .build T #[]) (l : List UInt8) (hz : (P.info? T).map (·.zero) = some (some (arrV l))) (n : Nat) (e : TypeId) (hu : P.underlying T = some (.array n e)) (i : TypeInfo) (he : P.info? e = some i)
  (h : wpList P ops Q rest (a.put o.dst (arrV l)) w) : wpList P ops Q (o :: rest) a w :=
 wpList_plain hgd fun K hK => by
  have hr : (Instr.build T #[]).run P w = .ok (arrV l) w := by
   cases hq : P.info? T with
   | none => simp [hq] at hz
   | some j =>
    simp [hq] at hz
    simp [Instr.build, zeroValue, typeInfo, hq, hz, run_underlying hu, sizeOf, he, Instr.fill]
    rfl
  unfold Oper.wp
  simp only [execOp, ho, List.map_toArray, List.map_nil, Sem.run_bind, hr, Result.andThen_ok, Sem.run_pure]
  exact hK _ _ h
theorem results_arr_tmp {fn : Func} {p u : Tmp} {ty : TypeId} (h : fn.results = #[.cell p ty, .tmp u]) (tmps : Array Value) (w : World) (g : Nat) (l : List UInt8) (hb : Arr w g ty l)
  (hp : tmps.getD p undef = .pointer (some ⟨g, 0, none⟩)) (n : Nat) (e : TypeId) (hu : P.underlying ty = some (.array n e)) (hi : (P.info? ty).map (·.size) = some l.length) :
  (results fn tmps).run P w = .ok (.tuple #[arrV l, tmps.getD u undef]) w := by
 have hp' : tmps[p]?.getD undef = .pointer (some ⟨g, 0, none⟩) := by simpa using hp
 have hr := run_loadVar_row (P := P) w g ty ty (l.map B).toArray (0, 0) _ hb hu rfl (by simpa using hi)
 simp [results, h, hp', asAddr, hr, arrV]
theorem run_sliceAt_low {T e : TypeId} {N : Nat} (hu : P.underlying T = some (.array N e)) (i : TypeInfo) (he : P.info? e = some i) (hs : i.size = 1) (b off a : Nat) (ha : a < N) (w : World) :
  (Instr.sliceAt T (.pointer (some ⟨b, off, none⟩)) (some (.int .i64 a)) none none).run P w = .ok (.slice (some ⟨b, off + a, none⟩) (N - a) (N - a)) w := by
 have h1 : ¬ N = a := by omega
 have h2 : a ≤ N := by omega
 simp [Instr.sliceAt, Instr.sureAddr, Instr.sliceBounds, Instr.sliceBound, asIntOf, run_underlying hu, sizeOf, typeInfo, he, hs, h1, h2, Addr.add_lit]
theorem run_sliceAt_end {T e : TypeId} {N : Nat} (hu : P.underlying T = some (.array N e)) (i : TypeInfo) (he : P.info? e = some i) (b off : Nat) (w : World) :
  (Instr.sliceAt T (.pointer (some ⟨b, off, none⟩)) (some (.int .i64 N)) none none).run P w = .ok (.slice (some ⟨b, off, none⟩) 0 0) w := by
 have h2 : (0 : Int) ≤ N := by omega
 simp [Instr.sliceAt, Instr.sureAddr, Instr.sliceBounds, Instr.sliceBound, asIntOf, run_underlying hu, sizeOf, typeInfo, he, h2]
/-! ### two arrays of bytes -/
theorem run_eqItems_bytes (d : Nat) (e : TypeId) (i : TypeInfo) (he : P.underlying e = some (.int .u8)) (hi : P.info? e = some i) (hs : i.size = 1) (l k : List UInt8) (w : World) : ∀ is : List Nat, (∀ j ∈ is, j < l.length ∧ j < k.length) →
  (Op.eqItems (d + 1) e 1 (l.map B).toArray (k.map B).toArray is).run P w = .ok (is.all fun j => l[j]? == k[j]?) w
 | [], _ => by simp [Op.eqItems]
 | j :: is, h => by
  obtain ⟨h1, h2⟩ := h j (by simp)
  have ih := run_eqItems_bytes d e i he hi hs l k w is (fun j hj => h j (by simp [hj]))
  have hp : ∀ (m : List UInt8) (hm : j < m.length), (part e (m.map B).toArray (j * 1)).run P w = .ok (B m[j]) w := fun m hm => by
   simp [part, isAgg, run_underlying he, hm]
  simp only [Op.eqItems, Sem.run_bind, hp l h1, hp k h2, Result.andThen_ok]
  rw [show (Op.equalIn (d + 1) e (B l[j]) (B k[j])).run P w = .ok (l[j] == k[j]) w by
   have := run_equalIn_int (P := P) w d e .u8 .u8 (l[j].toNat : Int) (k[j].toNat : Int) he
   unfold B
   rw [this]
   congr 1
   rw [Bool.eq_iff_iff, beq_iff_eq, beq_iff_eq]
   exact ⟨fun h => UInt8.toNat_inj.1 (Int.ofNat.inj h), fun h => by rw [h]⟩]
  simp only [Result.andThen_ok, List.all_cons, List.getElem?_eq_getElem h1, List.getElem?_eq_getElem h2]
  by_cases hq : l[j] = k[j]
  ·simp [hq, ih]
  ·simp [hq]
theorem all_same (l k : List UInt8) (n : Nat) (hl : l.length = n) (hk : k.length = n) : ((List.range n).all fun j => l[j]? == k[j]?) = (l == k) := by
 rw [Bool.eq_iff_iff, List.all_eq_true, beq_iff_eq]
 constructor
 ·intro h
  apply List.ext_getElem?
  intro i
  by_cases hi : i < n
  ·simpa using h i (by simpa using hi)
  ·rw [List.getElem?_eq_none (by omega), List.getElem?_eq_none (by omega)]
 ·rintro rfl
  simp
theorem run_equalIn_arr (d : Nat) {T e : TypeId} {n : Nat} (hu : P.underlying T = some (.array n e)) (he : P.underlying e = some (.int .u8)) (i : TypeInfo) (hi : P.info? e = some i) (hs : i.size = 1) (l k : List UInt8) (hl : l.length = n) (hk : k.length = n) (w : World) :
  (Op.equalIn (d + 2) T (arrV l) (arrV k)).run P w = .ok (l == k) w := by
 unfold arrV
 rw [run_equalIn_array w (d + 1) _ _ hu hi, show P.cellsOf e = 1 by simp [Program.cellsOf, hi, hs], run_eqItems_bytes d e i he hi hs l k w _ (fun j hj => by have := List.mem_range.1 hj; omega), all_same l k n hl hk]
theorem run_neq_arr {T e : TypeId} {n : Nat} (hu : P.underlying T = some (.array n e)) (he : P.underlying e = some (.int .u8)) (i : TypeInfo) (hi : P.info? e = some i) (hs : i.size = 1) (l k : List UInt8) (hl : l.length = n) (hk : k.length = n) (w : World) :
  (binOp .neq T (arrV l) (arrV k)).run P w = .ok (.bool (l != k)) w := by
 unfold arrV
 rw [run_neq_struct]
 have := run_equalIn_arr 9998 hu he i hi hs l k hl hk w
 unfold arrV at this
 rw [this]
 rfl
/-! ### a region that draws its order and only makes memory: one walk in the text's order -/
structure Later (w0 : World) where
 w : World
 only : Only [] w0 w
instance (w0 : World) : Nonempty (Later w0) := ⟨⟨w0, Only.refl _ _⟩⟩
theorem wp_region_later {id : Nat} {Q : Exit → Act → World → Prop} {a : Act} (w : World) {l : List Oper} (hm : P.follows .mixedOrders = true) (hB : Region.lexB .any l.toArray = true)
  (h : wpQuiet P l.toArray (fun w' => ∃ p : Later w, w' = p.w) (fun a' => ∀ w', (∃ p : Later w, w' = p.w) → Q .normal a' w') l a) : (Code.region id l.toArray true).wp P Q a w :=
 wp_region_quiet (C := fun w' => ∃ p : Later w, w' = p.w) hm hB ⟨⟨w.drew, (Only.refl _ _).drew⟩, rfl⟩ (by simpa using h)
theorem Calls.later {w0 : World} {p : Later w0} {f : FuncId} {args : Array Value} {v : Value} (h : Calls P f args p.w fun e w' => e = .returned v ∧ Only [] p.w w') :
  Calls P f args p.w fun e w'' => e = .returned v ∧ ∃ q : Later w0, w'' = q.w :=
 h.mono fun _ w' ⟨he, ho⟩ => ⟨he, ⟨w', p.only.trans0 ho⟩, rfl⟩
theorem Calls.later_same {w0 : World} {p : Later w0} {f : FuncId} {args : Array Value} {v : Value} (h : Calls P f args p.w fun e w' => e = .returned v ∧ p.w = w') :
  Calls P f args p.w fun e w'' => e = .returned v ∧ ∃ q : Later w0, w'' = q.w :=
 h.mono fun _ _ ⟨he, ho⟩ => ⟨he, p, ho.symm⟩
theorem Later.cell {w0 : World} (p : Later w0) {b o : Nat} {v : Value} (h : w0.cell? ⟨b, o, none⟩ = some v) : p.w.cell? ⟨b, o, none⟩ = some v := by
 have hlt := lt_of_cell h
 rw [cell_only p.only hlt (by simp)]
 exact h
theorem later_load_arr {w0 : World} (T : TypeId) (b off : Nat) (l : List UInt8) (hc : Bs w0 (some ⟨b, off, none⟩) l.length l) (n : Nat) (e : TypeId) (hu : P.underlying T = some (.array n e)) (hi : (P.info? T).map (·.size) = some l.length)
  (p : Later w0) : (Instr.loadAt T (.pointer (some ⟨b, off, none⟩))).run P p.w = .ok (arrV l) p.w :=
 run_loadAt_mid p.w b off T (l.map B) _ (Sl.range (hc.only0 p.only)) hu rfl (by simpa using hi)
theorem later_load {w0 : World} {Q : Act → Prop} (hw : Region.wanted o (yielded ops a.tmps) = true) (T : TypeId) (x : Operand) (ho : o.op = .load T x) (b off : Nat) (hx : a.eval x = .pointer (some ⟨b, off, none⟩)) (l : List UInt8)
  (hc : Bs w0 (some ⟨b, off, none⟩) l.length l) (n : Nat) (e : TypeId) (hu : P.underlying T = some (.array n e)) (hi : (P.info? T).map (·.size) = some l.length)
  (h : wpQuiet P ops (fun w' => ∃ p : Later w0, w' = p.w) Q rest (a.put o.dst (arrV l))) : wpQuiet P ops (fun w' => ∃ p : Later w0, w' = p.w) Q (o :: rest) a :=
 wpQuiet_step fun K hK => by
  rw [if_pos hw]
  refine ⟨arrV l, fun w' ⟨p, hp⟩ => ?_, hK _ h⟩
  subst hp
  unfold Oper.quietAt execOp
  simp only [ho, hx, Sem.run_bind, later_load_arr T b off l hc n e hu hi p, Result.andThen_ok, Sem.run_pure]
  exact ⟨rfl, rfl⟩
theorem eqGuard_arr {T : TypeId} (hm : P.eqGuardType P.depth T = false) (op : BinOp) (x y : Operand) (l k : List UInt8) (w : World) : (eqGuard op T x y (arrV l) (arrV k)).run P w = .ok () w :=
 run_eqGuard_agg (P := P) w op T x y _ _ hm
end
end Go.Proofs.FuMem
namespace Go.Proofs.FuMem
open Go.RowKit
section
variable {P : Program} (w : World)
theorem run_append_k (base : Nat) (t ty e : TypeId) (i : TypeInfo) (z : Value) (size bytes : Nat) (ht : P.underlying t = some (.slice e)) (hi : P.info? e = some i) (hz : i.zero = some z)
  (hsize : i.size = size) (hby : i.bytes = bytes) (hzs : z.cells.size = size) (hsz : 0 < size)
  (v : Value) (n : Nat) (xs : List Value) (hown : w.ownsRow base e size v n xs)
  (A : Option Addr) (m c : Nat) (news : List Value) (hr : Sl w A (m * size) news) (h1 : ∀ u ∈ news, u.oneCell' = true)
  (h63 : n + m ≤ maxLen) (hbytes : (n + m) * bytes ≤ 140737488355328) (hbase : base ≤ w.heap.size) :
  ∃ v' w', (Builtin.append_ #[t, t] ty #[v, .slice A m c]).run P w = .ok v' w' ∧ w'.ownsRow base e size v' (n + m) (xs ++ news) ∧ w.grownBy w' v.ownBlock ∧
   (v'.ownBlock = v.ownBlock ∨ v'.ownBlock = some w.heap.size) := by
 rcases Nat.eq_zero_or_pos m with rfl | hm
 ·have hn : news = [] := List.eq_nil_of_length_eq_zero (by rw [hr.1, Nat.zero_mul])
  subst hn
  have := run_append_of_nil (P := P) w base t ty e i size ht hi v n xs hown A c
  exact ⟨v, w, this, by simpa using hown, ⟨rfl, rfl, rfl, Nat.le_refl _, fun _ _ _ => rfl⟩, .inl rfl⟩
 ·have hpos : 0 < m * size := Nat.mul_pos hm hsz
  rcases hr.2 with h0 | ⟨b, off, rfl, hcell⟩
  ·omega
  ·have hl := hr.1
   obtain ⟨v', w', hrun, h2, h3, _, h5⟩ := run_append_own_at (P := P) w base t ty e i z size bytes ht hi hz hsize hby hzs hsz v n xs hown ⟨b, off, none⟩ m c news hl (fun j u hj => by
    have hjl := (List.getElem?_eq_some_iff.1 hj).1
    rw [Addr.add_lit, hcell j (by omega)]
    exact hj) h1 h63 hbytes hbase
   exact ⟨v', w', hrun, h2, h3, h5⟩
end
structure RowS (e : TypeId) (k : Nat) (w : World) (v : Value) (xs : List (List Value)) : Prop where
 row : w.ownsRow 0 e k v xs.length xs.flatten
 len : ∀ x ∈ xs, x.length = k
section
variable {e : TypeId} {k : Nat} {w w' : World} {v : Value} {xs : List (List Value)} {S : List Nat}
theorem RowS.nil (e : TypeId) (k : Nat) (w : World) : RowS e k w (.slice none 0 0) [] := ⟨own_nil w 0 e k, fun _ h => by cases h⟩
theorem RowS.lt (h : RowS e k w v xs) : ∀ b, v.ownBlock = some b → b < w.heap.size := fun b hb => (h.row.lt b hb).2
theorem RowS.only (h : RowS e k w v xs) (ho : Only S w w') (hs : ∀ b, v.ownBlock = some b → b ∉ S) : RowS e k w' v xs := ⟨own_only h.row ho hs, h.len⟩
theorem RowS.only0 (h : RowS e k w v xs) (ho : Only [] w w') : RowS e k w' v xs := h.only ho (by simp)
theorem RowS.slice (h : RowS e k w v xs) : ∃ A c, v = .slice A xs.length c ∧ xs.length ≤ c ∧ c ≤ maxLen := by
 rcases h.row.2 with ⟨rfl, h0⟩ | ⟨g, cap, cur, rfl, _, _, hc, hm, _⟩
 ·exact ⟨none, 0, by rw [h0], by omega, Nat.zero_le _⟩
 ·exact ⟨_, cap, rfl, hc, hm⟩
theorem flatten_len {xs : List (List Value)} (h : ∀ x ∈ xs, x.length = k) : xs.flatten.length = xs.length * k := by
 induction xs with
 | nil => simp
 | cons x xs ih =>
  rw [List.flatten_cons, List.length_append, h x (by simp), ih fun y hy => h y (by simp [hy]), List.length_cons, Nat.succ_mul]
  omega
theorem RowS.sl {A : Option Addr} {n c : Nat} (h : RowS e k w (.slice A n c) xs) : n = xs.length ∧ Sl w A (n * k) xs.flatten := by
 rcases h.row.2 with ⟨hv, h0⟩ | ⟨g, cap, cur, hv, _, hg, hc, hm, hsz, htk⟩
 ·cases hv
  have : xs = [] := List.eq_nil_of_length_eq_zero h0
  subst this
  simp only [List.length_nil, Nat.zero_mul, List.flatten_nil, true_and]
  exact Sl.nil _ _
 ·cases hv
  refine ⟨rfl, ?_⟩
  have hb : Blk w g e cur := hg
  have hle : xs.length * k ≤ c * k := Nat.mul_le_mul_right _ hc
  exact Sl.of_blk hb 0 (by rw [List.drop_zero, htk]) (by omega)
theorem flatten_at {xs : List (List Value)} (h : ∀ x ∈ xs, x.length = k) {i j : Nat} (hj : j < k) (hi : i < xs.length) : xs.flatten[i * k + j]? = (xs[i])[j]? := by
 induction xs generalizing i with
 | nil => simp at hi
 | cons x xs ih =>
  have hx := h x (by simp)
  cases i with
  | zero =>
   rw [List.flatten_cons, Nat.zero_mul, Nat.zero_add, List.getElem?_append_left (by omega)]
   rfl
  | succ i =>
   rw [List.flatten_cons, List.getElem?_append_right (by rw [hx, Nat.succ_mul]; omega), hx, show (i + 1) * k + j - k = i * k + j by rw [Nat.succ_mul]; omega]
   exact ih (fun y hy => h y (by simp [hy])) (by simpa using hi)
theorem RowS.cell {A : Option Addr} {n c : Nat} (h : RowS e k w (.slice A n c) xs) {i : Nat} (hi : i < xs.length) : ∃ g, A = some ⟨g, 0, none⟩ ∧ ∀ j, j < k → w.cell? ⟨g, i * k + j, none⟩ = (xs[i])[j]? := by
 rcases h.row.2 with ⟨hv, h0⟩ | ⟨g, cap, cur, hv, _, hg, hc, hm, hsz, htk⟩
 ·omega
 ·cases hv
  refine ⟨g, rfl, fun j hj => ?_⟩
  have hb : Blk w g e cur := hg
  have hlt : i * k + j < xs.length * k := by
   have : (i + 1) * k ≤ xs.length * k := Nat.mul_le_mul_right _ hi
   rw [Nat.succ_mul] at this
   omega
  have hle : xs.length * k ≤ c * k := Nat.mul_le_mul_right _ hc
  have hf := flatten_at h.len hj hi
  rw [← htk, List.getElem?_take_of_lt hlt] at hf
  rw [hb.cell, ← hf, Array.getElem?_toList]
theorem RowS.frozen {g n c : Nat} (h : RowS e k w (.slice (some ⟨g, 0, none⟩) n c) xs) (j : Nat) : w.frozen? ⟨g, j, none⟩ = false := by
 rcases h.row.2 with ⟨hv, h0⟩ | ⟨g, cap, cur, hv, _, hg, hc, hm, hsz, htk⟩
 ·cases hv
 ·cases hv
  have hb : Blk w g e cur := hg
  exact hb.frozen j
theorem RowS.push {P : Program} (h : RowS e k w v xs) (t ty : TypeId) (i : TypeInfo) (z : Value) (bytes : Nat) (ht : P.underlying t = some (.slice e)) (hi : P.info? e = some i) (hz : i.zero = some z)
  (hsize : i.size = k) (hby : i.bytes = bytes) (hzs : z.cells.size = k) (hsz : 0 < k) (A : Option Addr) (c : Nat) (x : List Value) (hr : Sl w A k x) (h1 : ∀ u ∈ x, u.oneCell' = true)
  (h63 : xs.length + 1 ≤ maxLen) (hbytes : (xs.length + 1) * bytes ≤ 140737488355328) :
  ∃ v' w', (Builtin.append_ #[t, t] ty #[v, .slice A 1 c]).run P w = .ok v' w' ∧ RowS e k w' v' (xs ++ [x]) ∧ Only v.ownBlock.toList w w' ∧ (v'.ownBlock = v.ownBlock ∨ v'.ownBlock = some w.heap.size) := by
 obtain ⟨v', w', hrun, h2, h3, h5⟩ := run_append_k (P := P) w 0 t ty e i z k bytes ht hi hz hsize hby hzs hsz v xs.length xs.flatten h.row A 1 c x (by rw [Nat.one_mul]; exact hr) h1 h63 hbytes (Nat.zero_le _)
 refine ⟨v', w', hrun, ⟨by simpa using h2, fun y hy => ?_⟩, Only.of_grown h3 (fun b hb => .inl (by rw [hb]; simp)), h5⟩
 rcases List.mem_append.1 hy with hy | hy
 ·exact h.len y hy
 ·rw [List.mem_singleton.1 hy]
  exact hr.1
end
theorem madeCells_rows (c : List Value) (n : Nat) (_hc : 0 < c.length) : madeCells c.toArray (n * c.length) = (List.replicate n c).flatten.toArray := by
 have h : ∀ n, (List.range (n * c.length)).map (fun i => c.toArray[i % c.toArray.size]!) = (List.replicate n c).flatten := by
  intro n
  induction n with
  | zero => simp
  | succ n ih =>
   rw [Nat.succ_mul, List.range_add, List.map_append, ih, List.replicate_succ', List.flatten_append]
   congr 1
   simp only [List.map_map, List.flatten_cons, List.flatten_nil, List.append_nil]
   apply List.ext_getElem
   ·simp
   ·intro i h1 h2
    simp only [List.getElem_map, List.getElem_range, Function.comp, List.size_toArray]
    have e : (n * c.length + i) % c.length = i := by rw [Nat.mul_comm, Nat.mul_add_mod, Nat.mod_eq_of_lt h2]
    rw [e]
    simp [h2]
 unfold madeCells
 rw [← h n]
 apply Array.ext'
 simp
theorem make_rows {P : Program} {w : World} (t e : TypeId) (i : TypeInfo) (z : Value) (c : List Value) (ht : P.underlying t = some (.slice e)) (hi : P.info? e = some i) (hz : i.zero = some z) (hsize : i.size = c.length) (hz1 : z.cells = c.toArray) (hc : 0 < c.length)
  (kl kc : IntKind) (l m : Nat) (hlm : l ≤ m) (hbytes : i.bytes * m ≤ 281474976710656) (h63 : m ≤ 9223372036854775807) :
  ∃ w', (Instr.makeSlice t (.int kl (l : Int)) (.int kc (m : Int))).run P w = .ok (.slice (some ⟨w.heap.size, 0, none⟩) l m) w' ∧
   Blk w' w.heap.size e (List.replicate m c).flatten.toArray ∧ Only [] w w' ∧ w'.heap.size = w.heap.size + 1 := by
 have hb : (i.bytes : Int) * (m : Int) ≤ 281474976710656 := by
  have h : ((i.bytes * m : Nat) : Int) ≤ 281474976710656 := by omega
  rwa [Int.natCast_mul] at h
 have hr := run_make (P := P) w t e i z ht hi hz kl kc l m (by omega) (by omega) hb (by omega)
 simp only [Int.toNat_natCast] at hr
 rw [hsize, hz1, madeCells_rows c m hc] at hr
 exact ⟨_, hr, Blk.new _ _ _, (Only.refl _ _).alloc _, by simp⟩
theorem flatten_ones (n : Nat) (v : Value) : (List.replicate n [v]).flatten = List.replicate n v := by
 induction n with
 | zero => rfl
 | succ n ih => rw [List.replicate_succ, List.flatten_cons, ih, List.replicate_succ]; rfl
theorem RowS.made {e : TypeId} {k : Nat} {w : World} {g m : Nat} {c : List Value} (h : Blk w g e (List.replicate m c).flatten.toArray) (hc : c.length = k) (hm : m ≤ maxLen) : RowS e k w (.slice (some ⟨g, 0, none⟩) 0 m) [] := by
 refine ⟨⟨by simp, .inr ⟨g, m, _, rfl, Nat.zero_le _, h, Nat.zero_le _, hm, ?_, by simp⟩⟩, fun _ h => by cases h⟩
 rw [List.size_toArray, List.length_flatten, List.map_replicate, List.sum_replicate_nat, hc]
theorem RowS.append {e : TypeId} {k : Nat} {w : World} {v : Value} {xs : List (List Value)} {P : Program} (h : RowS e k w v xs) (t ty : TypeId) (i : TypeInfo) (z : Value) (bytes : Nat) (ht : P.underlying t = some (.slice e)) (hi : P.info? e = some i) (hz : i.zero = some z)
  (hsize : i.size = k) (hby : i.bytes = bytes) (hzs : z.cells.size = k) (hsz : 0 < k) (A : Option Addr) (m c : Nat) (ys : List (List Value)) (hr : Sl w A (m * k) ys.flatten) (hl : ys.length = m) (hy : ∀ y ∈ ys, y.length = k ∧ ∀ u ∈ y, u.oneCell' = true)
  (h63 : xs.length + m ≤ maxLen) (hbytes : (xs.length + m) * bytes ≤ 140737488355328) :
  ∃ v' w', (Builtin.append_ #[t, t] ty #[v, .slice A m c]).run P w = .ok v' w' ∧ RowS e k w' v' (xs ++ ys) ∧ Only v.ownBlock.toList w w' ∧ (v'.ownBlock = v.ownBlock ∨ v'.ownBlock = some w.heap.size) := by
 obtain ⟨v', w', hrun, h2, h3, h5⟩ := run_append_k (P := P) w 0 t ty e i z k bytes ht hi hz hsize hby hzs hsz v xs.length xs.flatten h.row A m c ys.flatten hr (fun u hu => by
  obtain ⟨y, hyy, huy⟩ := List.mem_flatten.1 hu
  exact (hy y hyy).2 u huy) h63 hbytes (Nat.zero_le _)
 refine ⟨v', w', hrun, ⟨by rw [List.length_append, hl, List.flatten_append]; exact h2, fun y hyy => ?_⟩, Only.of_grown h3 (fun b hb => .inl (by rw [hb]; simp)), h5⟩
 rcases List.mem_append.1 hyy with hyy | hyy
 ·exact h.len y hyy
 ·exact (hy y hyy).1
theorem wp_append_run {P : Program} {o : Oper} {a : Act} {w : World} {K : Act → World → Prop} {Q : Exit → Act → World → Prop} (s x : Operand) (t : TypeId)
  (ho : o.op = .call { callee := .builtin .append, args := #[s, x], argTypes := #[t, t] }) (v u : Value) (hs : a.eval s = v) (hx : a.eval x = u) (v' : Value) (w' : World)
  (hrun : (Builtin.append_ #[t, t] o.type #[v, u]).run P w = .ok v' w') (h : K (a.put o.dst v') w') : o.wp P a w K Q := by
 unfold Oper.wp execOp
 simp only [ho, resolve, invoke, builtin, Sem.run_bind, Sem.run_pure, Result.andThen_ok, List.map_toArray, List.map_cons, List.map_nil, hs, hx, hrun]
 exact h
theorem draw_only {w wd : World} (h : ({ w with drawn := w.drawn + 1 } : World) = wd) : Only [] w wd := by subst h; exact (Only.refl _ _).drew
theorem map_add0 (A : Option Addr) (k : Nat) : A.map (fun x => x.add (0 * k)) = A := by
 cases A with
 | none => rfl
 | some a => simp [Addr.add]
theorem run_slice_from0 {P : Program} {t e : TypeId} (ht : P.underlying t = some (.slice e)) {i : TypeInfo} (hi : P.info? e = some i) (A : Option Addr) (n c : Nat) (w : World) : (Instr.slice t (.slice A n c) (some (.int .i64 0)) none none).run P w = .ok (.slice A n c) w := by
 have h := map_add0 A i.size
 rw [Nat.zero_mul] at h
 simp [Instr.slice, Instr.sliceBounds, Instr.sliceBound, asIntOf, run_underlying ht, sizeOf, typeInfo, hi, h]
theorem run_slice_to0 {P : Program} {t e : TypeId} (ht : P.underlying t = some (.slice e)) {i : TypeInfo} (hi : P.info? e = some i) (A : Option Addr) (n c : Nat) (w : World) : (Instr.slice t (.slice A n c) none (some (.int .i64 0)) none).run P w = .ok (.slice A 0 c) w := by
 have h := map_add0 A i.size
 rw [Nat.zero_mul] at h
 simp [Instr.slice, Instr.sliceBounds, Instr.sliceBound, asIntOf, run_underlying ht, sizeOf, typeInfo, hi, h]
theorem RowS.blk' {e : TypeId} {k : Nat} {w : World} {g n c : Nat} {xs : List (List Value)} (h : RowS e k w (.slice (some ⟨g, 0, none⟩) n c) xs) : ∃ cur, Blk w g e cur ∧ n = xs.length ∧ n ≤ c ∧ c ≤ maxLen ∧ cur.size = c * k ∧ cur.toList.take (n * k) = xs.flatten := by
 rcases h.row.2 with ⟨hv, h0⟩ | ⟨b, cap, cur, hv, _, hg, hcc, hcm, hcs, htk⟩
 ·cases hv
 injection hv with h1 h2 h3
 injection h1 with h1
 injection h1 with h1
 subst h1 h2 h3
 exact ⟨cur, hg, rfl, hcc, hcm, hcs, htk⟩
theorem ownsRow_zero {W : World} {base : Nat} {e : TypeId} {size : Nat} {v : Value} {k : Nat} {xs : List Value} (h : W.ownsRow base e size v k xs) : W.ownsRow 0 e size v k xs := by
 refine ⟨h.1, ?_⟩
 rcases h.2 with hn | ⟨g, cap, cur, hv, _, rest⟩
 ·exact .inl hn
 ·exact .inr ⟨g, cap, cur, hv, Nat.zero_le _, rest⟩
/-! ### structures of several parts -/
abbrev Comp := World → List Nat → Prop
structure Comp.Fit (X : Comp) : Prop where
 lt : ∀ {w F}, X w F → ∀ b ∈ F, b < w.heap.size
 keep : ∀ {w w' F S}, X w F → Only S w w' → (∀ b ∈ F, b ∉ S) → X w' F
def Star : List Comp → World → List (List Nat) → Prop
 | [], _, [] => True
 | X :: Xs, w, F :: Fs => X w F ∧ Star Xs w Fs
 | _, _, _ => False
theorem Star.lt : ∀ {Xs : List Comp} {w : World} {Fs : List (List Nat)}, (∀ X ∈ Xs, X.Fit) → Star Xs w Fs → ∀ b ∈ Fs.flatten, b < w.heap.size
 | [], _, [], _, _, b, hb => by simp at hb
 | X :: Xs, w, F :: Fs, hf, h, b, hb => by
  rw [List.flatten_cons, List.mem_append] at hb
  rcases hb with hb | hb
  ·exact (hf X (by simp)).lt h.1 b hb
  ·exact Star.lt (fun Y hY => hf Y (by simp [hY])) h.2 b hb
theorem Star.keep : ∀ {Xs : List Comp} {w w' : World} {Fs : List (List Nat)} {S : List Nat}, (∀ X ∈ Xs, X.Fit) → Star Xs w Fs → Only S w w' → (∀ b ∈ Fs.flatten, b ∉ S) → Star Xs w' Fs
 | [], _, _, [], _, _, _, _, _ => trivial
 | X :: Xs, w, w', F :: Fs, S, hf, h, ho, hs => by
  refine ⟨(hf X (by simp)).keep h.1 ho fun b hb => hs b (by simp [hb]), Star.keep (fun Y hY => hf Y (by simp [hY])) h.2 ho fun b hb => hs b ?_⟩
  rw [List.flatten_cons]
  exact List.mem_append_right _ hb
def Whole (Xs : List Comp) (w : World) (Fs : List (List Nat)) : Prop := Star Xs w Fs ∧ Fs.flatten.Nodup
theorem Whole.lt {Xs : List Comp} {w : World} {Fs : List (List Nat)} (h : Whole Xs w Fs) (hf : ∀ X ∈ Xs, X.Fit) : ∀ b ∈ Fs.flatten, b < w.heap.size := Star.lt hf h.1
theorem Whole.keep {Xs : List Comp} {w w' : World} {Fs : List (List Nat)} {S : List Nat} (h : Whole Xs w Fs) (hf : ∀ X ∈ Xs, X.Fit) (ho : Only S w w') (hs : ∀ b ∈ Fs.flatten, b ∉ S) : Whole Xs w' Fs := ⟨Star.keep hf h.1 ho hs, h.2⟩
theorem Whole.keep0 {Xs : List Comp} {w w' : World} {Fs : List (List Nat)} (h : Whole Xs w Fs) (hf : ∀ X ∈ Xs, X.Fit) (ho : Only [] w w') : Whole Xs w' Fs := h.keep hf ho (by simp)
end Go.Proofs.FuMem
namespace Go.Proofs.FuCrc
def cbit (c : Nat) : Nat := if c % 2 = 0 then c / 2 else (c / 2) ^^^ 3988292384
def cbits : Nat → Nat → Nat
 | 0, c => c
 | n + 1, c => cbits n (cbit c)
def cstep (c x : Nat) : Nat := cbits 8 (c ^^^ x)
def cfold (c : Nat) (l : List UInt8) : Nat := l.foldl (fun c x => cstep c x.toNat) c
def cadd (c : Nat) (l : List UInt8) : Nat := cfold (c ^^^ 4294967295) l ^^^ 4294967295
def crc (l : List UInt8) : Nat := cadd 0 l
theorem xor_lt {a b : Nat} (ha : a < 4294967296) (hb : b < 4294967296) : a ^^^ b < 4294967296 := Nat.xor_lt_two_pow (n := 32) ha hb
theorem cbit_lt {c : Nat} (h : c < 4294967296) : cbit c < 4294967296 := by
 unfold cbit
 split
 ·omega
 ·exact xor_lt (by omega) (by omega)
theorem cbits_succ (n c : Nat) : cbits (n + 1) c = cbit (cbits n c) := by
 induction n generalizing c with
 | zero => rfl
 | succ n ih => rw [cbits, ih, cbits]
theorem cbits_lt (n : Nat) {c : Nat} (h : c < 4294967296) : cbits n c < 4294967296 := by
 induction n generalizing c with
 | zero => exact h
 | succ n ih => exact ih (cbit_lt h)
theorem cstep_lt {c x : Nat} (h : c < 4294967296) (hx : x < 256) : cstep c x < 4294967296 := cbits_lt 8 (xor_lt h (by omega))
theorem byte_lt (x : UInt8) : x.toNat < 256 := x.toNat_lt
theorem cfold_lt (l : List UInt8) {c : Nat} (h : c < 4294967296) : cfold c l < 4294967296 := by
 unfold cfold
 induction l generalizing c with
 | nil => exact h
 | cons x l ih => exact ih (cstep_lt h (byte_lt x))
theorem cfold_append (c : Nat) (a b : List UInt8) : cfold c (a ++ b) = cfold (cfold c a) b := by simp [cfold]
theorem cfold_snoc (c : Nat) (a : List UInt8) (x : UInt8) : cfold c (a ++ [x]) = cstep (cfold c a) x.toNat := by simp [cfold]
theorem cfold_take (c : Nat) (l : List UInt8) (k : Nat) (h : k < l.length) : cfold c (l.take (k + 1)) = cstep (cfold c (l.take k)) l[k].toNat := by
 rw [List.take_succ_eq_append_getElem h, cfold_snoc]
theorem cadd_lt (l : List UInt8) {c : Nat} (h : c < 4294967296) : cadd c l < 4294967296 := xor_lt (cfold_lt l (xor_lt h (by omega))) (by omega)
theorem crc_lt (l : List UInt8) : crc l < 4294967296 := cadd_lt l (by omega)
theorem cadd_append (c : Nat) (a b : List UInt8) : cadd c (a ++ b) = cadd (cadd c a) b := by
 unfold cadd
 rw [cfold_append, Nat.xor_assoc, Nat.xor_self, Nat.xor_zero]
theorem crc_append (a b : List UInt8) : crc (a ++ b) = cadd (crc a) b := cadd_append 0 a b
end Go.Proofs.FuCrc
namespace Go.Proofs.FuClass
def span (c : Int) : Nat := if c = 0 then 1 else if c = 1 then 2 else if c = 2 then 4 else if c = 3 then 8 else 0
def capOf (c : Int) : Int := if span c = 0 then 0 else 28 + 63 * ((span c : Int) - 1)
def need (n : Int) : Int := if n < 0 then -1 else if n ≤ 28 then 0 else if n ≤ 91 then 1 else if n ≤ 217 then 2 else if n ≤ 469 then 3 else -1
def slab (k : Int) : Int := if k < 0 ∨ 31 < k then -1 else 2 + 8 * k
def slabOf (line : Int) : Int := if line < 2 ∨ 258 ≤ line then -1 else (line - 2) / 8
def startsTo (f : Int) (s i : Nat) : List Int := (List.range i).map fun j => f + ((j * s : Nat) : Int)
def starts (k c : Int) : List Int := if span c = 0 ∨ slab k < 0 then [] else startsTo (slab k) (span c) (8 / span c)
def home (line c : Int) : Bool := decide (line ∈ starts (slabOf line) c)
theorem span_cases (c : Int) : (c = 0 ∧ span c = 1) ∨ (c = 1 ∧ span c = 2) ∨ (c = 2 ∧ span c = 4) ∨ (c = 3 ∧ span c = 8) ∨ ((c < 0 ∨ 3 < c) ∧ span c = 0) := by
 unfold span
 by_cases h0 : c = 0
 ·simp [h0]
 ·by_cases h1 : c = 1
  ·simp [h1]
  ·by_cases h2 : c = 2
   ·simp [h2]
   ·by_cases h3 : c = 3
    ·simp [h3]
    ·simp [h0, h1, h2, h3]
     omega
theorem span_le (c : Int) : span c ≤ 8 := by have := span_cases c; omega
theorem capOf_val (c : Int) : (span c = 0 ∧ capOf c = 0) ∨ (span c = 1 ∧ capOf c = 28) ∨ (span c = 2 ∧ capOf c = 91) ∨ (span c = 4 ∧ capOf c = 217) ∨ (span c = 8 ∧ capOf c = 469) := by
 unfold capOf
 have := span_cases c
 split <;> omega
theorem capOf_bd (c : Int) : 0 ≤ capOf c ∧ capOf c ≤ 469 := by have := capOf_val c; omega
theorem capOf0 : capOf 0 = 28 := by decide
theorem capOf1 : capOf 1 = 91 := by decide
theorem capOf2 : capOf 2 = 217 := by decide
theorem capOf3 : capOf 3 = 469 := by decide
theorem need_of {n : Int} {k : Nat} (hk : k < 4) (h0 : 0 ≤ n) (hno : ∀ j : Nat, j < k → capOf j < n) (h : n ≤ capOf k) : need n = k := by
 have c0 : capOf ((0 : Nat) : Int) = 28 := capOf0
 have c1 : capOf ((1 : Nat) : Int) = 91 := capOf1
 have c2 : capOf ((2 : Nat) : Int) = 217 := capOf2
 have c3 : capOf ((3 : Nat) : Int) = 469 := capOf3
 have e0 := hno 0
 have e1 := hno 1
 have e2 := hno 2
 rw [c0] at e0
 rw [c1] at e1
 rw [c2] at e2
 unfold need
 obtain rfl | rfl | rfl | rfl : k = 0 ∨ k = 1 ∨ k = 2 ∨ k = 3 := by omega
 ·rw [c0] at h
  repeat' split
  all_goals omega
 ·rw [c1] at h
  repeat' split
  all_goals omega
 ·rw [c2] at h
  repeat' split
  all_goals omega
 ·rw [c3] at h
  repeat' split
  all_goals omega
theorem need_no {n : Int} (h : n < 0 ∨ ∀ j : Nat, j < 4 → capOf j < n) : need n = -1 := by
 unfold need
 rcases h with h | h
 ·rw [if_pos h]
 ·have := h 3 (by omega)
  simp [capOf3] at this
  rw [if_neg (by omega), if_neg (by omega), if_neg (by omega), if_neg (by omega), if_neg (by omega)]
theorem slab_bd (k : Int) : -1 ≤ slab k ∧ slab k ≤ 250 := by
 unfold slab
 split <;> omega
theorem slabOf_bd (l : Int) : -1 ≤ slabOf l ∧ slabOf l ≤ 31 := by
 unfold slabOf
 split <;> omega
theorem startsTo_length (f : Int) (s i : Nat) : (startsTo f s i).length = i := by simp [startsTo]
theorem startsTo_succ (f : Int) (s i : Nat) : startsTo f s (i + 1) = startsTo f s i ++ [f + ((i * s : Nat) : Int)] := by simp [startsTo, List.range_succ]
theorem starts_length (k c : Int) : (starts k c).length ≤ 8 := by
 unfold starts
 split
 ·simp
 ·rw [startsTo_length]
  exact Nat.div_le_self _ _
def idx (l : List Int) (v : Int) : Int := if v ∈ l then (l.idxOf v : Int) else -1
theorem idx_none {l : List Int} {v : Int} (h : v ∉ l) : idx l v = -1 := if_neg h
theorem idx_some {l : List Int} {v : Int} {k : Nat} (hk : k < l.length) (he : l[k] = v) (hno : ∀ j (h : j < k), l[j]'(by omega) ≠ v) : idx l v = k := by
 unfold idx
 have hm : v ∈ l := he ▸ List.getElem_mem hk
 rw [if_pos hm]
 congr 1
 have h1 := List.getElem_idxOf (List.idxOf_lt_length_iff.2 hm)
 rcases Nat.lt_trichotomy (l.idxOf v) k with h | h | h
 ·exact absurd h1 (hno _ h)
 ·exact h
 ·have := List.not_of_lt_findIdx (xs := l) (p := (· == v)) h
  simp [he] at this
theorem idx_nonneg (l : List Int) (v : Int) : decide (0 ≤ idx l v) = decide (v ∈ l) := by
 unfold idx
 by_cases h : v ∈ l
 ·simp [h]
 ·simp [h]
theorem idx_bd (l : List Int) (v : Int) : -1 ≤ idx l v ∧ idx l v ≤ l.length := by
 unfold idx
 split
 ·have := List.idxOf_le_length (a := v) (l := l)
  omega
 ·omega
end Go.Proofs.FuClass
namespace Go.Proofs.FuBlock
open Go.Proofs.FuCrc Go.Proofs.FuCode Go.Proofs.FuClass
structure Block where
 cls : Int
 kind : Int
 id : Nat
 ver : Nat
 ep : Nat
 key : List UInt8
 val : List UInt8
def u8 (x : Int) : UInt8 := UInt8.ofNat (x % 256).toNat
theorem u8_toNat (x : Int) : ((u8 x).toNat : Int) = x % 256 := by
 unfold u8
 rw [UInt8.toNat_ofNat_of_lt' (by show _ < 256; omega)]
 omega
def capN (c : Int) : Nat := (capOf c).toNat
theorem capN_val (c : Int) : (span c = 0 ∧ capN c = 0) ∨ (1 ≤ span c ∧ span c ≤ 8 ∧ capN c = 28 + 63 * (span c - 1)) := by
 have := capOf_val c
 unfold capN
 omega
def number (v : Nat) : Bool := decide (1 ≤ v) && decide (v ≤ 2305843009213693952)
def may (b : Block) : Bool :=
 decide (0 ≤ b.cls ∧ b.cls ≤ 3) &&
 if b.kind = 0 then decide (b.id = 0 ∧ b.ver = 0 ∧ b.ep = 0 ∧ b.key = [] ∧ b.val = [])
 else (number b.id && number b.ver && number b.ep) &&
  if b.kind = 1 then decide (1 ≤ b.key.length ∧ b.key.length ≤ 16 ∧ b.val.length ≤ 400 ∧ need (b.key.length + b.val.length : Nat) = b.cls)
  else if b.kind = 2 then decide (b.key.length = 0 ∧ b.val.length ≤ 400 ∧ need (b.key.length + b.val.length : Nat) = b.cls)
  else if b.kind = 3 then decide (b.key.length = 0 ∧ b.val.length = 0 ∧ b.cls = 0)
  else false
theorem need_fits {n : Nat} {c : Int} (h : need (n : Int) = c) (h0 : 0 ≤ c) : n ≤ capN c := by
 have hv := capOf_val c
 have hs := span_cases c
 unfold need at h
 unfold capN
 repeat' split at h
 all_goals omega
structure Fine (b : Block) : Prop where
 c0 : 0 ≤ b.cls
 c3 : b.cls ≤ 3
 k0 : 0 ≤ b.kind
 k3 : b.kind ≤ 3
 id : b.id < 18446744073709551616
 ver : b.ver < 18446744073709551616
 ep : b.ep < 18446744073709551616
 key : b.key.length ≤ 16
 val : b.val.length ≤ 400
 fit : b.key.length + b.val.length ≤ capN b.cls
theorem number_lt {v : Nat} (h : number v = true) : v < 18446744073709551616 := by
 unfold number at h
 simp at h
 omega
theorem fine_of {b : Block} (h : may b = true) : Fine b := by
 unfold may at h
 rw [Bool.and_eq_true, decide_eq_true_eq] at h
 obtain ⟨⟨h1, h2⟩, h⟩ := h
 split at h
 ·rename_i hk
  rw [decide_eq_true_eq] at h
  obtain ⟨a, b', c, d, e⟩ := h
  refine ⟨h1, h2, by omega, by omega, by omega, by omega, by omega, by rw [d]; simp, by rw [e]; simp, by rw [d, e]; simp⟩
 ·rw [Bool.and_eq_true, Bool.and_eq_true, Bool.and_eq_true] at h
  obtain ⟨⟨⟨n1, n2⟩, n3⟩, h⟩ := h
  have m1 := number_lt n1
  have m2 := number_lt n2
  have m3 := number_lt n3
  split at h
  ·rename_i hk
   rw [decide_eq_true_eq] at h
   obtain ⟨a, b', c, d⟩ := h
   exact ⟨h1, h2, by omega, by omega, m1, m2, m3, b', c, need_fits d h1⟩
  ·split at h
   ·rename_i hk
    rw [decide_eq_true_eq] at h
    obtain ⟨a, c, d⟩ := h
    exact ⟨h1, h2, by omega, by omega, m1, m2, m3, by omega, c, need_fits d h1⟩
   ·split at h
    ·rename_i hk
     rw [decide_eq_true_eq] at h
     obtain ⟨a, c, d⟩ := h
     exact ⟨h1, h2, by omega, by omega, m1, m2, m3, by omega, by omega, by omega⟩
    ·cases h
/-! ### lines -/
def byteAt (h s r : List UInt8) (p : Nat) : UInt8 :=
 if p < 32 then h.getD p 0 else if p < 36 then s.getD (p - 32) 0 else if p < 64 then r.getD (p - 36) 0 else if p % 64 = 0 then 2 else r.getD (28 + 63 * (p / 64 - 1) + (p % 64 - 1)) 0
def laid (h s r : List UInt8) (n : Nat) : List UInt8 := (List.range n).map (byteAt h s r)
def pos (i : Nat) : Nat := if i < 28 then 36 + i else 65 + 64 * ((i - 28) / 63) + (i - 28) % 63
def dataOf (m : Nat) (x : List UInt8) : List UInt8 := (List.range (28 + 63 * (m - 1))).map fun i => x.getD (pos i) 0
theorem laid_length (h s r : List UInt8) (n : Nat) : (laid h s r n).length = n := by simp [laid]
theorem laid_get (h s r : List UInt8) {n p : Nat} (hp : p < n) : (laid h s r n).getD p 0 = byteAt h s r p := by
 simp [laid, List.getD, hp]
theorem laid_at (h s r : List UInt8) {n p : Nat} (hp : p < (laid h s r n).length) : (laid h s r n)[p] = byteAt h s r p := by
 simp [laid]
theorem laid_take (h s r : List UInt8) {n k : Nat} (hk : k ≤ n) : (laid h s r n).take k = laid h s r k := by
 unfold laid
 rw [← List.map_take, List.take_range, Nat.min_eq_left hk]
theorem getD_eq {l : List UInt8} {i : Nat} (hi : i < l.length) : l.getD i 0 = l[i] := by simp [List.getD, hi]
theorem laid_head {h : List UInt8} (hh : h.length = 32) (s r : List UInt8) {n : Nat} (hn : 64 ≤ n) : (laid h s r n).take 32 = h := by
 rw [laid_take h s r (by omega)]
 apply List.ext_getElem
 ·rw [laid_length, hh]
 ·intro i h1 h2
  rw [laid_at]
  unfold byteAt
  rw [if_pos (by omega), getD_eq h2]
/-! ### blocks -/
def head32 (b : Block) : List UInt8 := [1, u8 b.cls, u8 b.kind, u8 b.key.length] ++ lay 2 b.val.length ++ [0, 0] ++ lay 8 b.id ++ lay 8 b.ver ++ lay 8 b.ep
def pad (n : Nat) (l : List UInt8) : List UInt8 := l ++ List.replicate (n - l.length) 0
def room (b : Block) : List UInt8 := pad (capN b.cls) (b.key ++ b.val)
def sumOf (b : Block) : List UInt8 := lay 4 (crc (head32 b ++ room b))
def linesTo (b : Block) (n : Nat) : List UInt8 := laid (head32 b) (sumOf b) (room b) n
def lines (b : Block) : List UInt8 := linesTo b (64 * span b.cls)
theorem head32_length (b : Block) : (head32 b).length = 32 := by simp [head32, lay_length]
theorem pad_length {n : Nat} {l : List UInt8} (h : l.length ≤ n) : (pad n l).length = n := by simp [pad]; omega
theorem room_length {b : Block} (h : b.key.length + b.val.length ≤ capN b.cls) : (room b).length = capN b.cls := pad_length (by simpa using h)
theorem lines_length (b : Block) : (lines b).length = 64 * span b.cls := laid_length _ _ _ _
def nought : Block := ⟨0, 0, 0, 0, 0, [], []⟩
def parse (x : List UInt8) : Block :=
 let d := dataOf (span (x.getD 1 0).toNat) x
 ⟨(x.getD 1 0).toNat, (x.getD 2 0).toNat, num ((x.drop 8).take 8), num ((x.drop 16).take 8), num ((x.drop 24).take 8), d.take (x.getD 3 0).toNat, (d.drop (x.getD 3 0).toNat).take (num ((x.drop 4).take 2))⟩
def reads (x : List UInt8) : Prop := 64 ≤ x.length ∧ x.length = 64 * span (x.getD 1 0).toNat ∧ (x.getD 3 0).toNat + num ((x.drop 4).take 2) ≤ capN (x.getD 1 0).toNat ∧ may (parse x) = true ∧ lines (parse x) = x
instance (x : List UInt8) : Decidable (reads x) := by unfold reads; infer_instance
def dec (x : List UInt8) : Block := if reads x then parse x else nought
theorem span_pos {c : Int} (h0 : 0 ≤ c) (h3 : c ≤ 3) : 1 ≤ span c ∧ span c ≤ 8 := by have := span_cases c; omega
theorem lines_head (b : Block) (h : 1 ≤ span b.cls) : (lines b).take 32 = head32 b := laid_head (head32_length b) _ _ (by omega)
theorem getD_take {x : List UInt8} {a n : Nat} (h : a < n) : (x.take n).getD a 0 = x.getD a 0 := by
 simp only [List.getD, List.getElem?_take, if_pos h]
def isHead (x : List UInt8) : Prop := x.length = 64 ∧ x.getD 0 0 = 1 ∧ (x.getD 1 0).toNat ≤ 3 ∧ (x.getD 2 0).toNat ≤ 3
instance (x : List UInt8) : Decidable (isHead x) := by unfold isHead; infer_instance
theorem reads_head {x : List UInt8} (h : reads x) : isHead (x.take 64) := by
 obtain ⟨h1, _, _, hm, he⟩ := h
 have hf := fine_of hm
 have hs := span_pos hf.c0 hf.c3
 refine ⟨by rw [List.length_take]; omega, ?_, ?_, ?_⟩
 ·rw [getD_take (by omega), ← he, ← getD_take (n := 32) (by omega), lines_head _ hs.1]
  rfl
 ·rw [getD_take (by omega)]
  have := hf.c3
  have c1 : (parse x).cls = ((x.getD 1 0).toNat : Int) := rfl
  omega
 ·rw [getD_take (by omega)]
  have := hf.k3
  have c1 : (parse x).kind = ((x.getD 2 0).toNat : Int) := rfl
  omega
theorem line_at {b : Block} {j : Nat} (hj : j < span b.cls) : (((lines b).drop (64 * j)).take 64).length = 64 ∧ (((lines b).drop (64 * j)).take 64).getD 0 0 = (if j = 0 then 1 else 2) := by
 have hl := lines_length b
 refine ⟨by rw [List.length_take, List.length_drop]; omega, ?_⟩
 simp only [List.getD, List.getElem?_take, List.getElem?_drop, if_pos (show 0 < 64 by omega), Nat.add_zero]
 rw [List.getElem?_eq_getElem (by omega)]
 show (lines b)[64 * j] = _
 unfold lines linesTo
 rw [laid_at]
 by_cases e : j = 0
 ·subst e
  rfl
 ·rw [if_neg e]
  unfold byteAt
  rw [if_neg (by omega), if_neg (by omega), if_neg (by omega), if_pos (by omega)]
end Go.Proofs.FuBlock
namespace Go.Proofs.FuPool
open Go.Proofs.FuClass
structure Slab where
 cls : Int
 taken : List Bool
def Slab.n (s : Slab) : Nat := s.taken.count true
def whole : Slab := ⟨-1, List.replicate 8 false⟩
def many (c : Int) : Nat := 8 / span c
structure Slab.Ok (s : Slab) : Prop where
 len : s.taken.length = 8
 zero : s.n = 0 → s.cls = -1
 busy : s.n ≠ 0 → 0 ≤ s.cls ∧ s.cls ≤ 3
 fits : ∀ k, s.taken[k]? = some true → k < many s.cls
abbrev Pool := List Slab
def Ok (P : Pool) : Prop := ∀ s ∈ P, s.Ok
theorem whole_ok : whole.Ok := ⟨rfl, fun _ => rfl, fun h => absurd rfl h, fun k h => by
 have := List.mem_of_getElem? h
 unfold whole at this
 simp at this⟩
def newPool (n : Nat) : Pool := List.replicate n whole
theorem newPool_ok (n : Nat) : Ok (newPool n) := fun s hs => by rw [(List.mem_replicate.1 hs).2]; exact whole_ok
theorem many_cases (c : Int) : (c = 0 ∧ many c = 8) ∨ (c = 1 ∧ many c = 4) ∨ (c = 2 ∧ many c = 2) ∨ (c = 3 ∧ many c = 1) ∨ ((c < 0 ∨ 3 < c) ∧ many c = 0) := by
 unfold many
 rcases span_cases c with ⟨h, e⟩ | ⟨h, e⟩ | ⟨h, e⟩ | ⟨h, e⟩ | ⟨h, e⟩ <;> rw [e] <;> simp [h]
theorem many_span {c : Int} (h : 0 ≤ c ∧ c ≤ 3) : many c * span c = 8 ∧ 1 ≤ span c ∧ 1 ≤ many c ∧ many c ≤ 8 := by
 unfold many
 rcases span_cases c with ⟨h, e⟩ | ⟨h, e⟩ | ⟨h, e⟩ | ⟨h, e⟩ | ⟨h', e⟩
 ·rw [e]; omega
 ·rw [e]; omega
 ·rw [e]; omega
 ·rw [e]; omega
 ·omega
def Slab.at (s : Slab) (k : Nat) : Bool := s.taken.getD k false
def Slab.free (s : Slab) : Option Nat := (List.range (many s.cls)).find? fun k => !s.at k
def Slab.take (s : Slab) (c : Int) (k : Nat) : Slab := ⟨c, s.taken.set k true⟩
def room? (c : Int) (s : Slab) : Option Nat := if s.cls = c then s.free else none
def findIn (P : Pool) (c : Int) : Option (Nat × Nat) := (List.range P.length).findSome? fun i => ((P[i]?).bind (room? c)).map fun k => (i, k)
def findWhole (P : Pool) : Option Nat := (List.range P.length).find? fun i => decide ((P[i]?).map Slab.cls = some (-1))
def find (P : Pool) (c : Int) : Option (Nat × Nat) := (findIn P c).or ((findWhole P).map fun i => (i, 0))
def lineAt (i k : Nat) (c : Int) : Int := 2 + 8 * (i : Int) + ((k * span c : Nat) : Int)
def takeP (P : Pool) (c : Int) : Pool := if span c = 0 then P else match find P c with | none => P | some (i, k) => P.modify i fun s => s.take c k
def takeA (P : Pool) (c : Int) : Int × Int := if span c = 0 then (0, 1) else match find P c with | none => (0, 4) | some (i, k) => (lineAt i k c, 0)
def blockAt (P : Pool) (line : Int) : Option (Nat × Nat) :=
 if slabOf line < 0 then none else match P[(slabOf line).toNat]? with
 | none => none
 | some s => if idx (starts (slabOf line) s.cls) line < 0 then none else if s.at (idx (starts (slabOf line) s.cls) line).toNat = true then some ((slabOf line).toNat, (idx (starts (slabOf line) s.cls) line).toNat) else none
def ofA (P : Pool) (line : Int) : Int × Bool := match blockAt P line with | none => (0, false) | some (i, _) => (((P[i]?).map Slab.cls).getD 0, true)
def markA (P : Pool) (line c : Int) : Int :=
 if home line c = false ∨ (P.length : Int) ≤ slabOf line then 1 else match P[(slabOf line).toNat]? with
 | none => 1
 | some s => if (s.cls ≠ -1 ∧ s.cls ≠ c) ∨ s.at (idx (starts (slabOf line) c) line).toNat = true then 7 else 0
def markP (P : Pool) (line c : Int) : Pool := if markA P line c = 0 then P.modify (slabOf line).toNat fun s => s.take c (idx (starts (slabOf line) c) line).toNat else P
/-! ### lines and places -/
theorem starts_eq {i : Nat} {c : Int} (hi : i < 32) : starts (i : Int) c = (List.range (many c)).map fun k => lineAt i k c := by
 unfold starts
 by_cases h : span c = 0
 ·rw [if_pos (.inl h)]
  unfold many
  rw [h]
  rfl
 ·have hs : slab (i : Int) = 2 + 8 * (i : Int) := by unfold slab; rw [if_neg (by omega)]
  rw [if_neg (by rw [hs]; omega), hs]
  unfold startsTo many lineAt
  rfl
theorem lineAt_bd {i k : Nat} {c : Int} (hc : 0 ≤ c ∧ c ≤ 3) (hk : k < many c) : 2 + 8 * (i : Int) ≤ lineAt i k c ∧ lineAt i k c + span c ≤ 2 + 8 * (i : Int) + 8 := by
 have h := many_span hc
 unfold lineAt
 have h2 : (k + 1) * span c ≤ many c * span c := Nat.mul_le_mul_right _ hk
 rw [Nat.succ_mul] at h2
 omega
theorem lineAt_inj {i k j : Nat} {c : Int} (hc : 0 ≤ c ∧ c ≤ 3) (h : lineAt i k c = lineAt i j c) : k = j := by
 have hs := many_span hc
 unfold lineAt at h
 have : k * span c = j * span c := by omega
 exact Nat.eq_of_mul_eq_mul_right (by omega) this
theorem idx_starts {i k : Nat} {c : Int} (hi : i < 32) (hc : 0 ≤ c ∧ c ≤ 3) (hk : k < many c) : idx (starts (i : Int) c) (lineAt i k c) = k := by
 rw [starts_eq hi]
 refine idx_some (k := k) (by simpa using hk) (by simp) (fun j hj e => ?_)
 simp only [List.getElem_map, List.getElem_range] at e
 have := lineAt_inj hc e
 omega
theorem idx_mem {i : Nat} {c : Int} {line : Int} (hi : i < 32) (h : 0 ≤ idx (starts (i : Int) c) line) : ∃ k, k < many c ∧ idx (starts (i : Int) c) line = k ∧ line = lineAt i k c ∧ 0 ≤ c ∧ c ≤ 3 := by
 have hm : line ∈ starts (i : Int) c := by
  have := idx_nonneg (starts (i : Int) c) line
  rw [decide_eq_true h] at this
  simpa using this.symm
 rw [starts_eq hi] at hm
 obtain ⟨k, hk, rfl⟩ := List.mem_map.1 hm
 have hk' := List.mem_range.1 hk
 have hc : 0 ≤ c ∧ c ≤ 3 := by
  rcases many_cases c with h | h | h | h | h <;> omega
 exact ⟨k, hk', idx_starts hi hc hk', rfl, hc⟩
/-! ### slabs -/
theorem at_some {s : Slab} {k : Nat} (h : s.at k = true) : s.taken[k]? = some true := by
 unfold Slab.at List.getD at h
 cases hq : s.taken[k]? with
 | none => rw [hq] at h; cases h
 | some b => rw [hq] at h; simp at h; rw [h]
theorem at_of {s : Slab} {k : Nat} (h : s.taken[k]? = some true) : s.at k = true := by unfold Slab.at List.getD; rw [h]; rfl
theorem take_at {s : Slab} (hl : s.taken.length = 8) {c : Int} {k j : Nat} (hk : k < 8) : (s.take c k).at j = (decide (j = k) || s.at j) := by
 unfold Slab.at Slab.take List.getD
 simp only [List.getElem?_set]
 by_cases e : k = j
 ·subst e
  simp [hl, hk]
 ·rw [if_neg e]
  have : decide (j = k) = false := by simpa using fun h => e h.symm
  rw [this, Bool.false_or]
theorem n_pos {s : Slab} {k : Nat} (h : s.at k = true) : 0 < s.n := by
 unfold Slab.n
 exact List.count_pos_iff.2 (List.mem_of_getElem? (at_some h))
theorem n_zero {s : Slab} (h : s.n = 0) (k : Nat) : s.at k = false := by
 by_cases hk : s.at k = true
 ·have := n_pos hk
  omega
 ·simpa using hk
theorem count_set_true {l : List Bool} {k : Nat} (hk : l[k]? = some false) : (l.set k true).count true = l.count true + 1 := by
 obtain ⟨h, e⟩ := List.getElem?_eq_some_iff.1 hk
 rw [List.count_set h, e]
 simp
theorem taken_false {s : Slab} (hl : s.taken.length = 8) {k : Nat} (hk : k < 8) (h : s.at k = false) : s.taken[k]? = some false := by
 unfold Slab.at List.getD at h
 rw [List.getElem?_eq_getElem (by omega)] at h ⊢
 simp at h
 rw [h]
theorem take_ok {s : Slab} (h : s.Ok) {c : Int} {k : Nat} (hc : 0 ≤ c ∧ c ≤ 3) (hk : k < many c) (hf : s.at k = false) (hs : s.cls = -1 ∨ s.cls = c) : (s.take c k).Ok := by
 have hm := many_span hc
 have hn : (s.take c k).n = s.n + 1 := count_set_true (taken_false h.len (by omega) hf)
 refine ⟨by simpa [Slab.take] using h.len, fun h0 => by omega, fun _ => hc, fun j hj => ?_⟩
 have h1 := at_of hj
 rw [take_at h.len (by omega)] at h1
 show j < many c
 by_cases e : j = k
 ·omega
 ·have h2 : s.at j = true := by simpa [e] using h1
  rcases hs with hs | hs
  ·have h3 := n_pos h2
   have h4 := h.busy (by omega)
   omega
  ·rw [← hs]
   exact h.fits j (at_some h2)
theorem free_some {s : Slab} {k : Nat} (h : s.free = some k) : k < many s.cls ∧ s.at k = false ∧ ∀ j, j < k → s.at j = true := by
 unfold Slab.free at h
 rw [List.find?_range_eq_some] at h
 obtain ⟨h1, h2, h3⟩ := h
 exact ⟨List.mem_range.1 h2, by simpa using h1, fun j hj => by simpa using h3 j hj⟩
end Go.Proofs.FuPool
namespace Go.Proofs.FuTop
open Go.Proofs.FuClass Go.Proofs.FuBlock
structure Found where
 line : Nat
 good : Bool
 b : Block
def chunk (B : Nat → List UInt8) (line : Nat) (c : Int) : List UInt8 := (List.range (span c)).flatMap fun i => B (line + i)
def bad (line : Nat) (c k : Int) : Found := ⟨line, false, ⟨c, k, 0, 0, 0, [], []⟩⟩
def look (B : Nat → List UInt8) (line : Nat) (c k : Int) : Found := if home line c = true ∧ reads (chunk B line c) then ⟨line, true, parse (chunk B line c)⟩ else bad line c k
def scan1 (B : Nat → List UInt8) (line : Nat) : Option Found :=
 if isHead (B line) ∧ ((B line).getD 2 0).toNat ≠ 0 then some (look B line ((B line).getD 1 0).toNat ((B line).getD 2 0).toNat) else none
def foundTo (B : Nat → List UInt8) (n : Nat) : List Found := (List.range n).filterMap fun k => scan1 B (2 + k)
def sound (e : Nat) (x : Found) : Bool := x.good && decide (x.b.ep ≤ e)
def anti (e : Nat) (x : Found) : Bool := sound e x && decide (x.b.kind = 3)
def payload (e : Nat) (x : Found) : Bool := sound e x && !decide (x.b.kind = 3)
def newer (e : Nat) (x y : Found) : Bool := sound e y && decide (y.b.id = x.b.id) && (decide (x.b.ver < y.b.ver) || (payload e y && decide (y.b.ver = x.b.ver) && decide (y.line < x.line)))
def keeps (e : Nat) (F : List Found) (x : Found) : Bool := payload e x && !(F.any (newer e x))
def keptOf (e : Nat) (F : List Found) : List Found := F.filter (keeps e F)
theorem keptOf_again (e : Nat) (F : List Found) : keptOf e (keptOf e F) = keptOf e F := by
 unfold keptOf
 rw [List.filter_eq_self]
 intro x hx
 have hk := (List.mem_filter.1 hx).2
 unfold keeps at hk ⊢
 rw [Bool.and_eq_true, Bool.not_eq_true', List.any_eq_false] at hk ⊢
 exact ⟨hk.1, fun y hy => hk.2 y (List.mem_filter.1 hy).1⟩
theorem keeps_good {e : Nat} {F : List Found} {x : Found} (h : keeps e F x = true) : x.good = true := by
 unfold keeps payload sound at h
 simp only [Bool.and_eq_true] at h
 exact h.1.1.1
theorem scan1_line {B : Nat → List UInt8} {line : Nat} {x : Found} (h : scan1 B line = some x) : x.line = line ∧ isHead (B line) := by
 unfold scan1 at h
 split at h
 ·rename_i hh
  injection h with h
  subst h
  refine ⟨?_, hh.1⟩
  unfold look
  split <;> rfl
 ·cases h
theorem chunk_length {B : Nat → List UInt8} (hB : ∀ i, (B i).length = 64 ∨ B i = []) (line : Nat) : ∀ (n : Nat), ((List.range n).flatMap fun i => B (line + i)).length ≤ 64 * n ∧ (((List.range n).flatMap fun i => B (line + i)).length = 64 * n → ∀ i, i < n → (B (line + i)).length = 64)
 | 0 => ⟨by simp, fun _ i h => absurd h (Nat.not_lt_zero _)⟩
 | n + 1 => by
  obtain ⟨h1, h2⟩ := chunk_length hB line n
  rw [List.range_succ, List.flatMap_append, List.length_append, List.flatMap_singleton]
  have hb : (B (line + n)).length ≤ 64 := by
   rcases hB (line + n) with h | h
   ·omega
   ·rw [h]
    simp
  refine ⟨by omega, fun h i hi => ?_⟩
  by_cases e : i = n
  ·subst e
   omega
  ·exact h2 (by omega) i (by omega)
theorem chunk_part {B : Nat → List UInt8} {line : Nat} : ∀ {n : Nat}, (∀ i, i < n → (B (line + i)).length = 64) → ∀ i, i < n → (((List.range n).flatMap fun i => B (line + i)).drop (64 * i)).take 64 = B (line + i)
 | 0, _, _, h => absurd h (Nat.not_lt_zero _)
 | n + 1, hl, i, hi => by
  have hlen : ((List.range n).flatMap fun i => B (line + i)).length = 64 * n := by
   clear hi
   have : ∀ m, m ≤ n → ((List.range m).flatMap fun i => B (line + i)).length = 64 * m := by
    intro m
    induction m with
    | zero => intro _; rfl
    | succ m ih =>
     intro hm
     rw [List.range_succ, List.flatMap_append, List.length_append, List.flatMap_singleton, ih (by omega), hl m (by omega)]
     omega
   exact this n (Nat.le_refl _)
  rw [List.range_succ, List.flatMap_append, List.flatMap_singleton]
  by_cases e : i = n
  ·subst e
   rw [List.drop_append_of_le_length (by omega), List.drop_of_length_le (by omega), List.nil_append, List.take_of_length_le (by rw [hl i (by omega)]; exact Nat.le_refl _)]
  ·rw [List.drop_append_of_le_length (by omega), List.take_append_of_le_length (by rw [List.length_drop]; omega)]
   exact chunk_part (fun j hj => hl j (by omega)) i (by omega)
theorem reads_lines_of {B : Nat → List UInt8} (hB : ∀ i, (B i).length = 64 ∨ B i = []) {line : Nat} {c : Int} (hc : (((B line).getD 1 0).toNat : Int) = c) (h64 : (B line).length = 64) (h : reads (chunk B line c)) :
  (parse (chunk B line c)).cls = c ∧ (∀ i, i < span c → (B (line + i)).length = 64) ∧ ∀ i, i < span c → 0 < i → (B (line + i)).getD 0 0 = 2 := by
 have hs : 1 ≤ span c := by
  rcases Nat.eq_zero_or_pos (span c) with h0 | h0
  ·have := h.1
   unfold chunk at this
   rw [h0] at this
   simp at this
  ·exact h0
 have h1 : (chunk B line c).getD 1 0 = (B line).getD 1 0 := by
  unfold chunk
  obtain ⟨m, hm⟩ : ∃ m, span c = m + 1 := ⟨span c - 1, by omega⟩
  rw [hm, List.range_succ_eq_map, List.flatMap_cons, Nat.add_zero]
  simp only [List.getD]
  rw [List.getElem?_append_left (by omega)]
 have hcls : (parse (chunk B line c)).cls = c := by
  show ((((chunk B line c).getD 1 0).toNat : Nat) : Int) = c
  rw [h1, hc]
 have hlen : (chunk B line c).length = 64 * span c := by
  have := h.2.1
  rw [h1, hc] at this
  exact this
 have hall := (chunk_length hB line (span c)).2 hlen
 refine ⟨hcls, hall, fun i hi h0 => ?_⟩
 have he := h.2.2.2.2
 have := (line_at (b := parse (chunk B line c)) (j := i) (by rw [hcls]; exact hi)).2
 rw [he, if_neg (by omega)] at this
 rw [← this]
 unfold chunk
 rw [chunk_part hall i hi]
theorem scan1_good {B : Nat → List UInt8} (hB : ∀ i, (B i).length = 64 ∨ B i = []) {line : Nat} {x : Found} (h : scan1 B line = some x) (hg : x.good = true) :
  x.b.cls = ((B line).getD 1 0).toNat ∧ x.b = parse (chunk B line x.b.cls) ∧ home line x.b.cls = true ∧ reads (chunk B line x.b.cls) ∧ (∀ i, i < span x.b.cls → (B (line + i)).length = 64) ∧ ∀ i, i < span x.b.cls → 0 < i → (B (line + i)).getD 0 0 = 2 := by
 unfold scan1 at h
 split at h
 case isFalse => cases h
 rename_i hh
 injection h with h
 subst h
 unfold look at hg ⊢
 split at hg
 case isFalse => cases hg
 rename_i hr
 rw [if_pos hr]
 have := reads_lines_of hB rfl hh.1.1 hr.2
 refine ⟨this.1, ?_, ?_, ?_, ?_, ?_⟩
 ·show _ = parse (chunk B line (parse _).cls)
  rw [this.1]
 ·show home line (parse _).cls = true
  rw [this.1]
  exact hr.1
 ·show reads (chunk B line (parse _).cls)
  rw [this.1]
  exact hr.2
 ·show ∀ i, i < span (parse _).cls → _
  rw [this.1]
  exact this.2.1
 ·show ∀ i, i < span (parse _).cls → _
  rw [this.1]
  exact this.2.2
theorem mem_found {B : Nat → List UInt8} {n : Nat} {x : Found} (h : x ∈ foundTo B n) : scan1 B x.line = some x ∧ 2 ≤ x.line ∧ x.line < 2 + n := by
 unfold foundTo at h
 obtain ⟨k, hk, hx⟩ := List.mem_filterMap.1 h
 have hl := (scan1_line hx).1
 rw [List.mem_range] at hk
 rw [hl]
 exact ⟨hx, by omega, by omega⟩
theorem found_mem {B : Nat → List UInt8} {n line : Nat} {x : Found} (h : scan1 B line = some x) (h1 : 2 ≤ line) (h2 : line < 2 + n) : x ∈ foundTo B n := by
 unfold foundTo
 refine List.mem_filterMap.2 ⟨line - 2, List.mem_range.2 (by omega), ?_⟩
 rw [show 2 + (line - 2) = line by omega]
 exact h
theorem chunk_same {B B' : Nat → List UInt8} {line : Nat} {c : Int} (h : ∀ i, i < span c → B' (line + i) = B (line + i)) : chunk B' line c = chunk B line c := by
 unfold chunk
 rw [List.flatMap_def, List.flatMap_def]
 congr 1
 refine List.map_congr_left fun i hi => h i (List.mem_range.1 hi)
theorem filterMap_same {α β : Type} {f g : α → Option β} : ∀ {l : List α}, (∀ x ∈ l, f x = g x) → l.filterMap f = l.filterMap g
 | [], _ => rfl
 | x :: l, h => by
  rw [List.filterMap_cons, List.filterMap_cons, h x (by simp), filterMap_same fun y hy => h y (by simp [hy])]
theorem found_again {B B' : Nat → List UInt8} {n e : Nat} (hB : ∀ i, (B i).length = 64 ∨ B i = [])
  (h1 : ∀ x ∈ foundTo B n, keeps e (foundTo B n) x = false → (B' x.line).getD 2 0 = 0)
  (h2 : ∀ i, (∀ x ∈ foundTo B n, keeps e (foundTo B n) x = false → x.line ≠ i) → B' i = B i) :
  foundTo B' n = keptOf e (foundTo B n) ∧ ∀ x ∈ keptOf e (foundTo B n), chunk B' x.line x.b.cls = chunk B x.line x.b.cls := by
 have hch : ∀ x ∈ foundTo B n, keeps e (foundTo B n) x = true → ∀ i, i < span x.b.cls → B' (x.line + i) = B (x.line + i) := by
  intro x hx hk i hi
  obtain ⟨hs, _, _⟩ := mem_found hx
  obtain ⟨_, _, _, _, _, hin⟩ := scan1_good hB hs (keeps_good hk)
  refine h2 _ fun y hy hn he => ?_
  obtain ⟨hsy, _, _⟩ := mem_found hy
  rcases Nat.eq_zero_or_pos i with rfl | h0
  ·rw [Nat.add_zero] at he
   rw [he, hs] at hsy
   injection hsy with hsy
   rw [← hsy, hk] at hn
   cases hn
  ·have := hin i hi h0
   rw [← he] at this
   have hh := (scan1_line hsy).2.2.1
   rw [this] at hh
   exact absurd hh (by decide)
 have hcs : ∀ x ∈ foundTo B n, keeps e (foundTo B n) x = true → chunk B' x.line x.b.cls = chunk B x.line x.b.cls := fun x hx hk => chunk_same (hch x hx hk)
 refine ⟨?_, fun x hx => hcs x (List.mem_filter.1 hx).1 (List.mem_filter.1 hx).2⟩
 have hpt : ∀ k, k < n → scan1 B' (2 + k) = (scan1 B (2 + k)).filter (keeps e (foundTo B n)) := by
  intro k hk
  cases hs : scan1 B (2 + k) with
  | none =>
   have hb : B' (2 + k) = B (2 + k) := h2 _ fun y hy _ he => by
    have := (mem_found hy).1
    rw [he, hs] at this
    cases this
   unfold scan1 at hs ⊢
   rw [hb]
   split at hs
   ·cases hs
   ·rename_i hh
    rw [if_neg hh]
    rfl
  | some x =>
   have hx := found_mem (n := n) hs (by omega) (by omega)
   have hl := (scan1_line hs).1
   cases hkx : keeps e (foundTo B n) x with
   | true =>
    have hg := scan1_good hB hs (keeps_good hkx)
    have hb : B' (2 + k) = B (2 + k) := by
     have := hch x hx hkx 0 (by
      have := hg.2.2.2.1.2.1
      have h3 := hg.2.2.2.1.1
      rcases Nat.eq_zero_or_pos (span x.b.cls) with h0 | h0
      ·unfold chunk at h3
       rw [h0] at h3
       simp at h3
      ·exact h0)
     rw [Nat.add_zero, hl] at this
     exact this
    have hc := hcs x hx hkx
    rw [hl, hg.1] at hc
    rw [Option.filter_some, if_pos hkx, ← hs]
    unfold scan1 look
    rw [hb, hc]
   | false =>
    have h0 := h1 x hx hkx
    rw [hl] at h0
    rw [Option.filter_some, if_neg (by rw [hkx]; simp)]
    unfold scan1
    rw [h0, if_neg (by simp)]
 have : keptOf e (foundTo B n) = (List.range n).filterMap fun k => (scan1 B (2 + k)).filter (keeps e (foundTo B n)) := by
  unfold keptOf
  conv => lhs; unfold foundTo
  rw [List.filter_filterMap]
  rfl
 rw [this]
 unfold foundTo
 exact filterMap_same fun k hk => hpt k (List.mem_range.1 hk)
end Go.Proofs.FuTop
namespace Go.Proofs.FuGeom
open Go.Proofs.FuCrc Go.Proofs.FuCode
def zer (n : Nat) : List UInt8 := List.replicate n 0
def superHead (n : Nat) : List UInt8 := [4, 70, 85, 83, 69] ++ lay 4 n
def clockHead (v : Nat) : List UInt8 := [3] ++ lay 8 v
def sgn (h : List UInt8) : List UInt8 := h ++ lay 4 (crc h) ++ zer 51
def superL (n : Nat) : List UInt8 := sgn (superHead n)
def clockL (v : Nat) : List UInt8 := sgn (clockHead v)
theorem zer_length (n : Nat) : (zer n).length = n := by simp [zer]
theorem superHead_length (n : Nat) : (superHead n).length = 9 := by simp [superHead, lay_length]
theorem clockHead_length (n : Nat) : (clockHead n).length = 9 := by simp [clockHead, lay_length]
theorem sgn_length {h : List UInt8} (hl : h.length = 9) : (sgn h).length = 64 := by simp [sgn, hl, lay_length, zer_length]
theorem superL_length (n : Nat) : (superL n).length = 64 := sgn_length (superHead_length n)
theorem clockL_length (n : Nat) : (clockL n).length = 64 := sgn_length (clockHead_length n)
theorem sgn_take {h : List UInt8} (hl : h.length = 9) : (sgn h).take 9 = h := by
 unfold sgn
 rw [List.append_assoc, List.take_append_of_le_length (by omega), List.take_of_length_le (by omega)]
theorem over_sgn {h : List UInt8} (hl : h.length = 9) : over (h ++ zer 55) 9 (lay 4 (crc h)) = sgn h := by
 unfold over sgn
 rw [List.take_append_of_le_length (by omega), List.take_of_length_le (by omega), lay_length, List.drop_append, List.drop_eq_nil_of_le (by omega), hl]
 simp [zer]
theorem put_sgn {h : List UInt8} (hl : h.length = 9) : put (h ++ zer 55) 9 4 (crc h) = (sgn h, 0) := by
 have hc := crc_lt h
 have hw : wrong (h ++ zer 55).length 9 4 = 0 := by
  rw [List.length_append, hl, zer_length]
  decide
 unfold put
 rw [hw, if_neg (by omega), if_neg (by simp; omega)]
 simp [over_sgn hl]
theorem put_super (n : Nat) (h : n < 4294967296) : put [4, 70, 85, 83, 69, 0, 0, 0, 0] 5 4 n = (superHead n, 0) := by
 unfold put
 rw [show wrong ([4, 70, 85, 83, 69, 0, 0, 0, 0] : List UInt8).length 5 4 = 0 by decide, if_neg (by omega), if_neg (by simp; omega)]
 simp [over, superHead, lay_length]
theorem put_clock (v : Nat) (h : v < 18446744073709551616) : put [3, 0, 0, 0, 0, 0, 0, 0, 0] 1 8 v = (clockHead v, 0) := by
 unfold put
 rw [show wrong ([3, 0, 0, 0, 0, 0, 0, 0, 0] : List UInt8).length 1 8 = 0 by decide, if_neg (by omega), if_neg (by simp; omega)]
 simp [over, clockHead, lay_length]
def superNum (b : List UInt8) : Nat := num ((b.drop 5).take 4)
def clockNum (b : List UInt8) : Nat := num ((b.drop 1).take 8)
def isSuper (b : List UInt8) : Nat × Bool := if b.length = 64 ∧ 10 ≤ superNum b ∧ superNum b ≤ 258 ∧ b = superL (superNum b) then (superNum b, true) else (0, false)
def isClock (b : List UInt8) : Nat × Bool := if b.length = 64 ∧ b = clockL (clockNum b) then (clockNum b, true) else (0, false)
theorem superNum_lt (b : List UInt8) : superNum b < 4294967296 := by
 have h := num_lt ((b.drop 5).take 4)
 have h2 : ((b.drop 5).take 4).length ≤ 4 := by simp; omega
 have := Nat.pow_le_pow_right (n := 256) (by omega) h2
 unfold superNum
 omega
theorem clockNum_lt (b : List UInt8) : clockNum b < 18446744073709551616 := by
 have h := num_lt ((b.drop 1).take 8)
 have h2 : ((b.drop 1).take 8).length ≤ 8 := by simp; omega
 have := Nat.pow_le_pow_right (n := 256) (by omega) h2
 unfold clockNum
 omega
theorem isSuper_short {b : List UInt8} (h : b.length ≠ 64) : isSuper b = (0, false) := by
 unfold isSuper
 rw [if_neg]
 exact fun e => h e.1
theorem isClock_short {b : List UInt8} (h : b.length ≠ 64) : isClock b = (0, false) := by
 unfold isClock
 rw [if_neg]
 exact fun e => h e.1
end Go.Proofs.FuGeom
namespace Go.Proofs.FuTop
open Go.Proofs.FuClass Go.Proofs.FuBlock Go.Proofs.FuPool Go.Proofs.FuGeom
structure Link where
 key : List UInt8
 id : Nat
 ver : Nat
 line : Nat
 cls : Int
deriving DecidableEq
def ins (l : Link) : List Link → List Link
 | [] => [l]
 | y :: r => if bytesBefore l.key y.key = true then l :: y :: r else if l.key = y.key then l :: r else y :: ins l r
def hasKey (T : List Link) (k : List UInt8) : Bool := T.any fun x => decide (x.key = k)
structure Ar where
 pool : Pool
 tab : List Link
 line : List Link
 id : Nat
 ver : Nat
def linkOf (x : Found) : Link := ⟨x.b.key, x.b.id, x.b.ver, x.line, x.b.cls⟩
def over1 (A : Ar) (x : Found) : Option Ar :=
 if x.good = true ∧ may x.b = true ∧ (x.b.kind = 1 ∨ x.b.kind = 2) ∧ markA A.pool x.line x.b.cls = 0 then
  if x.b.kind = 2 then some ⟨markP A.pool x.line x.b.cls, A.tab, A.line ++ [linkOf x], max A.id x.b.id, max A.ver x.b.ver⟩
  else if hasKey A.tab x.b.key = true then none
  else some ⟨markP A.pool x.line x.b.cls, ins (linkOf x) A.tab, A.line, max A.id x.b.id, max A.ver x.b.ver⟩
 else none
def overAll (A : Ar) : List Found → Option Ar
 | [] => some A
 | x :: l => match over1 A x with | none => none | some A' => overAll A' l
def slabsN (n : Nat) : Nat := if n < 10 then 0 else (min n 258 - 2) / 8
def emptyA (n : Nat) : Ar := ⟨newPool (slabsN n), [], [], 0, 0⟩
def big (x : Found) : Bool := decide (1152921504606846976 < x.b.id) || decide (1152921504606846976 < x.b.ver)
def overOf (srt : List Link → List Link) (n : Nat) (l : List Found) : Option Ar :=
 if l.any big = true then none else (overAll (emptyA n) l).map fun A => { A with line := srt A.line }
theorem ins_mem {l k : Link} : ∀ {T : List Link}, k ∈ ins l T → k = l ∨ k ∈ T
 | [], h => by simpa [ins] using h
 | y :: r, h => by
  unfold ins at h
  split at h
  ·simpa using h
  ·split at h
   ·rcases List.mem_cons.1 h with h | h
    ·exact .inl h
    ·exact .inr (List.mem_cons_of_mem _ h)
   ·rcases List.mem_cons.1 h with h | h
    ·exact .inr (by rw [h]; simp)
    ·rcases ins_mem h with h | h
     ·exact .inl h
     ·exact .inr (List.mem_cons_of_mem _ h)
theorem over1_links {A A' : Ar} {x : Found} (h : over1 A x = some A') : ∀ k, k ∈ A'.tab ∨ k ∈ A'.line → (k ∈ A.tab ∨ k ∈ A.line) ∨ k = linkOf x := by
 unfold over1 at h
 split at h
 case isFalse => cases h
 split at h
 ·injection h with h
  subst h
  intro k hk
  rcases hk with hk | hk
  ·exact .inl (.inl hk)
  ·rcases List.mem_append.1 hk with hk | hk
   ·exact .inl (.inr hk)
   ·exact .inr (by simpa using hk)
 ·split at h
  ·cases h
  ·injection h with h
   subst h
   intro k hk
   rcases hk with hk | hk
   ·rcases ins_mem hk with hk | hk
    ·exact .inr hk
    ·exact .inl (.inl hk)
   ·exact .inl (.inr hk)
theorem overAll_links : ∀ {l : List Found} {A A' : Ar}, overAll A l = some A' → ∀ k, k ∈ A'.tab ∨ k ∈ A'.line → (k ∈ A.tab ∨ k ∈ A.line) ∨ ∃ x ∈ l, k = linkOf x
 | [], A, A', h, k, hk => by
  injection h with h
  subst h
  exact .inl hk
 | x :: l, A, A', h, k, hk => by
  unfold overAll at h
  cases h1 : over1 A x with
  | none => rw [h1] at h; cases h
  | some A1 =>
   rw [h1] at h
   rcases overAll_links h k hk with h2 | ⟨y, hy, h2⟩
   ·rcases over1_links h1 k h2 with h3 | h3
    ·exact .inl h3
    ·exact .inr ⟨x, by simp, h3⟩
   ·exact .inr ⟨y, by simp [hy], h2⟩
theorem overOf_links {srt : List Link → List Link} (hs : ∀ l k, k ∈ srt l → k ∈ l) {n : Nat} {l : List Found} {A : Ar} (h : overOf srt n l = some A) : ∀ k, k ∈ A.tab ∨ k ∈ A.line → ∃ x ∈ l, k = linkOf x := by
 unfold overOf at h
 split at h
 ·cases h
 ·cases h1 : overAll (emptyA n) l with
  | none => rw [h1] at h; cases h
  | some A1 =>
   rw [h1] at h
   injection h with h
   subst h
   intro k hk
   have hk' : k ∈ A1.tab ∨ k ∈ A1.line := hk.imp id (hs _ _)
   rcases overAll_links h1 k hk' with h2 | h2
   ·unfold emptyA at h2
    simp at h2
   ·exact h2
def valOf (B : Nat → List UInt8) (kind : Int) (k : Link) : Option (List UInt8) :=
 if reads (chunk B k.line k.cls) ∧ (parse (chunk B k.line k.cls)).kind = kind ∧ (parse (chunk B k.line k.cls)).id = k.id ∧ (parse (chunk B k.line k.cls)).ver = k.ver ∧ (parse (chunk B k.line k.cls)).key = k.key then some (parse (chunk B k.line k.cls)).val else none
structure Shelf where
 pairs : List (List UInt8 × List UInt8)
 queue : List (List UInt8)
def shelfOf (B : Nat → List UInt8) (T L : List Link) : Shelf := ⟨T.filterMap fun k => (valOf B 1 k).map fun v => (k.key, v), L.filterMap (valOf B 2)⟩
theorem valOf_same {B B' : Nat → List UInt8} {kind : Int} {k : Link} (h : chunk B' k.line k.cls = chunk B k.line k.cls) : valOf B' kind k = valOf B kind k := by
 unfold valOf
 rw [h]
theorem shelf_same {B B' : Nat → List UInt8} {T L : List Link} (h : ∀ k, k ∈ T ∨ k ∈ L → chunk B' k.line k.cls = chunk B k.line k.cls) : shelfOf B' T L = shelfOf B T L := by
 unfold shelfOf
 rw [filterMap_same (fun k hk => by rw [valOf_same (h k (.inl hk))]), filterMap_same fun k hk => valOf_same (h k (.inr hk))]
def openB (n : Nat) (B : Nat → List UInt8) : Nat × Nat :=
 if (isSuper (B 0)).2 = true ∧ (isSuper (B 0)).1 = n ∧ (isClock (B 1)).2 = true then
  if 1152921504606846976 < (isClock (B 1)).1 then (0, 10) else ((isClock (B 1)).1, 0)
 else (0, 3)
def revives (srt : List Link → List Link) (n : Nat) (B : Nat → List UInt8) : Option (Nat × List Found × Ar) :=
 if (openB n B).2 ≠ 0 then none else
 (overOf srt n (keptOf (openB n B).1 (foundTo B (8 * slabsN n)))).map fun A => ((openB n B).1, foundTo B (8 * slabsN n), A)
theorem revives_again {srt : List Link → List Link} (hs : ∀ l k, k ∈ srt l → k ∈ l) {n e : Nat} {B B' : Nat → List UInt8} {F : List Found} {A : Ar} (h : revives srt n B = some (e, F, A)) (hB : ∀ i, (B i).length = 64 ∨ B i = [])
  (h1 : ∀ x ∈ F, keeps e F x = false → (B' x.line).getD 2 0 = 0) (h2 : ∀ i, (∀ x ∈ F, keeps e F x = false → x.line ≠ i) → B' i = B i) :
  revives srt n B' = some (e, keptOf e F, A) ∧ shelfOf B' A.tab A.line = shelfOf B A.tab A.line := by
 unfold revives at h
 split at h
 case isTrue => cases h
 rename_i h0
 cases hov : overOf srt n (keptOf (openB n B).1 (foundTo B (8 * slabsN n))) with
 | none => rw [hov] at h; cases h
 | some A1 =>
  rw [hov] at h
  simp only [Option.map_some, Option.some.injEq, Prod.mk.injEq] at h
  obtain ⟨rfl, rfl, rfl⟩ := h
  obtain ⟨hf, hc⟩ := found_again hB h1 h2
  have hl : ∀ i, i < 2 → B' i = B i := fun i hi => h2 i fun x hx _ he => by
   have := (mem_found hx).2.1
   omega
  have ho : openB n B' = openB n B := by
   unfold openB
   rw [hl 0 (by omega), hl 1 (by omega)]
  refine ⟨?_, shelf_same fun k hk => ?_⟩
  ·unfold revives
   rw [ho, if_neg h0, hf, keptOf_again, hov]
   rfl
  ·obtain ⟨x, hx, rfl⟩ := overOf_links hs hov k hk
   exact hc x hx
end Go.Proofs.FuTop
namespace Go.Proofs.FuTop
open Go.RowKit Go.Proofs.FuMem
def Rising (T : List Link) : Prop := T.Pairwise fun a b => bytesBefore a.key b.key = true
theorem before_ne {a b : List UInt8} (h : bytesBefore a b = true) : a ≠ b := fun e => by
 rw [e, WideAt.bytes_irrefl] at h
 cases h
theorem ins_cons (l y : Link) (r : List Link) : ins l (y :: r) = if bytesBefore l.key y.key = true then l :: y :: r else if l.key = y.key then l :: r else y :: ins l r := rfl
theorem ins_rising {l : Link} : ∀ {T : List Link}, Rising T → Rising (ins l T)
 | [], _ => by unfold ins Rising; simp
 | y :: r, h => by
  obtain ⟨h1, h2⟩ := List.pairwise_cons.1 h
  unfold ins
  split
  ·rename_i hb
   refine List.pairwise_cons.2 ⟨fun q hq => ?_, h⟩
   rcases List.mem_cons.1 hq with rfl | hq
   ·exact hb
   ·exact WideShapes.bytes_trans _ _ _ hb (h1 q hq)
  ·rename_i hb
   split
   ·rename_i he
    exact List.pairwise_cons.2 ⟨fun q hq => by rw [he]; exact h1 q hq, h2⟩
   ·rename_i he
    refine List.pairwise_cons.2 ⟨fun q hq => ?_, ins_rising h2⟩
    rcases ins_mem hq with rfl | hq
    ·rcases WideAt.bytes_total _ _ he with h3 | h3
     ·exact absurd h3 hb
     ·exact h3
    ·exact h1 q hq
theorem rising_filter {T : List Link} (h : Rising T) (p : Link → Bool) : Rising (T.filter p) := List.Pairwise.filter p h
theorem ins_filter {l : Link} {p : Link → Bool} (hp : ∀ a b : Link, a.key = b.key → p a = p b) : ∀ {T : List Link}, Rising T → (ins l T).filter p = if p l = true then ins l (T.filter p) else T.filter p
 | [], _ => by
  show [l].filter p = if p l = true then [l] else []
  by_cases h : p l = true
  ·simp [h]
  ·simp [h]
 | y :: r, h => by
  obtain ⟨h1, h2⟩ := List.pairwise_cons.1 h
  rw [ins_cons]
  split
  ·rename_i hb
   by_cases hl : p l = true
   ·rw [if_pos hl, List.filter_cons_of_pos hl]
    have : ∀ {L : List Link}, (∀ q ∈ L, bytesBefore l.key q.key = true) → ins l L = l :: L := by
     intro L hL
     cases L with
     | nil => rfl
     | cons z L => rw [ins_cons, if_pos (hL z (by simp))]
    refine (this fun q hq => ?_).symm
    rcases List.mem_cons.1 (List.mem_filter.1 hq).1 with rfl | hq
    ·exact hb
    ·exact WideShapes.bytes_trans _ _ _ hb (h1 q hq)
   ·rw [if_neg hl, List.filter_cons_of_neg hl]
  ·rename_i hb
   split
   ·rename_i he
    have hpe := hp l y he
    by_cases hl : p l = true
    ·rw [if_pos hl, List.filter_cons_of_pos hl, List.filter_cons_of_pos (by rw [← hpe]; exact hl)]
     rw [ins_cons, if_neg hb, if_pos he]
    ·rw [if_neg hl, List.filter_cons_of_neg hl, List.filter_cons_of_neg (by rw [← hpe]; exact hl)]
   ·rename_i he
    have ih := ins_filter (l := l) hp h2
    by_cases hy : p y = true
    ·rw [List.filter_cons_of_pos hy, List.filter_cons_of_pos hy, ih]
     by_cases hl : p l = true
     ·rw [if_pos hl, if_pos hl]
      rw [ins_cons, if_neg hb, if_neg he]
     ·rw [if_neg hl, if_neg hl]
    ·rw [List.filter_cons_of_neg hy, List.filter_cons_of_neg hy, ih]
theorem ins_length (l : Link) : ∀ T : List Link, (ins l T).length ≤ T.length + 1
 | [] => by simp [ins]
 | y :: r => by
  unfold ins
  split
  ·simp
  ·split
   ·simp
   ·have := ins_length l r
    simp only [List.length_cons]
    omega
def noLink : Link := ⟨[], 0, 0, 0, 0⟩
def getL (T : List Link) (k : List UInt8) : Link := (T.find? fun x => decide (x.key = k)).getD noLink
/-! ### as values -/
def linkC (l : Link) : List Value := [.string ⟨l.key.toArray⟩, .int .u64 l.id, .int .u64 l.ver, .int .i64 l.line, .int .i64 l.cls]
def linkV (l : Link) : Value := .agg (linkC l).toArray
def unCells : List Value → Option Link
 | [.string s, .int .u64 id, .int .u64 ver, .int .i64 line, .int .i64 cls] => if 0 ≤ id ∧ 0 ≤ ver ∧ 0 ≤ line then some ⟨s.data.toList, id.toNat, ver.toNat, line.toNat, cls⟩ else none
 | _ => none
theorem unCells_mk (l : Link) : unCells (linkC l) = some l := by
 unfold linkC unCells
 simp only []
 rw [if_pos ⟨Int.natCast_nonneg _, Int.natCast_nonneg _, Int.natCast_nonneg _⟩]
 simp
theorem unCells_inv {c : List Value} {l : Link} (h : unCells c = some l) : c = linkC l := by
 unfold unCells at h
 split at h
 ·split at h
  ·rename_i hc
   injection h with h
   subst h
   unfold linkC
   simp only [Int.toNat_of_nonneg hc.1, Int.toNat_of_nonneg hc.2.1, Int.toNat_of_nonneg hc.2.2]
  ·cases h
 ·cases h
def unLink : Value → Option Link
 | .agg cs => unCells cs.toList
 | _ => none
theorem unLink_mk (l : Link) : unLink (linkV l) = some l := unCells_mk l
theorem unLink_inv {v : Value} {l : Link} (h : unLink v = some l) : v = linkV l := by
 unfold unLink at h
 split at h
 ·unfold linkV
  rw [← unCells_inv h]
 ·cases h
def linkR (v : Value) : Option (DataW Link × List MemPlace) := (unLink v).map fun l => (.held l, [])
theorem linkR_mk (l : Link) : linkR (linkV l) = some (.held l, []) := by unfold linkR; rw [unLink_mk]; rfl
theorem linkR_inv {v : Value} {y : DataW Link × List MemPlace} (h : linkR v = some y) : ∃ l, v = linkV l ∧ y = (.held l, []) := by
 unfold linkR at h
 cases hu : unLink v with
 | none => rw [hu] at h; cases h
 | some l =>
  rw [hu] at h
  injection h with h
  exact ⟨l, unLink_inv hu, h.symm⟩
def entriesOf (T : List Link) : List (Lit × DataW Link) := T.map fun l => (.string l.key, .held l)
theorem linkC_len (l : Link) : (linkC l).length = 5 := rfl
theorem linkC_one (l : Link) : ∀ v ∈ linkC l, v.oneCell' = true := by
 intro v hv
 unfold linkC at hv
 simp only [List.mem_cons, List.not_mem_nil, or_false] at hv
 rcases hv with rfl | rfl | rfl | rfl | rfl <;> rfl
theorem atKey_entries (T : List Link) (k : List UInt8) : (DataW.map (entriesOf T)).atKey (.string k) (.held noLink) = .held (getL T k) := by
 unfold DataW.atKey getL entriesOf
 simp only []
 induction T with
 | nil => rfl
 | cons y r ih =>
  rw [List.map_cons, List.find?_cons, List.find?_cons]
  by_cases h : y.key = k
  ·have e1 : Lit.sameKey (.string y.key) (.string k) = true := by simp [Lit.sameKey, h]
   rw [e1, decide_eq_true h]
   rfl
  ·have e1 : Lit.sameKey (.string y.key) (.string k) = false := by simp [Lit.sameKey, h]
   rw [e1, decide_eq_false h]
   exact ih
theorem has_entries (T : List Link) (k : List UInt8) : Maps.has (DataW.map (entriesOf T)) (.string k) = hasKey T k := by
 unfold Maps.has hasKey entriesOf
 simp only [List.any_map]
 congr 1
 funext x
 show (x.key == k) = decide (x.key = k)
 rw [Bool.beq_eq_decide_eq]
theorem put_entries {l : Link} : ∀ {T : List Link}, Rising T → (DataW.map (entriesOf T)).put (.string l.key) (.held l) = .map (entriesOf (ins l T)) := by
 intro T h
 unfold DataW.put
 simp only []
 congr 1
 have hall : ∀ {L : List Link}, (∀ q ∈ L, bytesBefore l.key q.key = true) → (entriesOf L).filter (fun p => !p.1.sameKey (.string l.key)) = entriesOf L := by
  intro L hL
  rw [List.filter_eq_self]
  intro p hp
  obtain ⟨q, hq, rfl⟩ := List.mem_map.1 hp
  have := before_ne (hL q hq)
  simp [Lit.sameKey]
  exact fun e => this e.symm
 have hins : ∀ {L : List Link}, (∀ q ∈ L, bytesBefore l.key q.key = true) → DataW.insert (Lit.string l.key, DataW.held l) (entriesOf L) = (.string l.key, .held l) :: entriesOf L := by
  intro L hL
  cases L with
  | nil => rfl
  | cons z L =>
   unfold entriesOf
   rw [List.map_cons]
   unfold DataW.insert
   rw [if_pos (show Lit.before (.string l.key) (.string z.key) = true from hL z (by simp))]
 induction T with
 | nil => rfl
 | cons y r ih =>
  obtain ⟨h1, h2⟩ := List.pairwise_cons.1 h
  unfold ins
  split
  ·rename_i hb
   have : ∀ q ∈ y :: r, bytesBefore l.key q.key = true := fun q hq => by
    rcases List.mem_cons.1 hq with rfl | hq
    ·exact hb
    ·exact WideShapes.bytes_trans _ _ _ hb (h1 q hq)
   rw [hall this, hins this]
   rfl
  ·rename_i hb
   split
   ·rename_i he
    have : ∀ q ∈ r, bytesBefore l.key q.key = true := fun q hq => by rw [he]; exact h1 q hq
    have e1 : (entriesOf (y :: r)).filter (fun p => !p.1.sameKey (.string l.key)) = (entriesOf r).filter fun p => !p.1.sameKey (.string l.key) := by
     unfold entriesOf
     rw [List.map_cons, List.filter_cons_of_neg (by simp [Lit.sameKey, he])]
    rw [e1, hall this, hins this]
    rfl
   ·rename_i he
    have e1 : (entriesOf (y :: r)).filter (fun p => !p.1.sameKey (.string l.key)) = (.string y.key, .held y) :: (entriesOf r).filter fun p => !p.1.sameKey (.string l.key) := by
     unfold entriesOf
     rw [List.map_cons, List.filter_cons_of_pos (by simp [Lit.sameKey]; exact fun e => he e.symm)]
    rw [e1]
    conv => lhs; unfold DataW.insert
    rw [if_neg (show ¬ Lit.before (.string l.key) (.string y.key) = true from hb), ih h2]
    rfl
end Go.Proofs.FuTop